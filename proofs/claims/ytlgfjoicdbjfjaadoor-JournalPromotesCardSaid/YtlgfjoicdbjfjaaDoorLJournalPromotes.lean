/- The law JournalPromotes returns true for every number and text. Conditions: the number and the length fit an int. -/
import Derived.Test.YtlgfjoicdbjfjaaDoorJrnV
import Derived.Deep.RegionHeld3
namespace Go.Proofs.YtlgfjoicdbjfjaaDoor
open Go.RowKit Go.Wir Go.Blk Go.Frm Go.Jrn
attribute [local go_sem] Oper.semAt_some

def fnd (D : List Txt) (t : Txt) (k : Nat) : Bool := (List.range k).any fun i => decide (2 ≤ i) && decide (D.getD i [] = t)
theorem fnd_succ (D : List Txt) (t : Txt) (k : Nat) (h : 2 ≤ k) : fnd D t (k + 1) = (fnd D t k || decide (D.getD k [] = t)) := by
  unfold fnd
  rw [List.range_succ, List.any_append, List.any_cons, List.any_nil, Bool.or_false, decide_eq_true h, Bool.true_and]
theorem fnd_two (D : List Txt) (t : Txt) : fnd D t 2 = false := rfl
theorem fnd_all {D : List Txt} {t : Txt} (h : ∃ i, 2 ≤ i ∧ i < 52 ∧ D.getD i [] = t) : fnd D t 52 = true := by
  obtain ⟨i, h1, h2, h3⟩ := h
  unfold fnd
  rw [List.any_eq_true]
  exact ⟨i, List.mem_range.2 h2, by rw [decide_eq_true h1, decide_eq_true h3]; rfl⟩
set_option maxRecDepth 100000 in
set_option maxHeartbeats 6400000 in
theorem core_JournalPromotes (n : Int) (s : Txt) (h1 : -9223372036854775808 ≤ n) (h2 : n ≤ 9223372036854775807) (hs : s.length ≤ 9223372036854775807) (w : World) :
    Calls Tryd.prog 7 #[.int .i64 n, .string (B s)] w fun e w' => e = .returned (.bool true) ∧ Below w.heap.size w w' := by
  have Hsh := Lib.hid (law_shown4 w)
  by_cases hlen : 600 < s.length
  · have hlz : (600 : Int) < ((B s).size : Int) := by rw [size_B]; omega
    have hcz := Lib.hid (show (B s).size ≤ 9223372036854775807 by rw [size_B]; exact hs)
    go_enter Tryd.func7, Tryd.ntmps7
    go_wp2_with fail
    refine Hsh.out.mono ?_
    rintro e w1 ⟨rfl, hb⟩
    have HB := Lib.hid hb
    clear hb
    go_wp2
    go_ret
    exact ⟨rfl, HB.out⟩
  have hlz : ¬ (600 : Int) < ((B s).size : Int) := by rw [size_B]; omega
  have hpk : pickJ n 18 < 18 := pickJ_lt n 18 (by omega)
  have HF := Lib.hid (fun w => law_fine n s h1 h2 (by omega) w)
  have hdl := dataJ_length s
  have HT := Lib.hid hdl
  generalize hpb : 52 + pickJ n 18 = b at *
  have hb1 : 52 ≤ b := by omega
  have hb2 : b < 70 := by omega
  generalize dataJ s = t at *
  clear hpk hpb hdl
  go_enter Tryd.func7, Tryd.ntmps7
  go_wp2_with fail
  refine Hsh.out.mono ?_
  rintro e w1 ⟨rfl, hbw1⟩
  have HBg := Lib.hid (law_begin w w1 hbw1)
  clear hbw1
  go_wp2_with fail
  refine HBg.out.mono ?_
  rintro e w2 ⟨g, od, d, jb, j, wb, rfl, lw2, hrd, hfu, hpd⟩
  obtain ⟨d2, j2, d6, j6, q1, q2, q3, q4, q5, q6, q7, q8, q9, q10, q11, q12, q13, q14, q15, q16, q17, q18, q19⟩ := promotes_plain hrd hfu b t hb1 hb2 HT.out
  have L2 := Lib.hid lw2
  have Q0 := Lib.hid hrd.ok
  have Q0j := Lib.hid hrd.toUp.fit
  have Q0p : Hid (d.pend.length ≤ 5000) := Lib.hid (by rw [hpd]; exact Nat.zero_le _)
  have Q1 := Lib.hid q1
  have Q2 := Lib.hid q2
  have Q3 := Lib.hid q3
  have Q4 := Lib.hid q4
  have Q5 := Lib.hid q5
  have Q6 := Lib.hid q6
  have Q7 := Lib.hid q7
  have Q8 := Lib.hid q8
  have Q9 := Lib.hid q9
  have Q10 := Lib.hid q10
  have Q11 := Lib.hid q11
  have Q12 := Lib.hid q12
  have Q13 := Lib.hid q13
  have Q14 := Lib.hid q14
  have Q15 := Lib.hid q15
  have Q16 := Lib.hid q16
  have Q17 := Lib.hid q17
  have Q18 := Lib.hid q18
  have Q19 := Lib.hid q19
  clear hrd hfu hpd q1 q2 q3 q4 q5 q6 q7 q8 q9 q10 q11 q12 q13 q14 q15 q16 q17 q18 q19 lw2
  go_wp2_with fail
  refine (HF.out _).mono ?_
  rintro e w3 ⟨rfl, hb3⟩
  obtain ⟨l3, _⟩ := L2.out.call hb3
  have L3 := Lib.hid l3
  clear hb3 l3
  go_upto_region 8 with fail
  have g4 := heap_alloc_new w3 (.cells #[.int .i64 (b : Int), .string (B t)] 47)
  have l4 := L3.out.more (step_new (Below.refl w3.heap.size w3) (.cells #[.int .i64 (b : Int), .string (B t)] 47)) (.slice (some ⟨w3.heap.size, 0, none⟩) 1 1) (fun k hk => by simp only [Value.ownBlock, Option.some.injEq] at hk; subst hk; exact ⟨Nat.le_refl _, by simp⟩)
  generalize w3.alloc (.cells #[.int .i64 (b : Int), .string (B t)] 47) = w4 at *
  generalize w3.heap.size = fb at *
  have L4 := Lib.hid l4
  have G4 := Lib.hid g4
  obtain ⟨a0, a1, a2⟩ := l4.cells
  obtain ⟨b0, b1⟩ := kept_write g4
  have HCm := Lib.hid (w_commit1 (K := 2) (l4.drew 1).1 Q0.out Q0j.out (by omega) Q0p.out (b : Int) t (by omega) (by omega) (by have := HT.out; omega) 47)
  rw [Q1.out] at HCm
  have HCm : Hid (Calls Tryd.prog 14 #[.pointer (some ⟨jb, 0, none⟩), .slice (some ⟨w4.heap.size, 0, none⟩) 1 1] (w4.alloc (.cells #[.int .i64 (b : Int), .string (B t)] 47)).drew fun e w' => e = .returned (.int .i64 ((0 : Nat) : Int)) ∧ LiveW w w' g od d2 jb j2 wb _ ∧ Keeps _ (w4.drewN 1) w') := HCm
  clear l4 g4
  go_region_held3 (fun w' => w'.cell? ⟨wb, 1, none⟩ = some (.pointer (some ⟨jb, 0, none⟩)) ∧ w'.cell? ⟨fb, 0, none⟩ = some (.int .i64 (b : Int)) ∧ w'.cell? ⟨fb, 1, none⟩ = some (.string (B t)))
    (first | with_reducible exact s3_drew a1 b0 b1 | with_reducible exact s3_drew (cell_alloc _ a1) (cell_alloc _ b0) (cell_alloc _ b1) | with_reducible exact s3_new (by assumption) _ | with_reducible assumption | with_reducible exact S5.out | fail)
    (first | (go_at_call 14; go_must (refine HCm.out.mono ?_); rintro e w5 ⟨rfl, l5, k5⟩; have G5 := Lib.hid ((k5 fb (.inr rfl)).trans G4.out); have L5 := Lib.hid l5; have S5 := Lib.hid (⟨l5.cells.2.1, kept_write G5.out⟩ : w5.cell? ⟨wb, 1, none⟩ = some (.pointer (some ⟨jb, 0, none⟩)) ∧ w5.cell? ⟨fb, 0, none⟩ = some (.int .i64 (b : Int)) ∧ w5.cell? ⟨fb, 1, none⟩ = some (.string (B t)))) | fail)
  obtain ⟨i0, i1, i2⟩ := S5.out
  have k0 := L5.out.jcells
  obtain ⟨p0, _, _⟩ := L5.out.cells
  have HRd : Hid (Calls Tryd.prog 25 #[.pointer (some ⟨g, 0, none⟩), .int .i64 (b : Int)] w5.drew fun e w' => e = .returned (.tuple #[.string (B t), .int .i64 ((0 : Nat) : Int)]) ∧ Below w5.drew.heap.size w5.drew w') := Lib.hid (by
    have h := live_ReadB (L5.out.drew 1).1.jr.live Q2.out (by have := Q4.out; omega) (b : Int) (by omega) (by omega)
    rw [Q6.out, Q7.out] at h
    exact h)
  have i0d : w5.drew.cell? ⟨wb, 1, none⟩ = some (.pointer (some ⟨jb, 0, none⟩)) := i0
  have k0d : w5.drew.cell? ⟨jb, 0, none⟩ = some (.pointer (some ⟨g, 0, none⟩)) := k0
  have i1d : w5.drew.cell? ⟨fb, 0, none⟩ = some (.int .i64 (b : Int)) := i1
  go_wp2
  go_region_held3 (fun w' => w'.cell? ⟨wb, 1, none⟩ = some (.pointer (some ⟨jb, 0, none⟩)) ∧ w'.cell? ⟨jb, 0, none⟩ = some (.pointer (some ⟨g, 0, none⟩)) ∧ w'.cell? ⟨fb, 0, none⟩ = some (.int .i64 (b : Int)))
    (first | with_reducible exact r3_drew i0 k0 i1 | with_reducible exact r3_call hb6 i0d k0d i1d | with_reducible assumption | fail)
    (first | (go_at_call 25; go_must (refine HRd.out.mono ?_); rintro e w6 ⟨rfl, hb6⟩; have L6 := Lib.hid ((L5.out.drew 1).1.call hb6).1; have B6 := Lib.hid hb6) | fail)
  have f0 := cell_call B6.out i1d
  have f1 : w6.cell? ⟨fb, 1, none⟩ = some (.string (B t)) := cell_call B6.out (show w5.drew.cell? ⟨fb, 1, none⟩ = some (.string (B t)) from i2)
  obtain ⟨n0, n1, _⟩ := L6.out.cells
  have HRe : Hid (Calls Tryd.prog 25 #[.pointer (some ⟨g, 0, none⟩), .int .i64 (b : Int)] w6.drew fun e w' => e = .returned (.tuple #[.string (B t), .int .i64 ((0 : Nat) : Int)]) ∧ Below w6.drew.heap.size w6.drew w') := Lib.hid (by
    have h := live_ReadB (L6.out.drew 1).1.jr.live Q2.out (by have := Q4.out; omega) (b : Int) (by omega) (by omega)
    rw [Q6.out, Q7.out] at h
    exact h)
  have n0d : w6.drew.cell? ⟨wb, 0, none⟩ = some (.pointer (some ⟨g, 0, none⟩)) := n0
  have f0d : w6.drew.cell? ⟨fb, 0, none⟩ = some (.int .i64 (b : Int)) := f0
  have f1d : w6.drew.cell? ⟨fb, 1, none⟩ = some (.string (B t)) := f1
  have F1d := Lib.hid f1d
  clear i0 i1 i2 i0d k0 k0d i1d p0 f1 f1d hb6
  go_wp2
  go_region_held3 (fun w' => w'.cell? ⟨wb, 0, none⟩ = some (.pointer (some ⟨g, 0, none⟩)) ∧ w'.cell? ⟨fb, 0, none⟩ = some (.int .i64 (b : Int)))
    (first | with_reducible exact r2_drew n0 f0 | with_reducible exact r2_call hb7 n0d f0d | with_reducible assumption | fail)
    (first | (go_at_call 25; go_must (refine HRe.out.mono ?_); rintro e w7 ⟨rfl, hb7⟩; have L7 := Lib.hid ((L6.out.drew 1).1.call hb7).1; have B7 := Lib.hid hb7) | fail)
  have g1 := cell_call B7.out F1d.out
  have g0 := cell_call B7.out f0d
  have k7 := L7.out.jcells
  obtain ⟨m0, m1, _⟩ := L7.out.cells
  have HBl := Lib.hid (live_Blocks L7.out.jr.live)
  rw [Q5.out] at HBl
  have HDd := Lib.hid (live_Dead L7.out.jr.live)
  rw [Q3.out] at HDd
  have et : ((B t).toList != (B t).toList) = false := by simp
  clear n0 n0d f0 f0d hb7
  go_wp2_with (first
    | (go_at_call 26; refine HBl.out.mono ?_; rintro e wq ⟨rfl, rfl⟩)
    | (go_at_call 27; refine HDd.out.mono ?_; rintro e wq ⟨rfl, rfl⟩)
    | fail)
  have HDk := Lib.hid (live_Disk L7.out.jr.live (by rw [Q5.out]; omega))
  rw [Q5.out] at HDk
  refine HDk.out.mono ?_
  rintro e w8 ⟨vd, rfl, own8, l8, k8⟩
  have L8 := (LiveW.dev L7.out (l8.less (fun k hk => .inl hk)) k8).1
  have g8 := (k8 fb (.inl (.inl (.inr rfl))))
  obtain ⟨ad, cd, rfl⟩ := own_form own8
  have HL8 := Lib.hid L8
  have f8 : w8.cell? ⟨fb, 1, none⟩ = some (.string (B t)) := (World.cell?_of_block (a := ⟨fb, 1, none⟩) g8).trans g1
  have Own8 := Lib.hid own8
  have F80 := Lib.hid ((World.cell?_of_block (a := ⟨fb, 0, none⟩) g8).trans g0)
  clear l8 k8 L8 g8 own8 g1 g0 k7 m0 m1
  have HcD : Hid (∃ gd, ad = some ⟨gd, 0, none⟩ ∧ 70 ≤ cd ∧ ∀ i, i < 70 → w8.cell? ⟨gd, i, none⟩ = some (.string (B (d2.disk.getD i [])))) := Lib.hid (by
    have h := Own8.out
    rw [← Q5.out] at h
    obtain ⟨gd, capd, _, hvd, _, hcd, _, _, hcell, _⟩ := own_txt h (by rw [Q5.out]; omega)
    simp only [Value.slice.injEq, true_and] at hvd
    obtain ⟨rfl, rfl⟩ := hvd
    refine ⟨gd, rfl, by rw [← Q5.out]; exact hcd, fun i hi => ?_⟩
    rw [List.getD_eq_getElem?_getD, List.getElem?_eq_getElem (by rw [Q5.out]; exact hi)]
    exact hcell i (by rw [Q5.out]; exact hi))
  obtain ⟨gd, rfl, hcd, hcD⟩ := HcD.out
  have Hcell := Lib.hid hcD
  have Hfs := Lib.hid (fnd_succ d2.disk t)
  have Hf2 := Lib.hid (fnd_two d2.disk t)
  have Hfa := Lib.hid (fnd_all Q8.out)
  have F8 := Lib.hid f8
  clear hcD HcD f8
  go_wp2
  go_loopw [16, 15] (fun x16 x15 wr => ∃ k : Nat, 2 ≤ k ∧ k ≤ 52 ∧ x16 = .int .i64 k ∧ x15 = .bool (fnd d2.disk t k) ∧ Below w8.heap.size w8 wr) (fun x16 _ _ => 52 - (intOf x16).toNat)
  case atStart => exact ⟨2, by omega, by omega, rfl, by rw [Hf2.out], Below.refl _ _⟩
  case round =>
    obtain ⟨k, hk2, hk, rfl, rfl, hbel⟩ := hrel
    have c8 := cell_call hbel F8.out
    have Hbel := Lib.hid hbel
    by_cases hlt : k < 52
    · have d8 := cell_call hbel (Hcell.out k (by omega))
      have hs := Hfs.out k hk2
      have Hs := Lib.hid hs
      have hki : (k : Int) < 52 := by omega
      have hki7 : (k : Int) < 70 := by omega
      clear hs hbel
      generalize d2.disk.getD k [] = x at *
      cases hf : fnd d2.disk t k with
      | true =>
        rw [hf, Bool.true_or] at Hs
        clear hf
        go_wp2
        go_quiet (fail)
        go_wp2
        go_roundw
        case rel => exact ⟨k + 1, by omega, by omega, by go_num, by rw [Hs.out], below_drewN Hbel.out _⟩
        case measure => simp [intOf]; omega
      | false =>
        rw [hf, Bool.false_or] at Hs
        clear hf
        by_cases hx : x = t
        · rw [decide_eq_true hx] at Hs
          have ex : ((B x).toList == (B t).toList) = true := by rw [hx]; simp
          clear hx
          go_wp2
          go_quiet (fail)
          go_wp2
          go_roundw
          case rel => exact ⟨k + 1, by omega, by omega, by go_num, by rw [Hs.out], below_drewN Hbel.out _⟩
          case measure => simp [intOf]; omega
        · rw [decide_eq_false hx] at Hs
          have ex : ((B x).toList == (B t).toList) = false := by rw [toList_B, toList_B, beq_eq_false_iff_ne]; exact hx
          clear hx
          go_wp2
          go_quiet (fail)
          go_wp2
          go_roundw
          case rel => exact ⟨k + 1, by omega, by omega, by go_num, by rw [Hs.out], below_drewN Hbel.out _⟩
          case measure => simp [intOf]; omega
    · obtain rfl : k = 52 := by omega
      rw [Hfa.out]
      obtain ⟨lr, _⟩ := HL8.out.call hbel
      obtain ⟨m0, m1, _⟩ := lr.cells
      have m2 := lr.jcells
      have gr := hbel.block fb (lt_of_cell F8.out)
      have gr2 : wr.heap[fb]? = w8.heap[fb]? := gr
      have Lr := Lib.hid lr
      have HFu := Lib.hid (live_Fuse lr.jr.live 0)
      have Hok9 := Lib.hid (fuse_ok Q2.out 0 (by omega))
      have Hpe9 : Hid ((fuseD d2 0).pend.length ≤ 100000) := Lib.hid (by have := Q4.out; show d2.pend.length ≤ _; omega)
      clear lr gr hbel
      generalize fuseD d2 0 = d3 at *
      go_wp2_with fail
      refine HFu.out.mono ?_
      rintro e w9 ⟨rfl, l9, k9⟩
      obtain ⟨L9, K9⟩ := Lr.out.dev l9 k9
      have G9 := Lib.hid ((K9 fb (.inr rfl)).trans gr2)
      obtain ⟨m0, m1, _⟩ := L9.cells
      have m2 := L9.jcells
      have HL9 := Lib.hid L9
      have HFl := Lib.hid (live_Flush L9.jr.live Hok9.out Hpe9.out)
      rw [Q9.out] at HFl
      clear l9 k9 L9 K9 gr2
      generalize flushD d3 = d5 at *
      go_wp2_with fail
      refine HFl.out.mono ?_
      rintro e w10 ⟨rfl, l10, k10⟩
      obtain ⟨L10, K10⟩ := HL9.out.dev l10 k10
      have G10 := Lib.hid ((K10 fb (.inr rfl)).trans G9.out)
      obtain ⟨m0, m1, _⟩ := L10.cells
      have m2 := L10.jcells
      have HL10 := Lib.hid L10
      have HCr := Lib.hid (live_Crash L10.jr.live Q10.out (by have := Q11.out; omega) (.slice none 0 0) [] (-1) 0 (.inl ⟨none, 0, rfl, rfl⟩) (fun h0 => by simp at h0) (by simp))
      have Hco := Lib.hid (crash_ok Q10.out [] (-1) 0)
      have Hcp : Hid ((crashD d5 [] (-1) 0).pend.length ≤ 200) := Lib.hid (Nat.zero_le _)
      have Hcl : Hid ((crashD d5 [] (-1) 0).disk.length = 70) := Lib.hid (by rw [← Q12.out]; exact crashL_length _ _ _ _ _ _)
      clear l10 k10 L10 K10
      generalize crashD d5 [] (-1) 0 = dc at *
      go_wp2_with fail
      refine HCr.out.mono ?_
      rintro e w11 ⟨rfl, l11, k11⟩
      obtain ⟨L11, K11⟩ := HL10.out.dev l11 k11
      have G11 := Lib.hid ((K11 fb (.inr rfl)).trans G10.out)
      obtain ⟨m0, m1, _⟩ := L11.cells
      have HOp := Lib.hid (jr_Open L11.jr.live Hco.out (by rw [Hcl.out]; omega) Hcp.out (by omega) Q13.out)
      rw [Q14.out] at HOp
      clear l11 k11 L11 K11 m2
      go_wp2_with fail
      refine HOp.out.mono ?_
      rintro e w12 ⟨k12, hpost⟩
      rw [if_pos rfl] at hpost
      obtain ⟨ja, jx, hjx, rfl, lj, _⟩ := hpost
      simp only [Option.some.injEq] at hjx
      subst hjx
      have g12 := (k12 fb (.inl (.inl (.inr rfl)))).trans G11.out
      have c12 : w12.cell? ⟨fb, 0, none⟩ = some (.int .i64 (b : Int)) := (World.cell?_of_block (a := ⟨fb, 0, none⟩) g12).trans F80.out
      have c13 : w12.cell? ⟨fb, 1, none⟩ = some (.string (B t)) := (World.cell?_of_block (a := ⟨fb, 1, none⟩) g12).trans F8.out
      obtain ⟨⟨n0, _⟩, _⟩ := LiveJ.cells lj
      have HRf : Hid (Calls Tryd.prog 25 #[.pointer (some ⟨g, 0, none⟩), .int .i64 (b : Int)] w12.drew fun e w' => e = .returned (.tuple #[.string (B t), .int .i64 ((0 : Nat) : Int)]) ∧ Below w12.drew.heap.size w12.drew w') := Lib.hid (by
        have h := live_ReadB (d := d6) (LiveJ.drewH lj 1).live Q15.out (by have := Q16.out; omega) (b : Int) (by omega) (by omega)
        rw [Q18.out, Q19.out] at h
        exact h)
      have n0d : w12.drew.cell? ⟨ja, 0, none⟩ = some (.pointer (some ⟨g, 0, none⟩)) := n0
      have f0d : w12.drew.cell? ⟨fb, 0, none⟩ = some (.int .i64 (b : Int)) := c12
      have C13 : Hid (w12.drew.cell? ⟨fb, 1, none⟩ = some (.string (B t))) := Lib.hid c13
      have Lj := Lib.hid (LiveC.size lj)
      clear lj k12 g12 c13
      go_wp2
      go_region_held3 (fun w' => w'.cell? ⟨ja, 0, none⟩ = some (.pointer (some ⟨g, 0, none⟩)) ∧ w'.cell? ⟨fb, 0, none⟩ = some (.int .i64 (b : Int)))
        (first | with_reducible exact r2_drew n0 c12 | with_reducible exact r2_call hb13 n0d f0d | with_reducible assumption | fail)
        (first | (go_at_call 25; go_must (refine HRf.out.mono ?_); rintro e w13 ⟨rfl, hb13⟩; have B13 := Lib.hid hb13) | fail)
      have f13 := cell_call B13.out C13.out
      have et2 : ((B t).toList == (B t).toList) = true := by simp
      have hsz := Lib.hid (step_call (step_call Lj.out (below_drew w12)) B13.out)
      clear hb13 n0d f0d n0 c12
      go_wp2
      go_ret
      exact ⟨rfl, hsz.out⟩
theorem walk_JournalPromotes (n : Int) (s : ByteArray) (hn : (Lit.int .i64 n).wf = true) (hs : s.size ≤ maxLen) (w : World) :
    Calls Tryd.prog 7 #[.int .i64 n, .string s] w fun e w' => e = .returned (.bool true) ∧ Below w.heap.size w w' := by
  unfold maxLen at hs
  have h1 := core_JournalPromotes n (L s) (bounds_i64J hn).1 (bounds_i64J hn).2 (by rw [length_L]; omega) w
  rwa [B_L] at h1
end Go.Proofs.YtlgfjoicdbjfjaaDoor
