/- The law BlockPlays returns true for every number and acts. Condition: numbers and lengths fit an int. -/
import Derived.Test.YtbcagddgchpheaaBlkS
import Derived.Test.YtbcagddgchpheaaBlkT
namespace Go.Proofs.Ytbcagddgchpheaa
open Go.RowKit Go.Blk

/-- The program's device and the reference's, side by side, both made since w0. -/
def Two (w0 w : World) (g1 : Nat) (od1 : Option Nat) (d1 : Dv) (g2 : Nat) (od2 : Option Nat) (d2 : Dv) : Prop := ∃ op1 op2, DevAt 64 w g1 od1 op1 d1 ∧ DevAt 42 w g2 od2 op2 d2 ∧
  (∀ k, ownV g1 od1 op1 k → w0.heap.size ≤ k) ∧ (∀ k, ownV g2 od2 op2 k → w0.heap.size ≤ k) ∧ (∀ k, ownV g1 od1 op1 k → ¬ ownV g2 od2 op2 k) ∧ Below w0.heap.size w0 w
section
variable {w0 w w' : World} {g1 g2 : Nat} {od1 od2 : Option Nat} {d1 d2 : Dv}
theorem Two.size (h : Two w0 w g1 od1 d1 g2 od2 d2) : Below w0.heap.size w0 w := by obtain ⟨_, _, _, _, _, _, _, h⟩ := h; exact h
theorem Two.call (h : Two w0 w g1 od1 d1 g2 od2 d2) (b : Below w.heap.size w w') : Two w0 w' g1 od1 d1 g2 od2 d2 := by
  obtain ⟨op1, op2, a1, a2, a3, a4, a5, a6⟩ := h
  exact ⟨op1, op2, a1.below b, a2.below b, a3, a4, a5, step_call a6 b⟩
theorem Two.left (h : Two w0 w g1 od1 d1 g2 od2 d2) : ∃ op, DevAt 64 w g1 od1 op d1 ∧ (∀ k, ownV g1 od1 op k → w0.heap.size ≤ k) ∧ ∀ w' d', Mut 64 w w' g1 od1 op d' → Two w0 w' g1 od1 d' g2 od2 d2 := by
  obtain ⟨op1, op2, a1, a2, a3, a4, a5, a6⟩ := h
  refine ⟨op1, a1, a3, fun w' d' m => ?_⟩
  obtain ⟨op', m1, m2, m3⟩ := m
  refine ⟨op', op2, m1, a2.keep m3 (fun k hk hk2 => a5 k hk2 hk), fun k hk => ?_, a4, fun k hk hk2 => ?_, a6.trans (m3.below a6.size a3)⟩
  · rcases hk with hk | hk | hk
    · exact a3 k (.inl hk)
    · exact a3 k (.inr (.inl hk))
    · rcases m2 k hk with h5 | h5
      · exact a3 k (.inr (.inr h5))
      · have := a6.size; omega
  · rcases hk with hk | hk | hk
    · exact a5 k (.inl hk) hk2
    · exact a5 k (.inr (.inl hk)) hk2
    · rcases m2 k hk with h5 | h5
      · exact a5 k (.inr (.inr h5)) hk2
      · have := a2.lt k hk2; omega
theorem Two.right (h : Two w0 w g1 od1 d1 g2 od2 d2) : ∃ op, DevAt 42 w g2 od2 op d2 ∧ (∀ k, ownV g2 od2 op k → w0.heap.size ≤ k) ∧ ∀ w' d', Mut 42 w w' g2 od2 op d' → Two w0 w' g1 od1 d1 g2 od2 d' := by
  obtain ⟨op1, op2, a1, a2, a3, a4, a5, a6⟩ := h
  refine ⟨op2, a2, a4, fun w' d' m => ?_⟩
  obtain ⟨op', m1, m2, m3⟩ := m
  refine ⟨op1, op', a1.keep m3 (fun k hk hk2 => a5 k hk hk2), m1, a3, fun k hk => ?_, fun k hk hk2 => ?_, a6.trans (m3.below a6.size a4)⟩
  · rcases hk with hk | hk | hk
    · exact a4 k (.inl hk)
    · exact a4 k (.inr (.inl hk))
    · rcases m2 k hk with h5 | h5
      · exact a4 k (.inr (.inr h5))
      · have := a6.size; omega
  · rcases hk2 with hk2 | hk2 | hk2
    · exact a5 k hk (.inl hk2)
    · exact a5 k hk (.inr (.inl hk2))
    · rcases m2 k hk2 with h5 | h5
      · exact a5 k hk (.inr (.inr h5))
      · have := a1.lt k hk; omega
end
theorem lay_len (l : List (Nat × Txt)) (dk : List Txt) : (lay dk l).length = dk.length := lay_length l dk
theorem turn_disk (d : Dv) : (turnD d).disk = d.disk := (turn_same d).1
theorem does_disk (d : Dv) (a : Act) : (doesD d a).disk.length = d.disk.length := by
  unfold doesD
  split
  · rfl
  · split
    · unfold flushD
      split
      · rfl
      · split
        · exact lay_length _ _
        · rw [turn_disk]
    · split
      · rfl
      · split
        · exact crashL_length _ _ _ _ _ _
        · unfold writeD
          split
          · rfl
          · split
            · split
              · split
                · show (turnD d).disk.length = _; rw [turn_disk]
                · rw [turn_disk]
              · rfl
            · rfl
set_option maxRecDepth 100000 in
set_option maxHeartbeats 3200000 in
theorem core_BlockPlays (n : Int) (v : Value) (l : List Act) (w : World) (hn1 : -9223372036854775808 ≤ n) (hn2 : n ≤ 9223372036854775807) (h : Acts w v l) (hl : l.length ≤ 9223372036854775807) (hf : ∀ a ∈ l, Fit a) :
    Calls Try.prog 3 #[.int .i64 n, v] w fun e w' => e = .returned (.bool true) ∧ Below w.heap.size w w' := by
  have Hsh := Lib.hid (law_shown w)
  have H := Lib.hid h
  have Hf := Lib.hid hf
  obtain ⟨oa, c, rfl⟩ := h.form
  clear h hf
  have Hsm := Lib.hid (fun w' (b : Below w.heap.size w w') => law_small _ l w' (H.out.below b) hl Hf.out)
  cases hsm : smallB l with
  | false =>
    rw [hsm] at Hsm
    clear hsm
    go_enter Try.func3, Try.ntmps3
    go_wp2_with fail
    refine Hsh.out.mono ?_
    rintro e w1 ⟨rfl, hb⟩
    have HB := Lib.hid hb
    clear hb
    go_wp2_with fail
    refine (Hsm.out _ HB.out).mono ?_
    rintro e w2 ⟨rfl, rfl⟩
    go_wp2
    go_ret
    exact ⟨rfl, HB.out⟩
  | true =>
    obtain ⟨hl60, hok⟩ := small_ok hsm Hf.out
    rw [hsm] at Hsm
    have Hok := Lib.hid hok
    have hpk := pickN_lt n 12 (by omega)
    have Hp1 := Lib.hid (fun w => law_pick n 12 hn1 hn2 (by omega) (by omega) w)
    have Hd := Lib.hid (fun w => dev_New (1 + pickN n 12) (by omega) (by omega) w)
    have Hr := Lib.hid (fun w => ref_New (1 + pickN n 12) (by omega) (by omega) w)
    have HD0 := Lib.hid (newD_ok (1 + pickN n 12) (by omega) (by omega))
    have HP0 : Hid ((newD (1 + pickN n 12)).pend.length = 0) := Lib.hid rfl
    have HL0 : Hid (∀ m, (newD m).disk.length = m) := Lib.hid (fun m => by simp [newD])
    have HLd := Lib.hid (HL0.out (1 + pickN n 12))
    clear hsm hok
    generalize newD (1 + pickN n 12) = D0 at *
    generalize pickN n 12 = nn at *
    have HTwo0 : Hid (∀ wa wb wc g1 od1 g2 od2, Below w.heap.size w wa → DevAt 64 wb g1 od1 none D0 → (∀ k, ownV g1 od1 none k → wa.heap.size ≤ k) → Below wa.heap.size wa wb → DevAt 42 wc g2 od2 none D0 → (∀ k, ownV g2 od2 none k → wb.heap.size ≤ k) → Below wb.heap.size wb wc → Two w wc g1 od1 D0 g2 od2 D0) := Lib.hid (fun wa wb wc g1 od1 g2 od2 h1 h2 h3 h4 h5 h6 h7 =>
      ⟨none, none, h2.below h7, h5, fun k hk => Nat.le_trans h1.size (h3 k hk), fun k hk => Nat.le_trans h1.size (Nat.le_trans h4.size (h6 k hk)), fun k hk hk2 => by
        have q1 := h2.lt k hk
        have q2 := h6 k hk2
        omega, step_call (step_call h1 h4) h7⟩)
    rcases (show (n < 1 ∨ 4096 < n) ∨ (1 ≤ n ∧ n ≤ 4096) by omega) with hbad | hgood
    have Hb1 := Lib.hid (fun w => dev_New_bad n hbad w)
    have Hb2 := Lib.hid (fun w => ref_New_bad n hbad w)
    clear hbad
    go_enter Try.func3, Try.ntmps3
    go_wp2_with fail
    refine Hsh.out.mono ?_
    rintro e w1 ⟨rfl, hb⟩
    have HB := Lib.hid hb
    clear hb
    go_wp2_with fail
    refine (Hsm.out _ HB.out).mono ?_
    rintro e w2 ⟨rfl, rfl⟩
    go_wp2_with fail
    refine (Hb1.out _).mono ?_
    rintro e w2 ⟨rfl, rfl⟩
    go_wp2_with fail
    refine (Hb2.out _).mono ?_
    rintro e w2 ⟨rfl, rfl⟩
    go_wp2_with fail
    rotate_left
    obtain ⟨nv, rfl⟩ := Int.eq_ofNat_of_zero_le (show 0 ≤ n by omega)
    have Hg1 := Lib.hid (fun w => dev_New nv (by omega) (by omega) w)
    have Hg2 := Lib.hid (fun w => ref_New nv (by omega) (by omega) w)
    clear hgood
    go_enter Try.func3, Try.ntmps3
    go_wp2_with fail
    refine Hsh.out.mono ?_
    rintro e w1 ⟨rfl, hb⟩
    have HB0 := Lib.hid hb
    clear hb
    go_wp2_with fail
    refine (Hsm.out _ HB0.out).mono ?_
    rintro e w2 ⟨rfl, rfl⟩
    go_wp2_with fail
    refine (Hg1.out _).mono ?_
    rintro e w2 ⟨ga, oda, rfl, _, _, hb2⟩
    have HB2 := Lib.hid (step_call HB0.out hb2)
    clear hb2
    go_wp2_with fail
    refine (Hg2.out _).mono ?_
    rintro e w3 ⟨gb, odb, rfl, _, _, hb3⟩
    have HB := Lib.hid (step_call HB2.out hb3)
    clear hb3
    go_wp2_with fail
    all_goals
      refine (Hp1.out _).mono ?_
      rintro e w4 ⟨rfl, rfl⟩
      go_wp2_with fail
      try rw [show (1 : Int) + (nn : Int) = ((1 + nn : Nat) : Int) by omega]
      refine (Hd.out _).mono ?_
      rintro e w5 ⟨g1, od1, rfl, hD1, hlow1, hb5⟩
      have HD1 := Lib.hid hD1
      have Hlow1 := Lib.hid hlow1
      have Hb5 := Lib.hid hb5
      clear hD1 hlow1 hb5
      go_wp2_with fail
      refine (Hr.out _).mono ?_
      rintro e w6 ⟨g2, od2, rfl, hD2, hlow2, hb6⟩
      have HV0 := Lib.hid (HTwo0.out _ _ _ _ _ _ _ HB.out HD1.out Hlow1.out Hb5.out hD2 hlow2 hb6)
      clear hD2 hlow2 hb6
      go_wp2_with fail
      go_loopw [16] (fun x wr => ∃ (k : Nat) (D : Dv), k ≤ l.length ∧ x = .int .i64 k ∧ Two w wr g1 od1 D g2 od2 D ∧ D.Ok ∧ D.pend.length ≤ k ∧ D.disk.length = 1 + nn) (fun x _ => l.length - (intOf x).toNat)
      case atStart => exact ⟨0, D0, by omega, rfl, HV0.out, HD0.out, by rw [HP0.out]; omega, HLd.out⟩
      case round =>
        obtain ⟨k, D, hk, rfl, hV, hD, hp, hdl⟩ := hrel
        have HD := Lib.hid hD
        have Hdl := Lib.hid hdl
        have hbel := hV.size
        by_cases hlt : k < l.length
        · obtain ⟨b, off, cap, hv, hb, hcell⟩ := H.out.row (by omega)
          simp only [Value.slice.injEq] at hv
          obtain ⟨rfl, _, rfl⟩ := hv
          have ha := Hok.out l[k] (List.getElem_mem hlt)
          obtain ⟨vk, k0, k1, k2, k3, k4, hr⟩ := hcell k hlt
          generalize l[k] = a at *
          have c0 := cell_below hbel hb k0
          have c1 := cell_below hbel hb k1
          have c2 := cell_below hbel hb k2
          have c3 := cell_below hbel hb k3
          have c4 := cell_below hbel hb k4
          have hkd : 0 < a.keep.length → ∀ q, vk.ownBlock = some q → q < w.heap.size := by
            intro h0 q hq
            rcases hr with ⟨_, _, _, h1⟩ | ⟨b2, off2, cap2, rfl, _, hb2, _⟩
            · have := congrArg List.length h1; rw [List.length_map, List.length_nil] at this; omega
            · simp only [Value.ownBlock, Option.some.injEq] at hq
              omega
          obtain ⟨op1, hdv, hlw, hnext⟩ := hV.left
          have Hdoes := Lib.hid (law_does D a vk g1 od1 op1 wr hdv hD (by omega) ha (hr.below hbel) (fun h0 q hq ho => by have := hlw q ho; have := hkd h0 q hq; omega))
          have Hnext := Lib.hid hnext
          have Hmodel := Lib.hid (fun w' (hV' : Two w w' g1 od1 (doesD D a) g2 od2 D) (b' : Below w.heap.size w w') => (show Calls Try.prog 15 #[.pointer (some ⟨g2, 0, none⟩), .agg #[.int .i64 a.op, .int .i64 a.pos, .int .i64 a.n, vk, .string (B a.data)]] w' fun e w'' => e = .returned (.tuple #[.string (B (doesT D a)), .int .i64 (doesE D a : Nat)]) ∧ Two w w'' g1 od1 (doesD D a) g2 od2 (doesD D a) by
            obtain ⟨op2, hdv2, hlw2, hnext2⟩ := hV'.right
            exact (law_model D a vk g2 od2 op2 w' hdv2 HD.out (by omega) ha (hr.below b') (fun h0 q hq ho => by have := hlw2 q ho; have := hkd h0 q hq; omega)).mono (fun e w'' ⟨h5, h6⟩ => ⟨h5, hnext2 _ _ h6⟩)))
          have Hdo := Lib.hid (doesD_ok hD a ha.n1)
          have hdp := does_pend D a
          have Hdd := Lib.hid (show (doesD D a).disk.length = 1 + nn by rw [← Hdl.out]; exact does_disk D a)
          have hk1 : (k : Int) < (l.length : Int) := by omega
          have Hk := Lib.hid (show w.cell? ⟨b, off + k * 5, none⟩ = some (.int .i64 a.op) ∧ w.cell? ⟨b, off + k * 5 + 1, none⟩ = some (.int .i64 a.pos) ∧ w.cell? ⟨b, off + k * 5 + 2, none⟩ = some (.int .i64 a.n) ∧ w.cell? ⟨b, off + k * 5 + 3, none⟩ = some vk ∧ w.cell? ⟨b, off + k * 5 + 4, none⟩ = some (.string (B a.data)) from ⟨k0, k1, k2, k3, k4⟩)
          clear hcell hr hkd hV hD hbel ha hdv hlw hnext hdl k0 k1 k2 k3 k4
          generalize doesT D a = tx at *
          generalize doesE D a = er at *
          generalize doesD D a = D2 at *
          go_wp2_with fail
          refine Hdoes.out.mono ?_
          rintro e w7 ⟨rfl, m7⟩
          have HV7 := Lib.hid (Hnext.out _ _ m7)
          have c0 := cell_below HV7.out.size hb Hk.out.1
          have c1 := cell_below HV7.out.size hb Hk.out.2.1
          have c2 := cell_below HV7.out.size hb Hk.out.2.2.1
          have c3 := cell_below HV7.out.size hb Hk.out.2.2.2.1
          have c4 := cell_below HV7.out.size hb Hk.out.2.2.2.2
          clear m7
          go_wp2_with fail
          refine (Hmodel.out _ HV7.out HV7.out.size).mono ?_
          rintro e w8 ⟨rfl, hV8⟩
          obtain ⟨op1, hdv, _, _⟩ := hV8.left
          obtain ⟨op2, hrv, _, _⟩ := hV8.right
          obtain ⟨_, _, _, _, _, _, _, _, g3, _⟩ := hrv.cells
          have Hdv := Lib.hid hdv
          have HV8 := Lib.hid hV8
          have e1 : ((B tx).toList == (B tx).toList) = true := by simp
          have e2 : ((er : Int) != (er : Int)) = false := by simp
          have e3 : (D2.dead != D2.dead) = false := by simp
          clear hV8 hdv hrv c0 c1 c2 c3 c4
          go_wp2_with fail
          go_region_held3 (fun w' => w'.cell? ⟨g2, 3, none⟩ = some (.bool D2.dead))
            (first | assumption | exact g3)
            ((go_at_call 16; refine (dev_Dead D2 g1 od1 op1 _ (by first | exact Hdv.out | exact Hdv.out.below (below_drew _))).mono ?_; rintro e w9 ⟨rfl, rfl⟩))
          go_wp2
          go_roundw
          case rel => exact ⟨k + 1, D2, by omega, by go_num, HV8.out.call (below_drew _), Hdo.out, by omega, Hdd.out⟩
          case measure => simp [intOf]; omega
        · obtain rfl : k = l.length := by omega
          have HV := Lib.hid hV
          obtain ⟨op1, hdv, _, _⟩ := hV.left
          obtain ⟨op2, hrv, _, _⟩ := hV.right
          obtain ⟨vd, vp, _, ⟨ad, cd, rfl⟩, ⟨ap, cp, rfl⟩, g0, g1', _, _, _, _, _, _, hdo, _, hpo, _⟩ := hrv.cells
          have Hdv := Lib.hid hdv
          have Hdo := Lib.hid hdo
          have Hpo := Lib.hid hpo
          have hdl2 : D.disk.length ≤ 100000 := by have := hD.n1; omega
          have hpl2 : D.pend.length ≤ 100000 := by omega
          have Hbel := Lib.hid hbel
          clear hV hdv hrv hD hdo hpo hbel hdl
          go_wp2_with fail
          go_region_held3 (fun w' => w'.cell? ⟨g2, 0, none⟩ = some (.slice ad D.disk.length cd))
            (first | assumption | exact g0 | exact cell_call hb9 (by assumption))
            (first
              | (go_at_call 18; refine (dev_Disk D g1 od1 op1 _ (by first | with_reducible exact Hdv.out | with_reducible exact Hdv.out.below (below_drew _)) hdl2).mono ?_; rintro e w9 ⟨hb9, v9, rfl, hown9⟩; have HB9 : Hid (Below wr.heap.size wr w9) := Lib.hid (by first | exact hb9 | exact step_call (below_drew _) hb9); have HR9 := Lib.hid (own_row hown9); clear hown9)
              | (go_at_call 17; refine (law_sameTexts _ _ D.disk (by omega) w9 HR9.out (own_row (own_chg Hdo.out (A := fun _ => False) (Chg.of_below HB9.out) (fun _ _ h => h)))).mono ?_; rintro e w10 ⟨rfl, hb9⟩; have HB10 : Hid (Below wr.heap.size wr w10) := Lib.hid (step_call HB9.out hb9)))
          have Hdw := Lib.hid (Hdv.out.below HB10.out)
          have Hpw := Lib.hid (own_chg Hpo.out (A := fun _ => False) (Chg.of_below HB10.out) (fun _ _ h => h))
          have g1' : w10.cell? ⟨g2, 1, none⟩ = some (.slice ap D.pend.length cp) := cell_call HB10.out g1'
          go_wp2_with fail
          go_region_held3 (fun w' => w'.cell? ⟨g2, 1, none⟩ = some (.slice ap D.pend.length cp))
            (first | assumption | exact g1' | exact cell_call hb11 (by assumption))
            (first
              | (go_at_call 20; refine (dev_Pending D g1 od1 op1 _ (by first | with_reducible exact Hdw.out | with_reducible exact Hdw.out.below (below_drew _)) hpl2).mono ?_; rintro e w11 ⟨hb11, v11, rfl, hown11⟩; have HB11 : Hid (Below w10.heap.size w10 w11) := Lib.hid (by first | exact hb11 | exact step_call (below_drew _) hb11); have HO11 := Lib.hid hown11; clear hown11)
              | (go_at_call 19; refine (law_sameWrites _ _ D.pend _ 0 (by omega) w11 HO11.out (own_chg Hpw.out (A := fun _ => False) (Chg.of_below HB11.out) (fun _ _ h => h))).mono ?_; rintro e w12 ⟨rfl, hb11⟩; have HB12 : Hid (Below wr.heap.size wr w12) := Lib.hid (step_call (step_call HB10.out HB11.out) hb11)))
          have q9 : ((D.disk.length : Int) == 1 + (nn : Int)) = true := by rw [beq_iff_eq]; have := Hdl.out; omega
          have q8 : ((D.disk.length : Int) == ((1 + nn : Nat) : Int)) = true := by rw [beq_iff_eq]; have := Hdl.out; omega
          go_wp2_with (go_at_call 21; refine (dev_Blocks D g1 od1 op1 _ (Hdv.out.below HB12.out)).mono ?_; rintro e w13 ⟨rfl, rfl⟩)
          go_ret
          exact ⟨rfl, step_call Hbel.out HB12.out⟩
theorem walk_BlockPlays (n : Int) (v : Value) (l : List Act) (w : World) (hn : (Lit.int .i64 n).wf = true) (h : Acts w v l) (hf : ∀ a ∈ l, Fit a) (hl : l.length ≤ maxLen) :
    Calls Try.prog 3 #[.int .i64 n, v] w fun e w' => e = .returned (.bool true) ∧ Below w.heap.size w w' := by
  unfold maxLen at hl
  exact core_BlockPlays n v l w (bounds_i64 hn).1 (bounds_i64 hn).2 h (by omega) hf
end Go.Proofs.Ytbcagddgchpheaa
