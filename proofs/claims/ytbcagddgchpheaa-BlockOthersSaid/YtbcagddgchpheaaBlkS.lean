/- The law's model of chapter 1: an act on the reference's device; sameWrites. Conditions: a device that may be, numbers that fit. -/
import Derived.Test.YtbcagddgchpheaaBlkR
namespace Go.Proofs.Ytbcagddgchpheaa
open Go.RowKit Go.Blk

set_option maxRecDepth 100000 in
set_option maxHeartbeats 1600000 in
theorem law_model (d : Dv) (a : Act) (vk : Value) (g : Nat) (od op : Option Nat) (w : World) (h : DevAt 42 w g od op d) (ok : d.Ok) (hp : d.pend.length ≤ 99999) (ha : a.Ok) (hkeep : Row w vk (a.keep.map Value.bool)) (hkd : 0 < a.keep.length → ∀ q, vk.ownBlock = some q → ¬ ownV g od op q) :
    Calls Try.prog 15 #[.pointer (some ⟨g, 0, none⟩), .agg #[.int .i64 a.op, .int .i64 a.pos, .int .i64 a.n, vk, .string (B a.data)]] w fun e w' => e = .returned (.tuple #[.string (B (doesT d a)), .int .i64 (doesE d a : Nat)]) ∧ Mut 42 w w' g od op (doesD d a) := by
  have hpk := pickN_lt a.op 8 (by omega)
  have Hpk := Lib.hid (fun w => law_pick a.op 8 ha.op0 ha.op1 (by omega) (by omega) w)
  have Hbx : Hid (Below w.heap.size w (w.alloc (.cells #[.int .i64 a.op, .int .i64 a.pos, .int .i64 a.n, vk, .string (B a.data)] 37))) := Lib.hid (step_new (Below.refl _ _) _)
  have Hd := Lib.hid (h.below Hbx.out)
  have Hk := Lib.hid (hkeep.below Hbx.out)
  have Hne : Hid (¬ ownV g od op w.heap.size) := Lib.hid (fun hx => Nat.lt_irrefl _ (h.lt _ hx))
  have HT : Hid (doesT d a = if pickN a.op 8 = 4 then readT d a.pos else []) := Lib.hid rfl
  have HE : Hid (doesE d a = if pickN a.op 8 = 4 then readE d a.pos else if pickN a.op 8 = 5 then flushE d else if pickN a.op 8 = 6 then 0 else if pickN a.op 8 = 7 then 0 else writeE d a.pos (dataT a)) := Lib.hid rfl
  have HD : Hid (doesD d a = if pickN a.op 8 = 4 then d else if pickN a.op 8 = 5 then flushD d else if pickN a.op 8 = 6 then fuseD d a.n else if pickN a.op 8 = 7 then crashD d a.keep a.pos a.n else writeD d a.pos (dataT a)) := Lib.hid rfl
  have Hcr := Lib.hid (ref_Crash d vk a.keep a.pos a.n g od op _ Hd.out ok (by omega) Hk.out hkd ha.keep)
  have Hfu := Lib.hid (ref_Fuse d a.n g od op _ Hd.out)
  have Hfl := Lib.hid (ref_Flush d g od op _ Hd.out ok (by omega))
  have Hre := Lib.hid (ref_Read d a.pos g od op _ Hd.out ok (by omega) ha.pos0 ha.pos1)
  clear h hkeep
  generalize hk : pickN a.op 8 = k at *
  have HK := Lib.hid hk
  clear hk
  rcases (show k = 4 ∨ k = 5 ∨ k = 6 ∨ k = 7 ∨ (k ≠ 4 ∧ k ≠ 5 ∧ k ≠ 6 ∧ k ≠ 7) by omega) with rfl | rfl | rfl | rfl | ⟨k4, k5, k6, k7⟩
  · go_enter Try.func15, Try.ntmps15
    go_wp2_with fail
    refine (Hpk.out _).mono ?_
    rintro e w1 ⟨rfl, rfl⟩
    go_wp2_with fail
    refine Hre.out.mono ?_
    rintro e w2 ⟨rfl, b2⟩
    have B2 := Lib.hid b2
    clear b2
    go_wp2
    go_ret2
    refine ⟨by rw [HT.out, HE.out]; rfl, ?_⟩
    rw [HD.out]
    exact Mut.after Hbx.out ((Mut.refl Hd.out).call B2.out)
  · go_enter Try.func15, Try.ntmps15
    go_wp2_with fail
    refine (Hpk.out _).mono ?_
    rintro e w1 ⟨rfl, rfl⟩
    go_wp2_with fail
    refine Hfl.out.mono ?_
    rintro e w2 ⟨rfl, m2⟩
    have M2 := Lib.hid m2
    clear m2
    go_wp2
    go_ret2
    refine ⟨by rw [HT.out, HE.out]; rfl, ?_⟩
    rw [HD.out]
    exact Mut.after Hbx.out M2.out
  · go_enter Try.func15, Try.ntmps15
    go_wp2_with fail
    refine (Hpk.out _).mono ?_
    rintro e w1 ⟨rfl, rfl⟩
    go_wp2_with fail
    refine Hfu.out.mono ?_
    rintro e w2 ⟨rfl, m2⟩
    have M2 := Lib.hid m2
    clear m2
    go_wp2
    go_ret2
    refine ⟨by rw [HT.out, HE.out]; rfl, ?_⟩
    rw [HD.out]
    exact Mut.after Hbx.out M2.out
  · go_enter Try.func15, Try.ntmps15
    go_wp2_with fail
    refine (Hpk.out _).mono ?_
    rintro e w1 ⟨rfl, rfl⟩
    go_wp2_with fail
    refine Hcr.out.mono ?_
    rintro e w2 ⟨rfl, m2⟩
    have M2 := Lib.hid m2
    clear m2
    go_wp2
    go_ret2
    refine ⟨by rw [HT.out, HE.out]; rfl, ?_⟩
    rw [HD.out]
    exact Mut.after Hbx.out M2.out
  · have q4 : ((k : Int) == 4) = false := by rw [beq_eq_false_iff_ne]; omega
    have q5 : ((k : Int) == 5) = false := by rw [beq_eq_false_iff_ne]; omega
    have q6 : ((k : Int) == 6) = false := by rw [beq_eq_false_iff_ne]; omega
    have q7 : ((k : Int) == 7) = false := by rw [beq_eq_false_iff_ne]; omega
    have HF : Hid (doesT d a = [] ∧ doesE d a = writeE d a.pos (dataT a) ∧ doesD d a = writeD d a.pos (dataT a)) := Lib.hid ⟨by rw [HT.out, if_neg k4], by rw [HE.out, if_neg k4, if_neg k5, if_neg k6, if_neg k7], by rw [HD.out, if_neg k4, if_neg k5, if_neg k6, if_neg k7]⟩
    have hdl : (dataT a).length ≤ 100000 := by
      unfold dataT
      split
      · exact ha.data
      · simp
    have Hda := Lib.hid (fun w => law_data a vk ha.n0 ha.n1 (by have := ha.data; omega) w)
    have HAok := Lib.hid ha
    have Hok := Lib.hid ok
    clear k4 k5 k6 k7 ha ok
    have g5 := heap_alloc_new w (.cells #[.int .i64 a.op, .int .i64 a.pos, .int .i64 a.n, vk, .string (B a.data)] 37)
    have S0 : Hid (∀ w1, Below (w.alloc (.cells #[.int .i64 a.op, .int .i64 a.pos, .int .i64 a.n, vk, .string (B a.data)] 37)).heap.size (w.alloc (.cells #[.int .i64 a.op, .int .i64 a.pos, .int .i64 a.n, vk, .string (B a.data)] 37)) w1 → True) := Lib.hid (fun _ _ => trivial)
    clear g5 S0
    go_enter Try.func15, Try.ntmps15
    go_wp2_with fail
    refine (Hpk.out _).mono ?_
    rintro e w1 ⟨rfl, hw1⟩
    have hd1 := Hd.out
    rw [hw1] at hd1
    have g5 := heap_alloc_new w (.cells #[.int .i64 a.op, .int .i64 a.pos, .int .i64 a.n, vk, .string (B a.data)] 37)
    rw [hw1] at g5
    have hbx1 := Hbx.out
    rw [hw1] at hbx1
    have Hd1 := Lib.hid hd1
    have Hb1 := Lib.hid hbx1
    have d0 : w1.cell? ⟨w.heap.size, 0, none⟩ = some (.int .i64 a.op) := by rw [Lib.cell_of_heap g5]; rfl
    have d1 : w1.cell? ⟨w.heap.size, 1, none⟩ = some (.int .i64 a.pos) := by rw [Lib.cell_of_heap g5]; rfl
    have d2 : w1.cell? ⟨w.heap.size, 2, none⟩ = some (.int .i64 a.n) := by rw [Lib.cell_of_heap g5]; rfl
    have d3 : w1.cell? ⟨w.heap.size, 3, none⟩ = some vk := by rw [Lib.cell_of_heap g5]; rfl
    have d4 : w1.cell? ⟨w.heap.size, 4, none⟩ = some (.string (B a.data)) := by rw [Lib.cell_of_heap g5]; rfl
    have hs5 := size_B (dataT a)
    clear hd1 hbx1 g5 hw1
    generalize hga : w.heap.size = ga at *
    have Hga := Lib.hid hga
    clear hga
    go_wp2
    go_region_held3 (fun w' => w'.cell? ⟨ga, 0, none⟩ = some (.int .i64 a.op) ∧ w'.cell? ⟨ga, 1, none⟩ = some (.int .i64 a.pos) ∧ w'.cell? ⟨ga, 2, none⟩ = some (.int .i64 a.n) ∧ w'.cell? ⟨ga, 3, none⟩ = some vk ∧ w'.cell? ⟨ga, 4, none⟩ = some (.string (B a.data)))
      (first | assumption | exact ⟨d0, d1, d2, d3, d4⟩ | exact h5_call hbv (by assumption) | exact h5_chg hc5 Hne.out (by assumption))
      (first
        | (go_at_call 29
           refine (Hda.out _).mono ?_
           rintro e w4 ⟨rfl, hbv⟩
           have HB4 : Hid (Below w1.heap.size w1 w4) := Lib.hid (by first | exact hbv | exact step_call (below_drew _) hbv))
        | (go_at_call 36
           refine (ref_Write d a.pos (B (dataT a)) g od op _ (Hd1.out.below HB4.out) Hok.out (by omega) HAok.out.pos0 HAok.out.pos1 (by omega)).mono ?_
           rintro e w5 ⟨rfl, op5, hd5, ho5, hc5⟩
           have HM := Lib.hid (Mut.after (step_call (by rw [Hga.out]; exact Hb1.out) HB4.out) (show Mut 42 _ w5 g od op _ from ⟨op5, hd5, ho5, hc5⟩))))
    all_goals
      go_wp2
      go_ret2
      refine ⟨by rw [HF.out.1, HF.out.2.1]; rfl, ?_⟩
      rw [HF.out.2.2]
      exact HM.out
set_option maxRecDepth 100000 in
set_option maxHeartbeats 800000 in
theorem law_sameWrites (va vb : Value) (l : List (Nat × Txt)) (b1 b2 : Nat) (hn : l.length ≤ 9223372036854775807) (w : World) (ha : w.ownsRow b1 62 2 va l.length (wrCells l)) (hb : w.ownsRow b2 62 2 vb l.length (wrCells l)) :
    Calls Try.prog 19 #[va, vb] w fun e w' => e = .returned (.bool true) ∧ Below w.heap.size w w' := by
  obtain ⟨o1, k1, rfl, hc1⟩ := wrRow ha
  obtain ⟨o2, k2, rfl, hc2⟩ := wrRow hb
  have Ha := Lib.hid hc1
  have Hb := Lib.hid hc2
  have hne : ((l.length : Int) != (l.length : Int)) = false := by simp
  clear ha hb hc1 hc2
  go_enter Try.func19, Try.ntmps19
  go_wp2
  clear hne
  go_loopw [5] (fun i wr => ∃ k : Nat, k ≤ l.length ∧ i = .int .i64 k ∧ Below w.heap.size w wr) (fun i _ => l.length - (intOf i).toNat)
  case atStart => exact ⟨0, by omega, rfl, Below.refl _ _⟩
  case round =>
    obtain ⟨k, hk, rfl, hbel⟩ := hrel
    by_cases hlt : k < l.length
    · obtain ⟨b1, rfl, hb1, h1⟩ := Ha.out (by omega)
      obtain ⟨b2, rfl, hb2, h2⟩ := Hb.out (by omega)
      obtain ⟨d1, d1'⟩ := h1 k hlt
      obtain ⟨d2, d2'⟩ := h2 k hlt
      have d1 := cell_below hbel hb1 d1
      have d2 := cell_below hbel hb2 d2
      have d1' := cell_below hbel hb1 d1'
      have d2' := cell_below hbel hb2 d2'
      have Hbel := Lib.hid hbel
      clear hbel h1 h2
      generalize l[k].1 = x at *
      generalize l[k].2 = y at *
      have hk1 : (k : Int) < (l.length : Int) := by omega
      go_wp2
      go_quiet (fail)
      go_wp2
      go_roundw
      case rel => exact ⟨k + 1, by omega, by go_num, below_drewN Hbel.out _⟩
      case measure => simp [intOf]; omega
    · obtain rfl : k = l.length := by omega
      go_wp2
      go_ret
      exact ⟨rfl, hbel⟩
end Go.Proofs.Ytbcagddgchpheaa
