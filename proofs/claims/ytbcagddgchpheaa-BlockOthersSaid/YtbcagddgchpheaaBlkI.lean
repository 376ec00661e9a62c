/- The law's own 'does' of chapter 1: an act on a device. Conditions: a device that may be, numbers that fit. -/
import Derived.Test.YtbcagddgchpheaaBlkH
namespace Go.Proofs.Ytbcagddgchpheaa
open Go.RowKit Go.Blk

def doesT (d : Dv) (a : Act) : Txt := if pickN a.op 8 = 4 then readT d a.pos else []
def doesE (d : Dv) (a : Act) : Nat := if pickN a.op 8 = 4 then readE d a.pos else if pickN a.op 8 = 5 then flushE d else if pickN a.op 8 = 6 then 0 else if pickN a.op 8 = 7 then 0 else writeE d a.pos (dataT a)
def doesD (d : Dv) (a : Act) : Dv := if pickN a.op 8 = 4 then d else if pickN a.op 8 = 5 then flushD d else if pickN a.op 8 = 6 then fuseD d a.n else if pickN a.op 8 = 7 then crashD d a.keep a.pos a.n else writeD d a.pos (dataT a)
/-- Numbers that fit, texts and flags not too many. -/
structure Act.Ok (a : Act) : Prop where
  op0 : -9223372036854775808 ≤ a.op
  op1 : a.op ≤ 9223372036854775807
  pos0 : -9223372036854775808 ≤ a.pos
  pos1 : a.pos ≤ 9223372036854775807
  n0 : -9223372036854775808 ≤ a.n
  n1 : a.n ≤ 9223372036854775807
  keep : a.keep.length ≤ 100000
  data : a.data.length ≤ 100000
theorem doesD_ok {d : Dv} (h : d.Ok) (a : Act) (ha : a.n ≤ 9223372036854775807) : (doesD d a).Ok := by
  unfold doesD
  split
  · exact h
  · split
    · exact flush_ok h
    · split
      · exact fuse_ok h _ ha
      · split
        · exact crash_ok h _ _ _
        · exact write_ok h _ _
theorem write_pend (d : Dv) (i : Int) (s : Txt) : (writeD d i s).pend.length ≤ d.pend.length + 1 := by
  unfold writeD
  have e := (turn_same d).2
  split
  · omega
  · split
    · split
      · split
        · show (d.pend ++ [_]).length ≤ _; simp
        · rw [e]; omega
      · omega
    · omega
theorem does_pend (d : Dv) (a : Act) : (doesD d a).pend.length ≤ d.pend.length + 1 := by
  unfold doesD
  have e := (turn_same d).2
  split
  · omega
  · split
    · unfold flushD
      split
      · omega
      · split
        · show ([] : List (Nat × Txt)).length ≤ _; simp
        · rw [e]; omega
    · split
      · show d.pend.length ≤ _; omega
      · split
        · show ([] : List (Nat × Txt)).length ≤ _; simp
        · exact write_pend d _ _
theorem Mut.after {T : TypeId} {w w1 w2 : World} {g : Nat} {od op : Option Nat} {d : Dv} (b : Below w.heap.size w w1) (m : Mut T w1 w2 g od op d) : Mut T w w2 g od op d := by
  obtain ⟨op', h1, h2, h3⟩ := m
  exact ⟨op', h1, fun k hk => by rcases h2 k hk with h5 | h5; exact .inl h5; exact .inr (Nat.le_trans b.size h5), (Chg.of_below b).trans h3 (fun _ _ h => h)⟩
theorem h5_call {w w' : World} {b : Nat} {v0 v1 v2 v3 v4 : Value} (hb : Below w.heap.size w w') (h : w.cell? ⟨b, 0, none⟩ = some v0 ∧ w.cell? ⟨b, 1, none⟩ = some v1 ∧ w.cell? ⟨b, 2, none⟩ = some v2 ∧ w.cell? ⟨b, 3, none⟩ = some v3 ∧ w.cell? ⟨b, 4, none⟩ = some v4) :
    w'.cell? ⟨b, 0, none⟩ = some v0 ∧ w'.cell? ⟨b, 1, none⟩ = some v1 ∧ w'.cell? ⟨b, 2, none⟩ = some v2 ∧ w'.cell? ⟨b, 3, none⟩ = some v3 ∧ w'.cell? ⟨b, 4, none⟩ = some v4 :=
  ⟨cell_call hb h.1, cell_call hb h.2.1, cell_call hb h.2.2.1, cell_call hb h.2.2.2.1, cell_call hb h.2.2.2.2⟩
theorem h5_chg {A : Nat → Prop} {w w' : World} {b : Nat} {v0 v1 v2 v3 v4 : Value} (hb : Chg A w w') (hA : ¬ A b) (h : w.cell? ⟨b, 0, none⟩ = some v0 ∧ w.cell? ⟨b, 1, none⟩ = some v1 ∧ w.cell? ⟨b, 2, none⟩ = some v2 ∧ w.cell? ⟨b, 3, none⟩ = some v3 ∧ w.cell? ⟨b, 4, none⟩ = some v4) :
    w'.cell? ⟨b, 0, none⟩ = some v0 ∧ w'.cell? ⟨b, 1, none⟩ = some v1 ∧ w'.cell? ⟨b, 2, none⟩ = some v2 ∧ w'.cell? ⟨b, 3, none⟩ = some v3 ∧ w'.cell? ⟨b, 4, none⟩ = some v4 :=
  ⟨hb.cell hA h.1, hb.cell hA h.2.1, hb.cell hA h.2.2.1, hb.cell hA h.2.2.2.1, hb.cell hA h.2.2.2.2⟩

set_option maxRecDepth 100000 in
set_option maxHeartbeats 1600000 in
theorem law_does (d : Dv) (a : Act) (vk : Value) (g : Nat) (od op : Option Nat) (w : World) (h : DevAt 64 w g od op d) (ok : d.Ok) (hp : d.pend.length ≤ 99999) (ha : a.Ok) (hkeep : Row w vk (a.keep.map Value.bool)) (hkd : 0 < a.keep.length → ∀ q, vk.ownBlock = some q → ¬ ownV g od op q) :
    Calls Try.prog 14 #[.pointer (some ⟨g, 0, none⟩), .agg #[.int .i64 a.op, .int .i64 a.pos, .int .i64 a.n, vk, .string (B a.data)]] w fun e w' => e = .returned (.tuple #[.string (B (doesT d a)), .int .i64 (doesE d a : Nat)]) ∧ Mut 64 w w' g od op (doesD d a) := by
  have hpk := pickN_lt a.op 8 (by omega)
  have Hpk := Lib.hid (fun w => law_pick a.op 8 ha.op0 ha.op1 (by omega) (by omega) w)
  have Hbx : Hid (Below w.heap.size w (w.alloc (.cells #[.int .i64 a.op, .int .i64 a.pos, .int .i64 a.n, vk, .string (B a.data)] 37))) := Lib.hid (step_new (Below.refl _ _) _)
  have Hd := Lib.hid (h.below Hbx.out)
  have Hk := Lib.hid (hkeep.below Hbx.out)
  have Hne : Hid (¬ ownV g od op w.heap.size) := Lib.hid (fun hx => Nat.lt_irrefl _ (h.lt _ hx))
  have HT : Hid (doesT d a = if pickN a.op 8 = 4 then readT d a.pos else []) := Lib.hid rfl
  have HE : Hid (doesE d a = if pickN a.op 8 = 4 then readE d a.pos else if pickN a.op 8 = 5 then flushE d else if pickN a.op 8 = 6 then 0 else if pickN a.op 8 = 7 then 0 else writeE d a.pos (dataT a)) := Lib.hid rfl
  have HD : Hid (doesD d a = if pickN a.op 8 = 4 then d else if pickN a.op 8 = 5 then flushD d else if pickN a.op 8 = 6 then fuseD d a.n else if pickN a.op 8 = 7 then crashD d a.keep a.pos a.n else writeD d a.pos (dataT a)) := Lib.hid rfl
  have Hcr := Lib.hid (dev_Crash d vk a.keep a.pos a.n g od op _ Hd.out ok (by omega) Hk.out hkd ha.keep)
  have Hfu := Lib.hid (dev_Fuse d a.n g od op _ Hd.out)
  have Hfl := Lib.hid (dev_Flush d g od op _ Hd.out ok (by omega))
  have Hre := Lib.hid (dev_Read d a.pos g od op _ Hd.out ok (by omega) ha.pos0 ha.pos1)
  clear h hkeep
  generalize hk : pickN a.op 8 = k at *
  have HK := Lib.hid hk
  clear hk
  rcases (show k = 4 ∨ k = 5 ∨ k = 6 ∨ k = 7 ∨ (k ≠ 4 ∧ k ≠ 5 ∧ k ≠ 6 ∧ k ≠ 7) by omega) with rfl | rfl | rfl | rfl | ⟨k4, k5, k6, k7⟩
  · go_enter Try.func14, Try.ntmps14
    go_wp2_with fail
    refine (Hpk.out _).mono ?_
    rintro e w1 ⟨rfl, rfl⟩
    go_wp2_with fail
    refine Hre.out.mono ?_
    rintro e w2 ⟨rfl, b2⟩
    have B2 := Lib.hid b2
    clear b2
    go_wp2
    go_ret2
    refine ⟨by rw [HT.out, HE.out]; rfl, ?_⟩
    rw [HD.out]
    exact Mut.after Hbx.out ((Mut.refl Hd.out).call B2.out)
  · go_enter Try.func14, Try.ntmps14
    go_wp2_with fail
    refine (Hpk.out _).mono ?_
    rintro e w1 ⟨rfl, rfl⟩
    go_wp2_with fail
    refine Hfl.out.mono ?_
    rintro e w2 ⟨rfl, m2⟩
    have M2 := Lib.hid m2
    clear m2
    go_wp2
    go_ret2
    refine ⟨by rw [HT.out, HE.out]; rfl, ?_⟩
    rw [HD.out]
    exact Mut.after Hbx.out M2.out
  · go_enter Try.func14, Try.ntmps14
    go_wp2_with fail
    refine (Hpk.out _).mono ?_
    rintro e w1 ⟨rfl, rfl⟩
    go_wp2_with fail
    refine Hfu.out.mono ?_
    rintro e w2 ⟨rfl, m2⟩
    have M2 := Lib.hid m2
    clear m2
    go_wp2
    go_ret2
    refine ⟨by rw [HT.out, HE.out]; rfl, ?_⟩
    rw [HD.out]
    exact Mut.after Hbx.out M2.out
  · go_enter Try.func14, Try.ntmps14
    go_wp2_with fail
    refine (Hpk.out _).mono ?_
    rintro e w1 ⟨rfl, rfl⟩
    go_wp2_with fail
    refine Hcr.out.mono ?_
    rintro e w2 ⟨rfl, m2⟩
    have M2 := Lib.hid m2
    clear m2
    go_wp2
    go_ret2
    refine ⟨by rw [HT.out, HE.out]; rfl, ?_⟩
    rw [HD.out]
    exact Mut.after Hbx.out M2.out
  · have q4 : ((k : Int) == 4) = false := by rw [beq_eq_false_iff_ne]; omega
    have q5 : ((k : Int) == 5) = false := by rw [beq_eq_false_iff_ne]; omega
    have q6 : ((k : Int) == 6) = false := by rw [beq_eq_false_iff_ne]; omega
    have q7 : ((k : Int) == 7) = false := by rw [beq_eq_false_iff_ne]; omega
    have HF : Hid (doesT d a = [] ∧ doesE d a = writeE d a.pos (dataT a) ∧ doesD d a = writeD d a.pos (dataT a)) := Lib.hid ⟨by rw [HT.out, if_neg k4], by rw [HE.out, if_neg k4, if_neg k5, if_neg k6, if_neg k7], by rw [HD.out, if_neg k4, if_neg k5, if_neg k6, if_neg k7]⟩
    have hdl : (dataT a).length ≤ 100000 := by
      unfold dataT
      split
      · exact ha.data
      · simp
    have Hda := Lib.hid (fun w => law_data a vk ha.n0 ha.n1 (by have := ha.data; omega) w)
    have HAok := Lib.hid ha
    have Hok := Lib.hid ok
    clear k4 k5 k6 k7 ha ok
    have g5 := heap_alloc_new w (.cells #[.int .i64 a.op, .int .i64 a.pos, .int .i64 a.n, vk, .string (B a.data)] 37)
    have S0 : Hid (∀ w1, Below (w.alloc (.cells #[.int .i64 a.op, .int .i64 a.pos, .int .i64 a.n, vk, .string (B a.data)] 37)).heap.size (w.alloc (.cells #[.int .i64 a.op, .int .i64 a.pos, .int .i64 a.n, vk, .string (B a.data)] 37)) w1 → True) := Lib.hid (fun _ _ => trivial)
    clear g5 S0
    go_enter Try.func14, Try.ntmps14
    go_wp2_with fail
    refine (Hpk.out _).mono ?_
    rintro e w1 ⟨rfl, hw1⟩
    have hd1 := Hd.out
    rw [hw1] at hd1
    have g5 := heap_alloc_new w (.cells #[.int .i64 a.op, .int .i64 a.pos, .int .i64 a.n, vk, .string (B a.data)] 37)
    rw [hw1] at g5
    have hbx1 := Hbx.out
    rw [hw1] at hbx1
    have Hd1 := Lib.hid hd1
    have Hb1 := Lib.hid hbx1
    have d0 : w1.cell? ⟨w.heap.size, 0, none⟩ = some (.int .i64 a.op) := by rw [Lib.cell_of_heap g5]; rfl
    have d1 : w1.cell? ⟨w.heap.size, 1, none⟩ = some (.int .i64 a.pos) := by rw [Lib.cell_of_heap g5]; rfl
    have d2 : w1.cell? ⟨w.heap.size, 2, none⟩ = some (.int .i64 a.n) := by rw [Lib.cell_of_heap g5]; rfl
    have d3 : w1.cell? ⟨w.heap.size, 3, none⟩ = some vk := by rw [Lib.cell_of_heap g5]; rfl
    have d4 : w1.cell? ⟨w.heap.size, 4, none⟩ = some (.string (B a.data)) := by rw [Lib.cell_of_heap g5]; rfl
    have hs5 := size_B (dataT a)
    clear hd1 hbx1 g5 hw1
    generalize hga : w.heap.size = ga at *
    have Hga := Lib.hid hga
    clear hga
    go_wp2
    go_region_held3 (fun w' => w'.cell? ⟨ga, 0, none⟩ = some (.int .i64 a.op) ∧ w'.cell? ⟨ga, 1, none⟩ = some (.int .i64 a.pos) ∧ w'.cell? ⟨ga, 2, none⟩ = some (.int .i64 a.n) ∧ w'.cell? ⟨ga, 3, none⟩ = some vk ∧ w'.cell? ⟨ga, 4, none⟩ = some (.string (B a.data)))
      (first | assumption | exact ⟨d0, d1, d2, d3, d4⟩ | exact h5_call hbv (by assumption) | exact h5_chg hc5 Hne.out (by assumption))
      (first
        | (go_at_call 29
           refine (Hda.out _).mono ?_
           rintro e w4 ⟨rfl, hbv⟩
           have HB4 : Hid (Below w1.heap.size w1 w4) := Lib.hid (by first | exact hbv | exact step_call (below_drew _) hbv))
        | (go_at_call 27
           refine (dev_Write d a.pos (B (dataT a)) g od op _ (Hd1.out.below HB4.out) Hok.out (by omega) HAok.out.pos0 HAok.out.pos1 (by omega)).mono ?_
           rintro e w5 ⟨rfl, op5, hd5, ho5, hc5⟩
           have HM := Lib.hid (Mut.after (step_call (by rw [Hga.out]; exact Hb1.out) HB4.out) (show Mut 64 _ w5 g od op _ from ⟨op5, hd5, ho5, hc5⟩))))
    all_goals
      go_wp2
      go_ret2
      refine ⟨by rw [HF.out.1, HF.out.2.1]; rfl, ?_⟩
      rw [HF.out.2.2]
      exact HM.out
end Go.Proofs.Ytbcagddgchpheaa
