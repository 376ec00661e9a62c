/- Chapter 8: the two readers' numbers: (*inode.reader).number, (*codexref8.Reader).number. Conditions: the bytes are few, the bound is small. -/
import Derived.Test.YteemloillnfaeaaDoorInoJ
import Derived.Test.YteemloillnfaeaaDoorWireToText
import Derived.Test.YteemloillnfaeaaDoorRef2Text
namespace Go.Proofs.YteemloillnfaeaaDoor
open Go.RowKit Go.Wir Go.Ino

/-- A reader in memory; bad tells whether something was not there. -/
def RdS (w : World) (rb : Nat) (st : St) : Prop := w.heap[rb]? = some (.cells #[.string (B st.1), .bool st.2] 67 (0, 0))
def RdQ (w : World) (rb : Nat) (st : St) : Prop := w.heap[rb]? = some (.cells #[.string (B st.1), .bool (!st.2)] 73 (0, 0))
theorem RdS.lt {w : World} {rb : Nat} {st : St} (h : RdS w rb st) : rb < w.heap.size := by
  rcases Nat.lt_or_ge rb w.heap.size with h' | h'
  · exact h'
  · unfold RdS at h; rw [Array.getElem?_eq_none h'] at h; cases h
theorem RdQ.lt {w : World} {rb : Nat} {st : St} (h : RdQ w rb st) : rb < w.heap.size := by
  rcases Nat.lt_or_ge rb w.heap.size with h' | h'
  · exact h'
  · unfold RdQ at h; rw [Array.getElem?_eq_none h'] at h; cases h
theorem RdS.below {w w' : World} {rb : Nat} {st : St} (h : RdS w rb st) (hb : Below w.heap.size w w') : RdS w' rb st := (hb.block rb h.lt).trans h
theorem RdQ.below {w w' : World} {rb : Nat} {st : St} (h : RdQ w rb st) (hb : Below w.heap.size w w') : RdQ w' rb st := (hb.block rb h.lt).trans h
theorem RdS.c0 {w : World} {rb : Nat} {l : Tx} {b : Bool} (h : RdS w rb (l, b)) : w.cell? ⟨rb, 0, none⟩ = some (.string (B l)) := by unfold RdS at h; rw [Lib.cell_of_heap h]; rfl
theorem RdS.c1 {w : World} {rb : Nat} {l : Tx} {b : Bool} (h : RdS w rb (l, b)) : w.cell? ⟨rb, 1, none⟩ = some (.bool b) := by unfold RdS at h; rw [Lib.cell_of_heap h]; rfl
theorem RdS.f0 {w : World} {rb : Nat} {st : St} (h : RdS w rb st) : w.frozen? ⟨rb, 0, none⟩ = false := Lib.frozen_of_heap h 0
theorem RdS.f1 {w : World} {rb : Nat} {st : St} (h : RdS w rb st) : w.frozen? ⟨rb, 1, none⟩ = false := Lib.frozen_of_heap h 1
theorem RdS.set0 {w : World} {rb : Nat} {l : Tx} {b : Bool} (h : RdS w rb (l, b)) (r : Tx) : RdS (w.setCell ⟨rb, 0, none⟩ (.string (B r))) rb (r, b) := by
  unfold RdS at *; simp [World.setCell, Array.getElem?_modify, h]
theorem RdS.set1 {w : World} {rb : Nat} {l : Tx} {b : Bool} (h : RdS w rb (l, b)) : RdS (w.setCell ⟨rb, 1, none⟩ (.bool true)) rb (l, true) := by
  unfold RdS at *; simp [World.setCell, Array.getElem?_modify, h]
theorem RdQ.c0 {w : World} {rb : Nat} {l : Tx} {b : Bool} (h : RdQ w rb (l, b)) : w.cell? ⟨rb, 0, none⟩ = some (.string (B l)) := by unfold RdQ at h; rw [Lib.cell_of_heap h]; rfl
theorem RdQ.c1 {w : World} {rb : Nat} {l : Tx} {b : Bool} (h : RdQ w rb (l, b)) : w.cell? ⟨rb, 1, none⟩ = some (.bool (!b)) := by unfold RdQ at h; rw [Lib.cell_of_heap h]; rfl
theorem RdQ.f0 {w : World} {rb : Nat} {st : St} (h : RdQ w rb st) : w.frozen? ⟨rb, 0, none⟩ = false := Lib.frozen_of_heap h 0
theorem RdQ.f1 {w : World} {rb : Nat} {st : St} (h : RdQ w rb st) : w.frozen? ⟨rb, 1, none⟩ = false := Lib.frozen_of_heap h 1
theorem RdQ.set0 {w : World} {rb : Nat} {l : Tx} {b : Bool} (h : RdQ w rb (l, b)) (r : Tx) : RdQ (w.setCell ⟨rb, 0, none⟩ (.string (B r))) rb (r, b) := by
  unfold RdQ at *; simp [World.setCell, Array.getElem?_modify, h]
theorem RdQ.set1 {w : World} {rb : Nat} {l : Tx} {b : Bool} (h : RdQ w rb (l, b)) : RdQ (w.setCell ⟨rb, 1, none⟩ (.bool false)) rb (l, true) := by
  unfold RdQ at *; simp [World.setCell, Array.getElem?_modify, h]
theorem Chg.set {A : Nat → Prop} {w x : World} (h : Chg A w x) (g k : Nat) (v : Value) (hg : A g) : Chg A w (x.setCell ⟨g, k, none⟩ v) :=
  ⟨h.os, h.tape, h.output, by have := h.size; simpa [World.setCell] using this, fun j hj hA => (Below.heap_setCell _ _ _ _ (fun e => hA (by subst e; exact hg))).trans (h.block j hj hA)⟩
theorem Chg.drewN {A : Nat → Prop} {w x : World} (h : Chg A w x) (n : Nat) : Chg A w (x.drewN n) :=
  have d := below_drewN (Below.refl x.heap.size x) n
  ⟨d.os.trans h.os, d.tape.trans h.tape, d.output.trans h.output, Nat.le_trans h.size d.size, fun k hk hA => (d.block k (Nat.lt_of_lt_of_le hk h.size)).trans (h.block k hk hA)⟩
theorem numS_in {most : Nat} {l : Tx} {n : Nat} {r : Tx} (h : toVarL l = some (n, r)) (hn : n ≤ most) : numS most (l, false) = (n, r, false) := numS_ok (by unfold numL; rw [h]; simp [hn])
theorem numS_out {most : Nat} {l : Tx} {n : Nat} {r : Tx} (h : toVarL l = some (n, r)) (hn : ¬ n ≤ most) (b : Bool) : numS most (l, b) = (0, l, true) := numS_no (by unfold numL; rw [h]; simp [hn]) b
theorem numS_none {most : Nat} {l : Tx} (h : toVarL l = none) (b : Bool) : numS most (l, b) = (0, l, true) := numS_no (by unfold numL; rw [h]) b
theorem numQ_in {most : Nat} {l : Tx} {n : Nat} {r : Tx} (h : toVarL l = some (n, r)) (hn : n ≤ most) (b : Bool) : numQ most (l, b) = (n, r, b) := numQ_ok (by unfold numL; rw [h]; simp [hn]) b
theorem numQ_out {most : Nat} {l : Tx} {n : Nat} {r : Tx} (h : toVarL l = some (n, r)) (hn : ¬ n ≤ most) (b : Bool) : numQ most (l, b) = (0, l, true) := numQ_no (by unfold numL; rw [h]; simp [hn]) b
theorem numQ_none {most : Nat} {l : Tx} (h : toVarL l = none) (b : Bool) : numQ most (l, b) = (0, l, true) := numQ_no (by unfold numL; rw [h]) b
set_option maxRecDepth 100000 in
set_option maxHeartbeats 1600000 in
theorem ino_num (most : Nat) (hm : most ≤ 2147483647) (rb : Nat) (st : St) (hl : st.1.length ≤ 1000000) (w : World) (h : RdS w rb st) :
    Calls Tryd.prog 32 #[.pointer (some ⟨rb, 0, none⟩), .int .i64 (most : Nat)] w fun e w' => e = .returned (.int .i64 ((numS most st).1 : Nat)) ∧ RdS w' rb (numS most st).2 ∧ Chg (fun k => k = rb) w w' := by
  obtain ⟨l, bad⟩ := st
  have q1 : IntKind.u64.wrap (most : Int) = (most : Int) := by rw [IntKind.wrap_u64]; omega
  have c0 := h.c0
  have hs : (B l).size ≤ 9223372036854775807 := by rw [size_B]; simp only at hl; omega
  have HR := Lib.hid h
  clear h
  cases hv : toVarL l with
  | none =>
    have HN := Lib.hid (numS_none (most := most) hv bad)
    have HV := Lib.hid (fun w0 => wire_ToVar_none (B l) hs (by rw [L_B]; exact hv) w0)
    clear hv hl
    cases bad
    all_goals
      go_enter Tryd.func32, Tryd.ntmps32
      go_wp2_with fail
      refine (HV.out _).mono ?_
      rintro e w1 ⟨rfl, hb⟩
      have HC := Lib.hid (Chg.of_below (A := fun k => k = rb) hb)
      have hR1 := HR.out.below hb
      have d1 := hR1.c1
      have g1 := hR1.f1
      have HR1 := Lib.hid hR1
      clear hb hR1
      go_wp2
      go_ret
      exact ⟨by rw [HN.out]; rfl, by rw [HN.out]; exact HR1.out.set1, HC.out.set rb 1 _ rfl⟩
  | some x =>
    obtain ⟨n, r⟩ := x
    have HV := Lib.hid (fun w0 => wire_ToVar_some (B l) n r hs (by rw [L_B]; exact hv) w0)
    by_cases hn : n ≤ most
    · have k1 : ¬ (n : Int) > (most : Int) := by omega
      have q2 : IntKind.i64.wrap (n : Int) = (n : Int) := IntWalk.i64_in _ (by omega)
      cases bad
      · have HN := Lib.hid (numS_in hv hn)
        clear hv hl hn
        go_enter Tryd.func32, Tryd.ntmps32
        go_wp2_with fail
        refine (HV.out _).mono ?_
        rintro e w1 ⟨rfl, hb⟩
        have HC := Lib.hid (Chg.of_below (A := fun k => k = rb) hb)
        have hR1 := HR.out.below hb
        have d1 := hR1.c1
        have g1 := hR1.f0
        have d0 := hR1.c0
        have HR1 := Lib.hid hR1
        clear hb hR1
        go_wp2
        go_ret
        exact ⟨by rw [HN.out]; rfl, by rw [HN.out]; exact HR1.out.set0 r, HC.out.set rb 0 _ rfl⟩
      · have HN := Lib.hid (numS_bad most l)
        clear hv hl hn
        go_enter Tryd.func32, Tryd.ntmps32
        go_wp2_with fail
        refine (HV.out _).mono ?_
        rintro e w1 ⟨rfl, hb⟩
        have HC := Lib.hid (Chg.of_below (A := fun k => k = rb) hb)
        have hR1 := HR.out.below hb
        have d1 := hR1.c1
        have g1 := hR1.f1
        have HR1 := Lib.hid hR1
        clear hb hR1
        go_wp2
        go_ret
        exact ⟨by rw [HN.out]; rfl, by rw [HN.out]; exact HR1.out.set1, HC.out.set rb 1 _ rfl⟩
    · have k1 : (n : Int) > (most : Int) := by omega
      have HN := Lib.hid (numS_out (most := most) hv hn bad)
      clear hv hl hn
      cases bad
      all_goals
        go_enter Tryd.func32, Tryd.ntmps32
        go_wp2_with fail
        refine (HV.out _).mono ?_
        rintro e w1 ⟨rfl, hb⟩
        have HC := Lib.hid (Chg.of_below (A := fun k => k = rb) hb)
        have hR1 := HR.out.below hb
        have d1 := hR1.c1
        have g1 := hR1.f1
        have HR1 := Lib.hid hR1
        clear hb hR1
        go_wp2
        go_ret
        exact ⟨by rw [HN.out]; rfl, by rw [HN.out]; exact HR1.out.set1, HC.out.set rb 1 _ rfl⟩
set_option maxRecDepth 100000 in
set_option maxHeartbeats 1600000 in
theorem ref8_num (most : Nat) (hm : most ≤ 2147483647) (rb : Nat) (st : St) (hl : st.1.length ≤ 1000000) (w : World) (h : RdQ w rb st) :
    Calls Tryd.prog 35 #[.pointer (some ⟨rb, 0, none⟩), .int .i64 (most : Nat)] w fun e w' => e = .returned (.int .i64 ((numQ most st).1 : Nat)) ∧ RdQ w' rb (numQ most st).2 ∧ Chg (fun k => k = rb) w w' := by
  obtain ⟨l, bad⟩ := st
  have q1 : IntKind.u64.wrap (most : Int) = (most : Int) := by rw [IntKind.wrap_u64]; omega
  have c0 := h.c0
  have hs : (B l).size ≤ 9223372036854775807 := by rw [size_B]; simp only at hl; omega
  have HR := Lib.hid h
  clear h
  cases hv : toVarL l with
  | none =>
    have HN := Lib.hid (numQ_none (most := most) hv bad)
    have HV := Lib.hid (fun w0 => ref2_ToVar_none (B l) hs (by rw [L_B]; exact hv) w0)
    clear hv hl
    cases bad
    all_goals
      go_enter Tryd.func35, Tryd.ntmps35
      go_wp2_with fail
      refine (HV.out _).mono ?_
      rintro e w1 ⟨rfl, hb⟩
      have HC := Lib.hid (Chg.of_below (A := fun k => k = rb) hb)
      have hR1 := HR.out.below hb
      have d1 := hR1.c1
      have g1 := hR1.f1
      have HR1 := Lib.hid hR1
      clear hb hR1
      go_wp2
      go_ret
      exact ⟨by rw [HN.out]; rfl, by rw [HN.out]; exact HR1.out.set1, HC.out.set rb 1 _ rfl⟩
  | some x =>
    obtain ⟨n, r⟩ := x
    have HV := Lib.hid (fun w0 => ref2_ToVar_some (B l) n r hs (by rw [L_B]; exact hv) w0)
    by_cases hn : n ≤ most
    · have k1 : ¬ (n : Int) > (most : Int) := by omega
      have q2 : IntKind.i64.wrap (n : Int) = (n : Int) := IntWalk.i64_in _ (by omega)
      have HN := Lib.hid (numQ_in hv hn bad)
      clear hv hl hn
      go_enter Tryd.func35, Tryd.ntmps35
      go_wp2_with fail
      refine (HV.out _).mono ?_
      rintro e w1 ⟨rfl, hb⟩
      have HC := Lib.hid (Chg.of_below (A := fun k => k = rb) hb)
      have hR1 := HR.out.below hb
      have g1 := hR1.f0
      have d0 := hR1.c0
      have HR1 := Lib.hid hR1
      clear hb hR1
      go_wp2
      go_ret
      exact ⟨by rw [HN.out]; rfl, by rw [HN.out]; exact HR1.out.set0 r, HC.out.set rb 0 _ rfl⟩
    · have k1 : (n : Int) > (most : Int) := by omega
      have HN := Lib.hid (numQ_out (most := most) hv hn bad)
      clear hv hl hn
      cases bad
      all_goals
        go_enter Tryd.func35, Tryd.ntmps35
        go_wp2_with fail
        refine (HV.out _).mono ?_
        rintro e w1 ⟨rfl, hb⟩
        have HC := Lib.hid (Chg.of_below (A := fun k => k = rb) hb)
        have hR1 := HR.out.below hb
        have d1 := hR1.c1
        have g1 := hR1.f1
        have HR1 := Lib.hid hR1
        clear hb hR1
        go_wp2
        go_ret
        exact ⟨by rw [HN.out]; rfl, by rw [HN.out]; exact HR1.out.set1, HC.out.set rb 1 _ rfl⟩
end Go.Proofs.YteemloillnfaeaaDoor
