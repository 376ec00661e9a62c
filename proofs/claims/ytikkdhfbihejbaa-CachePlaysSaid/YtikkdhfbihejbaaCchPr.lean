/- Chapter 6: a cache and the document's answer side by side. No conditions. -/
import Derived.Test.YtikkdhfbihejbaaCchO
import Derived.Test.YtikkdhfbihejbaaCchMo
namespace Go.Proofs.Ytikkdhfbihejbaa
open Go.RowKit Go.Cch Go.Shelf

def Pair (w0 w : World) (cb rb : Nat) (v : Value) (c r : Ch) (N : Nat) : Prop :=
  ∃ O, OwnK w0 w cb c N O ∧ RAt w w0.heap.size rb v r ∧ (∀ k, O k → ¬ ownR rb v k) ∧ Below w0.heap.size w0 w
section
variable {w0 w w' : World} {cb rb N : Nat} {v : Value} {c r : Ch}
theorem Pair.below (h : Pair w0 w cb rb v c r N) : Below w0.heap.size w0 w := by obtain ⟨O, a1, a2, a3, a4⟩ := h; exact a4
theorem Pair.ref (h : Pair w0 w cb rb v c r N) : RAt w w0.heap.size rb v r := by obtain ⟨O, a1, a2, a3, a4⟩ := h; exact a2
theorem Pair.live (h : Pair w0 w cb rb v c r N) : LiveK w0 w none 0 cb c N (ownR rb v) := by
  obtain ⟨O, a1, a2, a3, a4⟩ := h
  exact a1.live (fun k hk => ⟨a2.lt hk, fun ho => a3 k ho hk⟩)
theorem Pair.left {c' : Ch} {N' : Nat} (h : Pair w0 w cb rb v c r N) (hl : LiveK w0 w' none 0 cb c' N' (ownR rb v)) (hk : Keeps (ownR rb v) w w') : Pair w0 w' cb rb v c' r N' := by
  obtain ⟨O, a1, a2, a3, a4⟩ := h
  obtain ⟨O', b1, b2⟩ := hl.own
  have hb := hl.below
  refine ⟨O', b1, a2.keep (A := fun k => ¬ ownR rb v k) ⟨hb.os.trans a4.os.symm, hb.tape.trans a4.tape.symm, hb.output.trans a4.output.symm, hk.1, fun k _ hn => hk.2 k (Classical.byContradiction hn)⟩ (fun k hk hn => hn hk), fun k h1 => (b2 k h1).1, hb⟩
theorem Pair.right {r' : Ch} (h : Pair w0 w cb rb v c r N) (hm : MutR w w' w0.heap.size rb v r') : ∃ v', Pair w0 w' cb rb v' c r' N := by
  obtain ⟨O, a1, a2, a3, a4⟩ := h
  obtain ⟨v', b1, b2, g⟩ := hm
  have hb : Below w0.heap.size w0 w' := ⟨g.os.trans a4.os, g.tape.trans a4.tape, g.output.trans a4.output, Nat.le_trans a4.size g.size, fun k hk => (g.block k (Nat.lt_of_lt_of_le hk a4.size) (fun ho => by have := a2.ge ho; omega)).trans (a4.block k hk)⟩
  refine ⟨v', O, a1.keep g.size (fun k hk => g.block k (a1.lt hk) (a3 k hk)) hb, b1, fun k hk ho => ?_, hb⟩
  rcases b2 k ho with h | h
  · exact a3 k hk h
  · have := a1.lt hk; omega
theorem dirty_len {c : Ch} (h1 : c.Ok) (h2 : c.most ≤ 1024) : ((dirtyC c).map wrOf).length ≤ 1024 := by
  rw [List.length_map, (dirty_perm c).length_eq]
  exact Nat.le_trans (List.length_filter_le _ _) (Nat.le_trans h1.many h2)
theorem pair_new {M : Nat} (h : LiveK w0 w none 0 cb (newC M) N (fun _ => False)) : Pair w0 (w.alloc (.cells #[.slice none 0 0, .int .i64 ((M : Nat) : Int), .int .i64 0] 53)) cb w.heap.size (.slice none 0 0) (newC M) (newC M) N := by
  obtain ⟨O, b1, b2⟩ := h.own
  have hb := step_new h.below (.cells #[.slice none 0 0, .int .i64 ((M : Nat) : Int), .int .i64 0] 53)
  refine ⟨O, b1.keep (by rw [World.size_alloc]; omega) (fun k hk => heap_alloc_old w _ (b2 k hk).2) hb, new_rat w M _ h.below.size, fun k hk ho => ?_, hb⟩
  have := (b2 k hk).2
  rcases ho with h | h
  · omega
  · cases h
end
end Go.Proofs.Ytikkdhfbihejbaa
