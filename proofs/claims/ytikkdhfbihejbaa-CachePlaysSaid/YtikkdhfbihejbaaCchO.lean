/- Chapter 6: two caches side by side. No conditions. -/
import Derived.Test.YtikkdhfbihejbaaCchN
namespace Go.Proofs.Ytikkdhfbihejbaa
open Go.RowKit Go.Cch Go.Shelf

/-- A cache whose blocks are O. -/
def OwnK (w0 w : World) (cb : Nat) (c : Ch) (N : Nat) (O : Nat → Prop) : Prop :=
  ∃ mb clk M, CAt w (srcV none) cb mb clk c M ∧ (∀ k, O k ↔ ownC cb mb M k) ∧ (∀ k, O k → w0.heap.size ≤ k) ∧ Below w0.heap.size w0 w ∧ Small c N ∧ clk ≤ N
section
variable {w0 w w' : World} {cb N N' : Nat} {c : Ch} {O R R' : Nat → Prop}
theorem OwnK.live (h : OwnK w0 w cb c N O) (hR : ∀ k, R k → k < w.heap.size ∧ ¬ O k) : LiveK w0 w none 0 cb c N R := by
  obtain ⟨mb, clk, M, a1, a2, a3, a4, a5, a6⟩ := h
  refine ⟨mb, clk, M, a1, trivial, fun _ e => (by cases e), fun k hk => ?_, fun k hk => (hR k hk).1, a4, a5, a6, Nat.zero_le _⟩
  rcases hk with hk | hk
  · exact ⟨a3 k ((a2 k).2 hk), fun hr => (hR k hr).2 ((a2 k).2 hk)⟩
  · cases hk
theorem LiveK.own (h : LiveK w0 w none 0 cb c N R) : ∃ O, OwnK w0 w cb c N O ∧ ∀ k, O k → ¬ R k ∧ k < w.heap.size := by
  obtain ⟨mb, clk, M, a1, a2, a3, a4, a5, a6, a7, a8, a9⟩ := h
  exact ⟨ownC cb mb M, ⟨mb, clk, M, a1, fun _ => Iff.rfl, fun k hk => (a4 k (.inl hk)).1, a6, a7, a8⟩, fun k hk => ⟨(a4 k (.inl hk)).2, a1.lt hk⟩⟩
theorem OwnK.lt (h : OwnK w0 w cb c N O) {k : Nat} (hk : O k) : k < w.heap.size := by
  obtain ⟨mb, clk, M, a1, a2, -⟩ := h
  exact a1.lt ((a2 k).1 hk)
theorem OwnK.mono (h : OwnK w0 w cb c N O) (hN : N ≤ N') : OwnK w0 w cb c N' O := by
  obtain ⟨mb, clk, M, a1, a2, a3, a4, a5, a6⟩ := h
  exact ⟨mb, clk, M, a1, a2, a3, a4, a5.mono hN, by omega⟩
theorem OwnK.keep (h : OwnK w0 w cb c N O) (hs : w.heap.size ≤ w'.heap.size) (hk : ∀ k, O k → w'.heap[k]? = w.heap[k]?) (hb : Below w0.heap.size w0 w') : OwnK w0 w' cb c N O := by
  obtain ⟨mb, clk, M, a1, a2, a3, a4, a5, a6⟩ := h
  refine ⟨mb, clk, M, a1.keep (A := fun k => ¬ O k) ⟨hb.os.trans a4.os.symm, hb.tape.trans a4.tape.symm, hb.output.trans a4.output.symm, hs, fun k _ hk2 => hk k (Classical.byContradiction hk2)⟩ (fun k hk hn => hn ((a2 k).2 hk)), a2, a3, hb, a5, a6⟩
theorem OwnK.base {w1 : World} (h : OwnK w1 w cb c N O) (hb : Below w0.heap.size w0 w1) : OwnK w0 w cb c N O := by
  obtain ⟨mb, clk, M, a1, a2, a3, a4, a5, a6⟩ := h
  exact ⟨mb, clk, M, a1, a2, fun k hk => Nat.le_trans hb.size (a3 k hk), step_call hb a4, a5, a6⟩
theorem LiveK.keys (h : LiveK w0 w none 0 cb c N R) : ∀ x ∈ c.l, keyI x.pos := by
  obtain ⟨mb, clk, M, a1, -⟩ := h
  intro x hx
  rw [← a1.list] at hx
  obtain ⟨e, he, rfl⟩ := List.mem_map.1 hx
  exact a1.keys e he
end
/-- Two caches, and the blocks R beside them. -/
def Two (w0 w : World) (cb1 : Nat) (c1 : Ch) (cb2 : Nat) (c2 : Ch) (N : Nat) (R : Nat → Prop) : Prop :=
  ∃ O1 O2, OwnK w0 w cb1 c1 N O1 ∧ OwnK w0 w cb2 c2 N O2 ∧ (∀ k, O1 k → ¬ O2 k) ∧ (∀ k, R k → k < w.heap.size ∧ ¬ O1 k ∧ ¬ O2 k) ∧ Below w0.heap.size w0 w
section
variable {w0 w w' : World} {cb1 cb2 N : Nat} {c1 c2 : Ch} {R R' : Nat → Prop}
theorem Two.symm (h : Two w0 w cb1 c1 cb2 c2 N R) : Two w0 w cb2 c2 cb1 c1 N R := by
  obtain ⟨O1, O2, a1, a2, a3, a4, a5⟩ := h
  exact ⟨O2, O1, a2, a1, fun k h2 h1 => a3 k h1 h2, fun k hk => ⟨(a4 k hk).1, (a4 k hk).2.2, (a4 k hk).2.1⟩, a5⟩
theorem Two.below (h : Two w0 w cb1 c1 cb2 c2 N R) : Below w0.heap.size w0 w := by obtain ⟨O1, O2, a1, a2, a3, a4, a5⟩ := h; exact a5
theorem Two.less (h : Two w0 w cb1 c1 cb2 c2 N R) (hR : ∀ k, R' k → R k) : Two w0 w cb1 c1 cb2 c2 N R' := by
  obtain ⟨O1, O2, a1, a2, a3, a4, a5⟩ := h
  exact ⟨O1, O2, a1, a2, a3, fun k hk => a4 k (hR k hk), a5⟩
theorem Two.call (h : Two w0 w cb1 c1 cb2 c2 N R) (b : Below w.heap.size w w') : Two w0 w' cb1 c1 cb2 c2 N R := by
  obtain ⟨O1, O2, a1, a2, a3, a4, a5⟩ := h
  have hb := step_call a5 b
  exact ⟨O1, O2, a1.keep b.size (fun k hk => b.block k (a1.lt hk)) hb, a2.keep b.size (fun k hk => b.block k (a2.lt hk)) hb, a3, fun k hk => ⟨Nat.lt_of_lt_of_le (a4 k hk).1 b.size, (a4 k hk).2⟩, hb⟩
theorem Two.more (h : Two w0 w cb1 c1 cb2 c2 N R) (b : Below w.heap.size w w') (S : Nat → Prop) (hS : ∀ k, S k → w.heap.size ≤ k ∧ k < w'.heap.size) : Two w0 w' cb1 c1 cb2 c2 N (fun k => R k ∨ S k) := by
  obtain ⟨O1, O2, a1, a2, a3, a4, a5⟩ := id h
  have h' := h.call b
  obtain ⟨O1, O2, b1, b2, b3, b4, b5⟩ := h
  have hb := step_call b5 b
  refine ⟨O1, O2, b1.keep b.size (fun k hk => b.block k (b1.lt hk)) hb, b2.keep b.size (fun k hk => b.block k (b2.lt hk)) hb, b3, fun k hk => ?_, hb⟩
  rcases hk with hk | hk
  · exact ⟨Nat.lt_of_lt_of_le (b4 k hk).1 b.size, (b4 k hk).2⟩
  · have := hS k hk
    exact ⟨this.2, fun h1 => by have := b1.lt h1; omega, fun h2 => by have := b2.lt h2; omega⟩
/-- The first of them, alone. -/
theorem Two.left (h : Two w0 w cb1 c1 cb2 c2 N R) : ∃ R1, (∀ k, R k → R1 k) ∧ LiveK w0 w none 0 cb1 c1 N R1 ∧ ∀ w' c1' N', N ≤ N' → LiveK w0 w' none 0 cb1 c1' N' R1 → Keeps R1 w w' → Two w0 w' cb1 c1' cb2 c2 N' R := by
  obtain ⟨O1, O2, a1, a2, a3, a4, a5⟩ := h
  refine ⟨fun k => R k ∨ O2 k, fun k hk => .inl hk, a1.live (fun k hk => ?_), fun w' c1' N' hN hl hk => ?_⟩
  · rcases hk with hk | hk
    · exact ⟨(a4 k hk).1, (a4 k hk).2.1⟩
    · exact ⟨a2.lt hk, fun h1 => a3 k h1 hk⟩
  · obtain ⟨O1', b1, b2⟩ := hl.own
    exact ⟨O1', O2, b1, (a2.mono hN).keep hk.1 (fun k h2 => hk.2 k (.inr h2)) hl.below, fun k h1 h2 => (b2 k h1).1 (.inr h2), fun k hr => ⟨Nat.lt_of_lt_of_le (a4 k hr).1 hk.1, fun h1 => (b2 k h1).1 (.inl hr), (a4 k hr).2.2⟩, hl.below⟩
theorem Two.right (h : Two w0 w cb1 c1 cb2 c2 N R) : ∃ R2, (∀ k, R k → R2 k) ∧ LiveK w0 w none 0 cb2 c2 N R2 ∧ ∀ w' c2' N', N ≤ N' → LiveK w0 w' none 0 cb2 c2' N' R2 → Keeps R2 w w' → Two w0 w' cb1 c1 cb2 c2' N' R := by
  obtain ⟨R2, h1, h2, h3⟩ := h.symm.left
  exact ⟨R2, h1, h2, fun w' c2' N' hN hl hk => (h3 w' c2' N' hN hl hk).symm⟩
theorem live_Dirty2 {o : Option Nat} {n cb : Nat} {c : Ch} (h : LiveK w0 w o n cb c N R) :
    Calls Try.prog 21 #[.pointer (some ⟨cb, 0, none⟩)] w fun e w' => ∃ v, e = .returned v ∧ WrRow w' v ((dirtyC c).map wrOf) ∧ (∀ k, v.ownBlock = some k → w.heap.size ≤ k ∧ k < w'.heap.size) ∧ Below w.heap.size w w' := by
  obtain ⟨mb, clk, M, a1, a2, a3, a4, a5, a6, a7, a8, a9⟩ := h
  refine (cch_Dirty a1 a7.most).mono ?_
  rintro e w' ⟨v, rfl, hown, hb⟩
  have hown' : w'.ownsRow w.heap.size 59 2 v ((dirtyC c).map wrOf).length (wrCells ((dirtyC c).map wrOf)) := by rw [List.length_map]; exact hown
  exact ⟨v, rfl, own_frow wrC_len hown', fun k hk => hown.lt k hk, hb⟩
/-- A second cache is made. -/
theorem two_new {w1 w2 : World} {M : Nat} (h1 : LiveK w0 w1 none 0 cb1 c1 N (fun _ => False)) (hb : Below w1.heap.size w1 w2) (h2 : LiveK w1 w2 none 0 cb2 c2 M (fun _ => False)) (hM : M ≤ N) : Two w0 w2 cb1 c1 cb2 c2 N (fun _ => False) := by
  obtain ⟨O1, b1, b2⟩ := h1.own
  obtain ⟨O2, d1, d2⟩ := h2.own
  have hbb := step_call h1.below hb
  refine ⟨O1, O2, b1.keep hb.size (fun k hk => hb.block k (b1.lt hk)) hbb, (d1.mono hM).base h1.below, fun k h1 h2 => ?_, fun k hk => hk.elim, hbb⟩
  have e1 := b1.lt h1
  obtain ⟨_, _, _, _, _, a3, _⟩ := d1
  have := a3 k h2
  omega
end
end Go.Proofs.Ytikkdhfbihejbaa
