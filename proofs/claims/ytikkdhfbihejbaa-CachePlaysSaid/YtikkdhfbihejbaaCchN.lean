/- Chapter 6: a live cache beside blocks that change; its dirty blocks; what CacheTells asks. Conditions: the numbers are small. -/
import Derived.Test.YtikkdhfbihejbaaCchK
import Derived.Test.YtikkdhfbihejbaaCchE
import Derived.Test.YtikkdhfbihejbaaStepAny
namespace Go.Cch
theorem does_put (c : Ch) (a : Act) (h : a.kind = 4 ∨ a.kind = 5) : does c a = (([], (putC c a.block a.data).1), (putC c a.block a.data).2) := by unfold does; rw [if_pos h]
theorem does_pin (c : Ch) (a : Act) (h : a.kind = 6) : does c a = (([], (pinC c a.block).1), (pinC c a.block).2) := by unfold does; rw [if_neg (by omega), if_pos h]
theorem does_unpin (c : Ch) (a : Act) (h : a.kind = 7) : does c a = (([], (unpinC c a.block).1), (unpinC c a.block).2) := by unfold does; rw [if_neg (by omega), if_neg (by omega), if_pos h]
theorem does_drop (c : Ch) (a : Act) (h : a.kind = 9) : does c a = (([], 0), dropC c) := by unfold does; rw [if_neg (by omega), if_neg (by omega), if_neg (by omega), if_neg (by omega), if_pos h]
theorem put_full {c : Ch} {a : Act} (h : (putC c a.block a.data).1 = 0) : a.data = fullT a.byte := by
  unfold putC at h
  by_cases hb : a.bad = true
  · have : a.data = [120] := by unfold Act.data; rw [if_pos hb]
    rw [this] at h
    simp at h
  · unfold Act.data; rw [if_neg hb]
/-- What an act leaves. -/
def nextP (P : List (Int × Tx)) (c : Ch) (a : Act) : List (Int × Tx) :=
  if a.kind = 9 then [] else if (a.kind = 4 ∨ a.kind = 5) ∧ (does c a).1.2 = 0 then P ++ [(a.block, fullT a.byte)] else P
theorem tells_does {c : Ch} {P : List (Int × Tx)} (h : Tells c P) (a : Act) (h8 : a.kind ≠ 8) : Tells (does c a).2 (nextP P c a) := by
  unfold nextP
  rcases (show (a.kind = 4 ∨ a.kind = 5) ∨ a.kind = 6 ∨ a.kind = 7 ∨ a.kind = 9 ∨ a.kind < 4 by have := kind_range a; omega) with hk | hk | hk | hk | hk
  · rw [does_put c a hk, if_neg (by omega)]
    have := tells_put h a.block a.data
    by_cases he : (putC c a.block a.data).1 = 0
    · rw [if_pos ⟨hk, he⟩]
      rw [if_pos he, put_full he] at this
      rw [put_full he]
      exact this
    · rw [if_neg (fun h => he h.2)]
      rw [if_neg he] at this
      exact this
  · rw [does_pin c a hk, if_neg (by omega), if_neg (by omega)]
    exact tells_pin h _
  · rw [does_unpin c a hk, if_neg (by omega), if_neg (by omega)]
    exact tells_unpin h _
  · rw [does_drop c a hk, if_pos hk]
    exact tells_drop h
  · rw [if_neg (by omega), if_neg (fun h => by have := h.1; omega), does_get c a hk]
    exact (tells_get h _).1
theorem tells_told {c : Ch} {P : List (Int × Tx)} (h : Tells c P) (a : Act) (hk : a.kind < 4) (he : (does c a).1.2 = 0) : (does c a).1.1 = wantN P a.block (if srcE a.block = 0 then srcT a.block else []) := by
  rw [does_get c a hk] at he ⊢
  exact (tells_get h a.block).2 he
theorem want_next (P : List (Int × Tx)) (i : Int) (s : Tx) {k : Nat} (hk : k < P.length) : wantN (P.take (k + 1)) i s = if P[k].1 = i then P[k].2 else wantN (P.take k) i s := by
  rw [List.take_succ_eq_append_getElem hk]
  exact want_snoc _ _ _ _ _
theorem nextP_len (P : List (Int × Tx)) (c : Ch) (a : Act) : (nextP P c a).length ≤ P.length + 1 := by
  unfold nextP
  split
  · simp
  · split
    · simp
    · omega
end Go.Cch
namespace Go.Proofs.Ytikkdhfbihejbaa
open Go.RowKit Go.Cch Go.Shelf

theorem LiveK.chg {w0 w w' : World} {o : Option Nat} {n cb N : Nat} {c : Ch} {R R' : Nat → Prop} (h : LiveK w0 w o n cb c N R) (g : Chg R w w') (hR' : ∀ k, R' k → R k ∨ (w.heap.size ≤ k ∧ k < w'.heap.size)) (hlow : ∀ k, R k → w0.heap.size ≤ k) : LiveK w0 w' o n cb c N R' := by
  obtain ⟨mb, clk, M, a1, a2, a3, a4, a5, a6, a7, a8, a9⟩ := h
  refine ⟨mb, clk, M, a1.keep g (fun k hk => (a4 k (.inl hk)).2), src_keep a2 g (fun nb e => (a4 nb (.inr e)).2), a3, fun k hk => ⟨(a4 k hk).1, fun hr => ?_⟩, fun k hk => ?_, ?_, a7, a8, a9⟩
  · rcases hR' k hr with h | h
    · exact (a4 k hk).2 h
    · rcases hk with hk | hk
      · have := a1.lt hk; omega
      · have := src_lt a2 k hk; omega
  · rcases hR' k hk with h | h
    · exact Nat.lt_of_lt_of_le (a5 k h) g.size
    · exact h.2
  · exact ⟨g.os.trans a6.os, g.tape.trans a6.tape, g.output.trans a6.output, Nat.le_trans a6.size g.size, fun k hk => (g.block k (Nat.lt_of_lt_of_le hk a6.size) (fun hr => by have := hlow k hr; omega)).trans (a6.block k hk)⟩
theorem act_new (w : World) (a : Cch.Act) : (w.alloc (.cells #[.int .i64 a.op, .int .i64 a.pos, .int .u8 ((a.byte.toNat : Nat) : Int), .bool a.bad] 35)).cell? ⟨w.heap.size, 0, none⟩ = some (.int .i64 a.op) ∧ (w.alloc (.cells #[.int .i64 a.op, .int .i64 a.pos, .int .u8 ((a.byte.toNat : Nat) : Int), .bool a.bad] 35)).cell? ⟨w.heap.size, 1, none⟩ = some (.int .i64 a.pos) ∧ (w.alloc (.cells #[.int .i64 a.op, .int .i64 a.pos, .int .u8 ((a.byte.toNat : Nat) : Int), .bool a.bad] 35)).cell? ⟨w.heap.size, 2, none⟩ = some (.int .u8 ((a.byte.toNat : Nat) : Int)) ∧ (w.alloc (.cells #[.int .i64 a.op, .int .i64 a.pos, .int .u8 ((a.byte.toNat : Nat) : Int), .bool a.bad] 35)).cell? ⟨w.heap.size, 3, none⟩ = some (.bool a.bad) := by
  refine ⟨?_, ?_, ?_, ?_⟩ <;> (rw [Lib.cell_of_heap (heap_alloc_new w _)]; rfl)
theorem live_Dirty {w0 w : World} {o : Option Nat} {n cb N : Nat} {c : Ch} {R : Nat → Prop} (h : LiveK w0 w o n cb c N R) :
    Calls Try.prog 21 #[.pointer (some ⟨cb, 0, none⟩)] w fun e w' => ∃ v, e = .returned v ∧ WrRow w' v ((dirtyC c).map wrOf) ∧ LiveK w0 w' o n cb c N (fun k => R k ∨ v.ownBlock = some k) ∧ Below w.heap.size w w' ∧ Keeps R w w' := by
  obtain ⟨mb, clk, M, a1, a2, a3, a4, a5, a6, a7, a8, a9⟩ := id h
  refine (cch_Dirty a1 a7.most).mono ?_
  rintro e w' ⟨v, rfl, hown, hb⟩
  have hown' : w'.ownsRow w.heap.size 59 2 v ((dirtyC c).map wrOf).length (wrCells ((dirtyC c).map wrOf)) := by rw [List.length_map]; exact hown
  exact ⟨v, rfl, own_frow wrC_len hown', h.more hb _ (fun k hk => hown.lt k hk), hb, (h.call hb).2⟩
end Go.Proofs.Ytikkdhfbihejbaa
