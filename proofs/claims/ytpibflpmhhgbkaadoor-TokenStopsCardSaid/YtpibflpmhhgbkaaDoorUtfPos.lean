/- Where the pieces of a text stand, plain. No conditions. -/
import Derived.Test.YtpibflpmhhgbkaaDoorUtfK
namespace Go.Utf
open Go.Lib
/-- Where the k-th piece begins. -/
def atC (l : List UInt8) (k : Nat) : Nat := (joinC ((chunks l).take k)).length
theorem atC_zero (l : List UInt8) : atC l 0 = 0 := by unfold atC; rw [List.take_zero]; rfl
theorem drop_atC (l : List UInt8) (k : Nat) : l.drop (atC l k) = joinC ((chunks l).drop k) := by
  have h := drop_join ((chunks l).take k) ((chunks l).drop k)
  rw [List.take_append_drop, chunks_join] at h
  exact h
theorem chunks_tail {l : List UInt8} (c : Int × List UInt8) (cs : List (Int × List UInt8)) (h : chunks l = c :: cs) : readL l = (c.1, c.2.length) ∧ chunks (l.drop c.2.length) = cs := by
  by_cases hl : l = []
  · subst hl; rw [chunks_nil] at h; cases h
  · rw [chunks_cons hl] at h
    obtain ⟨h1, h2⟩ := List.cons.inj h
    have hle := readL_le hl
    have hn : c.2.length = (readL l).2 := by rw [← h1]; simp only [List.length_take]; omega
    exact ⟨by rw [hn, ← h1], by rw [hn]; exact h2⟩
theorem chunks_at (l : List UInt8) (k : Nat) (hk : k ≤ (chunks l).length) : chunks (joinC ((chunks l).drop k)) = (chunks l).drop k := by
  induction k with
  | zero => rw [List.drop_zero, chunks_join]
  | succ k ih =>
    have ih := ih (by omega)
    have hd : (chunks l).drop k = (chunks l)[k] :: (chunks l).drop (k + 1) := (List.drop_eq_getElem_cons (by omega))
    rw [hd] at ih
    obtain ⟨h1, h2⟩ := chunks_tail _ _ ih
    rw [joinC_cons, List.drop_left] at h2
    exact h2
/-- The k-th piece, as it is told and as it is read. -/
theorem piece_at (l : List UInt8) (k : Nat) (hk : k < (chunks l).length) : readL (l.drop (atC l k)) = ((chunks l)[k].1, (chunks l)[k].2.length) ∧ atC l (k + 1) = atC l k + (chunks l)[k].2.length ∧ atC l (k + 1) ≤ l.length := by
  have hd : (chunks l).drop k = (chunks l)[k] :: (chunks l).drop (k + 1) := (List.drop_eq_getElem_cons hk)
  have h1 := chunks_at l k (by omega)
  rw [← drop_atC] at h1
  rw [hd] at h1
  refine ⟨(chunks_tail _ _ h1).1, ?_, ?_⟩
  · unfold atC
    rw [List.take_succ_eq_append_getElem hk, joinC_append, List.length_append]
    simp [joinC]
  · unfold atC
    conv => rhs; rw [← chunks_join l, ← List.take_append_drop (k + 1) (chunks l), joinC_append, List.length_append]
    omega
theorem atC_end (l : List UInt8) : atC l (chunks l).length = l.length := by
  unfold atC; rw [List.take_length, chunks_join]
theorem atC_le (l : List UInt8) (k : Nat) : atC l k ≤ l.length := by
  unfold atC
  conv => rhs; rw [← chunks_join l, ← List.take_append_drop k (chunks l), joinC_append, List.length_append]
  omega
theorem idxC_get (i : Nat) (cs : List (Int × List UInt8)) (k : Nat) (hk : k < cs.length) : (idxC i cs)[k]? = some (i + (joinC (cs.take k)).length, cs[k].1) := by
  induction cs generalizing i k with
  | nil => simp at hk
  | cons c cs ih =>
    cases k with
    | zero => simp [idxC, joinC]
    | succ k =>
      show (idxC (i + c.2.length) cs)[k]? = _
      rw [ih _ _ (by simpa using hk)]
      simp only [List.take_succ_cons, joinC_cons, List.length_append, List.getElem_cons_succ]
      rw [Nat.add_assoc]
theorem last_of_prefix {α : Type} {pre xs : List α} {x : α} (h : pre ++ [x] <+: xs) : xs[pre.length]? = some x := by
  obtain ⟨t, rfl⟩ := h
  simp
/-- What is known of the piece that comes behind those of pre. -/
theorem told_next {l : List UInt8} {pre : List (Nat × Int)} {x : Nat × Int} (h : pre ++ [x] <+: idxC 0 (chunks l)) :
    pre.length < (chunks l).length ∧ x.1 = atC l pre.length ∧ ∃ n, readL (l.drop x.1) = (x.2, n) ∧ atC l (pre.length + 1) = x.1 + n ∧ x.1 + n ≤ l.length := by
  have hlt : pre.length < (chunks l).length := by
    have := h.length_le
    rw [List.length_append, idxC_length] at this
    simp at this; omega
  have h1 := last_of_prefix h
  rw [idxC_get 0 _ _ hlt] at h1
  simp only [Option.some.injEq] at h1
  obtain ⟨h2, h3, h4⟩ := piece_at l pre.length hlt
  have hx : x.1 = atC l pre.length := by rw [← h1]; simp [atC]
  refine ⟨hlt, hx, (chunks l)[pre.length].2.length, ?_, ?_, ?_⟩
  · rw [hx, h2]; rw [← h1]
  · rw [h3, hx]
  · rw [hx, ← h3]; exact h4
end Go.Utf
