/- How words are found piece by piece, plain. No conditions. -/
import Derived.Test.YtpibflpmhhgbkaaDoorTokPlain
namespace Go.Utf
open Go.Lib
theorem runG_suffix {α : Type} (p : α → Bool) (xs : List α) : ∃ a, xs = a ++ (runG p xs).2 := by
  have key : ∀ (xs a : List α) (r : List (List α) × List α), ∃ b, a ++ r.2 ++ xs = b ++ (xs.foldl (stG p) r).2 := by
    intro xs
    induction xs with
    | nil => intro a r; exact ⟨a, by simp⟩
    | cons x xs ih =>
      intro a r
      rw [List.foldl_cons]
      by_cases hx : p x = true
      · obtain ⟨b, hb⟩ := ih a (stG p r x)
        refine ⟨b, ?_⟩
        rw [← hb]
        simp [stG, hx]
      · obtain ⟨b, hb⟩ := ih (a ++ r.2 ++ [x]) (stG p r x)
        refine ⟨b, ?_⟩
        rw [← hb]
        simp [stG, hx]
  obtain ⟨b, hb⟩ := key xs [] ([], [])
  exact ⟨b, by simpa [runG] using hb⟩
/-- What the words' loop knows behind k pieces: the words that are done; the pieces of the one under way. -/
def wst (l : List UInt8) (k : Nat) : List (List (Int × List UInt8)) × List (Int × List UInt8) := runG isW ((chunks l).take k)
def wdone (l : List UInt8) (k : Nat) : List (List UInt8) := (wst l k).1.map joinC
/-- Where the word under way begins; -1: there is none. -/
def wfrom (l : List UInt8) (k : Nat) : Int := if (wst l k).2 = [] then -1 else (atC l k : Int) - (joinC (wst l k).2).length
theorem wst_zero (l : List UInt8) : wst l 0 = ([], []) := by unfold wst; rw [List.take_zero]; rfl
theorem wst_next (l : List UInt8) (k : Nat) (hk : k < (chunks l).length) : wst l (k + 1) = stG isW (wst l k) (chunks l)[k] := by
  unfold wst; rw [List.take_succ_eq_append_getElem hk, runG_snoc]
theorem wcur_at (l : List UInt8) (k : Nat) : (joinC (wst l k).2).length ≤ atC l k ∧ ((l.drop (atC l k - (joinC (wst l k).2).length)).take (joinC (wst l k).2).length) = joinC (wst l k).2 := by
  obtain ⟨a, ha⟩ := runG_suffix isW ((chunks l).take k)
  have h1 : joinC ((chunks l).take k) = joinC a ++ joinC (wst l k).2 := by
    conv => lhs; rw [ha]
    rw [joinC_append]; rfl
  have h2 : atC l k = (joinC a).length + (joinC (wst l k).2).length := by
    unfold atC; rw [h1, List.length_append]
  refine ⟨by omega, ?_⟩
  rw [show atC l k - (joinC (wst l k).2).length = (joinC a).length by omega]
  have h3 : l = joinC a ++ (joinC (wst l k).2 ++ joinC ((chunks l).drop k)) := by
    rw [← List.append_assoc, ← h1, ← joinC_append, List.take_append_drop, chunks_join]
  have h4 : l.drop (joinC a).length = joinC (wst l k).2 ++ joinC ((chunks l).drop k) := by
    conv => lhs; rw [h3]
    rw [List.drop_left]
  rw [h4, List.take_left]
theorem wfrom_zero (l : List UInt8) : wfrom l 0 = -1 := by unfold wfrom; rw [wst_zero]; rfl
theorem wfrom_neg {l : List UInt8} {k : Nat} : wfrom l k < 0 ↔ (wst l k).2 = [] := by
  unfold wfrom
  have := (wcur_at l k).1
  constructor
  · intro h
    split at h
    · assumption
    · omega
  · intro h; rw [if_pos h]; decide
theorem wfrom_lo (l : List UInt8) (k : Nat) : -1 ≤ wfrom l k ∧ wfrom l k ≤ atC l k := by
  unfold wfrom
  have := (wcur_at l k).1
  split <;> omega
/-- A piece of a word. -/
theorem w_in {l : List UInt8} {k : Nat} (hk : k < (chunks l).length) (hw : isW (chunks l)[k] = true) : wdone l (k + 1) = wdone l k ∧ wfrom l (k + 1) = if wfrom l k < 0 then (atC l k : Int) else wfrom l k := by
  have h := wst_next l k hk
  have e : wst l (k + 1) = ((wst l k).1, (wst l k).2 ++ [(chunks l)[k]]) := by rw [h]; simp [stG, hw]
  refine ⟨by unfold wdone; rw [e], ?_⟩
  obtain ⟨_, h3, _⟩ := piece_at l k hk
  have hl : (joinC ((wst l k).2 ++ [(chunks l)[k]])).length = (joinC (wst l k).2).length + (chunks l)[k].2.length := by rw [joinC_append, List.length_append]; simp [joinC]
  have hc := (wcur_at l k).1
  by_cases h0 : (wst l k).2 = []
  · rw [if_pos (wfrom_neg.2 h0)]
    unfold wfrom
    rw [e, if_neg (by simp), hl, h3, h0]
    simp [joinC]
  · rw [if_neg (fun h => h0 (wfrom_neg.1 h))]
    unfold wfrom
    rw [e, if_neg (by simp), hl, h3, if_neg h0]
    omega
/-- A piece that is none. -/
theorem w_out {l : List UInt8} {k : Nat} (hk : k < (chunks l).length) (hw : isW (chunks l)[k] = false) : wfrom l (k + 1) = -1 ∧ wdone l (k + 1) = if wfrom l k < 0 then wdone l k else wdone l k ++ [joinC (wst l k).2] := by
  have h := wst_next l k hk
  have e : wst l (k + 1) = (flushG (wst l k), []) := by rw [h]; simp [stG, hw]
  refine ⟨by unfold wfrom; rw [e, if_pos rfl], ?_⟩
  unfold wdone
  rw [e]
  unfold flushG
  by_cases h0 : (wst l k).2 = []
  · rw [if_pos h0, if_pos (wfrom_neg.2 h0)]
  · rw [if_neg h0, if_neg (fun h => h0 (wfrom_neg.1 h))]; simp
theorem w_end (l : List UInt8) : wordsL l = if wfrom l (chunks l).length < 0 then wdone l (chunks l).length else wdone l (chunks l).length ++ [joinC (wst l (chunks l).length).2] := by
  unfold wordsL groups wdone
  have e : runG isW (chunks l) = wst l (chunks l).length := by unfold wst; rw [List.take_length]
  rw [e]
  unfold flushG
  by_cases h0 : (wst l (chunks l).length).2 = []
  · rw [if_pos h0, if_pos (wfrom_neg.2 h0)]
  · rw [if_neg h0, if_neg (fun h => h0 (wfrom_neg.1 h))]; simp
theorem wdone_prefix (l : List UInt8) (k : Nat) : wdone l k <+: wordsL l := by
  unfold wdone wordsL wst
  have := groups_prefix isW ((chunks l).take k) ((chunks l).drop k)
  rw [List.take_append_drop] at this
  exact this.map joinC
/-- The word under way is the next one, if a piece that is none comes. -/
theorem wdone_next {l : List UInt8} {k : Nat} (hk : k < (chunks l).length) (hw : isW (chunks l)[k] = false) (h0 : ¬ wfrom l k < 0) : wdone l k ++ [joinC (wst l k).2] <+: wordsL l := by
  have := (w_out hk hw).2
  rw [if_neg h0] at this
  rw [← this]
  exact wdone_prefix l _
/-- The word under way, in the text. -/
theorem w_slice {l : List UInt8} {k : Nat} (h0 : ¬ wfrom l k < 0) : (l.drop (wfrom l k).toNat).take (atC l k - (wfrom l k).toNat) = joinC (wst l k).2 := by
  obtain ⟨h1, h2⟩ := wcur_at l k
  have e : wfrom l k = (atC l k : Int) - (joinC (wst l k).2).length := by
    unfold wfrom; rw [if_neg (fun h => h0 (wfrom_neg.2 h))]
  rw [show (wfrom l k).toNat = atC l k - (joinC (wst l k).2).length by omega, show atC l k - (atC l k - (joinC (wst l k).2).length) = (joinC (wst l k).2).length by omega]
  exact h2
theorem told_kind {l : List UInt8} {pre : List (Nat × Int)} {x : Nat × Int} (h : pre ++ [x] <+: idxC 0 (chunks l)) (hk : pre.length < (chunks l).length) : isW (chunks l)[pre.length] = (decide (0 ≤ x.2) && (kindN x.2 == 1 || kindN x.2 == 2)) := by
  have h1 := last_of_prefix h
  rw [idxC_get 0 _ _ hk] at h1
  simp only [Option.some.injEq] at h1
  rw [← h1]; rfl
end Go.Utf
