/- Sorted rows of texts without repeats, plain: a compacted sorted row; insertion. No conditions. -/
import Derived.Test.YtpibflpmhhgbkaaDoorTokPlain
import Derived.Lib.SlicesCompact
namespace Go.Utf
open Go.Lib
abbrev Tx := List UInt8
theorem tx_lt {a b : Tx} (h : a ≤ b) (hne : a ≠ b) : a < b := by
  by_cases h2 : a < b
  · exact h2
  · exact absurd (List.le_antisymm h (List.not_lt.1 h2)) hne
theorem tx_ne {a b : Tx} (h : a < b) : a ≠ b := fun e => by rw [e] at h; exact List.lt_irrefl b h
/-- Two strictly rising rows of the same texts are one. -/
theorem rising_same {a b : List Tx} (ha : a.Pairwise (· < ·)) (hb : b.Pairwise (· < ·)) (h : ∀ x, x ∈ a ↔ x ∈ b) : a = b := by
  have na : a.Nodup := ha.imp fun h => tx_ne h
  have nb : b.Nodup := hb.imp fun h => tx_ne h
  refine List.Perm.eq_of_pairwise (le := (· < ·)) ?_ ha hb ((List.perm_ext_iff_of_nodup na nb).2 h)
  intro x y _ _ h1 h2
  exact absurd (List.lt_trans h1 h2) (List.lt_irrefl x)
theorem getB (zs : List Tx) (j : Nat) (h : j < zs.length) : zs.toArray[j]! = zs[j] := by simp [h]
theorem compact_part (zs : List Tx) (hs : zs.Pairwise (· ≤ ·)) (m : Nat) (hm : m ≤ zs.length) : (compactUpTo zs.toArray m).Pairwise (· < ·) ∧ ∀ x, x ∈ compactUpTo zs.toArray m ↔ x ∈ zs.take m := by
  induction m with
  | zero => exact ⟨by simp [compactUpTo], fun x => by simp [compactUpTo]⟩
  | succ m ih =>
    have hm' : m < zs.length := by omega
    obtain ⟨h1, h2⟩ := ih (by omega)
    rw [compactUpTo_succ, List.take_succ_eq_append_getElem hm', getB zs m hm']
    by_cases hk : keeps zs.toArray m = true
    · rw [if_pos hk]
      refine ⟨List.pairwise_append.2 ⟨h1, by simp, fun x hx y hy => ?_⟩, fun x => ?_⟩
      · rw [List.mem_singleton] at hy
        subst hy
        have hx' := (h2 x).1 hx
        obtain ⟨j, hj, rfl⟩ := List.mem_iff_getElem.1 hx'
        rw [List.length_take] at hj
        rw [List.getElem_take]
        have h0 : m ≠ 0 := by omega
        have hne : zs[m] ≠ zs[m - 1] := by
          have := hk
          unfold keeps at this
          rw [decide_eq_true_eq, getB zs m hm', getB zs (m - 1) (by omega)] at this
          exact this.resolve_left h0
        have hle : zs[j] ≤ zs[m - 1] := by
          by_cases e : j = m - 1
          · subst e; exact List.le_refl _
          · exact List.pairwise_iff_getElem.1 hs j (m - 1) (by omega) (by omega) (by omega)
        have hlt : zs[m - 1] < zs[m] := tx_lt (List.pairwise_iff_getElem.1 hs (m - 1) m (by omega) hm' (by omega)) (fun e => hne e.symm)
        exact List.lt_of_le_of_lt hle hlt
      · rw [List.mem_append, List.mem_append, h2]
    · rw [if_neg hk, List.append_nil]
      refine ⟨h1, fun x => ?_⟩
      rw [h2, List.mem_append, List.mem_singleton]
      constructor
      · exact .inl
      · rintro (h | rfl)
        · exact h
        · have := hk
          unfold keeps at this
          rw [decide_eq_true_eq, getB zs m hm', not_or] at this
          obtain ⟨h0, hne⟩ := this
          rw [getB zs (m - 1) (by omega), ne_eq, Decidable.not_not] at hne
          rw [hne]
          exact List.mem_iff_getElem.2 ⟨m - 1, by rw [List.length_take]; omega, by rw [List.getElem_take]⟩
theorem sort_le (zs : List Tx) : (zs.mergeSort fun x y => decide (x ≤ y)).Pairwise (· ≤ ·) := by
  have := List.pairwise_mergeSort (le := fun x y : Tx => decide (x ≤ y)) (fun a b c h1 h2 => by
    rw [decide_eq_true_eq] at *
    exact List.le_trans h1 h2) (fun a b => by
    rw [Bool.or_eq_true, decide_eq_true_eq, decide_eq_true_eq]
    exact List.le_total a b) zs
  exact this.imp fun h => by simpa using h
/-- What sorting and compacting make of a row: strictly rising, the same texts. -/
theorem set_of (zs : List Tx) : (compact (zs.mergeSort fun x y => decide (x ≤ y))).Pairwise (· < ·) ∧ ∀ x, x ∈ compact (zs.mergeSort fun x y => decide (x ≤ y)) ↔ x ∈ zs := by
  obtain ⟨h1, h2⟩ := compact_part _ (sort_le zs) _ (Nat.le_refl _)
  refine ⟨h1, fun x => ?_⟩
  rw [show x ∈ compact (zs.mergeSort fun x y => decide (x ≤ y)) ↔ _ from h2 x, List.take_length, List.mem_mergeSort]
/-- Insertion into a strictly rising row. -/
def insT (out : List Tx) (k : Nat) (t : Tx) : List Tx := if k = out.length ∨ out[k]? ≠ some t then out.take k ++ t :: out.drop k else out
/-- Place k: all ahead of it are less; what stands there is not. -/
def AtT (out : List Tx) (k : Nat) (t : Tx) : Prop := k ≤ out.length ∧ (∀ j (h : j < out.length), j < k → out[j] < t) ∧ ∀ h : k < out.length, ¬ out[k] < t
theorem insT_ok {out : List Tx} {k : Nat} {t : Tx} (hs : out.Pairwise (· < ·)) (hk : AtT out k t) : (insT out k t).Pairwise (· < ·) ∧ ∀ x, x ∈ insT out k t ↔ x ∈ out ∨ x = t := by
  obtain ⟨h1, h2, h3⟩ := hk
  unfold insT
  by_cases hc : k = out.length ∨ out[k]? ≠ some t
  · rw [if_pos hc]
    have hb : ∀ y ∈ out.drop k, t < y := by
      intro y hy
      obtain ⟨j, hj, rfl⟩ := List.mem_iff_getElem.1 hy
      rw [List.length_drop] at hj
      rw [List.getElem_drop]
      have hkl : k < out.length := by omega
      have hne : out[k] ≠ t := by
        rcases hc with h | h
        · omega
        · rw [List.getElem?_eq_getElem hkl] at h
          exact fun e => h (by rw [e])
      have hlt : t < out[k] := tx_lt (List.not_lt.1 (h3 hkl)) (fun e => hne e.symm)
      by_cases e : j = 0
      · subst e; exact hlt
      · exact List.lt_trans hlt (List.pairwise_iff_getElem.1 hs k (k + j) hkl (by omega) (by omega))
    have ha : ∀ y ∈ out.take k, y < t := by
      intro y hy
      obtain ⟨j, hj, rfl⟩ := List.mem_iff_getElem.1 hy
      rw [List.length_take] at hj
      rw [List.getElem_take]
      exact h2 j (by omega) (by omega)
    refine ⟨List.pairwise_append.2 ⟨hs.sublist (List.take_sublist k out), List.pairwise_cons.2 ⟨hb, hs.sublist (List.drop_sublist k out)⟩, fun x hx y hy => ?_⟩, fun x => ?_⟩
    · rcases List.mem_cons.1 hy with rfl | hy
      · exact ha x hx
      · exact List.lt_trans (ha x hx) (hb y hy)
    · rw [List.mem_append, List.mem_cons]
      conv => rhs; rw [← List.take_append_drop k out]
      rw [List.mem_append]
      constructor
      · rintro (h | h | h)
        · exact .inl (.inl h)
        · exact .inr h
        · exact .inl (.inr h)
      · rintro ((h | h) | h)
        · exact .inl h
        · exact .inr (.inr h)
        · exact .inr (.inl h)
  · rw [if_neg hc]
    refine ⟨hs, fun x => ⟨.inl, ?_⟩⟩
    rintro (h | rfl)
    · exact h
    · have : out[k]? = some x := by
        by_cases h : out[k]? = some x
        · exact h
        · exact absurd (.inr h) hc
      exact List.mem_of_getElem? this
end Go.Utf
