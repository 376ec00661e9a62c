/- Laws of right directories: other bounds; a name put in at its place. No conditions. -/
import Derived.Test.YteemloillnfaeaaDoorInoPlain
namespace Go.Ino
open Go.Wir

theorem extB_iff (a b : Int) (x : Ext) : extB a b x = true ↔ 1 ≤ x.2 ∧ a ≤ x.1 ∧ x.1 < b ∧ x.2 ≤ b - x.1 := by
  unfold extB; simp only [Bool.and_eq_true, decide_eq_true_eq, and_assoc]
theorem fileB_ext {a b : Int} {f : Fil} (h : fileB a b f = true) : ∀ x ∈ f.ext, extB a b x = true := by
  unfold fileB at h
  simp only [Bool.and_eq_true, List.all_eq_true] at h
  exact h.1.2
theorem fileB_mono {a b a' b' : Int} {f : Fil} (ha : a' ≤ a) (hb : b ≤ b') (h : fileB a b f = true) : fileB a' b' f = true := by
  unfold fileB at *
  simp only [Bool.and_eq_true, List.all_eq_true] at *
  refine ⟨⟨h.1.1, fun x hx => ?_⟩, h.2⟩
  have := (extB_iff _ _ _).1 (h.1.2 x hx)
  rw [extB_iff]; omega
theorem right_mono {l : List Fil} {a b a' b' : Int} (ha : max a' 0 ≤ max a 0) (hb : min b 4096 ≤ min b' 4096) (h : rightB l a b = true) : rightB l a' b' = true := by
  rw [rightB_iff] at *
  exact ⟨h.1, h.2.1, fun f hf => ⟨(h.2.2.1 f hf).1, fileB_mono ha hb (h.2.2.1 f hf).2⟩, h.2.2.2⟩
/-- A right directory is right for more blocks. -/
theorem right_wide {l : List Fil} {a b : Int} (h : rightB l a b = true) : rightB l 0 4096 = true := right_mono (by omega) (by omega) h
theorem right_ext {l : List Fil} {a b : Int} (h : rightB l a b = true) {f : Fil} (hf : f ∈ l) {x : Ext} (hx : x ∈ f.ext) : 1 ≤ x.2 ∧ max a 0 ≤ x.1 ∧ x.1 < min b 4096 ∧ x.2 ≤ min b 4096 - x.1 :=
  (extB_iff _ _ _).1 (fileB_ext (((rightB_iff _ _ _).1 h).2.2.1 f hf).2 x hx)
/-- It is not, if one of its blocks is left out. -/
theorem right_lo {l : List Fil} {a b : Int} (h : rightB l a b = true) {f : Fil} (hf : f ∈ l) {x : Ext} (hx : x ∈ f.ext) (b' : Int) : rightB l (x.1 + 1) b' = false := by
  have h1 := right_ext h hf hx
  rw [← Bool.not_eq_true]
  intro h2
  have := right_ext h2 hf hx
  omega
theorem right_hi {l : List Fil} {a b : Int} (h : rightB l a b = true) {f : Fil} (hf : f ∈ l) {x : Ext} (hx : x ∈ f.ext) (a' : Int) : rightB l a' (x.1 + x.2 - 1) = false := by
  have h1 := right_ext h hf hx
  rw [← Bool.not_eq_true]
  intro h2
  have := right_ext h2 hf hx
  omega
/-- Where a name is put in the names still rise. -/
theorem place_hi {l : List Fil} {t : Tx} (hs : l.Pairwise fun a b => a.name < b.name) : ∀ k (h : k < l.length), placeL l t ≤ k → ¬ l[k].name < t := by
  intro k h hk
  have h0 := place_at (l := l) (t := t) (by omega)
  by_cases e : placeL l t = k
  · subst e; exact h0
  · intro h2
    exact h0 (List.lt_trans (List.pairwise_iff_getElem.1 hs (placeL l t) k (by omega) h (by omega)) h2)
theorem lt_of_not {a b : Tx} (h : ¬ a < b) (hne : a ≠ b) : b < a := by
  rcases List.le_iff_lt_or_eq.1 (List.not_lt.1 h) with h | h
  · exact h
  · exact absurd h.symm hne
theorem found_none {l : List Fil} {t : Tx} (hs : l.Pairwise fun a b => a.name < b.name) (hf : foundB l t = false) : ∀ k (h : k < l.length), placeL l t ≤ k → t < l[k].name := by
  intro k h hk
  have hp : placeL l t < l.length := by omega
  have h0 := place_at hp
  have hne : (l[placeL l t]'hp).name ≠ t := by
    unfold foundB at hf
    rw [List.getElem?_eq_getElem hp] at hf
    simpa using hf
  have h1 := lt_of_not h0 hne
  by_cases e : placeL l t = k
  · subst e; exact h1
  · exact List.lt_trans h1 (List.pairwise_iff_getElem.1 hs (placeL l t) k hp h (by omega))
theorem right_insert {l : List Fil} {t : Tx} (h : rightB l 0 4096 = true) (hf : foundB l t = false) (hn : nameB t = true) (h64 : l.length < 64) : rightB (l.take (placeL l t) ++ ⟨t, false, 0, []⟩ :: l.drop (placeL l t)) 0 4096 = true := by
  obtain ⟨h1, h2, h3, h4⟩ := (rightB_iff _ _ _).1 h
  have hlo : ∀ f ∈ l.take (placeL l t), f.name < t := by
    intro f hf
    obtain ⟨i, hi, rfl⟩ := List.mem_iff_getElem.1 hf
    rw [List.length_take] at hi
    rw [List.getElem_take]
    exact (place_lo i (by omega)).2
  have hhi : ∀ f ∈ l.drop (placeL l t), t < f.name := by
    intro f hm
    obtain ⟨i, hi, rfl⟩ := List.mem_iff_getElem.1 hm
    rw [List.length_drop] at hi
    rw [List.getElem_drop]
    exact found_none h2 hf _ (by omega) (by omega)
  rw [rightB_iff]
  refine ⟨?_, ?_, ?_, ?_⟩
  · rw [List.length_append, List.length_take, List.length_cons, List.length_drop]; omega
  · rw [List.pairwise_append]
    refine ⟨h2.sublist (List.take_sublist _ _), List.pairwise_cons.2 ⟨hhi, h2.sublist (List.drop_sublist _ _)⟩, fun f hf g hg => ?_⟩
    rcases List.mem_cons.1 hg with rfl | hg
    · exact hlo f hf
    · exact List.lt_trans (hlo f hf) (hhi g hg)
  · intro f hf
    rcases List.mem_append.1 hf with hf | hf
    · exact h3 f (List.mem_of_mem_take hf)
    · rcases List.mem_cons.1 hf with rfl | hf
      · exact ⟨hn, rfl⟩
      · exact h3 f (List.mem_of_mem_drop hf)
  · have e : (l.take (placeL l t) ++ ⟨t, false, 0, []⟩ :: l.drop (placeL l t)).flatMap Fil.ext = l.flatMap Fil.ext := by
      rw [List.flatMap_append, List.flatMap_cons, List.nil_append, ← List.flatMap_append, List.take_append_drop]
    rw [e]; exact h4
end Go.Ino
