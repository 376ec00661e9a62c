/- Chapter 6, plain: the dirty blocks in the order of their numbers, as the program and the document's answer gather them. No conditions. -/
import Derived.Test.YtikkdhfbihejbaaCchLaws
import Derived.Test.YtikkdhfbihejbaaCchEnt
namespace Go.Cch

def leP (x y : Kd) : Bool := decide (x.pos ≤ y.pos)
theorem dirty_pair (c : Ch) : (dirtyC c).Pairwise fun x y => x.pos ≤ y.pos := by
  have h := List.pairwise_mergeSort (le := fun x y : Kd => decide (x.pos ≤ y.pos)) (fun a b d h1 h2 => by simp at *; omega) (fun a b => by simp; omega) (c.l.filter Kd.dirty)
  refine List.Pairwise.imp ?_ h
  intro a b h
  simpa using h
theorem dirty_perm (c : Ch) : (dirtyC c).Perm (c.l.filter Kd.dirty) := List.mergeSort_perm _ _
/-- What is sorted and holds the dirty ones is the list of them. -/
theorem dirty_is {c : Ch} (hn : (c.l.map Kd.pos).Nodup) {l : List Kd} (hp : l.Perm (c.l.filter Kd.dirty)) (hs : l.Pairwise fun x y => x.pos ≤ y.pos) : l = dirtyC c := by
  refine List.Perm.eq_of_pairwise (le := fun x y : Kd => x.pos ≤ y.pos) ?_ hs (dirty_pair c) (hp.trans (dirty_perm c).symm)
  intro a b ha hb h1 h2
  have ha' := (List.mem_filter.1 (hp.subset ha)).1
  have hb' := (List.mem_filter.1 ((dirty_perm c).subset hb)).1
  exact apart_mem hn ha' hb' (by omega)
theorem find_self {l : List Kd} (hn : (l.map Kd.pos).Nodup) {x : Kd} (hx : x ∈ l) : findL l x.pos = some x := by
  cases hf : findL l x.pos with
  | none => exact absurd (find_none.1 hf) (by rw [has_iff.2 ⟨x, hx, rfl⟩]; simp)
  | some y => rw [apart_mem hn (find_some hf).1 hx (find_some hf).2]
/-- The dirty ones among these numbers. -/
def dirtyOf (l : List Kd) (ss : List Int) : List Kd := ss.filterMap fun i => (findL l i).filter Kd.dirty
theorem dirtyOf_snoc (l : List Kd) (ss : List Int) (i : Int) : dirtyOf l (ss ++ [i]) = dirtyOf l ss ++ ((findL l i).filter Kd.dirty).toList := by
  unfold dirtyOf
  rw [List.filterMap_append]
  cases h : (findL l i).filter Kd.dirty <;> simp [h]
theorem dirty_sorted {c : Ch} (hn : (c.l.map Kd.pos).Nodup) {ss : List Int} (hp : ss.Perm (c.l.map Kd.pos)) (hs : ss.Pairwise (· ≤ ·)) : dirtyOf c.l ss = dirtyC c := by
  refine dirty_is hn ?_ ?_
  · have h1 : (dirtyOf c.l ss).Perm (dirtyOf c.l (c.l.map Kd.pos)) := hp.filterMap _
    have h2 : dirtyOf c.l (c.l.map Kd.pos) = c.l.filter Kd.dirty := by
      unfold dirtyOf
      rw [List.filterMap_map]
      have key : ∀ m : List Kd, (∀ x ∈ m, x ∈ c.l) → m.filterMap ((fun i => (findL c.l i).filter Kd.dirty) ∘ Kd.pos) = m.filter Kd.dirty := by
        intro m
        induction m with
        | nil => intro _; rfl
        | cons x m ih =>
          intro h
          have hx : ((fun i => (findL c.l i).filter Kd.dirty) ∘ Kd.pos) x = if x.dirty then some x else none := by
            show (findL c.l x.pos).filter Kd.dirty = _
            rw [find_self hn (h x (by simp))]
            rfl
          rw [List.filterMap_cons, hx, List.filter_cons, ih (fun y hy => h y (by simp [hy]))]
          cases x.dirty <;> rfl
      exact key c.l (fun x hx => hx)
    rw [h2] at h1
    exact h1
  · unfold dirtyOf
    rw [List.pairwise_filterMap]
    refine hs.imp fun {a b} hab x hx y hy => ?_
    have e1 : x.pos = a := by
      cases hf : findL c.l a with
      | none => rw [hf] at hx; cases hx
      | some z =>
        rw [hf] at hx
        have := (find_some hf).2
        simp only [Option.filter_eq_some_iff] at hx
        have hzx : z = x := by simpa using hx.1
        rw [← hzx]; exact this
    have e2 : y.pos = b := by
      cases hf : findL c.l b with
      | none => rw [hf] at hy; cases hy
      | some z =>
        rw [hf] at hy
        have := (find_some hf).2
        simp only [Option.filter_eq_some_iff] at hy
        have hzy : z = y := by simpa using hy.1
        rw [← hzy]; exact this
    rw [e1, e2]; exact hab
/-- One more, put in where it belongs. -/
def insK (out : List Kd) (k : Nat) (x : Kd) : List Kd := out.take k ++ x :: out.drop k
theorem ins_perm (out : List Kd) (k : Nat) (x : Kd) : (insK out k x).Perm (x :: out) := by
  unfold insK
  have := List.perm_middle (a := x) (l₁ := out.take k) (l₂ := out.drop k)
  rwa [List.take_append_drop] at this
theorem ins_sorted {out : List Kd} (h : out.Pairwise fun a b => a.pos ≤ b.pos) {k : Nat} {x : Kd} (hk : k ≤ out.length) (h1 : ∀ j (hj : j < out.length), j < k → out[j].pos < x.pos) (h2 : ∀ hj : k < out.length, ¬ out[k].pos < x.pos) : (insK out k x).Pairwise fun a b => a.pos ≤ b.pos := by
  unfold insK
  rw [List.pairwise_append, List.pairwise_cons]
  have hlow : ∀ a ∈ out.take k, a.pos < x.pos := by
    intro a ha
    obtain ⟨j, hj, rfl⟩ := List.mem_iff_getElem.1 ha
    rw [List.length_take] at hj
    rw [List.getElem_take]
    exact h1 j (by omega) (by omega)
  have hhigh : ∀ b ∈ out.drop k, x.pos ≤ b.pos := by
    intro b hb
    obtain ⟨j, hj, rfl⟩ := List.mem_iff_getElem.1 hb
    rw [List.length_drop] at hj
    rw [List.getElem_drop]
    have hk' : k < out.length := by omega
    have h3 := h2 hk'
    rcases Nat.eq_zero_or_pos j with rfl | hj0
    · simp only [Nat.add_zero]; omega
    · have := List.pairwise_iff_getElem.1 h k (k + j) hk' (by omega) (by omega)
      omega
  refine ⟨h.sublist (List.take_sublist _ _), ⟨hhigh, h.sublist (List.drop_sublist _ _)⟩, fun a ha b hb => ?_⟩
  rcases List.mem_cons.1 hb with rfl | hb
  · have := hlow a ha; omega
  · have := hlow a ha
    have := hhigh b hb
    omega
end Go.Cch
