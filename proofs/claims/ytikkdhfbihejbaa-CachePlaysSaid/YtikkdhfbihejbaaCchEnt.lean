/- Chapter 6, plain: what is kept, with the block that holds it and the stamp of its last use. No conditions. -/
import Derived.Test.YtikkdhfbihejbaaCchPlain
namespace Go.Cch

/-- A block that is kept, the memory block that holds it, the clock at its last use. -/
structure Ent where
  x : Kd
  g : Nat
  u : Nat
def Ent.is (i : Int) (e : Ent) : Bool := e.x.is i
def entL (M : List Ent) : List Kd := M.map Ent.x
def entAt (M : List Ent) (i : Int) : Option Ent := M.find? (Ent.is i)
def entF (M : List Ent) (i : Int) : Option Nat := (entAt M i).map Ent.g
def entLess (M : List Ent) (i : Int) : List Ent := M.filter fun e => !(e.is i)
theorem eis_iff {i : Int} {e : Ent} : e.is i = true ↔ e.x.pos = i := is_iff
theorem entAt_some {M : List Ent} {i : Int} {e : Ent} (h : entAt M i = some e) : e ∈ M ∧ e.x.pos = i := ⟨List.mem_of_find?_eq_some h, eis_iff.1 (List.find?_some h)⟩
theorem entAt_find (M : List Ent) (i : Int) : findL (entL M) i = (entAt M i).map Ent.x := by
  unfold findL entL entAt
  rw [List.find?_map]
  rfl
theorem entAt_none {M : List Ent} {i : Int} : entAt M i = none ↔ hasL (entL M) i = false := by
  rw [← find_none, entAt_find, Option.map_eq_none_iff]
theorem entF_some (M : List Ent) (i : Int) : (entF M i).isSome = hasL (entL M) i := by
  unfold entF
  rw [Option.isSome_map]
  cases h : entAt M i with
  | none => rw [entAt_none.1 h]; rfl
  | some e =>
    obtain ⟨h1, h2⟩ := entAt_some h
    rw [has_iff.2 ⟨e.x, (show e.x ∈ entL M from List.mem_map.2 ⟨e, h1, rfl⟩), h2⟩]; rfl
theorem entL_less (M : List Ent) (i : Int) : entL (entLess M i) = less (entL M) i := by
  unfold entL entLess less
  rw [List.filter_map]
  rfl
theorem entAt_less (M : List Ent) (i j : Int) : entAt (entLess M i) j = if j = i then none else entAt M j := by
  unfold entAt entLess
  rw [List.find?_filter]
  by_cases h : j = i
  · rw [if_pos h, List.find?_eq_none]
    intro e _
    subst h
    cases e.is j <;> simp
  · rw [if_neg h]
    congr 1
    funext e
    cases h2 : e.is j with
    | false => simp
    | true =>
      have : e.is i = false := by
        rw [← Bool.not_eq_true, eis_iff]
        intro h3
        exact h ((eis_iff.1 h2).symm.trans h3)
      rw [this]; rfl
theorem entF_less (M : List Ent) (i j : Int) : entF (entLess M i) j = if j = i then none else entF M j := by
  unfold entF
  rw [entAt_less]
  split <;> rfl
theorem entAt_cons (e : Ent) (M : List Ent) (j : Int) : entAt (e :: M) j = if j = e.x.pos then some e else entAt M j := by
  unfold entAt
  rw [List.find?_cons]
  by_cases h : j = e.x.pos
  · rw [if_pos h, (eis_iff (i := j) (e := e)).2 h.symm]
  · have : e.is j = false := by rw [← Bool.not_eq_true, eis_iff]; exact fun h2 => h h2.symm
    rw [if_neg h, this]
theorem entF_cons (e : Ent) (M : List Ent) (j : Int) : entF (e :: M) j = if j = e.x.pos then some e.g else entF M j := by
  unfold entF
  rw [entAt_cons]
  split <;> rfl
/-- One is used: it stands first. -/
theorem entF_front {M : List Ent} {i : Int} {e e' : Ent} (h : entAt M i = some e) (hp : e'.x.pos = i) (hg : e'.g = e.g) (j : Int) : entF (e' :: entLess M i) j = entF M j := by
  rw [entF_cons, entF_less, hp, hg]
  by_cases hj : j = i
  · rw [if_pos hj, hj]; unfold entF; rw [h]; rfl
  · rw [if_neg hj, if_neg hj]
theorem entF_map (M : List Ent) (f : Ent → Ent) (h1 : ∀ e, (f e).x.pos = e.x.pos) (h2 : ∀ e, (f e).g = e.g) (j : Int) : entF (M.map f) j = entF M j := by
  unfold entF entAt
  rw [List.find?_map, Option.map_map]
  have : (Ent.is j ∘ f) = Ent.is j := by
    funext e
    show (f e).x.is j = e.x.is j
    unfold Kd.is
    rw [h1]
  rw [this]
  congr 1
  funext e
  exact h2 e
theorem entLess_len {M : List Ent} (h : ((entL M).map Kd.pos).Nodup) {i : Int} {e : Ent} (he : entAt M i = some e) : (entLess M i).length + 1 = M.length := by
  obtain ⟨hm, hp⟩ := entAt_some he
  clear he
  unfold entLess
  induction M with
  | nil => simp at hm
  | cons a M ih =>
    simp only [entL, List.map_cons, List.nodup_cons] at h
    by_cases ha : a.x.pos = i
    · have hall : M.filter (fun e => !(e.is i)) = M := by
        rw [List.filter_eq_self]
        intro b hb
        rw [Bool.not_eq_true', ← Bool.not_eq_true, eis_iff]
        intro hbi
        exact h.1 (List.mem_map.2 ⟨b.x, List.mem_map.2 ⟨b, hb, rfl⟩, by rw [hbi, ha]⟩)
      rw [List.filter_cons, (eis_iff (i := i) (e := a)).2 ha]
      simp only [Bool.not_true, List.length_cons]
      rw [if_neg (by simp), hall]
    · have hf : a.is i = false := by rw [← Bool.not_eq_true, eis_iff]; exact ha
      rw [List.filter_cons, hf]
      simp only [Bool.not_false, if_pos, List.length_cons]
      rcases List.mem_cons.1 hm with rfl | hm
      · exact absurd hp ha
      · have := ih h.2 hm
        omega
/-- How the used ones' stamps fall. -/
def Falls (M : List Ent) (clk : Nat) : Prop := (M.Pairwise fun a b => b.u < a.u) ∧ ∀ e ∈ M, e.u ≤ clk
theorem Falls.front {M : List Ent} {clk : Nat} (h : Falls M clk) (i : Int) (e : Ent) (he : e.u = clk + 1) : Falls (e :: entLess M i) (clk + 1) := by
  have hsub : ∀ a, a ∈ entLess M i → a ∈ M := fun a ha => (List.mem_filter.1 ha).1
  refine ⟨List.pairwise_cons.2 ⟨fun a ha => ?_, h.1.sublist List.filter_sublist⟩, fun a ha => ?_⟩
  · have := h.2 a (hsub a ha); omega
  · rcases List.mem_cons.1 ha with rfl | ha
    · omega
    · have := h.2 a (hsub a ha); omega
theorem Falls.less {M : List Ent} {clk : Nat} (h : Falls M clk) (i : Int) : Falls (entLess M i) clk := ⟨h.1.sublist List.filter_sublist, fun a ha => h.2 a (List.mem_filter.1 ha).1⟩
theorem Falls.cons {M : List Ent} {clk : Nat} (h : Falls M clk) (e : Ent) (he : e.u = clk + 1) : Falls (e :: M) (clk + 1) := by
  refine ⟨List.pairwise_cons.2 ⟨fun a ha => ?_, h.1⟩, fun a ha => ?_⟩
  · have := h.2 a ha; omega
  · rcases List.mem_cons.1 ha with rfl | ha
    · omega
    · have := h.2 a ha; omega
theorem Falls.map {M : List Ent} {clk : Nat} (h : Falls M clk) {f : Ent → Ent} (hf : ∀ e, (f e).u = e.u) : Falls (M.map f) clk := by
  refine ⟨?_, fun a ha => ?_⟩
  · rw [List.pairwise_map]
    refine h.1.imp fun {a b} hab => ?_
    rw [hf, hf]; exact hab
  · obtain ⟨e, he, rfl⟩ := List.mem_map.1 ha
    rw [hf]; exact h.2 e he
theorem Falls.filter {M : List Ent} {clk : Nat} (h : Falls M clk) (p : Ent → Bool) : Falls (M.filter p) clk := ⟨h.1.sublist List.filter_sublist, fun a ha => h.2 a (List.mem_filter.1 ha).1⟩
/-- A permutation of the numbers, sorted by their stamps downwards, is the list's own order. -/
theorem falls_order {M : List Ent} {clk : Nat} (h : Falls M clk) (hn : ((entL M).map Kd.pos).Nodup) {ss : List Int} (hp : ss.Perm ((entL M).map Kd.pos)) (us : Int → Nat) (hu : ∀ e ∈ M, us e.x.pos = e.u) (hs : ss.Pairwise fun a b => ¬ us a < us b) : ss = (entL M).map Kd.pos := by
  refine List.Perm.eq_of_pairwise (le := fun a b => us b < us a ∨ a = b) ?_ ?_ ?_ hp
  · intro a b _ _ h1 h2
    rcases h1 with h1 | h1
    · rcases h2 with h2 | h2
      · omega
      · exact h2.symm
    · exact h1
  · have hnd : ss.Nodup := hp.nodup_iff.2 hn
    have := List.Pairwise.and hs hnd
    refine List.Pairwise.imp_of_mem (fun {a b} ha hb ⟨h1, h2⟩ => ?_) this
    obtain ⟨x, hx, rfl⟩ := List.mem_map.1 (hp.subset ha)
    obtain ⟨e, he, rfl⟩ := List.mem_map.1 hx
    obtain ⟨y, hy, rfl⟩ := List.mem_map.1 (hp.subset hb)
    obtain ⟨d, hd, rfl⟩ := List.mem_map.1 hy
    left
    rcases Nat.lt_or_ge (us d.x.pos) (us e.x.pos) with h3 | h3
    · exact h3
    · exfalso
      have h4 : us d.x.pos = us e.x.pos := by omega
      rw [hu d hd, hu e he] at h4
      have h5 := h.1
      rw [List.pairwise_iff_getElem] at h5
      obtain ⟨i, hi, rfl⟩ := List.mem_iff_getElem.1 he
      obtain ⟨j, hj, rfl⟩ := List.mem_iff_getElem.1 hd
      rcases Nat.lt_trichotomy i j with h6 | h6 | h6
      · have := h5 i j hi hj h6; omega
      · subst h6; exact h2 rfl
      · have := h5 j i hj hi h6; omega
  · unfold entL
    rw [List.map_map, List.pairwise_map]
    refine List.Pairwise.imp_of_mem (fun {a b} ha hb hab => ?_) h.1
    left
    show us b.x.pos < us a.x.pos
    rw [hu a ha, hu b hb]; exact hab
end Go.Cch
