/- Where a term, and the terms that begin with a text, stand in a right list's blocks; no program in sight. No conditions. -/
import Derived.Test.YtefnddhondbjbaaDictFrom
import Derived.Test.YtefnddhondbjbaaDictParse
import Derived.Test.YtefnddhondbjbaaDictGet
namespace Go.Proofs.Ytefnddhondbjbaa
open Go.Wir Go.Dic

def firstT (g : List Ent) : List UInt8 := (g.headD ([], [])).1
/-- What Prefix gathers of blocks. -/
def prefG (t : List UInt8) : List (List Ent) → List Ent
  | [] => []
  | g :: gs => if (!(leB (firstT g) t)) && !(t.isPrefixOf (firstT g)) then [] else g.filter (fun e => t.isPrefixOf e.1) ++ prefG t gs

/-- Do the terms rise? -/
def Sorted (l : List Ent) : Prop := l.Pairwise fun a b => Op.bytesLess a.1 b.1 = true
theorem leB_trans {a b c : List UInt8} (h1 : leB a b = true) (h2 : Op.bytesLess b c = true) : Op.bytesLess a c = true := by
  unfold leB at h1
  rw [Bool.or_eq_true, beq_iff_eq] at h1
  rcases h1 with h1 | rfl
  · exact less_trans _ _ _ h1 h2
  · exact h2
theorem less_leB {a b c : List UInt8} (h1 : Op.bytesLess a b = true) (h2 : leB b c = true) : Op.bytesLess a c = true := by
  unfold leB at h2
  rw [Bool.or_eq_true, beq_iff_eq] at h2
  rcases h2 with h2 | rfl
  · exact less_trans _ _ _ h1 h2
  · exact h1
theorem rises_gt : ∀ (l : List Ent) (p : List UInt8), rises p l = true → (∀ e ∈ l, Op.bytesLess p e.1 = true) ∧ Sorted l
  | [], _, _ => ⟨by simp, List.Pairwise.nil⟩
  | a :: l, p, h => by
    simp only [rises] at h
    split at h
    · cases h
    · rename_i hle
      split at h
      · cases h
      · split at h
        · cases h
        · obtain ⟨h1, h2⟩ := rises_gt l a.1 h
          have hpa : Op.bytesLess p a.1 = true := by
            rw [leB_not] at hle
            simpa using hle
          refine ⟨fun e he => ?_, List.pairwise_cons.2 ⟨h1, h2⟩⟩
          rcases List.mem_cons.1 he with rfl | he
          · exact hpa
          · exact less_trans _ _ _ hpa (h1 e he)
theorem right_sorted {l : List Ent} (h : right l = true) : Sorted l := by
  unfold right at h
  rw [Bool.and_eq_true] at h
  exact (rises_gt l [] h.1).2
/-- A text that begins with t is not less than t. -/
theorem pre_leB : ∀ (t x : List UInt8), t.isPrefixOf x = true → leB t x = true
  | [], x, _ => by rw [leB_not]; cases x <;> simp [Op.bytesLess]
  | _ :: _, [], h => by simp at h
  | a :: t, b :: x, h => by
    simp only [List.isPrefixOf, Bool.and_eq_true, beq_iff_eq] at h
    obtain ⟨rfl, h⟩ := h
    have := pre_leB t x h
    rw [leB_not] at *
    simp only [Op.bytesLess, Bool.not_eq_true', Bool.or_eq_false_iff, decide_eq_false_iff_not, Bool.and_eq_false_imp] at *
    exact ⟨by rw [UInt8.lt_iff_toNat_lt]; omega, fun _ => this⟩
/-- What stands between t and a text that begins with t begins with t. -/
theorem pre_between : ∀ (t f x : List UInt8), leB t f = true → leB f x = true → t.isPrefixOf x = true → t.isPrefixOf f = true
  | [], _, _, _, _, _ => by simp
  | _ :: _, _, [], _, _, h => by simp at h
  | _ :: _, [], _ :: _, h, _, _ => by rw [leB_not] at h; simp [Op.bytesLess] at h
  | a :: t, c :: f, b :: x, h1, h2, h => by
    simp only [List.isPrefixOf, Bool.and_eq_true, beq_iff_eq] at h
    obtain ⟨rfl, h⟩ := h
    rw [leB_not] at h1 h2
    simp only [Op.bytesLess, Bool.not_eq_true', Bool.or_eq_false_iff, decide_eq_false_iff_not, Bool.and_eq_false_imp, beq_iff_eq] at h1 h2
    have hac : a = c := by
      have e1 := h1.1; have e2 := h2.1
      rw [UInt8.lt_iff_toNat_lt] at e1 e2
      exact UInt8.toNat_inj.1 (by omega)
    subst hac
    have i1 := h1.2 rfl
    have i2 := h2.2 rfl
    simp only [List.isPrefixOf, beq_self_eq_true, Bool.true_and]
    exact pre_between t f x (by rw [leB_not, i1]; rfl) (by rw [leB_not, i2]; rfl) h

/-- The blocks from the last one on whose first term is not behind t. -/
def skip (t : List UInt8) : List (List Ent) → List (List Ent)
  | g :: h :: r => if leB (firstT h) t then skip t (h :: r) else g :: h :: r
  | l => l
theorem firstT_mem {g : List Ent} (h : g ≠ []) : ∃ e ∈ g, e.1 = firstT g := by
  cases g with
  | nil => exact absurd rfl h
  | cons e g => exact ⟨e, by simp, rfl⟩
theorem flat_first {g : List Ent} {r : List (List Ent)} (hs : Sorted (g :: r).flatten) {x : List Ent} (hx : x ∈ r) (hn : x ≠ []) : ∀ e ∈ g, Op.bytesLess e.1 (firstT x) = true := by
  intro e he
  obtain ⟨f, hf, e1⟩ := firstT_mem hn
  rw [← e1]
  rw [List.flatten_cons] at hs
  exact (List.pairwise_append.1 hs).2.2 e he f (List.mem_flatten.2 ⟨x, hx, hf⟩)
theorem sorted_tail {g : List Ent} {r : List (List Ent)} (hs : Sorted (g :: r).flatten) : Sorted r.flatten := by
  rw [List.flatten_cons] at hs
  exact (List.pairwise_append.1 hs).2.1
theorem first_rise {g : List Ent} {r : List (List Ent)} (hs : Sorted (g :: r).flatten) (hg : g ≠ []) {x : List Ent} (hx : x ∈ r) (hn : x ≠ []) : Op.bytesLess (firstT g) (firstT x) = true := by
  obtain ⟨f, hf, e1⟩ := firstT_mem hg
  rw [← e1]
  exact flat_first hs hx hn f hf
theorem count_none (t : List UInt8) (g : List Ent) (r : List (List Ent)) (hs : Sorted (g :: r).flatten) (hn : ∀ x ∈ g :: r, x ≠ []) (h : leB (firstT g) t = false) : r.countP (fun x => leB (firstT x) t) = 0 := by
  rw [List.countP_eq_zero]
  intro x hx hl
  have h1 := first_rise hs (hn g (by simp)) hx (hn x (by simp [hx]))
  rw [leB_not, Bool.not_eq_false'] at h
  have := less_leB h1 hl
  rw [less_asymm _ _ h] at this
  cases this
theorem skip_drop (t : List UInt8) : ∀ (l : List (List Ent)), Sorted l.flatten → (∀ x ∈ l, x ≠ []) → skip t l = l.drop (l.countP (fun x => leB (firstT x) t) - 1)
  | [], _, _ => by simp [skip]
  | [g], _, _ => by
    simp only [skip, List.countP_cons, List.countP_nil]
    split <;> simp
  | g :: h :: r, hs, hn => by
    simp only [skip]
    have hgh := first_rise hs (hn g (by simp)) (x := h) (by simp) (hn h (by simp))
    split
    · rename_i hl
      have hg : leB (firstT g) t = true := by
        have := less_leB hgh hl
        unfold leB; rw [this]; rfl
      rw [skip_drop t (h :: r) (sorted_tail hs) (fun x hx => hn x (by simp [hx])), List.countP_cons (a := g), if_pos hg, List.countP_cons, if_pos hl]
      rfl
    · rename_i hl
      have hl : leB (firstT h) t = false := by simpa using hl
      have := count_none t h r (sorted_tail hs) (fun x hx => hn x (by simp [hx])) hl
      rw [List.countP_cons (a := g), List.countP_cons, if_neg (by rw [hl]; simp), this]
      split <;> rfl
theorem skip_filter (t : List UInt8) (p : List UInt8 → Bool) (hp : ∀ x, p x = true → leB t x = true) : ∀ (l : List (List Ent)), Sorted l.flatten → (∀ x ∈ l, x ≠ []) → l.flatten.filter (fun e => p e.1) = (skip t l).flatten.filter (fun e => p e.1)
  | [], _, _ => rfl
  | [g], _, _ => rfl
  | g :: h :: r, hs, hn => by
    simp only [skip]
    split
    · rename_i hl
      rw [List.flatten_cons, List.filter_append, skip_filter t p hp (h :: r) (sorted_tail hs) (fun x hx => hn x (by simp [hx]))]
      rw [List.filter_eq_nil_iff.2 (fun e he hpe => ?_), List.nil_append]
      have h1 := flat_first hs (x := h) (by simp) (hn h (by simp)) e he
      have h2 := hp _ hpe
      have h3 := less_leB h1 hl
      rw [leB_not, h3] at h2
      cases h2
    · rfl
theorem skip_cases (t : List UInt8) (l : List (List Ent)) (hs : Sorted l.flatten) (hn : ∀ x ∈ l, x ≠ []) :
    (skip t l = [] ∧ l = []) ∨ ∃ g r, skip t l = g :: r ∧ Sorted (g :: r).flatten ∧ (∀ x ∈ g :: r, x ≠ []) ∧ ∀ x ∈ r, leB (firstT x) t = false := by
  induction l with
  | nil => exact .inl ⟨rfl, rfl⟩
  | cons g l ih =>
    cases l with
    | nil => exact .inr ⟨g, [], rfl, hs, hn, by simp⟩
    | cons h r =>
      simp only [skip]
      split
      · rcases ih (sorted_tail hs) (fun x hx => hn x (by simp [hx])) with ⟨_, h2⟩ | h2
        · cases h2
        · exact .inr h2
      · rename_i hl
        have hl : leB (firstT h) t = false := by simpa using hl
        refine .inr ⟨g, h :: r, rfl, hs, hn, fun x hx => ?_⟩
        rcases List.mem_cons.1 hx with rfl | hx
        · exact hl
        · have h1 := first_rise (sorted_tail hs) (hn h (by simp)) hx (hn x (by simp [hx]))
          rw [leB_not, Bool.not_eq_false'] at *
          exact less_trans _ _ _ hl h1
theorem first_le {x : List Ent} (hs : Sorted x) {e : Ent} (he : e ∈ x) : leB (firstT x) e.1 = true := by
  cases x with
  | nil => simp at he
  | cons a x =>
    rcases List.mem_cons.1 he with rfl | he
    · unfold leB firstT; simp
    · have := (List.pairwise_cons.1 hs).1 e he
      unfold leB
      rw [show firstT (a :: x) = a.1 from rfl, this]; rfl
theorem sorted_mem {l : List (List Ent)} (hs : Sorted l.flatten) {x : List Ent} (hx : x ∈ l) : Sorted x := by
  induction l with
  | nil => simp at hx
  | cons g l ih =>
    rcases List.mem_cons.1 hx with rfl | hx
    · rw [List.flatten_cons] at hs
      exact (List.pairwise_append.1 hs).1
    · exact ih (sorted_tail hs) hx
/-- Behind the first block of these no term is t. -/
theorem find_first (t : List UInt8) (l : List (List Ent)) (hs : Sorted l.flatten) (hn : ∀ x ∈ l, x ≠ []) : findE l.flatten t = findE ((skip t l).headD []) t := by
  have hf : ∀ (l : List Ent), findE l t = ((l.filter (fun e => e.1 == t)).head?).map Prod.snd := by
    intro l; unfold findE; rw [List.head?_filter]
  have h1 : l.flatten.filter (fun e => e.1 == t) = (skip t l).flatten.filter (fun e => e.1 == t) := skip_filter t (fun x => x == t) (fun x hx => by rw [beq_iff_eq.1 hx]; unfold leB; simp) l hs hn
  rw [hf, hf, h1]
  rcases skip_cases t l hs hn with ⟨h2, _⟩ | ⟨g, r, h2, hs2, hn2, h3⟩
  · rw [h2]; rfl
  · rw [h2, List.flatten_cons, List.filter_append]
    rw [show r.flatten.filter (fun e => e.1 == t) = [] from ?_, List.append_nil]
    · rfl
    · rw [List.filter_eq_nil_iff]
      intro e he hpe
      obtain ⟨x, hx, hex⟩ := List.mem_flatten.1 he
      have h4 := h3 x hx
      have h5 := first_le (sorted_mem (sorted_tail hs2) hx) hex
      rw [beq_iff_eq.1 hpe, h4] at h5
      cases h5
theorem prefG_flat (t : List UInt8) : ∀ (l : List (List Ent)), Sorted l.flatten → (∀ x ∈ l, x ≠ []) → prefG t l = l.flatten.filter (fun e => t.isPrefixOf e.1)
  | [], _, _ => rfl
  | g :: l, hs, hn => by
    simp only [prefG]
    split
    · rename_i h
      rw [Bool.and_eq_true, Bool.not_eq_true', Bool.not_eq_true'] at h
      symm
      rw [List.filter_eq_nil_iff]
      intro e he hpe
      have h1 : leB (firstT g) e.1 = true := by
        rw [List.flatten_cons] at he
        rcases List.mem_append.1 he with he | he
        · exact first_le (sorted_mem hs (by simp)) he
        · obtain ⟨x, hx, hex⟩ := List.mem_flatten.1 he
          have h4 := first_rise hs (hn g (by simp)) hx (hn x (by simp [hx]))
          have h5 := first_le (sorted_mem (sorted_tail hs) hx) hex
          have := less_leB h4 h5
          unfold leB; rw [this]; rfl
      have h2 : leB t (firstT g) = true := by
        have := h.1
        rw [leB_not, Bool.not_eq_false'] at this
        unfold leB; rw [this]; rfl
      rw [pre_between t _ _ h2 h1 hpe] at h
      cases h.2
    · rw [prefG_flat t l (sorted_tail hs) (fun x hx => hn x (by simp [hx])), List.flatten_cons, List.filter_append]
theorem gs_ne {l : List Ent} : ∀ x ∈ gs l, x ≠ [] := by
  intro x hx
  obtain ⟨k, hk, rfl⟩ := List.getElem_of_mem hx
  rw [gs_get]
  intro h
  have := congrArg List.length h
  rw [gs_length] at hk
  simp at this
  omega
/-- What Prefix gathers of a right list. -/
theorem prefix_right (l : List Ent) (h : right l = true) (t : List UInt8) : prefG t (skip t (gs l)) = l.filter (fun e => t.isPrefixOf e.1) := by
  have hs : Sorted (gs l).flatten := by rw [gs_flatten]; exact right_sorted h
  have hf := skip_filter t (fun x => t.isPrefixOf x) (fun x hx => pre_leB t x hx) (gs l) hs gs_ne
  rw [gs_flatten] at hf
  rw [hf]
  rcases skip_cases t (gs l) hs gs_ne with ⟨h2, _⟩ | ⟨g, r, h2, hs2, hn2, _⟩
  · rw [h2]; rfl
  · rw [h2, prefG_flat t _ hs2 hn2]
theorem get_right (l : List Ent) (h : right l = true) (t : List UInt8) : findE l t = findE ((skip t (gs l)).headD []) t := by
  have hs : Sorted (gs l).flatten := by rw [gs_flatten]; exact right_sorted h
  have := find_first t (gs l) hs gs_ne
  rw [gs_flatten] at this
  exact this
theorem count_range {α : Type} (d : α) (q : α → Bool) : ∀ (l : List α), (List.range l.length).countP (fun i => q (l.getD i d)) = l.countP q
  | [] => rfl
  | a :: l => by
    rw [List.length_cons, List.range_succ_eq_map, List.countP_cons, List.countP_map, List.countP_cons]
    have := count_range d q l
    rw [← this]
    rfl
theorem behind_part (gl : List (List Ent)) (t : List UInt8) (i : Nat) (h : i < gl.length) : behind (gl.map partOf) t i = !(leB (firstT gl[i]) t) := by
  unfold behind
  rw [List.getD_eq_getElem?_getD, List.getElem?_map, List.getElem?_eq_getElem h]
  rfl
theorem cntNot_part (gl : List (List Ent)) (t : List UInt8) : cntNot (gl.map partOf) t = gl.countP (fun x => leB (firstT x) t) := by
  unfold cntNot behind
  rw [count_range ([], [], 0) (fun p : Part => !(!(leB p.1 t))) (gl.map partOf), List.countP_map]
  congr 1
  funext x
  simp [partOf, firstT]
theorem drop_part (l : List Ent) (h : right l = true) (t : List UInt8) : ((gs l).map partOf).drop (cntNot ((gs l).map partOf) t - 1) = (skip t (gs l)).map partOf := by
  have hs : Sorted (gs l).flatten := by rw [gs_flatten]; exact right_sorted h
  rw [cntNot_part, skip_drop t _ hs gs_ne, List.map_drop]
theorem behind_mono (l : List Ent) (h : right l = true) (t : List UInt8) : ∀ a b, a ≤ b → b < ((gs l).map partOf).length → behind ((gs l).map partOf) t a = true → behind ((gs l).map partOf) t b = true := by
  intro a b hab hb ha
  rw [List.length_map] at hb
  rw [behind_part _ _ _ (by omega)] at ha
  rw [behind_part _ _ _ hb]
  have hs : Sorted (gs l).flatten := by rw [gs_flatten]; exact right_sorted h
  rcases Nat.lt_or_ge a b with h' | h'
  · have hmono : ∀ (L : List (List Ent)), Sorted L.flatten → (∀ x ∈ L, x ≠ []) → ∀ a b (h1 : a < b) (h2 : b < L.length), Op.bytesLess (firstT L[a]) (firstT L[b]) = true := by
      intro L
      induction L with
      | nil => intro _ _ a b _ h2; simp at h2
      | cons g L ih =>
        intro hs hn a b h1 h2
        cases b with
        | zero => omega
        | succ b =>
          simp only [List.getElem_cons_succ]
          cases a with
          | zero => exact first_rise hs (hn g (by simp)) (List.getElem_mem _) (hn _ (by simp))
          | succ a => exact ih (sorted_tail hs) (fun x hx => hn x (by simp [hx])) a b (by omega) (by simpa using h2)
    have h1 := hmono (gs l) hs gs_ne a b h' hb
    rw [leB_not] at *
    simp only [Bool.not_not] at *
    exact less_trans _ _ _ ha h1
  · obtain rfl : a = b := by omega
    exact ha
theorem skip_sub (t : List UInt8) : ∀ (l : List (List Ent)), (∀ x ∈ skip t l, x ∈ l) ∧ (skip t l).length ≤ l.length
  | [] => by simp [skip]
  | [g] => by simp [skip]
  | g :: h :: r => by
    have ih := skip_sub t (h :: r)
    simp only [skip]
    split
    · exact ⟨fun x hx => by have := ih.1 x hx; simp at this ⊢; exact .inr this, by have := ih.2; simp at this ⊢; omega⟩
    · simp
end Go.Proofs.Ytefnddhondbjbaa
