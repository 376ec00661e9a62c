/- What was packed is read back: the plain laws on entry, entries, parts. No conditions on the program. -/
import Derived.Test.YtefnddhondbjbaaDictParts
namespace Go.Proofs.Ytefnddhondbjbaa
open Go.RowKit Go.Wir Go.Dic

theorem numberL_varL (n most : Nat) (r : List UInt8) (h : n ≤ most) (hm : most ≤ 9223372036854775807) : numberL (varL n ++ r) most = some (n, r) := by
  unfold numberL
  rw [toVarL_varL n r (by omega)]
  simp only
  rw [if_pos h]
theorem text_varL (t r : List UInt8) (h : t.length ≤ 9223372036854775807) : toTextL (textL t ++ r) = some (t, r) := toTextL_textL t r (by omega)
theorem textGR_textL (t r : List UInt8) (h : t.length ≤ 9223372036854775807) : textG (B (textL t ++ r)) = t ∧ textR (B (textL t ++ r)) = r := by
  have e : toTextL (L (B (textL t ++ r))) = some (t, r) := text_varL t r h
  unfold textG textR
  rw [e]; exact ⟨rfl, rfl⟩
theorem numGR_varL (n : Nat) (most : Nat) (r : List UInt8) (h : n ≤ most) (hm : most ≤ 9223372036854775807) : numG (B (varL n ++ r)) most = n ∧ numR (B (varL n ++ r)) most = r := by
  have e : numberL (L (B (varL n ++ r))) most = some (n, r) := numberL_varL n most r h hm
  unfold numG numR
  rw [e]; exact ⟨rfl, rfl⟩
theorem ent_back (last : List UInt8) (e : Ent) (r : List UInt8) (hl : last.length ≤ 9223372036854775807) (h1 : e.1.length ≤ 9223372036854775807) (h2 : e.2.length ≤ 9223372036854775807) :
    entG (B (entL last e ++ r)) (B last) = e ∧ entR (B (entL last e ++ r)) (B last) = r ∧ entOk (B (entL last e ++ r)) (B last) = true := by
  have hal := alike_le_left last e.1
  have hs : entL last e ++ r = varL (alike last e.1) ++ (textL (e.1.drop (alike last e.1)) ++ (textL e.2 ++ r)) := by
    unfold entL; simp only [List.append_assoc]
  obtain ⟨n1, n2⟩ := numGR_varL (alike last e.1) (B last).size (textL (e.1.drop (alike last e.1)) ++ (textL e.2 ++ r)) (by rw [size_B]; exact hal) (by rw [size_B]; exact hl)
  have n3 := numberL_varL (alike last e.1) (B last).size (textL (e.1.drop (alike last e.1)) ++ (textL e.2 ++ r)) (by rw [size_B]; exact hal) (by rw [size_B]; exact hl)
  obtain ⟨t1, t2⟩ := textGR_textL (e.1.drop (alike last e.1)) (textL e.2 ++ r) (by rw [List.length_drop]; omega)
  obtain ⟨v1, v2⟩ := textGR_textL e.2 r h2
  have t3 := text_varL (e.1.drop (alike last e.1)) (textL e.2 ++ r) (by rw [List.length_drop]; omega)
  have v3 := text_varL e.2 r h2
  rw [hs]
  unfold entG entR entOk
  refine ⟨?_, ?_, ?_⟩
  · rw [n1, n2, t1, t2, v1, L_B, alike_take, List.take_append_drop]
  · rw [n2, t2, v2]
  · rw [L_B, n2, t2, n3, t3, v3]; rfl
theorem ents_back : ∀ (l : List Ent) (last r : List UInt8), last.length ≤ 9223372036854775807 → (∀ e ∈ l, small e) → entsL l.length last (blockL last l ++ r) = some (l, r)
  | [], _, _, _, _ => by simp [entsL, blockL]
  | e :: l, last, r, hl, hs => by
    have he := hs e (by simp)
    unfold small at he
    obtain ⟨g1, g2, g3⟩ := ent_back last e (blockL e.1 l ++ r) hl (by omega) (by omega)
    simp only [List.length_cons, entsL, blockL, List.append_assoc]
    rw [if_pos g3, g1, g2, ents_back l e.1 r (by omega) (fun x hx => hs x (by simp [hx]))]
    rfl
def idxOf (g : List Ent) : List UInt8 × Nat × Nat := ((g.headD ([], [])).1, (blockL [] g).length, g.length)
def partOf (g : List Ent) : Part := ((g.headD ([], [])).1, blockL [] g, g.length)
theorem idx_step (f n i : Nat) (g : List Ent) (r : List UInt8) (hg : g.length = min 16 (n - i)) (hs : ∀ e ∈ g, small e) :
    idxL (f + 1) n i (headL g ++ r) = (idxL f n (i + 16) r).map (fun x => (idxOf g :: x.1, x.2)) := by
  have h0 : (g.headD ([], [])).1.length ≤ 40 := by
    cases g with
    | nil => simp
    | cons e g => exact (hs e (by simp)).1
  have hb := blockL_length [] g hs
  simp only [idxL]
  unfold headL
  rw [List.append_assoc, text_varL _ _ (by omega)]
  simp only
  rw [numberL_varL _ _ _ (by omega) (by omega)]
  simp only
  rw [← hg]; rfl
theorem idx_back (l : List Ent) (hs : ∀ e ∈ l, small e) (r : List UInt8) : ∀ (f i : Nat), idxL f l.length i (indexL (gsF f (l.drop i)) ++ r) = some ((gsF f (l.drop i)).map idxOf, r)
  | 0, i => by simp [idxL, gsF, indexL]
  | f + 1, i => by
    have e : indexL (gsF (f + 1) (l.drop i)) ++ r = headL ((l.drop i).take 16) ++ (indexL (gsF f (l.drop (i + 16))) ++ r) := by
      simp only [gsF, indexL, List.flatMap_cons, List.append_assoc, List.drop_drop]
    rw [e, idx_step f l.length i _ _ (by simp) (fun e he => hs e (List.mem_of_mem_drop (List.mem_of_mem_take he))), idx_back l hs r f (i + 16)]
    simp only [gsF, List.drop_drop, List.map_cons, Option.map_some]
theorem split_back (gs : List (List Ent)) (r : List UInt8) : splitL (gs.map idxOf) (allL gs ++ r) = some (gs.map partOf, r) := by
  induction gs with
  | nil => simp [splitL, allL]
  | cons g gs ih =>
    have e : allL (g :: gs) ++ r = blockL [] g ++ (allL gs ++ r) := by simp only [allL, List.flatMap_cons, List.append_assoc]
    rw [e]
    simp only [List.map_cons, idxOf, splitL]
    rw [if_pos (by rw [List.length_append]; omega), List.drop_left, List.take_left, ih]
    rfl
theorem parts_back (l : List Ent) (hs : ∀ e ∈ l, small e) (hn : l.length ≤ 1048576) : partsL (bytesL l) = some ((gs l).map partOf, []) := by
  unfold partsL bytesL
  rw [List.append_assoc, numberL_varL _ _ _ hn (by omega)]
  simp only
  have := idx_back l hs (allL (gs l)) ((l.length + 15) / 16) 0
  rw [List.drop_zero] at this
  rw [show gsF ((l.length + 15) / 16) l = gs l from rfl] at this
  rw [this]
  have h2 := split_back (gs l) []
  rw [List.append_nil] at h2
  exact h2
end Go.Proofs.Ytefnddhondbjbaa
