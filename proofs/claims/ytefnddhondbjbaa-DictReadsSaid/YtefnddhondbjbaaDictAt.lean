/- dict.Get and dict.Prefix at a packed list. Conditions: the list is right, of at most 300 entries. -/
import Derived.Test.YtefnddhondbjbaaDictUnp
import Derived.Test.YtefnddhondbjbaaDictLaw
import Derived.Test.YtefnddhondbjbaaDictPrefix
namespace Go.Proofs.Ytefnddhondbjbaa
open Go.RowKit Go.Wir Go.Dic

theorem bytesL_length {l : List Ent} (h : right l = true) (hl : l.length ≤ 300) : (bytesL l).length ≤ 549755813888 := by
  obtain ⟨h1, h2⟩ := right_small h
  have a1 := indexL_length l h1 (gs l).length
  have a2 := allL_length l h1 (gs l).length
  have a3 := (varL_length l.length).2
  rw [List.take_length] at a1 a2
  unfold bytesL
  simp only [List.length_append]
  have b1 : 60 * ((l.length + 15) / 16) ≤ 60 * 19 := Nat.mul_le_mul_left _ (by omega)
  have b2 : 67109984 * ((l.length + 15) / 16) ≤ 67109984 * 19 := Nat.mul_le_mul_left _ (by omega)
  omega
/-- A value and whether there is one. -/
def fV (x : Option (List UInt8)) : List UInt8 := x.getD []
theorem getV_eq (x : Option (List UInt8)) : getV x = .tuple #[.string (B (fV x)), .bool x.isSome] := by
  cases x <;> rfl
theorem dict_Get_at (l : List Ent) (h : right l = true) (hl : l.length ≤ 300) (t : ByteArray) (w : World) :
    Calls Try.prog 19 #[.string (B (bytesL l)), .string t] w fun e w' => e = .returned (.tuple #[.string (B (fV (findE l (L t)))), .bool (findE l (L t)).isSome]) ∧ Below w.heap.size w w' := by
  obtain ⟨h1, h2⟩ := right_small h
  have hs := bytesL_length h hl
  rw [← getV_eq]
  have hp := parts_back l h1 h2
  have hd := drop_part l h (L t)
  have hg := get_right l h (L t)
  have hlen : ((gs l).map partOf).length ≤ 1048576 := by rw [List.length_map, gs_length]; omega
  cases hsk : skip (L t) (gs l) with
  | nil =>
    rw [hsk] at hd hg
    rw [hg]
    exact dict_Get_none (B (bytesL l)) t (by rw [size_B]; exact hs) _ [] hp hlen (behind_mono l h (L t)) hd w
  | cons g r =>
    rw [hsk] at hd hg
    rw [hg]
    have hgm : g ∈ gs l := (skip_sub (L t) (gs l)).1 g (by rw [hsk]; simp)
    obtain ⟨g1, g2⟩ := gs_mem hgm
    have gb := blockL_length [] g (fun e he => h1 e (g1 e he))
    have ge := ents_back g [] [] (by simp) (fun e he => h1 e (g1 e he))
    rw [List.append_nil] at ge
    exact dict_Get_some (B (bytesL l)) t (by rw [size_B]; exact hs) _ [] hp hlen (behind_mono l h (L t)) (partOf g) (r.map partOf) hd (by show (blockL [] g).length ≤ _; omega) (by show g.length ≤ _; omega) g [] ge (by omega) w
theorem dict_Prefix_at (l : List Ent) (h : right l = true) (hl : l.length ≤ 300) (t : ByteArray) (w : World) :
    Calls Try.prog 17 #[.string (B (bytesL l)), .string t] w fun e w' => Below w.heap.size w w' ∧ ∃ v, e = .returned v ∧ Ents w' v (l.filter (fun e => (L t).isPrefixOf e.1)) := by
  obtain ⟨h1, h2⟩ := right_small h
  have hs := bytesL_length h hl
  have hp := parts_back l h1 h2
  have hd := drop_part l h (L t)
  have hg := prefix_right l h (L t)
  have hlen : ((gs l).map partOf).length ≤ 1048576 := by rw [List.length_map, gs_length]; omega
  have hsub := skip_sub (L t) (gs l)
  rw [← hg]
  refine dict_Prefix (B (bytesL l)) t (by rw [size_B]; exact hs) _ [] hp hlen (behind_mono l h (L t)) _ hd (by have := hsub.2; rw [gs_length] at this; omega) (fun g hgm => ?_) w
  obtain ⟨g1, g2⟩ := gs_mem (hsub.1 g hgm)
  exact ⟨fun e he => h1 e (g1 e he), g2⟩
/-- A term's value is that of the one entry that has it. -/
theorem find_sorted {l : List Ent} (h : Sorted l) {e : Ent} (he : e ∈ l) : findE l e.1 = some e.2 := by
  unfold findE
  induction l with
  | nil => simp at he
  | cons a l ih =>
    rcases List.mem_cons.1 he with rfl | he
    · simp
    · have h1 := (List.pairwise_cons.1 h).1 e he
      have hne : (a.1 == e.1) = false := by
        rw [beq_eq_false_iff_ne]
        intro h2
        rw [h2, less_irrefl] at h1
        cases h1
      rw [List.find?_cons_of_neg (by simp only [hne]; simp)]
      exact ih (List.pairwise_cons.1 h).2 he
theorem find_some {l : List Ent} {t v : List UInt8} (h : findE l t = some v) : ∃ e ∈ l, e.1 = t ∧ e.2 = v := by
  unfold findE at h
  obtain ⟨e, he, rfl⟩ := Option.map_eq_some_iff.1 h
  exact ⟨e, List.mem_of_find?_eq_some he, by have := List.find?_some he; simpa using this, rfl⟩
/-- An element's place among those that are kept. -/
theorem filter_at {α : Type} (p : α → Bool) (l : List α) (i : Nat) (h : i < l.length) (hp : p l[i] = true) : ∃ (hk : ((l.take i).filter p).length < (l.filter p).length), (l.filter p)[((l.take i).filter p).length] = l[i] := by
  have e : l.filter p = (l.take i).filter p ++ l[i] :: (l.drop (i + 1)).filter p := by
    rw [show l.filter p = (l.take i ++ l.drop i).filter p by rw [List.take_append_drop], List.filter_append, List.drop_eq_getElem_cons h, List.filter_cons_of_pos hp]
  have hk : ((l.take i).filter p).length < (l.filter p).length := by
    rw [e, List.length_append, List.length_cons]; omega
  refine ⟨hk, ?_⟩
  have : (l.filter p)[((l.take i).filter p).length]? = some l[i] := by
    rw [e, List.getElem?_append_right (Nat.le_refl _), Nat.sub_self]; rfl
  rw [List.getElem?_eq_getElem hk] at this
  exact Option.some.inj this
theorem filter_take {α : Type} (p : α → Bool) (l : List α) (i : Nat) (h : i < l.length) : ((l.take (i + 1)).filter p).length = ((l.take i).filter p).length + (if p l[i] then 1 else 0) := by
  rw [List.take_succ_eq_append_getElem h, List.filter_append, List.length_append]
  cases hp : p l[i] <;> simp [hp]
theorem any_take {α : Type} (p : α → Bool) (l : List α) (i : Nat) (h : i < l.length) : (l.take (i + 1)).any p = ((l.take i).any p || p l[i]) := by
  rw [List.take_succ_eq_append_getElem h, List.any_append]; simp
theorem find_any (l : List Ent) (t : List UInt8) : (findE l t).isSome = l.any (fun e => e.1 == t) := by
  unfold findE
  rw [Option.isSome_map, List.isSome_find?]
end Go.Proofs.Ytefnddhondbjbaa
