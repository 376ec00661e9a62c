/- Both unpackings are the same; what was packed is unpacked as it was; no program in sight. No conditions. -/
import Derived.Test.YtefnddhondbjbaaRef13Unpack
namespace Go.Proofs.Ytefnddhondbjbaa
open Go.Wir Go.Dic

theorem entsAll_parts (L : List (List Ent)) (h : ∀ g ∈ L, ∀ e ∈ g, small e) : entsAll (L.map partOf) = some L.flatten := by
  induction L with
  | nil => rfl
  | cons g L ih =>
    have hb := ents_back g [] [] (by simp) (h g (by simp))
    rw [List.append_nil] at hb
    have e : partOf g = ((g.headD ([], [])).1, blockL [] g, g.length) := rfl
    simp only [List.map_cons, entsAll, e, hb, ih (fun x hx => h x (by simp [hx]))]
    rfl
theorem parseD_back (l : List Ent) (h : right l = true) : parseD (bytesL l) = some l := by
  obtain ⟨h1, h2⟩ := right_small h
  unfold parseD
  rw [parts_back l h1 h2]
  have := entsAll_parts (gs l) (fun g hg e he => h1 e ((gs_mem hg).1 e he))
  rw [gs_flatten] at this
  exact this
theorem tv_varL (n : Nat) (r : List UInt8) (h : n ≤ 9223372036854775807) : tvOk (varL n ++ r) = true ∧ tvN (varL n ++ r) = n ∧ tvR (varL n ++ r) = r := by
  have e := toVarL_varL n r (by omega)
  unfold tvOk tvN tvR
  rw [e]
  exact ⟨rfl, rfl, rfl⟩
theorem tt_textL (t r : List UInt8) (h : t.length ≤ 9223372036854775807) : ttOk (textL t ++ r) = true ∧ ttT (textL t ++ r) = t ∧ ttR (textL t ++ r) = r := by
  have e := toTextL_textL t r (by omega)
  unfold ttOk ttT ttR
  rw [e]
  exact ⟨rfl, rfl, rfl⟩
theorem entsR_one (m : Nat) (p last : List UInt8) (e : Ent) (r : List UInt8) (hk : alike p e.1 ≤ last.length) (ht : last.take (alike p e.1) = e.1.take (alike p e.1)) (h1 : e.1.length ≤ 9223372036854775807) (h2 : e.2.length ≤ 9223372036854775807) :
    entsR (m + 1) last (entL p e ++ r) = (entsR m e.1 r).map (e :: ·) := by
  have hal := alike_le_right p e.1
  have hs : entL p e ++ r = varL (alike p e.1) ++ (textL (e.1.drop (alike p e.1)) ++ (textL e.2 ++ r)) := by
    unfold entL; simp only [List.append_assoc]
  obtain ⟨a1, a2, a3⟩ := tv_varL (alike p e.1) (textL (e.1.drop (alike p e.1)) ++ (textL e.2 ++ r)) (by omega)
  obtain ⟨b1, b2, b3⟩ := tt_textL (e.1.drop (alike p e.1)) (textL e.2 ++ r) (by rw [List.length_drop]; omega)
  obtain ⟨c1, c2, c3⟩ := tt_textL e.2 r h2
  rw [hs]
  simp only [entsR]
  rw [a1, a2, a3, b1, b2, b3, c1, c2, c3, ht, List.take_append_drop, decide_eq_true hk]
  rfl
theorem entsR_block : ∀ (l : List Ent) (m : Nat) (last r : List UInt8), (∀ e ∈ l, small e) → entsR (l.length + m) last (blockL last l ++ r) = (entsR m (lastT last l) r).map (l ++ ·)
  | [], m, last, r, _ => by
    rw [List.length_nil, Nat.zero_add]
    show entsR m last r = _
    cases h : entsR m last r with
    | none => show none = (entsR m last r).map _; rw [h]; rfl
    | some x => show some x = (entsR m last r).map _; rw [h]; rfl
  | e :: l, m, last, r, hs => by
    have he := hs e (by simp)
    unfold small at he
    rw [show (e :: l).length + m = (l.length + m) + 1 by rw [List.length_cons]; omega]
    simp only [blockL, List.append_assoc]
    rw [entsR_one _ last last e _ (alike_le_left _ _) (alike_take _ _) (by omega) (by omega), entsR_block l m e.1 r (fun x hx => hs x (by simp [hx])), lastT_cons]
    cases entsR m (lastT e.1 l) r <;> simp
theorem entsR_group (g : List Ent) (m : Nat) (last r : List UInt8) (hs : ∀ e ∈ g, small e) : ∃ last', entsR (g.length + m) last (blockL [] g ++ r) = (entsR m last' r).map (g ++ ·) := by
  cases g with
  | nil =>
    refine ⟨last, ?_⟩
    rw [List.length_nil, Nat.zero_add]
    show entsR m last r = _
    cases entsR m last r <;> simp
  | cons e g =>
    have he := hs e (by simp)
    unfold small at he
    refine ⟨lastT e.1 g, ?_⟩
    have h0 : alike [] e.1 = 0 := by simp [alike]
    rw [show (e :: g).length + m = (g.length + m) + 1 by rw [List.length_cons]; omega]
    simp only [blockL, List.append_assoc]
    rw [entsR_one _ [] last e _ (by rw [h0]; omega) (by rw [h0]; simp) (by omega) (by omega), entsR_block g m e.1 r (fun x hx => hs x (by simp [hx]))]
    cases entsR m (lastT e.1 g) r <;> simp
theorem entsR_all : ∀ (L : List (List Ent)) (last : List UInt8), (∀ g ∈ L, ∀ e ∈ g, small e) → entsR L.flatten.length last (allL L) = some L.flatten
  | [], _, _ => rfl
  | g :: L, last, hs => by
    obtain ⟨last', h⟩ := entsR_group g L.flatten.length last (allL L) (hs g (by simp))
    rw [List.flatten_cons, List.length_append]
    show entsR _ last (blockL [] g ++ allL L) = _
    rw [h, entsR_all L last' (fun x hx => hs x (by simp [hx]))]
    rfl
theorem idxR_all : ∀ (L : List (List Ent)) (r : List UInt8), (∀ g ∈ L, (∀ e ∈ g, small e) ∧ g.length ≤ 16) → idxR L.length (indexL L ++ r) = some r
  | [], r, _ => rfl
  | g :: L, r, hs => by
    obtain ⟨h1, h2⟩ := hs g (by simp)
    have h0 : (g.headD ([], [])).1.length ≤ 40 := by
      cases g with
      | nil => simp
      | cons e g => exact (h1 e (by simp)).1
    have hb := blockL_length [] g h1
    have e : indexL (g :: L) ++ r = textL (g.headD ([], [])).1 ++ (varL (blockL [] g).length ++ (indexL L ++ r)) := by
      simp only [indexL, List.flatMap_cons, List.append_assoc]
      unfold headL
      simp only [List.append_assoc]
    obtain ⟨a1, _, a3⟩ := tt_textL (g.headD ([], [])).1 (varL (blockL [] g).length ++ (indexL L ++ r)) (by omega)
    obtain ⟨b1, _, b3⟩ := tv_varL (blockL [] g).length (indexL L ++ r) (by omega)
    rw [e]
    simp only [List.length_cons, idxR]
    rw [a1, a3, b1, b3]
    exact idxR_all L r (fun x hx => hs x (by simp [hx]))
theorem parseR_back (l : List Ent) (h : right l = true) : parseR (bytesL l) = some l := by
  obtain ⟨h1, h2⟩ := right_small h
  have hb : bytesL l = varL l.length ++ (indexL (gs l) ++ allL (gs l)) := by unfold bytesL; rw [List.append_assoc]
  obtain ⟨a1, a2, a3⟩ := tv_varL l.length (indexL (gs l) ++ allL (gs l)) (by omega)
  unfold parseR
  rw [hb, a1, a2, a3, decide_eq_true h2]
  have h3 := idxR_all (gs l) (allL (gs l)) (fun g hg => ⟨fun e he => h1 e ((gs_mem hg).1 e he), (gs_mem hg).2⟩)
  rw [gs_length] at h3
  rw [h3]
  have h4 := entsR_all (gs l) [] (fun g hg e he => h1 e ((gs_mem hg).1 e he))
  rw [gs_flatten] at h4
  exact h4
theorem chk_iff {s : List UInt8} {l : List Ent} : chk s l = true ↔ right l = true ∧ bytesL l = s := by
  unfold chk
  rw [Bool.and_eq_true, decide_eq_true_eq]
theorem unpD_iff (s : List UInt8) (l : List Ent) : unpD s = some l ↔ right l = true ∧ bytesL l = s := by
  unfold unpD
  rw [Option.filter_eq_some_iff, chk_iff]
  constructor
  · exact fun h => h.2
  · rintro ⟨h1, rfl⟩
    exact ⟨parseD_back l h1, h1, rfl⟩
theorem unpR_iff (s : List UInt8) (l : List Ent) : unpR s = some l ↔ right l = true ∧ bytesL l = s := by
  unfold unpR
  rw [Option.filter_eq_some_iff, chk_iff]
  constructor
  · exact fun h => h.2
  · rintro ⟨h1, rfl⟩
    exact ⟨parseR_back l h1, h1, rfl⟩
theorem unp_same (s : List UInt8) : unpD s = unpR s := by
  cases h : unpD s with
  | some l => exact ((unpR_iff s l).2 ((unpD_iff s l).1 h)).symm
  | none =>
    cases h2 : unpR s with
    | none => rfl
    | some l => rw [(unpD_iff s l).2 ((unpR_iff s l).1 h2)] at h; cases h
/-- Lists that are right and have the same bytes are the same. -/
theorem bytesL_inj {a b : List Ent} (ha : right a = true) (hb : right b = true) (h : bytesL a = bytesL b) : a = b := by
  have h1 := (unpD_iff (bytesL a) a).2 ⟨ha, rfl⟩
  have h2 := (unpD_iff (bytesL a) b).2 ⟨hb, h.symm⟩
  rw [h1] at h2
  exact Option.some.inj h2
end Go.Proofs.Ytefnddhondbjbaa
