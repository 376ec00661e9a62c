/- The bytes of a right list (chapter 13), in plain Lean: blocks of sixteen, an index ahead of them; no program in sight. No conditions. -/
import Derived.Test.YtefnddhondbjbaaDictPlain
namespace Go.Dic
open Go.Wir

/-- How many bytes two texts have alike. -/
def alike : List UInt8 → List UInt8 → Nat
  | a :: l, b :: m => if a = b then alike l m + 1 else 0
  | _, _ => 0
theorem alike_le_left : ∀ (a b : List UInt8), alike a b ≤ a.length
  | [], _ => by simp [alike]
  | _ :: _, [] => by simp [alike]
  | a :: l, b :: m => by
    have := alike_le_left l m
    simp only [alike, List.length_cons]; split <;> omega
theorem alike_le_right : ∀ (a b : List UInt8), alike a b ≤ b.length
  | [], _ => by simp [alike]
  | _ :: _, [] => by simp [alike]
  | a :: l, b :: m => by
    have := alike_le_right l m
    simp only [alike, List.length_cons]; split <;> omega
theorem alike_take : ∀ (a b : List UInt8), a.take (alike a b) = b.take (alike a b)
  | [], _ => by simp [alike]
  | _ :: _, [] => by simp [alike]
  | a :: l, b :: m => by
    have := alike_take l m
    simp only [alike]
    split
    · rename_i h; subst h; simp [this]
    · simp
/-- It is where the first difference stands. -/
theorem alike_at : ∀ (a b : List UInt8) (n : Nat) (ha : n ≤ a.length) (hb : n ≤ b.length), a.take n = b.take n → (∀ (h1 : n < a.length) (h2 : n < b.length), a[n] ≠ b[n]) → alike a b = n
  | [], b, n, ha, _, _, _ => by obtain rfl : n = 0 := by simpa using ha
                                simp [alike]
  | _ :: _, [], n, _, hb, _, _ => by obtain rfl : n = 0 := by simpa using hb
                                     simp [alike]
  | a :: l, b :: m, n, ha, hb, ht, hd => by
    cases n with
    | zero =>
      have := hd (by simp) (by simp)
      simp only [List.getElem_cons_zero] at this
      simp [alike, this]
    | succ n =>
      simp only [List.take_succ_cons, List.cons.injEq] at ht
      simp only [alike, if_pos ht.1]
      rw [alike_at l m n (by simpa using ha) (by simpa using hb) ht.2 (fun h1 h2 => by
        have := hd (by simpa using h1) (by simpa using h2)
        simpa using this)]
/-- An entry behind a term. -/
def entL (last : List UInt8) (e : Ent) : List UInt8 := varL (alike last e.1) ++ (textL (e.1.drop (alike last e.1)) ++ textL e.2)
/-- A block: entries behind a term. -/
def blockL : List UInt8 → List Ent → List UInt8
  | _, [] => []
  | last, e :: l => entL last e ++ blockL e.1 l
/-- The term behind which the next one stands. -/
def lastT (last : List UInt8) (l : List Ent) : List UInt8 := (l.getLast?.map Prod.fst).getD last
theorem lastT_snoc (last : List UInt8) (l : List Ent) (e : Ent) : lastT last (l ++ [e]) = e.1 := by simp [lastT]
theorem lastT_cons (last : List UInt8) (e : Ent) (l : List Ent) : lastT last (e :: l) = lastT e.1 l := by
  cases l with
  | nil => simp [lastT]
  | cons f l =>
    unfold lastT
    rw [List.getLast?_cons_cons]
    cases h : (f :: l).getLast? with
    | none => simp at h
    | some x => rfl
theorem blockL_snoc (last : List UInt8) (l : List Ent) (e : Ent) : blockL last (l ++ [e]) = blockL last l ++ entL (lastT last l) e := by
  induction l generalizing last with
  | nil => simp [blockL, lastT]
  | cons f l ih => simp only [List.cons_append, blockL, ih, lastT_cons, List.append_assoc]
/-- The blocks of a list. -/
def gsF : Nat → List Ent → List (List Ent)
  | 0, _ => []
  | f + 1, l => l.take 16 :: gsF f (l.drop 16)
def gs (l : List Ent) : List (List Ent) := gsF ((l.length + 15) / 16) l
theorem gsF_length (f : Nat) (l : List Ent) : (gsF f l).length = f := by
  induction f generalizing l with
  | zero => rfl
  | succ f ih => simp [gsF, ih]
theorem gs_length (l : List Ent) : (gs l).length = (l.length + 15) / 16 := gsF_length _ _
theorem gsF_get (f : Nat) (l : List Ent) (k : Nat) (h : k < (gsF f l).length) : (gsF f l)[k] = (l.drop (16 * k)).take 16 := by
  induction f generalizing l k with
  | zero => simp [gsF] at h
  | succ f ih =>
    cases k with
    | zero => simp [gsF]
    | succ k =>
      simp only [gsF, List.getElem_cons_succ]
      rw [ih, List.drop_drop, show 16 + 16 * k = 16 * (k + 1) by omega]
theorem gs_get (l : List Ent) (k : Nat) (h : k < (gs l).length) : (gs l)[k] = (l.drop (16 * k)).take 16 := gsF_get _ _ _ _
theorem gsF_flatten (f : Nat) (l : List Ent) (h : l.length ≤ 16 * f) : (gsF f l).flatten = l := by
  induction f generalizing l with
  | zero => simp at h; subst h; rfl
  | succ f ih => simp only [gsF, List.flatten_cons]; rw [ih _ (by simp; omega), List.take_append_drop]
theorem gs_flatten (l : List Ent) : (gs l).flatten = l := gsF_flatten _ _ (by omega)
/-- A block's row in the index. -/
def headL (g : List Ent) : List UInt8 := textL (g.headD ([], [])).1 ++ varL (blockL [] g).length
def indexL (gs : List (List Ent)) : List UInt8 := gs.flatMap headL
def allL (gs : List (List Ent)) : List UInt8 := gs.flatMap (blockL [])
/-- The bytes of a list. -/
def bytesL (l : List Ent) : List UInt8 := varL l.length ++ indexL (gs l) ++ allL (gs l)
theorem indexL_take (l : List (List Ent)) (k : Nat) (h : k < l.length) : indexL (l.take (k + 1)) = indexL (l.take k) ++ headL l[k] := by
  unfold indexL; rw [List.take_succ_eq_append_getElem h, List.flatMap_append, List.flatMap_cons, List.flatMap_nil, List.append_nil]
theorem allL_take (l : List (List Ent)) (k : Nat) (h : k < l.length) : allL (l.take (k + 1)) = allL (l.take k) ++ blockL [] l[k] := by
  unfold allL; rw [List.take_succ_eq_append_getElem h, List.flatMap_append, List.flatMap_cons, List.flatMap_nil, List.append_nil]

/-! sizes -/
def small (e : Ent) : Prop := e.1.length ≤ 40 ∧ e.2.length ≤ 4194304
theorem rises_small : ∀ (l : List Ent) (p : List UInt8), rises p l = true → ∀ e ∈ l, small e
  | [], _, _, _, h => by simp at h
  | a :: l, p, hr, e, he => by
    simp only [rises] at hr
    split at hr
    · cases hr
    · split at hr
      · cases hr
      · split at hr
        · cases hr
        · rcases List.mem_cons.1 he with rfl | he
          · exact ⟨by omega, by omega⟩
          · exact rises_small l _ hr e he
theorem right_small {l : List Ent} (h : right l = true) : (∀ e ∈ l, small e) ∧ l.length ≤ 1048576 := by
  unfold right at h
  rw [Bool.and_eq_true, decide_eq_true_eq] at h
  exact ⟨rises_small l _ h.1, h.2⟩
theorem entL_length (last : List UInt8) (e : Ent) (h : small e) : (entL last e).length ≤ 4194374 := by
  unfold entL
  have h1 := (varL_length (alike last e.1)).2
  have h2 := (varL_length (e.1.drop (alike last e.1)).length).2
  have h3 := (varL_length e.2.length).2
  simp only [List.length_append, textL, List.length_drop] at *
  have := h.1; have := h.2
  omega
theorem blockL_length (last : List UInt8) (l : List Ent) (h : ∀ e ∈ l, small e) : (blockL last l).length ≤ 4194374 * l.length := by
  induction l generalizing last with
  | nil => simp [blockL]
  | cons e l ih =>
    have h1 := entL_length last e (h e (by simp))
    have h2 := ih e.1 (fun x hx => h x (by simp [hx]))
    simp only [blockL, List.length_append, List.length_cons]; omega
theorem gs_mem {l g : List Ent} (h : g ∈ gs l) : (∀ e ∈ g, e ∈ l) ∧ g.length ≤ 16 := by
  obtain ⟨k, hk, rfl⟩ := List.getElem_of_mem h
  rw [gs_get]
  exact ⟨fun e he => List.mem_of_mem_drop (List.mem_of_mem_take he), by simp; omega⟩
theorem flatMap_length_le {α : Type} (f : α → List UInt8) (c : Nat) (l : List α) (h : ∀ a ∈ l, (f a).length ≤ c) : (l.flatMap f).length ≤ c * l.length := by
  induction l with
  | nil => simp
  | cons a l ih =>
    have h1 := h a (by simp)
    have h2 := ih (fun x hx => h x (by simp [hx]))
    rw [Nat.mul_comm] at *
    simp only [List.flatMap_cons, List.length_append, List.length_cons, Nat.add_mul]; omega
theorem headL_length (g : List Ent) (h : ∀ e ∈ g, small e) : (headL g).length ≤ 60 := by
  unfold headL
  have h1 := (varL_length (blockL [] g).length).2
  have h0 : (g.headD ([], [])).1.length ≤ 40 := by
    cases g with
    | nil => simp
    | cons e g => exact (h e (by simp)).1
  have h2 := (varL_length (g.headD ([], [])).1.length).2
  simp only [List.length_append, textL]; omega
theorem indexL_length (l : List Ent) (h : ∀ e ∈ l, small e) (k : Nat) : (indexL ((gs l).take k)).length ≤ 60 * ((l.length + 15) / 16) := by
  refine Nat.le_trans (flatMap_length_le _ 60 _ (fun g hg => headL_length g (fun e he => h e ((gs_mem (List.mem_of_mem_take hg)).1 e he)))) ?_
  have : ((gs l).take k).length ≤ (l.length + 15) / 16 := by rw [List.length_take, gs_length]; omega
  exact Nat.mul_le_mul_left _ this
theorem allL_length (l : List Ent) (h : ∀ e ∈ l, small e) (k : Nat) : (allL ((gs l).take k)).length ≤ 67109984 * ((l.length + 15) / 16) := by
  refine Nat.le_trans (flatMap_length_le _ 67109984 _ (fun g hg => ?_)) ?_
  · obtain ⟨h1, h2⟩ := gs_mem (List.mem_of_mem_take hg)
    have := blockL_length [] g (fun e he => h e (h1 e he))
    have := Nat.mul_le_mul_left 4194374 h2
    omega
  · have : ((gs l).take k).length ≤ (l.length + 15) / 16 := by rw [List.length_take, gs_length]; omega
    exact Nat.mul_le_mul_left _ this
end Go.Dic
