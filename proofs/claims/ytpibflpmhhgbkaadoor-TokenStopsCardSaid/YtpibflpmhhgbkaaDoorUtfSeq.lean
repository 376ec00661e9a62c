/- Texts in pieces, folded texts and kinds of runes, plain. No conditions. -/
import Derived.Test.YtpibflpmhhgbkaaDoorUtfPlain
namespace Go.Utf
open Go.Lib

theorem runeT_ne (v : Int) : runeT v ≠ [] := by
  intro h
  have := (encodeRuneZ_length v).1
  have h2 := congrArg List.length h
  simp [runeT, encodeRune] at h2
  rw [h2] at this; simp at this
theorem runeT_length (v : Int) : 1 ≤ (runeT v).length ∧ (runeT v).length ≤ 4 := by
  have := encodeRuneZ_length v
  simpa [runeT, encodeRune] using this
theorem readL_pos {l : List UInt8} (h : l ≠ []) : 1 ≤ (readL l).2 := by
  rcases read_cases h with e | ⟨v, n, e, hv, hn, _⟩
  · rw [e]; decide
  · rw [e]; have := runeT_length v; simp only; omega
theorem readL_le {l : List UInt8} (h : l ≠ []) : (readL l).2 ≤ l.length := by
  rcases read_cases h with e | ⟨v, n, e, hv, hn, h2⟩
  · rw [e]
    cases l with
    | nil => exact absurd rfl h
    | cons b l => simp
  · rw [e]
    have := congrArg List.length h2
    simp at this
    simp only; omega
theorem readL_is {l : List UInt8} (h : l ≠ []) : (readL l).1 = -1 ∨ isB (readL l).1 = true := by
  rcases read_cases h with e | ⟨v, n, e, hv, hn, _⟩
  · rw [e]; exact .inl rfl
  · rw [e]; exact .inr hv

/-- A text in pieces: each a rune (-1: none) and its bytes. -/
def chunks (l : List UInt8) : List (Int × List UInt8) :=
  if _ : l = [] then [] else ((readL l).1, l.take (readL l).2) :: chunks (l.drop (readL l).2)
termination_by l.length
decreasing_by
  rename_i h
  have := readL_pos h
  cases l with
  | nil => exact absurd rfl h
  | cons b l => simp only [List.length_drop, List.length_cons]; omega
theorem chunks_nil : chunks [] = [] := by unfold chunks; rfl
theorem chunks_cons {l : List UInt8} (h : l ≠ []) : chunks l = ((readL l).1, l.take (readL l).2) :: chunks (l.drop (readL l).2) := by
  rw [chunks, dif_neg h]
/-- A piece is a rune with its bytes, or one byte that is none. -/
def Piece (c : Int × List UInt8) : Prop := (c.1 = -1 ∧ ∃ b, c.2 = [b]) ∨ (isB c.1 = true ∧ c.2 = runeT c.1)
theorem take_rune {l : List UInt8} {v : Int} {n : Nat} (hn : n = (runeT v).length) (h : l = runeT v ++ l.drop n) : l.take n = runeT v := by
  rw [h, hn, List.take_left]
theorem piece_first {l : List UInt8} (h : l ≠ []) : Piece ((readL l).1, l.take (readL l).2) := by
  rcases read_cases h with e | ⟨v, n, e, hv, hn, h2⟩
  · rw [e]
    cases l with
    | nil => exact absurd rfl h
    | cons b l => exact .inl ⟨rfl, b, rfl⟩
  · rw [e]; exact .inr ⟨hv, take_rune hn h2⟩
theorem byLength {P : List UInt8 → Prop} (h : ∀ l, (∀ m : List UInt8, m.length < l.length → P m) → P l) : ∀ l, P l := by
  intro l
  have : ∀ n (l : List UInt8), l.length = n → P l := by
    intro n
    induction n using Nat.strongRecOn with
    | _ n ih => intro l hl; exact h l fun m hm => ih m.length (by omega) m rfl
  exact this _ l rfl
theorem drop_lt {l : List UInt8} (h : l ≠ []) : (l.drop (readL l).2).length < l.length := by
  have := readL_pos h
  cases l with
  | nil => exact absurd rfl h
  | cons b l => simp only [List.length_drop, List.length_cons]; omega
theorem chunks_pieces : ∀ l, ∀ c ∈ chunks l, Piece c := by
  apply byLength
  intro l ih c hc
  by_cases h : l = []
  · subst h; rw [chunks_nil] at hc; cases hc
  · rw [chunks_cons h] at hc
    rcases List.mem_cons.1 hc with rfl | hc
    · exact piece_first h
    · exact ih _ (drop_lt h) c hc
/-- The pieces, one behind the other, are the text. -/
def joinC (cs : List (Int × List UInt8)) : List UInt8 := (cs.map (·.2)).flatten
theorem joinC_cons (c : Int × List UInt8) (cs : List (Int × List UInt8)) : joinC (c :: cs) = c.2 ++ joinC cs := rfl
theorem joinC_append (a b : List (Int × List UInt8)) : joinC (a ++ b) = joinC a ++ joinC b := by simp [joinC]
theorem chunks_join : ∀ l, joinC (chunks l) = l := by
  apply byLength
  intro l ih
  by_cases h : l = []
  · subst h; rw [chunks_nil]; rfl
  · rw [chunks_cons h, joinC_cons, ih _ (drop_lt h)]
    exact List.take_append_drop _ _
theorem chunks_rune {v : Int} (hv : isB v = true) (t : List UInt8) : chunks (runeT v ++ t) = (v, runeT v) :: chunks t := by
  have hne : runeT v ++ t ≠ [] := by
    intro h; exact runeT_ne v (List.append_eq_nil_iff.1 h).1
  rw [chunks_cons hne, read_rune hv t]
  simp
theorem chunks_bad {b : UInt8} {t : List UInt8} (h : (readL (b :: t)).1 < 0) : chunks (b :: t) = (-1, [b]) :: chunks t := by
  have hne : b :: t ≠ [] := by simp
  rw [chunks_cons hne]
  rcases read_cases hne with e | ⟨v, n, e, hv, _⟩
  · rw [e]; rfl
  · rw [e] at h; rw [isB_iff] at hv; simp only at h; omega

/-! A byte that goes on a rune. -/
def contB (b : UInt8) : Bool := decide (128 ≤ b.toNat) && decide (b.toNat < 192)
theorem cont_of (x : Int) (h0 : 128 ≤ x) (h1 : x < 192) : contB x.toNat.toUInt8 = true := by
  unfold contB; rw [nat_u8 x (by omega) (by omega)]; simp; omega
theorem not_cont_of (x : Int) (h0 : 0 ≤ x) (h1 : x < 256) (h : x < 128 ∨ 192 ≤ x) : contB x.toNat.toUInt8 = false := by
  unfold contB; rw [nat_u8 x (by omega) (by omega)]; simp; omega
/-- A rune's bytes: one that begins, and some that go on. -/
theorem runeT_form {v : Int} (hv : isB v = true) : ∃ b cs, runeT v = b :: cs ∧ contB b = false ∧ ∀ c ∈ cs, contB c = true := by
  rcases isB_cases hv with ⟨h0, h1⟩ | ⟨h0, h1⟩ | h | ⟨h0, h1⟩
  · exact ⟨_, _, runeT_one h0 h1, not_cont_of _ (by omega) (by omega) (by omega), by simp⟩
  · refine ⟨_, _, runeT_two h0 h1, not_cont_of _ (by omega) (by omega) (by omega), ?_⟩
    intro c hc
    simp only [List.mem_cons, List.mem_nil_iff, or_false] at hc
    subst hc; exact cont_of _ (by omega) (by omega)
  · refine ⟨_, _, runeT_three h, not_cont_of _ (by omega) (by omega) (by omega), ?_⟩
    intro c hc
    simp only [List.mem_cons, List.mem_nil_iff, or_false] at hc
    rcases hc with rfl | rfl <;> exact cont_of _ (by omega) (by omega)
  · refine ⟨_, _, runeT_four h0 h1, not_cont_of _ (by omega) (by omega) (by omega), ?_⟩
    intro c hc
    simp only [List.mem_cons, List.mem_nil_iff, or_false] at hc
    rcases hc with rfl | rfl | rfl <;> exact cont_of _ (by omega) (by omega)
/-- Whether a rune begins a text: of its first byte and those behind it that go on alone. -/
theorem takeWhile_all {p : UInt8 → Bool} {a t : List UInt8} (h : ∀ c ∈ a, p c = true) : (a ++ t).takeWhile p = a ++ t.takeWhile p := by
  induction a with
  | nil => rfl
  | cons x a ih =>
    rw [List.cons_append, List.takeWhile_cons, h x (by simp), if_pos rfl, ih fun c hc => h c (by simp [hc])]; rfl
theorem prefix_of_takeWhile {p : UInt8 → Bool} {a t u : List UInt8} (h : ∀ c ∈ a, p c = true) (e : (a ++ t).takeWhile p = u.takeWhile p) : ∃ t', u = a ++ t' := by
  rw [takeWhile_all h] at e
  have h2 := List.takeWhile_append_dropWhile (p := p) (l := u)
  rw [← e, List.append_assoc] at h2
  exact ⟨_, h2.symm⟩
theorem read_bad_of {b : UInt8} {l m : List UInt8} (h : (readL (b :: l)).1 < 0) (e : l.takeWhile contB = m.takeWhile contB) : (readL (b :: m)).1 < 0 := by
  rcases read_cases (l := b :: m) (by simp) with e1 | ⟨v, n, e1, hv, hn, h2⟩
  · rw [e1]; decide
  · exfalso
    obtain ⟨b', cs, h3, h4, h5⟩ := runeT_form hv
    rw [h3, List.cons_append] at h2
    obtain ⟨rfl, h6⟩ := List.cons.inj h2
    rw [h6] at e
    obtain ⟨t', ht⟩ := prefix_of_takeWhile h5 e.symm
    rw [ht, ← List.cons_append, ← h3, read_rune hv] at h
    rw [isB_iff] at hv
    simp only at h; omega

/-! Texts that are folded. -/
def foldC (c : Int × List UInt8) : Int × List UInt8 := if c.1 < 0 then c else (foldN c.1, runeT (foldN c.1))
def foldL (l : List UInt8) : List UInt8 := joinC ((chunks l).map foldC)
def validL (l : List UInt8) : Bool := (chunks l).all fun c => decide (0 ≤ c.1)
theorem fold_is {v : Int} (h : isB v = true) : isB (foldN v) = true := by
  rw [isB_iff] at h ⊢
  unfold foldN
  repeat' split
  all_goals omega
theorem foldL_nil : foldL [] = [] := by unfold foldL; rw [chunks_nil]; rfl
theorem foldL_rune {v : Int} (hv : isB v = true) (t : List UInt8) : foldL (runeT v ++ t) = runeT (foldN v) ++ foldL t := by
  unfold foldL
  rw [chunks_rune hv, List.map_cons, joinC_cons]
  have : ¬ v < 0 := by rw [isB_iff] at hv; omega
  simp [foldC, this]
theorem foldL_bad {b : UInt8} {t : List UInt8} (h : (readL (b :: t)).1 < 0) : foldL (b :: t) = b :: foldL t := by
  unfold foldL
  rw [chunks_bad h, List.map_cons, joinC_cons]
  rfl
/-- By pieces: what holds of the empty text, behind a rune, and behind a byte that is none, holds of each text. -/
theorem byPieces {P : List UInt8 → Prop} (h0 : P []) (h1 : ∀ v t, isB v = true → P t → P (runeT v ++ t)) (h2 : ∀ b t, (readL (b :: t)).1 < 0 → P t → P (b :: t)) : ∀ l, P l := by
  apply byLength
  intro l ih
  cases l with
  | nil => exact h0
  | cons b l =>
    rcases read_cases (l := b :: l) (by simp) with e | ⟨v, n, e, hv, hn, h3⟩
    · exact h2 b l (by rw [e]; decide) (ih l (by simp))
    · rw [h3]
      refine h1 v _ hv (ih _ ?_)
      have := drop_lt (l := b :: l) (by simp)
      rw [e] at this
      exact this
theorem takeWhile_rune {v : Int} (hv : isB v = true) (t : List UInt8) : (runeT v ++ t).takeWhile contB = [] := by
  obtain ⟨b, cs, h3, h4, _⟩ := runeT_form hv
  rw [h3, List.cons_append, List.takeWhile_cons, h4]; rfl
theorem foldL_tw : ∀ l, (foldL l).takeWhile contB = l.takeWhile contB := by
  apply byPieces
  · rw [foldL_nil]
  · intro v t hv _
    rw [foldL_rune hv, takeWhile_rune hv, takeWhile_rune (fold_is hv)]
  · intro b t h ih
    rw [foldL_bad h, List.takeWhile_cons, List.takeWhile_cons, ih]
theorem chunks_fold : ∀ l, chunks (foldL l) = (chunks l).map foldC := by
  apply byPieces
  · rw [foldL_nil, chunks_nil]; rfl
  · intro v t hv ih
    have : ¬ v < 0 := by rw [isB_iff] at hv; omega
    rw [foldL_rune hv, chunks_rune (fold_is hv), chunks_rune hv, ih, List.map_cons]
    simp [foldC, this]
  · intro b t h ih
    rw [foldL_bad h, chunks_bad h, chunks_bad (read_bad_of h (foldL_tw t).symm), ih, List.map_cons]
    rfl
set_option maxRecDepth 100000 in
theorem fold_small : ∀ n : Nat, n < 1400 → foldN (foldN n) = foldN n := by decide +kernel
theorem fold_big {v : Int} (h : v < 0 ∨ 1366 < v) : foldN v = v := by
  unfold foldN
  repeat' split
  all_goals omega
theorem fold_fold (v : Int) : foldN (foldN v) = foldN v := by
  by_cases h : v < 0 ∨ 1366 < v
  · rw [fold_big h, fold_big h]
  · have := fold_small v.toNat (by omega)
    rwa [show ((v.toNat : Nat) : Int) = v by omega] at this
theorem foldC_neg (c : Int × List UInt8) (h : c.1 < 0) : foldC c = c := if_pos h
theorem foldC_nn (c : Int × List UInt8) (h : 0 ≤ c.1) : foldC c = (foldN c.1, runeT (foldN c.1)) := if_neg (by omega)
theorem foldC_foldC (c : Int × List UInt8) (h : Piece c) : foldC (foldC c) = foldC c := by
  rcases h with ⟨h1, _⟩ | ⟨h1, _⟩
  · rw [foldC_neg c (by omega), foldC_neg c (by omega)]
  · have h2 := fold_is h1
    rw [isB_iff] at h1 h2
    rw [foldC_nn c (by omega), foldC_nn _ (by simp only; omega)]
    simp only
    rw [fold_fold]
theorem foldL_foldL (l : List UInt8) : foldL (foldL l) = foldL l := by
  rw [show foldL (foldL l) = joinC ((chunks (foldL l)).map foldC) from rfl, chunks_fold, List.map_map]
  unfold foldL
  congr 1
  apply List.map_congr_left
  intro c hc
  exact foldC_foldC c (chunks_pieces l c hc)
theorem foldC_pos (c : Int × List UInt8) (h : Piece c) : decide (0 ≤ (foldC c).1) = decide (0 ≤ c.1) := by
  rcases h with ⟨h1, _⟩ | ⟨h1, _⟩
  · rw [foldC_neg c (by omega)]
  · have h2 := fold_is h1
    rw [isB_iff] at h1 h2
    rw [foldC_nn c (by omega)]
    simp only
    rw [decide_eq_true (by omega), decide_eq_true (by omega)]
theorem valid_fold (l : List UInt8) : validL (foldL l) = validL l := by
  unfold validL
  rw [chunks_fold, List.all_map]
  have h := chunks_pieces l
  generalize chunks l = cs at h
  induction cs with
  | nil => rfl
  | cons c cs ih =>
    rw [List.all_cons, List.all_cons, ih fun x hx => h x (by simp [hx])]
    simp only [Function.comp_apply]
    rw [foldC_pos c (h c (by simp))]
theorem chunks_append : ∀ l, validL l = true → ∀ t, chunks (l ++ t) = chunks l ++ chunks t := by
  apply byPieces
  · intro _ t; rw [chunks_nil]; rfl
  · intro v t hv ih h u
    unfold validL at h
    rw [chunks_rune hv, List.all_cons] at h
    rw [List.append_assoc, chunks_rune hv, chunks_rune hv, ih (by unfold validL; exact (Bool.and_eq_true_iff.1 h).2)]
    rfl
  · intro b t hb _ h
    unfold validL at h
    rw [chunks_bad hb, List.all_cons] at h
    simp at h
theorem valid_append (l t : List UInt8) (h : validL l = true) : validL (l ++ t) = validL t := by
  unfold validL
  rw [chunks_append l h, List.all_append]
  have : (chunks l).all (fun c => decide (0 ≤ c.1)) = true := h
  rw [this]; simp
end Go.Utf
