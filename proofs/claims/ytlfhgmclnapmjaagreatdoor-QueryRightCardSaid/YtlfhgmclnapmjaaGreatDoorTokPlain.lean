/- Chapter 11 (tokens), plain: words, terms, and what folding and joining do to them. No conditions. How words are found piece by piece, plain. No conditions. -/
import Derived.Test.YtlfhgmclnapmjaaGreatDoorUtfK
import Derived.Test.YtlfhgmclnapmjaaGreatDoorUtfPlain
namespace Go.Utf
open Go.Lib

/-! Runs of things of one kind. -/
section
variable {α β : Type}
def flushG (r : List (List α) × List α) : List (List α) := if r.2 = [] then r.1 else r.1 ++ [r.2]
def stG (p : α → Bool) (r : List (List α) × List α) (x : α) : List (List α) × List α := if p x then (r.1, r.2 ++ [x]) else (flushG r, [])
def runG (p : α → Bool) (xs : List α) : List (List α) × List α := xs.foldl (stG p) ([], [])
def groups (p : α → Bool) (xs : List α) : List (List α) := flushG (runG p xs)
theorem runG_nil (p : α → Bool) : runG p [] = ([], []) := rfl
theorem runG_snoc (p : α → Bool) (xs : List α) (x : α) : runG p (xs ++ [x]) = stG p (runG p xs) x := by simp [runG]
theorem runG_from (p : α → Bool) (xs : List α) : ∀ d : List (List α), xs.foldl (stG p) (d, []) = (d ++ (runG p xs).1, (runG p xs).2) := by
  have key : ∀ (xs : List α) (d d' : List (List α)) (c : List α), xs.foldl (stG p) (d ++ d', c) = (d ++ (xs.foldl (stG p) (d', c)).1, (xs.foldl (stG p) (d', c)).2) := by
    intro xs
    induction xs with
    | nil => intro d d' c; rfl
    | cons x xs ih =>
      intro d d' c
      simp only [List.foldl_cons]
      by_cases hx : p x = true
      · simp only [stG, hx, if_true]; exact ih d d' _
      · simp only [stG, hx]
        have : flushG (d ++ d', c) = d ++ flushG (d', c) := by unfold flushG; split <;> simp
        rw [this]
        exact ih d _ _
  intro d
  have := key xs d [] []
  rw [List.append_nil] at this
  exact this
/-- A thing that is none parts what stands ahead of it from what stands behind. -/
theorem groups_part (p : α → Bool) (a : List α) (x : α) (b : List α) (hx : p x = false) : groups p (a ++ x :: b) = groups p a ++ groups p b := by
  unfold groups
  have : runG p (a ++ x :: b) = (flushG (runG p a) ++ (runG p b).1, (runG p b).2) := by
    show (a ++ x :: b).foldl (stG p) ([], []) = _
    rw [List.foldl_append, List.foldl_cons]
    show b.foldl (stG p) (stG p (runG p a) x) = _
    have e : stG p (runG p a) x = (flushG (runG p a), []) := by simp [stG, hx]
    rw [e, runG_from]
  rw [this]
  unfold flushG
  simp only
  split <;> simp
theorem groups_nil (p : α → Bool) : groups p ([] : List α) = [] := rfl
/-- All of one kind: one run. -/
theorem runG_all (p : α → Bool) (xs : List α) (h : ∀ x ∈ xs, p x = true) : runG p xs = ([], xs) := by
  have key : ∀ (xs c : List α), (∀ x ∈ xs, p x = true) → xs.foldl (stG p) ([], c) = ([], c ++ xs) := by
    intro xs
    induction xs with
    | nil => intro c _; simp
    | cons x xs ih =>
      intro c h
      rw [List.foldl_cons]
      have : stG p ([], c) x = ([], c ++ [x]) := by simp [stG, h x (by simp)]
      rw [this, ih _ fun y hy => h y (by simp [hy]), List.append_assoc]; rfl
  exact key xs [] h
theorem groups_all (p : α → Bool) (xs : List α) (h : ∀ x ∈ xs, p x = true) (hne : xs ≠ []) : groups p xs = [xs] := by
  unfold groups
  rw [runG_all p xs h]
  simp [flushG, hne]
theorem runG_map (p : β → Bool) (f : α → β) (xs : List α) : runG p (xs.map f) = ((runG (p ∘ f) xs).1.map (List.map f), (runG (p ∘ f) xs).2.map f) := by
  have key : ∀ (xs : List α) (d : List (List α)) (c : List α), (xs.map f).foldl (stG p) (d.map (List.map f), c.map f) = ((xs.foldl (stG (p ∘ f)) (d, c)).1.map (List.map f), (xs.foldl (stG (p ∘ f)) (d, c)).2.map f) := by
    intro xs
    induction xs with
    | nil => intro d c; rfl
    | cons x xs ih =>
      intro d c
      rw [List.map_cons, List.foldl_cons, List.foldl_cons]
      have : stG p (d.map (List.map f), c.map f) (f x) = ((stG (p ∘ f) (d, c) x).1.map (List.map f), (stG (p ∘ f) (d, c) x).2.map f) := by
        unfold stG flushG
        simp only [Function.comp_apply, List.map_eq_nil_iff]
        by_cases hx : p (f x) = true
        · simp [hx]
        · simp only [hx]
          by_cases hc : c = []
          · simp [hc]
          · simp [hc]
      rw [this]
      exact ih _ _
  exact key xs [] []
theorem groups_map (p : β → Bool) (f : α → β) (xs : List α) : groups p (xs.map f) = (groups (p ∘ f) xs).map (List.map f) := by
  unfold groups
  rw [runG_map]
  unfold flushG
  simp only [List.map_eq_nil_iff]
  split <;> simp
/-- What each run holds. -/
theorem runG_mem (p : α → Bool) (xs : List α) : (∀ g ∈ (runG p xs).1, g ≠ [] ∧ ∀ x ∈ g, p x = true ∧ x ∈ xs) ∧ ∀ x ∈ (runG p xs).2, p x = true ∧ x ∈ xs := by
  have key : ∀ (xs all : List α) (r : List (List α) × List α), (∀ x ∈ xs, x ∈ all) → ((∀ g ∈ r.1, g ≠ [] ∧ ∀ x ∈ g, p x = true ∧ x ∈ all) ∧ ∀ x ∈ r.2, p x = true ∧ x ∈ all) →
      ((∀ g ∈ (xs.foldl (stG p) r).1, g ≠ [] ∧ ∀ x ∈ g, p x = true ∧ x ∈ all) ∧ ∀ x ∈ (xs.foldl (stG p) r).2, p x = true ∧ x ∈ all) := by
    intro xs
    induction xs with
    | nil => intro all r _ h; exact h
    | cons x xs ih =>
      intro all r hsub h
      rw [List.foldl_cons]
      refine ih all _ (fun y hy => hsub y (by simp [hy])) ?_
      unfold stG
      by_cases hx : p x = true
      · simp only [hx, if_true]
        refine ⟨h.1, fun y hy => ?_⟩
        rcases List.mem_append.1 hy with hy | hy
        · exact h.2 y hy
        · simp at hy; subst hy; exact ⟨hx, hsub _ (by simp)⟩
      · simp only [hx]
        refine ⟨fun g hg => ?_, fun y hy => by simp at hy⟩
        unfold flushG at hg
        simp only [Bool.false_eq_true, if_false] at hg
        split at hg
        · exact h.1 g hg
        · rename_i hne
          rcases List.mem_append.1 hg with hg | hg
          · exact h.1 g hg
          · simp at hg; subst hg; exact ⟨hne, h.2⟩
  exact key xs xs ([], []) (fun _ h => h) ⟨by simp, by simp⟩
theorem groups_mem (p : α → Bool) (xs : List α) : ∀ g ∈ groups p xs, g ≠ [] ∧ ∀ x ∈ g, p x = true ∧ x ∈ xs := by
  intro g hg
  obtain ⟨h1, h2⟩ := runG_mem p xs
  unfold groups flushG at hg
  split at hg
  · exact h1 g hg
  · rename_i hne
    rcases List.mem_append.1 hg with hg | hg
    · exact h1 g hg
    · simp at hg; subst hg; exact ⟨hne, h2⟩
/-- The runs that are done stay. -/
theorem runG_prefix (p : α → Bool) (a b : List α) : (runG p a).1 <+: (runG p (a ++ b)).1 := by
  have key : ∀ (b : List α) (r : List (List α) × List α), r.1 <+: (b.foldl (stG p) r).1 := by
    intro b
    induction b with
    | nil => intro r; exact List.prefix_refl _
    | cons x b ih =>
      intro r
      rw [List.foldl_cons]
      refine List.IsPrefix.trans ?_ (ih _)
      unfold stG flushG
      split
      · exact List.prefix_refl _
      · split
        · exact List.prefix_refl _
        · exact List.prefix_append _ _
  unfold runG
  rw [List.foldl_append]
  exact key b _
theorem groups_prefix (p : α → Bool) (a b : List α) : (runG p a).1 <+: groups p (a ++ b) := by
  refine (runG_prefix p a b).trans ?_
  unfold groups flushG
  split
  · exact List.prefix_refl _
  · exact List.prefix_append _ _
end

/-! Words. -/
/-- Is a piece a letter or a digit? -/
def isW (c : Int × List UInt8) : Bool := decide (0 ≤ c.1) && (kindN c.1 == 1 || kindN c.1 == 2)
def wordsL (l : List UInt8) : List (List UInt8) := (groups isW (chunks l)).map joinC
theorem isW_fold (c : Int × List UInt8) (h : Piece c) : isW (foldC c) = isW c := by
  unfold isW
  rw [foldC_pos c h]
  rcases h with ⟨h1, _⟩ | ⟨h1, _⟩
  · rw [foldC_neg c (by omega)]
  · rw [isB_iff] at h1
    rw [foldC_nn c (by omega)]
    simp only [kind_fold]
/-- Pieces that are runes, read again. -/
theorem chunks_of (g : List (Int × List UInt8)) (h : ∀ c ∈ g, isB c.1 = true ∧ c.2 = runeT c.1) : chunks (joinC g) = g := by
  induction g with
  | nil => exact chunks_nil
  | cons c g ih =>
    obtain ⟨h1, h2⟩ := h c (by simp)
    rw [joinC_cons, h2, chunks_rune h1, ih fun x hx => h x (by simp [hx]), ← h2]
theorem word_pieces {l : List UInt8} {g : List (Int × List UInt8)} (hg : g ∈ groups isW (chunks l)) : g ≠ [] ∧ ∀ c ∈ g, isW c = true ∧ isB c.1 = true ∧ c.2 = runeT c.1 := by
  obtain ⟨h1, h2⟩ := groups_mem isW (chunks l) g hg
  refine ⟨h1, fun c hc => ?_⟩
  obtain ⟨h3, h4⟩ := h2 c hc
  refine ⟨h3, ?_⟩
  rcases chunks_pieces l c h4 with ⟨h5, _⟩ | h5
  · unfold isW at h3; rw [h5] at h3; simp at h3
  · exact h5
/-- A word is a text of one word. -/
theorem words_word {l w : List UInt8} (hw : w ∈ wordsL l) : wordsL w = [w] ∧ w ≠ [] := by
  obtain ⟨g, hg, rfl⟩ := List.mem_map.1 hw
  obtain ⟨h1, h2⟩ := word_pieces hg
  constructor
  · unfold wordsL
    rw [chunks_of g fun c hc => (h2 c hc).2, groups_all isW g (fun c hc => (h2 c hc).1) h1]; rfl
  · cases g with
    | nil => exact absurd rfl h1
    | cons c g =>
      rw [joinC_cons]
      intro e
      have := (List.append_eq_nil_iff.1 e).1
      rw [(h2 c (by simp)).2.2] at this
      exact runeT_ne _ this
/-- Words of a folded text are the words, folded. -/
theorem words_fold (l : List UInt8) : wordsL (foldL l) = (wordsL l).map foldL := by
  unfold wordsL
  rw [chunks_fold, groups_map, List.map_map, List.map_map]
  have e : groups (isW ∘ foldC) (chunks l) = groups isW (chunks l) := by
    have hp := chunks_pieces l
    unfold groups runG
    have : ∀ (cs : List (Int × List UInt8)) r, (∀ c ∈ cs, Piece c) → cs.foldl (stG (isW ∘ foldC)) r = cs.foldl (stG isW) r := by
      intro cs
      induction cs with
      | nil => intro r _; rfl
      | cons c cs ih =>
        intro r h
        rw [List.foldl_cons, List.foldl_cons]
        have : stG (isW ∘ foldC) r c = stG isW r c := by unfold stG; simp only [Function.comp_apply, isW_fold c (h c (by simp))]
        rw [this, ih _ fun x hx => h x (by simp [hx])]
    rw [this _ _ hp]
  rw [e]
  apply List.map_congr_left
  intro g hg
  simp only [Function.comp_apply]
  unfold foldL
  rw [chunks_of g fun c hc => ((word_pieces hg).2 c hc).2]
theorem fold_word {l w : List UInt8} (hw : w ∈ wordsL l) : foldL (foldL w) = foldL w ∧ wordsL (foldL w) = [foldL w] := by
  refine ⟨foldL_foldL w, ?_⟩
  rw [words_fold, (words_word hw).1]; rfl
/-- Behind a text that begins anew the pieces go on. -/
theorem chunks_join_anew : ∀ (l t : List UInt8), t.takeWhile contB = [] → chunks (l ++ t) = chunks l ++ chunks t := by
  intro l t ht
  revert l
  apply byPieces
  · rw [chunks_nil]; rfl
  · intro v u hv ih
    rw [List.append_assoc, chunks_rune hv, chunks_rune hv, ih]; rfl
  · intro b u h ih
    have e : u.takeWhile contB = (u ++ t).takeWhile contB := by
      rw [List.takeWhile_append, ht]
      split
      · rename_i h1
        rw [List.append_nil]
        exact ((List.takeWhile_prefix contB).eq_of_length h1)
      · rfl
    rw [List.cons_append, chunks_bad (read_bad_of h e), chunks_bad h, ih]; rfl
theorem runeT_anew {r : Int} (h : isB r = true) (t : List UInt8) : (runeT r ++ t).takeWhile contB = [] := takeWhile_rune h t
/-- A rune that is neither a letter nor a digit parts words. -/
theorem words_part (a b : List UInt8) {r : Int} (h : isB r = true) (hk : isW (r, runeT r) = false) : wordsL (a ++ (runeT r ++ b)) = wordsL a ++ wordsL b := by
  unfold wordsL
  rw [chunks_join_anew a _ (runeT_anew h b), chunks_rune h, groups_part _ _ _ _ hk, List.map_append]
theorem words_nil : wordsL [] = [] := by unfold wordsL; rw [chunks_nil]; rfl
theorem words_lead (b : List UInt8) {r : Int} (h : isB r = true) (hk : isW (r, runeT r) = false) : wordsL (runeT r ++ b) = wordsL b := by
  have := words_part [] b h hk
  rw [words_nil] at this
  simpa using this
/-! Terms. -/
def stopT : List (List UInt8) := [[97], [97, 110], [97, 110, 100], [97, 114, 101], [97, 115], [97, 116], [98, 101], [98, 121], [102, 111, 114], [105, 110], [105, 115], [105, 116], [111, 102], [111, 110], [111, 114], [116, 104, 101], [116, 111], [119, 105, 116, 104]]
def stopB (t : List UInt8) : Bool := stopT.contains t
def goodB (t : List UInt8) : Bool := decide (t.length ≤ 40) && !stopB t
/-- The terms of words, and their places from n on. -/
def toksFrom : Nat → List (List UInt8) → List (List UInt8 × Nat)
  | _, [] => []
  | n, w :: ws => (if goodB (foldL w) then [(foldL w, n)] else []) ++ toksFrom (n + 1) ws
def tokensL (l : List UInt8) : List (List UInt8 × Nat) := toksFrom 0 (wordsL l)
theorem toks_append (n : Nat) (a b : List (List UInt8)) : toksFrom n (a ++ b) = toksFrom n a ++ toksFrom (n + a.length) b := by
  induction a generalizing n with
  | nil => simp [toksFrom]
  | cons w a ih => simp only [List.cons_append, toksFrom, ih, List.length_cons]; rw [List.append_assoc, show n + 1 + a.length = n + (a.length + 1) by omega]
theorem toks_shift (n k : Nat) (a : List (List UInt8)) : toksFrom (n + k) a = (toksFrom n a).map fun x => (x.1, x.2 + k) := by
  induction a generalizing n with
  | nil => rfl
  | cons w a ih =>
    simp only [toksFrom, List.map_append]
    rw [show n + k + 1 = n + 1 + k by omega, ih]
    congr 1
    split <;> rfl
theorem toks_fold (n : Nat) (l : List UInt8) : toksFrom n (wordsL (foldL l)) = toksFrom n (wordsL l) := by
  rw [words_fold]
  generalize wordsL l = ws
  induction ws generalizing n with
  | nil => rfl
  | cons w ws ih => simp only [List.map_cons, toksFrom, ih, foldL_foldL]
theorem toks_mem {n : Nat} {ws : List (List UInt8)} {x : List UInt8 × Nat} (h : x ∈ toksFrom n ws) : goodB x.1 = true ∧ (∃ w ∈ ws, x.1 = foldL w) ∧ n ≤ x.2 ∧ x.2 < n + ws.length := by
  induction ws generalizing n with
  | nil => simp [toksFrom] at h
  | cons w ws ih =>
    unfold toksFrom at h
    rcases List.mem_append.1 h with h | h
    · split at h
      · rename_i hg
        simp at h; subst h
        exact ⟨hg, ⟨w, by simp, rfl⟩, Nat.le_refl _, by simp⟩
      · simp at h
    · obtain ⟨h1, ⟨w', h2, h3⟩, h4, h5⟩ := ih h
      exact ⟨h1, ⟨w', by simp [h2], h3⟩, by omega, by simp; omega⟩
theorem toks_rise (n : Nat) (ws : List (List UInt8)) : (toksFrom n ws).Pairwise fun a b => a.2 < b.2 := by
  induction ws generalizing n with
  | nil => exact List.Pairwise.nil
  | cons w ws ih =>
    unfold toksFrom
    rw [List.pairwise_append]
    refine ⟨?_, ih _, ?_⟩
    · split <;> simp
    · intro a ha b hb
      have h1 := (toks_mem hb).2.2.1
      split at ha
      · simp at ha; subst ha; simp only; omega
      · simp at ha
theorem toks_length (n : Nat) (ws : List (List UInt8)) : (toksFrom n ws).length ≤ ws.length := by
  induction ws generalizing n with
  | nil => simp [toksFrom]
  | cons w ws ih => unfold toksFrom; rw [List.length_append, List.length_cons]; have := ih (n + 1); split <;> simp <;> omega
/-- A term's words are it alone. -/
theorem tokens_term {l : List UInt8} {x : List UInt8 × Nat} (h : x ∈ tokensL l) : tokensL x.1 = [(x.1, 0)] := by
  obtain ⟨h1, ⟨w, h2, h3⟩, _⟩ := toks_mem h
  obtain ⟨h4, h5⟩ := fold_word h2
  unfold tokensL
  rw [h3] at h1 ⊢
  rw [h5]
  simp only [toksFrom, h4, h1, if_true, List.append_nil]
end Go.Utf
namespace Go.Utf
open Go.Lib
theorem runG_suffix {α : Type} (p : α → Bool) (xs : List α) : ∃ a, xs = a ++ (runG p xs).2 := by
  have key : ∀ (xs a : List α) (r : List (List α) × List α), ∃ b, a ++ r.2 ++ xs = b ++ (xs.foldl (stG p) r).2 := by
    intro xs
    induction xs with
    | nil => intro a r; exact ⟨a, by simp⟩
    | cons x xs ih =>
      intro a r
      rw [List.foldl_cons]
      by_cases hx : p x = true
      · obtain ⟨b, hb⟩ := ih a (stG p r x)
        refine ⟨b, ?_⟩
        rw [← hb]
        simp [stG, hx]
      · obtain ⟨b, hb⟩ := ih (a ++ r.2 ++ [x]) (stG p r x)
        refine ⟨b, ?_⟩
        rw [← hb]
        simp [stG, hx]
  obtain ⟨b, hb⟩ := key xs [] ([], [])
  exact ⟨b, by simpa [runG] using hb⟩
/-- What the words' loop knows behind k pieces: the words that are done; the pieces of the one under way. -/
def wst (l : List UInt8) (k : Nat) : List (List (Int × List UInt8)) × List (Int × List UInt8) := runG isW ((chunks l).take k)
def wdone (l : List UInt8) (k : Nat) : List (List UInt8) := (wst l k).1.map joinC
/-- Where the word under way begins; -1: there is none. -/
def wfrom (l : List UInt8) (k : Nat) : Int := if (wst l k).2 = [] then -1 else (atC l k : Int) - (joinC (wst l k).2).length
theorem wst_zero (l : List UInt8) : wst l 0 = ([], []) := by unfold wst; rw [List.take_zero]; rfl
theorem wst_next (l : List UInt8) (k : Nat) (hk : k < (chunks l).length) : wst l (k + 1) = stG isW (wst l k) (chunks l)[k] := by
  unfold wst; rw [List.take_succ_eq_append_getElem hk, runG_snoc]
theorem wcur_at (l : List UInt8) (k : Nat) : (joinC (wst l k).2).length ≤ atC l k ∧ ((l.drop (atC l k - (joinC (wst l k).2).length)).take (joinC (wst l k).2).length) = joinC (wst l k).2 := by
  obtain ⟨a, ha⟩ := runG_suffix isW ((chunks l).take k)
  have h1 : joinC ((chunks l).take k) = joinC a ++ joinC (wst l k).2 := by
    conv => lhs; rw [ha]
    rw [joinC_append]; rfl
  have h2 : atC l k = (joinC a).length + (joinC (wst l k).2).length := by
    unfold atC; rw [h1, List.length_append]
  refine ⟨by omega, ?_⟩
  rw [show atC l k - (joinC (wst l k).2).length = (joinC a).length by omega]
  have h3 : l = joinC a ++ (joinC (wst l k).2 ++ joinC ((chunks l).drop k)) := by
    rw [← List.append_assoc, ← h1, ← joinC_append, List.take_append_drop, chunks_join]
  have h4 : l.drop (joinC a).length = joinC (wst l k).2 ++ joinC ((chunks l).drop k) := by
    conv => lhs; rw [h3]
    rw [List.drop_left]
  rw [h4, List.take_left]
theorem wfrom_zero (l : List UInt8) : wfrom l 0 = -1 := by unfold wfrom; rw [wst_zero]; rfl
theorem wfrom_neg {l : List UInt8} {k : Nat} : wfrom l k < 0 ↔ (wst l k).2 = [] := by
  unfold wfrom
  have := (wcur_at l k).1
  constructor
  · intro h
    split at h
    · assumption
    · omega
  · intro h; rw [if_pos h]; decide
theorem wfrom_lo (l : List UInt8) (k : Nat) : -1 ≤ wfrom l k ∧ wfrom l k ≤ atC l k := by
  unfold wfrom
  have := (wcur_at l k).1
  split <;> omega
/-- A piece of a word. -/
theorem w_in {l : List UInt8} {k : Nat} (hk : k < (chunks l).length) (hw : isW (chunks l)[k] = true) : wdone l (k + 1) = wdone l k ∧ wfrom l (k + 1) = if wfrom l k < 0 then (atC l k : Int) else wfrom l k := by
  have h := wst_next l k hk
  have e : wst l (k + 1) = ((wst l k).1, (wst l k).2 ++ [(chunks l)[k]]) := by rw [h]; simp [stG, hw]
  refine ⟨by unfold wdone; rw [e], ?_⟩
  obtain ⟨_, h3, _⟩ := piece_at l k hk
  have hl : (joinC ((wst l k).2 ++ [(chunks l)[k]])).length = (joinC (wst l k).2).length + (chunks l)[k].2.length := by rw [joinC_append, List.length_append]; simp [joinC]
  have hc := (wcur_at l k).1
  by_cases h0 : (wst l k).2 = []
  · rw [if_pos (wfrom_neg.2 h0)]
    unfold wfrom
    rw [e, if_neg (by simp), hl, h3, h0]
    simp [joinC]
  · rw [if_neg (fun h => h0 (wfrom_neg.1 h))]
    unfold wfrom
    rw [e, if_neg (by simp), hl, h3, if_neg h0]
    omega
/-- A piece that is none. -/
theorem w_out {l : List UInt8} {k : Nat} (hk : k < (chunks l).length) (hw : isW (chunks l)[k] = false) : wfrom l (k + 1) = -1 ∧ wdone l (k + 1) = if wfrom l k < 0 then wdone l k else wdone l k ++ [joinC (wst l k).2] := by
  have h := wst_next l k hk
  have e : wst l (k + 1) = (flushG (wst l k), []) := by rw [h]; simp [stG, hw]
  refine ⟨by unfold wfrom; rw [e, if_pos rfl], ?_⟩
  unfold wdone
  rw [e]
  unfold flushG
  by_cases h0 : (wst l k).2 = []
  · rw [if_pos h0, if_pos (wfrom_neg.2 h0)]
  · rw [if_neg h0, if_neg (fun h => h0 (wfrom_neg.1 h))]; simp
theorem w_end (l : List UInt8) : wordsL l = if wfrom l (chunks l).length < 0 then wdone l (chunks l).length else wdone l (chunks l).length ++ [joinC (wst l (chunks l).length).2] := by
  unfold wordsL groups wdone
  have e : runG isW (chunks l) = wst l (chunks l).length := by unfold wst; rw [List.take_length]
  rw [e]
  unfold flushG
  by_cases h0 : (wst l (chunks l).length).2 = []
  · rw [if_pos h0, if_pos (wfrom_neg.2 h0)]
  · rw [if_neg h0, if_neg (fun h => h0 (wfrom_neg.1 h))]; simp
theorem wdone_prefix (l : List UInt8) (k : Nat) : wdone l k <+: wordsL l := by
  unfold wdone wordsL wst
  have := groups_prefix isW ((chunks l).take k) ((chunks l).drop k)
  rw [List.take_append_drop] at this
  exact this.map joinC
/-- The word under way is the next one, if a piece that is none comes. -/
theorem wdone_next {l : List UInt8} {k : Nat} (hk : k < (chunks l).length) (hw : isW (chunks l)[k] = false) (h0 : ¬ wfrom l k < 0) : wdone l k ++ [joinC (wst l k).2] <+: wordsL l := by
  have := (w_out hk hw).2
  rw [if_neg h0] at this
  rw [← this]
  exact wdone_prefix l _
/-- The word under way, in the text. -/
theorem w_slice {l : List UInt8} {k : Nat} (h0 : ¬ wfrom l k < 0) : (l.drop (wfrom l k).toNat).take (atC l k - (wfrom l k).toNat) = joinC (wst l k).2 := by
  obtain ⟨h1, h2⟩ := wcur_at l k
  have e : wfrom l k = (atC l k : Int) - (joinC (wst l k).2).length := by
    unfold wfrom; rw [if_neg (fun h => h0 (wfrom_neg.2 h))]
  rw [show (wfrom l k).toNat = atC l k - (joinC (wst l k).2).length by omega, show atC l k - (atC l k - (joinC (wst l k).2).length) = (joinC (wst l k).2).length by omega]
  exact h2
theorem told_kind {l : List UInt8} {pre : List (Nat × Int)} {x : Nat × Int} (h : pre ++ [x] <+: idxC 0 (chunks l)) (hk : pre.length < (chunks l).length) : isW (chunks l)[pre.length] = (decide (0 ≤ x.2) && (kindN x.2 == 1 || kindN x.2 == 2)) := by
  have h1 := last_of_prefix h
  rw [idxC_get 0 _ _ hk] at h1
  simp only [Option.some.injEq] at h1
  rw [← h1]; rfl
end Go.Utf
