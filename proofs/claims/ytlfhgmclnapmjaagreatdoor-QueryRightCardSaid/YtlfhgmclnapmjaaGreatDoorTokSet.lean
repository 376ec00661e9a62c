/- Sorted rows of texts without repeats, plain: a compacted sorted row; insertion. No conditions. Tokens of texts of small bytes, to be computed. Condition: each byte is less than 128. Tokens of joined texts, plain. No conditions. Chapter 17 (queries), plain: what a query is, when it is right, what it matches, its terms; no program in sight. No conditions. Chapter 17, plain: where phrases stand in joined texts; beginnings of terms. No conditions. Chapter 17, plain: the chapter's examples, computed. No conditions. Chapter 17, plain: queries put together, lists turned, a phrase's terms. No conditions. -/
import Derived.Test.YtlfhgmclnapmjaaGreatDoorTokPlain
import Derived.Lib.SlicesCompact
namespace Go.Utf
open Go.Lib
abbrev Tx := List UInt8
theorem tx_lt {a b : Tx} (h : a ≤ b) (hne : a ≠ b) : a < b := by
  by_cases h2 : a < b
  · exact h2
  · exact absurd (List.le_antisymm h (List.not_lt.1 h2)) hne
theorem tx_ne {a b : Tx} (h : a < b) : a ≠ b := fun e => by rw [e] at h; exact List.lt_irrefl b h
/-- Two strictly rising rows of the same texts are one. -/
theorem rising_same {a b : List Tx} (ha : a.Pairwise (· < ·)) (hb : b.Pairwise (· < ·)) (h : ∀ x, x ∈ a ↔ x ∈ b) : a = b := by
  have na : a.Nodup := ha.imp fun h => tx_ne h
  have nb : b.Nodup := hb.imp fun h => tx_ne h
  refine List.Perm.eq_of_pairwise (le := (· < ·)) ?_ ha hb ((List.perm_ext_iff_of_nodup na nb).2 h)
  intro x y _ _ h1 h2
  exact absurd (List.lt_trans h1 h2) (List.lt_irrefl x)
theorem getB (zs : List Tx) (j : Nat) (h : j < zs.length) : zs.toArray[j]! = zs[j] := by simp [h]
theorem compact_part (zs : List Tx) (hs : zs.Pairwise (· ≤ ·)) (m : Nat) (hm : m ≤ zs.length) : (compactUpTo zs.toArray m).Pairwise (· < ·) ∧ ∀ x, x ∈ compactUpTo zs.toArray m ↔ x ∈ zs.take m := by
  induction m with
  | zero => exact ⟨by simp [compactUpTo], fun x => by simp [compactUpTo]⟩
  | succ m ih =>
    have hm' : m < zs.length := by omega
    obtain ⟨h1, h2⟩ := ih (by omega)
    rw [compactUpTo_succ, List.take_succ_eq_append_getElem hm', getB zs m hm']
    by_cases hk : keeps zs.toArray m = true
    · rw [if_pos hk]
      refine ⟨List.pairwise_append.2 ⟨h1, by simp, fun x hx y hy => ?_⟩, fun x => ?_⟩
      · rw [List.mem_singleton] at hy
        subst hy
        have hx' := (h2 x).1 hx
        obtain ⟨j, hj, rfl⟩ := List.mem_iff_getElem.1 hx'
        rw [List.length_take] at hj
        rw [List.getElem_take]
        have h0 : m ≠ 0 := by omega
        have hne : zs[m] ≠ zs[m - 1] := by
          have := hk
          unfold keeps at this
          rw [decide_eq_true_eq, getB zs m hm', getB zs (m - 1) (by omega)] at this
          exact this.resolve_left h0
        have hle : zs[j] ≤ zs[m - 1] := by
          by_cases e : j = m - 1
          · subst e; exact List.le_refl _
          · exact List.pairwise_iff_getElem.1 hs j (m - 1) (by omega) (by omega) (by omega)
        have hlt : zs[m - 1] < zs[m] := tx_lt (List.pairwise_iff_getElem.1 hs (m - 1) m (by omega) hm' (by omega)) (fun e => hne e.symm)
        exact List.lt_of_le_of_lt hle hlt
      · rw [List.mem_append, List.mem_append, h2]
    · rw [if_neg hk, List.append_nil]
      refine ⟨h1, fun x => ?_⟩
      rw [h2, List.mem_append, List.mem_singleton]
      constructor
      · exact .inl
      · rintro (h | rfl)
        · exact h
        · have := hk
          unfold keeps at this
          rw [decide_eq_true_eq, getB zs m hm', not_or] at this
          obtain ⟨h0, hne⟩ := this
          rw [getB zs (m - 1) (by omega), ne_eq, Decidable.not_not] at hne
          rw [hne]
          exact List.mem_iff_getElem.2 ⟨m - 1, by rw [List.length_take]; omega, by rw [List.getElem_take]⟩
theorem sort_le (zs : List Tx) : (zs.mergeSort fun x y => decide (x ≤ y)).Pairwise (· ≤ ·) := by
  have := List.pairwise_mergeSort (le := fun x y : Tx => decide (x ≤ y)) (fun a b c h1 h2 => by
    rw [decide_eq_true_eq] at *
    exact List.le_trans h1 h2) (fun a b => by
    rw [Bool.or_eq_true, decide_eq_true_eq, decide_eq_true_eq]
    exact List.le_total a b) zs
  exact this.imp fun h => by simpa using h
/-- What sorting and compacting make of a row: strictly rising, the same texts. -/
theorem set_of (zs : List Tx) : (compact (zs.mergeSort fun x y => decide (x ≤ y))).Pairwise (· < ·) ∧ ∀ x, x ∈ compact (zs.mergeSort fun x y => decide (x ≤ y)) ↔ x ∈ zs := by
  obtain ⟨h1, h2⟩ := compact_part _ (sort_le zs) _ (Nat.le_refl _)
  refine ⟨h1, fun x => ?_⟩
  rw [show x ∈ compact (zs.mergeSort fun x y => decide (x ≤ y)) ↔ _ from h2 x, List.take_length, List.mem_mergeSort]
/-- Insertion into a strictly rising row. -/
def insT (out : List Tx) (k : Nat) (t : Tx) : List Tx := if k = out.length ∨ out[k]? ≠ some t then out.take k ++ t :: out.drop k else out
/-- Place k: all ahead of it are less; what stands there is not. -/
def AtT (out : List Tx) (k : Nat) (t : Tx) : Prop := k ≤ out.length ∧ (∀ j (h : j < out.length), j < k → out[j] < t) ∧ ∀ h : k < out.length, ¬ out[k] < t
theorem insT_ok {out : List Tx} {k : Nat} {t : Tx} (hs : out.Pairwise (· < ·)) (hk : AtT out k t) : (insT out k t).Pairwise (· < ·) ∧ ∀ x, x ∈ insT out k t ↔ x ∈ out ∨ x = t := by
  obtain ⟨h1, h2, h3⟩ := hk
  unfold insT
  by_cases hc : k = out.length ∨ out[k]? ≠ some t
  · rw [if_pos hc]
    have hb : ∀ y ∈ out.drop k, t < y := by
      intro y hy
      obtain ⟨j, hj, rfl⟩ := List.mem_iff_getElem.1 hy
      rw [List.length_drop] at hj
      rw [List.getElem_drop]
      have hkl : k < out.length := by omega
      have hne : out[k] ≠ t := by
        rcases hc with h | h
        · omega
        · rw [List.getElem?_eq_getElem hkl] at h
          exact fun e => h (by rw [e])
      have hlt : t < out[k] := tx_lt (List.not_lt.1 (h3 hkl)) (fun e => hne e.symm)
      by_cases e : j = 0
      · subst e; exact hlt
      · exact List.lt_trans hlt (List.pairwise_iff_getElem.1 hs k (k + j) hkl (by omega) (by omega))
    have ha : ∀ y ∈ out.take k, y < t := by
      intro y hy
      obtain ⟨j, hj, rfl⟩ := List.mem_iff_getElem.1 hy
      rw [List.length_take] at hj
      rw [List.getElem_take]
      exact h2 j (by omega) (by omega)
    refine ⟨List.pairwise_append.2 ⟨hs.sublist (List.take_sublist k out), List.pairwise_cons.2 ⟨hb, hs.sublist (List.drop_sublist k out)⟩, fun x hx y hy => ?_⟩, fun x => ?_⟩
    · rcases List.mem_cons.1 hy with rfl | hy
      · exact ha x hx
      · exact List.lt_trans (ha x hx) (hb y hy)
    · rw [List.mem_append, List.mem_cons]
      conv => rhs; rw [← List.take_append_drop k out]
      rw [List.mem_append]
      constructor
      · rintro (h | h | h)
        · exact .inl (.inl h)
        · exact .inr h
        · exact .inl (.inr h)
      · rintro ((h | h) | h)
        · exact .inl h
        · exact .inr (.inr h)
        · exact .inr (.inl h)
  · rw [if_neg hc]
    refine ⟨hs, fun x => ⟨.inl, ?_⟩⟩
    rintro (h | rfl)
    · exact h
    · have : out[k]? = some x := by
        by_cases h : out[k]? = some x
        · exact h
        · exact absurd (.inr h) hc
      exact List.mem_of_getElem? this
end Go.Utf
namespace Go.Utf
open Go.Lib
def ascB (l : List UInt8) : Bool := l.all fun b => decide (b.toNat < 128)
def ascC (l : List UInt8) : List (Int × List UInt8) := l.map fun b => ((b.toNat : Int), [b])
theorem asc_rune (b : UInt8) (h : b.toNat < 128) : isB (b.toNat : Int) = true ∧ runeT (b.toNat : Int) = [b] := by
  constructor
  · rw [isB_iff]; omega
  · unfold runeT encodeRune
    rw [encodeRuneZ_one (by omega) (by omega)]
    show [(Int.toNat ((b.toNat : Nat) : Int)).toUInt8] = [b]
    rw [Int.toNat_natCast]
    congr 1
    apply UInt8.toNat_inj.1
    simp
theorem chunks_asc (l : List UInt8) (h : ascB l = true) : chunks l = ascC l := by
  induction l with
  | nil => rw [chunks_nil]; rfl
  | cons b l ih =>
    unfold ascB at h
    rw [List.all_cons, Bool.and_eq_true, decide_eq_true_eq] at h
    obtain ⟨h1, h2⟩ := asc_rune b h.1
    have := chunks_rune h1 l
    rw [h2] at this
    rw [show b :: l = [b] ++ l from rfl, this, ih h.2]
    rfl
def ascW (l : List UInt8) : List (List UInt8) := (groups isW (ascC l)).map joinC
def ascF (l : List UInt8) : List UInt8 := joinC ((ascC l).map foldC)
def ascT : Nat → List (List UInt8) → List (List UInt8 × Nat)
  | _, [] => []
  | n, w :: ws => (if goodB (ascF w) then [(ascF w, n)] else []) ++ ascT (n + 1) ws
theorem asc_toks (ws : List (List UInt8)) (h : ws.all ascB = true) : ∀ n, toksFrom n ws = ascT n ws := by
  induction ws with
  | nil => intro n; rfl
  | cons w ws ih =>
    intro n
    rw [List.all_cons, Bool.and_eq_true] at h
    unfold toksFrom ascT
    rw [ih h.2]
    have : foldL w = ascF w := by unfold foldL ascF; rw [chunks_asc w h.1]
    rw [this]
/-- The tokens of such a text, computed. -/
theorem asc_tokens (l : List UInt8) (h : ascB l = true) (h2 : (ascW l).all ascB = true) : tokensL l = ascT 0 (ascW l) := by
  unfold tokensL
  have : wordsL l = ascW l := by unfold wordsL ascW; rw [chunks_asc l h]
  rw [this, asc_toks _ h2]
set_option maxRecDepth 100000 in
theorem tok_ex1 : tokensL [84, 104, 101, 32, 113, 117, 105, 99, 107, 44, 32, 98, 114, 111, 119, 110, 45, 102, 111, 120, 32, 116, 104, 101, 32, 50, 110, 100] = [([113, 117, 105, 99, 107], 1), ([98, 114, 111, 119, 110], 2), ([102, 111, 120], 3), ([50, 110, 100], 5)] := by
  rw [asc_tokens _ (by decide +kernel) (by decide +kernel)]
  decide +kernel
set_option maxRecDepth 100000 in
theorem tok_ex2 : tokensL [98, 32, 97, 49, 32, 66, 32, 122, 122] = [([98], 0), ([97, 49], 1), ([98], 2), ([122, 122], 3)] := by
  rw [asc_tokens _ (by decide +kernel) (by decide +kernel)]
  decide +kernel
end Go.Utf
namespace Go.Utf
open Go.Lib
theorem words_blank (a b : List UInt8) : wordsL (a ++ 32 :: b) = wordsL a ++ wordsL b := words_part a b (r := 32) (by decide) (by decide +kernel)
/-- Behind a text and a blank the places go on where its words end. -/
theorem tokens_join (a b : List UInt8) : tokensL (a ++ 32 :: b) = tokensL a ++ (tokensL b).map fun x => (x.1, x.2 + (wordsL a).length) := by
  unfold tokensL
  rw [words_blank, toks_append]
  congr 1
  exact toks_shift 0 _ _
theorem words_zz : wordsL [122, 122] = [[122, 122]] := by
  have : wordsL [122, 122] = ascW [122, 122] := by unfold wordsL ascW; rw [chunks_asc _ (by decide)]
  rw [this]; decide +kernel
theorem tokens_zz : tokensL [122, 122] = [([122, 122], 0)] := by
  rw [asc_tokens _ (by decide +kernel) (by decide +kernel)]; decide +kernel
/-- A word that tells nothing, put ahead and behind. -/
theorem tokens_around (st s : List UInt8) (h1 : (wordsL st).length = 1) (h2 : tokensL st = []) : tokensL (st ++ 32 :: (s ++ 32 :: st)) = (tokensL s).map fun x => (x.1, x.2 + 1) := by
  rw [tokens_join, tokens_join, h2, h1]
  simp
def stopsT : List (List UInt8) := stopT ++ [[97, 97, 97, 97, 97, 97, 97, 97, 97, 97, 98, 98, 98, 98, 98, 98, 98, 98, 98, 98, 99, 99, 99, 99, 99, 99, 99, 99, 99, 99, 100, 100, 100, 100, 100, 100, 100, 100, 100, 100, 120]]
set_option maxRecDepth 100000 in
theorem stops_all : (stopsT.all fun st => ascB st && (ascW st).all ascB && decide ((ascW st).length = 1) && decide (ascT 0 (ascW st) = [])) = true := by decide +kernel
theorem stops_word (st : List UInt8) (h : st ∈ stopsT) : (wordsL st).length = 1 ∧ tokensL st = [] ∧ st.length ≤ 41 := by
  have hl : (stopsT.all fun st => decide (st.length ≤ 41)) = true := by decide +kernel
  have := List.all_eq_true.1 stops_all st h
  simp only [Bool.and_eq_true, decide_eq_true_eq] at this
  obtain ⟨⟨⟨h1, h2⟩, h3⟩, h4⟩ := this
  refine ⟨?_, ?_, by simpa using List.all_eq_true.1 hl st h⟩
  · have e : wordsL st = ascW st := by unfold wordsL ascW; rw [chunks_asc st h1]
    rw [e, h3]
  · rw [asc_tokens st h1 h2, h4]
end Go.Utf
namespace Go.Qry
open Go.Lib Go.Utf

abbrev Tks := List (Tx × Nat)
/-- A query. -/
inductive Qy where
  | mk (kind : Int) (text : Tx) (must should nots : List Qy)
def Qy.kind : Qy → Int | .mk k _ _ _ _ => k
def Qy.text : Qy → Tx | .mk _ t _ _ _ => t
def Qy.must : Qy → List Qy | .mk _ _ a _ _ => a
def Qy.should : Qy → List Qy | .mk _ _ _ b _ => b
def Qy.nots : Qy → List Qy | .mk _ _ _ _ c => c
def Qy.kids (q : Qy) : List Qy := q.must ++ (q.should ++ q.nots)
/-! how large, how deep -/
mutual
def cnt : Qy → Nat
  | .mk _ _ a b c => 1 + (cntL a + (cntL b + cntL c))
def cntL : List Qy → Nat
  | [] => 0
  | q :: l => cnt q + cntL l
end
mutual
def dep : Qy → Nat
  | .mk _ _ a b c => max (depL a) (max (depL b) (depL c)) + 1
def depL : List Qy → Nat
  | [] => 0
  | q :: l => max (dep q) (depL l)
end
theorem cntL_append : ∀ (a b : List Qy), cntL (a ++ b) = cntL a + cntL b
  | [], b => by simp [cntL]
  | q :: a, b => by rw [List.cons_append, cntL, cntL, cntL_append a b]; omega
theorem depL_append : ∀ (a b : List Qy), depL (a ++ b) = max (depL a) (depL b)
  | [], b => by simp [depL]
  | q :: a, b => by rw [List.cons_append, depL, depL, depL_append a b]; omega
theorem cnt_kids (q : Qy) : cnt q = 1 + cntL q.kids := by
  cases q with
  | mk k t a b c => simp only [cnt, Qy.kids, Qy.must, Qy.should, Qy.nots, cntL_append]
theorem dep_kids (q : Qy) : dep q = depL q.kids + 1 := by
  cases q with
  | mk k t a b c => simp only [dep, Qy.kids, Qy.must, Qy.should, Qy.nots, depL_append]
theorem cnt_pos (q : Qy) : 1 ≤ cnt q := by rw [cnt_kids]; omega
theorem dep_pos (q : Qy) : 1 ≤ dep q := by rw [dep_kids]; omega
theorem length_cntL : ∀ (l : List Qy), l.length ≤ cntL l
  | [] => Nat.le_refl _
  | q :: l => by rw [cntL, List.length_cons]; have := length_cntL l; have := cnt_pos q; omega
theorem cntL_take (l : List Qy) (k : Nat) : cntL (l.take k) ≤ cntL l := by
  have := cntL_append (l.take k) (l.drop k)
  rw [List.take_append_drop] at this
  omega
theorem cntL_snoc (l : List Qy) (k : Nat) (h : k < l.length) : cntL (l.take (k + 1)) = cntL (l.take k) + cnt l[k] := by
  rw [List.take_succ_eq_append_getElem h, cntL_append, cntL, cntL]; rfl
theorem depL_snoc (l : List Qy) (k : Nat) (h : k < l.length) : depL (l.take (k + 1)) = max (depL (l.take k)) (dep l[k]) := by
  rw [List.take_succ_eq_append_getElem h, depL_append, depL, depL]; omega
theorem cnt_mem {q : Qy} : ∀ {l : List Qy}, q ∈ l → cnt q ≤ cntL l
  | p :: l, h => by
    rw [cntL]
    rcases List.mem_cons.1 h with rfl | h
    · omega
    · have := cnt_mem h; omega
theorem dep_mem {q : Qy} : ∀ {l : List Qy}, q ∈ l → dep q ≤ depL l
  | p :: l, h => by
    rw [depL]
    rcases List.mem_cons.1 h with rfl | h
    · omega
    · have := dep_mem h; omega
/-- Up to so many, and one. -/
def manyN (q : Qy) (most : Nat) : Nat := min (cnt q) (most + 1)
def sizeN (q : Qy) : Nat × Nat := if 1000 < cnt q then (1001, 0) else (cnt q, dep q)
/-! when it is right -/
def noneB (q : Qy) : Bool := decide (q.must.length + q.should.length + q.nots.length = 0)
def nodeB (q : Qy) : Bool :=
  if q.kind = 2 ∨ q.kind = 3 ∨ q.kind = 4 then noneB q && (decide (q.text.length ≤ 200) && validL q.text)
  else if q.kind = 1 then noneB q && decide (q.text = [])
  else if q.kind = 5 then decide (q.text = []) else false
mutual
def nodesB : Qy → Bool
  | .mk k t a b c => (nodesL a && (nodesL b && nodesL c)) && nodeB (.mk k t a b c)
def nodesL : List Qy → Bool
  | [] => true
  | q :: l => nodesB q && nodesL l
end
theorem nodesL_all : ∀ (l : List Qy), nodesL l = l.all nodesB
  | [] => rfl
  | q :: l => by rw [nodesL, nodesL_all l, List.all_cons]
theorem nodesB_kids (q : Qy) : nodesB q = (q.kids.all nodesB && nodeB q) := by
  cases q with
  | mk k t a b c => simp only [nodesB, Qy.kids, Qy.must, Qy.should, Qy.nots, nodesL_all, List.all_append]
def rightB (q : Qy) : Bool := decide (cnt q ≤ 100) && (decide (dep q ≤ 20) && nodesB q)
theorem right_iff (q : Qy) : rightB q = true ↔ cnt q ≤ 100 ∧ dep q ≤ 20 ∧ nodesB q = true := by
  unfold rightB; rw [Bool.and_eq_true, Bool.and_eq_true, decide_eq_true_eq, decide_eq_true_eq]
/-- A kid of a right query is right, whatever its list. -/
theorem right_kid {q k : Qy} (h : rightB q = true) (hk : k ∈ q.kids) : rightB k = true := by
  obtain ⟨h1, h2, h3⟩ := (right_iff q).1 h
  rw [nodesB_kids, Bool.and_eq_true, List.all_eq_true] at h3
  have := cnt_mem hk
  have := dep_mem hk
  have := cnt_kids q
  have := dep_kids q
  exact (right_iff k).2 ⟨by omega, by omega, h3.1 k hk⟩
/-! a phrase, where it stands -/
/-- Where a text's first token stands. -/
def firstP (t : Tx) : Nat := match tokensL t with | [] => 0 | x :: _ => x.2
def phraseL (t : Tx) : Tks := (tokensL t).map fun x => (x.1, x.2 - firstP t)
theorem firstP_eq (t : Tx) (h : 0 < (tokensL t).length) : firstP t = ((tokensL t)[0]'h).2 := by
  unfold firstP
  split
  · rename_i e; rw [e] at h; simp at h
  · rename_i x l e; simp only [e, List.getElem_cons_zero]
theorem phrase_length (t : Tx) : (phraseL t).length = (tokensL t).length := by simp [phraseL]
theorem phrase_get (t : Tx) (i : Nat) (h : i < (phraseL t).length) : (phraseL t)[i] = (((tokensL t)[i]'(by rwa [phrase_length] at h)).1, ((tokensL t)[i]'(by rwa [phrase_length] at h)).2 - ((tokensL t)[0]'(by rw [phrase_length] at h; omega)).2) := by
  have h0 : 0 < (tokensL t).length := by rw [phrase_length] at h; omega
  have e := firstP_eq t h0
  rw [← e]
  simp only [phraseL, List.getElem_map]
theorem phrase_first (t : Tx) (h : 0 < (phraseL t).length) : (phraseL t)[0].2 = 0 := by
  rw [phrase_get]; simp
theorem phrase_terms (t : Tx) : (phraseL t).map Prod.fst = (tokensL t).map Prod.fst := by
  unfold phraseL; rw [List.map_map]; rfl
def standB (p l : Tks) : Bool := l.any fun t => p.all fun x => l.contains (x.1, t.2 + x.2)
def prefB (s : Tx) (l : Tks) : Bool := decide (s ≠ []) && l.any fun t => s.isPrefixOf t.1
/-! what it matches -/
mutual
def matB (l : Tks) : Qy → Bool
  | .mk k t a b c =>
    if k = 1 then true
    else if k = 2 then decide (phraseL t ≠ []) && standB ((phraseL t).take 1) l
    else if k = 3 then decide (phraseL t ≠ []) && standB (phraseL t) l
    else if k = 4 then prefB (foldL t) l
    else if k = 5 then (allM l a && !anyM l c) && (decide (0 < a.length) || (decide (b.length = 0) || anyM l b))
    else false
def allM (l : Tks) : List Qy → Bool
  | [] => true
  | q :: r => matB l q && allM l r
def anyM (l : Tks) : List Qy → Bool
  | [] => false
  | q :: r => matB l q || anyM l r
end
theorem allM_all (l : Tks) : ∀ (r : List Qy), allM l r = r.all (matB l)
  | [] => rfl
  | q :: r => by rw [allM, allM_all l r, List.all_cons]
theorem anyM_any (l : Tks) : ∀ (r : List Qy), anyM l r = r.any (matB l)
  | [] => rfl
  | q :: r => by rw [anyM, anyM_any l r, List.any_cons]
def boolM (l : Tks) (a b c : List Qy) : Bool := (a.all (matB l) && !c.any (matB l)) && (decide (0 < a.length) || (decide (b.length = 0) || b.any (matB l)))
theorem matB_eq (l : Tks) (q : Qy) : matB l q = (if q.kind = 1 then true
    else if q.kind = 2 then decide (phraseL q.text ≠ []) && standB ((phraseL q.text).take 1) l
    else if q.kind = 3 then decide (phraseL q.text ≠ []) && standB (phraseL q.text) l
    else if q.kind = 4 then prefB (foldL q.text) l
    else if q.kind = 5 then boolM l q.must q.should q.nots
    else false) := by
  cases q with
  | mk k t a b c =>
    simp only [matB, allM_all, anyM_any, Qy.kind, Qy.text, Qy.must, Qy.should, Qy.nots, boolM]
    rfl
theorem matB_bool (l : Tks) (t : Tx) (a b c : List Qy) : matB l (.mk 5 t a b c) = boolM l a b c := by rw [matB_eq]; rfl
/-! its terms -/
def ownT (q : Qy) : List Tx := if q.kind = 2 then ((phraseL q.text).take 1).map Prod.fst else if q.kind = 3 then (phraseL q.text).map Prod.fst else []
mutual
def askT : Qy → List Tx
  | .mk k t a b c => ownT (.mk k t a b c) ++ (askL a ++ (askL b ++ askL c))
def askL : List Qy → List Tx
  | [] => []
  | q :: l => askT q ++ askL l
end
theorem askL_append : ∀ (a b : List Qy), askL (a ++ b) = askL a ++ askL b
  | [], b => rfl
  | q :: a, b => by rw [List.cons_append, askL, askL, askL_append a b, List.append_assoc]
theorem askT_kids (q : Qy) : askT q = ownT q ++ askL q.kids := by
  cases q with
  | mk k t a b c => simp only [askT, Qy.kids, Qy.must, Qy.should, Qy.nots, askL_append]
theorem askL_mem (x : Tx) : ∀ (l : List Qy), x ∈ askL l ↔ ∃ q ∈ l, x ∈ askT q
  | [] => by simp [askL]
  | q :: l => by rw [askL, List.mem_append, askL_mem x l]; simp
/-- A row of texts, sorted, each once. -/
def canon (xs : List Tx) : List Tx := compact (xs.mergeSort fun x y => decide (x ≤ y))
theorem canon_is {xs ts : List Tx} (h1 : ts.Pairwise (· < ·)) (h2 : ∀ x, x ∈ ts ↔ x ∈ xs) : canon xs = ts := by
  obtain ⟨k1, k2⟩ := set_of xs
  exact rising_same k1 h1 (fun x => (k2 x).trans (h2 x).symm)
theorem canon_mem (xs : List Tx) (x : Tx) : x ∈ canon xs ↔ x ∈ xs := (set_of xs).2 x
theorem canon_rise (xs : List Tx) : (canon xs).Pairwise (· < ·) := (set_of xs).1
theorem canon_same {xs ys : List Tx} (h : ∀ x, x ∈ xs ↔ x ∈ ys) : canon xs = canon ys := canon_is (canon_rise ys) (fun x => (canon_mem ys x).trans (h x).symm)
def termsQ (q : Qy) : List Tx := canon (askT q)
/-- The kids' terms, one behind the other. -/
def kidsT (l : List Qy) : List Tx := l.flatMap termsQ
theorem terms_kids (q : Qy) : termsQ q = canon (ownT q ++ kidsT q.kids) := by
  refine canon_same (fun x => ?_)
  rw [askT_kids, List.mem_append, List.mem_append, askL_mem]
  unfold kidsT
  rw [List.mem_flatMap]
  constructor
  · rintro (h | ⟨k, hk, h⟩)
    · exact .inl h
    · exact .inr ⟨k, hk, (canon_mem _ x).2 h⟩
  · rintro (h | ⟨k, hk, h⟩)
    · exact .inl h
    · exact .inr ⟨k, hk, (canon_mem _ x).1 h⟩
/-! a query's lists, one after the other -/
def preK (q : Qy) : Nat → List Qy
  | 0 => []
  | 1 => q.must
  | 2 => q.must ++ q.should
  | _ => q.kids
def curK (q : Qy) : Nat → List Qy
  | 0 => q.must
  | 1 => q.should
  | _ => q.nots
theorem preK_succ (q : Qy) (a : Nat) (h : a < 3) : preK q (a + 1) = preK q a ++ curK q a := by
  match a, h with
  | 0, _ => rfl
  | 1, _ => rfl
  | 2, _ => show q.kids = (q.must ++ q.should) ++ q.nots; rw [Qy.kids, List.append_assoc]
theorem preK_three (q : Qy) : preK q 3 = q.kids := rfl
/-- What many has counted so far. -/
def manyAt (q : Qy) (most a b : Nat) : Nat := min (1 + cntL (preK q a ++ (curK q a).take b)) (most + 1)
theorem manyAt_start (q : Qy) (most : Nat) : manyAt q most 0 0 = 1 := by simp [manyAt, preK, cntL]
theorem manyAt_next (q : Qy) (most a : Nat) (h : a < 3) : manyAt q most (a + 1) 0 = manyAt q most a (curK q a).length := by
  unfold manyAt
  rw [List.take_zero, List.append_nil, preK_succ q a h, List.take_of_length_le (Nat.le_refl _)]
theorem manyAt_step (q : Qy) (most a b : Nat) (h : b < (curK q a).length) (hm : manyAt q most a b ≤ most) : manyAt q most a (b + 1) = manyAt q most a b + manyN (curK q a)[b] (most - manyAt q most a b) := by
  unfold manyAt manyN at *
  rw [cntL_append] at hm ⊢
  rw [cntL_append, cntL_snoc _ b h]
  omega
theorem manyAt_end (q : Qy) (most : Nat) : manyAt q most 3 0 = manyN q most := by
  unfold manyAt manyN
  rw [List.take_zero, List.append_nil, preK_three, cnt_kids]
theorem manyAt_full (q : Qy) (most a b : Nat) (ha : a < 3) (h : most < manyAt q most a b) : manyAt q most a b = manyN q most := by
  have hle : cntL (preK q a ++ (curK q a).take b) ≤ cntL q.kids := by
    match a, ha with
    | 0, _ =>
      simp only [preK, curK, List.nil_append, Qy.kids, cntL_append]
      have := cntL_take q.must b; omega
    | 1, _ =>
      simp only [preK, curK, Qy.kids, cntL_append]
      have := cntL_take q.should b; omega
    | 2, _ =>
      simp only [preK, curK, Qy.kids, cntL_append]
      have := cntL_take q.nots b; omega
  unfold manyAt manyN at *
  rw [cnt_kids]
  omega
/-! the document's way to look for a phrase -/
def oneB (p l : Tks) (t : Tx × Nat) : Bool := decide (t.1 = (p.head?.map Prod.fst).getD []) && p.tail.all fun x => l.contains (x.1, t.2 + x.2)
def countN (p l : Tks) : Nat := if p = [] then 0 else (l.filter (oneB p l)).length
theorem count_stands {p l : Tks} (h0 : ∀ h : 0 < p.length, p[0].2 = 0) : decide (0 < countN p l) = (decide (p ≠ []) && standB p l) := by
  cases p with
  | nil => simp [countN]
  | cons x p =>
    have hx : x.2 = 0 := h0 (by simp)
    rw [Bool.eq_iff_iff, decide_eq_true_eq, Bool.and_eq_true, decide_eq_true_eq]
    unfold countN standB
    rw [if_neg (by simp), List.length_pos_iff_exists_mem]
    simp only [List.mem_filter, List.any_eq_true]
    unfold oneB
    simp only [List.head?_cons, Option.map_some, Option.getD_some, List.tail_cons, Bool.and_eq_true, List.all_eq_true, List.contains_iff_mem]
    constructor
    · rintro ⟨t, ht, h1, h2⟩
      have h1 := of_decide_eq_true h1
      refine ⟨by simp, t, ht, fun y hy => ?_⟩
      rcases List.mem_cons.1 hy with rfl | hy
      · rw [hx, Nat.add_zero, ← h1]; exact ht
      · exact h2 y hy
    · rintro ⟨_, t, ht, h⟩
      have h1 := h x (by simp)
      rw [hx, Nat.add_zero] at h1
      exact ⟨(x.1, t.2), h1, decide_eq_true rfl, fun y hy => h y (by simp [hy])⟩
def beginsN (s : Tx) (l : Tks) : Nat := if s = [] then 0 else (l.filter fun t => s.isPrefixOf t.1).length
theorem begins_pref (s : Tx) (l : Tks) : decide (0 < beginsN s l) = prefB s l := by
  unfold beginsN prefB
  by_cases h : s = []
  · simp [h]
  · rw [if_neg h, Bool.eq_iff_iff, decide_eq_true_eq, Bool.and_eq_true, decide_eq_true_eq, List.length_pos_iff_exists_mem]
    simp only [List.mem_filter, List.any_eq_true]
    exact ⟨fun ⟨t, h1, h2⟩ => ⟨h, t, h1, h2⟩, fun ⟨_, t, h1, h2⟩ => ⟨t, h1, h2⟩⟩
end Go.Qry
namespace Go.Qry
open Go.Lib Go.Utf

theorem phrase_ne (s : Tx) : phraseL s ≠ [] ↔ tokensL s ≠ [] := by
  rw [ne_eq, ne_eq, ← List.length_eq_zero_iff, ← List.length_eq_zero_iff, phrase_length]
theorem tokens_rise (s : Tx) (i : Nat) (h : i < (tokensL s).length) : ((tokensL s)[0]'(by omega)).2 ≤ (tokensL s)[i].2 := by
  have hp : (tokensL s).Pairwise fun a b => a.2 < b.2 := toks_rise 0 (wordsL s)
  rcases Nat.eq_zero_or_pos i with rfl | hi
  · exact Nat.le_refl _
  · exact Nat.le_of_lt (List.pairwise_iff_getElem.1 hp 0 i (by omega) h hi)
/-- A text's phrase stands where its tokens stand, moved by k. -/
theorem stands_at {s : Tx} {l : Tks} {k : Nat} (hne : tokensL s ≠ []) (h : ∀ x ∈ tokensL s, (x.1, x.2 + k) ∈ l) (m : Nat) : standB ((phraseL s).take m) l = true := by
  have h0 : 0 < (tokensL s).length := by
    rcases Nat.eq_zero_or_pos (tokensL s).length with h | h
    · exact absurd (List.eq_nil_of_length_eq_zero h) hne
    · exact h
  unfold standB
  rw [List.any_eq_true]
  refine ⟨((tokensL s)[0].1, (tokensL s)[0].2 + k), h _ (List.getElem_mem h0), ?_⟩
  rw [List.all_eq_true]
  intro y hy
  have hy' := List.mem_of_mem_take hy
  obtain ⟨i, hi, rfl⟩ := List.mem_iff_getElem.1 hy'
  rw [phrase_get s i hi]
  rw [phrase_length] at hi
  rw [List.contains_iff_mem]
  have h1 := h _ (List.getElem_mem hi)
  have h2 := tokens_rise s i hi
  simp only
  rw [show (tokensL s)[0].2 + k + ((tokensL s)[i].2 - (tokensL s)[0].2) = (tokensL s)[i].2 + k by omega]
  exact h1
theorem stands_full {s : Tx} {l : Tks} {k : Nat} (hne : tokensL s ≠ []) (h : ∀ x ∈ tokensL s, (x.1, x.2 + k) ∈ l) : standB (phraseL s) l = true := by
  have := stands_at hne h (phraseL s).length
  rwa [List.take_of_length_le (Nat.le_refl _)] at this
/-- A term alone. -/
theorem term_phrase {s : Tx} {x : Tx × Nat} (hx : x ∈ tokensL s) : phraseL x.1 = [(x.1, 0)] := by
  unfold phraseL
  rw [tokens_term hx]
  simp
theorem term_stands {s : Tx} {l : Tks} {k : Nat} {x : Tx × Nat} (hx : x ∈ tokensL s) (h : (x.1, x.2 + k) ∈ l) : standB (phraseL x.1) l = true := by
  rw [term_phrase hx]
  unfold standB
  rw [List.any_eq_true]
  exact ⟨_, h, by simp [h]⟩
/-- A folded text's beginning, cut where a rune begins, is folded. -/
theorem fold_take {t : Tx} (h : foldL t = t) (n : Nat) (hc : (t.drop n).takeWhile contB = []) : foldL (t.take n) = t.take n := by
  have h1 := chunks_join_anew (t.take n) (t.drop n) hc
  rw [List.take_append_drop] at h1
  have h2 := chunks_fold t
  rw [h, h1, List.map_append] at h2
  have h3 := (List.append_inj h2 (by rw [List.length_map])).1
  show joinC ((chunks (t.take n)).map foldC) = _
  rw [← h3, chunks_join]
theorem term_fold {s : Tx} {x : Tx × Nat} (hx : x ∈ tokensL s) : foldL x.1 = x.1 ∧ x.1 ≠ [] := by
  obtain ⟨_, ⟨w, hw, e⟩, _, _⟩ := toks_mem hx
  have h1 := fold_word hw
  rw [e]
  refine ⟨h1.1, ?_⟩
  have h2 := words_word (l := foldL w) (w := foldL w) (by rw [h1.2]; simp)
  exact h2.2
theorem pref_at {t u : Tx} {l : Tks} {k : Nat} (hne : t ≠ []) (hp : t.isPrefixOf u = true) (h : (u, k) ∈ l) : prefB t l = true := by
  unfold prefB
  rw [decide_eq_true hne, Bool.true_and, List.any_eq_true]
  exact ⟨_, h, hp⟩
/-- The tokens of the middle of three texts parted by blanks. -/
theorem tokens_mid (a s b : Tx) : ∀ x ∈ tokensL s, (x.1, x.2 + (wordsL a).length) ∈ tokensL (a ++ 32 :: (s ++ 32 :: b)) := by
  intro x hx
  rw [tokens_join, tokens_join]
  refine List.mem_append.2 (.inr ?_)
  exact List.mem_map.2 ⟨x, List.mem_append.2 (.inl hx), rfl⟩
/-- A phrase that stands somewhere: all its terms are there. -/
theorem stands_terms {p l : Tks} (h : standB p l = true) : ∀ x ∈ p, x.1 ∈ l.map Prod.fst := by
  intro x hx
  unfold standB at h
  rw [List.any_eq_true] at h
  obtain ⟨t, _, h2⟩ := h
  rw [List.all_eq_true] at h2
  have := h2 x hx
  rw [List.contains_iff_mem] at this
  exact List.mem_map.2 ⟨_, this, rfl⟩
theorem stands_take {p l : Tks} (h : standB p l = true) (n : Nat) : standB (p.take n) l = true := by
  unfold standB at *
  rw [List.any_eq_true] at *
  obtain ⟨t, h1, h2⟩ := h
  refine ⟨t, h1, ?_⟩
  rw [List.all_eq_true] at *
  exact fun x hx => h2 x (List.mem_of_mem_take hx)
end Go.Qry
namespace Go.Qry
open Go.Lib Go.Utf

theorem asc_fold (l : Tx) (h : ascB l = true) : foldL l = ascF l := by unfold foldL ascF; rw [chunks_asc l h]
def foxL : Tks := [([113, 117, 105, 99, 107], 1), ([114, 101, 100], 2), ([102, 111, 120], 3)]
set_option maxRecDepth 100000 in
theorem ex_tokens : tokensL [97, 32, 113, 117, 105, 99, 107, 32, 114, 101, 100, 32, 102, 111, 120] = foxL := by
  rw [asc_tokens _ (by decide +kernel) (by decide +kernel)]
  decide +kernel
set_option maxRecDepth 100000 in
theorem ex_fox : tokensL [70, 111, 120, 33] = [([102, 111, 120], 0)] := by
  rw [asc_tokens _ (by decide +kernel) (by decide +kernel)]
  decide +kernel
set_option maxRecDepth 100000 in
theorem ex_quick : tokensL [113, 117, 105, 99, 107, 32, 116, 104, 101, 32, 102, 111, 120] = [([113, 117, 105, 99, 107], 0), ([102, 111, 120], 2)] := by
  rw [asc_tokens _ (by decide +kernel) (by decide +kernel)]
  decide +kernel
set_option maxRecDepth 100000 in
theorem ex_fq : tokensL [102, 111, 120, 32, 113, 117, 105, 99, 107] = [([102, 111, 120], 0), ([113, 117, 105, 99, 107], 1)] := by
  rw [asc_tokens _ (by decide +kernel) (by decide +kernel)]
  decide +kernel
set_option maxRecDepth 100000 in
theorem ex_bab : tokensL [98, 32, 97, 49, 32, 98] = [([98], 0), ([97, 49], 1), ([98], 2)] := by
  rw [asc_tokens _ (by decide +kernel) (by decide +kernel)]
  decide +kernel
set_option maxRecDepth 100000 in
theorem ex_qu : foldL [81, 85] = [113, 117] := by
  rw [asc_fold _ (by decide +kernel)]
  decide +kernel
theorem ph_fox : phraseL [70, 111, 120, 33] = [([102, 111, 120], 0)] := by
  unfold phraseL firstP; rw [ex_fox]; rfl
theorem ph_quick : phraseL [113, 117, 105, 99, 107, 32, 116, 104, 101, 32, 102, 111, 120] = [([113, 117, 105, 99, 107], 0), ([102, 111, 120], 2)] := by
  unfold phraseL firstP; rw [ex_quick]; rfl
theorem ph_fq : phraseL [102, 111, 120, 32, 113, 117, 105, 99, 107] = [([102, 111, 120], 0), ([113, 117, 105, 99, 107], 1)] := by
  unfold phraseL firstP; rw [ex_fq]; rfl
theorem phrase_mat (l : Tks) (s : Tx) : matB l (.mk 3 s [] [] []) = (decide (phraseL s ≠ []) && standB (phraseL s) l) := by rw [matB_eq]; rfl
theorem term_mat (l : Tks) (s : Tx) : matB l (.mk 2 s [] [] []) = (decide (phraseL s ≠ []) && standB ((phraseL s).take 1) l) := by rw [matB_eq]; rfl
theorem pref_mat (l : Tks) (s : Tx) : matB l (.mk 4 s [] [] []) = prefB (foldL s) l := by rw [matB_eq]; rfl
theorem ex_a : matB foxL (.mk 2 [70, 111, 120, 33] [] [] []) = true := by
  rw [term_mat, ph_fox]
  decide +kernel
theorem ex_b : matB foxL (.mk 3 [113, 117, 105, 99, 107, 32, 116, 104, 101, 32, 102, 111, 120] [] [] []) = true := by
  rw [phrase_mat, ph_quick]
  decide +kernel
theorem ex_c : matB foxL (.mk 3 [102, 111, 120, 32, 113, 117, 105, 99, 107] [] [] []) = false := by
  rw [phrase_mat, ph_fq]
  decide +kernel
theorem ex_d : matB foxL (.mk 4 [81, 85] [] [] []) = true := by
  rw [pref_mat, ex_qu]
  decide +kernel
def exQ : Qy := .mk 5 [] [.mk 1 [] [] [] []] [] [.mk 1 [] [] [] []]
theorem ex_size : sizeN exQ = (3, 2) := by
  unfold sizeN exQ
  simp [cnt, cntL, dep, depL]
theorem own_three (s : Tx) (a b c : List Qy) : ownT (.mk 3 s a b c) = (phraseL s).map Prod.fst := by
  unfold ownT; rw [if_neg (show ¬ (Qy.mk 3 s a b c).kind = 2 by show ¬ ((3 : Int) = 2); decide), if_pos (show (Qy.mk 3 s a b c).kind = 3 from rfl)]; rfl
theorem own_two (s : Tx) (a b c : List Qy) : ownT (.mk 2 s a b c) = ((phraseL s).take 1).map Prod.fst := by
  unfold ownT; rw [if_pos (show (Qy.mk 2 s a b c).kind = 2 from rfl)]; rfl
theorem ask_three (s : Tx) : askT (.mk 3 s [] [] []) = (tokensL s).map Prod.fst := by
  rw [askT_kids, own_three, phrase_terms]
  show _ ++ askL [] = _
  rw [askL, List.append_nil]
theorem ask_two (s : Tx) : askT (.mk 2 s [] [] []) = ((phraseL s).take 1).map Prod.fst := by
  rw [askT_kids, own_two]
  show _ ++ askL [] = _
  rw [askL, List.append_nil]
theorem ex_terms : termsQ (.mk 3 [98, 32, 97, 49, 32, 98] [] [] []) = [[97, 49], [98]] := by
  refine canon_is (by decide +kernel) (fun x => ?_)
  rw [ask_three, ex_bab]
  simp only [List.map_cons, List.map_nil, List.mem_cons, List.not_mem_nil, or_false]
  constructor
  · rintro (h | h)
    · exact .inr (.inl h)
    · exact .inl h
  · rintro (h | h | h)
    · exact .inr h
    · exact .inl h
    · exact .inr h
end Go.Qry
namespace Go.Qry
open Go.Lib Go.Utf

theorem m_must (l : Tks) (t : Tx) (a b : Qy) : matB l (.mk 5 t [a, b] [] []) = (matB l a && matB l b) := by rw [matB_bool]; simp [boolM]
theorem m_should (l : Tks) (t : Tx) (a b : Qy) : matB l (.mk 5 t [] [a, b] []) = (matB l a || matB l b) := by rw [matB_bool]; simp [boolM]
theorem m_not (l : Tks) (t : Tx) (a b : Qy) : matB l (.mk 5 t [] [] [a, b]) = (!matB l a && !matB l b) := by rw [matB_bool]; simp [boolM]
theorem m_mixed (l : Tks) (t : Tx) (a b : Qy) : matB l (.mk 5 t [a] [b] []) = matB l a := by rw [matB_bool]; simp [boolM]
theorem m_less (l : Tks) (t : Tx) (a b : Qy) : matB l (.mk 5 t [a] [] [b]) = (matB l a && !matB l b) := by rw [matB_bool]; simp [boolM]
theorem m_none (l : Tks) (t : Tx) : matB l (.mk 5 t [] [] []) = true := by rw [matB_bool]; simp [boolM]
theorem m_not1 (l : Tks) (t : Tx) (q : Qy) : matB l (.mk 5 t [] [] [q]) = !matB l q := by rw [matB_bool]; simp [boolM]
theorem m_twice (l : Tks) (t : Tx) (q : Qy) : matB l (.mk 5 t [q, q] [] []) = matB l q := by rw [m_must, Bool.and_self]
theorem all_rot {α : Type} (l : List α) (k : Nat) (f : α → Bool) : (l.drop k ++ l.take k).all f = l.all f := by
  rw [List.all_append, Bool.and_comm, ← List.all_append, List.take_append_drop]
theorem any_rot {α : Type} (l : List α) (k : Nat) (f : α → Bool) : (l.drop k ++ l.take k).any f = l.any f := by
  rw [List.any_append, Bool.or_comm, ← List.any_append, List.take_append_drop]
theorem len_rot {α : Type} (l : List α) (k : Nat) : (l.drop k ++ l.take k).length = l.length := by
  rw [List.length_append, Nat.add_comm, ← List.length_append, List.take_append_drop]
theorem cntL_rot (l : List Qy) (k : Nat) : cntL (l.drop k ++ l.take k) = cntL l := by
  rw [cntL_append, Nat.add_comm, ← cntL_append, List.take_append_drop]
theorem depL_rot (l : List Qy) (k : Nat) : depL (l.drop k ++ l.take k) = depL l := by
  rw [depL_append, Nat.max_comm, ← depL_append, List.take_append_drop]
theorem mem_rot {α : Type} (l : List α) (k : Nat) (x : α) : x ∈ l.drop k ++ l.take k ↔ x ∈ l := by
  rw [List.mem_append, Or.comm, ← List.mem_append, List.take_append_drop]
theorem rot_must (l : Tks) (t : Tx) (a : List Qy) (k : Nat) : matB l (.mk 5 t (a.drop k ++ a.take k) [] []) = matB l (.mk 5 t a [] []) := by
  rw [matB_bool, matB_bool]
  unfold boolM
  rw [all_rot, len_rot]
theorem rot_should (l : Tks) (t : Tx) (a c : List Qy) (k : Nat) : matB l (.mk 5 t [] (a.drop k ++ a.take k) c) = matB l (.mk 5 t [] a c) := by
  rw [matB_bool, matB_bool]
  unfold boolM
  rw [any_rot, len_rot]
theorem rot_size (n : Int) (t : Tx) (a : List Qy) (k : Nat) : sizeN (.mk n t (a.drop k ++ a.take k) [] []) = sizeN (.mk n t a [] []) := by
  have e1 : cnt (.mk n t (a.drop k ++ a.take k) [] []) = cnt (.mk n t a [] []) := by rw [cnt, cnt, cntL_rot]
  have e2 : dep (.mk n t (a.drop k ++ a.take k) [] []) = dep (.mk n t a [] []) := by rw [dep, dep, depL_rot]
  unfold sizeN
  rw [e1, e2]
theorem rot_terms (n : Int) (t : Tx) (a c : List Qy) (k : Nat) : termsQ (.mk n t [] (a.drop k ++ a.take k) c) = termsQ (.mk n t [] a c) := by
  unfold termsQ
  refine canon_same (fun x => ?_)
  rw [askT_kids, askT_kids]
  simp only [List.mem_append, askL_mem, Qy.kids, Qy.must, Qy.should, Qy.nots, List.nil_append]
  have e : ownT (.mk n t [] (a.drop k ++ a.take k) c) = ownT (.mk n t [] a c) := rfl
  rw [e]
  refine or_congr Iff.rfl ?_
  constructor
  · rintro ⟨q, h, hx⟩
    refine ⟨q, ?_, hx⟩
    rcases h with h | h
    · exact .inl (by rw [← List.mem_append, mem_rot] at h; exact h)
    · exact .inr h
  · rintro ⟨q, h, hx⟩
    refine ⟨q, ?_, hx⟩
    rcases h with h | h
    · exact .inl (by rw [← List.mem_append, mem_rot]; exact h)
    · exact .inr h
/-! a phrase's and a term's query -/
/-- A text's terms. -/
def termsC (s : Tx) : List Tx := canon ((tokensL s).map Prod.fst)
theorem terms_phrase (s : Tx) : termsQ (.mk 3 s [] [] []) = termsC s := by
  unfold termsQ
  rw [ask_three]
  rfl
theorem terms_term (s : Tx) : (termsQ (.mk 2 s [] [] [])).length = min 1 (termsC s).length := by
  have h1 := set_of ((tokensL s).map Prod.fst)
  unfold termsQ
  rw [ask_two]
  cases hp : phraseL s with
  | nil =>
    have h0 : tokensL s = [] := by
      have := phrase_length s
      rw [hp] at this
      exact List.eq_nil_of_length_eq_zero this.symm
    have h2 : termsC s = [] := by
      rw [List.eq_nil_iff_forall_not_mem]
      intro x hx
      have := (h1.2 x).1 hx
      rw [h0] at this
      simp at this
    have e : canon (([] : Tks).map Prod.fst) = [] := canon_is (by simp) (fun y => by simp)
    rw [h2, List.take_nil, e]
    rfl
  | cons x xs =>
    have e : canon (([x]).map Prod.fst) = [x.1] := canon_is (by simp) (fun y => by simp)
    rw [show ((x :: xs).take 1) = [x] from rfl, e]
    have h3 : x.1 ∈ termsC s := by
      refine (h1.2 x.1).2 ?_
      rw [← phrase_terms, hp]
      simp
    have := List.length_pos_of_mem h3
    simp only [List.length_singleton]
    omega
/-- A text whose phrase is matched has all its terms; its first term's query matches, too. -/
theorem phrase_has (s t : Tx) (h : matB (tokensL t) (.mk 3 s [] [] []) = true) : (decide (0 < (termsC s).length) && (termsC s).all fun x => (termsC t).any fun y => decide (y = x)) = true ∧ matB (tokensL t) (.mk 2 s [] [] []) = true := by
  rw [phrase_mat, Bool.and_eq_true, decide_eq_true_eq] at h
  obtain ⟨h1, h2⟩ := h
  have k1 := set_of ((tokensL s).map Prod.fst)
  have k2 := set_of ((tokensL t).map Prod.fst)
  refine ⟨?_, by rw [term_mat, decide_eq_true h1, Bool.true_and]; exact stands_take h2 1⟩
  rw [Bool.and_eq_true, decide_eq_true_eq, List.all_eq_true]
  constructor
  · cases hp : phraseL s with
    | nil => exact absurd hp h1
    | cons x xs =>
      have : x.1 ∈ termsC s := (k1.2 x.1).2 (by rw [← phrase_terms, hp]; simp)
      exact List.length_pos_of_mem this
  · intro x hx
    rw [List.any_eq_true]
    have h3 := (k1.2 x).1 hx
    rw [← phrase_terms] at h3
    obtain ⟨y, hy, rfl⟩ := List.mem_map.1 h3
    have h4 := stands_terms h2 y hy
    exact ⟨y.1, (k2.2 y.1).2 h4, by simp⟩
end Go.Qry
