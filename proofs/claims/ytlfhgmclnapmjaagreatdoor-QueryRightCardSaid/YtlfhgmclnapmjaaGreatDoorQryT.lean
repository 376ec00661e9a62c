/- Chapter 17: codexref17.Begins. Conditions: a length that fits. Chapter 17: codexref17.Count. Conditions: the places' bounds. Chapter 17: codexref17.every, Matches. Conditions: the tokens' bounds, a short query. -/
import Derived.Test.YtlfhgmclnapmjaaGreatDoorQryO
import Derived.Deep.RegionWith
namespace Go.Proofs.YtlfhgmclnapmjaaGreatDoor
open Go.RowKit Go.Utf Go.Qry
attribute [local go_sem] Oper.semAt_some

def numT (f : Tx × Nat → Bool) (l : Tks) : Nat := (l.filter f).length
theorem numT_snoc (f : Tx × Nat → Bool) (l : Tks) (k : Nat) (h : k < l.length) : numT f (l.take (k + 1)) = numT f (l.take k) + (if f l[k] then 1 else 0) := by
  unfold numT
  rw [List.take_add_one, List.getElem?_eq_getElem h, List.filter_append, List.length_append]
  congr 1
  simp only [Option.toList, List.filter_cons, List.filter_nil]
  split <;> rfl
theorem numT_le (f : Tx × Nat → Bool) (l : Tks) (k : Nat) : numT f (l.take k) ≤ l.length := by
  unfold numT
  have h1 := List.length_filter_le f (l.take k)
  have h2 := List.length_take_le' k l
  omega
def prefF (s : Tx) (t : Tx × Nat) : Bool := s.isPrefixOf t.1
theorem begins_num (s : Tx) (l : Tks) (h : s ≠ []) : beginsN s l = numT (prefF s) l := by
  unfold beginsN; rw [if_neg h]; rfl
theorem pref_bytes (b a : ByteArray) : ((a.extract 0 b.size).toList == b.toList) = (L b).isPrefixOf (L a) := by
  rw [extract_take, toList_B, toList_L, Bool.eq_iff_iff, List.isPrefixOf_iff_prefix, beq_iff_eq, List.prefix_iff_eq_take, length_L]
  exact eq_comm
theorem pref_short (b a : ByteArray) (h : ¬ b.size ≤ a.size) : (L b).isPrefixOf (L a) = false := by
  rw [← Bool.not_eq_true, List.isPrefixOf_iff_prefix]
  intro hp
  have := hp.length_le
  rw [length_L, length_L] at this
  exact h this
end Go.Proofs.YtlfhgmclnapmjaaGreatDoor
namespace Go.Proofs.YtlfhgmclnapmjaaGreatDoor
open Go.RowKit Go.Utf Go.Qry
attribute [local go_sem] Oper.semAt_some

theorem has_contains (l : Tks) (x : Tx) (a b : Nat) : hasT l x ((a : Int) + (b : Int)) = l.contains (x, a + b) := by
  unfold hasT
  rw [Bool.eq_iff_iff, List.any_eq_true, List.contains_iff_mem]
  constructor
  · rintro ⟨⟨c, d⟩, h1, h2⟩
    simp only [Bool.and_eq_true, decide_eq_true_eq] at h2
    obtain ⟨rfl, h3⟩ := h2
    obtain rfl : d = a + b := by omega
    exact h1
  · intro h
    exact ⟨_, h, by simp⟩
def headT (p : Tks) : Tx := (p.head?.map Prod.fst).getD []
theorem headT_get (p : Tks) (h : 0 < p.length) : headT p = p[0].1 := by
  cases p with
  | nil => simp at h
  | cons x p => rfl
def isAt (p l : Tks) (t : Tx × Nat) (k : Nat) : Bool := decide (t.1 = headT p) && ((p.take k).drop 1).all fun x => l.contains (x.1, t.2 + x.2)
theorem isAt_one (p l : Tks) (t : Tx × Nat) : isAt p l t 1 = decide (t.1 = headT p) := by
  unfold isAt
  rw [List.drop_of_length_le (by rw [List.length_take]; omega), List.all_nil, Bool.and_true]
theorem isAt_snoc (p l : Tks) (t : Tx × Nat) (k : Nat) (h : k < p.length) (hk : 1 ≤ k) : isAt p l t (k + 1) = (isAt p l t k && hasT l p[k].1 ((t.2 : Int) + (p[k].2 : Int))) := by
  unfold isAt
  rw [List.take_add_one, List.getElem?_eq_getElem h, List.drop_append_of_le_length (by rw [List.length_take]; omega), List.all_append, has_contains, Bool.and_assoc]
  simp
theorem isAt_end (p l : Tks) (t : Tx × Nat) : isAt p l t p.length = oneB p l t := by
  unfold isAt oneB
  rw [List.take_of_length_le (Nat.le_refl _), List.drop_one]
  rfl
theorem isAt_no (p l : Tks) (t : Tx × Nat) (k : Nat) (h : isAt p l t k = false) : oneB p l t = false := by
  rw [← isAt_end]
  unfold isAt at *
  rw [List.take_of_length_le (Nat.le_refl _)]
  rw [Bool.and_eq_false_iff] at *
  rcases h with h | h
  · exact .inl h
  · refine .inr ?_
    rw [List.all_eq_false] at *
    obtain ⟨x, h1, h2⟩ := h
    refine ⟨x, ?_, h2⟩
    rw [List.drop_take] at h1
    exact List.mem_of_mem_take h1
theorem count_num (p l : Tks) (h : p ≠ []) : countN p l = numT (oneB p l) l := by
  unfold countN; rw [if_neg h]; rfl
/-- A phrase's tokens, by their numbers. -/
def ptT (p : Tks) (k : Nat) : Tx := (p[k]?.getD ([], 0)).1
def ppT (p : Tks) (k : Nat) : Nat := (p[k]?.getD ([], 0)).2
theorem pt_get (p : Tks) (k : Nat) (h : k < p.length) : ptT p k = p[k].1 ∧ ppT p k = p[k].2 := by
  unfold ptT ppT; rw [List.getElem?_eq_getElem h]; exact ⟨rfl, rfl⟩
theorem pt_step (p l : Tks) (t : Tx × Nat) (k : Nat) (h : k < p.length) (hk : 1 ≤ k) : isAt p l t (k + 1) = (isAt p l t k && hasT l (ptT p k) ((t.2 : Int) + (ppT p k : Int))) := by
  rw [(pt_get p k h).1, (pt_get p k h).2]; exact isAt_snoc p l t k h hk
theorem pt_cells {w : World} {oa : Option Addr} {p : Tks} (hp0 : 0 < p.length) (h : ∀ i (hi : i < p.length), ∃ b off, oa = some ⟨b, off, none⟩ ∧ b < w.heap.size ∧ w.cell? ⟨b, off + i * 2, none⟩ = some (.string (B p[i].1)) ∧ w.cell? ⟨b, off + i * 2 + 1, none⟩ = some (.int .i64 (p[i].2 : Nat))) :
    ∃ b off, oa = some ⟨b, off, none⟩ ∧ b < w.heap.size ∧ ∀ i, i < p.length → w.cell? ⟨b, off + i * 2, none⟩ = some (.string (B (ptT p i))) ∧ w.cell? ⟨b, off + i * 2 + 1, none⟩ = some (.int .i64 (ppT p i : Nat)) := by
  obtain ⟨b, off, e, hb, -, -⟩ := h 0 hp0
  refine ⟨b, off, e, hb, fun i hi => ?_⟩
  obtain ⟨b', off', e', -, h1, h2⟩ := h i hi
  rw [e] at e'
  simp only [Option.some.injEq, Addr.mk.injEq, and_true] at e'
  obtain ⟨rfl, rfl⟩ := e'
  rw [(pt_get p i hi).1, (pt_get p i hi).2]
  exact ⟨h1, h2⟩
end Go.Proofs.YtlfhgmclnapmjaaGreatDoor
namespace Go.Proofs.YtlfhgmclnapmjaaGreatDoor
open Go.RowKit Go.Utf Go.Qry
attribute [local go_sem] Oper.semAt_some

theorem short_text {q : Qy} (h : shortB q = true) : q.text.length ≤ 1000 := by
  rw [shortB_eq, Bool.and_eq_true, decide_eq_true_eq] at h; exact h.1
theorem shortR_mem {l : List Qy} (h : shortR l = true) : l.length ≤ 1200 ∧ ∀ k ∈ l, shortB k = true := by
  unfold shortR at h
  rw [Bool.and_eq_true, decide_eq_true_eq, List.all_eq_true] at h; exact h
theorem short_lists {q : Qy} (h : shortB q = true) : shortR q.must = true ∧ shortR q.should = true ∧ shortR q.nots = true := by
  rw [shortB_eq, Bool.and_eq_true, Bool.and_eq_true, Bool.and_eq_true] at h; exact h.2
theorem allQ_snoc (l : List Qy) (f : Qy → Bool) (k : Nat) (h : k < l.length) : (l.take (k + 1)).all f = ((l.take k).all f && f l[k]) := by
  rw [List.take_add_one, List.getElem?_eq_getElem h, List.all_append]
  simp
theorem anyQ_snoc (l : List Qy) (f : Qy → Bool) (k : Nat) (h : k < l.length) : (l.take (k + 1)).any f = ((l.take k).any f || f l[k]) := by
  rw [List.take_add_one, List.getElem?_eq_getElem h, List.any_append]
  simp
theorem anyQ_hit (l : List Qy) (f : Qy → Bool) (k : Nat) (h : k < l.length) (h1 : f l[k] = true) : l.any f = true := by
  rw [List.any_eq_true]
  exact ⟨l[k], List.getElem_mem h, h1⟩
theorem allQ_no (l : List Qy) (f : Qy → Bool) (k : Nat) (h : k < l.length) (h1 : f l[k] = false) : l.all f = false := by
  rw [List.all_eq_false]
  exact ⟨l[k], List.getElem_mem h, by rw [h1]; simp⟩
theorem bool_no1 {l : Tks} {a b c : List Qy} (h : a.all (matB l) = false) : boolM l a b c = false := by unfold boolM; rw [h]; rfl
theorem bool_no2 {l : Tks} {a b c : List Qy} (h : c.any (matB l) = true) : boolM l a b c = false := by unfold boolM; rw [h]; simp
theorem bool_yes {l : Tks} {a b c : List Qy} (h1 : a.all (matB l) = true) (h2 : c.any (matB l) = false) (h : 0 < a.length ∨ b.length = 0 ∨ b.any (matB l) = true) : boolM l a b c = true := by
  unfold boolM
  rw [h1, h2]
  rcases h with h | h | h
  · rw [decide_eq_true h]; simp
  · rw [decide_eq_true h]; simp
  · rw [h]; simp
theorem bool_no3 {l : Tks} {a b c : List Qy} (h : ¬ 0 < a.length) (h2 : ¬ b.length = 0) (h3 : b.any (matB l) = false) : boolM l a b c = false := by
  unfold boolM
  rw [decide_eq_false h, decide_eq_false h2, h3]; simp
theorem Toks.take {w : World} {oa : Option Addr} {c : Nat} {l : Tks} (h : Toks w (.slice oa l.length c) l) (k : Nat) (hk : k ≤ l.length) : Toks w (.slice oa k c) (l.take k) := by
  obtain ⟨oa', c', e, hc⟩ := h
  simp only [Value.slice.injEq, true_and] at e
  obtain ⟨rfl, rfl⟩ := e
  have hlen : (l.take k).length = k := by rw [List.length_take]; omega
  refine ⟨oa, c, by rw [hlen], fun i hi => ?_⟩
  have hi' : i < l.length := by omega
  have := hc i hi'
  rw [List.getElem_take]
  exact this
theorem phrase_pos (t : Tx) (ht : t.length ≤ 1000000) : ∀ x ∈ phraseL t, x.2 ≤ 1000000 := by
  intro x hx
  obtain ⟨i, hi, rfl⟩ := List.mem_iff_getElem.1 hx
  rw [phrase_get]
  have := token_pos t ht i (by rwa [phrase_length] at hi)
  simp only
  omega
theorem phrase_len (t : Tx) (ht : t.length ≤ 1000000) : (phraseL t).length ≤ 1000000 := by
  rw [phrase_length]
  have := tokens_count (B t) (by rw [size_B]; exact ht)
  rwa [L_B] at this
theorem mat_two (l : Tks) (q : Qy) (h : q.kind = 2) : (phraseL q.text = [] → matB l q = false) ∧ (phraseL q.text ≠ [] → matB l q = decide (0 < countN ((phraseL q.text).take 1) l)) := by
  rw [matB_eq, if_neg (by omega), if_pos h]
  constructor
  · intro e; rw [e]; rfl
  · intro e
    rw [count_stands (fun hz => by rw [List.getElem_take]; exact phrase_first _ _), decide_eq_true e, decide_eq_true (by cases hp : phraseL q.text with | nil => exact absurd hp e | cons x xs => simp)]
theorem mat_three (l : Tks) (q : Qy) (h : q.kind = 3) : matB l q = decide (0 < countN (phraseL q.text) l) := by
  rw [matB_eq, if_neg (by omega), if_neg (by omega), if_pos h, count_stands (fun hz => phrase_first _ _)]
theorem mat_four (l : Tks) (q : Qy) (h : q.kind = 4) : matB l q = decide (0 < beginsN (foldL q.text) l) := by
  rw [matB_eq, if_neg (by omega), if_neg (by omega), if_neg (by omega), if_pos h, begins_pref]
theorem mat_five (l : Tks) (q : Qy) (h : q.kind = 5) : matB l q = boolM l q.must q.should q.nots := by
  rw [matB_eq, if_neg (by omega), if_neg (by omega), if_neg (by omega), if_neg (by omega), if_pos h]
theorem mat_one (l : Tks) (q : Qy) (h : q.kind = 1) : matB l q = true := by rw [matB_eq, if_pos h]
theorem mat_none (l : Tks) (q : Qy) (h1 : q.kind ≠ 1) (h2 : q.kind ≠ 2) (h3 : q.kind ≠ 3) (h4 : q.kind ≠ 4) (h5 : q.kind ≠ 5) : matB l q = false := by
  rw [matB_eq, if_neg h1, if_neg h2, if_neg h3, if_neg h4, if_neg h5]
end Go.Proofs.YtlfhgmclnapmjaaGreatDoor
