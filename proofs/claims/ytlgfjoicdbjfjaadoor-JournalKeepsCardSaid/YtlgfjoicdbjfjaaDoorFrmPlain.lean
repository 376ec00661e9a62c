/- The plain functions of chapter 3 (frames) and their laws; no program in sight. No conditions. -/
import Derived.Test.YtlgfjoicdbjfjaaDoorWirePlain
import Derived.Test.YtlgfjoicdbjfjaaDoorBlkPlain
namespace Go.Frm
open Go.Wir Go.Blk

/-- The number that stands at a place of a text. -/
def numAt (s : Txt) (i : Nat) : Nat := (s.getD i 0).toNat + 256 * (s.getD (i + 1) 0).toNat + 65536 * (s.getD (i + 2) 0).toNat + 16777216 * (s.getD (i + 3) 0).toNat
theorem getD_take (s : Txt) (i k : Nat) (h : i < k) : (s.take k).getD i 0 = s.getD i 0 := by
  simp [List.getD_eq_getElem?_getD, h]
theorem getD_drop (s : Txt) (i k : Nat) : (s.drop k).getD i 0 = s.getD (k + i) 0 := by simp [List.getD_eq_getElem?_getD, List.getElem?_drop]
theorem getD_right (a b : Txt) (i : Nat) : (a ++ b).getD (a.length + i) 0 = b.getD i 0 := by
  simp [List.getD_eq_getElem?_getD, List.getElem?_append_right]
theorem numAt_take (s : Txt) (i k : Nat) (h : i + 4 ≤ k) : numAt (s.take k) i = numAt s i := by
  unfold numAt; rw [getD_take _ _ _ (by omega), getD_take _ _ _ (by omega), getD_take _ _ _ (by omega), getD_take _ _ _ (by omega)]
theorem numAt_drop (s : Txt) (i k : Nat) : numAt (s.drop k) i = numAt s (k + i) := by
  unfold numAt; rw [getD_drop, getD_drop, getD_drop, getD_drop]; rfl
theorem numAt_right (a b : Txt) (i : Nat) : numAt (a ++ b) (a.length + i) = numAt b i := by
  unfold numAt
  rw [getD_right, show a.length + i + 1 = a.length + (i + 1) by omega, show a.length + i + 2 = a.length + (i + 2) by omega, show a.length + i + 3 = a.length + (i + 3) by omega, getD_right, getD_right, getD_right]
theorem numAt_fixed (n : Nat) (r : Txt) (h : n < 4294967296) : numAt (fixedL n ++ r) 0 = n := by
  unfold numAt fixedL
  simp only [List.cons_append, List.nil_append, List.getD_cons_zero, List.getD_cons_succ]
  rw [ofNat_toNat _ (by omega), ofNat_toNat _ (by omega), ofNat_toNat _ (by omega), ofNat_toNat _ (by omega)]
  omega
theorem numAt_lt (s : Txt) (i : Nat) : numAt s i < 4294967296 := by
  unfold numAt
  have h0 := (s.getD i 0).toNat_lt
  have h1 := (s.getD (i + 1) 0).toNat_lt
  have h2 := (s.getD (i + 2) 0).toNat_lt
  have h3 := (s.getD (i + 3) 0).toNat_lt
  omega
theorem fixedL_length (n : Nat) : (fixedL n).length = 4 := rfl
theorem fixedL_inj (a b : Nat) (ha : a < 4294967296) (hb : b < 4294967296) (h : fixedL a = fixedL b) : a = b := by
  have h1 := numAt_fixed a [] ha
  have h2 := numAt_fixed b [] hb
  rw [h] at h1; omega
def magicT : Txt := [67, 68, 88, 84]
def endT : Txt := [67, 68, 88, 69]
def nums (l : List Nat) : Txt := l.flatMap fixedL
theorem nums_length (l : List Nat) : (nums l).length = 4 * l.length := by
  induction l with
  | nil => rfl
  | cons a l ih =>
    show (fixedL a ++ nums l).length = _
    rw [List.length_append, ih, fixedL_length, List.length_cons]; omega
theorem nums_append (a b : List Nat) : nums (a ++ b) = nums a ++ nums b := by simp [nums]
/-- A head's front: the magic, the number, how many. -/
def frontT (seq n : Nat) : Txt := magicT ++ fixedL (seq % 4294967296) ++ fixedL (seq / 4294967296) ++ fixedL n
theorem frontT_length (seq n : Nat) : (frontT seq n).length = 16 := rfl
/-- A head without its sum and end. -/
def bodyT (seq : Nat) (l : List Nat) : Txt := frontT seq l.length ++ nums l ++ List.replicate (232 - 4 * l.length) 0
theorem bodyT_length (seq : Nat) (l : List Nat) (h : l.length ≤ 48) : (bodyT seq l).length = 248 := by
  unfold bodyT
  rw [List.length_append, List.length_append, frontT_length, nums_length, List.length_replicate]; omega
def sumT (b : Txt) (data : List Txt) : Txt := fixedL (crc (b ++ data.flatten))
def headT (seq : Nat) (l : List Nat) (data : List Txt) : Txt := bodyT seq l ++ sumT (bodyT seq l) data ++ endT
theorem sumT_length (b : Txt) (data : List Txt) : (sumT b data).length = 4 := rfl
theorem headT_length (seq : Nat) (l : List Nat) (data : List Txt) (h : l.length ≤ 48) : (headT seq l data).length = 256 := by
  unfold headT
  rw [List.length_append, List.length_append, bodyT_length _ _ h, sumT_length]; rfl
theorem headT_take (seq : Nat) (l : List Nat) (data : List Txt) (h : l.length ≤ 48) : (headT seq l data).take 248 = bodyT seq l := by
  unfold headT
  rw [List.append_assoc, List.take_left' (bodyT_length _ _ h)]
theorem headT_sum (seq : Nat) (l : List Nat) (data : List Txt) (h : l.length ≤ 48) : ((headT seq l data).drop 248).take 4 = sumT (bodyT seq l) data := by
  unfold headT
  rw [List.append_assoc, List.drop_left' (bodyT_length _ _ h), List.take_left' (sumT_length _ _)]
theorem headT_end (seq : Nat) (l : List Nat) (data : List Txt) (h : l.length ≤ 48) : (headT seq l data).drop 252 = endT := by
  unfold headT
  rw [List.drop_left' (by rw [List.length_append, bodyT_length _ _ h, sumT_length])]
abbrev Wr := Int × Txt
def badE : List Wr → Nat
  | [] => 0
  | p :: l => if p.1 < 0 ∨ 4096 ≤ p.1 then 2 else if p.2.length ≠ 256 then 3 else badE l
def packE (l : List Wr) : Nat := if l.length = 0 ∨ 48 < l.length then 6 else badE l
def ats (l : List Wr) : List Nat := l.map fun p => p.1.toNat
def datas (l : List Wr) : List Txt := l.map (·.2)
def packT (seq : Nat) (l : List Wr) : List Txt := if packE l = 0 then headT seq (ats l) (datas l) :: datas l else []
/-- Writes that may be. -/
def Fine (l : List Wr) : Prop := ∀ p ∈ l, (0 ≤ p.1 ∧ p.1 < 4096) ∧ p.2.length = 256
theorem badE_fine {l : List Wr} : badE l = 0 ↔ Fine l := by
  induction l with
  | nil => simp [badE, Fine]
  | cons p l ih =>
    unfold badE Fine
    simp only [List.mem_cons, forall_eq_or_imp]
    split
    · simp; omega
    · split
      · rename_i h; simp; intro h1 h2 h3; exact absurd h3 h
      · rename_i h1 h2
        rw [ih]
        simp only [ne_eq, Decidable.not_not] at h2
        exact ⟨fun h => ⟨⟨by omega, h2⟩, h⟩, fun h => h.2⟩
theorem packE_zero {l : List Wr} : packE l = 0 ↔ 0 < l.length ∧ l.length ≤ 48 ∧ Fine l := by
  unfold packE
  split
  · simp; omega
  · rw [badE_fine]; constructor
    · intro h; exact ⟨by omega, by omega, h⟩
    · intro h; exact h.2.2
theorem packT_fine (seq : Nat) {l : List Wr} (h0 : 0 < l.length) (h1 : l.length ≤ 48) (hf : Fine l) : packT seq l = headT seq (ats l) (datas l) :: datas l := by
  unfold packT; rw [if_pos (packE_zero.2 ⟨h0, h1, hf⟩)]
def allZero (s : Txt) : Bool := s.all (· == 0)
def numsAt (s : Txt) (n : Nat) : List Nat := (List.range n).map fun i => numAt s (16 + 4 * i)
theorem numsAt_length (s : Txt) (n : Nat) : (numsAt s n).length = n := by simp [numsAt]
theorem numsAt_succ (s : Txt) (n : Nat) : numsAt s (n + 1) = numsAt s n ++ [numAt s (16 + 4 * n)] := by simp [numsAt, List.range_succ]
def seqAt (s : Txt) : Nat := numAt s 4 + 4294967296 * numAt s 8
def formB (s : Txt) : Bool := decide (s.length = 256) && (decide (s.take 4 = magicT) && decide (s.drop 252 = endT))
def restT (s : Txt) (n : Nat) : Txt := (s.take 248).drop (16 + 4 * n)
def readB (s : Txt) : Bool := formB s && (decide (1 ≤ numAt s 12 ∧ numAt s 12 ≤ 48) && ((numsAt s (numAt s 12)).all (fun b => decide (b < 4096)) && allZero (restT s (numAt s 12))))
/-- What a head says. -/
def readL (s : Txt) : Option (Nat × List Nat) := if readB s then some (seqAt s, numsAt s (numAt s 12)) else none
theorem numsAt_nums (n : Nat) : ∀ (a r : Txt) (l : List Nat) (_ : l.length = n) (_ : a.length = 16) (_ : ∀ x ∈ l, x < 4294967296), numsAt (a ++ (nums l ++ r)) l.length = l := by
  induction n with
  | zero =>
    intro a r l h0 _ _
    obtain rfl : l = [] := List.eq_nil_of_length_eq_zero h0
    rfl
  | succ n ih =>
    intro a r l h0 ha hl
    obtain ⟨l, x, rfl⟩ : ∃ l' x, l = l' ++ [x] := by
      rcases List.eq_nil_or_concat l with h | ⟨l', x, h⟩
      · subst h; simp at h0
      · exact ⟨l', x, by rw [h, List.concat_eq_append]⟩
    rw [List.length_append, List.length_singleton, numsAt_succ, nums_append]
    have h1 := ih a (nums [x] ++ r) l (by simpa using h0) ha (fun y hy => hl y (by simp [hy]))
    rw [List.append_assoc (nums l), h1]
    congr 1
    have e : 16 + 4 * l.length = (a ++ nums l).length + 0 := by rw [List.length_append, ha, nums_length]; omega
    rw [e, ← List.append_assoc, numAt_right]
    rw [show nums [x] = fixedL x ++ [] from rfl, List.append_nil, numAt_fixed x r (hl x (by simp))]
theorem head_parts (seq : Nat) (l : List Nat) (data : List Txt) (hs : seq < 18446744073709551616) (h0 : l.length ≤ 48) : numAt (headT seq l data) 4 = seq % 4294967296 ∧ numAt (headT seq l data) 8 = seq / 4294967296 ∧ numAt (headT seq l data) 12 = l.length := by
  have e : ∃ r, headT seq l data = magicT ++ (fixedL (seq % 4294967296) ++ (fixedL (seq / 4294967296) ++ (fixedL l.length ++ r))) := ⟨_, by unfold headT bodyT frontT; simp only [List.append_assoc]; rfl⟩
  obtain ⟨r, e⟩ := e
  rw [e]
  refine ⟨?_, ?_, ?_⟩
  · have := numAt_right magicT (fixedL (seq % 4294967296) ++ (fixedL (seq / 4294967296) ++ (fixedL l.length ++ r))) 0
    rw [numAt_fixed _ _ (by omega)] at this; exact this
  · have := numAt_right (magicT ++ fixedL (seq % 4294967296)) (fixedL (seq / 4294967296) ++ (fixedL l.length ++ r)) 0
    rw [numAt_fixed _ _ (by omega), List.append_assoc] at this; exact this
  · have := numAt_right (magicT ++ (fixedL (seq % 4294967296) ++ fixedL (seq / 4294967296))) (fixedL l.length ++ r) 0
    rw [numAt_fixed _ _ (by omega), List.append_assoc, List.append_assoc] at this; exact this
theorem head_nums (seq : Nat) (l : List Nat) (data : List Txt) (hl : ∀ x ∈ l, x < 4096) : numsAt (headT seq l data) l.length = l := by
  unfold headT bodyT
  rw [List.append_assoc, List.append_assoc (frontT seq l.length ++ nums l), List.append_assoc (frontT seq l.length)]
  exact numsAt_nums _ _ _ l rfl (frontT_length _ _) (fun x hx => by have := hl x hx; omega)
theorem head_rest (seq : Nat) (l : List Nat) (data : List Txt) (h0 : l.length ≤ 48) : restT (headT seq l data) l.length = List.replicate (232 - 4 * l.length) 0 := by
  unfold restT
  rw [headT_take _ _ _ h0]
  unfold bodyT
  rw [List.drop_left' (by rw [List.length_append, frontT_length, nums_length])]
theorem allZero_rep (n : Nat) : allZero (List.replicate n 0) = true := by simp [allZero]
/-- What a packed head says. -/
theorem readL_head (seq : Nat) (l : List Nat) (data : List Txt) (hs : seq < 18446744073709551616) (h0 : 0 < l.length) (h1 : l.length ≤ 48) (hl : ∀ x ∈ l, x < 4096) : readL (headT seq l data) = some (seq, l) := by
  obtain ⟨e1, e2, e3⟩ := head_parts seq l data hs h1
  have hB : readB (headT seq l data) = true := by
    unfold readB formB
    rw [e3, head_nums _ _ _ hl, head_rest _ _ _ h1, allZero_rep, headT_length _ _ _ h1, headT_end _ _ _ h1]
    rw [show (headT seq l data).take 4 = magicT by unfold headT bodyT frontT; rfl]
    simp only [decide_true, Bool.true_and, Bool.and_true]
    rw [decide_eq_true (by omega), Bool.true_and, List.all_eq_true]
    intro x hx; exact decide_eq_true (hl x hx)
  unfold readL seqAt
  rw [hB, if_pos rfl, e1, e2, e3, head_nums _ _ _ hl]
  congr 2; omega
/-- What some blocks are unpacked to: an error, or the number and the writes. -/
def unpL : List Txt → Except Nat (Nat × List (Nat × Txt))
  | [] => .error 7
  | h :: l => match readL h with
    | none => .error 7
    | some (seq, at') => if l.length < at'.length then .error 7 else if (l.take at'.length).all (fun s => decide (s.length = 256)) then (if (h.drop 248).take 4 = sumT (h.take 248) (l.take at'.length) then .ok (seq, at'.zip (l.take at'.length)) else .error 8) else .error 7
theorem datas_length (l : List Wr) : (datas l).length = l.length := by simp [datas]
theorem ats_length (l : List Wr) : (ats l).length = l.length := by simp [ats]
theorem ats_lt {l : List Wr} (h : Fine l) : ∀ x ∈ ats l, x < 4096 := by
  intro x hx
  obtain ⟨p, hp, rfl⟩ := List.mem_map.1 hx
  have := (h p hp).1; omega
theorem datas_256 {l : List Wr} (h : Fine l) : (datas l).all (fun s => decide (s.length = 256)) = true := by
  rw [List.all_eq_true]
  intro x hx
  obtain ⟨p, hp, rfl⟩ := List.mem_map.1 hx
  exact decide_eq_true (h p hp).2
def natW (l : List Wr) : List (Nat × Txt) := l.map fun p => (p.1.toNat, p.2)
theorem zip_natW (l : List Wr) : (ats l).zip (datas l) = natW l := by
  unfold ats datas natW
  rw [List.zip_map]
  induction l with
  | nil => rfl
  | cons p l ih => simpa using ih
/-- What was packed is unpacked as it was, whatever stands behind. -/
theorem unpL_pack (seq : Nat) (l : List Wr) (more : List Txt) (hs : seq < 18446744073709551616) (h0 : 0 < l.length) (h1 : l.length ≤ 48) (hf : Fine l) : unpL (packT seq l ++ more) = .ok (seq, natW l) := by
  rw [packT_fine seq h0 h1 hf, List.cons_append]
  simp only [unpL]
  rw [readL_head seq (ats l) (datas l) hs (by rw [ats_length]; exact h0) (by rw [ats_length]; exact h1) (ats_lt hf)]
  simp only
  have ht : (datas l ++ more).take (ats l).length = datas l := List.take_left' (by rw [datas_length, ats_length])
  rw [ht, if_neg (by rw [List.length_append, datas_length, ats_length]; omega), datas_256 hf, if_pos rfl, headT_take _ _ _ (by rw [ats_length]; exact h1), headT_sum _ _ _ (by rw [ats_length]; exact h1), if_pos rfl, zip_natW]
/-- A frame that is cut short is none. -/
theorem unpL_short (seq : Nat) (l : List Wr) (k : Nat) (hs : seq < 18446744073709551616) (h0 : 0 < l.length) (h1 : l.length ≤ 48) (hf : Fine l) (hk : k < l.length + 1) : unpL ((packT seq l).take k) = .error 7 := by
  rw [packT_fine seq h0 h1 hf]
  cases k with
  | zero => rfl
  | succ k =>
    rw [List.take_succ_cons]
    simp only [unpL]
    rw [readL_head seq (ats l) (datas l) hs (by rw [ats_length]; exact h0) (by rw [ats_length]; exact h1) (ats_lt hf)]
    simp only
    rw [if_pos (by rw [List.length_take, datas_length, ats_length]; omega)]
/-! one byte turned -/
theorem crc_one (x : Txt) (j : Nat) (c : UInt8) (hj : j < x.length) (hc : c ≠ x[j]) : crc (x.set j c) ≠ crc x := by
  intro h
  have e : x[j] ^^^ (x[j] ^^^ c) = c := by rw [← UInt8.xor_assoc, UInt8.xor_self, UInt8.zero_xor]
  have h1 := le_set x (x[j] ^^^ c) j hj
  rw [e] at h1
  have h2 := crc_burst (x.set j c) x (8 * j) (x[j] ^^^ c).toNat (by simp) (by have := (x[j] ^^^ c).toNat_lt; omega) h1 (.inr (by omega)) h
  have h3 := congrArg (fun l => l[j]?) h2
  simp [hj] at h3
  exact hc h3
theorem set_left (a b : Txt) (j : Nat) (c : UInt8) (h : j < a.length) : (a ++ b).set j c = a.set j c ++ b := List.set_append_left _ _ h
theorem flat_set : ∀ (l : List Txt) (k j : Nat) (c : UInt8) (_ : ∀ s ∈ l, s.length = 256) (hk : k < l.length) (_ : j < 256), (l.set k (l[k].set j c)).flatten = l.flatten.set (256 * k + j) c
  | [], k, _, _, _, hk, _ => by simp at hk
  | s :: l, 0, j, c, hl, _, hj => by
    have := hl s (by simp)
    simp only [List.set_cons_zero, List.flatten_cons, List.getElem_cons_zero]
    rw [Nat.mul_zero, Nat.zero_add, set_left _ _ _ _ (by omega)]
  | s :: l, k + 1, j, c, hl, hk, hj => by
    have h1 := hl s (by simp)
    have ih := flat_set l k j c (fun t ht => hl t (by simp [ht])) (by simpa using hk) hj
    simp only [List.set_cons_succ, List.flatten_cons, List.getElem_cons_succ]
    rw [ih, List.set_append_right _ _ (by omega)]
    congr 2; omega
theorem flatten_length : ∀ (l : List Txt), (∀ s ∈ l, s.length = 256) → l.flatten.length = 256 * l.length
  | [], _ => rfl
  | s :: l, h => by
    rw [List.flatten_cons, List.length_append, h s (by simp), flatten_length l (fun t ht => h t (by simp [ht])), List.length_cons]; omega
theorem flatten_get (l : List Txt) (k j : Nat) (hl : ∀ s ∈ l, s.length = 256) (hk : k < l.length) (hj : j < 256) : l.flatten[256 * k + j]? = l[k][j]? := by
  induction l generalizing k with
  | nil => simp at hk
  | cons s l ih =>
    have h1 := hl s (by simp)
    cases k with
    | zero => simp [List.getElem?_append_left (show j < s.length by omega)]
    | succ k =>
      simp only [List.flatten_cons, List.getElem_cons_succ]
      rw [List.getElem?_append_right (by omega), ← ih k (fun t ht => hl t (by simp [ht])) (by simpa using hk)]
      congr 1; omega
theorem unp_bad (p : List Txt) (h : ∀ seq at', p = [] ∨ (readL (p.getD 0 []) = some (seq, at') → at'.length ≤ p.length - 1 → (∀ s ∈ (p.drop 1).take at'.length, s.length = 256) → ((p.getD 0 []).drop 248).take 4 ≠ sumT ((p.getD 0 []).take 248) ((p.drop 1).take at'.length))) : ∃ e, unpL p = .error e ∧ e ≠ 0 := by
  cases p with
  | nil => exact ⟨7, rfl, by omega⟩
  | cons x l =>
    simp only [unpL]
    cases hr : readL x with
    | none => exact ⟨7, rfl, by omega⟩
    | some q =>
      obtain ⟨seq, at'⟩ := q
      simp only
      split
      · exact ⟨7, rfl, by omega⟩
      · split
        · rename_i h1 h2
          rcases h seq at' with h3 | h3
          · cases h3
          · have h4 := h3 hr (by simp; omega) (by
              intro s hs
              rw [List.all_eq_true] at h2
              exact of_decide_eq_true (h2 s hs))
            simp only [List.getD_cons_zero, List.drop_succ_cons, List.drop_zero] at h4
            rw [if_neg h4]
            exact ⟨8, rfl, by omega⟩
        · exact ⟨7, rfl, by omega⟩
theorem readL_some {s : Txt} {seq : Nat} {at' : List Nat} (h : readL s = some (seq, at')) : s.length = 256 ∧ s.take 4 = magicT ∧ s.drop 252 = endT ∧ at' = numsAt s (numAt s 12) ∧ seq = seqAt s ∧ numAt s 12 ≤ 48 ∧ 1 ≤ numAt s 12 := by
  unfold readL at h
  split at h
  · rename_i hb
    unfold readB formB at hb
    simp only [Bool.and_eq_true, decide_eq_true_eq] at hb
    simp only [Option.some.injEq, Prod.mk.injEq] at h
    exact ⟨hb.1.1, hb.1.2.1, hb.1.2.2, h.2.symm, h.1.symm, hb.2.1.2, hb.2.1.1⟩
  · cases h
theorem numAt_set (s : Txt) (i m : Nat) (c : UInt8) (h : m < i ∨ i + 4 ≤ m) : numAt (s.set m c) i = numAt s i := by
  have e : ∀ j, j ≠ m → (s.set m c).getD j 0 = s.getD j 0 := fun j hj => by simp [List.getD_eq_getElem?_getD, Ne.symm hj]
  unfold numAt
  rw [e i (by omega), e (i + 1) (by omega), e (i + 2) (by omega), e (i + 3) (by omega)]
/-- A frame with one byte turned, but for the number of writes, is refused. -/
theorem unpL_torn (seq : Nat) (l : List Wr) (k m : Nat) (c : UInt8) (hs : seq < 18446744073709551616) (h0 : 0 < l.length) (h1 : l.length ≤ 48) (hf : Fine l) (hk : k < l.length + 1) (hm : m < 256) (x : Txt) (hx : (packT seq l)[k]? = some x) (hne : x[m]? ≠ some c) (hno : ¬ (k = 0 ∧ 12 ≤ m ∧ m < 16)) :
    ∃ e, unpL ((packT seq l).set k (x.set m c)) = .error e ∧ e ≠ 0 := by
  have hal : (ats l).length ≤ 48 := by rw [ats_length]; exact h1
  have hd256 : ∀ s ∈ datas l, s.length = 256 := by
    have := datas_256 hf
    rw [List.all_eq_true] at this
    exact fun s hs => of_decide_eq_true (this s hs)
  rw [packT_fine seq h0 h1 hf] at hx ⊢
  generalize hb : bodyT seq (ats l) = b
  have hbl : b.length = 248 := by rw [← hb, bodyT_length _ _ hal]
  refine unp_bad _ fun seq' at' => .inr ?_
  cases k with
  | zero =>
    simp only [List.getElem?_cons_zero, Option.some.injEq] at hx
    simp only [List.set_cons_zero, List.getD_cons_zero, List.drop_succ_cons, List.drop_zero, List.length_cons]
    intro hr hle h256
    obtain ⟨r1, r2, r3, r4, _, _⟩ := readL_some hr
    have hxl : x.length = 256 := by rw [← hx, headT_length _ _ _ hal]
    have hmx : m < x.length := by omega
    have hcx : c ≠ x[m] := by intro e; exact hne (by rw [List.getElem?_eq_getElem hmx, e])
    have hn : numAt (x.set m c) 12 = l.length := by
      rw [numAt_set _ _ _ _ (by omega), ← hx, (head_parts seq (ats l) (datas l) hs hal).2.2, ats_length]
    have hat : at'.length = l.length := by rw [r4, numsAt_length, hn]
    have htk : (datas l).take at'.length = datas l := List.take_of_length_le (by rw [datas_length]; omega)
    rw [htk]
    have hx248 : x.take 248 = b := by rw [← hx, headT_take _ _ _ hal, hb]
    have hxs : (x.drop 248).take 4 = sumT b (datas l) := by rw [← hx, headT_sum _ _ _ hal, hb]
    by_cases hm1 : m < 248
    · have e1 : (x.set m c).take 248 = b.set m c := by rw [List.take_set, hx248]
      have e2 : ((x.set m c).drop 248).take 4 = sumT b (datas l) := by rw [List.drop_set_of_lt (by omega), hxs]
      rw [e1, e2]
      intro h
      have h5 := fixedL_inj _ _ (crc_lt _) (crc_lt _) h
      rw [← set_left _ _ _ _ (by omega)] at h5
      have hbm : (b ++ (datas l).flatten)[m]'(by rw [List.length_append]; omega) = x[m] := by
        rw [List.getElem_append_left (by omega)]
        simp only [← hx248, List.getElem_take]
      exact crc_one (b ++ (datas l).flatten) m c (by rw [List.length_append]; omega) (by rw [hbm]; exact hcx) h5.symm
    · have e1 : (x.set m c).take 248 = b := by rw [List.take_set_of_le (by omega), hx248]
      rw [e1]
      by_cases hm2 : m < 252
      · intro h
        have h6 : ((x.set m c).drop 248).take 4 = (x.drop 248).take 4 := by rw [h, hxs]
        have h7 := congrArg (fun l => l[m - 248]?) h6
        simp only [List.getElem?_take, List.getElem?_drop, show m - 248 < 4 by omega, if_true, show 248 + (m - 248) = m by omega] at h7
        rw [List.getElem?_set_self hmx] at h7
        exact hne h7.symm
      · exfalso
        have h6 : (x.set m c).drop 252 = x.drop 252 := by rw [r3, ← hx, headT_end _ _ _ hal]
        have h7 := congrArg (fun l => l[m - 252]?) h6
        simp only [List.getElem?_drop, show 252 + (m - 252) = m by omega] at h7
        rw [List.getElem?_set_self hmx] at h7
        exact hne h7.symm
  | succ k =>
    simp only [List.getElem?_cons_succ] at hx
    simp only [List.set_cons_succ, List.getD_cons_zero, List.drop_succ_cons, List.drop_zero, List.length_cons]
    intro hr hle h256
    have hkl : k < (datas l).length := by rw [datas_length]; omega
    rw [readL_head seq (ats l) (datas l) hs (by rw [ats_length]; exact h0) hal (ats_lt hf)] at hr
    simp only [Option.some.injEq, Prod.mk.injEq] at hr
    obtain ⟨_, rfl⟩ := hr
    rw [List.getElem?_eq_getElem hkl, Option.some.injEq] at hx
    have hxl : x.length = 256 := by rw [← hx]; exact hd256 _ (List.getElem_mem hkl)
    rw [List.take_of_length_le (l := (datas l).set k (x.set m c)) (by rw [List.length_set, datas_length, ats_length]; omega), headT_take _ _ _ hal, headT_sum _ _ _ hal, hb]
    intro h
    have h5 := fixedL_inj _ _ (crc_lt _) (crc_lt _) h
    rw [← hx, flat_set (datas l) k m c hd256 hkl hm] at h5
    rw [show b ++ ((datas l).flatten.set (256 * k + m) c) = (b ++ (datas l).flatten).set (248 + (256 * k + m)) c by rw [List.set_append_right _ _ (by omega)]; congr 2; omega] at h5
    have hfl := flatten_length (datas l) hd256
    have hlt : 256 * k + m < (datas l).flatten.length := by rw [hfl]; omega
    have hg := flatten_get (datas l) k m hd256 hkl hm
    refine crc_one (b ++ (datas l).flatten) (248 + (256 * k + m)) c (by rw [List.length_append]; omega) ?_ h5.symm
    intro e
    rw [List.getElem_append_right (by omega)] at e
    simp only [hbl, Nat.add_sub_cancel_left] at e
    rw [List.getElem?_eq_getElem hlt, hx, ← e] at hg
    exact hne hg.symm
end Go.Frm
