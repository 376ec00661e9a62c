/- The plain functions of chapter 10 (runes) and their laws; no program in sight. No conditions. Texts in pieces, folded texts and kinds of runes, plain. No conditions. Kinds of runes, and Fold as the program goes, plain. No conditions. -/
import Derived.Lib.DecodeNEq
import Derived.Lib.RuneBytes
namespace Go.Utf
open Go.Lib

def inB (r a b : Int) : Bool := decide (a ≤ r) && decide (r ≤ b)
def isB (r : Int) : Bool := inB r 0 0x10FFFF && (decide (r < 0xD800) || decide (0xDFFF < r))
/-- A rune made small. -/
def foldN (r : Int) : Int :=
  if 65 ≤ r ∧ r ≤ 90 ∨ 192 ≤ r ∧ r ≤ 222 ∧ r ≠ 215 ∨ 1040 ≤ r ∧ r ≤ 1071 ∨ 913 ≤ r ∧ r ≤ 937 ∧ r ≠ 930 then r + 32
  else if r = 962 then 963
  else if 1024 ≤ r ∧ r ≤ 1039 then r + 80
  else if 256 ≤ r ∧ r ≤ 303 ∨ 330 ≤ r ∧ r ≤ 375 ∨ 1120 ≤ r ∧ r ≤ 1153 ∨ 1162 ≤ r ∧ r ≤ 1215 ∨ 1232 ≤ r ∧ r ≤ 1327 then r + 1 - r % 2
  else if 313 ≤ r ∧ r ≤ 328 ∨ 377 ≤ r ∧ r ≤ 382 then r + r % 2
  else if 1329 ≤ r ∧ r ≤ 1366 then r + 48
  else r
theorem isB_iff (r : Int) : isB r = true ↔ 0 ≤ r ∧ r ≤ 1114111 ∧ (r < 55296 ∨ 57343 < r) := by
  unfold isB inB; simp [and_assoc]
/-- A rune's bytes (of what is none: U+FFFD's). -/
def runeT (r : Int) : List UInt8 := encodeRune r
/-- The first rune of a text, and how many bytes it has; (-1, ..): none. -/
def fixR (d : Nat × Nat) : Int × Nat := if d.1 = 65533 ∧ d.2 < 3 then (-1, d.2) else (d.1, d.2)
def readL (l : List UInt8) : Int × Nat := match l with
  | [] => (-1, 0)
  | _ :: _ => fixR (Utf8.decode ⟨l.toArray⟩ 0)
theorem fixR_no {a b : Nat} (h : ¬ (a = 65533 ∧ b < 3)) : fixR (a, b) = ((a : Int), b) := if_neg h
theorem fixR_bad : fixR (65533, 1) = (-1, 1) := rfl
def nth (l : List UInt8) (i : Nat) : Nat := (l[i]?.getD 0).toNat
theorem nth_lt (l : List UInt8) (i : Nat) : nth l i < 256 := UInt8.toNat_lt _
theorem get!_nth (l : List UInt8) (i : Nat) (hi : i < l.length) : (ByteArray.get! ⟨l.toArray⟩ i).toNat = nth l i := by
  unfold nth
  simp [ByteArray.get!, hi]
theorem dec_nth (l : List UInt8) (_ : l ≠ []) : Utf8.decode ⟨l.toArray⟩ 0 = decodeN l.length (nth l 0) (nth l 1) (nth l 2) (nth l 3) := by
  have key : ∀ i, (ByteArray.get! ⟨l.toArray⟩ i).toNat = nth l i := by
    intro i
    by_cases hi : i < l.length
    · exact get!_nth l i hi
    · unfold nth
      have : l[i]? = none := List.getElem?_eq_none (by omega)
      rw [this]
      simp [ByteArray.get!, getElem!_def, this]; rfl
  rw [decode_at]
  simp only [Nat.zero_add, Nat.sub_zero]
  rw [key 0, key 1, key 2, key 3]
  congr 1
theorem runeT_one {v : Int} (h0 : 0 ≤ v) (h1 : v ≤ 127) : runeT v = [v.toNat.toUInt8] := by
  unfold runeT encodeRune; rw [encodeRuneZ_one h0 h1]; rfl
theorem runeT_two {v : Int} (h0 : 128 ≤ v) (h1 : v ≤ 2047) : runeT v = [(192 + v / 64).toNat.toUInt8, (128 + v % 64).toNat.toUInt8] := by
  unfold runeT encodeRune; rw [encodeRuneZ_two h0 h1]; rfl
theorem runeT_three {v : Int} (h : (2048 ≤ v ∧ v < 55296) ∨ (57343 < v ∧ v ≤ 65535)) : runeT v = [(224 + v / 4096).toNat.toUInt8, (128 + v / 64 % 64).toNat.toUInt8, (128 + v % 64).toNat.toUInt8] := by
  unfold runeT encodeRune; rw [encodeRuneZ_three h]; rfl
theorem runeT_four {v : Int} (h0 : 65536 ≤ v) (h1 : v ≤ 1114111) : runeT v = [(240 + v / 262144).toNat.toUInt8, (128 + v / 4096 % 64).toNat.toUInt8, (128 + v / 64 % 64).toNat.toUInt8, (128 + v % 64).toNat.toUInt8] := by
  unfold runeT encodeRune; rw [encodeRuneZ_four h0 h1]; rfl
theorem isB_cases {v : Int} (h : isB v = true) : (0 ≤ v ∧ v ≤ 127) ∨ (128 ≤ v ∧ v ≤ 2047) ∨ ((2048 ≤ v ∧ v < 55296) ∨ (57343 < v ∧ v ≤ 65535)) ∨ (65536 ≤ v ∧ v ≤ 1114111) := by
  rw [isB_iff] at h; omega
theorem nat_u8 (x : Int) (_ : 0 ≤ x) (h1 : x < 256) : x.toNat.toUInt8.toNat = x.toNat := by
  simp [Nat.toUInt8, UInt8.toNat_ofNat']; omega
theorem nth_cons_zero (a : UInt8) (l : List UInt8) : nth (a :: l) 0 = a.toNat := rfl
theorem nth_cons_succ (a : UInt8) (l : List UInt8) (i : Nat) : nth (a :: l) (i + 1) = nth l i := rfl
/-- (F1) A rune that was written is read as it was, whatever stands behind it. -/
theorem read_rune {v : Int} (hv : isB v = true) (t : List UInt8) : readL (runeT v ++ t) = (v, (runeT v).length) := by
  rcases isB_cases hv with ⟨h0, h1⟩ | ⟨h0, h1⟩ | h | ⟨h0, h1⟩
  · rw [runeT_one h0 h1]
    have e := dec_nth (v.toNat.toUInt8 :: t) (by simp)
    simp only [nth_cons_zero, nth_cons_succ, nat_u8 v (by omega) (by omega)] at e
    have e2 : decodeN (v.toNat.toUInt8 :: t).length v.toNat (nth t 0) (nth t 1) (nth t 2) = (v.toNat, 1) := by
      unfold decodeN; rw [if_pos (by omega)]
    rw [e2] at e
    show readL (v.toNat.toUInt8 :: t) = _
    simp only [readL, e]
    rw [fixR_no (by omega)]
    simp; omega
  · rw [runeT_two h0 h1]
    have e := dec_nth ((192 + v / 64).toNat.toUInt8 :: (128 + v % 64).toNat.toUInt8 :: t) (by simp)
    simp only [nth_cons_zero, nth_cons_succ, nat_u8 (192 + v / 64) (by omega) (by omega), nat_u8 (128 + v % 64) (by omega) (by omega)] at e
    have e2 : ∀ n b2 b3, 2 ≤ n → decodeN n (192 + v / 64).toNat (128 + v % 64).toNat b2 b3 = (v.toNat, 2) := by
      intro n b2 b3 hn
      unfold decodeN
      rw [if_neg (by omega), if_pos (by omega), if_pos (by omega)]
      congr 1; omega
    rw [e2 _ _ _ (by simp)] at e
    show readL (_ :: _ :: t) = _
    simp only [readL, e]
    rw [fixR_no (by omega)]
    simp; omega
  · rw [runeT_three h]
    have e := dec_nth ((224 + v / 4096).toNat.toUInt8 :: (128 + v / 64 % 64).toNat.toUInt8 :: (128 + v % 64).toNat.toUInt8 :: t) (by simp)
    simp only [nth_cons_zero, nth_cons_succ, nat_u8 (224 + v / 4096) (by omega) (by omega), nat_u8 (128 + v / 64 % 64) (by omega) (by omega), nat_u8 (128 + v % 64) (by omega) (by omega)] at e
    have e2 : ∀ n b3, 3 ≤ n → decodeN n (224 + v / 4096).toNat (128 + v / 64 % 64).toNat (128 + v % 64).toNat b3 = (v.toNat, 3) := by
      intro n b3 hn
      unfold decodeN
      rw [if_neg (by omega), if_neg (by omega), if_pos (by omega), if_pos (by omega)]
      congr 1; omega
    rw [e2 _ _ (by simp)] at e
    show readL (_ :: _ :: _ :: t) = _
    simp only [readL, e]
    rw [fixR_no (by omega)]
    simp; omega
  · rw [runeT_four h0 h1]
    have e := dec_nth ((240 + v / 262144).toNat.toUInt8 :: (128 + v / 4096 % 64).toNat.toUInt8 :: (128 + v / 64 % 64).toNat.toUInt8 :: (128 + v % 64).toNat.toUInt8 :: t) (by simp)
    simp only [nth_cons_zero, nth_cons_succ, nat_u8 (240 + v / 262144) (by omega) (by omega), nat_u8 (128 + v / 4096 % 64) (by omega) (by omega), nat_u8 (128 + v / 64 % 64) (by omega) (by omega), nat_u8 (128 + v % 64) (by omega) (by omega)] at e
    have e2 : ∀ n, 4 ≤ n → decodeN n (240 + v / 262144).toNat (128 + v / 4096 % 64).toNat (128 + v / 64 % 64).toNat (128 + v % 64).toNat = (v.toNat, 4) := by
      intro n hn
      unfold decodeN
      rw [if_neg (by omega), if_neg (by omega), if_neg (by omega), if_pos (by omega), if_pos (by omega)]
      congr 1; omega
    rw [e2 _ (by simp)] at e
    show readL (_ :: _ :: _ :: _ :: t) = _
    simp only [readL, e]
    rw [fixR_no (by omega)]
    simp; omega
theorem u8_of (b : UInt8) (x : Int) (h : x.toNat = b.toNat) : x.toNat.toUInt8 = b := by
  apply UInt8.toNat_inj.1
  rw [h]; simp [Nat.toUInt8]
theorem dec_cases (n b0 b1 b2 b3 : Nat) (_ : b0 < 256) (_ : b1 < 256) (_ : b2 < 256) (_ : b3 < 256) :
    decodeN n b0 b1 b2 b3 = (65533, 1) ∨ (b0 < 128 ∧ decodeN n b0 b1 b2 b3 = (b0, 1)) ∨
    (∃ c, decodeN n b0 b1 b2 b3 = (c, 2) ∧ 128 ≤ c ∧ c ≤ 2047 ∧ b0 = 192 + c / 64 ∧ b1 = 128 + c % 64 ∧ 1 < n) ∨
    (∃ c, decodeN n b0 b1 b2 b3 = (c, 3) ∧ 2048 ≤ c ∧ c ≤ 65535 ∧ (c < 55296 ∨ 57343 < c) ∧ b0 = 224 + c / 4096 ∧ b1 = 128 + c / 64 % 64 ∧ b2 = 128 + c % 64 ∧ 2 < n) ∨
    (∃ c, decodeN n b0 b1 b2 b3 = (c, 4) ∧ 65536 ≤ c ∧ c ≤ 1114111 ∧ b0 = 240 + c / 262144 ∧ b1 = 128 + c / 4096 % 64 ∧ b2 = 128 + c / 64 % 64 ∧ b3 = 128 + c % 64 ∧ 3 < n) := by
  unfold decodeN
  split
  · rename_i h1
    exact .inr (.inl ⟨h1, rfl⟩)
  · split
    · split
      · exact .inr (.inr (.inl ⟨_, rfl, by omega, by omega, by omega, by omega, by omega⟩))
      · exact .inl rfl
    · split
      · split
        · exact .inr (.inr (.inr (.inl ⟨_, rfl, by omega, by omega, by omega, by omega, by omega, by omega, by omega⟩)))
        · exact .inl rfl
      · split
        · split
          · exact .inr (.inr (.inr (.inr ⟨_, rfl, by omega, by omega, by omega, by omega, by omega, by omega, by omega⟩)))
          · exact .inl rfl
        · exact .inl rfl
theorem nth_get {l : List UInt8} {i : Nat} (h : i < l.length) : nth l i = l[i].toNat := by unfold nth; simp [h]
theorem u8_nat (b : UInt8) (x : Int) (h0 : 0 ≤ x) (h : (b.toNat : Int) = x) : x.toNat.toUInt8 = b := u8_of b x (by omega)
theorem read_none_of {l : List UInt8} (h : l ≠ []) (e : decodeN l.length (nth l 0) (nth l 1) (nth l 2) (nth l 3) = (65533, 1)) : readL l = (-1, 1) := by
  cases l with
  | nil => exact absurd rfl h
  | cons b l => simp only [readL, dec_nth (b :: l) h, e, fixR_bad]
theorem read_some_of {l : List UInt8} (h : l ≠ []) {c k : Nat} (e : decodeN l.length (nth l 0) (nth l 1) (nth l 2) (nth l 3) = (c, k)) (hk : ¬ (c = 65533 ∧ k < 3)) : readL l = ((c : Int), k) := by
  cases l with
  | nil => exact absurd rfl h
  | cons b l => simp only [readL, dec_nth (b :: l) h, e, fixR_no hk]
/-- (F2, F3) What is read of a text that is not empty: nothing, of one byte; or a rune, whose bytes stand there. -/
theorem read_cases {l : List UInt8} (h : l ≠ []) : readL l = (-1, 1) ∨ ∃ (v : Int) (n : Nat), readL l = (v, n) ∧ isB v = true ∧ n = (runeT v).length ∧ l = runeT v ++ l.drop n := by
  obtain ⟨d, hd⟩ : ∃ d, decodeN l.length (nth l 0) (nth l 1) (nth l 2) (nth l 3) = d := ⟨_, rfl⟩
  rcases dec_cases l.length (nth l 0) (nth l 1) (nth l 2) (nth l 3) (nth_lt _ _) (nth_lt _ _) (nth_lt _ _) (nth_lt _ _) with e | ⟨h1, e⟩ | ⟨c, e, h1, h2, h3, h4, h5⟩ | ⟨c, e, h1, h2, h3, h4, h5, h6, h7⟩ | ⟨c, e, h1, h2, h3, h4, h5, h6, h7⟩
  · exact .inl (read_none_of h e)
  · refine .inr ⟨_, _, read_some_of h e (by omega), (isB_iff _).2 (by omega), by rw [runeT_one (by omega) (by omega)]; rfl, ?_⟩
    rw [runeT_one (by omega) (by omega)]
    match l, h, h1 with
    | b0 :: l, _, h1 => rw [nth_cons_zero, u8_nat b0 _ (by omega) rfl]; rfl
  · refine .inr ⟨_, _, read_some_of h e (by omega), (isB_iff _).2 (by omega), by rw [runeT_two (by omega) (by omega)]; rfl, ?_⟩
    rw [runeT_two (by omega) (by omega)]
    clear e hd
    match l, h3, h4, h5 with
    | [], _, _, h5 => simp at h5
    | [_], _, _, h5 => simp at h5
    | b0 :: b1 :: l, h3, h4, _ =>
      simp only [nth_cons_succ, nth_cons_zero] at h3 h4
      rw [u8_nat b0 _ (by omega) (by omega), u8_nat b1 _ (by omega) (by omega)]; rfl
  · refine .inr ⟨_, _, read_some_of h e (by omega), (isB_iff _).2 (by omega), by rw [runeT_three (by omega)]; rfl, ?_⟩
    rw [runeT_three (by omega)]
    clear e hd
    match l, h4, h5, h6, h7 with
    | [], _, _, _, h5 => simp at h5
    | [_], _, _, _, h5 => simp at h5
    | [_, _], _, _, _, h5 => simp at h5
    | b0 :: b1 :: b2 :: l, h4, h5, h6, _ =>
      simp only [nth_cons_succ, nth_cons_zero] at h4 h5 h6
      rw [u8_nat b0 _ (by omega) (by omega), u8_nat b1 _ (by omega) (by omega), u8_nat b2 _ (by omega) (by omega)]; rfl
  · refine .inr ⟨_, _, read_some_of h e (by omega), (isB_iff _).2 (by omega), by rw [runeT_four (by omega) (by omega)]; rfl, ?_⟩
    rw [runeT_four (by omega) (by omega)]
    clear e hd
    match l, h3, h4, h5, h6, h7 with
    | [], _, _, _, _, h5 => simp at h5
    | [_], _, _, _, _, h5 => simp at h5
    | [_, _], _, _, _, _, h5 => simp at h5
    | [_, _, _], _, _, _, _, h5 => simp at h5
    | b0 :: b1 :: b2 :: b3 :: l, h3, h4, h5, h6, _ =>
      simp only [nth_cons_succ, nth_cons_zero] at h3 h4 h5 h6
      rw [u8_nat b0 _ (by omega) (by omega), u8_nat b1 _ (by omega) (by omega), u8_nat b2 _ (by omega) (by omega), u8_nat b3 _ (by omega) (by omega)]; rfl
end Go.Utf
namespace Go.Utf
open Go.Lib

theorem runeT_ne (v : Int) : runeT v ≠ [] := by
  intro h
  have := (encodeRuneZ_length v).1
  have h2 := congrArg List.length h
  simp [runeT, encodeRune] at h2
  rw [h2] at this; simp at this
theorem runeT_length (v : Int) : 1 ≤ (runeT v).length ∧ (runeT v).length ≤ 4 := by
  have := encodeRuneZ_length v
  simpa [runeT, encodeRune] using this
theorem readL_pos {l : List UInt8} (h : l ≠ []) : 1 ≤ (readL l).2 := by
  rcases read_cases h with e | ⟨v, n, e, hv, hn, _⟩
  · rw [e]; decide
  · rw [e]; have := runeT_length v; simp only; omega
theorem readL_le {l : List UInt8} (h : l ≠ []) : (readL l).2 ≤ l.length := by
  rcases read_cases h with e | ⟨v, n, e, hv, hn, h2⟩
  · rw [e]
    cases l with
    | nil => exact absurd rfl h
    | cons b l => simp
  · rw [e]
    have := congrArg List.length h2
    simp at this
    simp only; omega
theorem readL_is {l : List UInt8} (h : l ≠ []) : (readL l).1 = -1 ∨ isB (readL l).1 = true := by
  rcases read_cases h with e | ⟨v, n, e, hv, hn, _⟩
  · rw [e]; exact .inl rfl
  · rw [e]; exact .inr hv

/-- A text in pieces: each a rune (-1: none) and its bytes. -/
def chunks (l : List UInt8) : List (Int × List UInt8) :=
  if _ : l = [] then [] else ((readL l).1, l.take (readL l).2) :: chunks (l.drop (readL l).2)
termination_by l.length
decreasing_by
  rename_i h
  have := readL_pos h
  cases l with
  | nil => exact absurd rfl h
  | cons b l => simp only [List.length_drop, List.length_cons]; omega
theorem chunks_nil : chunks [] = [] := by unfold chunks; rfl
theorem chunks_cons {l : List UInt8} (h : l ≠ []) : chunks l = ((readL l).1, l.take (readL l).2) :: chunks (l.drop (readL l).2) := by
  rw [chunks, dif_neg h]
/-- A piece is a rune with its bytes, or one byte that is none. -/
def Piece (c : Int × List UInt8) : Prop := (c.1 = -1 ∧ ∃ b, c.2 = [b]) ∨ (isB c.1 = true ∧ c.2 = runeT c.1)
theorem take_rune {l : List UInt8} {v : Int} {n : Nat} (hn : n = (runeT v).length) (h : l = runeT v ++ l.drop n) : l.take n = runeT v := by
  rw [h, hn, List.take_left]
theorem piece_first {l : List UInt8} (h : l ≠ []) : Piece ((readL l).1, l.take (readL l).2) := by
  rcases read_cases h with e | ⟨v, n, e, hv, hn, h2⟩
  · rw [e]
    cases l with
    | nil => exact absurd rfl h
    | cons b l => exact .inl ⟨rfl, b, rfl⟩
  · rw [e]; exact .inr ⟨hv, take_rune hn h2⟩
theorem byLength {P : List UInt8 → Prop} (h : ∀ l, (∀ m : List UInt8, m.length < l.length → P m) → P l) : ∀ l, P l := by
  intro l
  have : ∀ n (l : List UInt8), l.length = n → P l := by
    intro n
    induction n using Nat.strongRecOn with
    | _ n ih => intro l hl; exact h l fun m hm => ih m.length (by omega) m rfl
  exact this _ l rfl
theorem drop_lt {l : List UInt8} (h : l ≠ []) : (l.drop (readL l).2).length < l.length := by
  have := readL_pos h
  cases l with
  | nil => exact absurd rfl h
  | cons b l => simp only [List.length_drop, List.length_cons]; omega
theorem chunks_pieces : ∀ l, ∀ c ∈ chunks l, Piece c := by
  apply byLength
  intro l ih c hc
  by_cases h : l = []
  · subst h; rw [chunks_nil] at hc; cases hc
  · rw [chunks_cons h] at hc
    rcases List.mem_cons.1 hc with rfl | hc
    · exact piece_first h
    · exact ih _ (drop_lt h) c hc
/-- The pieces, one behind the other, are the text. -/
def joinC (cs : List (Int × List UInt8)) : List UInt8 := (cs.map (·.2)).flatten
theorem joinC_cons (c : Int × List UInt8) (cs : List (Int × List UInt8)) : joinC (c :: cs) = c.2 ++ joinC cs := rfl
theorem joinC_append (a b : List (Int × List UInt8)) : joinC (a ++ b) = joinC a ++ joinC b := by simp [joinC]
theorem chunks_join : ∀ l, joinC (chunks l) = l := by
  apply byLength
  intro l ih
  by_cases h : l = []
  · subst h; rw [chunks_nil]; rfl
  · rw [chunks_cons h, joinC_cons, ih _ (drop_lt h)]
    exact List.take_append_drop _ _
theorem chunks_rune {v : Int} (hv : isB v = true) (t : List UInt8) : chunks (runeT v ++ t) = (v, runeT v) :: chunks t := by
  have hne : runeT v ++ t ≠ [] := by
    intro h; exact runeT_ne v (List.append_eq_nil_iff.1 h).1
  rw [chunks_cons hne, read_rune hv t]
  simp
theorem chunks_bad {b : UInt8} {t : List UInt8} (h : (readL (b :: t)).1 < 0) : chunks (b :: t) = (-1, [b]) :: chunks t := by
  have hne : b :: t ≠ [] := by simp
  rw [chunks_cons hne]
  rcases read_cases hne with e | ⟨v, n, e, hv, _⟩
  · rw [e]; rfl
  · rw [e] at h; rw [isB_iff] at hv; simp only at h; omega

/-! A byte that goes on a rune. -/
def contB (b : UInt8) : Bool := decide (128 ≤ b.toNat) && decide (b.toNat < 192)
theorem cont_of (x : Int) (h0 : 128 ≤ x) (h1 : x < 192) : contB x.toNat.toUInt8 = true := by
  unfold contB; rw [nat_u8 x (by omega) (by omega)]; simp; omega
theorem not_cont_of (x : Int) (h0 : 0 ≤ x) (h1 : x < 256) (h : x < 128 ∨ 192 ≤ x) : contB x.toNat.toUInt8 = false := by
  unfold contB; rw [nat_u8 x (by omega) (by omega)]; simp; omega
/-- A rune's bytes: one that begins, and some that go on. -/
theorem runeT_form {v : Int} (hv : isB v = true) : ∃ b cs, runeT v = b :: cs ∧ contB b = false ∧ ∀ c ∈ cs, contB c = true := by
  rcases isB_cases hv with ⟨h0, h1⟩ | ⟨h0, h1⟩ | h | ⟨h0, h1⟩
  · exact ⟨_, _, runeT_one h0 h1, not_cont_of _ (by omega) (by omega) (by omega), by simp⟩
  · refine ⟨_, _, runeT_two h0 h1, not_cont_of _ (by omega) (by omega) (by omega), ?_⟩
    intro c hc
    simp only [List.mem_cons, List.mem_nil_iff, or_false] at hc
    subst hc; exact cont_of _ (by omega) (by omega)
  · refine ⟨_, _, runeT_three h, not_cont_of _ (by omega) (by omega) (by omega), ?_⟩
    intro c hc
    simp only [List.mem_cons, List.mem_nil_iff, or_false] at hc
    rcases hc with rfl | rfl <;> exact cont_of _ (by omega) (by omega)
  · refine ⟨_, _, runeT_four h0 h1, not_cont_of _ (by omega) (by omega) (by omega), ?_⟩
    intro c hc
    simp only [List.mem_cons, List.mem_nil_iff, or_false] at hc
    rcases hc with rfl | rfl | rfl <;> exact cont_of _ (by omega) (by omega)
/-- Whether a rune begins a text: of its first byte and those behind it that go on alone. -/
theorem takeWhile_all {p : UInt8 → Bool} {a t : List UInt8} (h : ∀ c ∈ a, p c = true) : (a ++ t).takeWhile p = a ++ t.takeWhile p := by
  induction a with
  | nil => rfl
  | cons x a ih =>
    rw [List.cons_append, List.takeWhile_cons, h x (by simp), if_pos rfl, ih fun c hc => h c (by simp [hc])]; rfl
theorem prefix_of_takeWhile {p : UInt8 → Bool} {a t u : List UInt8} (h : ∀ c ∈ a, p c = true) (e : (a ++ t).takeWhile p = u.takeWhile p) : ∃ t', u = a ++ t' := by
  rw [takeWhile_all h] at e
  have h2 := List.takeWhile_append_dropWhile (p := p) (l := u)
  rw [← e, List.append_assoc] at h2
  exact ⟨_, h2.symm⟩
theorem read_bad_of {b : UInt8} {l m : List UInt8} (h : (readL (b :: l)).1 < 0) (e : l.takeWhile contB = m.takeWhile contB) : (readL (b :: m)).1 < 0 := by
  rcases read_cases (l := b :: m) (by simp) with e1 | ⟨v, n, e1, hv, hn, h2⟩
  · rw [e1]; decide
  · exfalso
    obtain ⟨b', cs, h3, h4, h5⟩ := runeT_form hv
    rw [h3, List.cons_append] at h2
    obtain ⟨rfl, h6⟩ := List.cons.inj h2
    rw [h6] at e
    obtain ⟨t', ht⟩ := prefix_of_takeWhile h5 e.symm
    rw [ht, ← List.cons_append, ← h3, read_rune hv] at h
    rw [isB_iff] at hv
    simp only at h; omega

/-! Texts that are folded. -/
def foldC (c : Int × List UInt8) : Int × List UInt8 := if c.1 < 0 then c else (foldN c.1, runeT (foldN c.1))
def foldL (l : List UInt8) : List UInt8 := joinC ((chunks l).map foldC)
def validL (l : List UInt8) : Bool := (chunks l).all fun c => decide (0 ≤ c.1)
theorem fold_is {v : Int} (h : isB v = true) : isB (foldN v) = true := by
  rw [isB_iff] at h ⊢
  unfold foldN
  repeat' split
  all_goals omega
theorem foldL_nil : foldL [] = [] := by unfold foldL; rw [chunks_nil]; rfl
theorem foldL_rune {v : Int} (hv : isB v = true) (t : List UInt8) : foldL (runeT v ++ t) = runeT (foldN v) ++ foldL t := by
  unfold foldL
  rw [chunks_rune hv, List.map_cons, joinC_cons]
  have : ¬ v < 0 := by rw [isB_iff] at hv; omega
  simp [foldC, this]
theorem foldL_bad {b : UInt8} {t : List UInt8} (h : (readL (b :: t)).1 < 0) : foldL (b :: t) = b :: foldL t := by
  unfold foldL
  rw [chunks_bad h, List.map_cons, joinC_cons]
  rfl
/-- By pieces: what holds of the empty text, behind a rune, and behind a byte that is none, holds of each text. -/
theorem byPieces {P : List UInt8 → Prop} (h0 : P []) (h1 : ∀ v t, isB v = true → P t → P (runeT v ++ t)) (h2 : ∀ b t, (readL (b :: t)).1 < 0 → P t → P (b :: t)) : ∀ l, P l := by
  apply byLength
  intro l ih
  cases l with
  | nil => exact h0
  | cons b l =>
    rcases read_cases (l := b :: l) (by simp) with e | ⟨v, n, e, hv, hn, h3⟩
    · exact h2 b l (by rw [e]; decide) (ih l (by simp))
    · rw [h3]
      refine h1 v _ hv (ih _ ?_)
      have := drop_lt (l := b :: l) (by simp)
      rw [e] at this
      exact this
theorem takeWhile_rune {v : Int} (hv : isB v = true) (t : List UInt8) : (runeT v ++ t).takeWhile contB = [] := by
  obtain ⟨b, cs, h3, h4, _⟩ := runeT_form hv
  rw [h3, List.cons_append, List.takeWhile_cons, h4]; rfl
theorem foldL_tw : ∀ l, (foldL l).takeWhile contB = l.takeWhile contB := by
  apply byPieces
  · rw [foldL_nil]
  · intro v t hv _
    rw [foldL_rune hv, takeWhile_rune hv, takeWhile_rune (fold_is hv)]
  · intro b t h ih
    rw [foldL_bad h, List.takeWhile_cons, List.takeWhile_cons, ih]
theorem chunks_fold : ∀ l, chunks (foldL l) = (chunks l).map foldC := by
  apply byPieces
  · rw [foldL_nil, chunks_nil]; rfl
  · intro v t hv ih
    have : ¬ v < 0 := by rw [isB_iff] at hv; omega
    rw [foldL_rune hv, chunks_rune (fold_is hv), chunks_rune hv, ih, List.map_cons]
    simp [foldC, this]
  · intro b t h ih
    rw [foldL_bad h, chunks_bad h, chunks_bad (read_bad_of h (foldL_tw t).symm), ih, List.map_cons]
    rfl
set_option maxRecDepth 100000 in
theorem fold_small : ∀ n : Nat, n < 1400 → foldN (foldN n) = foldN n := by decide +kernel
theorem fold_big {v : Int} (h : v < 0 ∨ 1366 < v) : foldN v = v := by
  unfold foldN
  repeat' split
  all_goals omega
theorem fold_fold (v : Int) : foldN (foldN v) = foldN v := by
  by_cases h : v < 0 ∨ 1366 < v
  · rw [fold_big h, fold_big h]
  · have := fold_small v.toNat (by omega)
    rwa [show ((v.toNat : Nat) : Int) = v by omega] at this
theorem foldC_neg (c : Int × List UInt8) (h : c.1 < 0) : foldC c = c := if_pos h
theorem foldC_nn (c : Int × List UInt8) (h : 0 ≤ c.1) : foldC c = (foldN c.1, runeT (foldN c.1)) := if_neg (by omega)
theorem foldC_foldC (c : Int × List UInt8) (h : Piece c) : foldC (foldC c) = foldC c := by
  rcases h with ⟨h1, _⟩ | ⟨h1, _⟩
  · rw [foldC_neg c (by omega), foldC_neg c (by omega)]
  · have h2 := fold_is h1
    rw [isB_iff] at h1 h2
    rw [foldC_nn c (by omega), foldC_nn _ (by simp only; omega)]
    simp only
    rw [fold_fold]
theorem foldL_foldL (l : List UInt8) : foldL (foldL l) = foldL l := by
  rw [show foldL (foldL l) = joinC ((chunks (foldL l)).map foldC) from rfl, chunks_fold, List.map_map]
  unfold foldL
  congr 1
  apply List.map_congr_left
  intro c hc
  exact foldC_foldC c (chunks_pieces l c hc)
theorem foldC_pos (c : Int × List UInt8) (h : Piece c) : decide (0 ≤ (foldC c).1) = decide (0 ≤ c.1) := by
  rcases h with ⟨h1, _⟩ | ⟨h1, _⟩
  · rw [foldC_neg c (by omega)]
  · have h2 := fold_is h1
    rw [isB_iff] at h1 h2
    rw [foldC_nn c (by omega)]
    simp only
    rw [decide_eq_true (by omega), decide_eq_true (by omega)]
theorem valid_fold (l : List UInt8) : validL (foldL l) = validL l := by
  unfold validL
  rw [chunks_fold, List.all_map]
  have h := chunks_pieces l
  generalize chunks l = cs at h
  induction cs with
  | nil => rfl
  | cons c cs ih =>
    rw [List.all_cons, List.all_cons, ih fun x hx => h x (by simp [hx])]
    simp only [Function.comp_apply]
    rw [foldC_pos c (h c (by simp))]
theorem chunks_append : ∀ l, validL l = true → ∀ t, chunks (l ++ t) = chunks l ++ chunks t := by
  apply byPieces
  · intro _ t; rw [chunks_nil]; rfl
  · intro v t hv ih h u
    unfold validL at h
    rw [chunks_rune hv, List.all_cons] at h
    rw [List.append_assoc, chunks_rune hv, chunks_rune hv, ih (by unfold validL; exact (Bool.and_eq_true_iff.1 h).2)]
    rfl
  · intro b t hb _ h
    unfold validL at h
    rw [chunks_bad hb, List.all_cons] at h
    simp at h
theorem valid_append (l t : List UInt8) (h : validL l = true) : validL (l ++ t) = validL t := by
  unfold validL
  rw [chunks_append l h, List.all_append]
  have : (chunks l).all (fun c => decide (0 ≤ c.1)) = true := h
  rw [this]; simp
end Go.Utf
namespace Go.Utf
open Go.Lib

/-! Kinds. -/
def letterB (r : Int) : Bool :=
  if inB r 65 90 || (inB r 97 122 || (r == 170 || (r == 181 || r == 186))) then true
  else if inB r 192 591 then r != 215 && r != 247
  else if inB r 880 1023 then r != 885 && (r != 894 && (r != 888 && (r != 889 && (!inB r 896 901 && (r != 903 && (r != 907 && (r != 909 && (r != 930 && r != 1014))))))))
  else if inB r 1024 1327 then !inB r 1154 1161
  else inB r 1329 1366 || (inB r 1377 1415 || (inB r 1488 1514 || (inB r 19968 40959 || inB r 44032 55203)))
/-- A rune's kind, by the document. -/
def kindN (r : Int) : Int :=
  if letterB r then 1
  else if inB r 48 57 || (inB r 1632 1641 || inB r 2406 2415) then 2
  else if inB r 9 13 || (r == 32 || (r == 133 || (r == 160 || (inB r 8192 8202 || (r == 8232 || (r == 8233 || r == 12288)))))) then 3
  else 0
def spansT : List (Int × Int × Int) := [(9, 13, 3), (32, 32, 3), (48, 57, 2), (65, 90, 1), (97, 122, 1), (133, 133, 3), (160, 160, 3), (170, 170, 1), (181, 181, 1), (186, 186, 1),
  (192, 214, 1), (216, 246, 1), (248, 591, 1), (880, 884, 1), (886, 887, 1), (890, 893, 1), (895, 895, 1), (902, 902, 1), (904, 906, 1), (908, 908, 1),
  (910, 929, 1), (931, 1013, 1), (1015, 1153, 1), (1162, 1327, 1), (1329, 1366, 1), (1377, 1415, 1), (1488, 1514, 1), (1632, 1641, 2), (2406, 2415, 2), (8192, 8202, 3),
  (8232, 8233, 3), (12288, 12288, 3), (19968, 40959, 1), (44032, 55203, 1)]
/-- A rune's kind, by the program: the first span whose end is not below it. -/
def kindS (r : Int) : Int := match spansT.find? fun s => decide (r ≤ s.2.1) with
  | some s => if s.1 ≤ r then s.2.2 else 0
  | none => 0
set_option maxRecDepth 100000 in
theorem kind_all : ((List.range 25).all fun a => (List.range 100).all fun b => kindS ((100 * a + b : Nat) : Int) == kindN ((100 * a + b : Nat) : Int)) = true := by decide +kernel
theorem kind_small (n : Nat) (h : n < 2500) : kindS n = kindN n := by
  have h1 := List.all_eq_true.1 kind_all (n / 100) (List.mem_range.2 (by omega))
  have h2 := List.all_eq_true.1 h1 (n % 100) (List.mem_range.2 (by omega))
  rw [show 100 * (n / 100) + n % 100 = n by omega] at h2
  exact eq_of_beq h2
theorem inB_no {r a b : Int} (h : r < a ∨ b < r) : inB r a b = false := by unfold inB; simp; omega
theorem inB_yes {r a b : Int} (h1 : a ≤ r) (h2 : r ≤ b) : inB r a b = true := by unfold inB; simp; omega
theorem kindS_neg {r : Int} (h : r < 9) : kindS r = 0 := by
  unfold kindS spansT
  rw [List.find?_cons_of_pos (by simp; omega)]
  simp only
  rw [if_neg (by omega)]
theorem kindS_big {r : Int} (h : 12288 < r) : kindS r = if r ≤ 40959 then (if 19968 ≤ r then 1 else 0) else if r ≤ 55203 then (if 44032 ≤ r then 1 else 0) else 0 := by
  have e : spansT = spansT.take 32 ++ spansT.drop 32 := (List.take_append_drop _ _).symm
  have hn : (spansT.take 32).find? (fun s => decide (r ≤ s.2.1)) = none := by
    rw [List.find?_eq_none]
    intro s hs
    have : ∀ s ∈ spansT.take 32, s.2.1 ≤ 12288 := by decide
    have := this s hs
    simp; omega
  unfold kindS
  rw [e, List.find?_append, hn]
  have hd : spansT.drop 32 = [(19968, 40959, 1), (44032, 55203, 1)] := rfl
  rw [hd]
  by_cases h1 : r ≤ 40959
  · rw [List.find?_cons_of_pos (by simpa using h1), if_pos h1]; rfl
  · rw [List.find?_cons_of_neg (by simpa using h1), if_neg h1]
    by_cases h2 : r ≤ 55203
    · rw [List.find?_cons_of_pos (by simpa using h2), if_pos h2]; rfl
    · rw [List.find?_cons_of_neg (by simpa using h2), if_neg h2]; rfl
theorem ne_b {r a : Int} (h : r ≠ a) : (r == a) = false := by simpa using h
theorem kindN_out {r : Int} (h : r < 9 ∨ 12288 < r) : kindN r = if inB r 19968 40959 || inB r 44032 55203 then 1 else 0 := by
  unfold kindN letterB
  simp only [inB_no (r := r) (a := 65) (b := 90) (by omega), inB_no (r := r) (a := 97) (b := 122) (by omega), inB_no (r := r) (a := 192) (b := 591) (by omega), inB_no (r := r) (a := 880) (b := 1023) (by omega),
    inB_no (r := r) (a := 1024) (b := 1327) (by omega), inB_no (r := r) (a := 1329) (b := 1366) (by omega), inB_no (r := r) (a := 1377) (b := 1415) (by omega), inB_no (r := r) (a := 1488) (b := 1514) (by omega),
    inB_no (r := r) (a := 48) (b := 57) (by omega), inB_no (r := r) (a := 1632) (b := 1641) (by omega), inB_no (r := r) (a := 2406) (b := 2415) (by omega), inB_no (r := r) (a := 9) (b := 13) (by omega), inB_no (r := r) (a := 8192) (b := 8202) (by omega),
    ne_b (r := r) (a := 170) (by omega), ne_b (r := r) (a := 181) (by omega), ne_b (r := r) (a := 186) (by omega), ne_b (r := r) (a := 32) (by omega), ne_b (r := r) (a := 133) (by omega), ne_b (r := r) (a := 160) (by omega),
    ne_b (r := r) (a := 8232) (by omega), ne_b (r := r) (a := 8233) (by omega), ne_b (r := r) (a := 12288) (by omega), Bool.false_or, Bool.or_false, if_false, Bool.false_eq_true]
theorem kindS_mid {r : Int} (h : 2415 < r) (h' : r ≤ 12288) : kindS r = if r ≤ 8202 then (if 8192 ≤ r then 3 else 0) else if r ≤ 8233 then (if 8232 ≤ r then 3 else 0) else (if 12288 ≤ r then 3 else 0) := by
  have e : spansT = spansT.take 29 ++ spansT.drop 29 := (List.take_append_drop _ _).symm
  have hn : (spansT.take 29).find? (fun s => decide (r ≤ s.2.1)) = none := by
    rw [List.find?_eq_none]
    intro s hs
    have : ∀ s ∈ spansT.take 29, s.2.1 ≤ 2415 := by decide
    have := this s hs
    simp; omega
  unfold kindS
  rw [e, List.find?_append, hn]
  have hd : spansT.drop 29 = [(8192, 8202, 3), (8232, 8233, 3), (12288, 12288, 3), (19968, 40959, 1), (44032, 55203, 1)] := rfl
  rw [hd]
  by_cases h1 : r ≤ 8202
  · rw [List.find?_cons_of_pos (by simpa using h1), if_pos h1]; rfl
  · rw [List.find?_cons_of_neg (by simpa using h1), if_neg h1]
    by_cases h2 : r ≤ 8233
    · rw [List.find?_cons_of_pos (by simpa using h2), if_pos h2]; rfl
    · rw [List.find?_cons_of_neg (by simpa using h2), if_neg h2, List.find?_cons_of_pos (by simpa using h')]; rfl
theorem kindN_mid {r : Int} (h : 2415 < r) (h' : r ≤ 12288) : kindN r = if inB r 8192 8202 || (r == 8232 || (r == 8233 || r == 12288)) then 3 else 0 := by
  unfold kindN letterB
  simp only [inB_no (r := r) (a := 65) (b := 90) (by omega), inB_no (r := r) (a := 97) (b := 122) (by omega), inB_no (r := r) (a := 192) (b := 591) (by omega), inB_no (r := r) (a := 880) (b := 1023) (by omega),
    inB_no (r := r) (a := 1024) (b := 1327) (by omega), inB_no (r := r) (a := 1329) (b := 1366) (by omega), inB_no (r := r) (a := 1377) (b := 1415) (by omega), inB_no (r := r) (a := 1488) (b := 1514) (by omega), inB_no (r := r) (a := 19968) (b := 40959) (by omega), inB_no (r := r) (a := 44032) (b := 55203) (by omega),
    inB_no (r := r) (a := 48) (b := 57) (by omega), inB_no (r := r) (a := 1632) (b := 1641) (by omega), inB_no (r := r) (a := 2406) (b := 2415) (by omega), inB_no (r := r) (a := 9) (b := 13) (by omega),
    ne_b (r := r) (a := 170) (by omega), ne_b (r := r) (a := 181) (by omega), ne_b (r := r) (a := 186) (by omega), ne_b (r := r) (a := 32) (by omega), ne_b (r := r) (a := 133) (by omega), ne_b (r := r) (a := 160) (by omega),
    Bool.false_or, Bool.or_false, if_false, Bool.false_eq_true]
theorem kind_eq (r : Int) : kindS r = kindN r := by
  by_cases h1 : r < 9
  · rw [kindS_neg h1, kindN_out (.inl h1), inB_no (by omega), inB_no (by omega)]; rfl
  · by_cases h2 : 12288 < r
    · rw [kindS_big h2, kindN_out (.inr h2)]
      by_cases h3 : r ≤ 40959
      · rw [if_pos h3, inB_no (r := r) (a := 44032) (by omega)]
        by_cases h4 : 19968 ≤ r
        · rw [if_pos h4, inB_yes h4 h3]; rfl
        · rw [if_neg h4, inB_no (by omega)]; rfl
      · rw [if_neg h3, inB_no (r := r) (a := 19968) (by omega)]
        by_cases h4 : r ≤ 55203
        · rw [if_pos h4]
          by_cases h5 : 44032 ≤ r
          · rw [if_pos h5, inB_yes h5 h4]; rfl
          · rw [if_neg h5, inB_no (by omega)]; rfl
        · rw [if_neg h4, inB_no (by omega)]; rfl
    · by_cases h3 : 2415 < r
      · rw [kindS_mid h3 (by omega), kindN_mid h3 (by omega)]
        by_cases h4 : r ≤ 8202
        · rw [if_pos h4, ne_b (a := 8232) (by omega), ne_b (a := 8233) (by omega), ne_b (a := 12288) (by omega)]
          by_cases h5 : 8192 ≤ r
          · rw [if_pos h5, inB_yes h5 h4]; rfl
          · rw [if_neg h5, inB_no (by omega)]; rfl
        · rw [if_neg h4, inB_no (by omega)]
          by_cases h5 : r ≤ 8233
          · rw [if_pos h5, ne_b (a := 12288) (by omega)]
            by_cases h6 : 8232 ≤ r
            · rw [if_pos h6]
              by_cases h7 : r = 8232
              · subst h7; rfl
              · obtain rfl : r = 8233 := by omega
                rfl
            · rw [if_neg h6, ne_b (by omega), ne_b (by omega)]; rfl
          · rw [if_neg h5, ne_b (a := 8232) (by omega), ne_b (a := 8233) (by omega)]
            by_cases h6 : 12288 ≤ r
            · obtain rfl : r = 12288 := by omega
              rfl
            · rw [if_neg h6, ne_b (by omega)]; rfl
      · have := kind_small r.toNat (by omega)
        rwa [show ((r.toNat : Nat) : Int) = r by omega] at this
set_option maxRecDepth 100000 in
theorem kind_fold_small : ∀ n : Nat, n < 1400 → kindN (foldN n) = kindN n := by decide +kernel
theorem kind_fold (v : Int) : kindN (foldN v) = kindN v := by
  by_cases h : v < 0 ∨ 1366 < v
  · rw [fold_big h]
  · have := kind_fold_small v.toNat (by omega)
    rwa [show ((v.toNat : Nat) : Int) = v by omega] at this
/-- Fold, as the program goes. -/
def foldU (r : Int) : Int :=
  if r == 215 || r == 930 then r
  else if inB r 65 90 || (inB r 192 222 || (inB r 1040 1071 || inB r 913 937)) then r + 32
  else if r == 962 then 963
  else if inB r 1024 1039 then r + 80
  else if inB r 256 303 || (inB r 330 375 || (inB r 1120 1153 || (inB r 1162 1215 || inB r 1232 1327))) then r + 1 - r % 2
  else if inB r 313 328 || inB r 377 382 then r + r % 2
  else if inB r 1329 1366 then r + 48
  else r
set_option maxRecDepth 100000 in
theorem foldU_small : ∀ n : Nat, n < 1400 → foldU n = foldN n := by decide +kernel
theorem foldU_big {r : Int} (h : r < 0 ∨ 1366 < r) : foldU r = r := by
  unfold foldU
  simp only [inB_no (r := r) (a := 65) (b := 90) (by omega), inB_no (r := r) (a := 192) (b := 222) (by omega), inB_no (r := r) (a := 1040) (b := 1071) (by omega), inB_no (r := r) (a := 913) (b := 937) (by omega),
    inB_no (r := r) (a := 1024) (b := 1039) (by omega), inB_no (r := r) (a := 256) (b := 303) (by omega), inB_no (r := r) (a := 330) (b := 375) (by omega), inB_no (r := r) (a := 1120) (b := 1153) (by omega),
    inB_no (r := r) (a := 1162) (b := 1215) (by omega), inB_no (r := r) (a := 1232) (b := 1327) (by omega), inB_no (r := r) (a := 313) (b := 328) (by omega), inB_no (r := r) (a := 377) (b := 382) (by omega), inB_no (r := r) (a := 1329) (b := 1366) (by omega),
    ne_b (r := r) (a := 215) (by omega), ne_b (r := r) (a := 930) (by omega), ne_b (r := r) (a := 962) (by omega), Bool.or_false, if_false, Bool.false_eq_true]
theorem fold_eq (r : Int) : foldU r = foldN r := by
  by_cases h : r < 0 ∨ 1366 < r
  · rw [foldU_big h, fold_big h]
  · have := foldU_small r.toNat (by omega)
    rwa [show ((r.toNat : Nat) : Int) = r by omega] at this
end Go.Utf
