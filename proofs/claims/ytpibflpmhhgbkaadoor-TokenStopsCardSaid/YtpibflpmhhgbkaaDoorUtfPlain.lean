/- The plain functions of chapter 10 (runes) and their laws; no program in sight. No conditions. -/
import Derived.Lib.DecodeNEq
import Derived.Lib.RuneBytes
namespace Go.Utf
open Go.Lib

def inB (r a b : Int) : Bool := decide (a ≤ r) && decide (r ≤ b)
def isB (r : Int) : Bool := inB r 0 0x10FFFF && (decide (r < 0xD800) || decide (0xDFFF < r))
/-- A rune made small. -/
def foldN (r : Int) : Int :=
  if 65 ≤ r ∧ r ≤ 90 ∨ 192 ≤ r ∧ r ≤ 222 ∧ r ≠ 215 ∨ 1040 ≤ r ∧ r ≤ 1071 ∨ 913 ≤ r ∧ r ≤ 937 ∧ r ≠ 930 then r + 32
  else if r = 962 then 963
  else if 1024 ≤ r ∧ r ≤ 1039 then r + 80
  else if 256 ≤ r ∧ r ≤ 303 ∨ 330 ≤ r ∧ r ≤ 375 ∨ 1120 ≤ r ∧ r ≤ 1153 ∨ 1162 ≤ r ∧ r ≤ 1215 ∨ 1232 ≤ r ∧ r ≤ 1327 then r + 1 - r % 2
  else if 313 ≤ r ∧ r ≤ 328 ∨ 377 ≤ r ∧ r ≤ 382 then r + r % 2
  else if 1329 ≤ r ∧ r ≤ 1366 then r + 48
  else r
theorem isB_iff (r : Int) : isB r = true ↔ 0 ≤ r ∧ r ≤ 1114111 ∧ (r < 55296 ∨ 57343 < r) := by
  unfold isB inB; simp [and_assoc]
/-- A rune's bytes (of what is none: U+FFFD's). -/
def runeT (r : Int) : List UInt8 := encodeRune r
/-- The first rune of a text, and how many bytes it has; (-1, ..): none. -/
def fixR (d : Nat × Nat) : Int × Nat := if d.1 = 65533 ∧ d.2 < 3 then (-1, d.2) else (d.1, d.2)
def readL (l : List UInt8) : Int × Nat := match l with
  | [] => (-1, 0)
  | _ :: _ => fixR (Utf8.decode ⟨l.toArray⟩ 0)
theorem fixR_no {a b : Nat} (h : ¬ (a = 65533 ∧ b < 3)) : fixR (a, b) = ((a : Int), b) := if_neg h
theorem fixR_bad : fixR (65533, 1) = (-1, 1) := rfl
def nth (l : List UInt8) (i : Nat) : Nat := (l[i]?.getD 0).toNat
theorem nth_lt (l : List UInt8) (i : Nat) : nth l i < 256 := UInt8.toNat_lt _
theorem get!_nth (l : List UInt8) (i : Nat) (hi : i < l.length) : (ByteArray.get! ⟨l.toArray⟩ i).toNat = nth l i := by
  unfold nth
  simp [ByteArray.get!, hi]
theorem dec_nth (l : List UInt8) (_ : l ≠ []) : Utf8.decode ⟨l.toArray⟩ 0 = decodeN l.length (nth l 0) (nth l 1) (nth l 2) (nth l 3) := by
  have key : ∀ i, (ByteArray.get! ⟨l.toArray⟩ i).toNat = nth l i := by
    intro i
    by_cases hi : i < l.length
    · exact get!_nth l i hi
    · unfold nth
      have : l[i]? = none := List.getElem?_eq_none (by omega)
      rw [this]
      simp [ByteArray.get!, getElem!_def, this]; rfl
  rw [decode_at]
  simp only [Nat.zero_add, Nat.sub_zero]
  rw [key 0, key 1, key 2, key 3]
  congr 1
theorem runeT_one {v : Int} (h0 : 0 ≤ v) (h1 : v ≤ 127) : runeT v = [v.toNat.toUInt8] := by
  unfold runeT encodeRune; rw [encodeRuneZ_one h0 h1]; rfl
theorem runeT_two {v : Int} (h0 : 128 ≤ v) (h1 : v ≤ 2047) : runeT v = [(192 + v / 64).toNat.toUInt8, (128 + v % 64).toNat.toUInt8] := by
  unfold runeT encodeRune; rw [encodeRuneZ_two h0 h1]; rfl
theorem runeT_three {v : Int} (h : (2048 ≤ v ∧ v < 55296) ∨ (57343 < v ∧ v ≤ 65535)) : runeT v = [(224 + v / 4096).toNat.toUInt8, (128 + v / 64 % 64).toNat.toUInt8, (128 + v % 64).toNat.toUInt8] := by
  unfold runeT encodeRune; rw [encodeRuneZ_three h]; rfl
theorem runeT_four {v : Int} (h0 : 65536 ≤ v) (h1 : v ≤ 1114111) : runeT v = [(240 + v / 262144).toNat.toUInt8, (128 + v / 4096 % 64).toNat.toUInt8, (128 + v / 64 % 64).toNat.toUInt8, (128 + v % 64).toNat.toUInt8] := by
  unfold runeT encodeRune; rw [encodeRuneZ_four h0 h1]; rfl
theorem isB_cases {v : Int} (h : isB v = true) : (0 ≤ v ∧ v ≤ 127) ∨ (128 ≤ v ∧ v ≤ 2047) ∨ ((2048 ≤ v ∧ v < 55296) ∨ (57343 < v ∧ v ≤ 65535)) ∨ (65536 ≤ v ∧ v ≤ 1114111) := by
  rw [isB_iff] at h; omega
theorem nat_u8 (x : Int) (_ : 0 ≤ x) (h1 : x < 256) : x.toNat.toUInt8.toNat = x.toNat := by
  simp [Nat.toUInt8, UInt8.toNat_ofNat']; omega
theorem nth_cons_zero (a : UInt8) (l : List UInt8) : nth (a :: l) 0 = a.toNat := rfl
theorem nth_cons_succ (a : UInt8) (l : List UInt8) (i : Nat) : nth (a :: l) (i + 1) = nth l i := rfl
/-- (F1) A rune that was written is read as it was, whatever stands behind it. -/
theorem read_rune {v : Int} (hv : isB v = true) (t : List UInt8) : readL (runeT v ++ t) = (v, (runeT v).length) := by
  rcases isB_cases hv with ⟨h0, h1⟩ | ⟨h0, h1⟩ | h | ⟨h0, h1⟩
  · rw [runeT_one h0 h1]
    have e := dec_nth (v.toNat.toUInt8 :: t) (by simp)
    simp only [nth_cons_zero, nth_cons_succ, nat_u8 v (by omega) (by omega)] at e
    have e2 : decodeN (v.toNat.toUInt8 :: t).length v.toNat (nth t 0) (nth t 1) (nth t 2) = (v.toNat, 1) := by
      unfold decodeN; rw [if_pos (by omega)]
    rw [e2] at e
    show readL (v.toNat.toUInt8 :: t) = _
    simp only [readL, e]
    rw [fixR_no (by omega)]
    simp; omega
  · rw [runeT_two h0 h1]
    have e := dec_nth ((192 + v / 64).toNat.toUInt8 :: (128 + v % 64).toNat.toUInt8 :: t) (by simp)
    simp only [nth_cons_zero, nth_cons_succ, nat_u8 (192 + v / 64) (by omega) (by omega), nat_u8 (128 + v % 64) (by omega) (by omega)] at e
    have e2 : ∀ n b2 b3, 2 ≤ n → decodeN n (192 + v / 64).toNat (128 + v % 64).toNat b2 b3 = (v.toNat, 2) := by
      intro n b2 b3 hn
      unfold decodeN
      rw [if_neg (by omega), if_pos (by omega), if_pos (by omega)]
      congr 1; omega
    rw [e2 _ _ _ (by simp)] at e
    show readL (_ :: _ :: t) = _
    simp only [readL, e]
    rw [fixR_no (by omega)]
    simp; omega
  · rw [runeT_three h]
    have e := dec_nth ((224 + v / 4096).toNat.toUInt8 :: (128 + v / 64 % 64).toNat.toUInt8 :: (128 + v % 64).toNat.toUInt8 :: t) (by simp)
    simp only [nth_cons_zero, nth_cons_succ, nat_u8 (224 + v / 4096) (by omega) (by omega), nat_u8 (128 + v / 64 % 64) (by omega) (by omega), nat_u8 (128 + v % 64) (by omega) (by omega)] at e
    have e2 : ∀ n b3, 3 ≤ n → decodeN n (224 + v / 4096).toNat (128 + v / 64 % 64).toNat (128 + v % 64).toNat b3 = (v.toNat, 3) := by
      intro n b3 hn
      unfold decodeN
      rw [if_neg (by omega), if_neg (by omega), if_pos (by omega), if_pos (by omega)]
      congr 1; omega
    rw [e2 _ _ (by simp)] at e
    show readL (_ :: _ :: _ :: t) = _
    simp only [readL, e]
    rw [fixR_no (by omega)]
    simp; omega
  · rw [runeT_four h0 h1]
    have e := dec_nth ((240 + v / 262144).toNat.toUInt8 :: (128 + v / 4096 % 64).toNat.toUInt8 :: (128 + v / 64 % 64).toNat.toUInt8 :: (128 + v % 64).toNat.toUInt8 :: t) (by simp)
    simp only [nth_cons_zero, nth_cons_succ, nat_u8 (240 + v / 262144) (by omega) (by omega), nat_u8 (128 + v / 4096 % 64) (by omega) (by omega), nat_u8 (128 + v / 64 % 64) (by omega) (by omega), nat_u8 (128 + v % 64) (by omega) (by omega)] at e
    have e2 : ∀ n, 4 ≤ n → decodeN n (240 + v / 262144).toNat (128 + v / 4096 % 64).toNat (128 + v / 64 % 64).toNat (128 + v % 64).toNat = (v.toNat, 4) := by
      intro n hn
      unfold decodeN
      rw [if_neg (by omega), if_neg (by omega), if_neg (by omega), if_pos (by omega), if_pos (by omega)]
      congr 1; omega
    rw [e2 _ (by simp)] at e
    show readL (_ :: _ :: _ :: _ :: t) = _
    simp only [readL, e]
    rw [fixR_no (by omega)]
    simp; omega
theorem u8_of (b : UInt8) (x : Int) (h : x.toNat = b.toNat) : x.toNat.toUInt8 = b := by
  apply UInt8.toNat_inj.1
  rw [h]; simp [Nat.toUInt8]
theorem dec_cases (n b0 b1 b2 b3 : Nat) (_ : b0 < 256) (_ : b1 < 256) (_ : b2 < 256) (_ : b3 < 256) :
    decodeN n b0 b1 b2 b3 = (65533, 1) ∨ (b0 < 128 ∧ decodeN n b0 b1 b2 b3 = (b0, 1)) ∨
    (∃ c, decodeN n b0 b1 b2 b3 = (c, 2) ∧ 128 ≤ c ∧ c ≤ 2047 ∧ b0 = 192 + c / 64 ∧ b1 = 128 + c % 64 ∧ 1 < n) ∨
    (∃ c, decodeN n b0 b1 b2 b3 = (c, 3) ∧ 2048 ≤ c ∧ c ≤ 65535 ∧ (c < 55296 ∨ 57343 < c) ∧ b0 = 224 + c / 4096 ∧ b1 = 128 + c / 64 % 64 ∧ b2 = 128 + c % 64 ∧ 2 < n) ∨
    (∃ c, decodeN n b0 b1 b2 b3 = (c, 4) ∧ 65536 ≤ c ∧ c ≤ 1114111 ∧ b0 = 240 + c / 262144 ∧ b1 = 128 + c / 4096 % 64 ∧ b2 = 128 + c / 64 % 64 ∧ b3 = 128 + c % 64 ∧ 3 < n) := by
  unfold decodeN
  split
  · rename_i h1
    exact .inr (.inl ⟨h1, rfl⟩)
  · split
    · split
      · exact .inr (.inr (.inl ⟨_, rfl, by omega, by omega, by omega, by omega, by omega⟩))
      · exact .inl rfl
    · split
      · split
        · exact .inr (.inr (.inr (.inl ⟨_, rfl, by omega, by omega, by omega, by omega, by omega, by omega, by omega⟩)))
        · exact .inl rfl
      · split
        · split
          · exact .inr (.inr (.inr (.inr ⟨_, rfl, by omega, by omega, by omega, by omega, by omega, by omega, by omega⟩)))
          · exact .inl rfl
        · exact .inl rfl
theorem nth_get {l : List UInt8} {i : Nat} (h : i < l.length) : nth l i = l[i].toNat := by unfold nth; simp [h]
theorem u8_nat (b : UInt8) (x : Int) (h0 : 0 ≤ x) (h : (b.toNat : Int) = x) : x.toNat.toUInt8 = b := u8_of b x (by omega)
theorem read_none_of {l : List UInt8} (h : l ≠ []) (e : decodeN l.length (nth l 0) (nth l 1) (nth l 2) (nth l 3) = (65533, 1)) : readL l = (-1, 1) := by
  cases l with
  | nil => exact absurd rfl h
  | cons b l => simp only [readL, dec_nth (b :: l) h, e, fixR_bad]
theorem read_some_of {l : List UInt8} (h : l ≠ []) {c k : Nat} (e : decodeN l.length (nth l 0) (nth l 1) (nth l 2) (nth l 3) = (c, k)) (hk : ¬ (c = 65533 ∧ k < 3)) : readL l = ((c : Int), k) := by
  cases l with
  | nil => exact absurd rfl h
  | cons b l => simp only [readL, dec_nth (b :: l) h, e, fixR_no hk]
/-- (F2, F3) What is read of a text that is not empty: nothing, of one byte; or a rune, whose bytes stand there. -/
theorem read_cases {l : List UInt8} (h : l ≠ []) : readL l = (-1, 1) ∨ ∃ (v : Int) (n : Nat), readL l = (v, n) ∧ isB v = true ∧ n = (runeT v).length ∧ l = runeT v ++ l.drop n := by
  obtain ⟨d, hd⟩ : ∃ d, decodeN l.length (nth l 0) (nth l 1) (nth l 2) (nth l 3) = d := ⟨_, rfl⟩
  rcases dec_cases l.length (nth l 0) (nth l 1) (nth l 2) (nth l 3) (nth_lt _ _) (nth_lt _ _) (nth_lt _ _) (nth_lt _ _) with e | ⟨h1, e⟩ | ⟨c, e, h1, h2, h3, h4, h5⟩ | ⟨c, e, h1, h2, h3, h4, h5, h6, h7⟩ | ⟨c, e, h1, h2, h3, h4, h5, h6, h7⟩
  · exact .inl (read_none_of h e)
  · refine .inr ⟨_, _, read_some_of h e (by omega), (isB_iff _).2 (by omega), by rw [runeT_one (by omega) (by omega)]; rfl, ?_⟩
    rw [runeT_one (by omega) (by omega)]
    match l, h, h1 with
    | b0 :: l, _, h1 => rw [nth_cons_zero, u8_nat b0 _ (by omega) rfl]; rfl
  · refine .inr ⟨_, _, read_some_of h e (by omega), (isB_iff _).2 (by omega), by rw [runeT_two (by omega) (by omega)]; rfl, ?_⟩
    rw [runeT_two (by omega) (by omega)]
    clear e hd
    match l, h3, h4, h5 with
    | [], _, _, h5 => simp at h5
    | [_], _, _, h5 => simp at h5
    | b0 :: b1 :: l, h3, h4, _ =>
      simp only [nth_cons_succ, nth_cons_zero] at h3 h4
      rw [u8_nat b0 _ (by omega) (by omega), u8_nat b1 _ (by omega) (by omega)]; rfl
  · refine .inr ⟨_, _, read_some_of h e (by omega), (isB_iff _).2 (by omega), by rw [runeT_three (by omega)]; rfl, ?_⟩
    rw [runeT_three (by omega)]
    clear e hd
    match l, h4, h5, h6, h7 with
    | [], _, _, _, h5 => simp at h5
    | [_], _, _, _, h5 => simp at h5
    | [_, _], _, _, _, h5 => simp at h5
    | b0 :: b1 :: b2 :: l, h4, h5, h6, _ =>
      simp only [nth_cons_succ, nth_cons_zero] at h4 h5 h6
      rw [u8_nat b0 _ (by omega) (by omega), u8_nat b1 _ (by omega) (by omega), u8_nat b2 _ (by omega) (by omega)]; rfl
  · refine .inr ⟨_, _, read_some_of h e (by omega), (isB_iff _).2 (by omega), by rw [runeT_four (by omega) (by omega)]; rfl, ?_⟩
    rw [runeT_four (by omega) (by omega)]
    clear e hd
    match l, h3, h4, h5, h6, h7 with
    | [], _, _, _, _, h5 => simp at h5
    | [_], _, _, _, _, h5 => simp at h5
    | [_, _], _, _, _, _, h5 => simp at h5
    | [_, _, _], _, _, _, _, h5 => simp at h5
    | b0 :: b1 :: b2 :: b3 :: l, h3, h4, h5, h6, _ =>
      simp only [nth_cons_succ, nth_cons_zero] at h3 h4 h5 h6
      rw [u8_nat b0 _ (by omega) (by omega), u8_nat b1 _ (by omega) (by omega), u8_nat b2 _ (by omega) (by omega), u8_nat b3 _ (by omega) (by omega)]; rfl
end Go.Utf
