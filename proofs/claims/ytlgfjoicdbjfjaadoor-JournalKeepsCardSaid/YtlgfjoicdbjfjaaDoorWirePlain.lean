/- The plain functions of chapter 2 (sums, numbers, texts over lists of bytes) and their laws; no program in sight. No conditions. -/
import Derived.Laws.BitsAllLaws
namespace Go.Wir

/-! ### sums -/
/-- One bit of the sum. -/
def crcBit (c : Nat) : Nat := if c % 2 = 1 then (c / 2) ^^^ 3988292384 else c / 2
def crcBits : Nat → Nat → Nat
  | 0, c => c
  | k + 1, c => crcBit (crcBits k c)
def crcByte (c : Nat) (b : UInt8) : Nat := crcBits 8 (c ^^^ b.toNat)
def crcFrom (c : Nat) (l : List UInt8) : Nat := l.foldl crcByte c
/-- The sum of a list of bytes. -/
def crc (l : List UInt8) : Nat := crcFrom 4294967295 l ^^^ 4294967295

theorem xor_lt (a b : Nat) (ha : a < 4294967296) (hb : b < 4294967296) : a ^^^ b < 4294967296 := by
  have := Nat.xor_lt_two_pow (n := 32) (x := a) (y := b) (by simpa using ha) (by simpa using hb)
  simpa using this
theorem crcBit_lt (c : Nat) (h : c < 4294967296) : crcBit c < 4294967296 := by
  unfold crcBit; split
  · exact xor_lt _ _ (by omega) (by omega)
  · omega
theorem crcBits_lt (k c : Nat) (h : c < 4294967296) : crcBits k c < 4294967296 := by
  induction k with
  | zero => exact h
  | succ k ih => exact crcBit_lt _ ih
theorem crcByte_lt (c : Nat) (b : UInt8) (h : c < 4294967296) : crcByte c b < 4294967296 :=
  crcBits_lt _ _ (xor_lt _ _ h (by have := b.toNat_lt; omega))
theorem crcFrom_lt (l : List UInt8) : ∀ c, c < 4294967296 → crcFrom c l < 4294967296 := by
  induction l with
  | nil => intro c h; exact h
  | cons b l ih => intro c h; exact ih _ (crcByte_lt _ _ h)
theorem crc_lt (l : List UInt8) : crc l < 4294967296 := xor_lt _ _ (crcFrom_lt l _ (by omega)) (by omega)
theorem crcFrom_append (c : Nat) (a b : List UInt8) : crcFrom c (a ++ b) = crcFrom (crcFrom c a) b := by
  unfold crcFrom; rw [List.foldl_append]
theorem crcFrom_take (c : Nat) (l : List UInt8) (k : Nat) (h : k < l.length) : crcFrom c (l.take (k + 1)) = crcBits 8 (crcFrom c (l.take k) ^^^ l[k].toNat) := by
  rw [List.take_succ_eq_append_getElem h, crcFrom_append]; rfl

/-! the sum is linear -/
theorem xor_half (a b : Nat) : (a ^^^ b) / 2 = a / 2 ^^^ b / 2 := by
  have := Nat.xor_div_two_pow (a := a) (b := b) (n := 1); simpa using this
theorem xor_odd (a b : Nat) : (a ^^^ b) % 2 = (a + b) % 2 := by
  have e : (a ^^^ b) % 2 = (a % 2) ^^^ (b % 2) := by simpa using Nat.xor_mod_two_pow (a := a) (b := b) (n := 1)
  have h : a % 2 = 0 ∨ a % 2 = 1 := by omega
  have k : b % 2 = 0 ∨ b % 2 = 1 := by omega
  rw [e]
  rcases h with h | h <;> rcases k with k | k <;> rw [h, k]
  · show 0 = _; omega
  · show 1 = _; omega
  · show 1 = _; omega
  · show 0 = _; omega
theorem crcBit_xor (a b : Nat) : crcBit (a ^^^ b) = crcBit a ^^^ crcBit b := by
  unfold crcBit
  rw [xor_half, xor_odd]
  have h : a % 2 = 0 ∨ a % 2 = 1 := by omega
  have k : b % 2 = 0 ∨ b % 2 = 1 := by omega
  rcases h with h | h <;> rcases k with k | k
  · rw [if_neg (by omega), if_neg (by omega), if_neg (by omega)]
  · rw [if_pos (by omega), if_neg (by omega), if_pos (by omega), Nat.xor_assoc]
  · rw [if_pos (by omega), if_pos (by omega), if_neg (by omega), Nat.xor_assoc, Nat.xor_assoc, Nat.xor_comm (b / 2)]
  · rw [if_neg (by omega), if_pos (by omega), if_pos (by omega), Nat.xor_assoc, Nat.xor_comm 3988292384, Nat.xor_assoc, Nat.xor_self, Nat.xor_zero]
theorem crcBits_xor (k a b : Nat) : crcBits k (a ^^^ b) = crcBits k a ^^^ crcBits k b := by
  induction k with
  | zero => rfl
  | succ k ih => simp only [crcBits, ih, crcBit_xor]
theorem crcBits_add (j k c : Nat) : crcBits (j + k) c = crcBits j (crcBits k c) := by
  induction j with
  | zero => simp [crcBits]
  | succ j ih => rw [Nat.succ_add]; simp only [crcBits, ih]
theorem crcBit_double (a : Nat) : crcBit (2 * a) = a := by unfold crcBit; rw [if_neg (by omega)]; omega
theorem crcBits_shift (k a : Nat) : crcBits k (2 ^ k * a) = a := by
  induction k generalizing a with
  | zero => simp [crcBits]
  | succ k ih =>
    have : 2 ^ (k + 1) * a = 2 ^ k * (2 * a) := by rw [Nat.pow_succ]; ac_rfl
    rw [this]; simp only [crcBits]; rw [ih, crcBit_double]
/-- Bytes as one number, the first lowest. -/
def le : List UInt8 → Nat
  | [] => 0
  | b :: l => b.toNat ^^^ 256 * le l
theorem crcFrom_le (l : List UInt8) : ∀ c, crcFrom c l = crcBits (8 * l.length) (c ^^^ le l) := by
  induction l with
  | nil => intro c; simp [crcFrom, le, crcBits]
  | cons b l ih =>
    intro c
    have h : crcFrom c (b :: l) = crcFrom (crcByte c b) l := rfl
    rw [h, ih, List.length_cons, Nat.mul_add, crcBits_add]
    congr 1
    simp only [le, crcByte]
    rw [← Nat.xor_assoc, crcBits_xor 8 (c ^^^ b.toNat), crcBits_shift 8 (le l)]
theorem crcBit_zero (c : Nat) (h : c < 4294967296) (h0 : crcBit c = 0) : c = 0 := by
  unfold crcBit at h0
  split at h0
  · exfalso
    have h1 : c / 2 = 3988292384 := by
      have := congrArg (· ^^^ 3988292384) h0
      simpa [Nat.xor_assoc] using this
    omega
  · omega
theorem crcBits_zero (k c : Nat) (h : c < 4294967296) (h0 : crcBits k c = 0) : c = 0 := by
  induction k with
  | zero => exact h0
  | succ k ih => exact ih (crcBit_zero _ (crcBits_lt k c h) h0)
theorem xor_eq_zero {a b : Nat} (h : a ^^^ b = 0) : a = b := by
  have := congrArg (· ^^^ b) h
  simpa [Nat.xor_assoc] using this
theorem xor_left_cancel {a b c : Nat} (h : a ^^^ b = a ^^^ c) : b = c := by
  have := congrArg (a ^^^ ·) h
  simpa [← Nat.xor_assoc] using this
theorem le_inj (a b : List UInt8) (hl : a.length = b.length) (h : le a = le b) : a = b := by
  induction a generalizing b with
  | nil => cases b with
    | nil => rfl
    | cons => simp at hl
  | cons x a ih => cases b with
    | nil => simp at hl
    | cons y b =>
      simp only [le] at h
      have hx := x.toNat_lt; have hy := y.toNat_lt
      have e1 := congrArg (· % 2 ^ 8) h
      have e2 := congrArg (· / 2 ^ 8) h
      simp only [Nat.xor_mod_two_pow, Nat.xor_div_two_pow] at e1 e2
      have m1 : 256 * le a % 2 ^ 8 = 0 := by omega
      have m2 : 256 * le b % 2 ^ 8 = 0 := by omega
      have d1 : 256 * le a / 2 ^ 8 = le a := by omega
      have d2 : 256 * le b / 2 ^ 8 = le b := by omega
      have q1 : x.toNat % 2 ^ 8 = x.toNat := by omega
      have q2 : y.toNat % 2 ^ 8 = y.toNat := by omega
      have q3 : x.toNat / 2 ^ 8 = 0 := by omega
      have q4 : y.toNat / 2 ^ 8 = 0 := by omega
      rw [m1, m2, q1, q2] at e1
      rw [d1, d2, q3, q4] at e2
      simp at e1 e2
      rw [ih b (by simpa using hl) e2, UInt8.toNat_inj.1 e1]
/-- Two lists of one length whose numbers are unlike within 32 bits have unlike sums. -/
theorem crc_burst (a b : List UInt8) (k d : Nat) (hl : a.length = b.length) (hd : d < 4294967296) (h : le a = le b ^^^ 2 ^ k * d) (hk : d = 0 ∨ k ≤ 8 * b.length) (hc : crc a = crc b) : a = b := by
  apply le_inj a b hl
  rw [h]
  rcases hk with rfl | hk
  · simp
  have e : crcFrom 4294967295 a = crcFrom 4294967295 b := by
    have := congrArg (· ^^^ 4294967295) hc
    simpa [crc, Nat.xor_assoc] using this
  rw [crcFrom_le, crcFrom_le, hl, h, ← Nat.xor_assoc, crcBits_xor] at e
  have e2 : crcBits (8 * b.length) (2 ^ k * d) = 0 := by
    have := congrArg (crcBits (8 * b.length) (4294967295 ^^^ le b) ^^^ ·) e
    simpa [← Nat.xor_assoc] using this
  rw [show 8 * b.length = (8 * b.length - k) + k by omega, crcBits_add, crcBits_shift] at e2
  rw [crcBits_zero _ _ hd e2]; simp

theorem pow_xor (k a b : Nat) : 2 ^ k * (a ^^^ b) = 2 ^ k * a ^^^ 2 ^ k * b := by
  have := Nat.shiftLeft_xor_distrib (a := a) (b := b) (i := k)
  simpa [Nat.shiftLeft_eq, Nat.mul_comm] using this
theorem le_set (l : List UInt8) (v : UInt8) : ∀ (j : Nat) (h : j < l.length), le (l.set j (l[j] ^^^ v)) = le l ^^^ 2 ^ (8 * j) * v.toNat := by
  induction l with
  | nil => intro j h; simp at h
  | cons x l ih =>
    intro j h
    cases j with
    | zero =>
      simp only [List.set_cons_zero, List.getElem_cons_zero, le, Nat.mul_zero, Nat.pow_zero, Nat.one_mul]
      rw [UInt8.toNat_xor, Nat.xor_assoc, Nat.xor_comm v.toNat, ← Nat.xor_assoc]
    | succ j =>
      simp only [List.set_cons_succ, List.getElem_cons_succ, le]
      rw [ih j (by simpa using h), show (256 : Nat) = 2 ^ 8 from rfl, pow_xor 8, ← Nat.xor_assoc, ← Nat.mul_assoc, ← Nat.pow_add, show 8 + 8 * j = 8 * (j + 1) by omega]
/-- One more bit turned. -/
theorem flip_step (l s : List UInt8) (k i d : Nat) (h : le l = le s ^^^ 2 ^ k * d) (hd : d < 2 ^ i) (hj : (k + i) / 8 < l.length) :
    le (l.set ((k + i) / 8) (l[(k + i) / 8] ^^^ UInt8.ofNat (2 ^ ((k + i) % 8)))) = le s ^^^ 2 ^ k * (d ^^^ 2 ^ i) ∧ d ^^^ 2 ^ i < 2 ^ (i + 1) := by
  constructor
  · rw [le_set, h, pow_xor, ← Nat.xor_assoc]
    congr 1
    have h8 : (2 : Nat) ^ ((k + i) % 8) ≤ 2 ^ 7 := Nat.pow_le_pow_right (by omega) (by omega)
    rw [UInt8.toNat_ofNat', Nat.mod_eq_of_lt (by omega), ← Nat.pow_add, ← Nat.pow_add]
    congr 1; omega
  · exact Nat.xor_lt_two_pow (Nat.lt_of_lt_of_le hd (Nat.pow_le_pow_right (by omega) (by omega))) (Nat.pow_lt_pow_right (by omega) (by omega))

/-- Three lists laid over one another. -/
def x3 : List UInt8 → List UInt8 → List UInt8 → List UInt8
  | a :: as, b :: bs, c :: cs => (a ^^^ b ^^^ c) :: x3 as bs cs
  | _, _, _ => []
theorem x3_length : ∀ (a b c : List UInt8), a.length = b.length → b.length = c.length → (x3 a b c).length = a.length
  | [], [], [], _, _ => rfl
  | _ :: a, _ :: b, _ :: c, h1, h2 => by simp only [x3, List.length_cons]; rw [x3_length a b c (by simpa using h1) (by simpa using h2)]
  | [], _ :: _, _, h, _ => by simp at h
  | _ :: _, [], _, h, _ => by simp at h
  | [], [], _ :: _, _, h => by simp at h
  | _ :: _, _ :: _, [], _, h => by simp at h
theorem x3_get : ∀ (a b c : List UInt8) (i : Nat) (h0 : i < (x3 a b c).length) (h1 : i < a.length) (h2 : i < b.length) (h3 : i < c.length), (x3 a b c)[i] = a[i] ^^^ b[i] ^^^ c[i]
  | x :: a, y :: b, z :: c, i, h0, h1, h2, h3 => by
    cases i with
    | zero => rfl
    | succ i => simp only [x3, List.getElem_cons_succ]; exact x3_get a b c i _ _ _ _
  | [], _, _, _, _, h, _, _ => by simp at h
  | _ :: _, [], _, _, _, _, h, _ => by simp at h
  | _ :: _, _ :: _, [], _, _, _, _, h => by simp at h
theorem le_x3 : ∀ (a b c : List UInt8), a.length = b.length → b.length = c.length → le (x3 a b c) = le a ^^^ le b ^^^ le c
  | [], [], [], _, _ => rfl
  | x :: a, y :: b, z :: c, h1, h2 => by
    have ih := le_x3 a b c (by simpa using h1) (by simpa using h2)
    simp only [x3, le, UInt8.toNat_xor, ih]
    rw [show (256 : Nat) = 2 ^ 8 from rfl, pow_xor, pow_xor]
    ac_rfl
  | [], _ :: _, _, h, _ => by simp at h
  | _ :: _, [], _, h, _ => by simp at h
  | [], [], _ :: _, _, h => by simp at h
  | _ :: _, _ :: _, [], _, h => by simp at h
theorem crc_x3 (a b c : List UInt8) (h1 : a.length = b.length) (h2 : b.length = c.length) : crc (x3 a b c) = crc a ^^^ crc b ^^^ crc c := by
  unfold crc
  rw [crcFrom_le, crcFrom_le, crcFrom_le, crcFrom_le, x3_length a b c h1 h2, ← h2, ← h1, le_x3 a b c h1 h2]
  have e : 4294967295 ^^^ (le a ^^^ le b ^^^ le c) = (4294967295 ^^^ le a) ^^^ (4294967295 ^^^ le b) ^^^ (4294967295 ^^^ le c) := by
    have : (4294967295 ^^^ le a) ^^^ (4294967295 ^^^ le b) ^^^ (4294967295 ^^^ le c) = (4294967295 ^^^ 4294967295) ^^^ (4294967295 ^^^ (le a ^^^ le b ^^^ le c)) := by ac_rfl
    rw [this, Nat.xor_self, Nat.zero_xor]
  rw [e, crcBits_xor, crcBits_xor]
  generalize crcBits (8 * a.length) (4294967295 ^^^ le a) = p
  generalize crcBits (8 * a.length) (4294967295 ^^^ le b) = q
  generalize crcBits (8 * a.length) (4294967295 ^^^ le c) = r
  have : (p ^^^ 4294967295) ^^^ (q ^^^ 4294967295) ^^^ (r ^^^ 4294967295) = (4294967295 ^^^ 4294967295) ^^^ ((p ^^^ q ^^^ r) ^^^ 4294967295) := by ac_rfl
  rw [this, Nat.xor_self, Nat.zero_xor]
/-- k bytes are there, the rest still 0. -/
theorem fill_step (l : List UInt8) (k : Nat) (h : k < l.length) : (l.take k ++ List.replicate (l.length - k) 0).set k l[k] = l.take (k + 1) ++ List.replicate (l.length - (k + 1)) 0 := by
  rw [List.set_append_right _ _ (by simp; omega), List.length_take, Nat.min_eq_left (by omega), Nat.sub_self]
  rw [show l.length - k = (l.length - (k + 1)) + 1 by omega, List.replicate_succ, List.set_cons_zero, List.take_succ_eq_append_getElem h, List.append_assoc]
  rfl

/-! ### numbers -/
def varF : Nat → Nat → List UInt8
  | 0, n => [UInt8.ofNat n]
  | f + 1, n => if n < 128 then [UInt8.ofNat n] else UInt8.ofNat (n % 128 + 128) :: varF f (n / 128)
/-- A number as bytes. -/
def varL (n : Nat) : List UInt8 := varF 9 n
/-- The value of bytes, seven bits of each. -/
def lowv : List UInt8 → Nat
  | [] => 0
  | c :: l => c.toNat % 128 + 128 * lowv l
/-- A number read from the i-th byte on. -/
def rd : Nat → List UInt8 → Option (Nat × List UInt8)
  | _, [] => none
  | i, c :: l => if 10 ≤ i then none else if 127 < c.toNat then (rd (i + 1) l).map (fun x => (c.toNat % 128 + 128 * x.1, x.2))
      else if (i = 9 ∧ 1 < c.toNat) ∨ (0 < i ∧ c.toNat = 0) then none else some (c.toNat, l)
def toVarL (l : List UInt8) : Option (Nat × List UInt8) := rd 0 l

theorem ofNat_toNat (n : Nat) (h : n < 256) : (UInt8.ofNat n).toNat = n := by
  rw [UInt8.toNat_ofNat']; omega
theorem rd_lt : ∀ (l : List UInt8) (i : Nat) (n : Nat) (r : List UInt8), rd i l = some (n, r) → i < 10 ∧ n * 128 ^ i < 18446744073709551616 ∧ (0 < i → 0 < n) ∧ ∀ f, 9 - i ≤ f → l = varF f n ++ r := by
  intro l
  induction l with
  | nil => intro i n r h; simp [rd] at h
  | cons c l ih =>
    intro i n r h
    have hc := c.toNat_lt
    simp only [rd] at h
    by_cases h10 : 10 ≤ i
    · rw [if_pos h10] at h; simp at h
    rw [if_neg h10] at h
    by_cases h127 : 127 < c.toNat
    · rw [if_pos h127] at h
      rcases hr : rd (i + 1) l with _ | ⟨m, q⟩
      · rw [hr] at h; simp at h
      rw [hr] at h
      simp only [Option.map_some, Option.some.injEq, Prod.mk.injEq] at h
      obtain ⟨rfl, rfl⟩ := h
      obtain ⟨a1, a2, a3, a4⟩ := ih (i + 1) m q hr
      have a3 := a3 (by omega)
      refine ⟨by omega, ?_, fun _ => by omega, ?_⟩
      · have hp : (0 : Nat) < 128 ^ i := Nat.pow_pos (by omega)
        rw [Nat.pow_succ] at a2
        have hb : 18446744073709551616 % (128 ^ i) = 0 ∧ 128 ^ i * (18446744073709551616 / 128 ^ i) = 18446744073709551616 ∧ (18446744073709551616 / 128 ^ i) % 128 = 0 := by
          have : i = 0 ∨ i = 1 ∨ i = 2 ∨ i = 3 ∨ i = 4 ∨ i = 5 ∨ i = 6 ∨ i = 7 ∨ i = 8 := by omega
          rcases this with rfl | rfl | rfl | rfl | rfl | rfl | rfl | rfl | rfl <;> decide
        generalize 128 ^ i = p at *
        obtain ⟨_, b2, b3⟩ := hb
        generalize 18446744073709551616 / p = q' at *
        have : m * 128 < q' := by
          rcases Nat.lt_or_ge (m * 128) q' with h | h
          · exact h
          · exfalso
            have := Nat.mul_le_mul_left p h
            have e : p * (m * 128) = m * (p * 128) := by ac_rfl
            omega
        have : c.toNat % 128 + 128 * m < q' := by omega
        have := Nat.mul_lt_mul_of_pos_right this hp
        have e : q' * p = p * q' := Nat.mul_comm _ _
        omega
      · intro f hf
        obtain ⟨f, rfl⟩ : ∃ g, f = g + 1 := ⟨f - 1, by omega⟩
        have := a4 f (by omega)
        simp only [varF]
        rw [if_neg (by omega), show (c.toNat % 128 + 128 * m) / 128 = m by omega, show (c.toNat % 128 + 128 * m) % 128 + 128 = c.toNat by omega, this]
        simp
    · rw [if_neg h127] at h
      split at h
      · simp at h
      · rename_i hno
        simp only [Option.some.injEq, Prod.mk.injEq] at h
        obtain ⟨rfl, rfl⟩ := h
        refine ⟨by omega, ?_, fun h => by omega, ?_⟩
        · have h9 : i ≤ 8 ∨ i = 9 := by omega
          rcases h9 with h9 | rfl
          · have hp : 128 ^ i ≤ 128 ^ 8 := Nat.pow_le_pow_right (by omega) h9
            have := Nat.mul_le_mul (show c.toNat ≤ 127 by omega) hp
            have : 127 * 128 ^ 8 < 18446744073709551616 := by decide
            omega
          · have : c.toNat ≤ 1 := by omega
            exact Nat.lt_of_le_of_lt (Nat.mul_le_mul_right (128 ^ 9) this) (by decide)
        · intro f _
          cases f <;> simp [varF, show c.toNat < 128 by omega]
theorem toVarL_some {l : List UInt8} {n : Nat} {r : List UInt8} (h : toVarL l = some (n, r)) : n < 18446744073709551616 ∧ l = varL n ++ r := by
  obtain ⟨_, h2, _, h4⟩ := rd_lt l 0 n r h
  exact ⟨by simpa using h2, h4 9 (by omega)⟩
theorem rd_varF : ∀ (f i n : Nat) (r : List UInt8), i + f = 9 → n * 128 ^ i < 18446744073709551616 → (0 < i → 0 < n) → rd i (varF f n ++ r) = some (n, r) := by
  intro f
  induction f with
  | zero =>
    intro i n r hi hn h0
    obtain rfl : i = 9 := by omega
    have h1 : n ≤ 1 := by
      have : (128 : Nat) ^ 9 = 9223372036854775808 := by decide
      omega
    have h0 := h0 (by omega)
    simp only [varF, List.cons_append, List.nil_append, rd]
    rw [ofNat_toNat _ (by omega), if_neg (by omega), if_neg (by omega), if_neg (by omega)]
  | succ f ih =>
    intro i n r hi hn h0
    simp only [varF]
    by_cases h : n < 128
    · rw [if_pos h]
      simp only [List.cons_append, List.nil_append, rd]
      rw [ofNat_toNat _ (by omega), if_neg (by omega), if_neg (by omega), if_neg (by omega)]
    · rw [if_neg h]
      simp only [List.cons_append, rd]
      rw [ofNat_toNat _ (by omega), if_neg (by omega), if_pos (by omega), ih (i + 1) (n / 128) r (by omega) ?_ (fun _ => by omega)]
      · simp; omega
      · rw [Nat.pow_succ]
        have : n / 128 * (128 ^ i * 128) = (n / 128 * 128) * 128 ^ i := by ac_rfl
        have h2 := Nat.mul_le_mul_right (128 ^ i) (show n / 128 * 128 ≤ n by omega)
        omega
theorem toVarL_varL (n : Nat) (r : List UInt8) (h : n < 18446744073709551616) : toVarL (varL n ++ r) = some (n, r) :=
  rd_varF 9 0 n r (by omega) (by simpa using h) (by omega)
theorem varF_length (f n : Nat) : 1 ≤ (varF f n).length ∧ (varF f n).length ≤ f + 1 := by
  induction f generalizing n with
  | zero => simp [varF]
  | succ f ih =>
    simp only [varF]
    split
    · simp
    · have := ih (n / 128); simp; omega
theorem varL_length (n : Nat) : 1 ≤ (varL n).length ∧ (varL n).length ≤ 10 := varF_length 9 n
/-- What has been read when k bytes that go on have been passed. -/
theorem rd_pass : ∀ (k i : Nat) (l : List UInt8), i + k ≤ 10 → k ≤ l.length → (∀ b ∈ l.take k, 127 < b.toNat) → rd i l = (rd (i + k) (l.drop k)).map (fun x => (lowv (l.take k) + 128 ^ k * x.1, x.2)) := by
  intro k
  induction k with
  | zero => intro i l _ _ _; simp [lowv]
  | succ k ih =>
    intro i l hi hk hb
    cases l with
    | nil => simp at hk
    | cons c l =>
      have hc := hb c (by simp)
      have := ih (i + 1) l (by omega) (by simpa using hk) (fun b h => hb b (by simp [h]))
      simp only [rd]
      rw [if_neg (by omega), if_pos hc, this]
      simp only [List.drop_succ_cons, List.take_succ_cons, lowv, Option.map_map]
      rw [show i + 1 + k = i + (k + 1) by omega]
      congr 1
      funext x
      simp only [Function.comp, Prod.mk.injEq, and_true]
      rw [Nat.pow_succ, Nat.mul_add]
      have : 128 * (128 ^ k * x.1) = 128 ^ k * 128 * x.1 := by ac_rfl
      omega
theorem lowv_lt (l : List UInt8) : lowv l < 128 ^ l.length := by
  induction l with
  | nil => simp [lowv]
  | cons c l ih => simp only [lowv, List.length_cons, Nat.pow_succ]; omega
theorem lowv_append (a b : List UInt8) : lowv (a ++ b) = lowv a + 128 ^ a.length * lowv b := by
  induction a with
  | nil => simp [lowv]
  | cons c a ih =>
    simp only [List.cons_append, lowv, ih, List.length_cons, Nat.pow_succ, Nat.mul_add]
    have : 128 * (128 ^ a.length * lowv b) = 128 ^ a.length * 128 * lowv b := by ac_rfl
    omega
theorem lowv_take (l : List UInt8) (k : Nat) (h : k < l.length) : lowv (l.take (k + 1)) = lowv (l.take k) + 128 ^ k * (l[k].toNat % 128) := by
  rw [List.take_succ_eq_append_getElem h, lowv_append, List.length_take, Nat.min_eq_left (by omega)]; simp [lowv]
/-- The k bytes ahead go on; the next one ends the number, or it is none. -/
theorem toVarL_at (l : List UInt8) (k : Nat) (h : k < l.length) (hk : k < 10) (hb : ∀ b ∈ l.take k, 127 < b.toNat) (hc : ¬ 127 < l[k].toNat) :
    toVarL l = if (k = 9 ∧ 1 < l[k].toNat) ∨ (0 < k ∧ l[k].toNat = 0) then none else some (lowv (l.take (k + 1)), l.drop (k + 1)) := by
  unfold toVarL
  rw [rd_pass k 0 l (by omega) (by omega) hb, List.drop_eq_getElem_cons h, lowv_take l k h]
  simp only [rd, Nat.zero_add]
  rw [if_neg (by omega), if_neg hc]
  rw [Nat.mod_eq_of_lt (show l[k].toNat < 128 by omega)]
  split
  · rfl
  · rfl
theorem toVarL_end (l : List UInt8) (k : Nat) (h : k ≤ l.length) (hk : k ≤ 10) (hb : ∀ b ∈ l.take k, 127 < b.toNat) (he : k = l.length ∨ k = 10) : toVarL l = none := by
  unfold toVarL
  rw [rd_pass k 0 l (by omega) (by omega) hb]
  rcases he with rfl | rfl
  · simp [rd]
  · cases hd : l.drop 10 with
    | nil => simp [rd]
    | cons c r => simp [rd]
theorem take_snoc_all (l : List UInt8) (k : Nat) (h : k < l.length) (hb : ∀ b ∈ l.take k, 127 < b.toNat) (hc : 127 < l[k].toNat) : ∀ b ∈ l.take (k + 1), 127 < b.toNat := by
  rw [List.take_succ_eq_append_getElem h]
  intro b hm
  rcases List.mem_append.1 hm with hm | hm
  · exact hb b hm
  · simp at hm; subst hm; exact hc
/-- 'It must be what is written': the reference's test. -/
theorem varL_iff (l : List UInt8) (k : Nat) (h : k < l.length) (hk : k < 10) (hb : ∀ b ∈ l.take k, 127 < b.toNat) (hc : ¬ 127 < l[k].toNat) :
    varL (lowv (l.take (k + 1)) % 18446744073709551616) = l.take (k + 1) ↔ ¬ ((k = 9 ∧ 1 < l[k].toNat) ∨ (0 < k ∧ l[k].toNat = 0)) := by
  have hat := toVarL_at l k h hk hb hc
  constructor
  · intro he hno
    rw [if_pos hno] at hat
    have := toVarL_varL (lowv (l.take (k + 1)) % 18446744073709551616) (l.drop (k + 1)) (Nat.mod_lt _ (by omega))
    rw [he, List.take_append_drop, hat] at this
    simp at this
  · intro hno
    rw [if_neg hno] at hat
    obtain ⟨h1, h2⟩ := toVarL_some hat
    rw [Nat.mod_eq_of_lt h1]
    have h3 := h2
    rw [← List.take_append_drop (k + 1) l] at h3
    simp only [List.take_append_drop] at h3
    have h4 : l.take (k + 1) ++ l.drop (k + 1) = varL (lowv (l.take (k + 1))) ++ l.drop (k + 1) := by rw [List.take_append_drop]; exact h2
    exact (List.append_cancel_right h4).symm

/-! ### texts, and numbers of four bytes -/
def fixedL (n : Nat) : List UInt8 := [UInt8.ofNat (n % 256), UInt8.ofNat (n / 256 % 256), UInt8.ofNat (n / 65536 % 256), UInt8.ofNat (n / 16777216)]
def toFixedL : List UInt8 → Option (Nat × List UInt8)
  | a :: b :: c :: d :: r => some (a.toNat + 256 * b.toNat + 65536 * c.toNat + 16777216 * d.toNat, r)
  | _ => none
def textL (l : List UInt8) : List UInt8 := varL l.length ++ l
def toTextL (l : List UInt8) : Option (List UInt8 × List UInt8) :=
  match toVarL l with
  | some (n, r) => if n ≤ r.length then some (r.take n, r.drop n) else none
  | none => none
theorem toFixedL_fixedL (n : Nat) (h : n < 4294967296) (r : List UInt8) : toFixedL (fixedL n ++ r) = some (n, r) := by
  simp only [fixedL, List.cons_append, List.nil_append, toFixedL]
  rw [ofNat_toNat _ (by omega), ofNat_toNat _ (by omega), ofNat_toNat _ (by omega), ofNat_toNat _ (by omega)]
  congr 2; omega
theorem toTextL_textL (t r : List UInt8) (h : t.length < 18446744073709551616) : toTextL (textL t ++ r) = some (t, r) := by
  unfold toTextL textL
  rw [List.append_assoc, toVarL_varL _ _ h]
  simp
theorem toTextL_some {l t r : List UInt8} (h : toTextL l = some (t, r)) : l = textL t ++ r ∧ t.length ≤ l.length := by
  unfold toTextL at h
  rcases hv : toVarL l with _ | ⟨n, q⟩
  · rw [hv] at h; simp at h
  rw [hv] at h
  simp only at h
  split at h
  · simp only [Option.some.injEq, Prod.mk.injEq] at h
    obtain ⟨rfl, rfl⟩ := h
    obtain ⟨_, h2⟩ := toVarL_some hv
    have hl : (q.take n).length = n := by simp; omega
    have h3 : l = textL (q.take n) ++ q.drop n := by
      unfold textL; rw [hl, List.append_assoc, List.take_append_drop]; exact h2
    refine ⟨h3, ?_⟩
    have := congrArg List.length h2
    simp at this
    rw [hl]; omega
  · simp at h
theorem toFixedL_none (l : List UInt8) (h : l.length < 4) : toFixedL l = none := by
  match l, h with
  | [], _ => rfl
  | [_], _ => rfl
  | [_, _], _ => rfl
  | [_, _, _], _ => rfl
  | _ :: _ :: _ :: _ :: _, h => simp at h; omega
end Go.Wir
