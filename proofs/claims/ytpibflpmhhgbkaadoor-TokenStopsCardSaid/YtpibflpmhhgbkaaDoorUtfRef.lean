/- The reference's reading of a rune, plain. No conditions. -/
import Derived.Test.YtpibflpmhhgbkaaDoorUtfSeq
namespace Go.Utf
open Go.Lib

def offN (m : Nat) : Int := if m = 2 then 192 else if m = 3 then 224 else if m = 4 then 240 else 0
/-- What m bytes would be as a rune, so many bytes behind the first gone through. -/
def candV (l : List UInt8) (m : Nat) : Nat → Int
  | 0 => nth l 0 - offN m
  | i + 1 => 64 * candV l m i + nth l (i + 1) - 128
theorem offN_1 : offN 1 = 0 := rfl
theorem offN_2 : offN 2 = 192 := rfl
theorem offN_3 : offN 3 = 224 := rfl
theorem offN_4 : offN 4 = 240 := rfl
theorem candV_bd (l : List UInt8) (m : Nat) (i : Nat) (hi : i ≤ 3) : -1000000000 ≤ candV l m i ∧ candV l m i ≤ 1000000000 := by
  have h0 := nth_lt l 0; have h1 := nth_lt l 1; have h2 := nth_lt l 2; have h3 := nth_lt l 3
  have ho : 0 ≤ offN m ∧ offN m ≤ 240 := by unfold offN; repeat' split <;> omega
  have : i = 0 ∨ i = 1 ∨ i = 2 ∨ i = 3 := by omega
  rcases this with rfl | rfl | rfl | rfl <;> simp only [candV, Nat.zero_add, Nat.reduceAdd] <;> omega
def candF (l : List UInt8) (m : Nat) : Int := candV l m (m - 1)
/-- Are the first m bytes a rune? -/
def okB (l : List UInt8) (m : Nat) : Bool := decide (m ≤ l.length) && (isB (candF l m) && decide (runeT (candF l m) = l.take m))
theorem cand_rune {v : Int} (hv : isB v = true) (t : List UInt8) : candF (runeT v ++ t) (runeT v).length = v := by
  rcases isB_cases hv with ⟨h0, h1⟩ | ⟨h0, h1⟩ | h | ⟨h0, h1⟩
  · rw [runeT_one h0 h1]
    show candV _ 1 0 = v
    simp only [candV, List.cons_append, nth_cons_zero, offN_1, nat_u8 v (by omega) (by omega)]
    omega
  · rw [runeT_two h0 h1]
    show candV _ 2 1 = v
    simp only [candV, List.cons_append, nth_cons_zero, nth_cons_succ, offN_2, nat_u8 (192 + v / 64) (by omega) (by omega), nat_u8 (128 + v % 64) (by omega) (by omega)]
    omega
  · rw [runeT_three h]
    show candV _ 3 2 = v
    simp only [candV, List.cons_append, nth_cons_zero, nth_cons_succ, offN_3, nat_u8 (224 + v / 4096) (by omega) (by omega), nat_u8 (128 + v / 64 % 64) (by omega) (by omega), nat_u8 (128 + v % 64) (by omega) (by omega)]
    omega
  · rw [runeT_four h0 h1]
    show candV _ 4 3 = v
    simp only [candV, List.cons_append, nth_cons_zero, nth_cons_succ, offN_4, nat_u8 (240 + v / 262144) (by omega) (by omega), nat_u8 (128 + v / 4096 % 64) (by omega) (by omega), nat_u8 (128 + v / 64 % 64) (by omega) (by omega), nat_u8 (128 + v % 64) (by omega) (by omega)]
    omega
theorem ok_read {l : List UInt8} {m : Nat} (h : okB l m = true) : readL l = (candF l m, m) ∧ isB (candF l m) = true := by
  unfold okB at h
  rw [Bool.and_eq_true, Bool.and_eq_true, decide_eq_true_eq, decide_eq_true_eq] at h
  obtain ⟨h1, h2, h3⟩ := h
  refine ⟨?_, h2⟩
  have hm : (runeT (candF l m)).length = m := by rw [h3, List.length_take]; omega
  have := read_rune h2 (l.drop m)
  rw [h3, List.take_append_drop] at this
  rw [this, List.length_take]
  congr 1; omega
theorem read_bad_ok {l : List UInt8} (h : readL l = (-1, 1)) (m : Nat) : okB l m = false := by
  cases e : okB l m with
  | false => rfl
  | true =>
    obtain ⟨h1, h2⟩ := ok_read e
    rw [h] at h1
    rw [isB_iff] at h2
    have := congrArg Prod.fst h1
    simp only at this; omega
theorem read_ok {l : List UInt8} (hl : l ≠ []) : readL l = (-1, 1) ∨ (okB l (readL l).2 = true ∧ 1 ≤ (readL l).2 ∧ (readL l).2 ≤ 4 ∧ (readL l).2 ≤ l.length) := by
  rcases read_cases hl with e | ⟨v, n, e, hv, hn, h2⟩
  · exact .inl e
  · refine .inr ?_
    have hle := readL_le hl
    rw [e] at hle ⊢
    simp only at hle ⊢
    have h4 := runeT_length v
    refine ⟨?_, by omega, by omega, hle⟩
    have hc : candF l n = v := by rw [h2, hn]; exact cand_rune hv _
    unfold okB
    rw [hc, hv, take_rune hn h2, decide_eq_true hle, decide_eq_true rfl]; rfl
/-- None of the shorter ones is a rune: when all are gone through there is none. -/
theorem read_end {l : List UInt8} (hl : l ≠ []) (k : Nat) (hk : 4 < k ∨ l.length < k) (h : ∀ m, 1 ≤ m → m < k → okB l m = false) : readL l = (-1, 1) := by
  rcases read_ok hl with e | ⟨h1, h2, h3, h4⟩
  · exact e
  · have := h _ h2 (by omega)
    rw [h1] at this; cases this
end Go.Utf
