/- The law WireFlips returns true for every text, every place and all bits. Conditions: the numbers fit their kinds, the text's length fits an int. -/
import Derived.Test.YtijjccamcodbfaaShown2
import Derived.Test.YtijjccamcodbfaaByteRow
import Derived.OpenShut
namespace Go.Proofs.Ytijjccamcodbfaa
open Go.RowKit Go.Wir

theorem pow8 (j : Nat) (h : j < 8) : (2 : Int) ^ j % 256 = ((2 ^ j : Nat) : Int) ∧ 2 ^ j < 256 ∧ (UInt8.ofNat (2 ^ j)).toNat = 2 ^ j := by
  have : j = 0 ∨ j = 1 ∨ j = 2 ∨ j = 3 ∨ j = 4 ∨ j = 5 ∨ j = 6 ∨ j = 7 := by omega
  rcases this with rfl | rfl | rfl | rfl | rfl | rfl | rfl | rfl <;> decide
theorem flip_val (x : UInt8) (m : Nat) : bits .xor .u8 (x.toNat : Int) (2 ^ (m % 8) % 256) = (((x ^^^ UInt8.ofNat (2 ^ (m % 8))).toNat : Nat) : Int) := by
  have hx := x.toNat_lt
  obtain ⟨e1, e2, e3⟩ := pow8 (m % 8) (by omega)
  rw [e1, u8_xor _ _ (by omega) (by omega) (by omega) (by omega), UInt8.toNat_xor, e3, Int.toNat_natCast, Int.toNat_natCast]

set_option maxRecDepth 100000 in
set_option maxHeartbeats 1600000 in
theorem walk_WireFlips (s : ByteArray) (at0 : Int) (bs : Int) (hs : s.size ≤ maxLen) (hat : (Lit.int .i64 at0).wf = true) (hbs : (Lit.int .u32 bs).wf = true) (w : World) :
    Calls Try.prog 7 #[.string s, .int .i64 at0, .int .u32 bs] w fun e w' => e = .returned (.bool true) ∧ Below w.heap.size w w' := by
  unfold maxLen at hs
  have hbs := bounds_u32 hbs
  have hat := bounds_i64 hat
  by_cases hz : s.size = 0
  · have hz1 : ((s.size : Int) == 0) = true := by rw [hz]; rfl
    clear hz
    go_enter Try.func7, Try.ntmps7
    go_wp2_with fail
    refine (shown2 w).mono ?_
    rintro e w1 ⟨rfl, b1⟩
    go_wp2
    go_ret
    exact ⟨rfl, b1⟩
  have hz1 : ((s.size : Int) == 0) = false := by rw [beq_eq_false_iff_ne]; omega
  by_cases hbig : 2000 < s.size
  · clear hz
    go_enter Try.func7, Try.ntmps7
    go_wp2_with fail
    refine (shown2 w).mono ?_
    rintro e w1 ⟨rfl, b1⟩
    go_wp2
    go_ret
    exact ⟨rfl, b1⟩
  by_cases hb0 : bs = 0
  · have hb1 : (bs == 0) = true := by rw [hb0]; rfl
    clear hz hb0
    go_enter Try.func7, Try.ntmps7
    go_wp2_with fail
    refine (shown2 w).mono ?_
    rintro e w1 ⟨rfl, b1⟩
    go_wp2
    go_ret
    exact ⟨rfl, b1⟩
  have hb1 : (bs == 0) = false := by rw [beq_eq_false_iff_ne]; exact hb0
  obtain ⟨K, hK, hsign⟩ : ∃ K : Nat, K < 8 * s.size ∧ (at0.tmod (8 * (s.size : Int)) = (K : Int) ∨ (at0.tmod (8 * (s.size : Int)) = -(K : Int) ∧ 0 < K)) := by
    have h1 := Int.tmod_lt_of_pos at0 (b := 8 * (s.size : Int)) (by omega)
    have h2 := Int.tmod_lt_of_pos (-at0) (b := 8 * (s.size : Int)) (by omega)
    rw [Int.neg_tmod] at h2
    rcases Int.lt_or_le (at0.tmod (8 * (s.size : Int))) 0 with h | h
    · exact ⟨(-(at0.tmod (8 * (s.size : Int)))).toNat, by omega, .inr ⟨by omega, by omega⟩⟩
    · exact ⟨(at0.tmod (8 * (s.size : Int))).toNat, by omega, .inl (by omega)⟩
  have hcv := fun (w : World) => run_bytes_of_string (P := Try.prog) w 9 41 5 s Try.underlying9 Try.underlying41 Try.underlying5
  obtain ⟨bs, rfl⟩ := Int.eq_ofNat_of_zero_le hbs.1
  rcases hsign with hsign | ⟨hsign, hpos⟩
  all_goals
    go_enter Try.func7, Try.ntmps7
    go_wp2_with fail
    refine (shown2 w).mono ?_
    rintro e w1 ⟨rfl, b1⟩
    have B1 := Lib.hid (step_call (Below.refl _ w) b1)
    clear b1
    have hrow := Lib.hid (BRow.of_string w1 s)
    go_wp2
    clear hcv hsign
    go_loopw [10] (fun i wr => ∃ (k d : Nat) (l : List UInt8), k ≤ 32 ∧ i = .int .i64 k ∧ l.length = s.size ∧ BRow wr w1.heap.size l ∧ le l = le (L s) ^^^ 2 ^ K * d ∧ d < 2 ^ k ∧ Below w.heap.size w wr) (fun i _ => 32 - (intOf i).toNat)
    case atStart => exact ⟨0, 0, L s, by omega, rfl, length_L s, hrow.out, by simp, by simp, (step_new B1.out.drew _)⟩
    case round =>
      obtain ⟨k, d, l, hk, rfl, hl, hrow, hle, hd, hbel⟩ := hrel
      have Hl := Lib.hid hl
      have Hle := Lib.hid hle
      have Hd := Lib.hid hd
      clear hl hle hd
      by_cases hlt : k < 32
      · by_cases hq : (K + k) / 8 < s.size
        · have hql : (K + k) / 8 < l.length := by rw [Hl.out]; exact hq
          have hc := hrow.cell _ hql
          have hf := hrow.frozen _ hql
          have Hst := Lib.hid (fun d h hd => flip_step l (L s) K k d h hd hql)
          have Hset := Lib.hid (hrow.set _ hql)
          generalize l[(K + k) / 8] = x at *
          have hx := flip_val x (K + k)
          obtain ⟨y, hy⟩ : ∃ y, y = x ^^^ UInt8.ofNat (2 ^ ((K + k) % 8)) := ⟨_, rfl⟩
          rw [← hy] at hx
          have Hy := Lib.hid hy
          clear hy
          go_wp2
          · go_roundw
            case rel =>
              obtain ⟨g1, g2⟩ := Hst.out d Hle.out Hd.out
              rw [← Hy.out] at g1
              exact ⟨k + 1, d ^^^ 2 ^ k, l.set ((K + k) / 8) y, by omega, by go_num, by rw [List.length_set]; exact Hl.out, Hset.out _, g1, g2, hbel.setCell B1.out.size _⟩
            case measure => simp [intOf]; omega
          · go_roundw
            case rel => exact ⟨k + 1, d, l, by omega, by go_num, Hl.out, hrow, Hle.out, Nat.lt_of_lt_of_le Hd.out (Nat.pow_le_pow_right (by omega) (by omega)), hbel⟩
            case measure => simp [intOf]; omega
        · go_wp2
          all_goals
            go_roundw
            case rel => exact ⟨k + 1, d, l, by omega, by go_num, Hl.out, hrow, Hle.out, Nat.lt_of_lt_of_le Hd.out (Nat.pow_le_pow_right (by omega) (by omega)), hbel⟩
            case measure => simp [intOf]; omega
      · obtain rfl : k = 32 := by omega
        have hconv := hrow.conv (grownCap w1 s.size 0 5)
        rw [Hl.out] at hconv
        have Hrow := Lib.hid hrow
        have Hbel := Lib.hid hbel
        clear hrow
        by_cases heq : l = L s
        · have he : B l = s := by rw [heq, B_L]
          clear heq
          go_wp2
          go_ret
          exact ⟨rfl, hbel⟩
        · have he : ((B l).toList == s.toList) = false := by rw [str_eq, L_B]; simpa using heq
          have e1 : partsL [B l] = l := by simp [partsL, L_B]
          have e2 : partsL [s] = L s := by simp [partsL]
          have hne : crc l ≠ crc (L s) := fun hc => heq (crc_burst l (L s) K d (by rw [Hl.out, length_L]) (by simpa using Hd.out) Hle.out (.inr (by rw [length_L]; omega)) hc)
          have h1 : (((crc l : Nat) : Int) == ((crc (L s) : Nat) : Int)) = false := by rw [beq_eq_false_iff_ne]; omega
          have h2 : (((crc l : Nat) : Int) != ((crc (L s) : Nat) : Int)) = true := by rw [bne_iff_ne]; omega
          have hsl : (B l).size ≤ 2000 := by rw [size_B, Hl.out]; omega
          clear hne heq hbel
          go_wp2_with fail
          refine (wire_Crc _ [B l] _ (Row.new wr [.string (B l)] 9) (by simp) (by intro s hs; simp at hs; subst hs; omega)).mono ?_
          rintro e w1 ⟨rfl, b1⟩
          have B1 := Lib.hid (step_alloc (Below.refl _ wr) b1)
          clear b1
          go_wp2_with fail
          refine (wire_Crc _ [s] _ (Row.new w1 [.string s] 9) (by simp) (by intro s hs; simp at hs; subst hs; omega)).mono ?_
          rintro e w2 ⟨rfl, b2⟩
          have B2 := Lib.hid (step_alloc B1.out b2)
          clear b2
          go_wp2
          go_ret
          exact ⟨rfl, Hbel.out.trans (B2.out.mono Hbel.out.size)⟩
end Go.Proofs.Ytijjccamcodbfaa
