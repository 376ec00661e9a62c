/- The reference's sum (codexref2.Crc): for every text the sum as the plain function has it. Condition: the text's length fits an int. -/
import Derived.Test.YteemloillnfaeaaDoorBase
import Derived.Test.YteemloillnfaeaaDoorWirePlain
namespace Go.Proofs.YteemloillnfaeaaDoor
open Go.RowKit Go.Wir

theorem ref_bit_odd (c : Nat) (hc : c < 4294967296) (h : ((c : Int) % 2 == 1) = true) : bits .xor .u32 ((c : Int) / 2) 3988292384 = ((crcBit c : Nat) : Int) := by
  have h1 : c % 2 = 1 := by have := beq_iff_eq.1 h; omega
  rw [u32_xor _ _ (by omega) (by omega) (by omega) (by omega)]
  unfold crcBit; rw [if_pos h1]
  have : ((c : Int) / 2).toNat = c / 2 := by omega
  rw [this]; rfl
theorem ref_bit_even (c : Nat) (h : ((c : Int) % 2 == 1) = false) : (c : Int) / 2 = ((crcBit c : Nat) : Int) := by
  have h1 : ¬ c % 2 = 1 := by have := beq_eq_false_iff_ne.1 h; omega
  unfold crcBit; rw [if_neg h1]; omega
theorem xor_byte (c : Nat) (hc : c < 4294967296) (b : UInt8) : bits .xor .u32 (c : Int) ((b.toNat : Int) % 4294967296) = ((c ^^^ b.toNat : Nat) : Int) := by
  have := b.toNat_lt
  rw [u32_xor _ _ (by omega) (by omega) (by omega) (by omega)]
  have : ((b.toNat : Int) % 4294967296).toNat = b.toNat := by omega
  rw [this]; rfl
theorem xor_all (c : Nat) (hc : c < 4294967296) : bits .xor .u32 (c : Int) 4294967295 = ((c ^^^ 4294967295 : Nat) : Int) := by
  rw [u32_xor _ _ (by omega) (by omega) (by omega) (by omega)]; rfl

set_option maxHeartbeats 400000 in
theorem ref2_Crc (s : ByteArray) (hs : s.size ≤ 9223372036854775807) (w : World) :
    Calls Tryd.prog 30 #[.string s] w fun e w' => e = .returned (.int .u32 ((crc (L s) : Nat) : Int)) ∧ Below w.heap.size w w' := by
  go_enter Tryd.func30, Tryd.ntmps30
  go_wp2
  go_loop [3, 4] (fun c i => ∃ k : Nat, k ≤ s.size ∧ i = .int .i64 k ∧ c = .int .u32 ((crcFrom 4294967295 ((L s).take k) : Nat) : Int)) (fun _ i => s.size - (intOf i).toNat)
  case atStart => exact ⟨0, Nat.zero_le _, rfl, rfl⟩
  case round =>
    obtain ⟨k, hk, rfl, rfl⟩ := hrel
    have hc0 := crcFrom_lt ((L s).take k) 4294967295 (by omega)
    by_cases hlt : k < s.size
    · have hx := xor_byte _ hc0 s[k]
      have hts := Lib.hid (crcFrom_take 4294967295 (L s) k (by rw [length_L]; exact hlt))
      have hc := xor_lt _ _ hc0 (show s[k].toNat < 4294967296 by have := s[k].toNat_lt; omega)
      generalize hd : crcFrom 4294967295 ((L s).take k) ^^^ s[k].toNat = d at hx hc
      have Hd := Lib.hid hd
      clear hd
      go_wp2
      go_loop [3, 5] (fun c i => ∃ j : Nat, j ≤ 8 ∧ i = .int .i64 j ∧ c = .int .u32 ((crcBits j d : Nat) : Int)) (fun _ i => 8 - (intOf i).toNat)
      case atStart => exact ⟨0, by omega, rfl, rfl⟩
      case round =>
        obtain ⟨j, hj, rfl, rfl⟩ := hrel
        by_cases hj8 : j < 8
        · have hl := crcBits_lt j d hc
          by_cases ho : (((crcBits j d : Nat) : Int) % 2 == 1) = true
          · have hb := ref_bit_odd _ hl ho
            go_wp2
            go_round
            case rel => exact ⟨j + 1, by omega, by go_num, rfl⟩
            case measure => simp [intOf]; omega
          · have ho : (((crcBits j d : Nat) : Int) % 2 == 1) = false := by simpa using ho
            have hb := ref_bit_even _ ho
            go_wp2
            go_round
            case rel => exact ⟨j + 1, by omega, by go_num, rfl⟩
            case measure => simp [intOf]; omega
        · obtain rfl : j = 8 := by omega
          go_wp2
          go_round
          case rel => exact ⟨k + 1, by omega, by go_num, by apply val_u32; rw [hts.out, ← get_L s k hlt, Hd.out]⟩
          case measure => simp [intOf]; omega
    · obtain rfl : k = s.size := by omega
      have hx := xor_all _ hc0
      go_wp2
      go_ret
      refine ⟨ret_u32 ?_, Below.refl _ _⟩
      rw [List.take_of_length_le (by rw [length_L]; omega)]; rfl
end Go.Proofs.YteemloillnfaeaaDoor
