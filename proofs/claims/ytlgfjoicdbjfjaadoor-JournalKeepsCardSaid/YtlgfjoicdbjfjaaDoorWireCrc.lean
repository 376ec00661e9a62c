/- wire.Crc: for every list of texts the sum of all their bytes, as the plain function has it. Condition: lengths fit an int. -/
import Derived.Test.YtlgfjoicdbjfjaaDoorBase
import Derived.Test.YtlgfjoicdbjfjaaDoorWirePlain
namespace Go.Proofs.YtlgfjoicdbjfjaaDoor
open Go.RowKit Go.Wir

theorem wire_bit (c : Nat) (hc : c < 4294967296) : bits .xor .u32 ((c : Int) / 2) (bits .and .u32 3988292384 (-bits .and .u32 (c : Int) 1 % 4294967296)) = ((crcBit c : Nat) : Int) := by
  rw [u32_and (c : Int) 1 (by omega) (by omega) (by omega) (by omega)]
  rw [show ((c : Int).toNat &&& (1 : Int).toNat) = c % 2 from nat_mask1 c]
  unfold crcBit
  by_cases h : c % 2 = 1
  · rw [if_pos h, h, show (-((1 : Nat) : Int) % 4294967296) = 4294967295 by omega, u32_and _ _ (by omega) (by omega) (by omega) (by omega)]
    rw [show ((3988292384 : Int).toNat &&& (4294967295 : Int).toNat) = 3988292384 by decide]
    rw [u32_xor _ _ (by omega) (by omega) (by omega) (by omega), show ((c : Int) / 2).toNat = c / 2 by omega]; rfl
  · have h0 : c % 2 = 0 := by omega
    rw [if_neg h, h0, show (-((0 : Nat) : Int) % 4294967296) = 0 by omega, u32_and _ _ (by omega) (by omega) (by omega) (by omega)]
    rw [show ((3988292384 : Int).toNat &&& (0 : Int).toNat) = 0 by decide]
    rw [u32_xor _ _ (by omega) (by omega) (by omega) (by omega), show ((c : Int) / 2).toNat = c / 2 by omega]; simp
theorem wire_byte (c : Nat) (hc : c < 4294967296) (b : UInt8) : bits .xor .u32 (c : Int) ((b.toNat : Int) % 4294967296) = ((c ^^^ b.toNat : Nat) : Int) := by
  have := b.toNat_lt
  rw [u32_xor _ _ (by omega) (by omega) (by omega) (by omega)]
  have : ((b.toNat : Int) % 4294967296).toNat = b.toNat := by omega
  rw [this]; rfl
theorem wire_not (c : Nat) (hc : c < 4294967296) : bits .xor .u32 4294967295 (c : Int) = ((c ^^^ 4294967295 : Nat) : Int) := by
  rw [u32_xor _ _ (by omega) (by omega) (by omega) (by omega), Nat.xor_comm]; rfl
/-- The bytes of texts, one behind the other. -/
def partsL (ss : List ByteArray) : List UInt8 := ss.flatMap L
theorem partsL_take (ss : List ByteArray) (k : Nat) (h : k < ss.length) : partsL (ss.take (k + 1)) = partsL (ss.take k) ++ L ss[k] := by
  unfold partsL; rw [List.take_succ_eq_append_getElem h, List.flatMap_append, List.flatMap_cons, List.flatMap_nil, List.append_nil]

set_option maxHeartbeats 400000 in
theorem wire_Crc_row (ss : List ByteArray) (b off cap : Nat) (hn : ss.length ≤ 9223372036854775807) (hs : ∀ s ∈ ss, s.size ≤ 9223372036854775807) (w : World) (hcell : ∀ i (h : i < ss.length), w.cell? ⟨b, off + i, none⟩ = some (.string ss[i])) :
    Calls Tryd.prog 60 #[.slice (some ⟨b, off, none⟩) ss.length cap] w fun e w' => e = .returned (.int .u32 ((crc (partsL ss) : Nat) : Int)) ∧ Below w.heap.size w w' := by
  have Hcell := Lib.hid hcell
  clear hcell
  go_enter Tryd.func60, Tryd.ntmps60
  go_wp2
  go_loop [3, 9] (fun c i => ∃ k : Nat, k ≤ ss.length ∧ i = .int .i64 k ∧ c = .int .u32 ((crcFrom 4294967295 (partsL (ss.take k)) : Nat) : Int)) (fun _ i => ss.length - (intOf i).toNat)
  case atStart => exact ⟨0, Nat.zero_le _, rfl, rfl⟩
  case round =>
    obtain ⟨k, hk, rfl, rfl⟩ := hrel
    have hl0 := crcFrom_lt (partsL (ss.take k)) 4294967295 (by omega)
    by_cases hlt : k < ss.length
    · have hc := Hcell.out k hlt
      have hsk := hs ss[k] (List.getElem_mem hlt)
      have Hp := Lib.hid (partsL_take ss k hlt)
      generalize ss[k] = s at *
      generalize hc0 : crcFrom 4294967295 (partsL (ss.take k)) = c0 at *
      have Hc0 := Lib.hid hc0
      clear hc0
      go_wp2
      go_loop [3, 15] (fun c i => ∃ j : Nat, j ≤ s.size ∧ i = .int .i64 j ∧ c = .int .u32 ((crcFrom c0 ((L s).take j) : Nat) : Int)) (fun _ i => s.size - (intOf i).toNat)
      case atStart => exact ⟨0, by omega, rfl, rfl⟩
      case round =>
        obtain ⟨j, hj, rfl, rfl⟩ := hrel
        by_cases hlj : j < s.size
        · have hl1 := crcFrom_lt ((L s).take j) c0 hl0
          have Ht := Lib.hid (crcFrom_take c0 (L s) j (by rw [length_L]; exact hlj))
          have hx := wire_byte _ hl1 s[j]
          have hl2 := xor_lt _ _ hl1 (show s[j].toNat < 4294967296 by have := s[j].toNat_lt; omega)
          generalize hd : crcFrom c0 ((L s).take j) ^^^ s[j].toNat = d at hx hl2
          have Hd := Lib.hid hd
          clear hd
          go_wp2
          go_loop [3, 24] (fun c i => ∃ m : Nat, m ≤ 8 ∧ i = .int .i64 m ∧ c = .int .u32 ((crcBits m d : Nat) : Int)) (fun _ i => 8 - (intOf i).toNat)
          case atStart => exact ⟨0, by omega, rfl, rfl⟩
          case round =>
            obtain ⟨m, hm, rfl, rfl⟩ := hrel
            by_cases hm8 : m < 8
            · have hl := crcBits_lt m d hl2
              have hb := wire_bit _ hl
              go_wp2
              go_round
              case rel => exact ⟨m + 1, by omega, by go_num, rfl⟩
              case measure => simp [intOf]; omega
            · obtain rfl : m = 8 := by omega
              go_wp2
              go_round
              case rel => exact ⟨j + 1, by omega, by go_num, by apply val_u32; rw [Ht.out, ← get_L s j hlj, Hd.out]⟩
              case measure => simp [intOf]; omega
        · obtain rfl : j = s.size := by omega
          go_wp2
          go_round
          case rel => exact ⟨k + 1, by omega, by go_num, by apply val_u32; rw [Hp.out, crcFrom_append, Hc0.out, List.take_of_length_le (by rw [length_L]; omega)]⟩
          case measure => simp [intOf]; omega
    · obtain rfl : k = ss.length := by omega
      clear hl0
      go_wp2
      go_ret
      exact ⟨ret_u32 (wire_not _ (crcFrom_lt _ _ (by omega))), Below.refl _ _⟩

theorem wire_Crc_nil (a : Option Addr) (cap : Nat) (w : World) :
    Calls Tryd.prog 60 #[.slice a 0 cap] w fun e w' => e = .returned (.int .u32 0) ∧ Below w.heap.size w w' := by
  go_enter Tryd.func60, Tryd.ntmps60
  go_wp2
  go_loop [3, 9] (fun c i => i = .int .i64 0 ∧ c = .int .u32 4294967295) (fun _ _ => 0)
  case atStart => exact ⟨rfl, rfl⟩
  case round =>
    obtain ⟨rfl, rfl⟩ := hrel
    go_wp2
    go_ret
    exact ⟨rfl, Below.refl _ _⟩

/-- wire.Crc at whatever slice of texts. -/
theorem wire_Crc (v : Value) (ss : List ByteArray) (w : World) (h : Row w v (ss.map .string)) (hn : ss.length ≤ 9223372036854775807) (hs : ∀ s ∈ ss, s.size ≤ 9223372036854775807) :
    Calls Tryd.prog 60 #[v] w fun e w' => e = .returned (.int .u32 ((crc (partsL ss) : Nat) : Int)) ∧ Below w.heap.size w w' := by
  rcases h with ⟨a, cap, rfl, h⟩ | ⟨b, off, cap, rfl, _, _, h⟩
  · obtain rfl : ss = [] := by simpa using h
    exact wire_Crc_nil a cap w
  · rw [List.length_map]
    exact wire_Crc_row ss b off cap hn hs w fun i hi => by rw [h i (by simpa using hi)]; simp
end Go.Proofs.YtlgfjoicdbjfjaaDoor
