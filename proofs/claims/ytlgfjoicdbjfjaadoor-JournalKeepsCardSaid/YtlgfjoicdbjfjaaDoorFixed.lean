/- Numbers of four bytes: wire's and the reference's writing and reading do what the plain functions do. Conditions: the number fits, the text's length fits an int. -/
import Derived.Test.YtlgfjoicdbjfjaaDoorBase
import Derived.Test.YtlgfjoicdbjfjaaDoorWirePlain
import Derived.Laws.BytesArg
namespace Go.Proofs.YtlgfjoicdbjfjaaDoor
open Go.RowKit Go.Wir

theorem conv4 (w : World) (a b c d : Int) :
    (convert 49 9 (.slice (some ⟨w.heap.size, 0, none⟩) 4 4)).run Tryd.prog (w.alloc (.cells #[.int .u8 a, .int .u8 b, .int .u8 c, .int .u8 d] 5)) = .ok (.string (strOfNums [a, b, c, d])) (w.alloc (.cells #[.int .u8 a, .int .u8 b, .int .u8 c, .int .u8 d] 5)) := by
  refine run_convert_bytes_arg (P := Tryd.prog) _ 49 5 Tryd.underlying49 Tryd.underlying5 w.heap.size 0 4 4 [a, b, c, d] rfl (fun i hi => ?_) 9 Tryd.underlying9
  have hb : (w.alloc (.cells #[.int .u8 a, .int .u8 b, .int .u8 c, .int .u8 d] 5)).heap[w.heap.size]? = some (.cells #[.int .u8 a, .int .u8 b, .int .u8 c, .int .u8 d] 5 (0, 0)) := heap_alloc_new w _
  simp only [World.cell?, hb, Nat.zero_add]
  have : i = 0 ∨ i = 1 ∨ i = 2 ∨ i = 3 := by omega
  rcases this with rfl | rfl | rfl | rfl <;> rfl
theorem fixed_str (n : Int) (h0 : 0 ≤ n) (h1 : n < 4294967296) : strOfNums [n % 256, n / 256 % 256, n / 65536 % 256, n / 16777216] = B (fixedL n.toNat) := by
  unfold strOfNums B fixedL
  simp only [List.map_cons, List.map_nil]
  rw [show (n % 256).toNat = n.toNat % 256 by omega, show (n / 256 % 256).toNat = n.toNat / 256 % 256 by omega, show (n / 65536 % 256).toNat = n.toNat / 65536 % 256 by omega, show (n / 16777216).toNat = n.toNat / 16777216 by omega]

set_option maxHeartbeats 400000 in
theorem wire_Fixed (n : Int) (h0 : 0 ≤ n) (h1 : n < 4294967296) (w : World) :
    Calls Tryd.prog 49 #[.int .u32 n] w fun e w' => e = .returned (.string (B (fixedL n.toNat))) ∧ Below w.heap.size w w' := by
  have hconv := conv4 w
  go_enter Tryd.func49, Tryd.ntmps49
  go_wp2
  go_ret
  exact ⟨ret_str (fixed_str n h0 h1), (Below.refl _ _).alloc (Nat.le_refl _) _⟩

theorem toFixed_at (s : ByteArray) (h : 4 ≤ s.size) : toFixedL (L s) = some (s[0].toNat + 256 * s[1].toNat + 65536 * s[2].toNat + 16777216 * s[3].toNat, L (s.extract 4 s.size)) := by
  obtain ⟨⟨l⟩⟩ := s
  match l, h with
  | a :: b :: c :: d :: r, _ =>
    rw [L_extract]
    show some (_, r) = _
    congr 2
    show r = _
    rw [List.take_of_length_le (by simp [L, ByteArray.size])]; rfl
  | [], h => simp [ByteArray.size] at h
  | [_], h => simp [ByteArray.size] at h
  | [_, _], h => simp [ByteArray.size] at h
  | [_, _, _], h => simp [ByteArray.size] at h

theorem wire_or4 (a b c d : UInt8) : bits .or .u32 (bits .or .u32 (bits .or .u32 (a.toNat : Int) ((b.toNat : Int) * 256)) ((c.toNat : Int) * 65536)) ((d.toNat : Int) * 16777216) = ((a.toNat + 256 * b.toNat + 65536 * c.toNat + 16777216 * d.toNat : Nat) : Int) := by
  have ha := a.toNat_lt; have hb := b.toNat_lt; have hc := c.toNat_lt; have hd := d.toNat_lt
  have e1 : bits .or .u32 (a.toNat : Int) ((b.toNat : Int) * 256) = ((a.toNat + 256 * b.toNat : Nat) : Int) := by
    rw [u32_or _ _ (by omega) (by omega) (by omega) (by omega), show (a.toNat : Int).toNat = a.toNat by omega, show ((b.toNat : Int) * 256).toNat = 256 * b.toNat by omega, Nat.or_comm, nat_join 8 (256 * b.toNat) a.toNat (by omega) (by omega)]; omega
  have e2 : bits .or .u32 ((a.toNat + 256 * b.toNat : Nat) : Int) ((c.toNat : Int) * 65536) = ((a.toNat + 256 * b.toNat + 65536 * c.toNat : Nat) : Int) := by
    rw [u32_or _ _ (by omega) (by omega) (by omega) (by omega), Int.toNat_natCast, show ((c.toNat : Int) * 65536).toNat = 65536 * c.toNat by omega, Nat.or_comm, nat_join 16 (65536 * c.toNat) _ (by omega) (by omega)]; omega
  have e3 : bits .or .u32 ((a.toNat + 256 * b.toNat + 65536 * c.toNat : Nat) : Int) ((d.toNat : Int) * 16777216) = ((a.toNat + 256 * b.toNat + 65536 * c.toNat + 16777216 * d.toNat : Nat) : Int) := by
    rw [u32_or _ _ (by omega) (by omega) (by omega) (by omega), Int.toNat_natCast, show ((d.toNat : Int) * 16777216).toNat = 16777216 * d.toNat by omega, Nat.or_comm, nat_join 24 (16777216 * d.toNat) _ (by omega) (by omega)]; omega
  rw [e1, e2, e3]

theorem wire_ToFixed_none (s : ByteArray) (h : s.size < 4) (w : World) :
    Calls Tryd.prog 52 #[.string s] w fun e w' => e = .returned (.tuple #[.int .u32 0, .string ⟨#[]⟩, .bool false]) ∧ Below w.heap.size w w' := by
  go_enter Tryd.func52, Tryd.ntmps52
  go_wp2
  go_ret3
  exact ⟨rfl, Below.refl _ _⟩
set_option maxHeartbeats 400000 in
theorem wire_ToFixed_some (s : ByteArray) (hs : s.size ≤ 9223372036854775807) (h : 4 ≤ s.size) (w : World) :
    Calls Tryd.prog 52 #[.string s] w fun e w' => e = .returned (.tuple #[.int .u32 ((s[0].toNat + 256 * s[1].toNat + 65536 * s[2].toNat + 16777216 * s[3].toNat : Nat) : Int), .string (s.extract 4 s.size), .bool true]) ∧ Below w.heap.size w w' := by
  have h0 := s[0].toNat_lt; have h1 := s[1].toNat_lt; have h2 := s[2].toNat_lt; have h3 := s[3].toNat_lt
  go_enter Tryd.func52, Tryd.ntmps52
  have k0 : (0 : Int) < s.size := by omega
  have k1 : (1 : Int) < s.size := by omega
  have k2 : (2 : Int) < s.size := by omega
  have k3 : (3 : Int) < s.size := by omega
  have k4 : (4 : Int) ≤ s.size := by omega
  have n0 : 0 < s.size := by omega
  have n1 : 1 < s.size := by omega
  have n2 : 2 < s.size := by omega
  have n3 : 3 < s.size := by omega
  have hv := wire_or4 s[0] s[1] s[2] s[3]
  go_wp2
  go_quiet (fail)
  go_wp2
  go_ret3
  exact ⟨rfl, below_drewN (Below.refl _ _) _⟩

theorem wire_ToFixed_val (s : ByteArray) (hs : s.size ≤ 9223372036854775807) (n : Nat) (r : List UInt8) (h : toFixedL (L s) = some (n, r)) (w : World) :
    Calls Tryd.prog 52 #[.string s] w fun e w' => e = .returned (.tuple #[.int .u32 (n : Nat), .string (B r), .bool true]) ∧ Below w.heap.size w w' := by
  by_cases h4 : 4 ≤ s.size
  · have e := toFixed_at s h4
    rw [h] at e
    simp only [Option.some.injEq, Prod.mk.injEq] at e
    rw [e.1, e.2, B_L]
    exact wire_ToFixed_some s hs h4 w
  · rw [toFixedL_none _ (by rw [length_L]; omega)] at h
    simp at h
end Go.Proofs.YtlgfjoicdbjfjaaDoor
