/- The reference's Var: a number as bytes, as the plain function has it. Condition: the number fits 64 bits. -/
import Derived.Test.YteemloillnfaeaaDoorOwnBytes
import Derived.Test.YteemloillnfaeaaDoorWirePlain
namespace Go.Proofs.YteemloillnfaeaaDoor
open Go.RowKit Go.Wir

/-- It fits 64 bits. -/
def Fits (n : Nat) : Prop := n < 18446744073709551616

theorem quo_u64 (n : Nat) (h : Fits n) : IntKind.u64.wrap ((n : Int) / 128) = ((n / 128 : Nat) : Int) := by
  unfold Fits at h; rw [IntKind.wrap_u64]; omega
theorem varF_step (f n p : Nat) (hf : p + f = 9) (hn : n * 128 ^ p < 18446744073709551616) (h : 128 ≤ n) : ∃ g, f = g + 1 ∧ varF f n = UInt8.ofNat (n % 128 + 128) :: varF g (n / 128) ∧ n / 128 * 128 ^ (p + 1) < 18446744073709551616 := by
  cases f with
  | zero =>
    exfalso
    obtain rfl : p = 9 := by omega
    have := Nat.lt_of_le_of_lt (Nat.mul_le_mul_right (128 ^ 9) h) hn
    revert this; decide
  | succ g =>
    refine ⟨g, rfl, ?_, ?_⟩
    · simp only [varF]; rw [if_neg (by omega)]
    · rw [Nat.pow_succ]
      have e : n / 128 * (128 ^ p * 128) = (n / 128 * 128) * 128 ^ p := by ac_rfl
      have h2 := Nat.mul_le_mul_right (128 ^ p) (show n / 128 * 128 ≤ n by omega)
      omega
theorem varF_last (f n : Nat) (h : n < 128) : varF f n = [UInt8.ofNat n] := by
  cases f with
  | zero => rfl
  | succ g => simp only [varF]; rw [if_pos h]

set_option maxRecDepth 100000 in
set_option maxHeartbeats 400000 in
theorem ref2_Var (N : Int) (h0 : 0 ≤ N) (h1 : N < 18446744073709551616) (w : World) :
    Calls Tryd.prog 77 #[.int .u64 N] w fun e w' => e = .returned (.string (B (varL N.toNat))) ∧ Below w.heap.size w w' := by
  obtain ⟨i0, hi, hz0, hz1, hz2⟩ := info_parts Tryd.info_u8
  obtain ⟨N, rfl⟩ := Int.eq_ofNat_of_zero_le h0
  rw [Int.toNat_natCast]
  have hN : N < 18446744073709551616 := by omega
  clear h0 h1
  have HN := Lib.hid hN
  clear hN
  go_enter Tryd.func77, Tryd.ntmps77
  go_wp2
  go_loopw [0, 3] (fun v sl wr => ∃ (f n : Nat) (pre : List UInt8), pre.length + f = 9 ∧ Fits n ∧ Fits (n * 128 ^ pre.length) ∧ varL N = pre ++ varF f n ∧ v = .int .u64 n ∧ wr.ownsRow w.heap.size 5 1 sl pre.length (Lib.byteCells pre) ∧ Below w.heap.size w wr) (fun v _ _ => (intOf v).toNat)
  case atStart => exact ⟨9, N, [], rfl, HN.out, by have := HN.out; simpa [Fits] using this, rfl, rfl, World.ownsRow_nil _ _ _ _, Below.refl _ _⟩
  case round =>
    obtain ⟨f, n, pre, hf, hn, hnp, hv, rfl, hown, hb⟩ := hrel
    have hp : pre.length ≤ 9 := by omega
    have Hv := Lib.hid hv
    clear hv
    have Hf := Lib.hid hf
    clear hf
    have Hnp := Lib.hid hnp
    have hq := quo_u64 n hn
    clear hnp hn HN
    have hbz := hb.size
    by_cases hlt : n < 128
    · go_wp2_with (at_builtin; go_must (refine wpList_append_own _ rfl _ _ 37 rfl w.heap.size 5 i0 (.int .u8 0) 1 1 Tryd.underlying37 hi hz0 hz1 hz2 rfl (by decide) _ _ _ rfl (hown.alloc _) ⟨wr.heap.size, 0, none⟩ 1 1 [.int .u8 (n : Int)] rfl rfl ?c1 ?c2 ?c3 ?c4 ?c5 ?_))
      case c1 => exact cell_one_new _ _ _
      case c2 => simp [Value.oneCell']
      case c3 => unfold maxLen; omega
      case c4 => omega
      case c5 => simp; omega
      intro v' w1 hown' hgrow _
      have hown2 := own_snoc (by omega) (by omega) hown'
      have hconv := conv_own hown2
      have hbel := below_append hb hown hgrow
      clear hown' hgrow hown2
      go_wp2
      go_ret
      exact ⟨ret_str (by rw [Hv.out, varF_last f n hlt]), hbel⟩
    · go_wp2_with (at_builtin; go_must (refine wpList_append_own _ rfl _ _ 37 rfl w.heap.size 5 i0 (.int .u8 0) 1 1 Tryd.underlying37 hi hz0 hz1 hz2 rfl (by decide) _ _ _ rfl (hown.alloc _) ⟨wr.heap.size, 0, none⟩ 1 1 [.int .u8 (128 + (n : Int) % 128)] rfl rfl ?c6 ?c7 ?c8 ?c9 ?c10 ?_))
      case c6 => exact cell_one_new _ _ _
      case c7 => simp [Value.oneCell']
      case c8 => unfold maxLen; omega
      case c9 => omega
      case c10 => simp; omega
      intro v' w1 hown' hgrow _
      have hown2 := Lib.hid (own_snoc (by omega) (by omega) hown')
      have hbel := Lib.hid (below_append hb hown hgrow)
      clear hown' hgrow
      go_wp2
      go_roundw
      case rel =>
        obtain ⟨g, rfl, h1, h2⟩ := varF_step f n pre.length Hf.out Hnp.out (by omega)
        have hf := Hf.out
        refine ⟨g, n / 128, pre ++ [UInt8.ofNat (n % 128 + 128)], by simp; omega, ?_, by simpa [Fits] using h2, by rw [Hv.out, h1]; simp, rfl, ?_, hbel.out⟩
        · exact Nat.lt_of_le_of_lt (Nat.le_mul_of_pos_right _ (Nat.pow_pos (by omega))) h2
        · have := hown2.out
          rw [show (128 + (n : Int) % 128).toNat = n % 128 + 128 by omega] at this
          exact this
      case measure => simp [intOf]; omega
end Go.Proofs.YteemloillnfaeaaDoor
