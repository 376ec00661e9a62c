/- The reference's ToVar, Text and ToText do what the plain functions do. Conditions: the text's length is at most 2^40. -/
import Derived.Test.YteemloillnfaeaaDoorRef2Var
import Derived.Deep.RegionWith
namespace Go.Proofs.YteemloillnfaeaaDoor
open Go.RowKit Go.Wir

/-- What the reference's ToVar answers. -/
def rToVarV : Option (Nat × List UInt8) → Value
  | none => .tuple #[.int .u64 0, .string ⟨#[]⟩, .bool false]
  | some (n, r) => .tuple #[.int .u64 (n : Nat), .string (B r), .bool true]
/-- The bytes ahead go on. -/
def rGoing (l : List UInt8) (k : Nat) : Prop := ∀ b ∈ l.take k, 127 < b.toNat
/-- What has been gathered behind k bytes; the place of the next. -/
def rGath (l : List UInt8) (k : Nat) : Nat := lowv (l.take k) % 18446744073709551616
def rPlace (k : Nat) : Nat := 128 ^ k % 18446744073709551616
theorem rGath_step (s : ByteArray) (k : Nat) (h : k < s.size) :
    IntKind.u64.wrap (((rGath (L s) k : Nat) : Int) + IntKind.u64.wrap ((s[k].toNat : Int) % 128 * ((rPlace k : Nat) : Int))) = ((rGath (L s) (k + 1) : Nat) : Int) := by
  have ht := lowv_take (L s) k (by rw [length_L]; exact h)
  rw [← get_L s k h] at ht
  unfold rGath rPlace
  rw [ht, IntKind.wrap_u64, IntKind.wrap_u64]
  generalize lowv ((L s).take k) = a
  generalize (128 : Nat) ^ k = p
  generalize hm : s[k].toNat % 128 = m
  have e : (s[k].toNat : Int) % 128 = (m : Int) := by omega
  rw [e]
  have e2 : (m : Int) * ((p % 18446744073709551616 : Nat) : Int) % 18446744073709551616 = ((p * m % 18446744073709551616 : Nat) : Int) := by
    have : m * (p % 18446744073709551616) % 18446744073709551616 = p * m % 18446744073709551616 := by rw [Nat.mul_mod_mod, Nat.mul_comm]
    rw [show ((p % 18446744073709551616 : Nat) : Int) = ((p % 18446744073709551616 : Nat) : Int) from rfl, ← Int.natCast_mul, ← this]; rfl
  rw [e2]
  omega
theorem rPlace_step (k : Nat) : IntKind.u64.wrap (((rPlace k : Nat) : Int) * 128) = ((rPlace (k + 1) : Nat) : Int) := by
  unfold rPlace
  rw [IntKind.wrap_u64, Nat.pow_succ]
  generalize (128 : Nat) ^ k = p
  omega

set_option maxRecDepth 100000 in
set_option maxHeartbeats 800000 in
theorem ref2_ToVar (s : ByteArray) (hs : s.size ≤ 9223372036854775807) (w : World) :
    Calls Tryd.prog 64 #[.string s] w fun e w' => e = .returned (rToVarV (toVarL (L s))) ∧ Below w.heap.size w w' := by
  go_enter Tryd.func64, Tryd.ntmps64
  go_wp2
  go_loopw [5, 6, 7] (fun v p i wr => ∃ k : Nat, k ≤ s.size ∧ k ≤ 10 ∧ i = .int .i64 k ∧ rGoing (L s) k ∧ v = .int .u64 ((rGath (L s) k : Nat) : Int) ∧ p = .int .u64 ((rPlace k : Nat) : Int) ∧ Below w.heap.size w wr) (fun _ _ i _ => s.size - (intOf i).toNat)
  case atStart => exact ⟨0, by omega, by omega, rfl, by simp [rGoing], rfl, rfl, Below.refl _ _⟩
  case round =>
    obtain ⟨k, hk, hk10, rfl, hg, rfl, rfl, hb⟩ := hrel
    by_cases hlt : k < s.size ∧ k < 10
    · obtain ⟨h1, h2⟩ := hlt
      have hs1 := rGath_step s k h1
      have hs2 := rPlace_step k
      have Hg := Lib.hid (take_snoc_all (L s) k (by rw [length_L]; exact h1) hg)
      rw [← get_L s k h1] at Hg
      have Hat := Lib.hid (toVarL_at (L s) k (by rw [length_L]; exact h1) h2 hg)
      have Hiff : Hid (¬ 127 < s[k].toNat → (varL (rGath (L s) (k + 1)) = (L s).take (k + 1) ↔ ¬ ((k = 9 ∧ 1 < s[k].toNat) ∨ (0 < k ∧ s[k].toNat = 0)))) := by
        have := varL_iff (L s) k (by rw [length_L]; exact h1) h2 hg
        rw [← get_L s k h1] at this; exact this
      rw [← get_L s k h1] at Hat
      clear hg
      by_cases hc : 127 < s[k].toNat
      · go_wp2
        go_roundw
        case rel => exact ⟨k + 1, by omega, by omega, by go_num, Hg.out hc, rfl, rfl, hb⟩
        case measure => simp [intOf]; omega
      · have hx : (k : Int) + 1 ≤ s.size := by omega
        have q1 : IntKind.i64.wrap ((k : Int) + 1) = (k : Int) + 1 := IntWalk.i64_in _ (by omega)
        have q2 : (0 : Int) ≤ (k : Int) + 1 := by omega
        have q3 : ((k : Int) + 1).toNat = k + 1 := by omega
        have q4 : k + 1 ≤ s.size := by omega
        have ht : (!(B (varL (rGath (L s) (k + 1)))).toList == (s.extract 0 (k + 1)).toList) = !decide (varL (rGath (L s) (k + 1)) = (L s).take (k + 1)) := by
          rw [str_eq, L_B, L_extract]; simp
        by_cases hbad : (k = 9 ∧ 1 < s[k].toNat) ∨ (0 < k ∧ s[k].toNat = 0)
        · have hr : Hid (toVarL (L s) = none) := Lib.hid (by rw [Hat.out hc, if_pos hbad])
          rw [decide_eq_false (fun e => (Hiff.out hc).1 e hbad), Bool.not_false] at ht
          clear hbad
          go_wp2
          go_region_with (go_at_call 77; refine (ref2_Var _ (by omega) (by unfold rGath; omega) _).mono ?_; rintro e w1 ⟨rfl, hb1⟩)
          go_wp2
          go_ret3
          exact ⟨by rw [hr.out]; rfl, hb.drew.trans (hb1.mono hb.size)⟩
        · have hr : Hid (toVarL (L s) = some (lowv ((L s).take (k + 1)), (L s).drop (k + 1))) := Lib.hid (by rw [Hat.out hc, if_neg hbad])
          have hlt64 := Lib.hid (toVarL_some hr.out).1
          rw [decide_eq_true ((Hiff.out hc).2 hbad), Bool.not_true] at ht
          clear hbad
          go_wp2
          go_region_with (go_at_call 77; refine (ref2_Var _ (by omega) (by unfold rGath; omega) _).mono ?_; rintro e w1 ⟨rfl, hb1⟩)
          go_wp2
          go_quiet (fail)
          go_wp2
          go_ret3
          refine ⟨?_, below_drewN (hb.drew.trans (hb1.mono hb.size)) _⟩
          rw [hr.out]
          simp only [rToVarV]
          rw [← extract_to_end, ← Nat.mod_eq_of_lt hlt64.out]
          rfl
    · have hr : Hid (toVarL (L s) = none) := Lib.hid (toVarL_end (L s) k (by rw [length_L]; exact hk) hk10 hg (by rw [length_L]; omega))
      clear hg
      by_cases hk1 : k < s.size
      · have hk2 : 10 ≤ k := by omega
        go_wp2
        go_ret3
        exact ⟨by rw [hr.out]; rfl, hb⟩
      · go_wp2
        go_ret3
        exact ⟨by rw [hr.out]; rfl, hb⟩

theorem ref2_ToVar_none (s : ByteArray) (hs : s.size ≤ 9223372036854775807) (h : toVarL (L s) = none) (w : World) :
    Calls Tryd.prog 64 #[.string s] w fun e w' => e = .returned (.tuple #[.int .u64 0, .string ⟨#[]⟩, .bool false]) ∧ Below w.heap.size w w' := by
  have := ref2_ToVar s hs w
  rw [h] at this; exact this
theorem ref2_ToVar_some (s : ByteArray) (n : Nat) (r : List UInt8) (hs : s.size ≤ 9223372036854775807) (h : toVarL (L s) = some (n, r)) (w : World) :
    Calls Tryd.prog 64 #[.string s] w fun e w' => e = .returned (.tuple #[.int .u64 (n : Nat), .string (B r), .bool true]) ∧ Below w.heap.size w w' := by
  have := ref2_ToVar s hs w
  rw [h] at this; exact this
theorem r_toVarL_le {l : List UInt8} {n : Nat} {r : List UInt8} (h : toVarL l = some (n, r)) : r.length ≤ l.length := by
  have := congrArg List.length (toVarL_some h).2
  simp at this; omega
end Go.Proofs.YteemloillnfaeaaDoor
