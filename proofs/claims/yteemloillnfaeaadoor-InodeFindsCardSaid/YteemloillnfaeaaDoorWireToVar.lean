/- wire.ToVar and wire.ToText: a number, a text, read from bytes, or refused, as the plain functions have it. Condition: the text's length fits an int. -/
import Derived.Test.YteemloillnfaeaaDoorBase
import Derived.Test.YteemloillnfaeaaDoorWirePlain
namespace Go.Proofs.YteemloillnfaeaaDoor
open Go.RowKit Go.Wir

/-- What ToVar answers. -/
def toVarV : Option (Nat × List UInt8) → Value
  | none => .tuple #[.int .u64 0, .string ⟨#[]⟩, .bool false]
  | some (n, r) => .tuple #[.int .u64 (n : Nat), .string (B r), .bool true]

/-- The bytes ahead go on. -/
def Going (l : List UInt8) (k : Nat) : Prop := ∀ b ∈ l.take k, 127 < b.toNat
/-- What has been gathered behind k bytes. -/
def gath (l : List UInt8) (k : Nat) : Nat := lowv (l.take k) % 18446744073709551616
theorem gath_step (s : ByteArray) (k : Nat) (h : k < s.size) (hk : k < 10) :
    bits .or .u64 ((gath (L s) k : Nat) : Int) (IntKind.u64.wrap (IntKind.u64.wrap (bits .and .u8 ((s[k].toNat : Nat) : Int) 127) * 2 ^ (7 * k))) = ((gath (L s) (k + 1) : Nat) : Int) := by
  have hc := s[k].toNat_lt
  have hl := lowv_lt ((L s).take k)
  rw [List.length_take, length_L, Nat.min_eq_left (by omega)] at hl
  have ht := lowv_take (L s) k (by rw [length_L]; exact h)
  rw [← get_L s k h] at ht
  have hp : (128 : Nat) ^ k ≤ 128 ^ 9 := Nat.pow_le_pow_right (by omega) (by omega)
  have hq : (2 : Nat) ^ (7 * k) = 128 ^ k := by rw [Nat.pow_mul]
  have h9 : (128 : Nat) ^ 9 = 9223372036854775808 := by decide
  rw [h9] at hp
  unfold gath
  rw [ht, u8_and _ _ (by omega) (by omega) (by omega) (by omega), show ((s[k].toNat : Nat) : Int).toNat = s[k].toNat by omega, show (127 : Int).toNat = 127 from rfl, nat_mask7]
  have hq' : (2 : Int) ^ (7 * k) = ((128 ^ k : Nat) : Int) := by rw [← hq]; simp
  rw [hq', IntKind.wrap_u64, IntKind.wrap_u64]
  generalize hP : (128 : Nat) ^ k = p at *
  generalize lowv ((L s).take k) = a at *
  have e1 : ((s[k].toNat % 128 : Nat) : Int) % 18446744073709551616 = ((s[k].toNat % 128 : Nat) : Int) := by omega
  rw [e1]
  generalize hm : s[k].toNat % 128 = m
  have hm' : m < 128 := by omega
  have e2 : (m : Int) * (p : Int) % 18446744073709551616 = ((p * m % 18446744073709551616 : Nat) : Int) := by rw [Nat.mul_comm]; simp
  rw [e2]
  have ha : a % 18446744073709551616 = a := by omega
  have hpm : p * m % 18446744073709551616 % p = 0 := by
    have hpd : 18446744073709551616 % p = 0 := by
      subst hP
      have : k = 0 ∨ k = 1 ∨ k = 2 ∨ k = 3 ∨ k = 4 ∨ k = 5 ∨ k = 6 ∨ k = 7 ∨ k = 8 ∨ k = 9 := by omega
      rcases this with rfl | rfl | rfl | rfl | rfl | rfl | rfl | rfl | rfl | rfl <;> decide
    rw [Nat.mod_mod_of_dvd _ (Nat.dvd_of_mod_eq_zero hpd), Nat.mul_mod_right]
  rw [ha, u64_or _ _ (by omega) (by omega) (by omega) (by omega), Int.toNat_natCast, Int.toNat_natCast]
  have hj := nat_join (7 * k) (p * m % 18446744073709551616) a (by rw [hq]; exact hpm) (by rw [hq]; exact hl)
  rw [Nat.or_comm, hj]
  have hx : p * m % 18446744073709551616 + a < 18446744073709551616 := by
    have hx1 : p * m % 18446744073709551616 ≤ 18446744073709551616 - p := by
      have hlt : p * m % 18446744073709551616 < 18446744073709551616 := Nat.mod_lt _ (by omega)
      have hdv : p ∣ 18446744073709551616 - p * m % 18446744073709551616 := by
        have hpd : p ∣ 18446744073709551616 := by
          subst hP
          have : k = 0 ∨ k = 1 ∨ k = 2 ∨ k = 3 ∨ k = 4 ∨ k = 5 ∨ k = 6 ∨ k = 7 ∨ k = 8 ∨ k = 9 := by omega
          rcases this with rfl | rfl | rfl | rfl | rfl | rfl | rfl | rfl | rfl | rfl <;> decide
        exact Nat.dvd_sub hpd (Nat.dvd_of_mod_eq_zero hpm)
      have := Nat.le_of_dvd (by omega) hdv
      omega
    have : p ≤ 18446744073709551616 := by omega
    omega
  congr 1
  rw [Nat.add_mod a, Nat.mod_eq_of_lt (show a < 18446744073709551616 by omega), Nat.add_comm a, Nat.mod_eq_of_lt hx]
theorem quo7 (k : Nat) (h : k < 10) : (0 : Int) ≤ 7 * (k : Int) := by omega

/-- The answer where the k-th byte ends the number. -/
theorem toVar_bad (s : ByteArray) (k : Nat) (h : k < s.size) (hk : k < 10) (hg : Going (L s) k) (hc : ¬ 127 < s[k].toNat) (hb : (k = 9 ∧ 1 < s[k].toNat) ∨ (0 < k ∧ s[k].toNat = 0)) : toVarL (L s) = none := by
  rw [get_L s k h] at hc hb
  rw [toVarL_at (L s) k (by rw [length_L]; exact h) hk hg hc, if_pos hb]
theorem toVar_good (s : ByteArray) (k : Nat) (h : k < s.size) (hk : k < 10) (hg : Going (L s) k) (hc : ¬ 127 < s[k].toNat) (hb : ¬ ((k = 9 ∧ 1 < s[k].toNat) ∨ (0 < k ∧ s[k].toNat = 0))) : toVarL (L s) = some (gath (L s) (k + 1), (L s).drop (k + 1)) := by
  rw [get_L s k h] at hc hb
  have := toVarL_at (L s) k (by rw [length_L]; exact h) hk hg hc
  rw [if_neg hb] at this
  have h2 := (toVarL_some this).1
  rw [this]; unfold gath; rw [Nat.mod_eq_of_lt h2]
theorem toVar_over (s : ByteArray) (k : Nat) (h : k ≤ s.size) (hk : k ≤ 10) (hg : Going (L s) k) (he : k = s.size ∨ k = 10) : toVarL (L s) = none :=
  toVarL_end (L s) k (by rw [length_L]; exact h) hk hg (by rw [length_L]; exact he)

set_option maxRecDepth 100000 in
set_option maxHeartbeats 800000 in
theorem wire_ToVar (s : ByteArray) (hs : s.size ≤ 9223372036854775807) (w : World) :
    Calls Tryd.prog 55 #[.string s] w fun e w' => e = .returned (toVarV (toVarL (L s))) ∧ Below w.heap.size w w' := by
  go_enter Tryd.func55, Tryd.ntmps55
  go_wp2
  all_goals
    go_loop [5, 11] (fun v i => ∃ k : Nat, k ≤ s.size ∧ k ≤ 10 ∧ i = .int .i64 k ∧ Going (L s) k ∧ v = .int .u64 ((gath (L s) k : Nat) : Int)) (fun _ i => s.size - (intOf i).toNat)
    case atStart => exact ⟨0, by omega, by omega, rfl, by simp [Going], rfl⟩
    case round =>
      obtain ⟨k, hk, hk10, rfl, hg, rfl⟩ := hrel
      by_cases hlt : k < s.size ∧ k < 10
      · obtain ⟨h1, h2⟩ := hlt
        have hstep := gath_step s k h1 h2
        have Hbad := Lib.hid (toVar_bad s k h1 h2 hg)
        have Hgood := Lib.hid (toVar_good s k h1 h2 hg)
        have Hg := Lib.hid (take_snoc_all (L s) k (by rw [length_L]; exact h1) hg)
        rw [← get_L s k h1] at Hg
        clear hg
        by_cases hc : 127 < s[k].toNat
        · go_wp2
          go_round
          case rel => exact ⟨k + 1, by omega, by omega, by go_num, Hg.out hc, rfl⟩
          case measure => simp [intOf]; omega
        · have hc' : (s[k].toNat : Int) ≤ 127 := by omega
          by_cases h9 : k = 9 ∧ 1 < s[k].toNat
          · have hr := Lib.hid (Hbad.out hc (.inl h9))
            have hk9 : ((k : Int) == 9) = true := by rw [beq_iff_eq]; omega
            have h91 : 1 < (s[k].toNat : Int) := by omega
            clear h9
            go_wp2
            go_ret3
            exact ⟨by rw [hr.out]; rfl, Below.refl _ _⟩
          · by_cases h0 : 0 < k ∧ s[k].toNat = 0
            · have hr := Lib.hid (Hbad.out hc (.inr h0))
              have hz : ((s[k].toNat : Int) == 0) = true := by rw [h0.2]; rfl
              have hz1 : (s[k].toNat : Int) ≤ 1 := by rw [h0.2]; decide
              have hk0 := h0.1
              clear h0 h9
              go_wp2
              all_goals go_ret3
              all_goals exact ⟨by rw [hr.out]; rfl, Below.refl _ _⟩
            · have hr := Lib.hid (Hgood.out hc (fun h => h.elim h9 h0))
              have hx : (k : Int) + 1 ≤ s.size := by omega
              have hxx : k + 1 ≤ s.size := by omega
              by_cases hk0 : k = 0
              · subst hk0
                have hstep0 : bits .or .u64 ((gath (L s) 0 : Nat) : Int) (IntKind.u64.wrap (IntKind.u64.wrap (bits .and .u8 ((s[0].toNat : Nat) : Int) 127))) = ((gath (L s) 1 : Nat) : Int) := by simpa using hstep
                have hx1 : (1 : Int) ≤ s.size := by omega
                clear h9 h0 hstep hx
                go_wp2
                go_quiet (fail)
                go_wp2
                go_ret3
                exact ⟨by rw [hr.out]; simp only [toVarV]; rw [← extract_to_end]; rfl, below_drewN (Below.refl _ _) _⟩
              · have hz : ((s[k].toNat : Int) == 0) = false := by rw [beq_eq_false_iff_ne]; omega
                have hk0' : 0 < k := by omega
                have hzz : k = 9 → (s[k].toNat : Int) ≤ 1 := by omega
                clear h9 h0
                by_cases hk9 : k = 9
                · have hz1 := hzz hk9
                  have hk9' : ((k : Int) == 9) = true := by rw [beq_iff_eq]; omega
                  clear hzz hk9
                  go_wp2
                  go_quiet (fail)
                  go_wp2
                  go_ret3
                  exact ⟨by rw [hr.out]; simp only [toVarV]; rw [← extract_to_end]; rfl, below_drewN (Below.refl _ _) _⟩
                · have hk9' : ((k : Int) == 9) = false := by rw [beq_eq_false_iff_ne]; omega
                  clear hzz
                  go_wp2
                  go_quiet (fail)
                  go_wp2
                  go_ret3
                  exact ⟨by rw [hr.out]; simp only [toVarV]; rw [← extract_to_end]; rfl, below_drewN (Below.refl _ _) _⟩
      · have hr := Lib.hid (toVar_over s k hk hk10 hg (by omega))
        clear hg
        go_wp2
        go_ret3
        exact ⟨by rw [hr.out]; rfl, Below.refl _ _⟩

theorem wire_ToVar_none (s : ByteArray) (hs : s.size ≤ 9223372036854775807) (h : toVarL (L s) = none) (w : World) :
    Calls Tryd.prog 55 #[.string s] w fun e w' => e = .returned (.tuple #[.int .u64 0, .string ⟨#[]⟩, .bool false]) ∧ Below w.heap.size w w' := by
  have := wire_ToVar s hs w
  rw [h] at this; exact this
theorem wire_ToVar_some (s : ByteArray) (n : Nat) (r : List UInt8) (hs : s.size ≤ 9223372036854775807) (h : toVarL (L s) = some (n, r)) (w : World) :
    Calls Tryd.prog 55 #[.string s] w fun e w' => e = .returned (.tuple #[.int .u64 (n : Nat), .string (B r), .bool true]) ∧ Below w.heap.size w w' := by
  have := wire_ToVar s hs w
  rw [h] at this; exact this
theorem toVarL_le {l : List UInt8} {n : Nat} {r : List UInt8} (h : toVarL l = some (n, r)) : r.length ≤ l.length := by
  have := congrArg List.length (toVarL_some h).2
  simp at this; omega
end Go.Proofs.YteemloillnfaeaaDoor
