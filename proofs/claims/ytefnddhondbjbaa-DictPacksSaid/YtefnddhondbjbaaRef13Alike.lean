/- codexref13.alike: how many bytes two texts have alike. Conditions: lengths fit an int. -/
import Derived.Test.YtefnddhondbjbaaDictAlike
import Derived.Test.YtefnddhondbjbaaRef2Text
namespace Go.Proofs.Ytefnddhondbjbaa
open Go.RowKit Go.Wir Go.Dic

set_option maxRecDepth 100000 in
set_option maxHeartbeats 800000 in
theorem ref13_alike (a b : ByteArray) (ha : a.size ≤ 9223372036854775807) (hb : b.size ≤ 9223372036854775807) (w : World) :
    Calls Try.prog 49 #[.string a, .string b] w fun e w' => e = .returned (.int .i64 (alike (L a) (L b) : Nat)) ∧ Below w.heap.size w w' := by
  go_enter Try.func49, Try.ntmps49
  go_wp2
  go_loopw [5] (fun i wr => ∃ k : Nat, k ≤ a.size ∧ k ≤ b.size ∧ i = .int .i64 k ∧ (L a).take k = (L b).take k ∧ Below w.heap.size w wr) (fun i _ => a.size - (intOf i).toNat)
  case atStart => exact ⟨0, by omega, by omega, rfl, rfl, Below.refl _ _⟩
  case round =>
    obtain ⟨k, hka, hkb, rfl, ht, hbel⟩ := hrel
    have Hbel := Lib.hid hbel
    have Ht := Lib.hid ht
    clear ht
    by_cases h1 : k < a.size
    · by_cases h2 : k < b.size
      · have hm1 : decide ((k : Int) < (a.size : Int)) = true := by simp; omega
        have hm2 : decide ((k : Int) < (b.size : Int)) = true := by simp; omega
        by_cases he : a[k] = b[k]
        · have Hn := Lib.hid (alike_go a b k h1 h2 Ht.out he)
          have he' : ((a[k].toNat : Int) == (b[k].toNat : Int)) = true := by rw [he]; simp
          clear he
          go_wp2
          go_quiet (fail)
          go_wp2
          all_goals
            go_roundw
            case rel => exact ⟨k + 1, by omega, by omega, by go_num, Hn.out, below_drewN Hbel.out _⟩
            case measure => simp [intOf]; omega
        · have Hn := Lib.hid (alike_stop a b k hka hkb Ht.out (.inr (.inr ⟨h1, h2, he⟩)))
          have he' : ((a[k].toNat : Int) == (b[k].toNat : Int)) = false := by simp only [beq_eq_false_iff_ne, ne_eq]; exact fun h => he (UInt8.toNat_inj.1 (by omega))
          go_wp2
          go_quiet (fail)
          go_wp2
          all_goals
            go_ret
            exact ⟨by rw [Hn.out]; rfl, below_drewN Hbel.out _⟩
      · have Hn := Lib.hid (alike_stop a b k hka hkb Ht.out (by omega))
        have hm1 : decide ((k : Int) < (a.size : Int)) = true := by simp; omega
        have hm2 : decide ((k : Int) < (b.size : Int)) = false := by simp; omega
        go_wp2
        go_quiet (fail)
        go_wp2
        all_goals
          go_ret
          exact ⟨by rw [Hn.out]; rfl, below_drewN Hbel.out _⟩
    · have Hn := Lib.hid (alike_stop a b k hka hkb Ht.out (by omega))
      have hm1 : decide ((k : Int) < (a.size : Int)) = false := by simp; omega
      go_wp2
      go_quiet (fail)
      go_wp2
      all_goals
        go_ret
        exact ⟨by rw [Hn.out]; rfl, below_drewN Hbel.out _⟩

set_option maxRecDepth 100000 in
theorem ref13_number (n : Nat) (hn : n < 9223372036854775808) (w : World) :
    Calls Try.prog 40 #[.int .i64 (n : Nat)] w fun e w' => e = .returned (.string (B (varL n))) ∧ Below w.heap.size w w' := by
  have hw : IntKind.u64.wrap (n : Int) = (n : Int) := by rw [IntKind.wrap_u64]; omega
  go_enter Try.func40, Try.ntmps40
  go_wp2_with fail
  refine (ref2_Var _ (by omega) (by omega) w).mono ?_
  rintro e w1 ⟨rfl, hb⟩
  go_wp2
  go_ret
  exact ⟨rfl, hb⟩
end Go.Proofs.Ytefnddhondbjbaa
