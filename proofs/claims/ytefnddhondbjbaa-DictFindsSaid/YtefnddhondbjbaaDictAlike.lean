/- dict.alike and the reference's: how many bytes two texts have alike. Conditions: lengths fit an int. -/
import Derived.Test.YtefnddhondbjbaaDictRight
import Derived.Test.YtefnddhondbjbaaDictPack
import Derived.Deep.QuietTactic
import Derived.BigQuiet
namespace Go.Proofs.Ytefnddhondbjbaa
open Go.RowKit Go.Wir Go.Dic

theorem below_drewN {K : Nat} {w wr : World} (h : Below K w wr) (n : Nat) : Below K w (wr.drewN n) := ⟨h.os, h.tape, h.output, h.size, h.block⟩
theorem alike_stop (a b : ByteArray) (k : Nat) (ha : k ≤ a.size) (hb : k ≤ b.size) (ht : (L a).take k = (L b).take k) (h : k = a.size ∨ k = b.size ∨ ∃ (h1 : k < a.size) (h2 : k < b.size), a[k] ≠ b[k]) : alike (L a) (L b) = k := by
  refine alike_at _ _ k (by rw [length_L]; exact ha) (by rw [length_L]; exact hb) ht (fun h1 h2 => ?_)
  rw [length_L] at h1 h2
  rw [← get_L a k h1, ← get_L b k h2]
  rcases h with h | h | ⟨_, _, h⟩
  · omega
  · omega
  · exact h
theorem alike_go (a b : ByteArray) (k : Nat) (ha : k < a.size) (hb : k < b.size) (ht : (L a).take k = (L b).take k) (h : a[k] = b[k]) : (L a).take (k + 1) = (L b).take (k + 1) := by
  rw [List.take_succ_eq_append_getElem (by rw [length_L]; exact ha), List.take_succ_eq_append_getElem (by rw [length_L]; exact hb), ht, ← get_L a k ha, ← get_L b k hb, h]

set_option maxRecDepth 100000 in
set_option maxHeartbeats 800000 in
theorem dict_alike (a b : ByteArray) (ha : a.size ≤ 9223372036854775807) (hb : b.size ≤ 9223372036854775807) (w : World) :
    Calls Try.prog 25 #[.string a, .string b] w fun e w' => e = .returned (.int .i64 (alike (L a) (L b) : Nat)) ∧ Below w.heap.size w w' := by
  go_enter Try.func25, Try.ntmps25
  go_wp2
  go_loopw [5] (fun i wr => ∃ k : Nat, k ≤ a.size ∧ k ≤ b.size ∧ i = .int .i64 k ∧ (L a).take k = (L b).take k ∧ Below w.heap.size w wr) (fun i _ => a.size - (intOf i).toNat)
  case atStart => exact ⟨0, by omega, by omega, rfl, rfl, Below.refl _ _⟩
  case round =>
    obtain ⟨k, hka, hkb, rfl, ht, hbel⟩ := hrel
    have Hbel := Lib.hid hbel
    have Ht := Lib.hid ht
    clear ht
    by_cases hlt : k < a.size ∧ k < b.size
    · obtain ⟨h1, h2⟩ := hlt
      have hm : decide ((k : Int) < if b.size < a.size then (b.size : Int) else (a.size : Int)) = true := by simp only [decide_eq_true_eq]; split <;> omega
      by_cases he : a[k] = b[k]
      · have Hn := Lib.hid (alike_go a b k h1 h2 Ht.out he)
        have he' : ((a[k].toNat : Int) == (b[k].toNat : Int)) = true := by rw [he]; simp
        clear he
        go_wp2
        go_quiet (fail)
        go_wp2
        all_goals
          go_roundw
          case rel => exact ⟨k + 1, by omega, by omega, by go_num, Hn.out, below_drewN Hbel.out _⟩
          case measure => simp [intOf]; omega
      · have Hn := Lib.hid (alike_stop a b k hka hkb Ht.out (.inr (.inr ⟨h1, h2, he⟩)))
        have he' : ((a[k].toNat : Int) == (b[k].toNat : Int)) = false := by simp only [beq_eq_false_iff_ne, ne_eq]; exact fun h => he (UInt8.toNat_inj.1 (by omega))
        go_wp2
        go_quiet (fail)
        go_wp2
        all_goals
          go_ret
          exact ⟨by rw [Hn.out]; rfl, below_drewN Hbel.out _⟩
    · have Hn := Lib.hid (alike_stop a b k hka hkb Ht.out (by omega))
      have hm : decide ((k : Int) < if b.size < a.size then (b.size : Int) else (a.size : Int)) = false := by simp only [decide_eq_false_iff_not]; split <;> omega
      go_wp2
      go_quiet (fail)
      go_wp2
      all_goals
        go_ret
        exact ⟨by rw [Hn.out]; rfl, below_drewN Hbel.out _⟩
end Go.Proofs.Ytefnddhondbjbaa
