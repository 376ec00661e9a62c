/- The law's own helpers of chapter 13: pick, same, as, begins. Conditions: lengths fit an int. -/
import Derived.Test.YtefnddhondbjbaaDictAt
import Derived.Test.YtefnddhondbjbaaAppendWhere
import Derived.Test.YtefnddhondbjbaaHeld
import Derived.Deep.RegionHeld3
import Derived.Deep.AppendLies
namespace Go.Proofs.Ytefnddhondbjbaa
open Go.RowKit Go.Wir Go.Dic

theorem ret_bool {a b : Bool} (h : a = b) : Ending.returned (.bool a) = .returned (.bool b) := by rw [h]
def pickN (c : Int) (n : Nat) : Nat := ((if c < 0 then -(c + 1) else c) % (n : Int)).toNat
theorem pickN_lt (c : Int) (n : Nat) (h : 0 < n) : pickN c n < n := by
  unfold pickN
  have h1 := Int.emod_lt_of_pos (if c < 0 then -(c + 1) else c) (show (0 : Int) < n by omega)
  have h2 := Int.emod_nonneg (if c < 0 then -(c + 1) else c) (show (n : Int) ≠ 0 by omega)
  omega
theorem pickN_int (c : Int) (n : Nat) (h : 0 < n) : ((pickN c n : Nat) : Int) = (if c < 0 then -(c + 1) else c) % (n : Int) := by
  unfold pickN
  have h2 := Int.emod_nonneg (if c < 0 then -(c + 1) else c) (show (n : Int) ≠ 0 by omega)
  omega
set_option maxRecDepth 100000 in
theorem law_pick (c : Int) (n : Nat) (h1 : -9223372036854775808 ≤ c) (h2 : c ≤ 9223372036854775807) (h3 : 0 < n) (h4 : n ≤ 9223372036854775807) (w : World) :
    Calls Try.prog 16 #[.int .i64 c, .int .i64 (n : Nat)] w fun e w' => e = .returned (.int .i64 (pickN c n : Nat)) ∧ w = w' := by
  have HP := Lib.hid (pickN_int c n h3)
  have hn0 : ((n : Int) == 0) = false := by rw [beq_eq_false_iff_ne]; omega
  by_cases hc : c < 0
  · go_enter Try.func16, Try.ntmps16
    go_wp2
    go_ret
    exact ⟨ret_i64 (by rw [HP.out, if_pos hc, ← Int.neg_tmod, Int.tmod_eq_emod_of_nonneg (by omega)]), rfl⟩
  · go_enter Try.func16, Try.ntmps16
    go_wp2
    go_ret
    exact ⟨ret_i64 (by rw [HP.out, if_neg (by omega)]), rfl⟩
set_option maxRecDepth 100000 in
theorem law_begins (a b : ByteArray) (ha : a.size ≤ 9223372036854775807) (hb : b.size ≤ 9223372036854775807) (w : World) :
    Calls Try.prog 18 #[.string a, .string b] w fun e w' => e = .returned (.bool ((L b).isPrefixOf (L a))) ∧ w = w' := by
  by_cases h : b.size ≤ a.size
  · have h1 : (b.size : Int) ≤ (a.size : Int) := by omega
    have e : (L b).isPrefixOf (L a) = ((a.extract 0 b.size).toList == b.toList) := by
      rw [extract_take, toList_B, toList_L, Bool.eq_iff_iff, List.isPrefixOf_iff_prefix, beq_iff_eq, List.prefix_iff_eq_take, length_L]
      exact eq_comm
    have E := Lib.hid e
    clear e
    go_enter Try.func18, Try.ntmps18
    go_wp2
    go_ret
    exact ⟨ret_bool (by rw [E.out]), rfl⟩
  · have h1 : ¬ (b.size : Int) ≤ (a.size : Int) := by omega
    have e : (L b).isPrefixOf (L a) = false := by
      rw [← Bool.not_eq_true, List.isPrefixOf_iff_prefix]
      intro hp
      have := hp.length_le
      rw [length_L, length_L] at this
      exact h this
    have E := Lib.hid e
    clear e
    go_enter Try.func18, Try.ntmps18
    go_wp2
    go_ret
    exact ⟨ret_bool (by rw [E.out]), rfl⟩
theorem ents_nil {w : World} {v : Value} (h : Ents w v []) : ∃ a c, v = .slice a 0 c := by
  rcases h with ⟨a, cap, rfl, _⟩ | ⟨b, off, cap, rfl, _⟩
  · exact ⟨_, _, rfl⟩
  · exact ⟨_, _, rfl⟩
theorem ents_row {w : World} {v : Value} {es : List Ent} (h : Ents w v es) (h0 : 0 < es.length) : ∃ b off cap, v = .slice (some ⟨b, off, none⟩) es.length cap ∧ b < w.heap.size ∧
    ∀ i (h : i < es.length), w.cell? ⟨b, off + i * 2, none⟩ = some (.string (B es[i].1)) ∧ w.cell? ⟨b, off + i * 2 + 1, none⟩ = some (.string (B es[i].2)) := by
  rcases h with ⟨a, cap, rfl, h⟩ | ⟨b, off, cap, rfl, _, h1, h2⟩
  · subst h; simp at h0
  · exact ⟨_, _, _, rfl, h1, h2⟩
set_option maxRecDepth 100000 in
set_option maxHeartbeats 800000 in
theorem law_same (va vb : Value) (es : List Ent) (hn : es.length ≤ 9223372036854775807) (w : World) (ha : Ents w va es) (hb : Ents w vb es) :
    Calls Try.prog 22 #[va, vb] w fun e w' => e = .returned (.bool true) ∧ Below w.heap.size w w' := by
  by_cases h0 : 0 < es.length
  · obtain ⟨b1, o1, c1, rfl, hb1, hc1⟩ := ents_row ha h0
    obtain ⟨b2, o2, c2, rfl, hb2, hc2⟩ := ents_row hb h0
    have Hc1 := Lib.hid hc1
    have Hc2 := Lib.hid hc2
    clear hc1 hc2 ha hb
    have hne : ((es.length : Int) != (es.length : Int)) = false := by simp
    go_enter Try.func22, Try.ntmps22
    go_wp2
    clear hne
    go_loopw [5] (fun i wr => ∃ k : Nat, k ≤ es.length ∧ i = .int .i64 k ∧ Below w.heap.size w wr) (fun i _ => es.length - (intOf i).toNat)
    case atStart => exact ⟨0, by omega, rfl, Below.refl _ _⟩
    case round =>
      obtain ⟨k, hk, rfl, hbel⟩ := hrel
      by_cases hlt : k < es.length
      · obtain ⟨d1, d2⟩ := Hc1.out k hlt
        obtain ⟨d3, d4⟩ := Hc2.out k hlt
        have d1 := cell_below hbel hb1 d1
        have d2 := cell_below hbel hb1 d2
        have d3 := cell_below hbel hb2 d3
        have d4 := cell_below hbel hb2 d4
        have Hbel := Lib.hid hbel
        clear hbel
        generalize es[k] = e at *
        obtain ⟨x, y⟩ := e
        simp only at d1 d2 d3 d4
        have e1 : ((B x).toList != (B x).toList) = false := by simp
        have e2 : ((B y).toList != (B y).toList) = false := by simp
        have hk1 : (k : Int) < (es.length : Int) := by omega
        go_wp2
        go_quiet (fail)
        go_wp2
        go_roundw
        case rel => exact ⟨k + 1, by omega, by go_num, below_drewN Hbel.out _⟩
        case measure => simp [intOf]; omega
      · obtain rfl : k = es.length := by omega
        go_wp2
        go_ret
        exact ⟨rfl, hbel⟩
  · obtain rfl : es = [] := List.eq_nil_of_length_eq_zero (by omega)
    obtain ⟨a1, c1, rfl⟩ := ents_nil ha
    obtain ⟨a2, c2, rfl⟩ := ents_nil hb
    go_enter Try.func22, Try.ntmps22
    go_wp2
    go_loop [5] (fun i => i = .int .i64 0) (fun _ => 0)
    case atStart => rfl
    case round =>
      subst hrel
      go_wp2
      go_ret
      exact ⟨rfl, Below.refl _ _⟩
end Go.Proofs.Ytefnddhondbjbaa
