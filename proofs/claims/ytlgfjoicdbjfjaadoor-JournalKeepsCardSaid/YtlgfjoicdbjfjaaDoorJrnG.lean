/- The law's own helpers of chapter 4: pick, full. Conditions: lengths fit an int. -/
import Derived.Test.YtlgfjoicdbjfjaaDoorBlkF
import Derived.Test.YtlgfjoicdbjfjaaDoorByteRow
namespace Go.Proofs.YtlgfjoicdbjfjaaDoor
open Go.RowKit Go.Blk

theorem ret_bool {a b : Bool} (h : a = b) : Ending.returned (.bool a) = .returned (.bool b) := by rw [h]
def pickN (c : Int) (n : Nat) : Nat := ((if c < 0 then -(c + 1) else c) % (n : Int)).toNat
theorem pickN_lt (c : Int) (n : Nat) (h : 0 < n) : pickN c n < n := by
  unfold pickN
  have h1 := Int.emod_lt_of_pos (if c < 0 then -(c + 1) else c) (show (0 : Int) < n by omega)
  have h2 := Int.emod_nonneg (if c < 0 then -(c + 1) else c) (show (n : Int) ≠ 0 by omega)
  omega
theorem pickN_int (c : Int) (n : Nat) (h : 0 < n) : ((pickN c n : Nat) : Int) = (if c < 0 then -(c + 1) else c) % (n : Int) := by
  unfold pickN
  have h2 := Int.emod_nonneg (if c < 0 then -(c + 1) else c) (show (n : Int) ≠ 0 by omega)
  omega
set_option maxRecDepth 100000 in
theorem law_pick (c : Int) (n : Nat) (h1 : -9223372036854775808 ≤ c) (h2 : c ≤ 9223372036854775807) (h3 : 0 < n) (h4 : n ≤ 9223372036854775807) (w : World) :
    Calls Tryd.prog 20 #[.int .i64 c, .int .i64 (n : Nat)] w fun e w' => e = .returned (.int .i64 (pickN c n : Nat)) ∧ w = w' := by
  have HP := Lib.hid (pickN_int c n h3)
  have hn0 : ((n : Int) == 0) = false := by rw [beq_eq_false_iff_ne]; omega
  by_cases hc : c < 0
  · go_enter Tryd.func20, Tryd.ntmps20
    go_wp2
    go_ret
    exact ⟨ret_i64 (by rw [HP.out, if_pos hc, ← Int.neg_tmod, Int.tmod_eq_emod_of_nonneg (by omega)]), rfl⟩
  · go_enter Tryd.func20, Tryd.ntmps20
    go_wp2
    go_ret
    exact ⟨ret_i64 (by rw [HP.out, if_neg (by omega)]), rfl⟩
theorem BRow.of_make {w : World} {base g n : Nat} (h : w.ownsRow base 5 1 (.slice (some ⟨g, 0, none⟩) n n) n (madeCells #[Value.int .u8 0] n).toList) : BRow w g (List.replicate n 0) := by
  rcases h.2 with ⟨h0, _⟩ | ⟨g', cap, cur, h0, hg, hh, h1, h2, h3, h4⟩
  · cases h0
  · simp only [Value.slice.injEq, Option.some.injEq, Addr.mk.injEq, and_true, true_and] at h0
    obtain ⟨rfl, rfl⟩ := h0
    refine ⟨cur, 0, 0, hh, by simp; omega, fun i hi => ?_, fun i _ h => by omega⟩
    simp at hi
    have : cur.toList[i]? = (madeCells #[Value.int .u8 0] n).toList[i]? := by rw [← h4, List.getElem?_take, Nat.mul_one, if_pos hi]
    rw [← Array.getElem?_toList, this]
    simp [madeCells, hi, Nat.mod_one]
theorem repl_set8 (a b : UInt8) (n k : Nat) (h : k < n) : (List.replicate k a ++ List.replicate (n - k) b).set k a = List.replicate (k + 1) a ++ List.replicate (n - (k + 1)) b := repl_set a b n k h
theorem Tryd.info_u8b : (Tryd.prog.info? 5).map (fun i => (i.zero, i.size, i.bytes)) = some (some (.int .u8 0), 1, 1) := by kernel_rfl
def fullT (c : UInt8) : Txt := List.replicate 256 c
set_option maxRecDepth 100000 in
set_option maxHeartbeats 800000 in
theorem law_full (c : UInt8) (w : World) : Calls Tryd.prog 21 #[.int .u8 ((c.toNat : Nat) : Int)] w fun e w' => e = .returned (.string (B (fullT c))) ∧ Below w.heap.size w w' := by
  obtain ⟨i0, hi, hz0, hz1, hz2⟩ := info_parts Tryd.info_u8b
  go_enter Tryd.func21, Tryd.ntmps21
  go_wp2_with (at_make; go_must (refine wpList_make_full w rfl _ _ 49 rfl 0 5 i0 (.int .u8 0) 1 Tryd.underlying49 hi hz0 hz1 _ _ _ _ 256 rfl rfl rfl rfl ?b2 ?b3 (Nat.zero_le _) ?_))
  case b2 => rw [hz2]; omega
  case b3 => unfold maxLen; omega
  intro w1 hown hgrow
  have hrow : BRow w1 w.heap.size (List.replicate 256 0) := BRow.of_make hown
  have hb1 : Below w.heap.size w w1 := (Below.refl _ w).grown hgrow (Nat.le_refl _) (fun k h => by cases h)
  clear hown hgrow
  have Hrow := Lib.hid hrow
  have Hb1 := Lib.hid hb1
  generalize hgb : w.heap.size = gb at *
  have Hgb := Lib.hid hgb
  clear hrow hb1 hgb
  go_wp2
  go_loopw [4] (fun x wr => ∃ k : Nat, k ≤ 256 ∧ x = .int .i64 k ∧ BRow wr gb (List.replicate k c ++ List.replicate (256 - k) 0) ∧ Below gb w wr) (fun x _ => 256 - (intOf x).toNat)
  case atStart => exact ⟨0, by omega, rfl, Hrow.out, Hb1.out⟩
  case round =>
    obtain ⟨k, hk, rfl, hr, hbel⟩ := hrel
    have hlen : (List.replicate k c ++ List.replicate (256 - k) (0 : UInt8)).length = 256 := by rw [List.length_append, List.length_replicate, List.length_replicate]; omega
    by_cases hlt : k < 256
    · have hkl : k < (List.replicate k c ++ List.replicate (256 - k) (0 : UInt8)).length := by omega
      obtain ⟨old, hold⟩ : ∃ v, wr.cell? ⟨gb, k, none⟩ = some v := ⟨_, hr.cell k hkl⟩
      have hfz := hr.frozen k hkl
      have hset := hr.set k hkl c
      rw [repl_set8 c 0 256 k hlt] at hset
      have Hset := Lib.hid hset
      have hbs := Lib.hid (hbel.setCell (p := ⟨gb, k, none⟩) (Nat.le_refl gb) (.int .u8 ((c.toNat : Nat) : Int)))
      clear hset hlen hr hkl
      go_wp2
      go_roundw
      case rel => exact ⟨k + 1, by omega, by go_num, Hset.out, hbs.out⟩
      case measure => simp [intOf]; omega
    · obtain rfl : k = 256 := by omega
      have hconv := hr.conv 256
      rw [hlen] at hconv
      have hfin : Hid (List.replicate 256 c ++ List.replicate (256 - 256) (0 : UInt8) = fullT c) := Lib.hid (by rw [Nat.sub_self, List.replicate_zero, List.append_nil]; rfl)
      rw [hfin.out] at hconv
      have Hbel := Lib.hid hbel
      clear hr hlen hbel
      go_wp2
      go_ret
      exact ⟨rfl, by rw [Hgb.out]; exact Hbel.out⟩
end Go.Proofs.YtlgfjoicdbjfjaaDoor
