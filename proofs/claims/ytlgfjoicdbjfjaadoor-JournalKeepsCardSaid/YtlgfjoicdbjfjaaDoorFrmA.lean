/- Chapter 3: numbers at a place of a text, strings.HasSuffix, strings.Trim of noughts. Conditions: lengths. -/
import Derived.Test.YtlgfjoicdbjfjaaDoorTxts
import Derived.Test.YtlgfjoicdbjfjaaDoorFixed
import Derived.Test.YtlgfjoicdbjfjaaDoorFrmPlain
import Derived.Test.YtlgfjoicdbjfjaaDoorHasPrefix
namespace Go.Proofs.YtlgfjoicdbjfjaaDoor
open Go.RowKit Go.Wir Go.Blk Go.Frm

theorem get_B (l : Txt) (k : Nat) (h : k < (B l).size) : (B l)[k] = l.getD k 0 := by
  rw [get_L, List.getD_eq_getElem?_getD, List.getElem?_eq_getElem (by rw [size_B] at h; exact h)]; rfl
theorem numAt_size (l : Txt) (i : Nat) (h : 4 ≤ (B (l.drop i)).size) : (B (l.drop i))[0].toNat + 256 * (B (l.drop i))[1].toNat + 65536 * (B (l.drop i))[2].toNat + 16777216 * (B (l.drop i))[3].toNat = numAt l i := by
  rw [get_B, get_B, get_B, get_B, getD_drop, getD_drop, getD_drop, getD_drop]; rfl
theorem wire_ToFixed_at (l : Txt) (i : Nat) (hl : l.length ≤ 1000000) (h : i + 4 ≤ l.length) (w : World) :
    Calls Tryd.prog 52 #[.string (B (l.drop i))] w fun e w' => e = .returned (.tuple #[.int .u32 (numAt l i : Nat), .string (B (l.drop (i + 4))), .bool true]) ∧ Below w.heap.size w w' := by
  have hs : (B (l.drop i)).size = l.length - i := by rw [size_B, List.length_drop]
  have := wire_ToFixed_some (B (l.drop i)) (by omega) (by omega) w
  rw [numAt_size l i (by omega), extract_to_end, L_B, List.drop_drop] at this
  exact this
set_option maxRecDepth 100000 in
theorem has_suffix (a b : ByteArray) (ha : a.size ≤ 9223372036854775807) (hb : b.size ≤ 9223372036854775807) (w : World) :
    Calls Tryd.prog 67 #[.string a, .string b] w fun e w' => e = .returned (.bool (decide (b.size ≤ a.size) && decide ((L a).drop (a.size - b.size) = L b))) ∧ Below w.heap.size w w' := by
  by_cases h : b.size ≤ a.size
  · have h1 : (b.size : Int) ≤ (a.size : Int) := by omega
    go_enter Tryd.func67, Tryd.ntmps67
    go_wp2
    go_ret
    refine ⟨?_, Below.refl _ _⟩
    rw [decide_eq_true h, Bool.true_and]
    have e : ((a.extract (a.size - b.size) a.size).toList == b.toList) = decide ((L a).drop (a.size - b.size) = L b) := by
      rw [str_eq, extract_to_end, L_B]
    rw [← e]
    simp
  · have h1 : ¬ (b.size : Int) ≤ (a.size : Int) := by omega
    go_enter Tryd.func67, Tryd.ntmps67
    go_wp2
    go_ret
    refine ⟨?_, Below.refl _ _⟩
    first | rfl | (rw [decide_eq_false h, Bool.false_and]; rfl)
/-- What trimming on the right, on the left leaves. -/
def TrimR (l : Txt) (k : Nat) : Prop := k ≤ l.length ∧ allZero (l.drop k) = true ∧ (0 < k → l.getD (k - 1) 0 ≠ 0)
def TrimLf (l : Txt) (j : Nat) : Prop := j ≤ l.length ∧ allZero (l.take j) = true ∧ (j < l.length → l.getD j 0 ≠ 0)
theorem trim_empty {l : Txt} {k j : Nat} (h1 : TrimR l k) (h2 : TrimLf (l.take k) j) : decide ((l.take k).drop j = []) = allZero l := by
  obtain ⟨a1, a2, a3⟩ := h1
  obtain ⟨b1, b2, b3⟩ := h2
  rw [List.length_take, Nat.min_eq_left a1] at b1 b3
  rw [Bool.eq_iff_iff, decide_eq_true_eq, List.drop_eq_nil_iff, List.length_take, Nat.min_eq_left a1]
  constructor
  · intro h
    obtain rfl : j = k := by omega
    unfold allZero at *
    rw [List.take_take, Nat.min_self] at b2
    rw [← List.take_append_drop j l, List.all_append, b2, a2]; rfl
  · intro h
    by_cases hk : 0 < k
    · exfalso
      have := a3 hk
      unfold allZero at h
      rw [List.all_eq_true] at h
      have h5 := h (l[k - 1]'(by omega)) (List.getElem_mem _)
      rw [List.getD_eq_getElem?_getD, List.getElem?_eq_getElem (by omega : k - 1 < l.length)] at this
      exact this (by simpa using h5)
    · omega
theorem take_take_one (l : Txt) (k : Nat) (_ : k ≤ l.length) (hk : 0 < k) : (l.take k).take (k - 1) = l.take (k - 1) := by rw [List.take_take, Nat.min_eq_left (by omega)]
set_option maxRecDepth 100000 in
set_option maxHeartbeats 400000 in
theorem trim_right (l : Txt) (hl : l.length ≤ 1000000) (w : World) :
    Calls Tryd.prog 73 #[.string (B l), .int .u8 0] w fun e w' => ∃ k, TrimR l k ∧ e = .returned (.string (B (l.take k))) ∧ w = w' := by
  have Hsz := Lib.hid (fun k => size_B (l.take k))
  go_enter Tryd.func73, Tryd.ntmps73
  go_wp2
  go_loop [0] (fun s => ∃ k : Nat, k ≤ l.length ∧ s = .string (B (l.take k)) ∧ allZero (l.drop k) = true) (fun s => match s with | .string b => b.size | _ => 0)
  case atStart => exact ⟨l.length, Nat.le_refl _, by rw [List.take_length], by rw [List.drop_length]; rfl⟩
  case round =>
    obtain ⟨k, hk, rfl, hz⟩ := hrel
    have Hz := Lib.hid hz
    have hsz : (B (l.take k)).size = k := by rw [size_B, List.length_take]; omega
    clear hz
    by_cases h0 : 0 < k
    · have h1 : (0 : Int) < (k : Int) := by omega
      have hb : (B (l.take k))[k - 1]'(by omega) = l.getD (k - 1) 0 := by rw [get_B, getD_take _ _ _ (by omega)]
      have Hx := Lib.hid (show (B (l.take k)).extract 0 (k - 1) = B (l.take (k - 1)) by rw [extract_take, L_B, take_take_one _ _ hk h0])
      have Hd := Lib.hid (show l.drop (k - 1) = l.getD (k - 1) 0 :: l.drop k by
        rw [List.drop_eq_getElem_cons (by omega : k - 1 < l.length), show k - 1 + 1 = k by omega, List.getD_eq_getElem?_getD, List.getElem?_eq_getElem (by omega : k - 1 < l.length)]; rfl)
      have Hb := Lib.hid hb
      clear hb
      by_cases hx0 : l.getD (k - 1) 0 = 0
      · have h2 : ((((B (l.take k))[k - 1]'(by omega)).toNat : Int) == 0) = true := by rw [Hb.out, hx0]; rfl
        have Hz1 : Hid (allZero (l.drop (k - 1)) = true) := Lib.hid (by rw [Hd.out, hx0]; exact Hz.out)
        clear hx0
        go_wp2
        go_round
        case rel => exact ⟨k - 1, by omega, by rw [Hx.out], Hz1.out⟩
        case measure => simp only [Hx.out, Hsz.out]; rw [List.length_take, List.length_take]; omega
      · have h2 : ((((B (l.take k))[k - 1]'(by omega)).toNat : Int) == 0) = false := by
          rw [Hb.out, beq_eq_false_iff_ne]
          intro h
          exact hx0 (UInt8.toNat_inj.1 (by rw [show (0 : UInt8).toNat = 0 from rfl]; omega))
        have Hne := Lib.hid (show TrimR l k from ⟨hk, Hz.out, fun _ => hx0⟩)
        clear hx0 Hd
        go_wp2
        go_ret
        exact ⟨k, Hne.out, rfl, rfl⟩
    · obtain rfl : k = 0 := by omega
      go_wp2
      go_ret
      exact ⟨0, ⟨by omega, Hz.out, fun h => by omega⟩, rfl, rfl⟩
theorem drop_one_size (l : Txt) (j : Nat) : (B (l.drop j)).extract 1 (B (l.drop j)).size = B (l.drop (j + 1)) := by rw [extract_to_end, L_B, List.drop_drop]
set_option maxRecDepth 100000 in
set_option maxHeartbeats 400000 in
theorem trim_left (l : Txt) (_ : l.length ≤ 1000000) (w : World) :
    Calls Tryd.prog 72 #[.string (B l), .int .u8 0] w fun e w' => ∃ k, TrimLf l k ∧ e = .returned (.string (B (l.drop k))) ∧ w = w' := by
  have Hsz := Lib.hid (fun k => size_B (l.drop k))
  go_enter Tryd.func72, Tryd.ntmps72
  go_wp2
  go_loop [0] (fun s => ∃ k : Nat, k ≤ l.length ∧ s = .string (B (l.drop k)) ∧ allZero (l.take k) = true) (fun s => match s with | .string b => b.size | _ => 0)
  case atStart => exact ⟨0, Nat.zero_le _, by rw [List.drop_zero], rfl⟩
  case round =>
    obtain ⟨k, hk, rfl, hz⟩ := hrel
    have Hz := Lib.hid hz
    have hsz : (B (l.drop k)).size = l.length - k := by rw [size_B, List.length_drop]
    have Hx := Lib.hid (drop_one_size l k)
    clear hz
    by_cases h0 : k < l.length
    · have hpos : 0 < (B (l.drop k)).size := by omega
      have hb : (B (l.drop k))[0]'hpos = l.getD k 0 := by rw [get_B, getD_drop]; rfl
      have Hx := Lib.hid (drop_one_size l k)
      have Hd := Lib.hid (show l.take (k + 1) = l.take k ++ [l.getD k 0] by
        rw [List.take_succ_eq_append_getElem h0, List.getD_eq_getElem?_getD, List.getElem?_eq_getElem h0]; rfl)
      have Hb := Lib.hid hb
      have hpos1 : (0 : Int) < ((B (l.drop k)).size : Int) := by omega
      have hpos2 : (1 : Int) ≤ ((B (l.drop k)).size : Int) := by omega
      have Hsz1 := Lib.hid hsz
      clear hb hsz
      by_cases hx0 : l.getD k 0 = 0
      · have h2 : ((((B (l.drop k))[0]'hpos).toNat : Int) == 0) = true := by rw [Hb.out, hx0]; rfl
        have Hz1 : Hid (allZero (l.take (k + 1)) = true) := Lib.hid (by rw [Hd.out, hx0]; unfold allZero; rw [List.all_append]; have := Hz.out; unfold allZero at this; rw [this]; rfl)
        clear hx0
        go_wp2
        go_round
        case rel => exact ⟨k + 1, by omega, by rw [Hx.out], Hz1.out⟩
        case measure =>
          show ((B (l.drop k)).extract 1 (B (l.drop k)).size).size < (B (l.drop k)).size
          rw [Hx.out, Hsz.out, Hsz.out, List.length_drop, List.length_drop]; omega
      · have h2 : ((((B (l.drop k))[0]'hpos).toNat : Int) == 0) = false := by
          rw [Hb.out, beq_eq_false_iff_ne]
          intro h
          exact hx0 (UInt8.toNat_inj.1 (by rw [show (0 : UInt8).toNat = 0 from rfl]; omega))
        have Hne := Lib.hid (show TrimLf l k from ⟨hk, Hz.out, fun _ => hx0⟩)
        clear hx0 Hd
        go_wp2
        go_ret
        exact ⟨k, Hne.out, rfl, rfl⟩
    · obtain rfl : k = l.length := by omega
      have hsz0 : (B (l.drop l.length)).size = 0 := by omega
      have Hne := Lib.hid (show TrimLf l l.length from ⟨hk, Hz.out, fun h => by omega⟩)
      clear hsz
      go_wp2
      go_ret
      exact ⟨l.length, Hne.out, by rw [List.drop_length]; rfl, rfl⟩
set_option maxRecDepth 100000 in
set_option maxHeartbeats 400000 in
/-- strings.Trim of noughts: empty just where all are noughts. -/
theorem trim_zeros (l : Txt) (hl : l.length ≤ 1000000) (w : World) :
    Calls Tryd.prog 68 #[.string (B l), .string ⟨#[0]⟩] w fun e w' => ∃ t : Txt, decide (t = []) = allZero l ∧ e = .returned (.string (B t)) ∧ Below w.heap.size w w' := by
  by_cases h0 : l = []
  · have h1 : (B l).toList = [] := by rw [toList_B, h0]
    have h2 : (!(B l).toList.isEmpty) = false := by rw [h1]; rfl
    have h3 : (B l).toList.isEmpty = true := by rw [h1]; rfl
    have H : Hid (decide (l = []) = allZero l) := Lib.hid (by rw [h0]; rfl)
    clear h0 h1
    go_enter Tryd.func68, Tryd.ntmps68
    go_wp2
    go_ret
    exact ⟨l, H.out, rfl, Below.refl _ _⟩
  · have h3 : (B l).toList.isEmpty = false := by rw [toList_B]; cases l with
      | nil => exact absurd rfl h0
      | cons => rfl
    have Hr := Lib.hid (fun w => trim_right l hl w)
    have Hl := Lib.hid (fun k w => trim_left (l.take k) (by rw [List.length_take]; omega) w)
    clear h0
    go_enter Tryd.func68, Tryd.ntmps68
    go_wp2
    go_region_held3 (fun w' => Below w.heap.size w w')
      (first | assumption | exact below_drew _)
      (first
        | (go_at_call 73
           refine (Hr.out _).mono ?_
           rintro e w2 ⟨k, hk, rfl, rfl⟩
           have Hk := Lib.hid hk
           clear hk)
        | (go_at_call 72
           refine (Hl.out _ _).mono ?_
           rintro e w3 ⟨j, hj, rfl, rfl⟩
           have Hj := Lib.hid hj
           clear hj))
    all_goals
      go_wp2
      go_ret
      exact ⟨_, trim_empty Hk.out Hj.out, rfl, by first | exact below_drew _ | assumption⟩
end Go.Proofs.YtlgfjoicdbjfjaaDoor
