/- Chapter 4's law: data, fine. Conditions: lengths fit an int. -/
import Derived.Test.YtlgfjoicdbjfjaaDoorJrnG
import Derived.Test.YtlgfjoicdbjfjaaDoorJrnActs
import Derived.Test.YtlgfjoicdbjfjaaDoorJrnF
namespace Go.Proofs.YtlgfjoicdbjfjaaDoor
open Go.RowKit Go.Wir Go.Blk Go.Frm Go.Jrn

theorem range_set (f : Nat → UInt8) (n k : Nat) (h : k < n) : ((List.range k).map f ++ List.replicate (n - k) 0).set k (f k) = (List.range (k + 1)).map f ++ List.replicate (n - (k + 1)) 0 := by
  apply List.ext_getElem
  · simp; omega
  · intro i h1 h2
    rw [List.getElem_set]
    simp only [List.getElem_append, List.length_map, List.length_range, List.getElem_map, List.getElem_range, List.getElem_replicate]
    split
    · rename_i e; subst e; simp
    · rename_i e
      by_cases h3 : i < k
      · simp [h3, show i < k + 1 by omega]
      · simp [h3, show ¬ i < k + 1 by omega]
theorem byteJ_min (s : Txt) (k : Nat) (h0 : 0 < s.length) (h : (min (k : Int) ((s.length : Int) - 1)).toNat < (B s).size) : byteJ s k = (B s)[(min (k : Int) ((s.length : Int) - 1)).toNat] := by
  have e : (min (k : Int) ((s.length : Int) - 1)).toNat = min k (s.length - 1) := by omega
  unfold byteJ
  rw [if_neg (by omega)]
  simp only [e]
  rw [List.getD_eq_getElem?_getD, List.getElem?_eq_getElem (by omega)]
  rfl
theorem dataJ_nil : dataJ [] = List.replicate 256 0 := by
  apply List.ext_getElem
  · rw [dataJ_length, List.length_replicate]
  · intro i h1 h2
    simp only [dataJ, List.getElem_map, List.getElem_replicate]
    rfl
set_option maxRecDepth 100000 in
set_option maxHeartbeats 1600000 in
theorem law_data4 (s : Txt) (hd : s.length ≤ 9223372036854775807) (w : World) :
    Calls Tryd.prog 33 #[.string (B s)] w fun e w' => e = .returned (.string (B (dataJ s))) ∧ Below w.heap.size w w' := by
  obtain ⟨i0, hi, hz0, hz1, hz2⟩ := info_parts Tryd.info_u8b
  have hsz := size_B s
  have HT : Hid (dataJ s = (List.range 256).map (byteJ s)) := Lib.hid rfl
  have Hnil := Lib.hid dataJ_nil
  go_enter Tryd.func33, Tryd.ntmps33
  go_wp2_with (at_make; go_must (refine wpList_make_full _ rfl _ _ 49 rfl 0 5 i0 (.int .u8 0) 1 Tryd.underlying49 hi hz0 hz1 _ _ _ _ 256 rfl rfl rfl rfl ?b2 ?b3 (Nat.zero_le _) ?_))
  case b2 => rw [hz2]; omega
  case b3 => unfold maxLen; omega
  intro w1 hown hgrow
  have hrow := BRow.of_make hown
  have hb1 := (Below.refl _ _).grown hgrow (Nat.le_refl _) (fun k h => by cases h)
  have Hbw := Lib.hid hb1
  clear hown hgrow hb1
  have Hrow := Lib.hid hrow
  generalize hga : w.heap.size = ga at *
  have Hga := Lib.hid hga
  clear hrow hga
  go_wp2
  by_cases h0 : 0 < s.length
  · have hs1 : (0 : Int) < ((B s).size : Int) := by omega
    go_loopw [4] (fun x wr => ∃ k : Nat, k ≤ 256 ∧ x = .int .i64 k ∧ BRow wr ga ((List.range k).map (byteJ s) ++ List.replicate (256 - k) 0) ∧ Below ga w wr) (fun x _ => 256 - (intOf x).toNat)
    case atStart => exact ⟨0, by omega, rfl, by have := Hrow.out; simpa using this, Hbw.out⟩
    case round =>
      obtain ⟨k, hk, rfl, hr, hbel⟩ := hrel
      have hlen : ((List.range k).map (byteJ s) ++ List.replicate (256 - k) (0 : UInt8)).length = 256 := by simp; omega
      by_cases hlt : k < 256
      · have hkl : k < ((List.range k).map (byteJ s) ++ List.replicate (256 - k) (0 : UInt8)).length := by omega
        obtain ⟨old, hold⟩ : ∃ v, wr.cell? ⟨ga, k, none⟩ = some v := ⟨_, hr.cell k hkl⟩
        have hfz := hr.frozen k hkl
        have Hset : Hid (∀ x : UInt8, byteJ s k = x → BRow (wr.setCell ⟨ga, k, none⟩ (.int .u8 ((x.toNat : Nat) : Int))) ga ((List.range (k + 1)).map (byteJ s) ++ List.replicate (256 - (k + 1)) 0)) := Lib.hid (fun x hx => by
          have := hr.set k hkl x
          rw [← hx, range_set (byteJ s) 256 k hlt] at this
          rw [← hx]
          exact this)
        have Hbs : Hid (∀ v, Below ga w (wr.setCell ⟨ga, k, none⟩ v)) := Lib.hid (fun v => hbel.setCell (p := ⟨ga, k, none⟩) (Nat.le_refl ga) v)
        clear hlen hr hkl hbel
        have hm0 : (0 : Int) ≤ min (k : Int) ((s.length : Int) - 1) := by omega
        have hm1 : min (k : Int) ((s.length : Int) - 1) < ((B s).size : Int) := by omega
        go_wp2
        go_roundw
        case rel => exact ⟨k + 1, by omega, by go_num, Hset.out _ (byteJ_min s k h0 _), Hbs.out _⟩
        case measure => simp [intOf]; omega
      · obtain rfl : k = 256 := by omega
        have hconv := hr.conv 256
        rw [hlen] at hconv
        have hfin : Hid ((List.range 256).map (byteJ s) ++ List.replicate (256 - 256) (0 : UInt8) = dataJ s) := Lib.hid (by rw [Nat.sub_self, List.replicate_zero, List.append_nil, HT.out])
        rw [hfin.out] at hconv
        have Hbel := Lib.hid hbel
        clear hr hlen hbel
        go_wp2
        go_ret
        exact ⟨rfl, by rw [Hga.out]; exact Hbel.out⟩
  · have hs0 : s = [] := List.eq_nil_of_length_eq_zero (by omega)
    subst hs0
    have hs1 : ¬ (0 : Int) < ((B ([] : Txt)).size : Int) := by simp [B, ByteArray.size]
    have hconv := Hrow.out.conv 256
    rw [List.length_replicate] at hconv
    rw [← Hnil.out] at hconv
    go_loopw [4] (fun x wr => x = .int .i64 0 ∧ wr = w1) (fun x _ => 256 - (intOf x).toNat)
    case atStart => exact ⟨rfl, rfl⟩
    case round =>
      obtain ⟨rfl, rfl⟩ := hrel
      go_wp2
      go_ret
      exact ⟨rfl, by rw [Hga.out]; exact Hbw.out⟩
end Go.Proofs.YtlgfjoicdbjfjaaDoor
