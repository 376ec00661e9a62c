/- The law's own 'data' of chapter 1: a block of a text. Conditions: lengths fit an int. -/
import Derived.Test.YtbcagddgchpheaaBlkG
namespace Go.Proofs.Ytbcagddgchpheaa
open Go.RowKit Go.Blk

/-- An act: raw numbers, what is kept, a text. -/
structure Act where
  op : Int
  pos : Int
  n : Int
  keep : List Bool
  data : Txt
def dataB (s : Txt) (i : Nat) : UInt8 := if s.length = 0 then 0 else s.getD (min i (s.length - 1)) 0
def dataT (a : Act) : Txt := if a.n % 11 = 0 ∧ a.n ≠ 0 then a.data else (List.range 256).map (dataB a.data)
theorem dataT_length (a : Act) (h : a.data.length ≤ 600) : (dataT a).length ≤ 600 := by
  unfold dataT
  split
  · exact h
  · simp
theorem range_set (f : Nat → UInt8) (n k : Nat) (h : k < n) : ((List.range k).map f ++ List.replicate (n - k) 0).set k (f k) = (List.range (k + 1)).map f ++ List.replicate (n - (k + 1)) 0 := by
  apply List.ext_getElem
  · simp; omega
  · intro i h1 h2
    rw [List.getElem_set]
    simp only [List.getElem_append, List.length_map, List.length_range, List.getElem_map, List.getElem_range, List.getElem_replicate]
    split
    · rename_i e; subst e; simp
    · rename_i e
      by_cases h3 : i < k
      · simp [h3, show i < k + 1 by omega]
      · simp [h3, show ¬ i < k + 1 by omega]
theorem range_skip (f : Nat → UInt8) (n k : Nat) (h : k < n) (h0 : f k = 0) : (List.range k).map f ++ List.replicate (n - k) 0 = (List.range (k + 1)).map f ++ List.replicate (n - (k + 1)) 0 := by
  rw [List.range_succ, List.map_append, List.append_assoc, show n - k = (n - (k + 1)) + 1 by omega, List.replicate_succ]
  simp [h0]
theorem dataB_min (s : Txt) (k : Nat) (h0 : 0 < s.length) (h : (min (k : Int) ((s.length : Int) - 1)).toNat < (B s).size) : dataB s k = (B s)[(min (k : Int) ((s.length : Int) - 1)).toNat] := by
  have e : (min (k : Int) ((s.length : Int) - 1)).toNat = min k (s.length - 1) := by omega
  unfold dataB
  rw [if_neg (by omega)]
  simp only [e]
  rw [List.getD_eq_getElem?_getD, List.getElem?_eq_getElem (by omega)]
  rfl
set_option maxRecDepth 100000 in
set_option maxHeartbeats 1600000 in
theorem law_data (a : Act) (vk : Value) (hn1 : -9223372036854775808 ≤ a.n) (hn2 : a.n ≤ 9223372036854775807) (hd : a.data.length ≤ 9223372036854775807) (w : World) :
    Calls Try.prog 29 #[.agg #[.int .i64 a.op, .int .i64 a.pos, .int .i64 a.n, vk, .string (B a.data)]] w fun e w' => e = .returned (.string (B (dataT a))) ∧ Below w.heap.size w w' := by
  obtain ⟨i0, hi, hz0, hz1, hz2⟩ := info_parts Try.info_u8b
  have HT : Hid (dataT a = if a.n % 11 = 0 ∧ a.n ≠ 0 then a.data else (List.range 256).map (dataB a.data)) := Lib.hid rfl
  generalize dataT a = T at *
  obtain ⟨op, pos, n, keep, s⟩ := a
  simp only at *
  have hsz := size_B s
  have ht11 : n.tmod 11 = 0 ↔ n % 11 = 0 := ⟨fun h => Int.emod_eq_zero_of_dvd (Int.dvd_of_tmod_eq_zero h), fun h => Int.tmod_eq_zero_of_dvd (Int.dvd_of_emod_eq_zero h)⟩
  by_cases hraw : n % 11 = 0 ∧ n ≠ 0
  · have h1 : (n.tmod 11 == 0) = true := by rw [beq_iff_eq]; exact ht11.2 hraw.1
    have h2 : (n != 0) = true := by rw [bne_iff_ne]; exact hraw.2
    have HT2 : Hid (T = s) := Lib.hid (by rw [HT.out, if_pos hraw])
    clear hraw ht11
    go_enter Try.func29, Try.ntmps29
    go_wp2
    go_ret
    exact ⟨by rw [HT2.out]; rfl, step_new (Below.refl _ _) _⟩
  · have HT2 : Hid (T = (List.range 256).map (dataB s)) := Lib.hid (by rw [HT.out, if_neg hraw])
    have hb : (n.tmod 11 == 0) = false ∨ ((n.tmod 11 == 0) = true ∧ (n != 0) = false) := by
      by_cases h : n % 11 = 0
      · refine .inr ⟨by rw [beq_iff_eq]; exact ht11.2 h, ?_⟩
        have : n = 0 := by
          by_cases h0 : n = 0
          · exact h0
          · exact absurd ⟨h, h0⟩ hraw
        subst this; rfl
      · refine .inl ?_
        rw [beq_eq_false_iff_ne]
        exact fun h' => h (ht11.1 h')
    clear hraw ht11 HT
    rcases hb with h1 | ⟨h1, h2⟩
    all_goals
      go_enter Try.func29, Try.ntmps29
      go_wp2_with (at_make; go_must (refine wpList_make_full _ rfl _ _ 70 rfl 0 5 i0 (.int .u8 0) 1 Try.underlying70 hi hz0 hz1 _ _ _ _ 256 rfl rfl rfl rfl ?b2 ?b3 (Nat.zero_le _) ?_))
      case b2 => rw [hz2]; omega
      case b3 => unfold maxLen; omega
      intro w1 hown hgrow
      have hrow := BRow.of_make hown
      have hb1 := (Below.refl _ _).grown hgrow (Nat.le_refl _) (fun k h => by cases h)
      have gP := (hb1.block w.heap.size (by simp)).trans (heap_alloc_new w _)
      have c4 : w1.cell? ⟨w.heap.size, 4, none⟩ = some (.string (B s)) := by rw [Lib.cell_of_heap gP]; rfl
      have hbw := Lib.hid (step_alloc (Below.refl _ w) hb1)
      have hlt4 : w.heap.size < (w.alloc (.cells #[.int .i64 op, .int .i64 pos, .int .i64 n, vk, .string (B s)] 37)).heap.size := by simp
      clear hown hgrow gP hb1
      clear h1
      try clear h2
      go_wp2
      have Hrow := Lib.hid hrow
      generalize hga : w.heap.size = ga at *
      have Hga := Lib.hid hga
      clear hrow hga hlt4
      go_loopw [4] (fun x wr => ∃ k : Nat, k ≤ 256 ∧ x = .int .i64 k ∧ BRow wr (ga + 1) ((List.range k).map (dataB s) ++ List.replicate (256 - k) 0) ∧ wr.cell? ⟨ga, 4, none⟩ = some (.string (B s)) ∧ Below ga w wr) (fun x _ => 256 - (intOf x).toNat)
      case atStart => exact ⟨0, by omega, rfl, by have := Hrow.out; simpa using this, c4, hbw.out⟩
      case round =>
        obtain ⟨k, hk, rfl, hr, d4, hbel⟩ := hrel
        have hlen : ((List.range k).map (dataB s) ++ List.replicate (256 - k) (0 : UInt8)).length = 256 := by simp; omega
        by_cases hlt : k < 256
        · have hkl : k < ((List.range k).map (dataB s) ++ List.replicate (256 - k) (0 : UInt8)).length := by omega
          obtain ⟨old, hold⟩ : ∃ v, wr.cell? ⟨ga + 1, k, none⟩ = some v := ⟨_, hr.cell k hkl⟩
          have hfz := hr.frozen k hkl
          have Hset : Hid (∀ x : UInt8, dataB s k = x → BRow (wr.setCell ⟨ga + 1, k, none⟩ (.int .u8 ((x.toNat : Nat) : Int))) (ga + 1) ((List.range (k + 1)).map (dataB s) ++ List.replicate (256 - (k + 1)) 0)) := Lib.hid (fun x hx => by
            have := hr.set k hkl x
            rw [← hx, range_set (dataB s) 256 k hlt] at this
            rw [← hx]
            exact this)
          have Hskip := Lib.hid (fun (h0 : dataB s k = 0) => by have := hr; rw [range_skip (dataB s) 256 k hlt h0] at this; exact this)
          have Hc4 : Hid (∀ v, (wr.setCell ⟨ga + 1, k, none⟩ v).cell? ⟨ga, 4, none⟩ = some (.string (B s))) := Lib.hid (fun v => by
            rw [World.cell?_setCell_other _ _ _ _ (by intro h; have := congrArg Addr.block h; simp at this)]
            exact d4)
          have Hbs : Hid (∀ v, Below ga w (wr.setCell ⟨ga + 1, k, none⟩ v)) := Lib.hid (fun v => hbel.setCell (p := ⟨ga + 1, k, none⟩) (show ga ≤ ga + 1 by omega) v)
          have Hbel := Lib.hid hbel
          clear hlen hr hkl hbel
          by_cases h0 : 0 < s.length
          · have hs1 : (0 : Int) < ((B s).size : Int) := by omega
            have hm0 : (0 : Int) ≤ min (k : Int) ((s.length : Int) - 1) := by omega
            have hm1 : min (k : Int) ((s.length : Int) - 1) < ((B s).size : Int) := by omega
            go_wp2
            go_roundw
            case rel => exact ⟨k + 1, by omega, by go_num, Hset.out _ (dataB_min s k h0 _), Hc4.out _, Hbs.out _⟩
            case measure => simp [intOf]; omega
          · have hs0 : s = [] := List.eq_nil_of_length_eq_zero (by omega)
            subst hs0
            have hs1 : ¬ (0 : Int) < ((B ([] : Txt)).size : Int) := by simp [B, ByteArray.size]
            have hrow2 := Lib.hid (Hskip.out rfl)
            go_wp2
            go_roundw
            case rel => exact ⟨k + 1, by omega, by go_num, hrow2.out, d4, Hbel.out⟩
            case measure => simp [intOf]; omega
        · obtain rfl : k = 256 := by omega
          have hconv := hr.conv 256
          rw [hlen] at hconv
          have hfin : Hid ((List.range 256).map (dataB s) ++ List.replicate (256 - 256) (0 : UInt8) = T) := Lib.hid (by rw [Nat.sub_self, List.replicate_zero, List.append_nil, HT2.out])
          rw [hfin.out] at hconv
          have Hbel := Lib.hid hbel
          clear hr hlen hbel
          go_wp2
          go_ret
          exact ⟨rfl, by rw [Hga.out]; exact Hbel.out⟩
end Go.Proofs.Ytbcagddgchpheaa
