/- Chapter 3: the law's helpers: pick, full, block, small, sameTexts. Conditions: numbers and lengths fit an int. -/
import Derived.Test.YtnljmhdaloolgaaDoorFrmG
namespace Go.Proofs.YtnljmhdaloolgaaDoor
open Go.RowKit Go.Wir Go.Blk Go.Frm

theorem ret_bool {a b : Bool} (h : a = b) : Ending.returned (.bool a) = .returned (.bool b) := by rw [h]
def pickN (c : Int) (n : Nat) : Nat := ((if c < 0 then -(c + 1) else c) % (n : Int)).toNat
theorem pickN_lt (c : Int) (n : Nat) (h : 0 < n) : pickN c n < n := by
  unfold pickN
  have h1 := Int.emod_lt_of_pos (if c < 0 then -(c + 1) else c) (show (0 : Int) < n by omega)
  have h2 := Int.emod_nonneg (if c < 0 then -(c + 1) else c) (show (n : Int) ≠ 0 by omega)
  omega
theorem pickN_int (c : Int) (n : Nat) (h : 0 < n) : ((pickN c n : Nat) : Int) = (if c < 0 then -(c + 1) else c) % (n : Int) := by
  unfold pickN
  have h2 := Int.emod_nonneg (if c < 0 then -(c + 1) else c) (show (n : Int) ≠ 0 by omega)
  omega
set_option maxRecDepth 100000 in
theorem law_pick (c : Int) (n : Nat) (h1 : -9223372036854775808 ≤ c) (h2 : c ≤ 9223372036854775807) (h3 : 0 < n) (h4 : n ≤ 9223372036854775807) (w : World) :
    Calls Tryd.prog 15 #[.int .i64 c, .int .i64 (n : Nat)] w fun e w' => e = .returned (.int .i64 (pickN c n : Nat)) ∧ w = w' := by
  have HP := Lib.hid (pickN_int c n h3)
  have hn0 : ((n : Int) == 0) = false := by rw [beq_eq_false_iff_ne]; omega
  by_cases hc : c < 0
  · go_enter Tryd.func15, Tryd.ntmps15
    go_wp2
    go_ret
    exact ⟨ret_i64 (by rw [HP.out, if_pos hc, ← Int.neg_tmod, Int.tmod_eq_emod_of_nonneg (by omega)]), rfl⟩
  · go_enter Tryd.func15, Tryd.ntmps15
    go_wp2
    go_ret
    exact ⟨ret_i64 (by rw [HP.out, if_neg (by omega)]), rfl⟩
theorem repl_set {α : Type} (a b : α) (n k : Nat) (h : k < n) : (List.replicate k a ++ List.replicate (n - k) b).set k a = List.replicate (k + 1) a ++ List.replicate (n - (k + 1)) b := by
  apply List.ext_getElem
  · simp; omega
  · intro i h1 h2
    rw [List.getElem_set]
    simp only [List.getElem_append, List.length_replicate, List.getElem_replicate]
    split
    · rename_i e; subst e; simp
    · rename_i e
      by_cases h3 : i < k
      · simp [h3, show i < k + 1 by omega]
      · simp [h3, show ¬ i < k + 1 by omega]
def fullT (c : UInt8) : Txt := List.replicate 256 c
set_option maxRecDepth 100000 in
set_option maxHeartbeats 800000 in
theorem law_full (c : UInt8) (w : World) : Calls Tryd.prog 21 #[.int .u8 ((c.toNat : Nat) : Int)] w fun e w' => e = .returned (.string (B (fullT c))) ∧ Below w.heap.size w w' := by
  obtain ⟨i0, hi, hz0, hz1, hz2⟩ := info_parts Tryd.info_u8F
  go_enter Tryd.func21, Tryd.ntmps21
  go_wp2_with (at_make; go_must (refine wpList_make_full w rfl _ _ 34 rfl 0 5 i0 (.int .u8 0) 1 Tryd.underlying34 hi hz0 hz1 _ _ _ _ 256 rfl rfl rfl rfl ?b2 ?b3 (Nat.zero_le _) ?_))
  case b2 => rw [hz2]; omega
  case b3 => unfold maxLen; omega
  intro w1 hown hgrow
  have hrow : BRow w1 w.heap.size (List.replicate 256 0) := BRow.of_makeF hown
  have hb1 : Below w.heap.size w w1 := (Below.refl _ w).grown hgrow (Nat.le_refl _) (fun k h => by cases h)
  clear hown hgrow
  have Hrow := Lib.hid hrow
  have Hb1 := Lib.hid hb1
  generalize hgb : w.heap.size = gb at *
  have Hgb := Lib.hid hgb
  clear hrow hb1 hgb
  go_wp2
  go_loopw [4] (fun x wr => ∃ k : Nat, k ≤ 256 ∧ x = .int .i64 k ∧ BRow wr gb (List.replicate k c ++ List.replicate (256 - k) 0) ∧ Below gb w wr) (fun x _ => 256 - (intOf x).toNat)
  case atStart => exact ⟨0, by omega, rfl, Hrow.out, Hb1.out⟩
  case round =>
    obtain ⟨k, hk, rfl, hr, hbel⟩ := hrel
    have hlen : (List.replicate k c ++ List.replicate (256 - k) (0 : UInt8)).length = 256 := by rw [List.length_append, List.length_replicate, List.length_replicate]; omega
    by_cases hlt : k < 256
    · have hkl : k < (List.replicate k c ++ List.replicate (256 - k) (0 : UInt8)).length := by omega
      obtain ⟨old, hold⟩ : ∃ v, wr.cell? ⟨gb, k, none⟩ = some v := ⟨_, hr.cell k hkl⟩
      have hfz := hr.frozen k hkl
      have hset := hr.set k hkl c
      rw [repl_set c 0 256 k hlt] at hset
      have Hset := Lib.hid hset
      have hbs := Lib.hid (hbel.setCell (p := ⟨gb, k, none⟩) (Nat.le_refl gb) (.int .u8 ((c.toNat : Nat) : Int)))
      clear hset hlen hr hkl
      go_wp2
      go_roundw
      case rel => exact ⟨k + 1, by omega, by go_num, Hset.out, hbs.out⟩
      case measure => simp [intOf]; omega
    · obtain rfl : k = 256 := by omega
      have hconv := hr.conv 256
      rw [hlen] at hconv
      have hfin : Hid (List.replicate 256 c ++ List.replicate (256 - 256) (0 : UInt8) = fullT c) := Lib.hid (by rw [Nat.sub_self, List.replicate_zero, List.append_nil]; rfl)
      rw [hfin.out] at hconv
      have Hbel := Lib.hid hbel
      clear hr hlen hbel
      go_wp2
      go_ret
      exact ⟨rfl, by rw [Hgb.out]; exact Hbel.out⟩
/-- A block of a text: it, and noughts behind, or its beginning. -/
def blockT (s : Txt) : Txt := s.take 256 ++ List.replicate (256 - s.length) 0
theorem blockT_length (s : Txt) : (blockT s).length = 256 := by unfold blockT; rw [List.length_append, List.length_take, List.length_replicate]; omega
theorem part_set (s : Txt) (k : Nat) (hk : k < s.length) (hk2 : k < 256) : (s.take k ++ List.replicate (256 - k) (0 : UInt8)).set k s[k] = s.take (k + 1) ++ List.replicate (256 - (k + 1)) 0 := by
  rw [List.take_succ_eq_append_getElem hk, List.set_append_right _ _ (by rw [List.length_take]; omega), List.length_take, Nat.min_eq_left (by omega), Nat.sub_self, show 256 - k = (256 - (k + 1)) + 1 by omega, List.replicate_succ, List.set_cons_zero, List.append_assoc]
  rfl
set_option maxRecDepth 100000 in
set_option maxHeartbeats 800000 in
theorem law_block (s : Txt) (hs : s.length ≤ 1000000) (w : World) : Calls Tryd.prog 20 #[.string (B s)] w fun e w' => e = .returned (.string (B (blockT s))) ∧ Below w.heap.size w w' := by
  obtain ⟨i0, hi, hz0, hz1, hz2⟩ := info_parts Tryd.info_u8F
  have hsz := size_B s
  have Hsz := Lib.hid hsz
  rw [← hsz] at hs
  generalize hn : (B s).size = n at *
  have hnl : s.length = n := by omega
  have Hn := Lib.hid hn
  have Hnl := Lib.hid hnl
  clear hn hsz
  go_enter Tryd.func20, Tryd.ntmps20
  go_wp2_with (at_make; go_must (refine wpList_make_full w rfl _ _ 34 rfl 0 5 i0 (.int .u8 0) 1 Tryd.underlying34 hi hz0 hz1 _ _ _ _ 256 rfl rfl rfl rfl ?b2 ?b3 (Nat.zero_le _) ?_))
  case b2 => rw [hz2]; omega
  case b3 => unfold maxLen; omega
  intro w1 hown hgrow
  have hrow : BRow w1 w.heap.size (List.replicate 256 0) := BRow.of_makeF hown
  have hb1 : Below w.heap.size w w1 := (Below.refl _ w).grown hgrow (Nat.le_refl _) (fun k h => by cases h)
  clear hown hgrow
  have Hrow := Lib.hid hrow
  have Hb1 := Lib.hid hb1
  generalize hgb : w.heap.size = gb at *
  have Hgb := Lib.hid hgb
  clear hrow hb1 hgb hnl
  go_wp2
  go_loopw [4] (fun x wr => ∃ k : Nat, k ≤ n ∧ k ≤ 256 ∧ x = .int .i64 k ∧ BRow wr gb (s.take k ++ List.replicate (256 - k) 0) ∧ Below gb w wr) (fun x _ => 256 - (intOf x).toNat)
  case atStart => exact ⟨0, by omega, by omega, rfl, Hrow.out, Hb1.out⟩
  case round =>
    obtain ⟨k, hkn, hk, rfl, hr, hbel⟩ := hrel
    have hlen : (s.take k ++ List.replicate (256 - k) (0 : UInt8)).length = 256 := by rw [List.length_append, List.length_replicate, List.length_take, Hnl.out]; omega
    by_cases hlt : k < n ∧ k < 256
    · obtain ⟨hlt, hlt2⟩ := hlt
      have hk3 : k < (B s).size := by rw [Hn.out]; exact hlt
      have hkl : k < (s.take k ++ List.replicate (256 - k) (0 : UInt8)).length := by omega
      obtain ⟨old, hold⟩ : ∃ v, wr.cell? ⟨gb, k, none⟩ = some v := ⟨_, hr.cell k hkl⟩
      have hfz := hr.frozen k hkl
      have hset := hr.set k hkl ((B s)[k]'hk3)
      rw [show (B s)[k]'hk3 = s[k]'(by rw [Hnl.out]; exact hlt) by rw [get_L]; rfl, part_set s k (by rw [Hnl.out]; exact hlt) hlt2] at hset
      rw [show s[k]'(by rw [Hnl.out]; exact hlt) = (B s)[k]'hk3 by rw [get_L]; rfl] at hset
      have Hset := Lib.hid hset
      have hk1 : (k : Int) < ((B s).size : Int) := by omega
      have hk4 : (k : Int) < 256 := by omega
      have hbs := Lib.hid (hbel.setCell (p := ⟨gb, k, none⟩) (Nat.le_refl gb) (.int .u8 ((((B s)[k]'hk3).toNat : Nat) : Int)))
      have Hlen := Lib.hid hlen
      clear hset hr hkl hlen
      go_wp2
      go_roundw
      case rel => exact ⟨k + 1, by omega, by omega, by go_num, Hset.out, hbs.out⟩
      case measure => simp [intOf]; omega
    · have hconv := hr.conv 256
      rw [hlen] at hconv
      have hfin : Hid (s.take k ++ List.replicate (256 - k) (0 : UInt8) = blockT s) := Lib.hid (by
        unfold blockT
        rw [Hnl.out]
        by_cases h5 : k = n
        · subst h5
          rw [List.take_of_length_le (by rw [Hnl.out]; omega), List.take_of_length_le (by rw [Hnl.out]; omega)]
        · obtain rfl : k = 256 := by omega
          rw [show 256 - n = 0 by omega])
      rw [hfin.out] at hconv
      have Hbel := Lib.hid hbel
      have hk1 : (n : Int) ≤ (k : Int) ∨ (256 : Int) ≤ (k : Int) := by omega
      clear hr hlen hbel
      rcases hk1 with hk1 | hk1
      · have hk2 : ((B s).size : Int) ≤ (k : Int) := by have := Hn.out; omega
        clear hlt
        go_wp2
        go_ret
        exact ⟨rfl, by rw [Hgb.out]; exact Hbel.out⟩
      · clear hlt
        by_cases hk4 : (k : Int) < ((B s).size : Int)
        · go_wp2
          go_ret
          exact ⟨rfl, by rw [Hgb.out]; exact Hbel.out⟩
        · have hk2 : ((B s).size : Int) ≤ (k : Int) := by omega
          go_wp2
          go_ret
          exact ⟨rfl, by rw [Hgb.out]; exact Hbel.out⟩
def smallW (l : List Wr) : Bool := decide (l.length ≤ 60) && l.all (fun p => decide (p.2.length ≤ 600))
set_option maxRecDepth 100000 in
set_option maxHeartbeats 800000 in
theorem law_small (v : Value) (l : List Wr) (w : World) (h : Wrs w v l) (hn : l.length ≤ 9223372036854775807) (hf : ∀ p ∈ l, p.2.length ≤ 9223372036854775807) :
    Calls Tryd.prog 10 #[v] w fun e w' => e = .returned (.bool (smallW l)) ∧ w = w' := by
  obtain ⟨oa, c, rfl, hcell⟩ := h.form
  have Hcell := Lib.hid hcell
  have Hf := Lib.hid hf
  clear h hf hcell
  by_cases h60 : 60 < l.length
  · have hR : Hid (smallW l = false) := Lib.hid (by unfold smallW; rw [decide_eq_false (by omega)]; rfl)
    go_enter Tryd.func10, Tryd.ntmps10
    go_wp2
    go_ret
    exact ⟨by rw [hR.out]; rfl, rfl⟩
  · have HR : Hid (smallW l = l.all (fun p => decide (p.2.length ≤ 600))) := Lib.hid (by unfold smallW; rw [decide_eq_true (by omega)]; rfl)
    generalize smallW l = R at *
    go_enter Tryd.func10, Tryd.ntmps10
    go_wp2
    go_loop [3] (fun i => ∃ k : Nat, k ≤ l.length ∧ i = .int .i64 k ∧ l.all (fun p => decide (p.2.length ≤ 600)) = (l.drop k).all (fun p => decide (p.2.length ≤ 600))) (fun i => l.length - (intOf i).toNat)
    case atStart => exact ⟨0, by omega, rfl, by rw [List.drop_zero]⟩
    case round =>
      obtain ⟨k, hk, rfl, hl⟩ := hrel
      have Hl := Lib.hid hl
      clear hl
      by_cases hlt : k < l.length
      · obtain ⟨b, off, rfl, hb, c0, c1⟩ := Hcell.out k hlt
        have hff := Hf.out l[k] (List.getElem_mem hlt)
        have hl2 := Hl.out
        rw [List.drop_eq_getElem_cons hlt, List.all_cons] at hl2
        have Hl2 := Lib.hid hl2
        clear hl2 c0
        generalize l[k] = p at *
        have hsz := size_B p.2
        have hk1 : (k : Int) < (l.length : Int) := by omega
        by_cases h6 : 600 < p.2.length
        · have hR : Hid (R = false) := Lib.hid (by rw [HR.out, Hl2.out, decide_eq_false (p := p.2.length ≤ 600) (by omega)]; rfl)
          go_wp2
          go_ret
          exact ⟨by rw [hR.out]; rfl, rfl⟩
        · have hR : Hid (l.all (fun p => decide (p.2.length ≤ 600)) = (l.drop (k + 1)).all (fun p => decide (p.2.length ≤ 600))) := Lib.hid (by rw [Hl2.out, decide_eq_true (p := p.2.length ≤ 600) (by omega)]; rfl)
          go_wp2
          go_round
          case rel => exact ⟨k + 1, by omega, by go_num, hR.out⟩
          case measure => simp [intOf]; omega
      · obtain rfl : k = l.length := by omega
        have hR : Hid (R = true) := Lib.hid (by rw [HR.out, Hl.out, List.drop_length]; rfl)
        go_wp2
        go_ret
        exact ⟨by rw [hR.out]; rfl, rfl⟩
set_option maxRecDepth 100000 in
set_option maxHeartbeats 800000 in
theorem law_sameTexts (va vb : Value) (l : List Txt) (hn : l.length ≤ 9223372036854775807) (w : World) (ha : Row w va (txtV l)) (hb : Row w vb (txtV l)) :
    Calls Tryd.prog 13 #[va, vb] w fun e w' => e = .returned (.bool true) ∧ Below w.heap.size w w' := by
  obtain ⟨o1, k1, rfl, hc1⟩ := txt_row ha
  obtain ⟨o2, k2, rfl, hc2⟩ := txt_row hb
  have Ha := Lib.hid hc1
  have Hb := Lib.hid hc2
  have hne : ((l.length : Int) != (l.length : Int)) = false := by simp
  clear ha hb hc1 hc2
  go_enter Tryd.func13, Tryd.ntmps13
  go_wp2
  clear hne
  go_loopw [5] (fun i wr => ∃ k : Nat, k ≤ l.length ∧ i = .int .i64 k ∧ Below w.heap.size w wr) (fun i _ => l.length - (intOf i).toNat)
  case atStart => exact ⟨0, by omega, rfl, Below.refl _ _⟩
  case round =>
    obtain ⟨k, hk, rfl, hbel⟩ := hrel
    by_cases hlt : k < l.length
    · obtain ⟨b1, f1, rfl, hb1, _, d1⟩ := Ha.out k hlt
      obtain ⟨b2, f2, rfl, hb2, _, d2⟩ := Hb.out k hlt
      have d1 := cell_below hbel hb1 d1
      have d2 := cell_below hbel hb2 d2
      have Hbel := Lib.hid hbel
      clear hbel
      generalize l[k] = x at *
      have e1 : ((B x).toList != (B x).toList) = false := by simp
      have hk1 : (k : Int) < (l.length : Int) := by omega
      go_wp2
      go_quiet (fail)
      go_wp2
      go_roundw
      case rel => exact ⟨k + 1, by omega, by go_num, below_drewN Hbel.out _⟩
      case measure => simp [intOf]; omega
    · obtain rfl : k = l.length := by omega
      go_wp2
      go_ret
      exact ⟨rfl, hbel⟩
set_option maxRecDepth 100000 in
set_option maxHeartbeats 800000 in
theorem law_sameWrites (va vb : Value) (l : List Wr) (hn : l.length ≤ 9223372036854775807) (w : World) (ha : Wrs w va l) (hb : Wrs w vb l) :
    Calls Tryd.prog 19 #[va, vb] w fun e w' => e = .returned (.bool true) ∧ Below w.heap.size w w' := by
  obtain ⟨o1, k1, rfl, hc1⟩ := ha.form
  obtain ⟨o2, k2, rfl, hc2⟩ := hb.form
  have Ha := Lib.hid hc1
  have Hb := Lib.hid hc2
  have hne : ((l.length : Int) != (l.length : Int)) = false := by simp
  clear ha hb hc1 hc2
  go_enter Tryd.func19, Tryd.ntmps19
  go_wp2
  clear hne
  go_loopw [5] (fun i wr => ∃ k : Nat, k ≤ l.length ∧ i = .int .i64 k ∧ Below w.heap.size w wr) (fun i _ => l.length - (intOf i).toNat)
  case atStart => exact ⟨0, by omega, rfl, Below.refl _ _⟩
  case round =>
    obtain ⟨k, hk, rfl, hbel⟩ := hrel
    by_cases hlt : k < l.length
    · obtain ⟨b1, f1, rfl, hb1, d1, d1'⟩ := Ha.out k hlt
      obtain ⟨b2, f2, rfl, hb2, d2, d2'⟩ := Hb.out k hlt
      have d1 := cell_below hbel hb1 d1
      have d2 := cell_below hbel hb2 d2
      have d1' := cell_below hbel hb1 d1'
      have d2' := cell_below hbel hb2 d2'
      have Hbel := Lib.hid hbel
      clear hbel
      generalize l[k].1 = x at *
      generalize l[k].2 = y at *
      have hk1 : (k : Int) < (l.length : Int) := by omega
      go_wp2
      go_quiet (fail)
      go_wp2
      go_roundw
      case rel => exact ⟨k + 1, by omega, by go_num, below_drewN Hbel.out _⟩
      case measure => simp [intOf]; omega
    · obtain rfl : k = l.length := by omega
      go_wp2
      go_ret
      exact ⟨rfl, hbel⟩
end Go.Proofs.YtnljmhdaloolgaaDoor
