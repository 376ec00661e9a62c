/- Chapter 8: inode.Find: a binary search by a comparison, walked by hand; codexref8.Find. Conditions: the sizes. -/
import Derived.Test.YteemloillnfaeaaDoorInoC
namespace Go.Proofs.YteemloillnfaeaaDoor
open Go.RowKit Go.Ino

theorem isNaN_at (s : ByteArray) (w : World) : Calls Tryd.prog 92 #[.string s] w fun e w' => e = .returned (.bool false) ∧ w = w' := by
  go_enter Tryd.func92, Tryd.ntmps92
  go_wp2
  go_ret
  exact ⟨by simp, rfl⟩
def cmpT (x t : Tx) : Int := if x < t then -1 else if x = t then 0 else 1
set_option maxRecDepth 100000 in
theorem compare_at (x t : Tx) (w : World) : Calls Tryd.prog 70 #[.string (B x), .string (B t)] w fun e w' => e = .returned (.int .i64 (cmpT x t)) ∧ w = w' := by
  have h1 := less_B' x t
  have h2 : ((B x).toList == (B t).toList) = decide (x = t) := by rw [toList_B, toList_B, Bool.eq_iff_iff, beq_iff_eq, decide_eq_true_eq]
  have Hc := Lib.hid (show cmpT x t = cond (decide (x < t)) (-1) (cond (decide (x = t)) 0 1) by unfold cmpT; by_cases h : x < t <;> by_cases h' : x = t <;> simp [h, h'])
  generalize decide (x < t) = b1 at *
  generalize decide (x = t) = b2 at *
  cases b1 <;> cases b2
  all_goals
    go_enter Tryd.func70, Tryd.ntmps70
    go_wp2_with (go_at_call 92; refine (isNaN_at _ _).mono ?_; rintro e w1 ⟨rfl, rfl⟩)
    go_ret
    exact ⟨by rw [Hc.out]; rfl, rfl⟩
theorem place_iff {l : List Fil} {t : Tx} (hr : riseB l = true) {i : Nat} (hi : i < l.length) : l[i].name < t ↔ i < placeL l t := by
  unfold riseB at hr
  have hr := List.pairwise_iff_getElem.1 (of_decide_eq_true hr)
  constructor
  · intro h
    rcases Nat.lt_or_ge i (placeL l t) with h2 | h2
    · exact h2
    · exfalso
      have h3 := place_at (l := l) (t := t) (by omega)
      rcases Nat.lt_or_ge (placeL l t) i with h4 | h4
      · exact h3 (List.lt_trans (hr _ _ (by omega) hi h4) h)
      · obtain rfl : i = placeL l t := by omega
        exact h3 h
  · intro h
    obtain ⟨_, h2⟩ := place_lo i h
    exact h2
theorem cmp_lt (x t : Tx) : (cmpT x t < 0) ↔ x < t := by
  unfold cmpT
  by_cases h : x < t
  · rw [if_pos h]; exact ⟨fun _ => h, fun _ => by omega⟩
  · rw [if_neg h]; split <;> exact ⟨fun h2 => absurd h2 (by omega), fun h2 => absurd h2 h⟩
theorem cmp_eq {x t : Tx} (h : ¬ x < t) : (cmpT x t = 0) ↔ x = t := by unfold cmpT; by_cases h' : x = t <;> simp [h, h']
theorem cmp_bd (x t : Tx) : -1 ≤ cmpT x t ∧ cmpT x t ≤ 1 := by
  unfold cmpT
  split
  · omega
  · split <;> omega
theorem found_at {l : List Fil} {t : Tx} (h : placeL l t < l.length) : foundB l t = decide (cmpT l[placeL l t].name t = 0) := by
  unfold foundB
  rw [List.getElem?_eq_getElem h]
  simp only
  rw [Bool.eq_iff_iff, beq_iff_eq, decide_eq_true_eq, cmp_eq (place_at h)]
theorem found_no {l : List Fil} {t : Tx} (h : ¬ placeL l t < l.length) : foundB l t = false := by
  unfold foundB
  rw [List.getElem?_eq_none (by omega)]
set_option maxRecDepth 100000 in
theorem search_cmp (x t : Tx) (x1 x2 x3 : Value) (kb : Nat) (w : World) (hk : w.cell? ⟨kb, 0, none⟩ = some (.func (.func 38) #[] #[])) (hkb : kb < w.heap.size) :
    Calls Tryd.prog 69 #[.agg #[.string (B x), x1, x2, x3], .string (B t), .pointer (some ⟨kb, 0, none⟩)] w fun e w' => e = .returned (.int .i64 (cmpT x t)) ∧ Below w.heap.size w w' := by
  go_enter Tryd.func69, Tryd.ntmps69
  go_wp2_with (first
    | (go_at_call 38; refine (inode_name _ _ _ _ _).mono ?_; rintro e w1 ⟨rfl, hb1⟩)
    | (go_at_call 70; refine (compare_at _ _ _).mono ?_; rintro e w2 ⟨rfl, rfl⟩)
    | fail)
  go_ret
  exact ⟨rfl, step_call (step_new (Below.refl _ _) _) hb1⟩
set_option maxRecDepth 100000 in
theorem bsearch_at (oa : Option Addr) (c : Nat) (l : List Fil) (t : Tx) (hr : riseB l = true) (hn : l.length ≤ 4611686018427387903) (w : World) (hv : Files w (.slice oa l.length c) l) (kb : Nat) (hk : w.cell? ⟨kb, 0, none⟩ = some (.func (.func 38) #[] #[])) (hkb : kb < w.heap.size) :
    Calls Tryd.prog 68 #[.slice oa l.length c, .string (B t), .func (.func 69) #[] #[.pointer (some ⟨kb, 0, none⟩)]] w fun e w' => e = .returned (.tuple #[.int .i64 (placeL l t), .bool (foundB l t)]) ∧ Below w.heap.size w w' := by
  obtain ⟨P, hP⟩ : ∃ P, placeL l t = P := ⟨_, rfl⟩
  have hPl : P ≤ l.length := by rw [← hP]; exact place_le l t
  obtain ⟨oa', c', e, _, hcell⟩ := hv
  simp only [Value.slice.injEq, true_and] at e
  obtain ⟨rfl, rfl⟩ := e
  have Hcells := Lib.hid hcell
  have Hk := Lib.hid hk
  have hr' := Lib.hid hr
  clear hcell hk hr
  go_enter Tryd.func68, Tryd.ntmps68
  go_wp2
  go_loopw [9, 10] (fun i j wr => ∃ a b : Nat, a ≤ P ∧ P ≤ b ∧ b ≤ l.length ∧ i = .int .i64 a ∧ j = .int .i64 b ∧ Below w.heap.size w wr) (fun i j _ => (intOf j).toNat - (intOf i).toNat)
  case atStart => exact ⟨0, l.length, by omega, hPl, by omega, rfl, rfl, Below.refl _ _⟩
  case round =>
    obtain ⟨a, b, ha, hb, hbl, rfl, rfl, hbel⟩ := hrel
    have Hbel := Lib.hid hbel
    clear hbel
    by_cases hlt : a < b
    · have hlt' : (a : Int) < (b : Int) := by omega
      obtain ⟨m, hm, hm1, hm2⟩ : ∃ m : Nat, ((a : Int) + (b : Int)) / 2 = (m : Int) ∧ a ≤ m ∧ m < b := ⟨(a + b) / 2, by omega, by omega, by omega⟩
      have hml : (m : Int) < (l.length : Int) := by omega
      obtain ⟨bb, off, ve, rfl, hbb, c1, c2, c3, c4, -⟩ := Hcells.out m (by omega)
      have c1 := cell_below Hbel.out hbb c1
      have c2 := cell_below Hbel.out hbb c2
      have c3 := cell_below Hbel.out hbb c3
      have c4 := cell_below Hbel.out hbb c4
      have Hk' := Lib.hid (cell_below Hbel.out hkb Hk.out)
      have hkb' : kb < wr.heap.size := Nat.lt_of_lt_of_le hkb Hbel.out.size
      have Hm := Lib.hid ((cmp_lt l[m].name t).trans (place_iff hr'.out (by omega)))
      have Hbd := cmp_bd l[m].name t
      have HC := Lib.hid (search_cmp l[m].name t (.bool l[m].shut) (.int .i64 l[m].size) ve kb wr Hk'.out hkb')
      rw [hP] at Hm
      generalize l[m] = f at *
      generalize cmpT f.name t = d at *
      by_cases hd : d < 0
      · have hmP := Hm.out.1 hd
        go_wp2_with (go_at_call 69; refine HC.out.mono ?_; rintro e w2 ⟨rfl, hb2⟩)
        go_roundw
        case rel => exact ⟨m + 1, b, by omega, hb, hbl, by go_num, rfl, step_call Hbel.out hb2⟩
        case measure => simp [intOf]; omega
      · have hmP : ¬ m < P := fun h => hd (Hm.out.2 h)
        go_wp2_with (go_at_call 69; refine HC.out.mono ?_; rintro e w2 ⟨rfl, hb2⟩)
        go_roundw
        case rel => exact ⟨a, m, ha, by omega, by omega, rfl, rfl, step_call Hbel.out hb2⟩
        case measure => simp [intOf]; omega
    · obtain rfl : a = P := by omega
      obtain rfl : a = b := by omega
      by_cases hlt2 : a < l.length
      · have hal : (a : Int) < (l.length : Int) := by omega
        obtain ⟨bb, off, ve, rfl, hbb, c1, c2, c3, c4, -⟩ := Hcells.out a (by omega)
        have c1 := cell_below Hbel.out hbb c1
        have c2 := cell_below Hbel.out hbb c2
        have c3 := cell_below Hbel.out hbb c3
        have c4 := cell_below Hbel.out hbb c4
        have Hk' := Lib.hid (cell_below Hbel.out hkb Hk.out)
        have hkb' : kb < wr.heap.size := Nat.lt_of_lt_of_le hkb Hbel.out.size
        have Hf : Hid (foundB l t = (cmpT l[a].name t == 0)) := Lib.hid (by
          have := found_at (l := l) (t := t) (by omega)
          simp only [hP] at this; rw [this, Bool.eq_iff_iff, beq_iff_eq, decide_eq_true_eq])
        have HC := Lib.hid (search_cmp l[a].name t (.bool l[a].shut) (.int .i64 l[a].size) ve kb wr Hk'.out hkb')
        generalize l[a] = f at *
        have Hbd := cmp_bd f.name t
        generalize cmpT f.name t = d at *
        go_wp2_with (go_at_call 69; refine HC.out.mono ?_; rintro e w2 ⟨rfl, hb2⟩)
        go_ret2
        exact ⟨by rw [Hf.out, hP]; rfl, step_call Hbel.out hb2⟩
      · have Hf := Lib.hid (found_no (l := l) (t := t) (by omega))
        have hal : ¬ (a : Int) < (l.length : Int) := by omega
        go_wp2
        go_ret2
        exact ⟨by rw [Hf.out]; first | rfl | (rw [hP]; rfl), Hbel.out⟩
theorem search_at (oa : Option Addr) (c : Nat) (l : List Fil) (t : Tx) (hr : riseB l = true) (hn : l.length ≤ 4611686018427387903) (w : World) (hv : Files w (.slice oa l.length c) l) :
    Calls Tryd.prog 43 #[.slice oa l.length c, .func (.func 38) #[] #[], .string (B t)] w fun e w' => e = .returned (.tuple #[.int .i64 (placeL l t), .bool (foundB l t)]) ∧ Below w.heap.size w w' := by
  have Hv := Lib.hid hv
  clear hv
  go_enter Tryd.func43, Tryd.ntmps43
  go_wp2_with (go_at_call 68; refine (bsearch_at oa c l t hr hn _ (Hv.out.below (step_new (Below.refl _ _) _)) w.heap.size (by first | rfl | (rw [Lib.cell_of_heap (heap_alloc_new w _)]; rfl)) (by rw [World.size_alloc]; omega)).mono ?_; rintro e w2 ⟨rfl, hb2⟩)
  go_ret2
  exact ⟨rfl, step_call (step_new (Below.refl _ _) _) hb2⟩
theorem inode_Find (v : Value) (l : List Fil) (t : Tx) (hr : riseB l = true) (hn : l.length ≤ 4611686018427387903) (w : World) (hv : Files w v l) :
    Calls Tryd.prog 22 #[v, .string (B t)] w fun e w' => e = .returned (.tuple #[.int .i64 (placeL l t), .bool (foundB l t)]) ∧ Below w.heap.size w w' := by
  obtain ⟨oa, c, rfl, hn0, hcell⟩ := hv
  have Hv : Hid (Files w (.slice oa l.length c) l) := Lib.hid ⟨oa, c, rfl, hn0, hcell⟩
  clear hcell hn0
  go_enter Tryd.func22, Tryd.ntmps22
  go_wp2_with (go_at_call 43; refine (search_at oa c l t hr hn _ Hv.out).mono ?_; rintro e w2 ⟨rfl, hb2⟩)
  go_ret2
  exact ⟨rfl, hb2⟩
/-- The document's answer: the place of a name. -/
def LoUp (l : List Fil) (t : Tx) (k : Nat) : Prop := ∀ i (_ : i < k) (h2 : i < l.length), l[i].name < t
set_option maxRecDepth 100000 in
theorem ref8_Find (v : Value) (l : List Fil) (t : Tx) (hn : l.length ≤ 4611686018427387903) (w : World) (hv : Files w v l) :
    Calls Tryd.prog 23 #[v, .string (B t)] w fun e w' => e = .returned (.tuple #[.int .i64 (placeL l t), .bool (foundB l t)]) ∧ Below w.heap.size w w' := by
  obtain ⟨oa, c, rfl, hn0, hcell⟩ := hv
  have Hcells := Lib.hid hcell
  clear hcell hn0
  go_enter Tryd.func23, Tryd.ntmps23
  go_wp2
  go_loopw [6] (fun i wr => ∃ k : Nat, k ≤ l.length ∧ i = .int .i64 k ∧ LoUp l t k ∧ Below w.heap.size w wr) (fun i _ => l.length - (intOf i).toNat)
  case atStart => exact ⟨0, by omega, rfl, fun i h => absurd h (Nat.not_lt_zero _), Below.refl _ _⟩
  case round =>
    obtain ⟨k, hk, rfl, hlo, hbel⟩ := hrel
    have Hbel := Lib.hid hbel
    have Hlo := Lib.hid hlo
    clear hlo hbel
    by_cases hlt : k < l.length
    · obtain ⟨b, off, ve, rfl, hb, c1, -, -, -, -⟩ := Hcells.out k hlt
      have c1 := cell_below Hbel.out hb c1
      have hki : (k : Int) < (l.length : Int) := by omega
      have h1 := less_B' l[k].name t
      have h2 : ((B l[k].name).toList == (B t).toList) = decide (l[k].name = t) := by rw [toList_B, toList_B, Bool.eq_iff_iff, beq_iff_eq, decide_eq_true_eq]
      by_cases hd : l[k].name < t
      · have Hn : Hid (LoUp l t (k + 1)) := Lib.hid (fun i h h2 => by
          rcases Nat.lt_or_ge i k with h | h'
          · exact Hlo.out i h h2
          · obtain rfl : i = k := by omega
            exact hd)
        rw [decide_eq_true hd] at h1
        clear h2 hd
        generalize l[k] = f at *
        go_wp2
        go_roundw
        case rel => exact ⟨k + 1, by omega, by go_num, Hn.out, by first | exact Hbel.out | exact below_drewN Hbel.out _⟩
        case measure => simp [intOf]; omega
      · have Hp : Hid (placeL l t = k) := Lib.hid (place_is hk Hlo.out (fun _ => hd))
        have Hf : Hid (foundB l t = decide (l[k].name = t)) := Lib.hid (by
          unfold foundB; rw [Hp.out, List.getElem?_eq_getElem hlt]; simp only; rw [Bool.eq_iff_iff, beq_iff_eq, decide_eq_true_eq])
        rw [decide_eq_false hd] at h1
        generalize decide (l[k].name = t) = bb at *
        clear hd
        generalize l[k] = f at *
        cases bb
        all_goals
          go_wp2
          go_quiet (fail)
          go_wp2
          go_ret2
          exact ⟨by rw [Hf.out, Hp.out]; rfl, below_drewN Hbel.out _⟩
    · obtain rfl : k = l.length := by omega
      have Hp : Hid (placeL l t = l.length) := Lib.hid (place_is hk Hlo.out (fun h => absurd h (by omega)))
      have Hf := Lib.hid (found_no (l := l) (t := t) (by rw [Hp.out]; omega))
      go_wp2
      go_quiet (fail)
      go_wp2
      all_goals
        go_ret2
        exact ⟨by rw [Hf.out, Hp.out]; rfl, below_drewN Hbel.out _⟩
end Go.Proofs.YteemloillnfaeaaDoor
