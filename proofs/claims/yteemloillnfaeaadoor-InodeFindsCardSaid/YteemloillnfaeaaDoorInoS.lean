/- Chapter 8: the statements' own helpers: codexlaw8.same of the same files, codexlaw8.pick. Conditions: the lists' lengths fit an int. -/
import Derived.Test.YteemloillnfaeaaDoorInoQ
namespace Go.Proofs.YteemloillnfaeaaDoor
open Go.RowKit Go.Wir Go.Ino
attribute [local go_sem] Oper.semAt_some

def pickN (c : Int) (n : Nat) : Nat := ((if c < 0 then -(c + 1) else c) % (n : Int)).toNat
theorem pickN_lt (c : Int) (n : Nat) (h : 0 < n) : pickN c n < n := by
  unfold pickN
  have h1 := Int.emod_lt_of_pos (if c < 0 then -(c + 1) else c) (show (0 : Int) < n by omega)
  have h2 := Int.emod_nonneg (if c < 0 then -(c + 1) else c) (show (n : Int) ≠ 0 by omega)
  omega
theorem pickN_int (c : Int) (n : Nat) (h : 0 < n) : ((pickN c n : Nat) : Int) = (if c < 0 then -(c + 1) else c) % (n : Int) := by
  unfold pickN
  have h2 := Int.emod_nonneg (if c < 0 then -(c + 1) else c) (show (n : Int) ≠ 0 by omega)
  omega
set_option maxRecDepth 100000 in
theorem law_pick (c : Int) (n : Nat) (h1 : -9223372036854775808 ≤ c) (h2 : c ≤ 9223372036854775807) (h3 : 0 < n) (h4 : n ≤ 9223372036854775807) (w : World) :
    Calls Tryd.prog 17 #[.int .i64 c, .int .i64 (n : Nat)] w fun e w' => e = .returned (.int .i64 (pickN c n : Nat)) ∧ w = w' := by
  have HP := Lib.hid (pickN_int c n h3)
  have hn0 : ((n : Int) == 0) = false := by rw [beq_eq_false_iff_ne]; omega
  by_cases hc : c < 0
  · go_enter Tryd.func17, Tryd.ntmps17
    go_wp2
    go_ret
    exact ⟨congrArg (fun i => Ending.returned (.int .i64 i)) (by rw [HP.out, if_pos hc, ← Int.neg_tmod, Int.tmod_eq_emod_of_nonneg (by omega)]), rfl⟩
  · go_enter Tryd.func17, Tryd.ntmps17
    go_wp2
    go_ret
    exact ⟨congrArg (fun i => Ending.returned (.int .i64 i)) (by rw [HP.out, if_neg (by omega)]), rfl⟩
set_option maxRecDepth 100000 in
set_option maxHeartbeats 3200000 in
theorem law_same (va vb : Value) (l : List Fil) (hn : l.length ≤ 9223372036854775807) (hfit : ∀ f ∈ l, FitF f) (w : World) (ha : Files w va l) (hb : Files w vb l) :
    Calls Tryd.prog 16 #[va, vb] w fun e w' => e = .returned (.bool true) ∧ Below w.heap.size w w' := by
  obtain ⟨oa, ca, rfl, _, hca⟩ := ha
  obtain ⟨ob, cb, rfl, _, hcb⟩ := hb
  have Ha := Lib.hid hca
  have Hb := Lib.hid hcb
  have Hfit := Lib.hid hfit
  clear hca hcb hfit
  have hll : ((l.length : Int) != (l.length : Int)) = false := by simp
  go_enter Tryd.func16, Tryd.ntmps16
  go_wp2
  go_loopw [5] (fun i wr => ∃ k : Nat, k ≤ l.length ∧ i = .int .i64 k ∧ Below w.heap.size w wr) (fun i _ => l.length - (intOf i).toNat)
  case atStart => exact ⟨0, by omega, rfl, Below.refl _ _⟩
  case round =>
    obtain ⟨k, hk, rfl, hbel⟩ := hrel
    have Hbel := Lib.hid hbel
    by_cases hlt : k < l.length
    · obtain ⟨b, off, ve, rfl, hb, c1, c2, c3, c4, hxa⟩ := Ha.out k hlt
      obtain ⟨b', off', ve', rfl, hb', d1, d2, d3, d4, hxb⟩ := Hb.out k hlt
      have C4 := Lib.hid c4
      have D4 := Lib.hid d4
      have c1 := cell_below hbel hb c1
      have c2 := cell_below hbel hb c2
      have c3 := cell_below hbel hb c3
      have c4 := cell_below hbel hb c4
      have d1 := cell_below hbel hb' d1
      have d2 := cell_below hbel hb' d2
      have d3 := cell_below hbel hb' d3
      have d4 := cell_below hbel hb' d4
      have hf := Hfit.out l[k] (List.getElem_mem hlt)
      have hki : (k : Int) < (l.length : Int) := by omega
      obtain ⟨oe, ce, rfl, -⟩ := hxa.form
      obtain ⟨of, cf, rfl, -⟩ := hxb.form
      have Hxa := Lib.hid (exts_cells hxa)
      have Hxb := Lib.hid (exts_cells hxb)
      clear hxa hxb hbel
      generalize l[k] = f at *
      obtain ⟨nm, sh, sz, xs⟩ := f
      obtain ⟨f1, f2, f3, f4, -⟩ := hf
      simp only at c1 c2 c3 c4 d1 d2 d3 d4 f1 f2 f3 f4 Hxa Hxb
      have e1 : ((B nm).toList != (B nm).toList) = false := by simp
      have e2 : (sh != sh) = false := by simp
      have e3 : (sz != sz) = false := by simp
      have e4 : ((xs.length : Int) != (xs.length : Int)) = false := by simp
      go_wp2
      go_quiet (fail)
      have Hq := Lib.hid (below_drewN Hbel.out nq)
      go_wp2
      go_loopw [6] (fun i wi => ∃ j : Nat, j ≤ xs.length ∧ i = .int .i64 j ∧ Below w.heap.size w wi) (fun i _ => xs.length - (intOf i).toNat)
      case atStart => exact ⟨0, by omega, rfl, Hq.out⟩
      case round =>
        obtain ⟨j, hj, rfl, hbel⟩ := hrel
        have Hbel2 := Lib.hid hbel
        have c4 := cell_below hbel hb C4.out
        have d4 := cell_below hbel hb' D4.out
        by_cases hjl : j < xs.length
        · obtain ⟨eb, eo, rfl, heb, x1, x2⟩ := Hxa.out j hjl
          obtain ⟨fb, fo, rfl, hfb, y1, y2⟩ := Hxb.out j hjl
          have x1 := cell_below hbel heb x1
          have x2 := cell_below hbel heb x2
          have y1 := cell_below hbel hfb y1
          have y2 := cell_below hbel hfb y2
          have hji : (j : Int) < (xs.length : Int) := by omega
          clear hbel
          generalize xs[j] = x at *
          obtain ⟨p, q⟩ := x
          simp only at x1 x2 y1 y2
          go_wp2
          go_quiet (fail)
          go_wp2
          exact ⟨⟨j + 1, by omega, by go_num, below_drewN Hbel2.out _⟩, by simp [intOf]; omega⟩
        · obtain rfl : j = xs.length := by omega
          clear hbel
          go_wp2
          go_roundw
          case rel => exact ⟨k + 1, by omega, by go_num, Hbel2.out⟩
          case measure => simp [intOf]; omega
    · obtain rfl : k = l.length := by omega
      go_wp2
      go_ret
      exact ⟨rfl, Hbel.out⟩
end Go.Proofs.YteemloillnfaeaaDoor
