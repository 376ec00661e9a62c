/- The law InodeBounds returns true for every directory and two numbers. Conditions: what the files hold fits an int; so do the list's length and the numbers. -/
import Derived.Test.YteemloillnfaeaaDoorInoT
import Derived.Test.YteemloillnfaeaaDoorOpenFiles
namespace Go.Proofs.YteemloillnfaeaaDoor
open Go.RowKit Go.Wir Go.Ino
attribute [local go_sem] Oper.semAt_some

set_option maxRecDepth 100000 in
set_option maxHeartbeats 3200000 in
theorem walk_InodeBounds (v : Value) (l : List Fil) (first blocks : Int) (w : World) (hv : Files w v l) (hfit : ∀ f ∈ l, FitF f) (hn : l.length ≤ maxLen) (h1 : (Lit.int .i64 first).wf = true) (h2 : (Lit.int .i64 blocks).wf = true) :
    Calls Tryd.prog 6 #[v, .int .i64 first, .int .i64 blocks] w fun e w' => e = .returned (.bool true) ∧ Below w.heap.size w w' := by
  unfold maxLen at hn
  have h1 := wf_bounds h1
  have h2 := wf_bounds h2
  have Hfit := Lib.hid hfit
  have Hv := Lib.hid hv
  clear hfit hv
  obtain ⟨ab, hab⟩ : ∃ ab, asB l = ab := ⟨_, rfl⟩
  have Hab := Lib.hid hab
  clear hab
  go_enter Tryd.func6, Tryd.ntmps6
  go_wp2_with fail
  refine (law_shown w).mono ?_
  rintro e w1 ⟨rfl, b1⟩
  go_wp2_with fail
  refine (law_as v l (by omega) Hfit.out _ (Hv.out.below b1)).mono ?_
  rintro e w2 ⟨b2, v2, rfl, hy, hno⟩
  rw [Hab.out] at hy hno ⊢
  have B2 := Lib.hid (step_call b1 b2)
  clear b1 b2 hy hno
  cases ab
  · go_wp2
    go_ret
    exact ⟨rfl, B2.out⟩
  · have hl := (asB_few Hab.out).1
    rcases (show first < 0 ∨ (¬ first < 0 ∧ blocks > 4096) ∨ (¬ first < 0 ∧ ¬ blocks > 4096 ∧ first > 4096) ∨ (¬ first < 0 ∧ ¬ blocks > 4096 ∧ ¬ first > 4096 ∧ blocks < 0) ∨ (¬ first < 0 ∧ ¬ blocks > 4096 ∧ ¬ first > 4096 ∧ ¬ blocks < 0) by omega) with m1 | ⟨m1, m2⟩ | ⟨m1, m2, m3⟩ | ⟨m1, m2, m3, m4⟩ | ⟨m1, m2, m3, m4⟩
    rotate_right
    · have HR := Lib.hid (fun w0 (h : Below w2.heap.size w2 w0) (a b : Int) ha hb => inode_Right v l a b ha hb (by omega) Hfit.out w0 ((Hv.out.below B2.out).below h))
      obtain ⟨rt, hrt⟩ : ∃ rt, rightB l first blocks = rt := ⟨_, rfl⟩
      have Hrt := Lib.hid hrt
      clear hrt
      go_wp2_with fail
      refine (HR.out _ (Below.refl _ _) first blocks (by omega) (by omega)).mono ?_
      rintro e w3 ⟨rfl, hb3⟩
      rw [Hrt.out]
      have B3 := Lib.hid hb3
      clear hb3
      cases rt
      · go_wp2
        go_ret
        exact ⟨rfl, step_call B2.out B3.out⟩
      · have Hext := Lib.hid (fun (f : Fil) hf (x : Ext) hx => right_ext Hrt.out (f := f) hf (x := x) hx)
        have Hlo := Lib.hid (fun (f : Fil) hf (x : Ext) hx => right_lo Hrt.out (f := f) hf (x := x) hx blocks)
        have Hhi := Lib.hid (fun (f : Fil) hf (x : Ext) hx => right_hi Hrt.out (f := f) hf (x := x) hx first)
        have Hwide := right_wide Hrt.out
        go_wp2_with fail
        refine (HR.out _ B3.out 0 4096 (by omega) (by omega)).mono ?_
        rintro e w4 ⟨rfl, hb4⟩
        rw [Hwide]
        have B4 := Lib.hid (step_call B3.out hb4)
        clear hb4 Hwide
        have Hv2 := Lib.hid (Hv.out.below B2.out)
        obtain ⟨oa, c, rfl, _, hcell⟩ := Hv2.out
        have Hcell := Lib.hid hcell
        clear hcell Hv2
        go_wp2
        have Bw := Lib.hid (step_call B2.out B4.out)
        have HR5 := Lib.hid (fun w0 (h : Below w4.heap.size w4 w0) (a b : Int) ha hb => HR.out w0 (step_call B4.out h) a b ha hb)
        have hww2 : Below w.heap.size w w4 := Bw.out
        go_loopw [12] (fun i wr => ∃ k : Nat, k ≤ l.length ∧ i = .int .i64 k ∧ Below w4.heap.size w4 wr) (fun i _ => l.length - (intOf i).toNat)
        case atStart => exact ⟨0, by omega, rfl, Below.refl _ _⟩
        case round =>
          obtain ⟨k, hk, rfl, hbel⟩ := hrel
          have Hbel := Lib.hid hbel
          by_cases hlt : k < l.length
          · obtain ⟨b, off, ve, rfl, hb, -, -, -, c4, hxe⟩ := Hcell.out k hlt
            have hb2 : b < w4.heap.size := Nat.lt_of_lt_of_le hb B4.out.size
            have C4 := Lib.hid (cell_below B4.out hb c4)
            obtain ⟨ob, oc, rfl, -⟩ := hxe.form
            have Hxe := Lib.hid (exts_cells (hxe.below B4.out))
            have hki : (k : Int) < (l.length : Int) := by omega
            have Hmem := Lib.hid (List.getElem_mem hlt)
            have hfx := (Hfit.out _ Hmem.out).2.2.2.1
            clear hbel hxe c4
            generalize l[k] = f at *
            go_wp2
            go_loopw [13] (fun i wi => ∃ j : Nat, j ≤ f.ext.length ∧ i = .int .i64 j ∧ Below w4.heap.size w4 wi) (fun i _ => f.ext.length - (intOf i).toNat)
            case atStart => exact ⟨0, by omega, rfl, Hbel.out⟩
            case round =>
              obtain ⟨j, hj, rfl, hbel⟩ := hrel
              have Hbel2 := Lib.hid hbel
              have c4 := cell_below hbel hb2 C4.out
              by_cases hjl : j < f.ext.length
              · obtain ⟨eb, eo, rfl, heb, x1c, x2c⟩ := Hxe.out j hjl
                have x1c := cell_below hbel heb x1c
                have x2c := cell_below hbel heb x2c
                have hx := Hext.out f Hmem.out f.ext[j] (List.getElem_mem hjl)
                have hlo := Hlo.out f Hmem.out f.ext[j] (List.getElem_mem hjl)
                have hhi := Hhi.out f Hmem.out f.ext[j] (List.getElem_mem hjl)
                have hji : (j : Int) < (f.ext.length : Int) := by omega
                clear hbel
                generalize f.ext[j] = x at *
                obtain ⟨y1, y2⟩ := x
                simp only at hx x1c x2c hlo hhi
                obtain ⟨x1, x2, x3, x4⟩ := hx
                have n1 : ¬ y1 < first := by omega
                have n2 : ¬ y1 + y2 > blocks := by omega
                have n3 : ¬ y2 < 1 := by omega
                have n4 : 0 ≤ y1 ∧ y1 ≤ 4096 ∧ y2 ≤ 4096 := by omega
                obtain ⟨n4, n5, n6⟩ := n4
                have z1 : IntKind.i64.wrap (y1 + y2) = y1 + y2 := IntWalk.i64_in _ (by omega)
                have z2 : IntKind.i64.wrap (y1 + 1) = y1 + 1 := IntWalk.i64_in _ (by omega)
                have z3 : IntKind.i64.wrap (y1 + y2 - 1) = y1 + y2 - 1 := IntWalk.i64_in _ (by omega)
                have HL := Lib.hid (fun w0 (h : Below w4.heap.size w4 w0) => HR5.out w0 h (y1 + 1) blocks (by omega) (by omega))
                rw [hlo] at HL
                have HH := Lib.hid (fun w0 (h : Below w4.heap.size w4 w0) => HR5.out w0 h first (y1 + y2 - 1) (by omega) (by omega))
                rw [hhi] at HH
                have hX := heap_alloc_new wr (.cells #[.int .i64 y1, .int .i64 y2] 46)
                have HX := Lib.hid hX
                have Hb3 := Lib.hid (step_new Hbel2.out (.cells #[.int .i64 y1, .int .i64 y2] 46))
                clear hlo hhi x1 x2 x3 x4 hX
                have hxz : wr.heap.size < (wr.alloc (.cells #[.int .i64 y1, .int .i64 y2] 46)).heap.size := by simp
                have d0 : (wr.alloc (.cells #[.int .i64 y1, .int .i64 y2] 46)).cell? ⟨wr.heap.size, 0, none⟩ = some (.int .i64 y1) := by rw [Lib.cell_of_heap HX.out]; rfl
                have d1 : (wr.alloc (.cells #[.int .i64 y1, .int .i64 y2] 46)).cell? ⟨wr.heap.size, 1, none⟩ = some (.int .i64 y2) := by rw [Lib.cell_of_heap HX.out]; rfl
                go_wp2_with (first
                  | (go_at_call 18; with_reducible refine (HL.out _ (by first | exact Hb3.out | exact step_call Hb3.out (below_drew _))).mono ?_; rintro e w5 ⟨rfl, hb5⟩; have e0 := cell_call hb5 d0; have e1 := cell_call hb5 d1)
                  | (go_at_call 18; with_reducible refine (HH.out _ (step_call Hb3.out hb5)).mono ?_; rintro e w6 ⟨rfl, hb6⟩)
                  | fail)
                exact ⟨⟨j + 1, by omega, by go_num, step_call (step_call Hb3.out hb5) hb6⟩, by simp [intOf]; omega⟩
              · obtain rfl : j = f.ext.length := by omega
                clear hbel
                go_wp2
                go_roundw
                case rel => exact ⟨k + 1, by omega, by go_num, Hbel2.out⟩
                case measure => simp [intOf]; omega
          · obtain rfl : k = l.length := by omega
            go_wp2
            go_ret
            exact ⟨rfl, step_call Bw.out Hbel.out⟩
    all_goals
      go_wp2
      go_ret
      exact ⟨rfl, B2.out⟩
end Go.Proofs.YteemloillnfaeaaDoor
