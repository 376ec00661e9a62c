/- Chapter 17: query.lists, node, Size. Conditions: as the calls'. Chapter 17: query.deep, Size. Conditions: as the calls'. Chapter 17: codexref17's kids. Conditions: as the calls'. Chapter 17: codexref17's count, deep, Size. Conditions: as the calls'. -/
import Derived.Test.YtlfhgmclnapmjaaGreatDoorQryMem
import Derived.Test.YtlfhgmclnapmjaaGreatDoorHeld
import Derived.Test.YtlfhgmclnapmjaaGreatDoorStepAny
import Derived.Deep.RegionHeld3
namespace Go.Proofs.YtlfhgmclnapmjaaGreatDoor
open Go.RowKit Go.Utf Go.Qry
attribute [local go_sem] Oper.semAt_some

theorem boxedQ (w : World) (q : Qy) (vm vs vn : Value) (ty : TypeId) : (w.alloc (.cells #[.int .i64 q.kind, .string (B q.text), vm, vs, vn] ty)).cell? ⟨w.heap.size, 0, none⟩ = some (.int .i64 q.kind) ∧ (w.alloc (.cells #[.int .i64 q.kind, .string (B q.text), vm, vs, vn] ty)).cell? ⟨w.heap.size, 1, none⟩ = some (.string (B q.text)) ∧
    (w.alloc (.cells #[.int .i64 q.kind, .string (B q.text), vm, vs, vn] ty)).cell? ⟨w.heap.size, 2, none⟩ = some vm ∧ (w.alloc (.cells #[.int .i64 q.kind, .string (B q.text), vm, vs, vn] ty)).cell? ⟨w.heap.size, 3, none⟩ = some vs ∧ (w.alloc (.cells #[.int .i64 q.kind, .string (B q.text), vm, vs, vn] ty)).cell? ⟨w.heap.size, 4, none⟩ = some vn := by
  have hh := heap_alloc_new w (.cells #[.int .i64 q.kind, .string (B q.text), vm, vs, vn] ty)
  refine ⟨?_, ?_, ?_, ?_, ?_⟩ <;> (rw [Lib.cell_of_heap hh]; rfl)
theorem idx3 (om os on : Option Addr) (nm ns nn cm cs cn : Nat) : (∀ w : World, (Instr.index 45 (.agg #[.slice om nm cm, .slice os ns cs, .slice on nn cn]) (.int .i64 0)).run Tryz.prog w = .ok (.slice om nm cm) w) ∧ (∀ w : World, (Instr.index 45 (.agg #[.slice om nm cm, .slice os ns cs, .slice on nn cn]) (.int .i64 1)).run Tryz.prog w = .ok (.slice os ns cs) w) ∧ (∀ w : World, (Instr.index 45 (.agg #[.slice om nm cm, .slice os ns cs, .slice on nn cn]) (.int .i64 2)).run Tryz.prog w = .ok (.slice on nn cn) w) :=
  ⟨fun _ => by kernel_rfl, fun _ => by kernel_rfl, fun _ => by kernel_rfl⟩
theorem query_lists (q : Qy) (om os on : Option Addr) (nm ns nn cm cs cn : Nat) (w : World) : Calls Tryz.prog 26 #[qV q (.slice om nm cm) (.slice os ns cs) (.slice on nn cn)] w fun e w' => e = .returned (.agg #[.slice om nm cm, .slice os ns cs, .slice on nn cn]) ∧ Below w.heap.size w w' := by
  unfold qV
  obtain ⟨a0, a1, a2, a3, a4⟩ := boxedQ w q (.slice om nm cm) (.slice os ns cs) (.slice on nn cn) 24
  have HB := Lib.hid (step_new (Below.refl w.heap.size w) (.cells #[.int .i64 q.kind, .string (B q.text), .slice om nm cm, .slice os ns cs, .slice on nn cn] 24))
  go_enter Tryz.func26, Tryz.ntmps26
  have hg := heap_alloc_new (w.alloc (.cells #[.int .i64 q.kind, .string (B q.text), .slice om nm cm, .slice os ns cs, .slice on nn cn] 24)) (.cells #[.slice om nm cm, .slice os ns cs, .slice on nn cn] 45)
  rw [World.size_alloc] at hg
  have Hg := Lib.hid hg
  clear hg
  go_wp2
  refine bodyPost_ret_by (results_cell_row rfl _ _ (w.heap.size + 1) _ _ _ _ (by rfl) Hg.out Tryz.underlying45 rfl (by kernel_rfl)) rfl ⟨rfl, ?_⟩
  exact step_new HB.out _
set_option maxRecDepth 100000 in
set_option maxHeartbeats 1600000 in
theorem query_many (n : Nat) : ∀ (most : Nat) (q : Qy) (vm vs vn : Value) (w : World), QVal w n q vm vs vn → most ≤ 100000 → Calls Tryz.prog 19 #[qV q vm vs vn, .int .i64 (most : Nat)] w fun e w' => e = .returned (.int .i64 (manyN q most : Nat)) ∧ Below w.heap.size w w' := by
  induction n using Nat.strongRecOn with
  | _ n ih =>
    intro most q vm vs vn w h hm
    obtain ⟨om, cm, rfl, lm, hm1⟩ := h.must.form
    obtain ⟨os, cs, rfl, ls, hs1⟩ := h.should.form
    obtain ⟨on, cn, rfl, ln, hn1⟩ := h.nots.form
    have Hm1 := Lib.hid hm1
    have Hs1 := Lib.hid hs1
    have Hn1 := Lib.hid hn1
    have IH := Lib.hid ih
    have HL := Lib.hid (fun w => query_lists q om os on q.must.length q.should.length q.nots.length cm cs cn w)
    obtain ⟨x0, x1, x2⟩ := idx3 om os on q.must.length q.should.length q.nots.length cm cs cn
    clear ih hm1 hs1 hn1
    have Hs0 := Lib.hid (manyAt_start q most)
    have Hse := Lib.hid (manyAt_end q most)
    have Hb0 : Hid (Below w.heap.size w (w.alloc (.cells #[.int .i64 q.kind, .string (B q.text), .slice om q.must.length cm, .slice os q.should.length cs, .slice on q.nots.length cn] 24))) := Lib.hid (step_new (Below.refl _ _) _)
    unfold qV at HL
    show Calls Tryz.prog 19 #[.agg #[.int .i64 q.kind, .string (B q.text), .slice om q.must.length cm, .slice os q.should.length cs, .slice on q.nots.length cn], .int .i64 (most : Nat)] w _
    go_enter Tryz.func19, Tryz.ntmps19
    go_wp2_with fail
    refine (HL.out _).mono ?_
    rintro e w1 ⟨rfl, hb1⟩
    have HB1 := Lib.hid (step_call Hb0.out hb1)
    clear hb1
    go_wp2
    go_loopw [12, 5] (fun x12 x5 wr => ∃ (a : Nat) (z : Int), a ≤ 3 ∧ z = (a : Int) ∧ x12 = .int .i64 z ∧ x5 = .int .i64 (manyAt q most a 0 : Nat) ∧ Below w.heap.size w wr) (fun x12 _ _ => 3 - (intOf x12).toNat)
    case atStart => exact ⟨0, 0, by omega, rfl, rfl, by rw [Hs0.out]; rfl, HB1.out⟩
    case round =>
      obtain ⟨a, z, ha, hz, rfl, rfl, hbel⟩ := hrel
      obtain ⟨wo, rfl⟩ : ∃ wo : World, wo = wr := ⟨_, rfl⟩
      have Hbel := Lib.hid hbel
      clear hbel
      rcases (show a = 0 ∨ a = 1 ∨ a = 2 ∨ a = 3 by omega) with rfl | rfl | rfl | rfl
      · obtain rfl : z = 0 := by omega
        clear hz
        have Hnx := Lib.hid (manyAt_next q most 0 (by omega))
        have Hst := Lib.hid (fun b => manyAt_step q most 0 b)
        have Hfl := Lib.hid (fun b => manyAt_full q most 0 b (by omega))
        have Hle : Hid (∀ b, manyAt q most 0 b ≤ most + 1) := Lib.hid (fun b => Nat.min_le_right _ _)
        have hcur : curK q 0 = q.must := rfl
        rw [hcur] at Hnx Hst
        go_wp2
        go_loopw [17, 5] (fun x17 x5 wr => ∃ b : Nat, b ≤ q.must.length ∧ x17 = .int .i64 b ∧ x5 = .int .i64 (manyAt q most 0 b : Nat) ∧ Below w.heap.size w wr) (fun x17 _ _ => q.must.length - (intOf x17).toNat)
        case atStart => exact ⟨0, by omega, rfl, rfl, Hbel.out⟩
        case round =>
          obtain ⟨b, hb, rfl, rfl, hbel⟩ := hrel
          have Hbel := Lib.hid hbel
          have hle := Hle.out b
          by_cases hlt : b < q.must.length
          · obtain ⟨bb, off, k, um, us, un, hnk, rfl, hbb, hcc, c0, c1, c2, c3, c4, hv⟩ := Hm1.out b hlt
            have c0 := cell_below hbel hbb c0
            have c1 := cell_below hbel hbb c1
            have c2 := cell_below hbel hbb c2
            have c3 := cell_below hbel hbb c3
            have c4 := cell_below hbel hbb c4
            have hst := Hst.out b hlt
            have hfl := Hfl.out b
            have hki : (b : Int) < (q.must.length : Int) := by omega
            have hlr := (hv.below (hbel.mono (Nat.le_refl _)))
            obtain ⟨pm, dm, rfl, _, _⟩ := hv.must.form
            obtain ⟨ps, ds, rfl, _, _⟩ := hv.should.form
            obtain ⟨pn, dn, rfl, _, _⟩ := hv.nots.form
            have Hv := Lib.hid hlr
            clear hbel hv hlr
            generalize q.must[b] = u at *
            generalize hcb : manyAt q most 0 (b + 1) = cb1 at *
            have Hcb := Lib.hid hcb
            clear hcb
            generalize manyAt q most 0 b = cb at *
            by_cases hfull : most < cb
            · have hfi : (most : Int) < (cb : Int) := by omega
              have hf := hfl hfull
              rw [hf]
              have hfi2 : (most : Int) < ((manyN q most : Nat) : Int) := by rw [← hf]; exact hfi
              clear hf hfl hfi hst
              go_wp2
              go_ret
              exact ⟨rfl, step_new Hbel.out _⟩
            · have hst := hst (by omega)
              have hfi : ¬ (most : Int) < (cb : Int) := by omega
              have HC := Lib.hid (fun (w' : World) (hb : Below wr.heap.size wr w') => IH.out k (by omega) (most - cb) u _ _ _ w' (Hv.out.below hb) (by omega))
              have hw1 : IntKind.i64.wrap ((most : Int) - (cb : Int)) = ((most - cb : Nat) : Int) := by rw [IntWalk.i64_in _ (by omega)]; omega
              have hmn : manyN u (most - cb) ≤ most - cb + 1 := Nat.min_le_right _ _
              unfold qV at HC
              clear hfl hfull
              generalize hdd : most - cb = dd at *
              generalize manyN u dd = mu at *
              go_wp2_with (go_at_call 19; refine (HC.out _ (step_new (Below.refl _ _) _)).mono ?_; rintro e w2 ⟨rfl, hb2⟩)
              go_roundw
              case rel => exact ⟨b + 1, by omega, by go_num, by rw [Hcb.out, hst]; go_num, step_call (step_new Hbel.out _) hb2⟩
              case measure => simp [intOf]; omega
          · obtain rfl : b = q.must.length := by omega
            rw [← Hnx.out]
            go_wp2
            go_roundw
            case rel => exact ⟨0 + 1, _, by omega, rfl, by go_num, rfl, Hbel.out⟩
            case measure => simp [intOf]
      · obtain rfl : z = 1 := by omega
        clear hz
        have Hnx := Lib.hid (manyAt_next q most 1 (by omega))
        have Hst := Lib.hid (fun b => manyAt_step q most 1 b)
        have Hfl := Lib.hid (fun b => manyAt_full q most 1 b (by omega))
        have Hle : Hid (∀ b, manyAt q most 1 b ≤ most + 1) := Lib.hid (fun b => Nat.min_le_right _ _)
        have hcur : curK q 1 = q.should := rfl
        rw [hcur] at Hnx Hst
        go_wp2
        go_loopw [17, 5] (fun x17 x5 wr => ∃ b : Nat, b ≤ q.should.length ∧ x17 = .int .i64 b ∧ x5 = .int .i64 (manyAt q most 1 b : Nat) ∧ Below w.heap.size w wr) (fun x17 _ _ => q.should.length - (intOf x17).toNat)
        case atStart => exact ⟨0, by omega, rfl, rfl, Hbel.out⟩
        case round =>
          obtain ⟨b, hb, rfl, rfl, hbel⟩ := hrel
          have Hbel := Lib.hid hbel
          have hle := Hle.out b
          by_cases hlt : b < q.should.length
          · obtain ⟨bb, off, k, um, us, un, hnk, rfl, hbb, hcc, c0, c1, c2, c3, c4, hv⟩ := Hs1.out b hlt
            have c0 := cell_below hbel hbb c0
            have c1 := cell_below hbel hbb c1
            have c2 := cell_below hbel hbb c2
            have c3 := cell_below hbel hbb c3
            have c4 := cell_below hbel hbb c4
            have hst := Hst.out b hlt
            have hfl := Hfl.out b
            have hki : (b : Int) < (q.should.length : Int) := by omega
            have hlr := (hv.below (hbel.mono (Nat.le_refl _)))
            obtain ⟨pm, dm, rfl, _, _⟩ := hv.must.form
            obtain ⟨ps, ds, rfl, _, _⟩ := hv.should.form
            obtain ⟨pn, dn, rfl, _, _⟩ := hv.nots.form
            have Hv := Lib.hid hlr
            clear hbel hv hlr
            generalize q.should[b] = u at *
            generalize hcb : manyAt q most 1 (b + 1) = cb1 at *
            have Hcb := Lib.hid hcb
            clear hcb
            generalize manyAt q most 1 b = cb at *
            by_cases hfull : most < cb
            · have hfi : (most : Int) < (cb : Int) := by omega
              have hf := hfl hfull
              rw [hf]
              have hfi2 : (most : Int) < ((manyN q most : Nat) : Int) := by rw [← hf]; exact hfi
              clear hf hfl hfi hst
              go_wp2
              go_ret
              exact ⟨rfl, step_new Hbel.out _⟩
            · have hst := hst (by omega)
              have hfi : ¬ (most : Int) < (cb : Int) := by omega
              have HC := Lib.hid (fun (w' : World) (hb : Below wr.heap.size wr w') => IH.out k (by omega) (most - cb) u _ _ _ w' (Hv.out.below hb) (by omega))
              have hw1 : IntKind.i64.wrap ((most : Int) - (cb : Int)) = ((most - cb : Nat) : Int) := by rw [IntWalk.i64_in _ (by omega)]; omega
              have hmn : manyN u (most - cb) ≤ most - cb + 1 := Nat.min_le_right _ _
              unfold qV at HC
              clear hfl hfull
              generalize hdd : most - cb = dd at *
              generalize manyN u dd = mu at *
              go_wp2_with (go_at_call 19; refine (HC.out _ (step_new (Below.refl _ _) _)).mono ?_; rintro e w2 ⟨rfl, hb2⟩)
              go_roundw
              case rel => exact ⟨b + 1, by omega, by go_num, by rw [Hcb.out, hst]; go_num, step_call (step_new Hbel.out _) hb2⟩
              case measure => simp [intOf]; omega
          · obtain rfl : b = q.should.length := by omega
            rw [← Hnx.out]
            go_wp2
            go_roundw
            case rel => exact ⟨1 + 1, _, by omega, rfl, by go_num, rfl, Hbel.out⟩
            case measure => simp [intOf]
      · obtain rfl : z = 2 := by omega
        clear hz
        have Hnx := Lib.hid (manyAt_next q most 2 (by omega))
        have Hst := Lib.hid (fun b => manyAt_step q most 2 b)
        have Hfl := Lib.hid (fun b => manyAt_full q most 2 b (by omega))
        have Hle : Hid (∀ b, manyAt q most 2 b ≤ most + 1) := Lib.hid (fun b => Nat.min_le_right _ _)
        have hcur : curK q 2 = q.nots := rfl
        rw [hcur] at Hnx Hst
        go_wp2
        go_loopw [17, 5] (fun x17 x5 wr => ∃ b : Nat, b ≤ q.nots.length ∧ x17 = .int .i64 b ∧ x5 = .int .i64 (manyAt q most 2 b : Nat) ∧ Below w.heap.size w wr) (fun x17 _ _ => q.nots.length - (intOf x17).toNat)
        case atStart => exact ⟨0, by omega, rfl, rfl, Hbel.out⟩
        case round =>
          obtain ⟨b, hb, rfl, rfl, hbel⟩ := hrel
          have Hbel := Lib.hid hbel
          have hle := Hle.out b
          by_cases hlt : b < q.nots.length
          · obtain ⟨bb, off, k, um, us, un, hnk, rfl, hbb, hcc, c0, c1, c2, c3, c4, hv⟩ := Hn1.out b hlt
            have c0 := cell_below hbel hbb c0
            have c1 := cell_below hbel hbb c1
            have c2 := cell_below hbel hbb c2
            have c3 := cell_below hbel hbb c3
            have c4 := cell_below hbel hbb c4
            have hst := Hst.out b hlt
            have hfl := Hfl.out b
            have hki : (b : Int) < (q.nots.length : Int) := by omega
            have hlr := (hv.below (hbel.mono (Nat.le_refl _)))
            obtain ⟨pm, dm, rfl, _, _⟩ := hv.must.form
            obtain ⟨ps, ds, rfl, _, _⟩ := hv.should.form
            obtain ⟨pn, dn, rfl, _, _⟩ := hv.nots.form
            have Hv := Lib.hid hlr
            clear hbel hv hlr
            generalize q.nots[b] = u at *
            generalize hcb : manyAt q most 2 (b + 1) = cb1 at *
            have Hcb := Lib.hid hcb
            clear hcb
            generalize manyAt q most 2 b = cb at *
            by_cases hfull : most < cb
            · have hfi : (most : Int) < (cb : Int) := by omega
              have hf := hfl hfull
              rw [hf]
              have hfi2 : (most : Int) < ((manyN q most : Nat) : Int) := by rw [← hf]; exact hfi
              clear hf hfl hfi hst
              go_wp2
              go_ret
              exact ⟨rfl, step_new Hbel.out _⟩
            · have hst := hst (by omega)
              have hfi : ¬ (most : Int) < (cb : Int) := by omega
              have HC := Lib.hid (fun (w' : World) (hb : Below wr.heap.size wr w') => IH.out k (by omega) (most - cb) u _ _ _ w' (Hv.out.below hb) (by omega))
              have hw1 : IntKind.i64.wrap ((most : Int) - (cb : Int)) = ((most - cb : Nat) : Int) := by rw [IntWalk.i64_in _ (by omega)]; omega
              have hmn : manyN u (most - cb) ≤ most - cb + 1 := Nat.min_le_right _ _
              unfold qV at HC
              clear hfl hfull
              generalize hdd : most - cb = dd at *
              generalize manyN u dd = mu at *
              go_wp2_with (go_at_call 19; refine (HC.out _ (step_new (Below.refl _ _) _)).mono ?_; rintro e w2 ⟨rfl, hb2⟩)
              go_roundw
              case rel => exact ⟨b + 1, by omega, by go_num, by rw [Hcb.out, hst]; go_num, step_call (step_new Hbel.out _) hb2⟩
              case measure => simp [intOf]; omega
          · obtain rfl : b = q.nots.length := by omega
            rw [← Hnx.out]
            go_wp2
            go_roundw
            case rel => exact ⟨2 + 1, _, by omega, rfl, by go_num, rfl, Hbel.out⟩
            case measure => simp [intOf]
      · obtain rfl : z = 3 := by omega
        clear hz
        rw [Hse.out]
        go_wp2
        go_ret
        exact ⟨rfl, Hbel.out⟩
end Go.Proofs.YtlfhgmclnapmjaaGreatDoor
namespace Go.Proofs.YtlfhgmclnapmjaaGreatDoor
open Go.RowKit Go.Utf Go.Qry
attribute [local go_sem] Oper.semAt_some

/-- How deep the lists are, so far. -/
def deepAt (q : Qy) (a b : Nat) : Nat := depL (preK q a ++ (curK q a).take b)
theorem deepAt_start (q : Qy) : deepAt q 0 0 = 0 := by simp [deepAt, preK, depL]
theorem deepAt_next (q : Qy) (a : Nat) (h : a < 3) : deepAt q (a + 1) 0 = deepAt q a (curK q a).length := by
  unfold deepAt
  rw [List.take_zero, List.append_nil, preK_succ q a h, List.take_of_length_le (Nat.le_refl _)]
theorem deepAt_step (q : Qy) (a b : Nat) (h : b < (curK q a).length) : deepAt q a (b + 1) = max (deepAt q a b) (dep (curK q a)[b]) := by
  unfold deepAt
  rw [depL_append, depL_append, depL_snoc _ b h]; omega
theorem deepAt_end (q : Qy) : deepAt q 3 0 + 1 = dep q := by
  unfold deepAt
  rw [List.take_zero, List.append_nil, preK_three, dep_kids]
/-- A query that is not deeper than it is large. -/
theorem dep_le_cnt_aux : ∀ (n : Nat) (q : Qy), cnt q ≤ n → dep q ≤ cnt q
  | 0, q, h => by have := cnt_pos q; omega
  | n + 1, q, h => by
    rw [dep_kids, cnt_kids]
    rw [cnt_kids] at h
    have key : ∀ l : List Qy, cntL l ≤ n → depL l ≤ cntL l := by
      intro l
      induction l with
      | nil => intro _; exact Nat.le_refl _
      | cons p l ih =>
        intro hl
        rw [cntL] at hl
        rw [depL, cntL]
        have h1 := dep_le_cnt_aux n p (by omega)
        have h2 := ih (by omega)
        omega
    have := key q.kids (by omega)
    omega
theorem dep_le_cnt (q : Qy) : dep q ≤ cnt q := dep_le_cnt_aux _ q (Nat.le_refl _)
set_option maxRecDepth 100000 in
set_option maxHeartbeats 1600000 in
theorem query_deep (n : Nat) : ∀ (q : Qy) (vm vs vn : Value) (w : World), QVal w n q vm vs vn → cnt q ≤ 100000 → Calls Tryz.prog 20 #[qV q vm vs vn] w fun e w' => e = .returned (.int .i64 (dep q : Nat)) ∧ Below w.heap.size w w' := by
  induction n using Nat.strongRecOn with
  | _ n ih =>
    intro q vm vs vn w h hm
    obtain ⟨om, cm, rfl, lm, hm1⟩ := h.must.form
    obtain ⟨os, cs, rfl, ls, hs1⟩ := h.should.form
    obtain ⟨on, cn, rfl, ln, hn1⟩ := h.nots.form
    have Hm1 := Lib.hid hm1
    have Hs1 := Lib.hid hs1
    have Hn1 := Lib.hid hn1
    have IH := Lib.hid ih
    have HL := Lib.hid (fun w => query_lists q om os on q.must.length q.should.length q.nots.length cm cs cn w)
    obtain ⟨x0, x1, x2⟩ := idx3 om os on q.must.length q.should.length q.nots.length cm cs cn
    have Hs0 := Lib.hid (deepAt_start q)
    have Hse := Lib.hid (deepAt_end q)
    have Hkd := Lib.hid (show ∀ k ∈ q.kids, dep k ≤ 100000 ∧ cnt k ≤ 100000 from fun k hk => by
      have h1 := cnt_mem hk
      have h2 := dep_le_cnt k
      have h3 := cnt_kids q
      omega)
    have hdq : dep q ≤ 100000 := Nat.le_trans (dep_le_cnt q) hm
    have Hb0 : Hid (Below w.heap.size w (w.alloc (.cells #[.int .i64 q.kind, .string (B q.text), .slice om q.must.length cm, .slice os q.should.length cs, .slice on q.nots.length cn] 24))) := Lib.hid (step_new (Below.refl _ _) _)
    clear ih hm1 hs1 hn1
    unfold qV at HL
    show Calls Tryz.prog 20 #[.agg #[.int .i64 q.kind, .string (B q.text), .slice om q.must.length cm, .slice os q.should.length cs, .slice on q.nots.length cn]] w _
    go_enter Tryz.func20, Tryz.ntmps20
    go_wp2_with fail
    refine (HL.out _).mono ?_
    rintro e w1 ⟨rfl, hb1⟩
    have HB1 := Lib.hid (step_call Hb0.out hb1)
    clear hb1
    go_wp2
    go_loopw [10, 3] (fun x10 x3 wr => ∃ (a : Nat) (z : Int), a ≤ 3 ∧ z = (a : Int) ∧ x10 = .int .i64 z ∧ x3 = .int .i64 (deepAt q a 0 : Nat) ∧ Below w.heap.size w wr) (fun x10 _ _ => 3 - (intOf x10).toNat)
    case atStart => exact ⟨0, 0, by omega, rfl, rfl, by rw [Hs0.out]; rfl, HB1.out⟩
    case round =>
      obtain ⟨a, z, ha, hz, rfl, rfl, hbel⟩ := hrel
      obtain ⟨wo, rfl⟩ : ∃ wo : World, wo = wr := ⟨_, rfl⟩
      have Hbel := Lib.hid hbel
      clear hbel
      rcases (show a = 0 ∨ a = 1 ∨ a = 2 ∨ a = 3 by omega) with rfl | rfl | rfl | rfl
      · obtain rfl : z = 0 := by omega
        clear hz
        have Hnx := Lib.hid (deepAt_next q 0 (by omega))
        have Hst := Lib.hid (fun b => deepAt_step q 0 b)
        have hcur : curK q 0 = q.must := rfl
        rw [hcur] at Hnx Hst
        have Hle : Hid (∀ b, deepAt q 0 b ≤ 100000) := Lib.hid (fun b => by
          have h1 : deepAt q 0 b ≤ depL q.kids := by
            unfold deepAt
            rw [depL_append]
            have h2 := depL_append (q.must.take b) (q.must.drop b)
            rw [List.take_append_drop] at h2
            rw [hcur]
            simp only [preK, Qy.kids, depL_append, depL]
            omega
          have h2 := dep_kids q
          omega)
        go_wp2
        go_loopw [15, 3] (fun x15 x3 wr => ∃ b : Nat, b ≤ q.must.length ∧ x15 = .int .i64 b ∧ x3 = .int .i64 (deepAt q 0 b : Nat) ∧ Below w.heap.size w wr) (fun x15 _ _ => q.must.length - (intOf x15).toNat)
        case atStart => exact ⟨0, by omega, rfl, rfl, Hbel.out⟩
        case round =>
          obtain ⟨b, hb, rfl, rfl, hbel⟩ := hrel
          have Hbel := Lib.hid hbel
          have hle := Hle.out b
          by_cases hlt : b < q.must.length
          · obtain ⟨bb, off, k, um, us, un, hnk, rfl, hbb, hcc, c0, c1, c2, c3, c4, hv⟩ := Hm1.out b hlt
            have c0 := cell_below hbel hbb c0
            have c1 := cell_below hbel hbb c1
            have c2 := cell_below hbel hbb c2
            have c3 := cell_below hbel hbb c3
            have c4 := cell_below hbel hbb c4
            have hst := Hst.out b hlt
            have hki : (b : Int) < (q.must.length : Int) := by omega
            have hkd := Hkd.out q.must[b] (by simp [Qy.kids])
            have hlr := (hv.below (hbel.mono (Nat.le_refl _)))
            obtain ⟨pm, dm, rfl, _, _⟩ := hv.must.form
            obtain ⟨ps, ds, rfl, _, _⟩ := hv.should.form
            obtain ⟨pn, dn, rfl, _, _⟩ := hv.nots.form
            have Hv := Lib.hid hlr
            clear hbel hv hlr
            generalize q.must[b] = u at *
            generalize hcb : deepAt q 0 (b + 1) = cb1 at *
            have Hcb := Lib.hid hcb
            clear hcb
            generalize deepAt q 0 b = cb at *
            obtain ⟨hk1, hk2⟩ := hkd
            have HC := Lib.hid (fun (w' : World) (hb : Below wr.heap.size wr w') => IH.out k (by omega) u _ _ _ w' (Hv.out.below hb) hk2)
            unfold qV at HC
            generalize dep u = mu at *
            go_wp2_with (go_at_call 20; refine (HC.out _ (step_new (Below.refl _ _) _)).mono ?_; rintro e w2 ⟨rfl, hb2⟩)
            all_goals
              go_roundw
              case rel => exact ⟨b + 1, by omega, by go_num, by rw [Hcb.out, hst]; first | go_num | (simp only [Value.int.injEq, true_and]; omega), step_call (step_new Hbel.out _) hb2⟩
              case measure => simp [intOf]; omega
          · obtain rfl : b = q.must.length := by omega
            rw [← Hnx.out]
            go_wp2
            go_roundw
            case rel => exact ⟨0 + 1, _, by omega, rfl, by go_num, rfl, Hbel.out⟩
            case measure => simp [intOf]
      · obtain rfl : z = 1 := by omega
        clear hz
        have Hnx := Lib.hid (deepAt_next q 1 (by omega))
        have Hst := Lib.hid (fun b => deepAt_step q 1 b)
        have hcur : curK q 1 = q.should := rfl
        rw [hcur] at Hnx Hst
        have Hle : Hid (∀ b, deepAt q 1 b ≤ 100000) := Lib.hid (fun b => by
          have h1 : deepAt q 1 b ≤ depL q.kids := by
            unfold deepAt
            rw [depL_append]
            have h2 := depL_append (q.should.take b) (q.should.drop b)
            rw [List.take_append_drop] at h2
            rw [hcur]
            simp only [preK, Qy.kids, depL_append]
            omega
          have h2 := dep_kids q
          omega)
        go_wp2
        go_loopw [15, 3] (fun x15 x3 wr => ∃ b : Nat, b ≤ q.should.length ∧ x15 = .int .i64 b ∧ x3 = .int .i64 (deepAt q 1 b : Nat) ∧ Below w.heap.size w wr) (fun x15 _ _ => q.should.length - (intOf x15).toNat)
        case atStart => exact ⟨0, by omega, rfl, rfl, Hbel.out⟩
        case round =>
          obtain ⟨b, hb, rfl, rfl, hbel⟩ := hrel
          have Hbel := Lib.hid hbel
          have hle := Hle.out b
          by_cases hlt : b < q.should.length
          · obtain ⟨bb, off, k, um, us, un, hnk, rfl, hbb, hcc, c0, c1, c2, c3, c4, hv⟩ := Hs1.out b hlt
            have c0 := cell_below hbel hbb c0
            have c1 := cell_below hbel hbb c1
            have c2 := cell_below hbel hbb c2
            have c3 := cell_below hbel hbb c3
            have c4 := cell_below hbel hbb c4
            have hst := Hst.out b hlt
            have hki : (b : Int) < (q.should.length : Int) := by omega
            have hkd := Hkd.out q.should[b] (by simp [Qy.kids])
            have hlr := (hv.below (hbel.mono (Nat.le_refl _)))
            obtain ⟨pm, dm, rfl, _, _⟩ := hv.must.form
            obtain ⟨ps, ds, rfl, _, _⟩ := hv.should.form
            obtain ⟨pn, dn, rfl, _, _⟩ := hv.nots.form
            have Hv := Lib.hid hlr
            clear hbel hv hlr
            generalize q.should[b] = u at *
            generalize hcb : deepAt q 1 (b + 1) = cb1 at *
            have Hcb := Lib.hid hcb
            clear hcb
            generalize deepAt q 1 b = cb at *
            obtain ⟨hk1, hk2⟩ := hkd
            have HC := Lib.hid (fun (w' : World) (hb : Below wr.heap.size wr w') => IH.out k (by omega) u _ _ _ w' (Hv.out.below hb) hk2)
            unfold qV at HC
            generalize dep u = mu at *
            go_wp2_with (go_at_call 20; refine (HC.out _ (step_new (Below.refl _ _) _)).mono ?_; rintro e w2 ⟨rfl, hb2⟩)
            all_goals
              go_roundw
              case rel => exact ⟨b + 1, by omega, by go_num, by rw [Hcb.out, hst]; first | go_num | (simp only [Value.int.injEq, true_and]; omega), step_call (step_new Hbel.out _) hb2⟩
              case measure => simp [intOf]; omega
          · obtain rfl : b = q.should.length := by omega
            rw [← Hnx.out]
            go_wp2
            go_roundw
            case rel => exact ⟨1 + 1, _, by omega, rfl, by go_num, rfl, Hbel.out⟩
            case measure => simp [intOf]
      · obtain rfl : z = 2 := by omega
        clear hz
        have Hnx := Lib.hid (deepAt_next q 2 (by omega))
        have Hst := Lib.hid (fun b => deepAt_step q 2 b)
        have hcur : curK q 2 = q.nots := rfl
        rw [hcur] at Hnx Hst
        have Hle : Hid (∀ b, deepAt q 2 b ≤ 100000) := Lib.hid (fun b => by
          have h1 : deepAt q 2 b ≤ depL q.kids := by
            unfold deepAt
            rw [depL_append]
            have h2 := depL_append (q.nots.take b) (q.nots.drop b)
            rw [List.take_append_drop] at h2
            rw [hcur]
            simp only [preK, Qy.kids, depL_append]
            omega
          have h2 := dep_kids q
          omega)
        go_wp2
        go_loopw [15, 3] (fun x15 x3 wr => ∃ b : Nat, b ≤ q.nots.length ∧ x15 = .int .i64 b ∧ x3 = .int .i64 (deepAt q 2 b : Nat) ∧ Below w.heap.size w wr) (fun x15 _ _ => q.nots.length - (intOf x15).toNat)
        case atStart => exact ⟨0, by omega, rfl, rfl, Hbel.out⟩
        case round =>
          obtain ⟨b, hb, rfl, rfl, hbel⟩ := hrel
          have Hbel := Lib.hid hbel
          have hle := Hle.out b
          by_cases hlt : b < q.nots.length
          · obtain ⟨bb, off, k, um, us, un, hnk, rfl, hbb, hcc, c0, c1, c2, c3, c4, hv⟩ := Hn1.out b hlt
            have c0 := cell_below hbel hbb c0
            have c1 := cell_below hbel hbb c1
            have c2 := cell_below hbel hbb c2
            have c3 := cell_below hbel hbb c3
            have c4 := cell_below hbel hbb c4
            have hst := Hst.out b hlt
            have hki : (b : Int) < (q.nots.length : Int) := by omega
            have hkd := Hkd.out q.nots[b] (by simp [Qy.kids])
            have hlr := (hv.below (hbel.mono (Nat.le_refl _)))
            obtain ⟨pm, dm, rfl, _, _⟩ := hv.must.form
            obtain ⟨ps, ds, rfl, _, _⟩ := hv.should.form
            obtain ⟨pn, dn, rfl, _, _⟩ := hv.nots.form
            have Hv := Lib.hid hlr
            clear hbel hv hlr
            generalize q.nots[b] = u at *
            generalize hcb : deepAt q 2 (b + 1) = cb1 at *
            have Hcb := Lib.hid hcb
            clear hcb
            generalize deepAt q 2 b = cb at *
            obtain ⟨hk1, hk2⟩ := hkd
            have HC := Lib.hid (fun (w' : World) (hb : Below wr.heap.size wr w') => IH.out k (by omega) u _ _ _ w' (Hv.out.below hb) hk2)
            unfold qV at HC
            generalize dep u = mu at *
            go_wp2_with (go_at_call 20; refine (HC.out _ (step_new (Below.refl _ _) _)).mono ?_; rintro e w2 ⟨rfl, hb2⟩)
            all_goals
              go_roundw
              case rel => exact ⟨b + 1, by omega, by go_num, by rw [Hcb.out, hst]; first | go_num | (simp only [Value.int.injEq, true_and]; omega), step_call (step_new Hbel.out _) hb2⟩
              case measure => simp [intOf]; omega
          · obtain rfl : b = q.nots.length := by omega
            rw [← Hnx.out]
            go_wp2
            go_roundw
            case rel => exact ⟨2 + 1, _, by omega, rfl, by go_num, rfl, Hbel.out⟩
            case measure => simp [intOf]
      · obtain rfl : z = 3 := by omega
        clear hz
        generalize deepAt q 3 0 = dz at *
        have hdz : dz ≤ 100000 := by have := Hse.out; omega
        go_wp2
        go_ret
        exact ⟨by rw [← Hse.out]; rfl, Hbel.out⟩
theorem query_Size (n : Nat) (q : Qy) (vm vs vn : Value) (w : World) (h : QVal w n q vm vs vn) : Calls Tryz.prog 6 #[qV q vm vs vn] w fun e w' => e = .returned (.tuple #[.int .i64 ((sizeN q).1 : Nat), .int .i64 ((sizeN q).2 : Nat)]) ∧ Below w.heap.size w w' := by
  have HM := Lib.hid (fun (w' : World) (hb : Below w.heap.size w w') => query_many n 1000 q vm vs vn w' (h.below hb) (by omega))
  have hS : Hid (sizeN q = if 1000 < cnt q then (1001, 0) else (cnt q, dep q)) := Lib.hid rfl
  have hN : Hid (manyN q 1000 = min (cnt q) 1001) := Lib.hid rfl
  have hD := Lib.hid (fun (hc : cnt q ≤ 100000) (w' : World) (hb : Below w.heap.size w w') => query_deep n q vm vs vn w' (h.below hb) hc)
  obtain ⟨om, cm, rfl, _, _⟩ := h.must.form
  obtain ⟨os, cs, rfl, _, _⟩ := h.should.form
  obtain ⟨on, cn, rfl, _, _⟩ := h.nots.form
  clear h
  unfold qV at *
  rw [hN.out] at HM
  clear hN
  by_cases hc : 1000 < cnt q
  · rw [show min (cnt q) 1001 = 1001 by omega] at HM
    rw [if_pos hc] at hS
    rw [hS.out]
    clear hc hD hS
    go_enter Tryz.func6, Tryz.ntmps6
    go_wp2_with fail
    refine (HM.out _ (step_new (Below.refl _ _) _)).mono ?_
    rintro e w1 ⟨rfl, hb1⟩
    have B1 := Lib.hid (step_call (step_new (Below.refl w.heap.size w) _) hb1)
    clear hb1
    go_wp2
    go_ret2
    exact ⟨rfl, B1.out⟩
  · rw [show min (cnt q) 1001 = cnt q by omega] at HM
    rw [if_neg hc] at hS
    rw [hS.out]
    have hD2 := Lib.hid (hD.out (by omega))
    have hci : ¬ (1000 : Int) < (cnt q : Int) := by omega
    clear hD hS
    generalize cnt q = c at *
    generalize dep q = d at *
    go_enter Tryz.func6, Tryz.ntmps6
    go_wp2_with fail
    refine (HM.out _ (step_new (Below.refl _ _) _)).mono ?_
    rintro e w1 ⟨rfl, hb1⟩
    have B1 := Lib.hid (step_call (step_new (Below.refl w.heap.size w) _) hb1)
    have c0 := fun i v (h : (w.alloc (.cells #[.int .i64 q.kind, .string (B q.text), .slice om q.must.length cm, .slice os q.should.length cs, .slice on q.nots.length cn] 24)).cell? ⟨w.heap.size, i, none⟩ = some v) => cell_call hb1 h
    obtain ⟨b0, b1, b2, b3, b4⟩ := boxedQ w q (.slice om q.must.length cm) (.slice os q.should.length cs) (.slice on q.nots.length cn) 24
    have b0 := c0 0 _ b0
    have b1 := c0 1 _ b1
    have b2 := c0 2 _ b2
    have b3 := c0 3 _ b3
    have b4 := c0 4 _ b4
    clear c0 hb1
    go_wp2_with fail
    refine (hD2.out _ B1.out).mono ?_
    rintro e w2 ⟨rfl, hb2⟩
    have B2 := Lib.hid (step_call B1.out hb2)
    clear hb2
    go_wp2
    go_ret2
    exact ⟨rfl, B2.out⟩
end Go.Proofs.YtlfhgmclnapmjaaGreatDoor
namespace Go.Proofs.YtlfhgmclnapmjaaGreatDoor
open Go.RowKit Go.Utf Go.Qry
attribute [local go_sem] Oper.semAt_some

theorem lt_of_cellA {w : World} {p : Addr} {v : Value} (h : w.cell? p = some v) : p.block < w.heap.size := by
  rcases Nat.lt_or_ge p.block w.heap.size with h' | h'
  · exact h'
  · simp [World.cell?, Array.getElem?_eq_none h'] at h
/-- The cells of a slice stay what they were. -/
theorem news_below {w w' : World} {oa : Option Addr} {xs : List Value} (hb : Below w.heap.size w w') (h : ∀ ad, oa = some ad → ∀ j u, xs[j]? = some u → w.cell? (ad.add j) = some u) : ∀ ad, oa = some ad → ∀ j u, xs[j]? = some u → w'.cell? (ad.add j) = some u := fun ad ha j u hu => by
  have h1 := h ad ha j u hu
  rw [hb.cell (lt_of_cellA h1)]
  exact h1
theorem k3_drew {w : World} {b : Nat} {v2 v3 v4 : Value} (h2 : w.cell? ⟨b, 2, none⟩ = some v2) (h3 : w.cell? ⟨b, 3, none⟩ = some v3) (h4 : w.cell? ⟨b, 4, none⟩ = some v4) : Below w.heap.size w w.drew ∧ w.drew.cell? ⟨b, 2, none⟩ = some v2 ∧ w.drew.cell? ⟨b, 3, none⟩ = some v3 ∧ w.drew.cell? ⟨b, 4, none⟩ = some v4 := ⟨below_drew w, h2, h3, h4⟩
theorem k3_new {W w : World} {b : Nat} {v2 v3 v4 : Value} (h : Below W.heap.size W w ∧ w.cell? ⟨b, 2, none⟩ = some v2 ∧ w.cell? ⟨b, 3, none⟩ = some v3 ∧ w.cell? ⟨b, 4, none⟩ = some v4) (o : Obj) : Below W.heap.size W (w.alloc o) ∧ (w.alloc o).cell? ⟨b, 2, none⟩ = some v2 ∧ (w.alloc o).cell? ⟨b, 3, none⟩ = some v3 ∧ (w.alloc o).cell? ⟨b, 4, none⟩ = some v4 := ⟨step_new h.1 o, cell_alloc o h.2.1, cell_alloc o h.2.2.1, cell_alloc o h.2.2.2⟩
theorem k3_grown {W w w' : World} {b : Nat} {v2 v3 v4 : Value} {row : Option Nat} (h : Below W.heap.size W w ∧ w.cell? ⟨b, 2, none⟩ = some v2 ∧ w.cell? ⟨b, 3, none⟩ = some v3 ∧ w.cell? ⟨b, 4, none⟩ = some v4) (hg : w.grownBy w' row) (hr : ∀ k, row = some k → W.heap.size ≤ k) (hb : b < W.heap.size) : Below W.heap.size W w' ∧ w'.cell? ⟨b, 2, none⟩ = some v2 ∧ w'.cell? ⟨b, 3, none⟩ = some v3 ∧ w'.cell? ⟨b, 4, none⟩ = some v4 := by
  refine ⟨h.1.grown hg h.1.size hr, ?_, ?_, ?_⟩
  all_goals
    have hlt : b < w.heap.size := Nat.lt_of_lt_of_le hb h.1.size
    have hne : some b ≠ row := fun e => by have := hr b e.symm; omega
  · exact (hg.cell_far ⟨b, 2, none⟩ hlt hne).trans h.2.1
  · exact (hg.cell_far ⟨b, 3, none⟩ hlt hne).trans h.2.2.1
  · exact (hg.cell_far ⟨b, 4, none⟩ hlt hne).trans h.2.2.2
theorem Tryz.info_qy : (Tryz.prog.info? 24).map (fun i => (i.zero, i.size, i.bytes)) = some (some (.agg #[.int .i64 0, .string ⟨#[]⟩, .slice none 0 0, .slice none 0 0, .slice none 0 0]), 5, 96) := by kernel_rfl
set_option maxRecDepth 100000 in
set_option maxHeartbeats 1600000 in
theorem ref17_kids (n : Nat) (q : Qy) (vm vs vn : Value) (w : World) (h : QVal w n q vm vs vn) (hc : cnt q ≤ 100000) : Calls Tryz.prog 30 #[qV q vm vs vn] w fun e w' => ∃ v, e = .returned v ∧ QRow w' n v q.kids ∧ Below w.heap.size w w' := by
  obtain ⟨om, cm, pm, rfl, m1, m2, m3, m4, m5⟩ := h.must.parts
  obtain ⟨os, cs, ps, rfl, s1, s2, s3, s4, s5⟩ := h.should.parts
  obtain ⟨on, cn, pn, rfl, n1, n2, n3, n4, n5⟩ := h.nots.parts
  obtain ⟨iq, hi, hz0, hz1, hz2⟩ := info_parts Tryz.info_qy
  have hlm : pm.length = q.must.length := by rw [← m1, List.length_map]
  have hls : ps.length = q.should.length := by rw [← s1, List.length_map]
  have hln : pn.length = q.nots.length := by rw [← n1, List.length_map]
  have hkl : q.must.length + (q.should.length + q.nots.length) ≤ 100000 := by
    have h1 := length_cntL q.kids
    have h2 := cnt_kids q
    rw [Qy.kids, List.length_append, List.length_append] at h1
    rw [Qy.kids] at h2
    omega
  have HM := Lib.hid (fun (w' : World) (hb : Below w.heap.size w w') => news_below hb m4)
  have HS := Lib.hid (fun (w' : World) (hb : Below w.heap.size w w') => news_below hb s4)
  have HN := Lib.hid (fun (w' : World) (hb : Below w.heap.size w w') => news_below hb n4)
  have M5 := Lib.hid m5
  have S5 := Lib.hid s5
  have N5 := Lib.hid n5
  have M3 := Lib.hid m3
  have S3 := Lib.hid s3
  have N3 := Lib.hid n3
  have Mq := Lib.hid (qCells_length pm)
  have Sq := Lib.hid (qCells_length ps)
  have Nq := Lib.hid (qCells_length pn)
  have Hv : Hid (∀ p ∈ pm ++ (ps ++ pn), 0 < n ∧ QVal w (n - 1) p.1 p.2.1 p.2.2.1 p.2.2.2) := Lib.hid (fun p hp => by
    rcases List.mem_append.1 hp with hp | hp
    · exact m2 p hp
    · rcases List.mem_append.1 hp with hp | hp
      · exact s2 p hp
      · exact n2 p hp)
  have Hk : Hid ((pm ++ (ps ++ pn)).map Prod.fst = q.kids) := Lib.hid (by rw [List.map_append, List.map_append, m1, s1, n1]; rfl)
  rw [hlm] at Mq
  rw [hls] at Sq
  rw [hln] at Nq
  have b0 := step_new (Below.refl w.heap.size w) (.cells #[.int .i64 q.kind, .string (B q.text), .slice om q.must.length cm, .slice os q.should.length cs, .slice on q.nots.length cn] 24)
  have B0 := Lib.hid b0
  have Hbz : Hid (w.heap.size < (w.alloc (.cells #[.int .i64 q.kind, .string (B q.text), .slice om q.must.length cm, .slice os q.should.length cs, .slice on q.nots.length cn] 24)).heap.size) := Lib.hid (by simp)
  obtain ⟨a0, a1, a2, a3, a4⟩ := boxedQ w q (.slice om q.must.length cm) (.slice os q.should.length cs) (.slice on q.nots.length cn) 24
  clear h m1 m2 m3 m4 m5 s1 s2 s3 s4 s5 n1 n2 n3 n4 n5 b0
  show Calls Tryz.prog 30 #[.agg #[.int .i64 q.kind, .string (B q.text), .slice om q.must.length cm, .slice os q.should.length cs, .slice on q.nots.length cn]] w _
  go_enter Tryz.func30, Tryz.ntmps30
  go_wp2
  generalize w.alloc (.cells #[.int .i64 q.kind, .string (B q.text), .slice om q.must.length cm, .slice os q.should.length cs, .slice on q.nots.length cn] 24) = wq at *
  have HMq := Lib.hid (fun (w' : World) (hb : Below wq.heap.size wq w') => HM.out w' (B0.out.trans (hb.mono B0.out.size)))
  have HSq := Lib.hid (fun (w' : World) (hb : Below wq.heap.size wq w') => HS.out w' (B0.out.trans (hb.mono B0.out.size)))
  have HNq := Lib.hid (fun (w' : World) (hb : Below wq.heap.size wq w') => HN.out w' (B0.out.trans (hb.mono B0.out.size)))
  have Hbw : Hid (∀ w' : World, Below wq.heap.size wq w' → Below w.heap.size w w') := Lib.hid (fun w' hb => B0.out.trans (hb.mono B0.out.size))
  have hbz := Hbz.out
  generalize hbx : w.heap.size = bx at *
  go_region_held3 (fun w' => Below wq.heap.size wq w' ∧ w'.cell? ⟨bx, 2, none⟩ = some (.slice om q.must.length cm) ∧ w'.cell? ⟨bx, 3, none⟩ = some (.slice os q.should.length cs) ∧ w'.cell? ⟨bx, 4, none⟩ = some (.slice on q.nots.length cn))
    (first
      | exact k3_drew a2 a3 a4
      | exact k3_new (by assumption) _
      | exact k3_grown (by assumption) hgrow7 (fun k e => (hown6.lt k e).1) hbz
      | exact k3_grown (by assumption) hgrow6 (fun k e => (hown5.lt k e).1) hbz
      | exact k3_grown (by assumption) hgrow5 (fun k e => (by simp [Value.ownBlock] at e; omega)) hbz
      | assumption)
    (first
      | (refine step_append_any _ (by rfl) _ _ _ (by rfl) wq.heap.size 24 iq _ 5 96 Tryz.underlying22 hi hz0 hz1 hz2 rfl (by decide) (.slice (some ⟨wq.heap.size, 0, none⟩) 0 0) (0) ([]) (by rfl) (own_nil_new _ 5 (heap_alloc_new wq _) (by omega)) om q.must.length cm (qCells pm) (by rfl) Mq.out M3.out (HMq.out _ (by go_split_ands; assumption)) M5.out (by unfold maxLen; omega) (by omega) (by first | exact (by simp) | (simp; done) | (simp; omega)) ?_; intro v5 w5 hown5 hgrow5 _; have hsz5 : wq.heap.size ≤ w5.heap.size := (by have h := hgrow5.size; first | omega | (simp at h; omega)))
      | (refine step_append_any _ (by rfl) _ _ _ (by rfl) wq.heap.size 24 iq _ 5 96 Tryz.underlying22 hi hz0 hz1 hz2 rfl (by decide) v5 (0 + q.must.length) ([] ++ qCells pm) (by rfl) hown5 os q.should.length cs (qCells ps) (by rfl) Sq.out S3.out (HSq.out _ (by go_split_ands; assumption)) S5.out (by unfold maxLen; omega) (by omega) (by first | exact hsz5 | (simp; done) | (simp; omega)) ?_; intro v6 w6 hown6 hgrow6 _; have hsz6 : wq.heap.size ≤ w6.heap.size := (by have h := hgrow6.size; first | omega | (simp at h; omega)))
      | (refine step_append_any _ (by rfl) _ _ _ (by rfl) wq.heap.size 24 iq _ 5 96 Tryz.underlying22 hi hz0 hz1 hz2 rfl (by decide) v6 (0 + q.must.length + q.should.length) ([] ++ qCells pm ++ qCells ps) (by rfl) hown6 on q.nots.length cn (qCells pn) (by rfl) Nq.out N3.out (HNq.out _ (by go_split_ands; assumption)) N5.out (by unfold maxLen; omega) (by omega) (by first | exact hsz6 | (simp; done) | (simp; omega)) ?_; intro v7 w7 hown7 hgrow7 _; have hsz7 : wq.heap.size ≤ w7.heap.size := (by have h := hgrow7.size; first | omega | (simp at h; omega)))
      | fail)
  have hbw : Below wq.heap.size wq w7 := by go_split_ands; assumption
  have hb7 := Hbw.out w7 hbw
  have hq : QRow w7 n v7 q.kids := by
    rw [← Hk.out]
    refine QRow.of_own' (base := wq.heap.size) ?_ (fun p hp => ⟨(Hv.out p hp).1, (Hv.out p hp).2.below (by rw [hbx]; exact hb7)⟩)
    rw [List.length_append, List.length_append, hlm, hls, hln, qCells_append, qCells_append, ← Nat.add_assoc]
    have h := hown7
    rw [Nat.zero_add, List.nil_append, List.append_assoc] at h
    exact h
  have HQ := Lib.hid hq
  have HB7 := Lib.hid hb7
  clear hq hb7 hbw hown7 hgrow7 hown6 hgrow6 hown5 hgrow5
  go_wp2
  go_ret
  exact ⟨_, rfl, HQ.out, by rw [hbx]; exact HB7.out⟩
end Go.Proofs.YtlfhgmclnapmjaaGreatDoor
namespace Go.Proofs.YtlfhgmclnapmjaaGreatDoor
open Go.RowKit Go.Utf Go.Qry
attribute [local go_sem] Oper.semAt_some

theorem manyAt_stop (q : Qy) (most a b : Nat) (ha : a < 3) (h : most < manyAt q most a b) : manyAt q most (a + 1) 0 = manyAt q most a b := by
  have h1 : cntL (preK q a ++ (curK q a).take b) ≤ cntL (preK q (a + 1)) := by
    rw [preK_succ q a ha, cntL_append, cntL_append]
    have := cntL_take (curK q a) b
    omega
  unfold manyAt at *
  rw [List.take_zero, List.append_nil]
  omega
set_option maxRecDepth 100000 in
set_option maxHeartbeats 1600000 in
theorem ref17_count (n : Nat) : ∀ (most : Nat) (q : Qy) (vm vs vn : Value) (w : World), QVal w n q vm vs vn → most ≤ 100000 → Calls Tryz.prog 21 #[qV q vm vs vn, .int .i64 (most : Nat)] w fun e w' => e = .returned (.int .i64 (manyN q most : Nat)) ∧ Below w.heap.size w w' := by
  induction n using Nat.strongRecOn with
  | _ n ih =>
    intro most q vm vs vn w h hm
    obtain ⟨om, cm, rfl, lm, hm1⟩ := h.must.form
    obtain ⟨os, cs, rfl, ls, hs1⟩ := h.should.form
    obtain ⟨on, cn, rfl, ln, hn1⟩ := h.nots.form
    have Hm1 := Lib.hid hm1
    have Hs1 := Lib.hid hs1
    have Hn1 := Lib.hid hn1
    have IH := Lib.hid ih
    have Hs0 := Lib.hid (manyAt_start q most)
    have Hse := Lib.hid (manyAt_end q most)
    have b0 := step_new (Below.refl w.heap.size w) (.cells #[.int .i64 q.kind, .string (B q.text), .slice om q.must.length cm, .slice os q.should.length cs, .slice on q.nots.length cn] 24)
    obtain ⟨a0, a1, a2, a3, a4⟩ := boxedQ w q (.slice om q.must.length cm) (.slice os q.should.length cs) (.slice on q.nots.length cn) 24
    have Hb0 := Lib.hid (step_new b0 (.cells #[.slice om q.must.length cm, .slice os q.should.length cs, .slice on q.nots.length cn] 22))
    have g0 := heap_alloc_new (w.alloc (.cells #[.int .i64 q.kind, .string (B q.text), .slice om q.must.length cm, .slice os q.should.length cs, .slice on q.nots.length cn] 24)) (.cells #[.slice om q.must.length cm, .slice os q.should.length cs, .slice on q.nots.length cn] 22)
    rw [World.size_alloc] at g0
    have G0 := Lib.hid g0
    clear ih hm1 hs1 hn1 b0 g0
    show Calls Tryz.prog 21 #[.agg #[.int .i64 q.kind, .string (B q.text), .slice om q.must.length cm, .slice os q.should.length cs, .slice on q.nots.length cn], .int .i64 (most : Nat)] w _
    go_enter Tryz.func21, Tryz.ntmps21
    go_wp2
    generalize (w.alloc (.cells #[.int .i64 q.kind, .string (B q.text), .slice om q.must.length cm, .slice os q.should.length cs, .slice on q.nots.length cn] 24)).alloc (.cells #[.slice om q.must.length cm, .slice os q.should.length cs, .slice on q.nots.length cn] 22) = w1 at *
    have Hg : Hid (w.heap.size + 1 < w1.heap.size) := Lib.hid (Array.getElem?_eq_some_iff.1 G0.out).1
    have z0 : w1.cell? ⟨w.heap.size + 1, 0, none⟩ = some (.slice om q.must.length cm) := by rw [Lib.cell_of_heap G0.out]; rfl
    have z1 : w1.cell? ⟨w.heap.size + 1, 1, none⟩ = some (.slice os q.should.length cs) := by rw [Lib.cell_of_heap G0.out]; rfl
    have z2 : w1.cell? ⟨w.heap.size + 1, 2, none⟩ = some (.slice on q.nots.length cn) := by rw [Lib.cell_of_heap G0.out]; rfl
    have Z0 := Lib.hid z0
    have Z1 := Lib.hid z1
    have Z2 := Lib.hid z2
    clear z0 z1 z2 a0 a1 a2 a3 a4
    go_loopw [7, 5] (fun x7 x5 wr => ∃ (a : Nat) (z : Int), a ≤ 3 ∧ z = (a : Int) ∧ x7 = .int .i64 z ∧ x5 = .int .i64 (manyAt q most a 0 : Nat) ∧ Below w1.heap.size w1 wr) (fun x7 _ _ => 3 - (intOf x7).toNat)
    case atStart => exact ⟨0, 0, by omega, rfl, rfl, by rw [Hs0.out]; rfl, Below.refl _ _⟩
    case round =>
      obtain ⟨a, z, ha, hz, rfl, rfl, hbel⟩ := hrel
      obtain ⟨wo, rfl⟩ : ∃ wo : World, wo = wr := ⟨_, rfl⟩
      have Hbel := Lib.hid hbel
      clear hbel
      rcases (show a = 0 ∨ a = 1 ∨ a = 2 ∨ a = 3 by omega) with rfl | rfl | rfl | rfl
      · obtain rfl : z = 0 := by omega
        clear hz
        have Hnx := Lib.hid (manyAt_next q most 0 (by omega))
        have Hst := Lib.hid (fun b => manyAt_step q most 0 b)
        have Hfl := Lib.hid (fun b => manyAt_stop q most 0 b (by omega))
        have Hle : Hid (∀ b, manyAt q most 0 b ≤ most + 1) := Lib.hid (fun b => Nat.min_le_right _ _)
        have hcur : curK q 0 = q.must := rfl
        rw [hcur] at Hnx Hst
        go_wp2
        go_loopw [8, 5] (fun x8 x5 wr => ∃ b : Nat, b ≤ q.must.length ∧ x8 = .int .i64 b ∧ x5 = .int .i64 (manyAt q most 0 b : Nat) ∧ Below w1.heap.size w1 wr) (fun x8 _ _ => q.must.length - (intOf x8).toNat)
        case atStart => exact ⟨0, by omega, rfl, rfl, Hbel.out⟩
        case round =>
          obtain ⟨b, hb, rfl, rfl, hbel⟩ := hrel
          have Hbel := Lib.hid hbel
          have hle := Hle.out b
          have zc := cell_call hbel Z0.out
          by_cases hlt : b < q.must.length
          · obtain ⟨bb, off, k, um, us, un, hnk, rfl, hbb, hcc, c0, c1, c2, c3, c4, hv⟩ := Hm1.out b hlt
            have hbw := Hb0.out.trans (hbel.mono Hb0.out.size)
            have c0 := cell_below hbw hbb c0
            have c1 := cell_below hbw hbb c1
            have c2 := cell_below hbw hbb c2
            have c3 := cell_below hbw hbb c3
            have c4 := cell_below hbw hbb c4
            have hst := Hst.out b hlt
            have hfl := Hfl.out b
            have hki : (b : Int) < (q.must.length : Int) := by omega
            have hlr := (hv.below (hbw.mono (Nat.le_refl _)))
            obtain ⟨pm, dm, rfl, _, _⟩ := hv.must.form
            obtain ⟨ps, ds, rfl, _, _⟩ := hv.should.form
            obtain ⟨pn, dn, rfl, _, _⟩ := hv.nots.form
            have Hv := Lib.hid hlr
            clear hbel hv hlr hbw
            generalize q.must[b] = u at *
            generalize hcb : manyAt q most 0 (b + 1) = cb1 at *
            have Hcb := Lib.hid hcb
            clear hcb
            generalize manyAt q most 0 b = cb at *
            by_cases hfull : most < cb
            · have hfi : ¬ (cb : Int) ≤ (most : Int) := by omega
              have Hf := Lib.hid (hfl hfull)
              clear hfl hst hfull
              go_wp2
              go_roundw
              case rel => exact ⟨0 + 1, _, by omega, rfl, by go_num, by rw [Hf.out], Hbel.out⟩
              case measure => simp [intOf]
            · have hst := hst (by omega)
              have hfi : (cb : Int) ≤ (most : Int) := by omega
              have HC := Lib.hid (fun (w' : World) (hb : Below wr.heap.size wr w') => IH.out k (by omega) (most - cb) u _ _ _ w' (Hv.out.below hb) (by omega))
              have hw1 : IntKind.i64.wrap ((most : Int) - (cb : Int)) = ((most - cb : Nat) : Int) := by rw [IntWalk.i64_in _ (by omega)]; omega
              have hmn : manyN u (most - cb) ≤ most - cb + 1 := Nat.min_le_right _ _
              unfold qV at HC
              clear hfl hfull
              generalize hdd : most - cb = dd at *
              generalize manyN u dd = mu at *
              go_wp2_with (go_at_call 21; refine (HC.out _ (by first | exact Below.refl _ _ | exact below_drew _)).mono ?_; rintro e w2 ⟨rfl, hb2⟩)
              go_roundw
              case rel => exact ⟨b + 1, by omega, by go_num, by rw [Hcb.out, hst]; go_num, step_call Hbel.out hb2⟩
              case measure => simp [intOf]; omega
          · obtain rfl : b = q.must.length := by omega
            rw [← Hnx.out]
            go_wp2
            go_roundw
            case rel => exact ⟨0 + 1, _, by omega, rfl, by go_num, rfl, Hbel.out⟩
            case measure => simp [intOf]
      · obtain rfl : z = 1 := by omega
        clear hz
        have Hnx := Lib.hid (manyAt_next q most 1 (by omega))
        have Hst := Lib.hid (fun b => manyAt_step q most 1 b)
        have Hfl := Lib.hid (fun b => manyAt_stop q most 1 b (by omega))
        have Hle : Hid (∀ b, manyAt q most 1 b ≤ most + 1) := Lib.hid (fun b => Nat.min_le_right _ _)
        have hcur : curK q 1 = q.should := rfl
        rw [hcur] at Hnx Hst
        go_wp2
        go_loopw [8, 5] (fun x8 x5 wr => ∃ b : Nat, b ≤ q.should.length ∧ x8 = .int .i64 b ∧ x5 = .int .i64 (manyAt q most 1 b : Nat) ∧ Below w1.heap.size w1 wr) (fun x8 _ _ => q.should.length - (intOf x8).toNat)
        case atStart => exact ⟨0, by omega, rfl, rfl, Hbel.out⟩
        case round =>
          obtain ⟨b, hb, rfl, rfl, hbel⟩ := hrel
          have Hbel := Lib.hid hbel
          have hle := Hle.out b
          have zc := cell_call hbel Z1.out
          by_cases hlt : b < q.should.length
          · obtain ⟨bb, off, k, um, us, un, hnk, rfl, hbb, hcc, c0, c1, c2, c3, c4, hv⟩ := Hs1.out b hlt
            have hbw := Hb0.out.trans (hbel.mono Hb0.out.size)
            have c0 := cell_below hbw hbb c0
            have c1 := cell_below hbw hbb c1
            have c2 := cell_below hbw hbb c2
            have c3 := cell_below hbw hbb c3
            have c4 := cell_below hbw hbb c4
            have hst := Hst.out b hlt
            have hfl := Hfl.out b
            have hki : (b : Int) < (q.should.length : Int) := by omega
            have hlr := (hv.below (hbw.mono (Nat.le_refl _)))
            obtain ⟨pm, dm, rfl, _, _⟩ := hv.must.form
            obtain ⟨ps, ds, rfl, _, _⟩ := hv.should.form
            obtain ⟨pn, dn, rfl, _, _⟩ := hv.nots.form
            have Hv := Lib.hid hlr
            clear hbel hv hlr hbw
            generalize q.should[b] = u at *
            generalize hcb : manyAt q most 1 (b + 1) = cb1 at *
            have Hcb := Lib.hid hcb
            clear hcb
            generalize manyAt q most 1 b = cb at *
            by_cases hfull : most < cb
            · have hfi : ¬ (cb : Int) ≤ (most : Int) := by omega
              have Hf := Lib.hid (hfl hfull)
              clear hfl hst hfull
              go_wp2
              go_roundw
              case rel => exact ⟨1 + 1, _, by omega, rfl, by go_num, by rw [Hf.out], Hbel.out⟩
              case measure => simp [intOf]
            · have hst := hst (by omega)
              have hfi : (cb : Int) ≤ (most : Int) := by omega
              have HC := Lib.hid (fun (w' : World) (hb : Below wr.heap.size wr w') => IH.out k (by omega) (most - cb) u _ _ _ w' (Hv.out.below hb) (by omega))
              have hw1 : IntKind.i64.wrap ((most : Int) - (cb : Int)) = ((most - cb : Nat) : Int) := by rw [IntWalk.i64_in _ (by omega)]; omega
              have hmn : manyN u (most - cb) ≤ most - cb + 1 := Nat.min_le_right _ _
              unfold qV at HC
              clear hfl hfull
              generalize hdd : most - cb = dd at *
              generalize manyN u dd = mu at *
              go_wp2_with (go_at_call 21; refine (HC.out _ (by first | exact Below.refl _ _ | exact below_drew _)).mono ?_; rintro e w2 ⟨rfl, hb2⟩)
              go_roundw
              case rel => exact ⟨b + 1, by omega, by go_num, by rw [Hcb.out, hst]; go_num, step_call Hbel.out hb2⟩
              case measure => simp [intOf]; omega
          · obtain rfl : b = q.should.length := by omega
            rw [← Hnx.out]
            go_wp2
            go_roundw
            case rel => exact ⟨1 + 1, _, by omega, rfl, by go_num, rfl, Hbel.out⟩
            case measure => simp [intOf]
      · obtain rfl : z = 2 := by omega
        clear hz
        have Hnx := Lib.hid (manyAt_next q most 2 (by omega))
        have Hst := Lib.hid (fun b => manyAt_step q most 2 b)
        have Hfl := Lib.hid (fun b => manyAt_stop q most 2 b (by omega))
        have Hle : Hid (∀ b, manyAt q most 2 b ≤ most + 1) := Lib.hid (fun b => Nat.min_le_right _ _)
        have hcur : curK q 2 = q.nots := rfl
        rw [hcur] at Hnx Hst
        go_wp2
        go_loopw [8, 5] (fun x8 x5 wr => ∃ b : Nat, b ≤ q.nots.length ∧ x8 = .int .i64 b ∧ x5 = .int .i64 (manyAt q most 2 b : Nat) ∧ Below w1.heap.size w1 wr) (fun x8 _ _ => q.nots.length - (intOf x8).toNat)
        case atStart => exact ⟨0, by omega, rfl, rfl, Hbel.out⟩
        case round =>
          obtain ⟨b, hb, rfl, rfl, hbel⟩ := hrel
          have Hbel := Lib.hid hbel
          have hle := Hle.out b
          have zc := cell_call hbel Z2.out
          by_cases hlt : b < q.nots.length
          · obtain ⟨bb, off, k, um, us, un, hnk, rfl, hbb, hcc, c0, c1, c2, c3, c4, hv⟩ := Hn1.out b hlt
            have hbw := Hb0.out.trans (hbel.mono Hb0.out.size)
            have c0 := cell_below hbw hbb c0
            have c1 := cell_below hbw hbb c1
            have c2 := cell_below hbw hbb c2
            have c3 := cell_below hbw hbb c3
            have c4 := cell_below hbw hbb c4
            have hst := Hst.out b hlt
            have hfl := Hfl.out b
            have hki : (b : Int) < (q.nots.length : Int) := by omega
            have hlr := (hv.below (hbw.mono (Nat.le_refl _)))
            obtain ⟨pm, dm, rfl, _, _⟩ := hv.must.form
            obtain ⟨ps, ds, rfl, _, _⟩ := hv.should.form
            obtain ⟨pn, dn, rfl, _, _⟩ := hv.nots.form
            have Hv := Lib.hid hlr
            clear hbel hv hlr hbw
            generalize q.nots[b] = u at *
            generalize hcb : manyAt q most 2 (b + 1) = cb1 at *
            have Hcb := Lib.hid hcb
            clear hcb
            generalize manyAt q most 2 b = cb at *
            by_cases hfull : most < cb
            · have hfi : ¬ (cb : Int) ≤ (most : Int) := by omega
              have Hf := Lib.hid (hfl hfull)
              clear hfl hst hfull
              go_wp2
              go_roundw
              case rel => exact ⟨2 + 1, _, by omega, rfl, by go_num, by rw [Hf.out], Hbel.out⟩
              case measure => simp [intOf]
            · have hst := hst (by omega)
              have hfi : (cb : Int) ≤ (most : Int) := by omega
              have HC := Lib.hid (fun (w' : World) (hb : Below wr.heap.size wr w') => IH.out k (by omega) (most - cb) u _ _ _ w' (Hv.out.below hb) (by omega))
              have hw1 : IntKind.i64.wrap ((most : Int) - (cb : Int)) = ((most - cb : Nat) : Int) := by rw [IntWalk.i64_in _ (by omega)]; omega
              have hmn : manyN u (most - cb) ≤ most - cb + 1 := Nat.min_le_right _ _
              unfold qV at HC
              clear hfl hfull
              generalize hdd : most - cb = dd at *
              generalize manyN u dd = mu at *
              go_wp2_with (go_at_call 21; refine (HC.out _ (by first | exact Below.refl _ _ | exact below_drew _)).mono ?_; rintro e w2 ⟨rfl, hb2⟩)
              go_roundw
              case rel => exact ⟨b + 1, by omega, by go_num, by rw [Hcb.out, hst]; go_num, step_call Hbel.out hb2⟩
              case measure => simp [intOf]; omega
          · obtain rfl : b = q.nots.length := by omega
            rw [← Hnx.out]
            go_wp2
            go_roundw
            case rel => exact ⟨2 + 1, _, by omega, rfl, by go_num, rfl, Hbel.out⟩
            case measure => simp [intOf]
      · obtain rfl : z = 3 := by omega
        clear hz
        have hle : manyAt q most 3 0 ≤ most + 1 := Nat.min_le_right _ _
        have hmn : min ((manyAt q most 3 0 : Nat) : Int) ((most : Int) + 1) = ((manyAt q most 3 0 : Nat) : Int) := by omega
        go_wp2
        go_ret
        exact ⟨by rw [← Hse.out]; rfl, Hb0.out.trans (Hbel.out.mono Hb0.out.size)⟩
/-- How deep a list is, so far. -/
theorem depL_take_le (l : List Qy) (b : Nat) : depL (l.take b) ≤ depL l := by
  have h := depL_append (l.take b) (l.drop b)
  rw [List.take_append_drop] at h
  omega
set_option maxRecDepth 100000 in
set_option maxHeartbeats 1600000 in
theorem ref17_deep (n : Nat) : ∀ (q : Qy) (vm vs vn : Value) (w : World), QVal w n q vm vs vn → cnt q ≤ 100000 → Calls Tryz.prog 22 #[qV q vm vs vn] w fun e w' => e = .returned (.int .i64 (dep q : Nat)) ∧ Below w.heap.size w w' := by
  induction n using Nat.strongRecOn with
  | _ n ih =>
    intro q vm vs vn w h hc
    have IH := Lib.hid ih
    have hK := fun (w' : World) (hb : Below w.heap.size w w') => ref17_kids n q vm vs vn w' (h.below hb) hc
    have Hde : Hid (depL q.kids + 1 = dep q) := Lib.hid (dep_kids q).symm
    have hdq : dep q ≤ 100000 := Nat.le_trans (dep_le_cnt q) hc
    have Hkd := Lib.hid (show ∀ k ∈ q.kids, dep k ≤ 100000 ∧ cnt k ≤ 100000 from fun k hk => by
      have h1 := cnt_mem hk
      have h2 := dep_le_cnt k
      have h3 := cnt_kids q
      omega)
    have hkl : q.kids.length ≤ 100000 := by
      have h1 := length_cntL q.kids
      have h2 := cnt_kids q
      omega
    unfold qV at hK
    have HK := Lib.hid hK
    clear ih hK
    show Calls Tryz.prog 22 #[.agg #[.int .i64 q.kind, .string (B q.text), vm, vs, vn]] w _
    clear h hc
    go_enter Tryz.func22, Tryz.ntmps22
    go_wp2_with fail
    refine (HK.out _ (step_new (Below.refl _ _) _)).mono ?_
    rintro e w1 ⟨v1, rfl, hq1, hb1⟩
    obtain ⟨oc, cc, rfl, _, hcell⟩ := hq1.form
    have Hcell := Lib.hid hcell
    have HB1 := Lib.hid (step_call (step_new (Below.refl w.heap.size w) _) hb1)
    clear hq1 hcell hb1
    go_wp2
    go_loopw [5, 3] (fun x5 x3 wr => ∃ b : Nat, b ≤ q.kids.length ∧ x5 = .int .i64 b ∧ x3 = .int .i64 (depL (q.kids.take b) : Nat) ∧ Below w1.heap.size w1 wr) (fun x5 _ _ => q.kids.length - (intOf x5).toNat)
    case atStart => exact ⟨0, by omega, rfl, by rw [List.take_zero]; rfl, Below.refl _ _⟩
    case round =>
      obtain ⟨b, hb, rfl, rfl, hbel⟩ := hrel
      have Hbel := Lib.hid hbel
      have hle : depL (q.kids.take b) ≤ 100000 := by have := depL_take_le q.kids b; have := Hde.out; omega
      by_cases hlt : b < q.kids.length
      · obtain ⟨bb, off, k, um, us, un, hnk, rfl, hbb, hcc, c0, c1, c2, c3, c4, hv⟩ := Hcell.out b hlt
        have c0 := cell_below hbel hbb c0
        have c1 := cell_below hbel hbb c1
        have c2 := cell_below hbel hbb c2
        have c3 := cell_below hbel hbb c3
        have c4 := cell_below hbel hbb c4
        have hst := depL_snoc q.kids b hlt
        have hki : (b : Int) < (q.kids.length : Int) := by omega
        have hkd := Hkd.out q.kids[b] (List.getElem_mem hlt)
        have hlr := hv.below hbel
        obtain ⟨pm, dm, rfl, _, _⟩ := hv.must.form
        obtain ⟨ps, ds, rfl, _, _⟩ := hv.should.form
        obtain ⟨pn, dn, rfl, _, _⟩ := hv.nots.form
        have Hv := Lib.hid hlr
        clear hbel hv hlr
        generalize q.kids[b] = u at *
        generalize hcb : depL (q.kids.take (b + 1)) = cb1 at *
        have Hcb := Lib.hid hcb
        clear hcb
        generalize depL (q.kids.take b) = cb at *
        obtain ⟨hk1, hk2⟩ := hkd
        have HC := Lib.hid (fun (w' : World) (hb : Below wr.heap.size wr w') => IH.out k (by omega) u _ _ _ w' (Hv.out.below hb) hk2)
        unfold qV at HC
        generalize dep u = mu at *
        go_wp2_with (go_at_call 22; refine (HC.out _ (by first | exact Below.refl _ _ | exact below_drew _ | exact step_new (Below.refl _ _) _)).mono ?_; rintro e w2 ⟨rfl, hb2⟩)
        all_goals
          go_roundw
          case rel => exact ⟨b + 1, by omega, by go_num, by rw [Hcb.out, hst]; first | go_num | (simp only [Value.int.injEq, true_and]; omega), step_call Hbel.out hb2⟩
          case measure => simp [intOf]; omega
      · obtain rfl : b = q.kids.length := by omega
        rw [List.take_of_length_le (Nat.le_refl _)] at hle ⊢
        generalize depL q.kids = dz at *
        go_wp2
        go_ret
        exact ⟨by rw [← Hde.out]; rfl, step_call HB1.out Hbel.out⟩
theorem ref17_Size (n : Nat) (q : Qy) (vm vs vn : Value) (w : World) (h : QVal w n q vm vs vn) : Calls Tryz.prog 7 #[qV q vm vs vn] w fun e w' => e = .returned (.tuple #[.int .i64 ((sizeN q).1 : Nat), .int .i64 ((sizeN q).2 : Nat)]) ∧ Below w.heap.size w w' := by
  have HM := Lib.hid (fun (w' : World) (hb : Below w.heap.size w w') => ref17_count n 1000 q vm vs vn w' (h.below hb) (by omega))
  have hS : Hid (sizeN q = if 1000 < cnt q then (1001, 0) else (cnt q, dep q)) := Lib.hid rfl
  have hN : Hid (manyN q 1000 = min (cnt q) 1001) := Lib.hid rfl
  have hD := Lib.hid (fun (hc : cnt q ≤ 100000) (w' : World) (hb : Below w.heap.size w w') => ref17_deep n q vm vs vn w' (h.below hb) hc)
  obtain ⟨om, cm, rfl, _, _⟩ := h.must.form
  obtain ⟨os, cs, rfl, _, _⟩ := h.should.form
  obtain ⟨on, cn, rfl, _, _⟩ := h.nots.form
  clear h
  unfold qV at *
  rw [hN.out] at HM
  clear hN
  by_cases hc : 1000 < cnt q
  · rw [show min (cnt q) 1001 = 1001 by omega] at HM
    rw [if_pos hc] at hS
    rw [hS.out]
    clear hc hD hS
    go_enter Tryz.func7, Tryz.ntmps7
    go_wp2_with fail
    refine (HM.out _ (step_new (Below.refl _ _) _)).mono ?_
    rintro e w1 ⟨rfl, hb1⟩
    have B1 := Lib.hid (step_call (step_new (Below.refl w.heap.size w) _) hb1)
    clear hb1
    go_wp2
    go_ret2
    exact ⟨rfl, B1.out⟩
  · rw [show min (cnt q) 1001 = cnt q by omega] at HM
    rw [if_neg hc] at hS
    rw [hS.out]
    have hD2 := Lib.hid (hD.out (by omega))
    have hci : ¬ (1000 : Int) < (cnt q : Int) := by omega
    clear hD hS
    generalize cnt q = c at *
    generalize dep q = d at *
    go_enter Tryz.func7, Tryz.ntmps7
    go_wp2_with fail
    refine (HM.out _ (step_new (Below.refl _ _) _)).mono ?_
    rintro e w1 ⟨rfl, hb1⟩
    have B1 := Lib.hid (step_call (step_new (Below.refl w.heap.size w) _) hb1)
    have c0 := fun i v (h : (w.alloc (.cells #[.int .i64 q.kind, .string (B q.text), .slice om q.must.length cm, .slice os q.should.length cs, .slice on q.nots.length cn] 24)).cell? ⟨w.heap.size, i, none⟩ = some v) => cell_call hb1 h
    obtain ⟨b0, b1, b2, b3, b4⟩ := boxedQ w q (.slice om q.must.length cm) (.slice os q.should.length cs) (.slice on q.nots.length cn) 24
    have b0 := c0 0 _ b0
    have b1 := c0 1 _ b1
    have b2 := c0 2 _ b2
    have b3 := c0 3 _ b3
    have b4 := c0 4 _ b4
    clear c0 hb1
    go_wp2_with fail
    refine (hD2.out _ B1.out).mono ?_
    rintro e w2 ⟨rfl, hb2⟩
    have B2 := Lib.hid (step_call B1.out hb2)
    clear hb2
    go_wp2
    go_ret2
    exact ⟨rfl, B2.out⟩
end Go.Proofs.YtlfhgmclnapmjaaGreatDoor
