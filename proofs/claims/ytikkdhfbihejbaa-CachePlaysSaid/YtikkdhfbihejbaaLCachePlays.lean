/- The law CachePlays returns true for every input. No conditions. -/
import Derived.Test.YtikkdhfbihejbaaCchPr
namespace Go.Proofs.Ytikkdhfbihejbaa
open Go.RowKit Go.Cch Go.Lib Go.Shelf
attribute [local go_sem] Oper.semAt_some

theorem drewN_plays {K : Nat} {w w' : World} (h : Below K w w') (n : Nat) : Below K w (w'.drewN n) := ⟨h.os, h.tape, h.output, h.size, h.block⟩
theorem acts_at3 {w : World} {b off c : Nat} {l : List Cch.Act} (h : Acts6 w (.slice (some ⟨b, off, none⟩) l.length c) l) {k : Nat} (hk : k < l.length) : ActAt6 w b (off + k * 4) l[k] := by
  obtain ⟨b', off', h1, h2⟩ := h.at hk
  simp only [Option.some.injEq, Addr.mk.injEq, and_true] at h1
  rw [h1.1, h1.2]; exact h2
set_option maxRecDepth 100000 in
set_option maxHeartbeats 12800000 in
theorem walk_CachePlays (most : Int) (v : Value) (l : List Cch.Act) (w : World) (hmost : (Lit.int .i64 most).wf = true) (hacts : Acts6 w v l) (hfit : ∀ a ∈ l, Fit6 a) (hlen : l.length ≤ maxLen) :
    Calls Try.prog 6 #[.int .i64 most, v] w fun e w' => e = .returned (.bool true) ∧ Below w.heap.size w w' := by
  have Hacts := Lib.hid hacts
  have Hfit := Lib.hid hfit
  obtain ⟨oa, cp, rfl⟩ := hacts.form
  have hlen' : l.length ≤ 9223372036854775807 := by unfold maxLen at hlen; omega
  clear hacts hfit hlen
  go_enter Try.func6, Try.ntmps6
  go_wp2_with fail
  refine (law_shown6 w).mono ?_
  rintro e w1 ⟨rfl, hb1⟩
  have Hb1 := Lib.hid hb1
  clear hb1
  by_cases hbig : 200 < l.length
  · have hz : (200 : Int) < (l.length : Int) := by omega
    clear hbig
    go_wp2
    go_ret
    exact ⟨rfl, Hb1.out⟩
  have hz : ¬ (200 : Int) < (l.length : Int) := by omega
  obtain ⟨m, hm, hm8⟩ : ∃ m : Nat, pickI most 8 = (m : Int) ∧ m < 8 := by
    have := pick_range most 8 (by omega)
    exact ⟨(pickI most 8).toNat, by omega, by omega⟩
  by_cases hgood : 1 ≤ most ∧ most ≤ 1024
  · obtain ⟨q, rfl⟩ : ∃ q : Nat, most = (q : Int) := ⟨most.toNat, by omega⟩
    have hN := live_New (w0 := w) (w := w1) q (by omega) (by omega) none 0 trivial (fun _ h => by cases h) Hb1.out
    go_wp2_with fail
    refine hN.mono ?_
    rintro e w2 ⟨xb, rfl, h, -⟩
    have Hb2a := Lib.hid h.below
    clear hN h
    have hR := ref_New (q : Int) w2
    rw [decide_eq_true hgood] at hR
    go_wp2_with fail
    refine hR.mono ?_
    rintro e w2b ⟨rfl, hw2b⟩
    have Hb2 : Hid (Below w.heap.size w w2b) := Lib.hid (by rw [hw2b]; exact step_new Hb2a.out _)
    clear hR hw2b Hb2a
    generalize w2b = w2 at *
    go_wp2_with fail
    have hP := law_pick (q : Int) 8 hmost (by omega) (by omega) w2
    rw [hm] at hP
    refine hP.mono ?_
    rintro e w2' ⟨rfl, rfl⟩
    clear hP hm
    go_wp2_with fail
    have hN := live_New (w0 := w) (w := w2) (1 + m) (by omega) (by omega) none 0 trivial (fun _ h => by cases h) Hb2.out
    rw [show ((1 + m : Nat) : Int) = 1 + (m : Int) by omega] at hN
    refine hN.mono ?_
    rintro e w4 ⟨cb, rfl, h, -⟩
    have Hpr0 := Lib.hid (pair_new h)
    clear hN h
    go_wp2_with fail
    refine (ref_New _ w4).mono ?_
    rintro e w5 ⟨rfl, hw5⟩
    rw [show (((1 + m : Nat) : Int)) = 1 + (m : Int) by omega, ← hw5] at Hpr0
    generalize w4.heap.size = rb at *
    clear hw5
    go_wp2
    go_loopw [15] (fun i wr => ∃ (k N : Nat) (v : Value) (c : Ch), k ≤ l.length ∧ i = .int .i64 k ∧ N ≤ 10 + k ∧ Pair w wr cb rb v c c N) (fun i _ => l.length - (intOf i).toNat)
    case atStart => exact ⟨0, _, _, _, by omega, rfl, by omega, Hpr0.out⟩
    case round =>
      obtain ⟨k, N, v, c, hk, rfl, hN, hpr⟩ := hrel
      have Hpr := Lib.hid hpr
      clear hpr
      by_cases hlt : k < l.length
      · obtain ⟨b, off, rfl, a0, a1, a2, a3⟩ := (Hacts.out.below Hpr.out.below).at hlt
        have HAct := Lib.hid (fun W (hb : Below w.heap.size w W) => acts_at3 (Hacts.out.below hb) hlt)
        unfold ActAt6 at HAct
        obtain ⟨f1, f2⟩ := Hfit.out l[k] (List.getElem_mem _)
        generalize l[k] = a at *
        have hsm := Hpr.out.live.small
        have Hsm := Lib.hid hsm
        have Hdo := Lib.hid (live_does Hpr.out.live (by omega) a f1 f2)
        unfold actV at Hdo
        clear hsm
        go_wp2_with fail
        refine Hdo.out.mono ?_
        rintro e y2 ⟨rfl, h2, hk2⟩
        have Hpr2 := Lib.hid (Hpr.out.left h2.n0 hk2)
        clear h2 hk2 Hdo Hpr
        obtain ⟨a0, a1, a2, a3⟩ := HAct.out _ Hpr2.out.below
        have Hmo := Lib.hid (ref_model Hpr2.out.ref Hsm.out.ok Hpr2.out.below.size Hsm.out.most (Nat.le_trans Hsm.out.misses (by omega)) (fun x hx => Nat.le_trans (Hsm.out.pins x hx) (by omega)) a f1 f2)
        unfold actV at Hmo
        generalize (does c a).1 = ER at *
        generalize (does c a).2 = c' at *
        go_wp2_with fail
        refine Hmo.out.mono ?_
        rintro e y3 ⟨rfl, hm3⟩
        obtain ⟨v', hpr3⟩ := Hpr2.out.right hm3
        have Hpr3 := Lib.hid hpr3
        obtain ⟨-, -, r2, -, -⟩ := hpr3.ref.cells
        have HMi := Lib.hid (fun W (h : Below y3.heap.size y3 W) => live_Misses (hpr3.live.call h).1)
        clear hm3 hpr3 Hmo Hpr2
        go_wp2
        go_region_held3 (fun w' => Below y3.heap.size y3 w' ∧ w'.cell? ⟨rb, 2, none⟩ = some (.int .i64 ((c'.misses : Nat) : Int)))
          (first | exact h1_drew r2 | assumption)
          (first
            | (go_at_call 16
               refine (HMi.out _ (drewN_plays (Below.refl _ _) 1)).mono ?_
               rintro e wy ⟨rfl, rfl⟩))
        all_goals
          have Hpr4 := Lib.hid (show Pair w (y3.drewN 1) cb rb v' c' c' (N + 1) from by
            have h := Hpr3.out
            exact h.left (h.live.call (drewN_plays (Below.refl _ _) 1)).1 (h.live.call (drewN_plays (Below.refl _ _) 1)).2)
          go_wp2
          go_roundw
          case rel => exact ⟨k + 1, N + 1, v', c', by omega, by go_num, by omega, Hpr4.out⟩
          case measure => simp [intOf]; omega
      · obtain rfl : k = l.length := by omega
        have hsm := Hpr.out.live.small
        have hcl : c.l.length ≤ 1024 := Nat.le_trans hsm.ok.many hsm.most
        have hD := dirty_len hsm.ok hsm.most
        have Hsm := Lib.hid hsm
        clear hsm
        go_wp2_with fail
        refine (live_Blocks Hpr.out.live (by omega)).mono ?_
        rintro e z1 ⟨bv, rfl, hr, -, hb1, -⟩
        have Hr := Lib.hid hr
        have Hpr1 := Lib.hid (Hpr.out.left (Hpr.out.live.call hb1).1 (Hpr.out.live.call hb1).2)
        clear hr hb1 Hpr
        go_wp2_with fail
        refine (live_Dirty Hpr1.out.live).mono ?_
        rintro e z2 ⟨dv, rfl, hdr, -, hb2, -⟩
        have Hdr := Lib.hid hdr
        have Hr2 := Lib.hid (Hr.out.below hb2)
        have Hpr2 := Lib.hid (Hpr1.out.left (Hpr1.out.live.call hb2).1 (Hpr1.out.live.call hb2).2)
        clear hdr hb2 Hpr1 Hr
        go_wp2_with fail
        refine (ref_Dirty Hpr2.out.ref Hsm.out.ok Hsm.out.most).mono ?_
        rintro e z3 ⟨ev, rfl, her, hb3⟩
        have Her := Lib.hid her
        have Hdr3 := Lib.hid (Hdr.out.below hb3)
        have Hr3 := Lib.hid (Hr2.out.below hb3)
        have hrf := Hpr2.out.ref.below hb3
        have Hbz := Lib.hid (step_call Hpr2.out.below hb3)
        obtain ⟨oar, cpr, rfl⟩ := hrf.form
        obtain ⟨r0, -, -, -, -⟩ := hrf.cells
        have Hrf := Lib.hid hrf
        clear her hb3 Hpr2 Hdr Hr2 hrf
        generalize (dirtyC c).map wrOf = D at *
        obtain ⟨oab, cpb, rfl⟩ := row_form Hr3.out
        obtain ⟨oad, cpd, rfl, -, -⟩ := Hdr3.out.form
        obtain ⟨oae, cpe, rfl, -, -⟩ := Her.out.form
        simp only [List.length_map] at *
        go_wp2
        go_loopw [23] (fun kv wr => ∃ j : Nat, j ≤ c.l.length ∧ kv = .int .i64 j ∧ Below z3.heap.size z3 wr) (fun kv _ => c.l.length - (intOf kv).toNat)
        case atStart => exact ⟨0, by omega, rfl, Below.refl _ _⟩
        case round =>
          obtain ⟨j, hj, rfl, hbj⟩ := hrel
          have Hbj := Lib.hid hbj
          have r0 := cell_call hbj r0
          clear hbj
          by_cases hjl : j < c.l.length
          · obtain ⟨gr, rfl, -, e0, -, -, -⟩ := (Hrf.out.below Hbj.out).at hjl
            have hr3 : Row z3 (.slice oab (c.l.map Kd.pos).length cpb) ((c.l.map Kd.pos).map (Value.int .i64)) := by rw [List.length_map]; exact Hr3.out
            obtain ⟨gb, ob, rfl, hbc⟩ := row_cells hr3 (show j < (c.l.map Kd.pos).length by simpa using hjl)
            clear hr3
            have hbc2 : wr.cell? ⟨gb, ob + j, none⟩ = some (.int .i64 c.l[j].pos) := by
              have := cell_call Hbj.out hbc
              simpa using this
            clear hbc
            generalize c.l[j] = x at *
            go_wp2
            go_quiet (fail)
            go_wp2
            go_roundw
            case rel => exact ⟨j + 1, by omega, by go_num, drewN_plays Hbj.out _⟩
            case measure => simp [intOf]; omega
          · obtain rfl : j = c.l.length := by omega
            clear r0
            go_wp2
            go_loopw [24] (fun kv wr => ∃ j : Nat, j ≤ D.length ∧ kv = .int .i64 j ∧ Below z3.heap.size z3 wr) (fun kv _ => D.length - (intOf kv).toNat)
            case atStart => exact ⟨0, by omega, rfl, Hbj.out⟩
            case round =>
              obtain ⟨i, hi', rfl, hbi⟩ := hrel
              have Hbi := Lib.hid hbi
              clear hbi
              by_cases hil : i < D.length
              · obtain ⟨gd, od, rfl, hgd, hcd⟩ := (Hdr3.out.below Hbi.out).at hil
                obtain ⟨ge, oe, rfl, hge, hce⟩ := (Her.out.below Hbi.out).at hil
                have d0 : wr.cell? ⟨gd, od + i * 2, none⟩ = some (.int .i64 D[i].1) := hcd 0 _ rfl
                have d1 : wr.cell? ⟨gd, od + i * 2 + 1, none⟩ = some (.string (B D[i].2)) := hcd 1 _ rfl
                have e0 : wr.cell? ⟨ge, oe + i * 2, none⟩ = some (.int .i64 D[i].1) := hce 0 _ rfl
                have e1 : wr.cell? ⟨ge, oe + i * 2 + 1, none⟩ = some (.string (B D[i].2)) := hce 1 _ rfl
                clear hcd hce
                generalize D[i] = p at *
                go_wp2
                go_quiet (fail)
                go_wp2
                go_roundw
                case rel => exact ⟨i + 1, by omega, by go_num, drewN_plays Hbi.out _⟩
                case measure => simp [intOf]; omega
              · obtain rfl : i = D.length := by omega
                go_wp2
                go_ret
                exact ⟨rfl, step_call Hbz.out Hbi.out⟩
  · have hR := ref_New most w1
    rw [decide_eq_false hgood] at hR
    go_wp2_with fail
    refine (cch_New_bad w1 _ most (by omega)).mono ?_
    rintro e w1' ⟨rfl, rfl⟩
    go_wp2_with fail
    refine hR.mono ?_
    rintro e w2 ⟨rfl, hw2⟩
    have Hb2 : Hid (Below w.heap.size w w2) := Lib.hid (by rw [hw2]; exact step_new Hb1.out _)
    clear hR hw2
    go_wp2_with fail
    have hP := law_pick most 8 hmost (by omega) (by omega) w2
    rw [hm] at hP
    refine hP.mono ?_
    rintro e w2' ⟨rfl, rfl⟩
    clear hP hm
    go_wp2_with fail
    have hN := live_New (w0 := w) (w := w2) (1 + m) (by omega) (by omega) none 0 trivial (fun _ h => by cases h) Hb2.out
    rw [show ((1 + m : Nat) : Int) = 1 + (m : Int) by omega] at hN
    refine hN.mono ?_
    rintro e w4 ⟨cb, rfl, h, -⟩
    have Hpr0 := Lib.hid (pair_new h)
    clear hN h
    go_wp2_with fail
    refine (ref_New _ w4).mono ?_
    rintro e w5 ⟨rfl, hw5⟩
    rw [show (((1 + m : Nat) : Int)) = 1 + (m : Int) by omega, ← hw5] at Hpr0
    generalize w4.heap.size = rb at *
    clear hw5
    go_wp2
    go_loopw [15] (fun i wr => ∃ (k N : Nat) (v : Value) (c : Ch), k ≤ l.length ∧ i = .int .i64 k ∧ N ≤ 10 + k ∧ Pair w wr cb rb v c c N) (fun i _ => l.length - (intOf i).toNat)
    case atStart => exact ⟨0, _, _, _, by omega, rfl, by omega, Hpr0.out⟩
    case round =>
      obtain ⟨k, N, v, c, hk, rfl, hN, hpr⟩ := hrel
      have Hpr := Lib.hid hpr
      clear hpr
      by_cases hlt : k < l.length
      · obtain ⟨b, off, rfl, a0, a1, a2, a3⟩ := (Hacts.out.below Hpr.out.below).at hlt
        have HAct := Lib.hid (fun W (hb : Below w.heap.size w W) => acts_at3 (Hacts.out.below hb) hlt)
        unfold ActAt6 at HAct
        obtain ⟨f1, f2⟩ := Hfit.out l[k] (List.getElem_mem _)
        generalize l[k] = a at *
        have hsm := Hpr.out.live.small
        have Hsm := Lib.hid hsm
        have Hdo := Lib.hid (live_does Hpr.out.live (by omega) a f1 f2)
        unfold actV at Hdo
        clear hsm
        go_wp2_with fail
        refine Hdo.out.mono ?_
        rintro e y2 ⟨rfl, h2, hk2⟩
        have Hpr2 := Lib.hid (Hpr.out.left h2.n0 hk2)
        clear h2 hk2 Hdo Hpr
        obtain ⟨a0, a1, a2, a3⟩ := HAct.out _ Hpr2.out.below
        have Hmo := Lib.hid (ref_model Hpr2.out.ref Hsm.out.ok Hpr2.out.below.size Hsm.out.most (Nat.le_trans Hsm.out.misses (by omega)) (fun x hx => Nat.le_trans (Hsm.out.pins x hx) (by omega)) a f1 f2)
        unfold actV at Hmo
        generalize (does c a).1 = ER at *
        generalize (does c a).2 = c' at *
        go_wp2_with fail
        refine Hmo.out.mono ?_
        rintro e y3 ⟨rfl, hm3⟩
        obtain ⟨v', hpr3⟩ := Hpr2.out.right hm3
        have Hpr3 := Lib.hid hpr3
        obtain ⟨-, -, r2, -, -⟩ := hpr3.ref.cells
        have HMi := Lib.hid (fun W (h : Below y3.heap.size y3 W) => live_Misses (hpr3.live.call h).1)
        clear hm3 hpr3 Hmo Hpr2
        go_wp2
        go_region_held3 (fun w' => Below y3.heap.size y3 w' ∧ w'.cell? ⟨rb, 2, none⟩ = some (.int .i64 ((c'.misses : Nat) : Int)))
          (first | exact h1_drew r2 | assumption)
          (first
            | (go_at_call 16
               refine (HMi.out _ (drewN_plays (Below.refl _ _) 1)).mono ?_
               rintro e wy ⟨rfl, rfl⟩))
        all_goals
          have Hpr4 := Lib.hid (show Pair w (y3.drewN 1) cb rb v' c' c' (N + 1) from by
            have h := Hpr3.out
            exact h.left (h.live.call (drewN_plays (Below.refl _ _) 1)).1 (h.live.call (drewN_plays (Below.refl _ _) 1)).2)
          go_wp2
          go_roundw
          case rel => exact ⟨k + 1, N + 1, v', c', by omega, by go_num, by omega, Hpr4.out⟩
          case measure => simp [intOf]; omega
      · obtain rfl : k = l.length := by omega
        have hsm := Hpr.out.live.small
        have hcl : c.l.length ≤ 1024 := Nat.le_trans hsm.ok.many hsm.most
        have hD := dirty_len hsm.ok hsm.most
        have Hsm := Lib.hid hsm
        clear hsm
        go_wp2_with fail
        refine (live_Blocks Hpr.out.live (by omega)).mono ?_
        rintro e z1 ⟨bv, rfl, hr, -, hb1, -⟩
        have Hr := Lib.hid hr
        have Hpr1 := Lib.hid (Hpr.out.left (Hpr.out.live.call hb1).1 (Hpr.out.live.call hb1).2)
        clear hr hb1 Hpr
        go_wp2_with fail
        refine (live_Dirty Hpr1.out.live).mono ?_
        rintro e z2 ⟨dv, rfl, hdr, -, hb2, -⟩
        have Hdr := Lib.hid hdr
        have Hr2 := Lib.hid (Hr.out.below hb2)
        have Hpr2 := Lib.hid (Hpr1.out.left (Hpr1.out.live.call hb2).1 (Hpr1.out.live.call hb2).2)
        clear hdr hb2 Hpr1 Hr
        go_wp2_with fail
        refine (ref_Dirty Hpr2.out.ref Hsm.out.ok Hsm.out.most).mono ?_
        rintro e z3 ⟨ev, rfl, her, hb3⟩
        have Her := Lib.hid her
        have Hdr3 := Lib.hid (Hdr.out.below hb3)
        have Hr3 := Lib.hid (Hr2.out.below hb3)
        have hrf := Hpr2.out.ref.below hb3
        have Hbz := Lib.hid (step_call Hpr2.out.below hb3)
        obtain ⟨oar, cpr, rfl⟩ := hrf.form
        obtain ⟨r0, -, -, -, -⟩ := hrf.cells
        have Hrf := Lib.hid hrf
        clear her hb3 Hpr2 Hdr Hr2 hrf
        generalize (dirtyC c).map wrOf = D at *
        obtain ⟨oab, cpb, rfl⟩ := row_form Hr3.out
        obtain ⟨oad, cpd, rfl, -, -⟩ := Hdr3.out.form
        obtain ⟨oae, cpe, rfl, -, -⟩ := Her.out.form
        simp only [List.length_map] at *
        go_wp2
        go_loopw [23] (fun kv wr => ∃ j : Nat, j ≤ c.l.length ∧ kv = .int .i64 j ∧ Below z3.heap.size z3 wr) (fun kv _ => c.l.length - (intOf kv).toNat)
        case atStart => exact ⟨0, by omega, rfl, Below.refl _ _⟩
        case round =>
          obtain ⟨j, hj, rfl, hbj⟩ := hrel
          have Hbj := Lib.hid hbj
          have r0 := cell_call hbj r0
          clear hbj
          by_cases hjl : j < c.l.length
          · obtain ⟨gr, rfl, -, e0, -, -, -⟩ := (Hrf.out.below Hbj.out).at hjl
            have hr3 : Row z3 (.slice oab (c.l.map Kd.pos).length cpb) ((c.l.map Kd.pos).map (Value.int .i64)) := by rw [List.length_map]; exact Hr3.out
            obtain ⟨gb, ob, rfl, hbc⟩ := row_cells hr3 (show j < (c.l.map Kd.pos).length by simpa using hjl)
            clear hr3
            have hbc2 : wr.cell? ⟨gb, ob + j, none⟩ = some (.int .i64 c.l[j].pos) := by
              have := cell_call Hbj.out hbc
              simpa using this
            clear hbc
            generalize c.l[j] = x at *
            go_wp2
            go_quiet (fail)
            go_wp2
            go_roundw
            case rel => exact ⟨j + 1, by omega, by go_num, drewN_plays Hbj.out _⟩
            case measure => simp [intOf]; omega
          · obtain rfl : j = c.l.length := by omega
            clear r0
            go_wp2
            go_loopw [24] (fun kv wr => ∃ j : Nat, j ≤ D.length ∧ kv = .int .i64 j ∧ Below z3.heap.size z3 wr) (fun kv _ => D.length - (intOf kv).toNat)
            case atStart => exact ⟨0, by omega, rfl, Hbj.out⟩
            case round =>
              obtain ⟨i, hi', rfl, hbi⟩ := hrel
              have Hbi := Lib.hid hbi
              clear hbi
              by_cases hil : i < D.length
              · obtain ⟨gd, od, rfl, hgd, hcd⟩ := (Hdr3.out.below Hbi.out).at hil
                obtain ⟨ge, oe, rfl, hge, hce⟩ := (Her.out.below Hbi.out).at hil
                have d0 : wr.cell? ⟨gd, od + i * 2, none⟩ = some (.int .i64 D[i].1) := hcd 0 _ rfl
                have d1 : wr.cell? ⟨gd, od + i * 2 + 1, none⟩ = some (.string (B D[i].2)) := hcd 1 _ rfl
                have e0 : wr.cell? ⟨ge, oe + i * 2, none⟩ = some (.int .i64 D[i].1) := hce 0 _ rfl
                have e1 : wr.cell? ⟨ge, oe + i * 2 + 1, none⟩ = some (.string (B D[i].2)) := hce 1 _ rfl
                clear hcd hce
                generalize D[i] = p at *
                go_wp2
                go_quiet (fail)
                go_wp2
                go_roundw
                case rel => exact ⟨i + 1, by omega, by go_num, drewN_plays Hbi.out _⟩
                case measure => simp [intOf]; omega
              · obtain rfl : i = D.length := by omega
                go_wp2
                go_ret
                exact ⟨rfl, step_call Hbz.out Hbi.out⟩
end Go.Proofs.Ytikkdhfbihejbaa
