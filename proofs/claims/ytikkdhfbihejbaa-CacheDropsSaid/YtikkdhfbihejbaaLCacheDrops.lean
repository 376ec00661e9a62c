/- The law CacheDrops returns true for every input. No conditions. -/
import Derived.Test.YtikkdhfbihejbaaCchO
namespace Go.Proofs.Ytikkdhfbihejbaa
open Go.RowKit Go.Cch Go.Lib Go.Shelf
attribute [local go_sem] Oper.semAt_some

theorem drewN_drops {K : Nat} {w w' : World} (h : Below K w w') (n : Nat) : Below K w (w'.drewN n) := ⟨h.os, h.tape, h.output, h.size, h.block⟩
theorem acts_at2 {w : World} {b off c : Nat} {l : List Cch.Act} (h : Acts6 w (.slice (some ⟨b, off, none⟩) l.length c) l) {k : Nat} (hk : k < l.length) : ActAt6 w b (off + k * 4) l[k] := by
  obtain ⟨b', off', h1, h2⟩ := h.at hk
  simp only [Option.some.injEq, Addr.mk.injEq, and_true] at h1
  rw [h1.1, h1.2]; exact h2
theorem has_dec2 (l : List Kd) (i : Int) : decide (i ∈ l.map Kd.pos) = hasL l i := by
  cases h : hasL l i with
  | true =>
    obtain ⟨x, hx, e⟩ := has_iff.1 h
    exact decide_eq_true (List.mem_map.2 ⟨x, hx, e⟩)
  | false => exact decide_eq_false (not_has h)
theorem dirty_len {c : Ch} (h1 : c.Ok) (h2 : c.most ≤ 1024) : ((dirtyC c).map wrOf).length ≤ 1024 := by
  rw [List.length_map, (dirty_perm c).length_eq]
  exact Nat.le_trans (List.length_filter_le _ _) (Nat.le_trans h1.many h2)
theorem has_at2 {c : Ch} {b : Bool} (h1 : c.Ok) (h2 : c.most ≤ 1024) {p : Int} (h : hasL c.l p = b) (v : Value) (W : World) (hr : Row W v ((c.l.map Kd.pos).map (Value.int .i64))) :
    Calls Try.prog 17 #[v, .int .i64 p] W fun e w' => e = .returned (.bool b) ∧ W = w' := by
  have := law_has (c.l.map Kd.pos) p v W hr (by rw [List.length_map]; have := h1.many; omega)
  rw [has_dec2, h] at this
  exact this
set_option maxRecDepth 100000 in
set_option maxHeartbeats 12800000 in
theorem walk_CacheDrops (most : Int) (v : Value) (l : List Cch.Act) (w : World) (hmost : (Lit.int .i64 most).wf = true) (hacts : Acts6 w v l) (hfit : ∀ a ∈ l, Fit6 a) (hlen : l.length ≤ maxLen) :
    Calls Try.prog 8 #[.int .i64 most, v] w fun e w' => e = .returned (.bool true) ∧ Below w.heap.size w w' := by
  have Hacts := Lib.hid hacts
  have Hfit := Lib.hid hfit
  obtain ⟨oa, cp, rfl⟩ := hacts.form
  have hlen' : l.length ≤ 9223372036854775807 := by unfold maxLen at hlen; omega
  clear hacts hfit hlen
  go_enter Try.func8, Try.ntmps8
  go_wp2_with fail
  refine (law_shown6 w).mono ?_
  rintro e w1 ⟨rfl, hb1⟩
  have Hb1 := Lib.hid hb1
  clear hb1
  by_cases hbig : 200 < l.length
  · have hz : (200 : Int) < (l.length : Int) := by omega
    clear hbig
    go_wp2
    go_ret
    exact ⟨rfl, Hb1.out⟩
  have hz : ¬ (200 : Int) < (l.length : Int) := by omega
  obtain ⟨m, hm, hm8⟩ : ∃ m : Nat, pickI most 8 = (m : Int) ∧ m < 8 := by
    have := pick_range most 8 (by omega)
    exact ⟨(pickI most 8).toNat, by omega, by omega⟩
  go_wp2_with fail
  have hP := law_pick most 8 hmost (by omega) (by omega) w1
  rw [hm] at hP
  refine hP.mono ?_
  rintro e w2 ⟨rfl, rfl⟩
  clear hP hm
  go_wp2_with fail
  have hN := live_New (w0 := w) (w := w1) (1 + m) (by omega) (by omega) none 0 trivial (fun _ h => by cases h) Hb1.out
  rw [show ((1 + m : Nat) : Int) = 1 + (m : Int) by omega] at hN
  refine hN.mono ?_
  rintro e w3 ⟨cb, rfl, h, -⟩
  have H3 := Lib.hid h
  clear hN h
  go_wp2_with fail
  have hN := live_New (w0 := w3) (w := w3) (1 + m) (by omega) (by omega) none 0 trivial (fun _ h => by cases h) (Below.refl _ _)
  rw [show ((1 + m : Nat) : Int) = 1 + (m : Int) by omega] at hN
  refine hN.mono ?_
  rintro e w4 ⟨db, rfl, h, hb4⟩
  have Htw0 := Lib.hid (two_new H3.out hb4 h (Nat.le_refl _))
  clear hN h H3 hb4
  go_wp2
  go_loopw [11] (fun i wr => ∃ (k N : Nat) (c : Ch), k ≤ l.length ∧ i = .int .i64 k ∧ N ≤ 10 + 2 * k ∧ Two w wr cb c db c N (fun _ => False)) (fun i _ => l.length - (intOf i).toNat)
  case atStart => exact ⟨0, _, _, by omega, rfl, by omega, Htw0.out⟩
  case round =>
    obtain ⟨k, N, c, hk, rfl, hN, htw⟩ := hrel
    have Htw := Lib.hid htw
    clear htw
    by_cases hlt : k < l.length
    · obtain ⟨b, off, rfl, a0, a1, a2, a3⟩ := (Hacts.out.below Htw.out.below).at hlt
      have HAct := Lib.hid (fun W (hb : Below w.heap.size w W) => acts_at2 (Hacts.out.below hb) hlt)
      unfold ActAt6 at HAct
      obtain ⟨f1, f2⟩ := Hfit.out l[k] (List.getElem_mem _)
      generalize l[k] = a at *
      obtain ⟨R1, -, hl1, hcl1⟩ := Htw.out.left
      have Hdo := Lib.hid (live_does hl1 (by omega) a f1 f2)
      unfold actV at Hdo
      have Hcl1 := Lib.hid hcl1
      clear hl1 hcl1
      go_wp2_with fail
      refine Hdo.out.mono ?_
      rintro e y2 ⟨rfl, h2, hk2⟩
      have Htw2 := Lib.hid (Hcl1.out _ _ _ (Nat.le_succ _) h2.n0 hk2)
      clear h2 hk2 Hdo Hcl1
      obtain ⟨a0, a1, a2, a3⟩ := HAct.out _ Htw2.out.below
      obtain ⟨R2, -, hl2, hcl2⟩ := Htw2.out.right
      have Hdo2 := Lib.hid (live_does (hl2.mono (Nat.le_refl _)) (by omega) a f1 f2)
      unfold actV at Hdo2
      have Hcl2 := Lib.hid hcl2
      clear hl2 hcl2
      go_wp2_with fail
      refine Hdo2.out.mono ?_
      rintro e y3 ⟨rfl, h3, hk3⟩
      have Htw3 := Lib.hid (Hcl2.out _ _ _ (Nat.le_succ _) h3.n0 hk3)
      clear h3 hk3 Hdo2 Hcl2
      go_wp2
      go_roundw
      case rel => exact ⟨k + 1, N + 1 + 1, _, by omega, by go_num, by omega, Htw3.out⟩
      case measure => simp [intOf]; omega
    · obtain rfl : k = l.length := by omega
      obtain ⟨R1, hR1, hl1, -⟩ := Htw.out.left
      have hsm := hl1.small
      have hkeys := hl1.keys
      have Hkeys := Lib.hid hkeys
      have Hsm := Lib.hid hsm
      have HDi := Lib.hid (live_Dirty2 hl1)
      clear hl1 hR1 hsm hkeys R1
      go_wp2_with fail
      refine HDi.out.mono ?_
      rintro e z1 ⟨dv, rfl, hdr, hfr, hbz⟩
      generalize hDe : (dirtyC c).map wrOf = D at *
      have HDe := Lib.hid hDe
      clear hDe
      obtain ⟨do', dc, rfl, -, -⟩ := hdr.form
      have Htz := Lib.hid ((Htw.out.more hbz _ hfr).less (R' := fun k => (Value.slice do' D.length dc).ownBlock = some k) (fun k hk => .inr hk))
      have Hdr := Lib.hid hdr
      clear hdr hfr hbz HDi Htw
      obtain ⟨R1, hR1, hl1, hcl1⟩ := Htz.out.left
      have HDr := Lib.hid (live_Drop hl1)
      have Hcl1 := Lib.hid hcl1
      clear hl1 hcl1
      go_wp2_with fail
      refine HDr.out.mono ?_
      rintro e z2 ⟨rfl, h2, hk2⟩
      have Ht2 := Lib.hid (Hcl1.out _ _ _ (Nat.le_succ _) h2.n0 hk2)
      have Hdr2 := Lib.hid (Hdr.out.keep hk2.1 (fun k hk => hk2.2 k (hR1 k hk)))
      clear h2 hk2 HDr Hcl1 hR1 Htz Hdr
      obtain ⟨R2, hR2, hl2, hcl2⟩ := Ht2.out.right
      have HCl := Lib.hid (live_Clean hl2)
      have Hcl2 := Lib.hid hcl2
      clear hl2 hcl2
      go_wp2_with fail
      refine HCl.out.mono ?_
      rintro e z3 ⟨rfl, h3, hk3⟩
      have Ht3 := Lib.hid (Hcl2.out _ _ _ (Nat.le_succ _) h3.n0 hk3)
      have Hdr3 := Lib.hid (Hdr2.out.keep hk3.1 (fun k hk => hk3.2 k (hR2 k hk)))
      clear h3 hk3 HCl Hcl2 hR2 Ht2 Hdr2
      obtain ⟨R3, -, hl3, -⟩ := Ht3.out.left
      have HD3 := live_Dirty2 hl3
      rw [drop_none, List.map_nil] at HD3
      have HD3 := Lib.hid HD3
      clear hl3
      go_wp2_with fail
      refine HD3.out.mono ?_
      rintro e z4 ⟨nv, rfl, hnr, -, hb4⟩
      obtain ⟨no, nc, rfl, -, -⟩ := hnr.form
      have Ht4 := Lib.hid (Ht3.out.call hb4)
      have Hdr4 := Lib.hid (Hdr3.out.below hb4)
      clear hnr hb4 HD3 Ht3 Hdr3
      obtain ⟨R4, -, hl4, -⟩ := Ht4.out.right
      have HD4 := live_Dirty2 hl4
      rw [clean_none, List.map_nil] at HD4
      have HD4 := Lib.hid HD4
      clear hl4
      go_wp2_with fail
      refine HD4.out.mono ?_
      rintro e z5 ⟨nv2, rfl, hnr, -, hb5⟩
      obtain ⟨no2, nc2, rfl, -, -⟩ := hnr.form
      have Ht5 := Lib.hid (Ht4.out.call hb5)
      have Hdr5 := Lib.hid (Hdr4.out.below hb5)
      clear hnr hb5 HD4 Ht4 Hdr4
      have hDlen : D.length ≤ 1024 := by rw [← HDe.out]; exact dirty_len Hsm.out.ok Hsm.out.most
      have HokC := Lib.hid (drop_ok Hsm.out.ok)
      have HokD := Lib.hid (clean_ok Hsm.out.ok)
      have Hgone := Lib.hid (fun p (hp : p ∈ D) => show hasL (dropC c).l p.1 = false by
        rw [← HDe.out] at hp
        obtain ⟨x, hx, rfl⟩ := List.mem_map.1 hp
        exact drop_gone Hsm.out.ok hx)
      have Hkept := Lib.hid (fun p (hp : p ∈ D) => show hasL (cleanC c).l p.1 = true by
        rw [← HDe.out] at hp
        obtain ⟨x, hx, rfl⟩ := List.mem_map.1 hp
        exact clean_kept hx)
      have Hholds := Lib.hid (fun p (hp : p ∈ D) => show Holds (cleanC c) p.1 p.2 by
        rw [← HDe.out] at hp
        obtain ⟨x, hx, rfl⟩ := List.mem_map.1 hp
        exact clean_holds hx)
      have Hkey := Lib.hid (fun p (hp : p ∈ D) => show keyI p.1 by
        rw [← HDe.out] at hp
        obtain ⟨x, hx, rfl⟩ := List.mem_map.1 hp
        exact Hkeys.out x (dirty_mem.1 hx).1)
      have hmC : (dropC c).most ≤ 1024 := Hsm.out.most
      have hmD : (cleanC c).most ≤ 1024 := Hsm.out.most
      clear Hkeys Hsm HDe
      generalize dropC c = c1 at *
      generalize cleanC c = c2 at *
      have HM := Lib.hid (show N.succ.succ ≤ 412 by omega)
      generalize N.succ.succ = M at *
      go_wp2
      go_loopw [13] (fun kv wr => ∃ j : Nat, j ≤ D.length ∧ kv = .int .i64 j ∧ Below z5.heap.size z5 wr) (fun kv _ => D.length - (intOf kv).toNat)
      case atStart => exact ⟨0, by omega, rfl, Below.refl _ _⟩
      case round =>
        obtain ⟨j, hj, rfl, hbj⟩ := hrel
        have Hbj := Lib.hid hbj
        clear hbj
        by_cases hjl : j < D.length
        · obtain ⟨g, og, rfl, hgl, hcell⟩ := (Hdr5.out.below Hbj.out).at hjl
          have e0 : wr.cell? ⟨g, og + j * 2, none⟩ = some (.int .i64 D[j].1) := hcell 0 _ rfl
          have HhC := Lib.hid (has_at2 HokC.out hmC (Hgone.out _ (List.getElem_mem hjl)))
          have HhD := Lib.hid (has_at2 HokD.out hmD (Hkept.out _ (List.getElem_mem hjl)))
          clear hcell
          generalize D[j] = p at *
          have Htq := Lib.hid (Ht5.out.call Hbj.out)
          go_wp2
          go_region_held3 (fun w' => w'.cell? ⟨g, og + j * 2, none⟩ = some (.int .i64 p.1))
            (first | assumption | exact cell_call hbv (by assumption))
            (first
              | (go_at_call 15
                 (fail_if_success have := HRx)
                 obtain ⟨Rq, -, hlq, -⟩ := (Htq.out.call (drewN_drops (Below.refl wr.heap.size wr) 1)).left
                 refine (live_Blocks hlq (by have := HM.out; omega)).mono ?_
                 rintro e wx ⟨bv, rfl, hr, -, hbv, -⟩
                 have HRx := Lib.hid hr
                 have HBx := Lib.hid (step_call (drewN_drops (Below.refl wr.heap.size wr) 1) hbv)
                 clear hr hlq)
              | (go_at_call 17
                 (fail_if_success have := HRz)
                 refine (HhC.out _ _ HRx.out).mono ?_
                 rintro e wy ⟨rfl, rfl⟩)
              | (go_at_call 15
                 obtain ⟨Rq, -, hlq, -⟩ := (Htq.out.call HBx.out).right
                 refine (live_Blocks hlq (by have := HM.out; omega)).mono ?_
                 rintro e wz ⟨bv2, rfl, hr2, -, hbv, -⟩
                 have HRz := Lib.hid hr2
                 have HBz := Lib.hid (step_call HBx.out hbv)
                 clear hr2 hlq)
              | (go_at_call 17
                 refine (HhD.out _ _ HRz.out).mono ?_
                 rintro e wy ⟨rfl, rfl⟩))
          all_goals
            have Hbx2 := Lib.hid (step_call Hbj.out HBz.out)
            go_wp2
            go_roundw
            case rel => exact ⟨j + 1, by omega, by go_num, Hbx2.out⟩
            case measure => simp [intOf]; omega
        · obtain rfl : j = D.length := by omega
          have Ht6 := Lib.hid (Ht5.out.call Hbj.out)
          have Hdr6 := Lib.hid (Hdr5.out.below Hbj.out)
          clear Ht5 Hdr5 Hbj HokC Hgone Hkept
          go_wp2
          go_loopw [14] (fun kv wr => ∃ (j M' : Nat) (cd : Ch), j ≤ D.length ∧ kv = .int .i64 j ∧ M' ≤ M + j ∧ (∀ p ∈ D, Holds cd p.1 p.2) ∧ WrRow wr (.slice do' D.length dc) D ∧ Two w wr cb c1 db cd M' (fun k => (Value.slice do' D.length dc).ownBlock = some k)) (fun kv _ => D.length - (intOf kv).toNat)
          case atStart => exact ⟨0, M, _, by omega, rfl, by omega, Hholds.out, Hdr6.out, Ht6.out⟩
          case round =>
            obtain ⟨i, M', cd, hi', rfl, hM', hho, hdr, htw⟩ := hrel
            have Hho := Lib.hid hho
            have Hdr7 := Lib.hid hdr
            have Htw7 := Lib.hid htw
            clear hho hdr htw
            by_cases hil : i < D.length
            · obtain ⟨g, og, rfl, hgl, hcell⟩ := Hdr7.out.at hil
              have e0 : wr.cell? ⟨g, og + i * 2, none⟩ = some (.int .i64 D[i].1) := hcell 0 _ rfl
              have e1 : wr.cell? ⟨g, og + i * 2 + 1, none⟩ = some (.string (B D[i].2)) := hcell 1 _ rfl
              obtain ⟨R7, hR7, hl7, hcl7⟩ := Htw7.out.right
              have hgs := holds_get hl7.small.ok (Hho.out _ (List.getElem_mem hil)) (if srcE D[i].1 = 0 then srcT D[i].1 else []) (srcE D[i].1)
              have hG : Calls Try.prog 12 #[.pointer (some ⟨db, 0, none⟩), .int .i64 D[i].1] wr fun e w' => e = .returned (.tuple #[.string (B (askG cd D[i].1).1.1), .int .i64 (askG cd D[i].1).1.2]) ∧ LiveK w w' none (if hasL cd.l D[i].1 then 0 else 0 + 1) db (askG cd D[i].1).2 (M' + 1) R7 ∧ Keeps R7 wr w' := live_Get hl7 (by have := HM.out; omega) D[i].1 (Hkey.out _ (List.getElem_mem hil))
              have hg1 : (askG cd D[i].1).1 = (D[i].2, 0) := hgs.1
              rw [hg1] at hG
              have Hho2 := Lib.hid (show ∀ p ∈ D, Holds (askG cd D[i].1).2 p.1 p.2 from fun p hp => hgs.2 _ _ (Hho.out p hp))
              have HG := Lib.hid hG
              have Hcl7 := Lib.hid hcl7
              clear hgs hG hg1 hl7 hcl7 hcell
              generalize (askG cd D[i].1).2 = cd' at *
              generalize D[i] = p at *
              go_wp2_with fail
              refine HG.out.mono ?_
              rintro e y1 ⟨rfl, h8, hk8⟩
              have Htw8 := Lib.hid (Hcl7.out _ _ _ (Nat.le_succ _) h8.n0 hk8)
              have e1' := hk8.cell (hR7 g rfl) e1
              have Hdr8 := Lib.hid (Hdr7.out.keep hk8.1 (fun k hk => hk8.2 k (hR7 k hk)))
              clear h8 hk8 HG Hcl7
              go_wp2
              go_roundw
              case rel => exact ⟨i + 1, M' + 1, _, by omega, by go_num, by omega, Hho2.out, Hdr8.out, Htw8.out⟩
              case measure => simp [intOf]; omega
            · obtain rfl : i = D.length := by omega
              go_wp2
              go_ret
              exact ⟨rfl, Htw7.out.below⟩
end Go.Proofs.Ytikkdhfbihejbaa
