/- The law FrameHeads returns true for every number, writes and data. Condition: numbers and lengths fit an int. -/
import Derived.Test.YtnljmhdaloolgaaDoorFrmL
import Derived.Deep.QuietTactic
import Derived.BigQuiet
import Derived.RegionTactic
import Derived.ChangeAlike
namespace Go.Proofs.YtnljmhdaloolgaaDoor
open Go.RowKit Go.Wir Go.Blk Go.Frm

/-- The writes whose first k have other data. -/
def datK (l : List (Nat × Txt)) (t : Txt) (k : Nat) : List (Nat × Txt) := (l.take k).map (fun p => (p.1, t)) ++ l.drop k
theorem datK_zero (l : List (Nat × Txt)) (t : Txt) : datK l t 0 = l := rfl
theorem datK_all (l : List (Nat × Txt)) (t : Txt) : datK l t l.length = l.map fun p => (p.1, t) := by
  unfold datK; rw [List.take_length, List.drop_length, List.append_nil]
theorem datK_length (l : List (Nat × Txt)) (t : Txt) (k : Nat) (_ : k ≤ l.length) : (datK l t k).length = l.length := by
  unfold datK; rw [List.length_append, List.length_map, List.length_take, List.length_drop]; omega
theorem datK_cells (l : List (Nat × Txt)) (t : Txt) (k : Nat) (h : k < l.length) : (wrCells (datK l t k)).set (k * 2 + 1) (.string (B t)) = wrCells (datK l t (k + 1)) := by
  have hl : (wrCells ((l.take k).map fun p => (p.1, t))).length = k * 2 := by
    rw [wrCells_length, List.length_map, List.length_take, Nat.min_eq_left (by omega)]
  unfold datK
  rw [List.drop_eq_getElem_cons h, List.take_succ_eq_append_getElem h, List.map_append, wrCells_append, wrCells_append, wrCells_append, List.set_append_right _ _ (by omega), hl, show k * 2 + 1 - k * 2 = 1 by omega, List.append_assoc]
  congr 1
theorem own_wr_at {w : World} {base g n cap : Nat} {xs : List Value} (h : w.ownsRow base 45 2 (.slice (some ⟨g, 0, none⟩) n cap) n xs) : (∀ i, w.frozen? ⟨g, i, none⟩ = false) ∧ g < w.heap.size ∧ base ≤ g := by
  have hlt := h.lt g rfl
  rcases h.2 with ⟨h0, _⟩ | ⟨g', cap', cur, h0, hg, hh, h1, h2, h3, h4⟩
  · cases h0
  · simp only [Value.slice.injEq, Option.some.injEq, Addr.mk.injEq, and_true, true_and] at h0
    obtain ⟨rfl, rfl⟩ := h0
    exact ⟨fun i => Lib.frozen_of_heap hh i, hlt.2, hg⟩
theorem own_dat {w : World} {base g cap : Nat} {l : List (Nat × Txt)} {t : Txt} {k : Nat} (hk : k < l.length) (h : w.ownsRow base 45 2 (.slice (some ⟨g, 0, none⟩) l.length cap) l.length (wrCells (datK l t k))) :
    (w.setCell ⟨g, k * 2 + 1, none⟩ (.string (B t))).ownsRow base 45 2 (.slice (some ⟨g, 0, none⟩) l.length cap) l.length (wrCells (datK l t (k + 1))) := by
  rcases h.2 with ⟨h0, _⟩ | ⟨g', cap', cur, h0, hg, hh, h1, h2, h3, h4⟩
  · cases h0
  simp only [Value.slice.injEq, Option.some.injEq, Addr.mk.injEq, and_true, true_and] at h0
  obtain ⟨rfl, rfl⟩ := h0
  refine ⟨by rw [wrCells_length, datK_length _ _ _ (by omega)], .inr ⟨g, cap, cur.setIfInBounds (k * 2 + 1) (.string (B t)), rfl, hg, by simp [World.setCell, Array.getElem?_modify, hh], h1, h2, by simpa using h3, ?_⟩⟩
  rw [Array.toList_setIfInBounds, List.take_set, h4, datK_cells l t k hk]
theorem readL_front (t : Txt) (h : t.take 4 ≠ magicT) : headV t = (0, 0, false) := by
  unfold headV readL readB formB
  rw [decide_eq_false h]
  simp
theorem readL_size (t : Txt) (h : t.length ≠ 256) : headV t = (0, 0, false) := by
  unfold headV readL readB formB
  rw [decide_eq_false h]
  simp
theorem heads_plain (seq : Nat) (l : List Wr) (t : Txt) (hs : seq < 18446744073709551616) (h0 : 0 < l.length) (ht : t.length = 256) : ∃ H ds H2 ds2, packT seq (wholeW l) = H :: ds ∧ packE (wholeW l) = 0 ∧ H.length = 256 ∧ ds.length = (wholeN l).length ∧
    packT seq (intW ((wholeN l).map fun p => (p.1, t))) = H2 :: ds2 ∧ packE (intW ((wholeN l).map fun p => (p.1, t))) = 0 ∧ H2.length = 256 ∧ ds2.length = (wholeN l).length ∧ H2.take 248 = H.take 248 ∧ headV H2 = (seq, (wholeN l).length, true) ∧ headV (120 :: H2.drop 1) = (0, 0, false) ∧ headV (H2.take 255) = (0, 0, false) ∧ FitW (intW ((wholeN l).map fun p => (p.1, t))) := by
  have hH := packed_of seq l h0
  have hwn := wholeN_length l
  have hWl := wholeW_length l
  have hfine := whole_fine l
  have hf2 : Fine (intW ((wholeN l).map fun p => (p.1, t))) := by
    intro p hp
    unfold intW at hp
    simp only [List.map_map, List.mem_map] at hp
    obtain ⟨q, hq, rfl⟩ := hp
    have := hfine ((q.1 : Nat), q.2) (by unfold wholeW intW; exact List.mem_map.2 ⟨q, hq, rfl⟩)
    exact ⟨this.1, ht⟩
  have hl2 : (intW ((wholeN l).map fun p => (p.1, t))).length = (wholeN l).length := by rw [intW_length, List.length_map]
  have hats : ats (intW ((wholeN l).map fun p => (p.1, t))) = ats (wholeW l) := by
    unfold ats wholeW intW
    rw [List.map_map, List.map_map, List.map_map]
    rfl
  have hp2 := packT_fine seq (l := intW ((wholeN l).map fun p => (p.1, t))) (by omega) (by omega) hf2
  have hal : (ats (wholeW l)).length ≤ 48 := by rw [ats_length]; omega
  rw [hats] at hp2
  have hlen2 := headT_length seq (ats (wholeW l)) (datas (intW ((wholeN l).map fun p => (p.1, t)))) hal
  have htk := headT_take seq (ats (wholeW l)) (datas (intW ((wholeN l).map fun p => (p.1, t)))) hal
  have hrd := readL_head seq (ats (wholeW l)) (datas (intW ((wholeN l).map fun p => (p.1, t)))) hs (by rw [ats_length]; omega) hal (ats_lt hfine)
  refine ⟨_, _, _, _, hH.pack, packE_whole l h0, hH.len, by rw [hH.dlen]; omega, hp2, packE_zero.2 ⟨by omega, by omega, hf2⟩, hlen2, by rw [datas_length]; omega, by rw [htk, headT_take _ _ _ hal], ?_, ?_, ?_, fine_fit hf2⟩
  · unfold headV
    rw [hrd]
    simp only [ats_length]
    rw [hWl, hwn]
  · refine readL_front _ ?_
    intro h
    have := congrArg List.head? h
    simp [magicT] at this
  · refine readL_size _ ?_
    rw [List.length_take, hlen2]; omega
set_option maxRecDepth 100000 in
set_option maxHeartbeats 3200000 in
theorem core_FrameHeads (seq : Nat) (hs : seq < 18446744073709551616) (v : Value) (l : List Wr) (dt : Txt) (w : World) (hw : Wrs w v l) (hn : l.length ≤ 9223372036854775807) (hf : FitW l) (hdt : dt.length ≤ 9223372036854775807) :
    Calls Tryd.prog 8 #[.int .u64 (seq : Nat), v, .string (B dt)] w fun e w' => e = .returned (.bool true) ∧ Below w.heap.size w w' := by
  have Hsh := Lib.hid (law_shown w)
  have Hw := Lib.hid hw
  have Hf := Lib.hid hf
  have Hs := Lib.hid hs
  have Hsm := Lib.hid (fun w' (b : Below w.heap.size w w') => law_small v l w' (hw.below b) hn (fun p hp => (hf p hp).2.2))
  obtain ⟨oa, c, rfl, _⟩ := hw.form
  obtain ⟨sq, hsq⟩ : ∃ s : Int, s = (seq : Int) := ⟨_, rfl⟩
  have Hsq := Lib.hid hsq
  have hds := size_B dt
  rw [← hsq]
  clear hw hf hs hsq
  cases hsm : smallW l with
  | false =>
    rw [hsm] at Hsm
    clear hsm
    go_enter Tryd.func8, Tryd.ntmps8
    go_wp2_with fail
    refine Hsh.out.mono ?_
    rintro e w1 ⟨rfl, hb⟩
    have HB := Lib.hid hb
    clear hb
    go_wp2_with fail
    refine (Hsm.out _ HB.out).mono ?_
    rintro e w2 ⟨rfl, rfl⟩
    go_wp2
    go_ret
    exact ⟨rfl, HB.out⟩
  | true =>
    obtain ⟨hl60, hl600⟩ := small_bounds hsm
    rw [hsm] at Hsm
    clear hsm
    by_cases h0 : l.length = 0
    · have hq : ((l.length : Int) == 0) = true := by rw [h0]; rfl
      clear h0
      go_enter Tryd.func8, Tryd.ntmps8
      go_wp2_with fail
      refine Hsh.out.mono ?_
      rintro e w1 ⟨rfl, hb⟩
      have HB := Lib.hid hb
      clear hb
      go_wp2_with fail
      refine (Hsm.out _ HB.out).mono ?_
      rintro e w2 ⟨rfl, rfl⟩
      go_wp2
      go_ret
      exact ⟨rfl, HB.out⟩
    have hq : ((l.length : Int) == 0) = false := by rw [beq_eq_false_iff_ne]; omega
    by_cases h6 : 600 < dt.length
    · have h6' : (600 : Int) < (dt.length : Int) := by omega
      clear h0
      go_enter Tryd.func8, Tryd.ntmps8
      go_wp2_with fail
      refine Hsh.out.mono ?_
      rintro e w1 ⟨rfl, hb⟩
      have HB := Lib.hid hb
      clear hb
      go_wp2_with fail
      refine (Hsm.out _ HB.out).mono ?_
      rintro e w2 ⟨rfl, rfl⟩
      go_wp2
      go_ret
      exact ⟨rfl, HB.out⟩
    have h6' : (dt.length : Int) ≤ 600 := by omega
    have Hwh := Lib.hid (fun w' (b : Below w.heap.size w w') => law_whole _ l w' (Hw.out.below b) hn (fun p hp => ⟨(Hf.out p hp).1, (Hf.out p hp).2.1, by have := hl600 p hp; omega⟩))
    have Hblk := Lib.hid (fun w => law_block dt (by omega) w)
    have hbl := blockT_length dt
    generalize hbt : blockT dt = bt at *
    clear hbt
    obtain ⟨H, ds, H2, ds2, e1, e2, e3, e4, e5, e6, e7, e8, e9, e10, e11, e12, e13⟩ := heads_plain seq l bt Hs.out (by omega) hbl
    have hwn := wholeN_length l
    have hWl := wholeW_length l
    have Hfit2 := Lib.hid (fine_fit (whole_fine l))
    have Hq1 := Lib.hid (fun v' w' (h : Wrs w' v' (wholeW l)) => frame_Pack seq (wholeW l) v' Hs.out (by omega) Hfit2.out w' h)
    have Hq2 := Lib.hid (fun v' w' (h : Wrs w' v' (intW ((wholeN l).map fun p => (p.1, bt)))) => frame_Pack seq _ v' Hs.out (by rw [intW_length, List.length_map]; omega) e13 w' h)
    unfold PackPost at Hq1 Hq2
    rw [e2, e1] at Hq1
    rw [e6, e5] at Hq2
    have Hh1 := Lib.hid (fun w => frame_Head H2 (by omega) w)
    have Hh2 := Lib.hid (fun w => frame_Head (120 :: H2.drop 1) (by rw [List.length_cons, List.length_drop]; omega) w)
    have Hh3 := Lib.hid (fun w => frame_Head (H2.take 255) (by rw [List.length_take]; omega) w)
    rw [e10] at Hh1
    rw [e11] at Hh2
    rw [e12] at Hh3
    have HwW : Hid (∀ w' base v', w'.ownsRow base 45 2 v' (wholeN l).length (wrCells (wholeN l)) → Wrs w' v' (wholeW l)) := Lib.hid (fun _ _ _ h => own_wrs h)
    rw [← Hsq.out] at Hq1 Hq2 Hh1
    have hn1 : 0 < (wholeN l).length := by omega
    have hn48 : (wholeN l).length ≤ 48 := by omega
    clear e1 e2 e5 e6 e10 e11 e12 e13 hbl hwn hWl h0 h6
    generalize wholeW l = wl at *
    generalize wholeN l = wn at *
    have Hl4 := Lib.hid e4
    have Hl8 := Lib.hid e8
    have x1 : (B H).extract 0 248 = B (H.take 248) := by rw [extract_take, L_B]
    have x2 : (B H2).extract 0 248 = B (H.take 248) := by rw [extract_take, L_B, e9]
    have x3 : (B H2).extract 0 255 = B (H2.take 255) := by rw [extract_take, L_B]
    have x4 : (⟨#[120]⟩ : ByteArray) ++ (B H2).extract 1 (B H2).size = B (120 :: H2.drop 1) := by rw [extract_to_end, L_B]; rfl
    have s1 := size_B H
    have s2 := size_B H2
    rw [e3] at s1
    rw [e7] at s2
    rw [s2] at x4
    have s3 := size_B (H2.drop 1)
    clear e4 e8 e9 e3 e7
    generalize H.take 248 = T248 at *
    generalize 120 :: H2.drop 1 = T120 at *
    generalize H2.take 255 = T255 at *
    go_enter Tryd.func8, Tryd.ntmps8
    go_wp2_with fail
    refine Hsh.out.mono ?_
    rintro e w1 ⟨rfl, hb⟩
    have HB := Lib.hid hb
    clear hb
    go_wp2_with fail
    refine (Hsm.out _ HB.out).mono ?_
    rintro e w2 ⟨rfl, rfl⟩
    go_wp2_with (go_at_call 14; refine (Hwh.out _ HB.out).mono ?_; rintro e w3 ⟨v3, rfl, hown3, hb3⟩; have HW3 := Lib.hid (HwW.out _ _ _ hown3); have HB3 := Lib.hid (step_call HB.out hb3); have Hown3 := Lib.hid (own_base hown3 HB.out.size); clear hown3 hb3)
    refine (Hq1.out _ _ HW3.out).mono ?_
    rintro e w4 ⟨hb4, v4, rfl, hown4⟩
    have HB4 := Lib.hid (step_call HB3.out hb4)
    obtain ⟨gp, capp, curp, rfl, hgp, hcapp, _, _, hcellp, _⟩ := own_txt hown4 (by simp)
    have hgp3 := (hown4.lt gp rfl).1
    obtain ⟨g, cap, rfl, hg, _⟩ := own_wr Hown3.out hn1
    have Hown4 := Lib.hid (own_kept Hown3.out hb4)
    have hne : gp ≠ g := by omega
    have dp := hcellp 0 (by simp)
    rw [List.getElem_cons_zero] at dp
    rw [List.length_cons, Hl4.out] at hcapp ⊢
    clear hb4 hown4 hcellp hgp3
    go_wp2
    go_loopw [12] (fun x12 wr => ∃ k : Nat, k ≤ wn.length ∧ x12 = .int .i64 k ∧ wr.ownsRow w.heap.size 45 2 (.slice (some ⟨g, 0, none⟩) wn.length cap) wn.length (wrCells (datK wn bt k)) ∧ wr.cell? ⟨gp, 0, none⟩ = some (.string (B H)) ∧ Below w.heap.size w wr) (fun x12 _ => wn.length - (intOf x12).toNat)
    case atStart => exact ⟨0, by omega, rfl, Hown4.out, dp, HB4.out⟩
    case round =>
      obtain ⟨k, hk, rfl, hown, dp, hbel⟩ := hrel
      have Hown := Lib.hid hown
      have Hdp := Lib.hid dp
      have Hbel := Lib.hid hbel
      clear hown hbel dp
      by_cases hlt : k < wn.length
      · have hk1 : (k : Int) < (wn.length : Int) := by omega
        have hk0 : (0 : Int) ≤ (k : Int) := by omega
        go_wp2_with fail
        refine (Hblk.out _).mono ?_
        rintro e w5 ⟨rfl, hb5⟩
        have hown5 := own_kept Hown.out hb5
        obtain ⟨hfz, hg5, hgw⟩ := own_wr_at hown5
        have hfz := hfz (k * 2 + 1)
        have hc5 : ∃ u, w5.cell? ⟨g, k * 2 + 1, none⟩ = some u := by
          obtain ⟨g', cap', hgg, _, hcc⟩ := own_wr (l := datK wn bt k) (by rw [datK_length _ _ _ hk]; exact hown5) (by rw [datK_length _ _ _ hk]; omega)
          simp only [Value.slice.injEq, Option.some.injEq, Addr.mk.injEq, and_true, true_and] at hgg
          obtain ⟨rfl, _⟩ := hgg
          exact ⟨_, (hcc k (by rw [datK_length _ _ _ hk]; exact hlt)).2⟩
        obtain ⟨u5, hc5⟩ := hc5
        have Hown5 := Lib.hid (own_dat hlt hown5)
        have HB5 : Hid (Below w.heap.size w (w5.setCell ⟨g, k * 2 + 1, none⟩ (.string (B bt)))) := Lib.hid ((step_call Hbel.out hb5).setCell hgw _)
        have Hdp5 : Hid ((w5.setCell ⟨g, k * 2 + 1, none⟩ (.string (B bt))).cell? ⟨gp, 0, none⟩ = some (.string (B H))) := Lib.hid (by
          rw [World.cell?_setCell_other _ _ _ _ (by intro h; simp only [Addr.mk.injEq] at h; omega)]
          exact cell_call hb5 Hdp.out)
        clear hb5 hown5
        go_wp2
        go_roundw
        case rel => exact ⟨k + 1, by omega, by go_num, Hown5.out, Hdp5.out, HB5.out⟩
        case measure => simp [intOf]; omega
      · obtain rfl : k = wn.length := by omega
        have hown := Hown.out
        rw [datK_all] at hown
        have HW5 := Lib.hid (own_wrs (l := wn.map fun p => (p.1, bt)) (by rw [List.length_map]; exact hown))
        clear hown
        go_wp2_with fail
        refine (Hq2.out _ _ HW5.out).mono ?_
        rintro e w6 ⟨hb6, v6, rfl, hown6⟩
        have HB6 := Lib.hid (step_call Hbel.out hb6)
        obtain ⟨gq, capq, curq, rfl, hgq, hcapq, _, _, hcellq, _⟩ := own_txt hown6 (by simp)
        have dq := hcellq 0 (by simp)
        rw [List.getElem_cons_zero] at dq
        rw [List.length_cons, Hl8.out] at hcapq ⊢
        have dp := cell_call hb6 Hdp.out
        clear hb6 hown6 hcellq
        have hpos : (0 : Int) < (wn.length : Int) + 1 := by omega
        have dpn : ∀ n, (w6.drewN n).cell? ⟨gp, 0, none⟩ = some (.string (B H)) := fun _ => dp
        have dqn : ∀ n, (w6.drewN n).cell? ⟨gq, 0, none⟩ = some (.string (B H2)) := fun _ => dq
        go_wp2
        go_quiet (fail)
        go_wp2_with fail
        refine (Hh1.out _).mono ?_
        rintro e w7 ⟨rfl, hb7⟩
        have HB7 := Lib.hid (step_call (below_drewN HB6.out _) hb7)
        have d7 := cell_call hb7 (dqn _)
        clear hb7 dpn dqn
        go_wp2_with fail
        refine (Hh2.out _).mono ?_
        rintro e w8 ⟨rfl, hb8⟩
        have HB8 := Lib.hid (step_call HB7.out hb8)
        have d8 := cell_call hb8 d7
        clear hb8
        go_wp2_with fail
        refine (Hh3.out _).mono ?_
        rintro e w9 ⟨rfl, hb9⟩
        have HB9 := Lib.hid (step_call HB8.out hb9)
        have y1 : (sq == sq) = true := by simp
        have y2 : ((wn.length : Int) == (wn.length : Int)) = true := by simp
        clear hb9
        go_wp2
        go_ret
        exact ⟨rfl, HB9.out⟩
theorem walk_FrameHeads (sq : Int) (v : Value) (l : List Wr) (z : ByteArray) (w : World) (hs : (Lit.int .u64 sq).wf = true) (hw : Wrs w v l) (hf : ∀ e ∈ l, (Lit.int .i64 e.1).wf = true ∧ e.2.length ≤ maxLen) (hn : l.length ≤ maxLen) (hz : z.size ≤ maxLen) :
    Calls Tryd.prog 8 #[.int .u64 sq, v, .string z] w fun e w' => e = .returned (.bool true) ∧ Below w.heap.size w w' := by
  obtain ⟨h1, h2⟩ := boundsu64 hs
  obtain ⟨seq, rfl⟩ := Int.eq_ofNat_of_zero_le h1
  unfold maxLen at hn hz
  have := core_FrameHeads seq (by omega) v l (L z) w hw (by omega) (wr_bounds hf) (by rw [length_L]; omega)
  rwa [B_L] at this
end Go.Proofs.YtnljmhdaloolgaaDoor
