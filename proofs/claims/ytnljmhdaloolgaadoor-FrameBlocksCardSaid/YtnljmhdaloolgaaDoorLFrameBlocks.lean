/- The law FrameBlocks returns true for every numbers and writes. Condition: numbers and lengths fit an int. -/
import Derived.Test.YtnljmhdaloolgaaDoorFrmL
namespace Go.Proofs.YtnljmhdaloolgaaDoor
open Go.RowKit Go.Wir Go.Blk Go.Frm

set_option maxRecDepth 100000 in
set_option maxHeartbeats 1600000 in
theorem core_FrameBlocks (seq : Nat) (hs : seq < 18446744073709551616) (v : Value) (l : List Wr) (at0 : Int) (ha1 : -9223372036854775808 ≤ at0) (ha2 : at0 ≤ 9223372036854775807) (w : World) (hw : Wrs w v l) (hn : l.length ≤ 9223372036854775807) (hf : FitW l) :
    Calls Tryd.prog 7 #[.int .u64 (seq : Nat), v, .int .i64 at0] w fun e w' => e = .returned (.bool true) ∧ Below w.heap.size w w' := by
  have Hsh := Lib.hid (law_shown w)
  have Hw := Lib.hid hw
  have Hf := Lib.hid hf
  have Hs := Lib.hid hs
  have Hsm := Lib.hid (fun w' (b : Below w.heap.size w w') => law_small v l w' (hw.below b) hn (fun p hp => (hf p hp).2.2))
  obtain ⟨oa, c, rfl, _⟩ := hw.form
  obtain ⟨sq, hsq⟩ : ∃ s : Int, s = (seq : Int) := ⟨_, rfl⟩
  have Hsq := Lib.hid hsq
  rw [← hsq]
  clear hw hf hs hsq
  cases hsm : smallW l with
  | false =>
    rw [hsm] at Hsm
    clear hsm
    go_enter Tryd.func7, Tryd.ntmps7
    go_wp2_with fail
    refine Hsh.out.mono ?_
    rintro e w1 ⟨rfl, hb⟩
    have HB := Lib.hid hb
    clear hb
    go_wp2_with fail
    refine (Hsm.out _ HB.out).mono ?_
    rintro e w2 ⟨rfl, rfl⟩
    go_wp2
    go_ret
    exact ⟨rfl, HB.out⟩
  | true =>
    obtain ⟨hl60, hl600⟩ := small_bounds hsm
    rw [hsm] at Hsm
    by_cases h0 : l.length = 0
    · have hq : ((l.length : Int) == 0) = true := by rw [h0]; rfl
      clear hsm h0
      go_enter Tryd.func7, Tryd.ntmps7
      go_wp2_with fail
      refine Hsh.out.mono ?_
      rintro e w1 ⟨rfl, hb⟩
      have HB := Lib.hid hb
      clear hb
      go_wp2_with fail
      refine (Hsm.out _ HB.out).mono ?_
      rintro e w2 ⟨rfl, rfl⟩
      go_wp2
      go_ret
      exact ⟨rfl, HB.out⟩
    · have hq : ((l.length : Int) == 0) = false := by rw [beq_eq_false_iff_ne]; omega
      have Hwh := Lib.hid (fun w' (b : Below w.heap.size w w') => law_whole _ l w' (Hw.out.below b) hn (fun p hp => ⟨(Hf.out p hp).1, (Hf.out p hp).2.1, by have := hl600 p hp; omega⟩))
      have hWl := wholeW_length l
      have hNl : (wholeN l).length = (wholeW l).length := by rw [wholeN_length, wholeW_length]
      have Hfit2 := Lib.hid (fine_fit (whole_fine l))
      have Hq1 := Lib.hid (fun v' w' (h : Wrs w' v' (wholeW l)) => frame_Pack seq (wholeW l) v' Hs.out (by omega) Hfit2.out w' h)
      unfold PackPost at Hq1
      obtain ⟨H, hH⟩ : ∃ H, Packed seq l H (datas (wholeW l)) := ⟨_, packed_of seq l (by omega)⟩
      have hD2 : ∀ i (hi : i < (wholeW l).length) (hi2 : i < (datas (wholeW l)).length), (datas (wholeW l))[i] = (wholeW l)[i].2 := fun i hi hi2 => by simp [datas]
      have HD2 := Lib.hid hD2
      have Hshort := Lib.hid (fun k (hk : k < (wholeW l).length + 1) => unpL_short seq (wholeW l) k Hs.out (by omega) (by omega) (whole_fine l) hk)
      rw [hH.pack] at Hshort
      rw [packE_whole l (by omega), hH.pack] at Hq1
      have HHl := Lib.hid hH.len
      have Hdl := Lib.hid hH.dlen
      have HwW : Hid (∀ w' base v', w'.ownsRow base 45 2 v' (wholeN l).length (wrCells (wholeN l)) → Wrs w' v' (wholeW l)) := Lib.hid (fun _ _ _ h => own_wrs h)
      rw [← Hsq.out] at Hq1
      have hw48 : (wholeW l).length ≤ 48 := by omega
      have hw1 : 1 ≤ (wholeW l).length := by omega
      have Hds256 := Lib.hid (show ∀ s ∈ datas (wholeW l), s.length = 256 from fun s hs => by
        have := datas_256 (whole_fine l)
        rw [List.all_eq_true] at this
        exact of_decide_eq_true (this s hs))
      clear hsm h0 hWl hH hD2 hNl
      generalize wholeW l = wl at *
      generalize datas wl = ds at *
      have hHz := size_B H
      rw [HHl.out] at hHz
      have Hpk := Lib.hid (fun w => law_pick at0 (wl.length + 1) ha1 ha2 (by omega) (by omega) w)
      have hpk := pickN_lt at0 (wl.length + 1) (by omega)
      generalize pickN at0 (wl.length + 1) = kk at *
      go_enter Tryd.func7, Tryd.ntmps7
      go_wp2_with fail
      refine Hsh.out.mono ?_
      rintro e w1 ⟨rfl, hb⟩
      have HB := Lib.hid hb
      clear hb
      go_wp2_with fail
      refine (Hsm.out _ HB.out).mono ?_
      rintro e w2 ⟨rfl, rfl⟩
      go_wp2_with (go_at_call 14; refine (Hwh.out _ HB.out).mono ?_; rintro e w3 ⟨v3, rfl, hown3, hb3⟩; have HW3 := Lib.hid (HwW.out _ _ _ hown3); have HB3 := Lib.hid (step_call HB.out hb3); clear hown3 hb3)
      refine (Hq1.out _ _ HW3.out).mono ?_
      rintro e w4 ⟨hb4, v4, rfl, hown4⟩
      have HW4 := Lib.hid (HW3.out.below hb4)
      have HB4 := Lib.hid (step_call HB3.out hb4)
      obtain ⟨g, cap, cur, rfl, hg, hcap, _, _, hcell, _⟩ := own_txt hown4 (by simp)
      rw [List.length_cons, Hdl.out] at hcap ⊢
      obtain ⟨ow, cw, rfl, hwc⟩ := HW4.out.form
      have Hwc := Lib.hid hwc
      have d0 := hcell 0 (by simp)
      rw [List.getElem_cons_zero] at d0
      have Hcell := Lib.hid hcell
      have hlen1 : (1 : Int) + (wl.length : Int) = (wl.length : Int) + 1 := by omega
      clear hb4 hown4 hcell hwc hlen1
      go_wp2_with fail
      go_loopw [12] (fun x wr => ∃ k : Nat, k ≤ wl.length ∧ x = .int .i64 k ∧ Below w4.heap.size w4 wr) (fun x _ => wl.length - (intOf x).toNat)
      case atStart => exact ⟨0, by omega, rfl, Below.refl _ _⟩
      case round =>
        obtain ⟨k, hk, rfl, hbel⟩ := hrel
        by_cases hlt : k < wl.length
        · obtain ⟨bw, fw, rfl, hbw, _, e2⟩ := Hwc.out k hlt
          have hk5 : k + 1 < (H :: ds).length := by rw [List.length_cons, Hdl.out]; omega
          have e1 := Hcell.out (k + 1) hk5
          rw [List.getElem_cons_succ, HD2.out k hlt (by rw [Hdl.out]; exact hlt)] at e1
          have e1 := cell_below hbel hg e1
          have e2 := cell_below hbel hbw e2
          have Hbel := Lib.hid hbel
          clear hbel hk5
          generalize wl[k].2 = x at *
          have hw1' : IntKind.i64.wrap (1 + (k : Int)) = 1 + (k : Int) := IntWalk.i64_in _ (by omega)
          have hk0 : (0 : Int) ≤ (k : Int) := by omega
          have hk1 : (k : Int) < (wl.length : Int) := by omega
          have hk2 : (0 : Int) ≤ 1 + (k : Int) := by omega
          have hk3 : (1 : Int) + (k : Int) < (wl.length : Int) + 1 := by omega
          have hk4 : (1 + (k : Int)).toNat = 1 + k := by omega
          have e1' : wr.cell? ⟨g, 1 + k, none⟩ = some (.string (B x)) := by rw [Nat.add_comm]; exact e1
          go_wp2
          go_quiet (fail)
          go_wp2
          go_roundw
          case rel => exact ⟨k + 1, by omega, by go_num, below_drewN Hbel.out _⟩
          case measure => simp [intOf]; omega
        · obtain rfl : k = wl.length := by omega
          have Hrow := Lib.hid (row_prefix (w := wr) (l := H :: ds) (Nat.lt_of_lt_of_le hg hbel.size) (by rw [List.length_cons, Hdl.out]; exact hcap) (fun i hi => cell_below hbel hg (Hcell.out i hi)) kk (by rw [List.length_cons, Hdl.out]; omega))
          have Hun := Lib.hid (frame_Unpack ((H :: ds).take kk) _ (by rw [List.length_take, List.length_cons, Hdl.out]; omega) (fun s hs => by
            rcases List.mem_cons.1 (List.mem_of_mem_take hs) with rfl | hs
            · rw [HHl.out]; omega
            · have := Hds256.out s hs; omega) wr Hrow.out)
          unfold UnpPost at Hun
          rw [Hshort.out kk hpk] at Hun
          have Hbel := Lib.hid (step_call HB4.out hbel)
          have hk6 : (kk : Int) ≤ (cap : Int) := by omega
          clear hbel
          go_wp2_with fail
          rw [show (1 : Int) + (wl.length : Int) = ((wl.length + 1 : Nat) : Int) by omega]
          refine (Hpk.out _).mono ?_
          rintro e w7 ⟨rfl, rfl⟩
          go_wp2_with fail
          refine Hun.out.mono ?_
          rintro e w8 ⟨hb8, rfl⟩
          have Hb8 := Lib.hid (step_call Hbel.out hb8)
          clear hb8
          go_wp2
          go_ret
          exact ⟨rfl, Hb8.out⟩
theorem walk_FrameBlocks (sq : Int) (v : Value) (l : List Wr) (at0 : Int) (w : World) (hs : (Lit.int .u64 sq).wf = true) (hw : Wrs w v l) (hf : ∀ e ∈ l, (Lit.int .i64 e.1).wf = true ∧ e.2.length ≤ maxLen) (hn : l.length ≤ maxLen) (ha : (Lit.int .i64 at0).wf = true) :
    Calls Tryd.prog 7 #[.int .u64 sq, v, .int .i64 at0] w fun e w' => e = .returned (.bool true) ∧ Below w.heap.size w w' := by
  obtain ⟨h1, h2⟩ := boundsu64 hs
  obtain ⟨seq, rfl⟩ := Int.eq_ofNat_of_zero_le h1
  unfold maxLen at hn
  exact core_FrameBlocks seq (by omega) v l at0 (bounds64 ha).1 (bounds64 ha).2 w hw (by omega) (wr_bounds hf)
end Go.Proofs.YtnljmhdaloolgaaDoor
