/- The law FrameTears returns true for every numbers and writes. Condition: numbers and lengths fit an int. -/
import Derived.Test.YtnljmhdaloolgaaDoorFrmL
import Derived.RegionTactic
import Derived.ChangeAlike
import Derived.Deep.QuietTactic
import Derived.BigQuiet
namespace Go.Proofs.YtnljmhdaloolgaaDoor
open Go.RowKit Go.Wir Go.Blk Go.Frm

/-- A number's last byte. -/
def byteN (c : Int) : UInt8 := UInt8.ofNat (c % 256).toNat
theorem byteN_val (c : Int) : ((byteN c).toNat : Int) = c % 256 := by
  unfold byteN
  have h1 := Int.emod_lt_of_pos c (show (0 : Int) < 256 by omega)
  have h2 := Int.emod_nonneg c (show (256 : Int) ≠ 0 by omega)
  rw [ofNat_toNat _ (by omega)]; omega
theorem whole_texts {seq : Nat} {l : List Wr} {H : Txt} {ds : List Txt} (h : Packed seq l H ds) : ∀ s ∈ H :: ds, s.length = 256 := fun s hs => by
  rcases List.mem_cons.1 hs with rfl | hs
  · exact h.len
  · have := datas_256 (whole_fine l)
    rw [List.all_eq_true] at this
    rw [h.data] at hs
    exact of_decide_eq_true (this s hs)
theorem B_set_eq (x : Txt) (m : Nat) (h : m < x.length) (c : UInt8) : (B (x.set m c)).data.toList = (B x).data.toList ↔ x[m]? = some c := by
  unfold B
  simp only [List.toList_toArray]
  rw [List.getElem?_eq_getElem h, Option.some.injEq]
  constructor
  · intro e
    have := congrArg (fun l => l[m]?) e
    simp only [List.getElem?_set_self h, List.getElem?_eq_getElem h, Option.some.injEq] at this
    exact this.symm
  · rintro rfl
    exact List.set_getElem_self h
theorem ways {k m : Nat} (h : ¬ (k = 0 ∧ 12 ≤ m ∧ m < 16)) : ((k : Int) == 0) = false ∨ (((k : Int) == 0) = true ∧ decide ((12 : Int) ≤ (m : Int)) = false) ∨ (((k : Int) == 0) = true ∧ (12 : Int) ≤ (m : Int) ∧ decide ((m : Int) < 16) = false) := by
  by_cases h0 : k = 0
  · right
    have e : ((k : Int) == 0) = true := by rw [h0]; rfl
    by_cases h1 : 12 ≤ m
    · exact .inr ⟨e, by omega, by rw [decide_eq_false_iff_not]; omega⟩
    · exact .inl ⟨e, by rw [decide_eq_false_iff_not]; omega⟩
  · left
    rw [beq_eq_false_iff_ne]; omega
set_option maxRecDepth 100000 in
set_option maxHeartbeats 1600000 in
theorem core_FrameTears (seq : Nat) (hs : seq < 18446744073709551616) (v : Value) (l : List Wr) (at0 place to0 : Int) (ha1 : -9223372036854775808 ≤ at0) (ha2 : at0 ≤ 9223372036854775807) (hp1 : -9223372036854775808 ≤ place) (hp2 : place ≤ 9223372036854775807) (w : World) (hw : Wrs w v l) (hn : l.length ≤ 9223372036854775807) (hf : FitW l) :
    Calls Tryd.prog 6 #[.int .u64 (seq : Nat), v, .int .i64 at0, .int .i64 place, .int .i64 to0] w fun e w' => e = .returned (.bool true) ∧ Below w.heap.size w w' := by
  have Hsh := Lib.hid (law_shown w)
  have Hw := Lib.hid hw
  have Hf := Lib.hid hf
  have Hs := Lib.hid hs
  have Hsm := Lib.hid (fun w' (b : Below w.heap.size w w') => law_small v l w' (hw.below b) hn (fun p hp => (hf p hp).2.2))
  obtain ⟨oa, c, rfl, _⟩ := hw.form
  obtain ⟨sq, hsq⟩ : ∃ s : Int, s = (seq : Int) := ⟨_, rfl⟩
  have Hsq := Lib.hid hsq
  rw [← hsq]
  clear hw hf hs hsq
  cases hsm : smallW l with
  | false =>
    rw [hsm] at Hsm
    clear hsm
    go_enter Tryd.func6, Tryd.ntmps6
    go_wp2_with fail
    refine Hsh.out.mono ?_
    rintro e w1 ⟨rfl, hb⟩
    have HB := Lib.hid hb
    clear hb
    go_wp2_with fail
    refine (Hsm.out _ HB.out).mono ?_
    rintro e w2 ⟨rfl, rfl⟩
    go_wp2
    go_ret
    exact ⟨rfl, HB.out⟩
  | true =>
    obtain ⟨hl60, hl600⟩ := small_bounds hsm
    rw [hsm] at Hsm
    by_cases h0 : l.length = 0
    · have hq : ((l.length : Int) == 0) = true := by rw [h0]; rfl
      clear hsm h0
      go_enter Tryd.func6, Tryd.ntmps6
      go_wp2_with fail
      refine Hsh.out.mono ?_
      rintro e w1 ⟨rfl, hb⟩
      have HB := Lib.hid hb
      clear hb
      go_wp2_with fail
      refine (Hsm.out _ HB.out).mono ?_
      rintro e w2 ⟨rfl, rfl⟩
      go_wp2
      go_ret
      exact ⟨rfl, HB.out⟩
    · have hq : ((l.length : Int) == 0) = false := by rw [beq_eq_false_iff_ne]; omega
      have Hwh := Lib.hid (fun w' (b : Below w.heap.size w w') => law_whole _ l w' (Hw.out.below b) hn (fun p hp => ⟨(Hf.out p hp).1, (Hf.out p hp).2.1, by have := hl600 p hp; omega⟩))
      have hWl := wholeW_length l
      have Hfit2 := Lib.hid (fine_fit (whole_fine l))
      have Hq1 := Lib.hid (fun v' w' (h : Wrs w' v' (wholeW l)) => frame_Pack seq (wholeW l) v' Hs.out (by omega) Hfit2.out w' h)
      unfold PackPost at Hq1
      obtain ⟨H, hH⟩ : ∃ H, Packed seq l H (datas (wholeW l)) := ⟨_, packed_of seq l (by omega)⟩
      have Htorn := Lib.hid (fun k m c x => unpL_torn seq (wholeW l) k m c Hs.out (by omega) (by omega) (whole_fine l) (x := x))
      rw [hH.pack] at Htorn
      rw [packE_whole l (by omega), hH.pack] at Hq1
      have Hdl := Lib.hid hH.dlen
      have HwW : Hid (∀ w' base v', w'.ownsRow base 45 2 v' (wholeN l).length (wrCells (wholeN l)) → Wrs w' v' (wholeW l)) := Lib.hid (fun _ _ _ h => own_wrs h)
      rw [← Hsq.out] at Hq1
      have hw48 : (wholeW l).length ≤ 48 := by omega
      have h256 := whole_texts hH
      clear hsm h0 hWl hH
      generalize wholeW l = wl at *
      generalize datas wl = ds at *
      have Hpk := Lib.hid (fun w => law_pick at0 (wl.length + 1) ha1 ha2 (by omega) (by omega) w)
      have hkk := pickN_lt at0 (wl.length + 1) (by omega)
      have Hpm := Lib.hid (fun w => law_pick place 256 hp1 hp2 (by omega) (by omega) w)
      have hmm := pickN_lt place 256 (by omega)
      generalize pickN at0 (wl.length + 1) = k at *
      generalize pickN place 256 = m at *
      obtain ⟨x, hx⟩ : ∃ x, (H :: ds)[k]'(by rw [List.length_cons, Hdl.out]; omega) = x := ⟨_, rfl⟩
      have hxl : x.length = 256 := h256 x (by rw [← hx]; exact List.getElem_mem _)
      have hxk : (H :: ds)[k]? = some x := by rw [List.getElem?_eq_getElem (by rw [List.length_cons, Hdl.out]; omega), hx]
      have Hbad := Lib.hid (fun c (h1 : x[m]? ≠ some c) (h2 : ¬ (k = 0 ∧ 12 ≤ m ∧ m < 16)) => Htorn.out k m c x hkk hmm hxk h1 h2)
      have hbv := byteN_val to0
      have Hxl := Lib.hid hxl
      have H256 := Lib.hid h256
      have Hx := Lib.hid hx
      have hcv := fun (w : World) => run_bytes_of_string (P := Tryd.prog) w 9 34 5 (B x) Tryd.underlying9 Tryd.underlying34 Tryd.underlying5
      have hxs := size_B x
      rw [hxl] at hxs
      clear Htorn hxl hxk h256 hx
      generalize byteN to0 = bt at *
      go_enter Tryd.func6, Tryd.ntmps6
      go_wp2_with fail
      refine Hsh.out.mono ?_
      rintro e w1 ⟨rfl, hb⟩
      have HB := Lib.hid hb
      clear hb
      go_wp2_with fail
      refine (Hsm.out _ HB.out).mono ?_
      rintro e w2 ⟨rfl, rfl⟩
      go_wp2_with (go_at_call 14; refine (Hwh.out _ HB.out).mono ?_; rintro e w3 ⟨v3, rfl, hown3, hb3⟩; have HW3 := Lib.hid (HwW.out _ _ _ hown3); have HB3 := Lib.hid (step_call HB.out hb3); clear hown3 hb3)
      refine (Hq1.out _ _ HW3.out).mono ?_
      rintro e w4 ⟨hb4, v4, rfl, hown4⟩
      have HB4 := Lib.hid (step_call HB3.out hb4)
      have Hlow := Lib.hid (fun q hq => (hown4.lt q hq).1)
      obtain ⟨g, cap, cur, rfl, hg, hcap, hgh, _, hcell, _⟩ := own_txt hown4 (by simp)
      have Hown4 := Lib.hid hown4
      have Hgh := Lib.hid hgh
      rw [List.length_cons, Hdl.out] at hcap ⊢
      have d0 := hcell k (by rw [List.length_cons, Hdl.out]; exact hkk)
      rw [Hx.out] at d0
      have Hcell := Lib.hid hcell
      clear hb4 hcell hown4 hgh
      go_wp2_with fail
      refine (Hpk.out _).mono ?_
      rintro e w5 ⟨rfl, rfl⟩
      go_wp2_with fail
      refine (Hpm.out _).mono ?_
      rintro e w5 ⟨rfl, rfl⟩
      have hki : (k : Int) < (wl.length : Int) + 1 := by omega
      have hrow := BRow.of_string w4 (B x)
      rw [hxs, L_B] at hrow
      have hml : m < x.length := by rw [Hxl.out]; exact hmm
      have hc5 : ((w4.alloc (.cells (bytesRow (B x) (grownCap w4 256 0 5)) 5 ((bytesRow (B x) (grownCap w4 256 0 5)).size, (bytesRow (B x) (grownCap w4 256 0 5)).size + 1))).drew).cell? ⟨w4.heap.size, m, none⟩ = some (.int .u8 ((x[m].toNat : Nat) : Int)) := hrow.cell m hml
      have hf5 : ((w4.alloc (.cells (bytesRow (B x) (grownCap w4 256 0 5)) 5 ((bytesRow (B x) (grownCap w4 256 0 5)).size, (bytesRow (B x) (grownCap w4 256 0 5)).size + 1))).drew).frozen? ⟨w4.heap.size, m, none⟩ = false := hrow.frozen m hml
      have Hrow := Lib.hid (hrow.set m hml bt)
      rw [hbv] at Hrow
      have hmi : (m : Int) < 256 := by omega
      have Hbv := Lib.hid hbv
      clear hrow hbv
      go_wp2
      have hset := Lib.hid (B_set_eq x m hml bt)
      have hb6 : Below w4.heap.size w4 ((w4.alloc (.cells (bytesRow (B x) (grownCap w4 256 0 5)) 5 ((bytesRow (B x) (grownCap w4 256 0 5)).size, (bytesRow (B x) (grownCap w4 256 0 5)).size + 1))).setCell ⟨w4.heap.size, m, none⟩ (.int .u8 (to0 % 256))).drew := (((Below.refl _ _).alloc (Nat.le_refl _) _).setCell (Nat.le_refl _) _).drew
      have hr6 : BRow ((w4.alloc (.cells (bytesRow (B x) (grownCap w4 256 0 5)) 5 ((bytesRow (B x) (grownCap w4 256 0 5)).size, (bytesRow (B x) (grownCap w4 256 0 5)).size + 1))).setCell ⟨w4.heap.size, m, none⟩ (.int .u8 (to0 % 256))).drew w4.heap.size (x.set m bt) := Hrow.out
      generalize ((w4.alloc (.cells (bytesRow (B x) (grownCap w4 256 0 5)) 5 ((bytesRow (B x) (grownCap w4 256 0 5)).size, (bytesRow (B x) (grownCap w4 256 0 5)).size + 1))).setCell ⟨w4.heap.size, m, none⟩ (.int .u8 (to0 % 256))).drew = w6 at hb6 hr6 ⊢
      generalize grownCap w4 256 0 5 = cb at *
      have hls : (x.set m bt).length = 256 := by rw [List.length_set, Hxl.out]
      have hcb := fun n => BRow.conv (show BRow (w6.drewN n) _ _ from hr6) cb
      rw [hls] at hcb
      have d6 := cell_below hb6 hg d0
      have Hb6 := Lib.hid hb6
      have Hr6 := Lib.hid hr6
      have Hls := Lib.hid hls
      clear hb6 hr6 hls
      have HB6 := Lib.hid (step_call HB4.out Hb6.out)
      have hyx : ((B (x.set m bt)).toList == (B x).toList) = decide (x[m]? = some bt) := by
        have := hset.out
        rw [Bool.eq_iff_iff, beq_iff_eq, decide_eq_true_eq, toList_B, toList_B]
        exact ⟨fun e => (B_set_eq x m hml bt).1 (by rw [e]), fun e => by
          have := (B_set_eq x m hml bt).2 e
          unfold B at this
          simpa using this⟩
      clear hset
      by_cases hA : x[m]? = some bt
      · rw [decide_eq_true hA] at hyx
        clear hA
        go_quiet (fail)
        go_wp2
        go_ret
        exact ⟨rfl, below_drewN HB6.out _⟩
      · rw [decide_eq_false hA] at hyx
        by_cases hB : k = 0 ∧ 12 ≤ m ∧ m < 16
        · obtain ⟨hk0, h12, h16⟩ := hB
          have hkq : ((k : Int) == 0) = true := by rw [hk0]; rfl
          have h12' : (12 : Int) ≤ (m : Int) := by omega
          have h16' : (m : Int) < 16 := by omega
          clear hk0 hA h12 h16
          go_quiet (fail)
          go_wp2
          go_ret
          exact ⟨rfl, below_drewN HB6.out _⟩
        · obtain ⟨er, her, her0⟩ := Hbad.out bt hA hB
          have hq3 := ways hB
          have Hun := Lib.hid (fun v' w' (h : Row w' v' (txtV ((H :: ds).set k (x.set m bt)))) => frame_Unpack ((H :: ds).set k (x.set m bt)) v' (by rw [List.length_set, List.length_cons, Hdl.out]; omega) (fun s hs => by
            rcases List.mem_or_eq_of_mem_set hs with hs | rfl
            · rw [H256.out s hs]; omega
            · rw [Hls.out]; omega) w' h)
          unfold UnpPost at Hun
          rw [her] at Hun
          simp only at Hun
          have hrow7 : Hid (∀ n, Row ((w6.drewN n).setCell ⟨g, k, none⟩ (.string (B (x.set m bt)))) (.slice (some ⟨g, 0, none⟩) (wl.length + 1 : Nat) cap) (txtV ((H :: ds).set k (x.set m bt)))) := Lib.hid (fun n => by
            have := own_row (own_txt_set (own_kept Hown4.out (below_drewN Hb6.out n)) k (by rw [List.length_cons, Hdl.out]; exact hkk) (x.set m bt))
            rw [List.length_set, List.length_cons, Hdl.out] at this
            exact this)
          have Hle : Hid (∀ n, Below w.heap.size w ((w6.drewN n).setCell ⟨g, k, none⟩ (.string (B (x.set m bt))))) := Lib.hid (fun n => (below_drewN HB6.out n).setCell (by have := Hlow.out g rfl; have := HB3.out.size; exact Nat.le_trans this (by assumption)) _)
          have hern : ((er : Int) != 0) = true := by rw [bne_iff_ne]; omega
          have hfz : ∀ n, (w6.drewN n).frozen? ⟨g, k, none⟩ = false := fun n => Lib.frozen_of_heap (((below_drewN Hb6.out n).block g hg).trans Hgh.out) k
          have d6n : ∀ n, (w6.drewN n).cell? ⟨g, k, none⟩ = some (.string (B x)) := fun _ => d6
          clear hA hB her her0
          rcases hq3 with hkq | ⟨hkq, h12'⟩ | ⟨hkq, h12', h16'⟩
          all_goals (go_quiet (fail))
          all_goals
            go_wp2_with fail
            refine (Hun.out _ _ (hrow7.out _)).mono ?_
            rintro e w8 ⟨hb8, rfl⟩
            have HB8 := Lib.hid (step_call (Hle.out _) hb8)
            clear hb8
            go_wp2
            go_ret
            exact ⟨rfl, HB8.out⟩
theorem walk_FrameTears (sq : Int) (v : Value) (l : List Wr) (at0 place to0 : Int) (w : World) (hs : (Lit.int .u64 sq).wf = true) (hw : Wrs w v l) (hf : ∀ e ∈ l, (Lit.int .i64 e.1).wf = true ∧ e.2.length ≤ maxLen) (hn : l.length ≤ maxLen) (ha : (Lit.int .i64 at0).wf = true) (hp : (Lit.int .i64 place).wf = true) (_ : (Lit.int .i64 to0).wf = true) :
    Calls Tryd.prog 6 #[.int .u64 sq, v, .int .i64 at0, .int .i64 place, .int .i64 to0] w fun e w' => e = .returned (.bool true) ∧ Below w.heap.size w w' := by
  obtain ⟨h1, h2⟩ := boundsu64 hs
  obtain ⟨a1, a2⟩ := bounds64 ha
  obtain ⟨p1, p2⟩ := bounds64 hp
  obtain ⟨seq, rfl⟩ := Int.eq_ofNat_of_zero_le h1
  unfold maxLen at hn
  exact core_FrameTears seq (by omega) v l at0 place to0 a1 a2 p1 p2 w hw (by omega) (wr_bounds hf)
end Go.Proofs.YtnljmhdaloolgaaDoor
