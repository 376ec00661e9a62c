/- The law FrameReads returns true for every texts, number, writes, place and value. Condition: numbers and lengths fit an int. -/
import Derived.Test.YtnljmhdaloolgaaDoorLFrameBack
import Derived.Test.YtnljmhdaloolgaaDoorLFrameTears
import Derived.Test.YtnljmhdaloolgaaDoorFrmJ
namespace Go.Proofs.YtnljmhdaloolgaaDoor
open Go.RowKit Go.Wir Go.Blk Go.Frm

theorem nil_own {w : World} {base seq : Nat} {v : Value} (h : w.ownsRow base 9 1 v (packT seq []).length (txtCells (packT seq []))) : ∃ oa c, v = .slice oa 0 c ∧ (oa = none → (0 : Nat) = 0 ∧ c = 0) := by
  have e : packT seq [] = [] := rfl
  rw [e] at h
  rcases h.2 with ⟨rfl, _⟩ | ⟨g, cap, cur, rfl, _⟩
  · exact ⟨none, 0, rfl, fun _ => ⟨rfl, rfl⟩⟩
  · exact ⟨_, _, rfl, fun h => by cases h⟩
set_option maxRecDepth 100000 in
set_option maxHeartbeats 3200000 in
theorem core_FrameReads (lt : List Txt) (vt : Value) (seq : Nat) (hs : seq < 18446744073709551616) (v : Value) (l : List Wr) (at0 to0 : Int) (ha1 : -9223372036854775808 ≤ at0) (ha2 : at0 ≤ 9223372036854775807) (w : World) (hm : Row w vt (txtV lt)) (hmn : ∀ n c, vt = .slice none n c → n = 0 ∧ c = 0) (hml : ∀ s ∈ lt, s.length ≤ 9223372036854775807) (hw : Wrs w v l) (hn : l.length ≤ 9223372036854775807) (hf : FitW l) :
    Calls Tryd.prog 4 #[vt, .int .u64 (seq : Nat), v, .int .i64 at0, .int .i64 to0] w fun e w' => e = .returned (.bool true) ∧ Below w.heap.size w w' := by
  have Hsh := Lib.hid (law_shown w)
  have Hw := Lib.hid hw
  have Hf := Lib.hid hf
  have Hs := Lib.hid hs
  have Hml := Lib.hid hml
  have Hm := Lib.hid hm
  have Hsm := Lib.hid (fun w' (b : Below w.heap.size w w') => law_small v l w' (hw.below b) hn (fun p hp => (hf p hp).2.2))
  obtain ⟨oa, c, rfl, _⟩ := hw.form
  obtain ⟨om, cm, rfl, hmc⟩ := txt_row hm
  have Hnil : Hid (om = none → lt.length = 0 ∧ cm = 0) := Lib.hid (fun e => hmn _ _ (by rw [e]))
  have Hmc := Lib.hid hmc
  have Hrd := Lib.hid (fun (h6 : ∀ s ∈ lt, s.length ≤ 600) (h60 : lt.length ≤ 60) w' (b : Below w.heap.size w w') => law_reads _ lt w' (by omega) (fun s hs => by have := h6 s hs; omega) (Hm.out.below b))
  obtain ⟨sq, hsq⟩ : ∃ s : Int, s = (seq : Int) := ⟨_, rfl⟩
  have Hsq := Lib.hid hsq
  rw [← hsq]
  clear hw hf hs hsq hm hmn hml hmc
  cases hsm : smallW l with
  | false =>
    rw [hsm] at Hsm
    clear hsm
    go_enter Tryd.func4, Tryd.ntmps4
    go_wp2_with fail
    refine Hsh.out.mono ?_
    rintro e w1 ⟨rfl, hb⟩
    have HB := Lib.hid hb
    clear hb
    go_wp2_with fail
    refine (Hsm.out _ HB.out).mono ?_
    rintro e w2 ⟨rfl, rfl⟩
    go_wp2
    go_ret
    exact ⟨rfl, HB.out⟩
  | true =>
    obtain ⟨hl60, hl600⟩ := small_bounds hsm
    rw [hsm] at Hsm
    by_cases h60 : 60 < lt.length
    · clear hsm
      go_enter Tryd.func4, Tryd.ntmps4
      go_wp2_with fail
      refine Hsh.out.mono ?_
      rintro e w1 ⟨rfl, hb⟩
      have HB := Lib.hid hb
      clear hb
      go_wp2_with fail
      refine (Hsm.out _ HB.out).mono ?_
      rintro e w2 ⟨rfl, rfl⟩
      go_wp2
      go_ret
      exact ⟨rfl, HB.out⟩
    have Hwh := Lib.hid (fun w' (b : Below w.heap.size w w') => law_whole _ l w' (Hw.out.below b) hn (fun p hp => ⟨(Hf.out p hp).1, (Hf.out p hp).2.1, by have := hl600 p hp; omega⟩))
    have HwW : Hid (∀ w' base v', w'.ownsRow base 45 2 v' (wholeN l).length (wrCells (wholeN l)) → Wrs w' v' (wholeW l)) := Lib.hid (fun _ _ _ h => own_wrs h)
    have Hfit2 := Lib.hid (fine_fit (whole_fine l))
    have hWl := wholeW_length l
    have Hq1 := Lib.hid (fun v' w' (h : Wrs w' v' (wholeW l)) => ref3_Pack seq (wholeW l) v' Hs.out (by omega) Hfit2.out w' h)
    unfold PackPost at Hq1
    obtain ⟨i0, hi, hz0, hz1, hz2⟩ := info_parts Tryd.info_strF
    by_cases h0 : l.length = 0
    · have hwe : wholeW l = [] := List.eq_nil_of_length_eq_zero (by omega)
      rw [hwe] at Hq1 HwW
      rw [show packE [] = 6 from rfl] at Hq1
      rw [← Hsq.out] at Hq1
      clear hsm hwe hWl h0
      go_enter Tryd.func4, Tryd.ntmps4
      go_wp2_with fail
      refine Hsh.out.mono ?_
      rintro e w1 ⟨rfl, hb⟩
      have HB := Lib.hid hb
      clear hb
      go_wp2_with fail
      refine (Hsm.out _ HB.out).mono ?_
      rintro e w2 ⟨rfl, rfl⟩
      go_wp2
      go_loopw [13] (fun x13 wr => ∃ k : Nat, k ≤ lt.length ∧ x13 = .int .i64 k ∧ (∀ j (hj : j < lt.length), j < k → (lt[j]).length ≤ 600) ∧ Below w.heap.size w wr) (fun x13 _ => lt.length - (intOf x13).toNat)
      case atStart => exact ⟨0, by omega, rfl, fun j hj h => by omega, HB.out⟩
      case round =>
        obtain ⟨k0, hk0, rfl, hall, hbel⟩ := hrel
        have Hbel := Lib.hid hbel
        have Hall := Lib.hid hall
        clear hall
        by_cases hlt : k0 < lt.length
        · obtain ⟨b, off, rfl, hb, _, c0⟩ := Hmc.out k0 hlt
          have c0 := cell_below hbel hb c0
          have hk1 : (k0 : Int) < (lt.length : Int) := by omega
          have hsz := size_B lt[k0]
          have hle := Hml.out lt[k0] (List.getElem_mem hlt)
          obtain ⟨s0, hs0⟩ : ∃ s, s = lt[k0] := ⟨_, rfl⟩
          rw [← hs0] at c0 hsz hle
          have Hs0 := Lib.hid hs0
          clear hbel hs0
          by_cases h6 : 600 < s0.length
          · have h6' : (600 : Int) < (s0.length : Int) := by omega
            go_wp2
            try rw [Exit.noGoto_ret]
            go_ret
            exact ⟨rfl, Hbel.out⟩
          · have h6' : (s0.length : Int) ≤ 600 := by omega
            go_wp2
            go_roundw
            case rel => exact ⟨k0 + 1, by omega, by go_num, fun j hj h => by
              rcases Nat.lt_or_ge j k0 with h' | h'
              · exact Hall.out j hj h'
              · obtain rfl : j = k0 := by omega
                rw [← Hs0.out]; omega, Hbel.out⟩
            case measure => simp [intOf]; omega
        · obtain rfl : k0 = lt.length := by omega
          have H6 : Hid (∀ s ∈ lt, s.length ≤ 600) := Lib.hid (fun s hs => by
            obtain ⟨j, hj, rfl⟩ := List.getElem_of_mem hs
            exact Hall.out j hj hj)
          have Hrd1 := Lib.hid (Hrd.out H6.out (by omega))
          clear hbel
          go_wp2_with (go_at_call 14; refine (Hwh.out _ Hbel.out).mono ?_; rintro e w3 ⟨v3, rfl, hown3, hb3⟩; have HW3 := Lib.hid (HwW.out _ _ _ hown3); have HB3 := Lib.hid (step_call Hbel.out hb3); clear hown3 hb3)
          refine (Hq1.out _ _ HW3.out).mono ?_
          rintro e w4 ⟨hb4, v4, rfl, hown4⟩
          have HB4 := Lib.hid (step_call HB3.out hb4)
          obtain ⟨op, cp, rfl, hop⟩ := nil_own hown4
          have Hop := Lib.hid hop
          clear hb4 hown4 hop
          go_wp2_with fail
          refine (Hrd1.out _ HB4.out).mono ?_
          rintro e w8 ⟨rfl, hb8⟩
          have HB8 := Lib.hid (step_call HB4.out hb8)
          have hown0 := Lib.hid (own_emptyF w8 9 1 w8.heap.size (Nat.le_refl _))
          have hz8 := Lib.hid (Nat.le_refl w8.heap.size)
          clear hb8
          go_wp2_with (at_builtin; go_must (refine wpList_append_any _ rfl (.tmp 79) (.tmp 80) 26 rfl w8.heap.size 9 i0 (.string ⟨#[]⟩) 1 16 Tryd.underlying26 hi hz0 hz1 hz2 rfl (by decide) _ _ _ rfl hown0.out op 0 cp [] rfl rfl (fun h => ⟨rfl, (Hop.out h).2⟩) (fun _ _ j u h => by simp at h) (by simp) ?c3 ?c4 ?c5 ?_))
          case c3 => unfold maxLen; omega
          case c4 => omega
          case c5 => simp
          intro v5 w5 hown5 hgrow5 _
          have hb5 : Below w8.heap.size w8 w5 := (step_new (Below.refl w8.heap.size w8) _).grown hgrow5 (by simp) (fun q hq => by simp only [Value.ownBlock, Option.some.injEq] at hq; omega)
          try rw [Nat.zero_add] at hown5
          try rw [List.nil_append] at hown5
          have HP0 : Hid (∀ s ∈ lt, s.length ≤ 1000000) := Lib.hid (fun s hs => by have := H6.out s hs; omega)
          have Hb5 := Lib.hid hb5
          have Hown5 := Lib.hid hown5
          have hb5s := hb5.size
          obtain ⟨a5, c5', rfl⟩ := own_form hown5
          have hsrc := Lib.hid (txt_src Hmc.out (step_call HB8.out hb5))
          have hlm : (txtCells lt).length = lt.length * 1 := by rw [txtCells_length, Nat.mul_one]
          have Hlm := Lib.hid hlm
          clear hown5 hgrow5 hb5 hlm
          go_wp2_with (at_builtin; go_must (refine wpList_append_any _ rfl (.tmp 81) (.tmp 82) 26 rfl w8.heap.size 9 i0 (.string ⟨#[]⟩) 1 16 Tryd.underlying26 hi hz0 hz1 hz2 rfl (by decide) _ _ _ rfl Hown5.out om lt.length cm (txtCells lt) rfl Hlm.out Hnil.out hsrc.out (txtCells_oneF _) ?d3 ?d4 ?d5 ?_))
          case d3 => unfold maxLen; omega
          case d4 => omega
          case d5 => omega
          intro v6 w9 hown6 hgrow6 _
          have hb6 : Below w8.heap.size w8 w9 := Hb5.out.grown hgrow6 hb5s (fun q hq => (Hown5.out.lt q hq).1)
          have hrow6 : Row w9 v6 (txtV lt) := own_row (by exact hown6)
          have Hrow6 := Lib.hid hrow6
          have HB9 := Lib.hid (step_call HB8.out hb6)
          have Hlast := Lib.hid (law_reads v6 lt w9 (by omega) HP0.out hrow6)
          clear hown6 hgrow6 hb6 hrow6
          go_wp2_with fail
          refine Hlast.out.mono ?_
          rintro e w10 ⟨rfl, hb10⟩
          have HB10 := Lib.hid (step_call HB9.out hb10)
          clear hb10
          go_wp2
          go_ret
          exact ⟨rfl, HB10.out⟩
    · obtain ⟨H, hH⟩ : ∃ H, Packed seq l H (datas (wholeW l)) := ⟨_, packed_of seq l (by omega)⟩
      rw [packE_whole l (by omega), hH.pack] at Hq1
      have Hdl := Lib.hid hH.dlen
      rw [← Hsq.out] at Hq1
      have hw48 : (wholeW l).length ≤ 48 := by omega
      have h256 := whole_texts hH
      clear hsm h0 hWl hH
      generalize wholeW l = wl at *
      generalize datas wl = ds at *
      have Hpk := Lib.hid (fun w => law_pick at0 (wl.length + 1) ha1 ha2 (by omega) (by omega) w)
      have hkk := pickN_lt at0 (wl.length + 1) (by omega)
      have Hpm := Lib.hid (fun w => law_pick at0 256 ha1 ha2 (by omega) (by omega) w)
      have hmm := pickN_lt at0 256 (by omega)
      generalize pickN at0 (wl.length + 1) = k at *
      generalize pickN at0 256 = m at *
      obtain ⟨x, hx⟩ : ∃ x, (H :: ds)[k]'(by rw [List.length_cons, Hdl.out]; omega) = x := ⟨_, rfl⟩
      have hxl : x.length = 256 := h256 x (by rw [← hx]; exact List.getElem_mem _)
      have hbv := byteN_val to0
      have Hxl := Lib.hid hxl
      have H256 := Lib.hid h256
      have Hx := Lib.hid hx
      have hcv := fun (w : World) => run_bytes_of_string (P := Tryd.prog) w 9 34 5 (B x) Tryd.underlying9 Tryd.underlying34 Tryd.underlying5
      have hxs := size_B x
      rw [hxl] at hxs
      clear hxl h256 hx
      generalize byteN to0 = bt at *
      go_enter Tryd.func4, Tryd.ntmps4
      go_wp2_with fail
      refine Hsh.out.mono ?_
      rintro e w1 ⟨rfl, hb⟩
      have HB := Lib.hid hb
      clear hb
      go_wp2_with fail
      refine (Hsm.out _ HB.out).mono ?_
      rintro e w2 ⟨rfl, rfl⟩
      go_wp2
      go_loopw [13] (fun x13 wr => ∃ k : Nat, k ≤ lt.length ∧ x13 = .int .i64 k ∧ (∀ j (hj : j < lt.length), j < k → (lt[j]).length ≤ 600) ∧ Below w.heap.size w wr) (fun x13 _ => lt.length - (intOf x13).toNat)
      case atStart => exact ⟨0, by omega, rfl, fun j hj h => by omega, HB.out⟩
      case round =>
        obtain ⟨k0, hk0, rfl, hall, hbel⟩ := hrel
        have Hbel := Lib.hid hbel
        have Hall := Lib.hid hall
        clear hall
        by_cases hlt : k0 < lt.length
        · obtain ⟨b, off, rfl, hb, _, c0⟩ := Hmc.out k0 hlt
          have c0 := cell_below hbel hb c0
          have hk1 : (k0 : Int) < (lt.length : Int) := by omega
          have hsz := size_B lt[k0]
          have hle := Hml.out lt[k0] (List.getElem_mem hlt)
          obtain ⟨s0, hs0⟩ : ∃ s, s = lt[k0] := ⟨_, rfl⟩
          rw [← hs0] at c0 hsz hle
          have Hs0 := Lib.hid hs0
          clear hbel hs0
          by_cases h6 : 600 < s0.length
          · have h6' : (600 : Int) < (s0.length : Int) := by omega
            go_wp2
            try rw [Exit.noGoto_ret]
            go_ret
            exact ⟨rfl, Hbel.out⟩
          · have h6' : (s0.length : Int) ≤ 600 := by omega
            go_wp2
            go_roundw
            case rel => exact ⟨k0 + 1, by omega, by go_num, fun j hj h => by
              rcases Nat.lt_or_ge j k0 with h' | h'
              · exact Hall.out j hj h'
              · obtain rfl : j = k0 := by omega
                rw [← Hs0.out]; omega, Hbel.out⟩
            case measure => simp [intOf]; omega
        · obtain rfl : k0 = lt.length := by omega
          have H6 : Hid (∀ s ∈ lt, s.length ≤ 600) := Lib.hid (fun s hs => by
            obtain ⟨j, hj, rfl⟩ := List.getElem_of_mem hs
            exact Hall.out j hj hj)
          have Hrd1 := Lib.hid (Hrd.out H6.out (by omega))
          clear hbel
          go_wp2_with (go_at_call 14; refine (Hwh.out _ Hbel.out).mono ?_; rintro e w3 ⟨v3, rfl, hown3, hb3⟩; have HW3 := Lib.hid (HwW.out _ _ _ hown3); have HB3 := Lib.hid (step_call Hbel.out hb3); clear hown3 hb3)
          refine (Hq1.out _ _ HW3.out).mono ?_
          rintro e w4 ⟨hb4, v4, rfl, hown4⟩
          have HB4 := Lib.hid (step_call HB3.out hb4)
          have Hlow := Lib.hid (fun q hq => (hown4.lt q hq).1)
          obtain ⟨g, cap, cur, rfl, hg, hcap, hgh, _, hcell, _⟩ := own_txt hown4 (by simp)
          have Hown4 := Lib.hid hown4
          have Hgh := Lib.hid hgh
          rw [List.length_cons, Hdl.out] at hcap ⊢
          have d0 := hcell k (by rw [List.length_cons, Hdl.out]; exact hkk)
          rw [Hx.out] at d0
          clear hb4 hcell hown4 hgh
          have hpos : (0 : Int) < (wl.length : Int) + 1 := by omega
          go_wp2_with fail
          refine (Hpk.out _).mono ?_
          rintro e w5 ⟨rfl, rfl⟩
          have hki : (k : Int) < (wl.length : Int) + 1 := by omega
          go_wp2_with fail
          refine (Hpm.out _).mono ?_
          rintro e w5 ⟨rfl, rfl⟩
          have hrow := BRow.of_string w4 (B x)
          rw [hxs, L_B] at hrow
          have hml : m < x.length := by rw [Hxl.out]; exact hmm
          have hc5 : ((w4.alloc (.cells (bytesRow (B x) (grownCap w4 256 0 5)) 5 ((bytesRow (B x) (grownCap w4 256 0 5)).size, (bytesRow (B x) (grownCap w4 256 0 5)).size + 1))).drew).cell? ⟨w4.heap.size, m, none⟩ = some (.int .u8 ((x[m].toNat : Nat) : Int)) := hrow.cell m hml
          have hf5 : ((w4.alloc (.cells (bytesRow (B x) (grownCap w4 256 0 5)) 5 ((bytesRow (B x) (grownCap w4 256 0 5)).size, (bytesRow (B x) (grownCap w4 256 0 5)).size + 1))).drew).frozen? ⟨w4.heap.size, m, none⟩ = false := hrow.frozen m hml
          have Hrow := Lib.hid (hrow.set m hml bt)
          rw [hbv] at Hrow
          have hmi : (m : Int) < 256 := by omega
          have Hbv := Lib.hid hbv
          have hb6 : Below w4.heap.size w4 (((w4.alloc (.cells (bytesRow (B x) (grownCap w4 256 0 5)) 5 ((bytesRow (B x) (grownCap w4 256 0 5)).size, (bytesRow (B x) (grownCap w4 256 0 5)).size + 1))).setCell ⟨w4.heap.size, m, none⟩ (.int .u8 (to0 % 256))).drew) := (((Below.refl _ _).alloc (Nat.le_refl _) _).setCell (Nat.le_refl _) _).drew
          have hr6 : BRow (((w4.alloc (.cells (bytesRow (B x) (grownCap w4 256 0 5)) 5 ((bytesRow (B x) (grownCap w4 256 0 5)).size, (bytesRow (B x) (grownCap w4 256 0 5)).size + 1))).setCell ⟨w4.heap.size, m, none⟩ (.int .u8 (to0 % 256))).drew) w4.heap.size (x.set m bt) := Hrow.out
          have hls : (x.set m bt).length = 256 := by rw [List.length_set, Hxl.out]
          have hcb := BRow.conv hr6 (grownCap w4 256 0 5)
          rw [hls] at hcb
          have d6 := cell_below hb6 hg d0
          have hfz : (((w4.alloc (.cells (bytesRow (B x) (grownCap w4 256 0 5)) 5 ((bytesRow (B x) (grownCap w4 256 0 5)).size, (bytesRow (B x) (grownCap w4 256 0 5)).size + 1))).setCell ⟨w4.heap.size, m, none⟩ (.int .u8 (to0 % 256))).drew).frozen? ⟨g, k, none⟩ = false := Lib.frozen_of_heap ((hb6.block g hg).trans Hgh.out) k
          have Hown6 := Lib.hid (own_txt_set (own_kept Hown4.out hb6) k (by rw [List.length_cons, Hdl.out]; exact hkk) (x.set m bt))
          have HB6 : Hid (Below w.heap.size w ((((w4.alloc (.cells (bytesRow (B x) (grownCap w4 256 0 5)) 5 ((bytesRow (B x) (grownCap w4 256 0 5)).size, (bytesRow (B x) (grownCap w4 256 0 5)).size + 1))).setCell ⟨w4.heap.size, m, none⟩ (.int .u8 (to0 % 256))).drew).setCell ⟨g, k, none⟩ (.string (B (x.set m bt))))) := Lib.hid ((step_call HB4.out hb6).setCell (by have := Hlow.out g rfl; have := HB3.out.size; exact Nat.le_trans this (by assumption)) _)
          have Hps : Hid (∀ s ∈ (H :: ds).set k (x.set m bt), s.length = 256) := Lib.hid (fun s hs => by
            rcases List.mem_or_eq_of_mem_set hs with hs | rfl
            · exact H256.out s hs
            · exact hls)
          have hpl : ((H :: ds).set k (x.set m bt)).length = wl.length + 1 := by rw [List.length_set, List.length_cons, Hdl.out]
          have Hpl := Lib.hid hpl
          clear hrow hbv hr6 hls hb6 hpl d0
          generalize hps : (H :: ds).set k (x.set m bt) = ps at Hown6 Hps Hpl
          rw [Hpl.out] at Hown6
          clear hps
          go_wp2_with fail
          refine (Hrd1.out _ HB6.out).mono ?_
          rintro e w8 ⟨rfl, hb8⟩
          have HB8 := Lib.hid (step_call HB6.out hb8)
          have hown8 := own_kept Hown6.out hb8
          have hown8 := show w8.ownsRow _ 9 1 (.slice (some ⟨g, 0, none⟩) ps.length cap) ps.length (txtCells ps) by rw [Hpl.out]; exact hown8
          obtain ⟨g', cap', cur', hgg, hg8, _, _, _, hcell, _⟩ := own_txt hown8 (by rw [Hpl.out]; omega)
          simp only [Value.slice.injEq, Option.some.injEq, Addr.mk.injEq, and_true, true_and] at hgg
          obtain ⟨rfl, rfl⟩ := hgg
          have hnews := Lib.hid (txt_news (w := w8.alloc (.cells #[] 9)) (b := g) (off := 0) (l := ps) (fun i hi => by rw [Nat.zero_add]; exact cell_alloc _ (hcell i hi)))
          have hlc : (txtCells ps).length = (wl.length + 1) * 1 := by rw [txtCells_length, Hpl.out, Nat.mul_one]
          have Hlc := Lib.hid hlc
          have hown0 := Lib.hid (own_emptyF w8 9 1 w8.heap.size (Nat.le_refl _))
          clear hb8 hown8 hcell hlc hg8 hcb d6 hfz hc5 hf5
          go_wp2_with (at_builtin; go_must (refine wpList_append_where _ rfl (.tmp 79) (.tmp 80) 26 rfl w8.heap.size 9 i0 (.string ⟨#[]⟩) 1 16 Tryd.underlying26 hi hz0 hz1 hz2 rfl (by decide) _ _ _ rfl hown0.out ⟨g, 0, none⟩ (wl.length + 1) cap (txtCells ps) rfl Hlc.out hnews.out (txtCells_oneF _) ?c3 ?c4 ?c5 ?_))
          case c3 => unfold maxLen; omega
          case c4 => omega
          case c5 => simp
          intro v5 w5 hown5 hgrow5 _
          have hb5 : Below w8.heap.size w8 w5 := (step_new (Below.refl w8.heap.size w8) _).grown hgrow5 (by simp) (fun q hq => by simp only [Value.ownBlock, Option.some.injEq] at hq; omega)
          try rw [Nat.zero_add] at hown5
          try rw [List.nil_append] at hown5
          have HP0 : Hid (∀ s ∈ ps ++ lt, s.length ≤ 1000000) := Lib.hid (fun s hs => by
            rcases List.mem_append.1 hs with hs | hs
            · rw [Hps.out s hs]; omega
            · have := H6.out s hs; omega)
          have Hb5 := Lib.hid hb5
          have Hown5 := Lib.hid hown5
          have hb5s := hb5.size
          obtain ⟨a5, c5', rfl⟩ := own_form hown5
          have hsrc := Lib.hid (txt_src Hmc.out (step_call HB8.out hb5))
          have hlm : (txtCells lt).length = lt.length * 1 := by rw [txtCells_length, Nat.mul_one]
          have Hlm := Lib.hid hlm
          clear hown5 hgrow5 hb5 hlm
          go_wp2_with (at_builtin; go_must (refine wpList_append_any _ rfl (.tmp 81) (.tmp 82) 26 rfl w8.heap.size 9 i0 (.string ⟨#[]⟩) 1 16 Tryd.underlying26 hi hz0 hz1 hz2 rfl (by decide) _ _ _ rfl Hown5.out om lt.length cm (txtCells lt) rfl Hlm.out Hnil.out hsrc.out (txtCells_oneF _) ?d3 ?d4 ?d5 ?_))
          case d3 => unfold maxLen; omega
          case d4 => omega
          case d5 => omega
          intro v6 w9 hown6 hgrow6 _
          have hb6 : Below w8.heap.size w8 w9 := Hb5.out.grown hgrow6 hb5s (fun q hq => (Hown5.out.lt q hq).1)
          try rw [show ([] : List Value) = txtCells [] from rfl] at hown6
          rw [txtCells_append] at hown6
          have hrow6 : Row w9 v6 (txtV (ps ++ lt)) := own_row (by rw [List.length_append, Hpl.out]; exact hown6)
          have Hrow6 := Lib.hid hrow6
          have HB9 := Lib.hid (step_call HB8.out hb6)
          have Hlast := Lib.hid (law_reads v6 (ps ++ lt) w9 (by rw [List.length_append, Hpl.out]; omega) HP0.out hrow6)
          clear hown6 hgrow6 hb6 hrow6
          go_wp2_with fail
          refine Hlast.out.mono ?_
          rintro e w10 ⟨rfl, hb10⟩
          have HB10 := Lib.hid (step_call HB9.out hb10)
          clear hb10
          go_wp2
          go_ret
          exact ⟨rfl, HB10.out⟩
theorem walk_FrameReads (vt : Value) (zs : List ByteArray) (sq : Int) (v : Value) (l : List Wr) (at0 to0 : Int) (w : World) (hm : Row w vt (zs.map Value.string)) (hz : ∀ s ∈ zs, s.size ≤ maxLen) (hmn : ∀ n c, vt = .slice none n c → n = 0 ∧ c = 0) (hs : (Lit.int .u64 sq).wf = true) (hw : Wrs w v l) (hf : ∀ e ∈ l, (Lit.int .i64 e.1).wf = true ∧ e.2.length ≤ maxLen) (hn : l.length ≤ maxLen) (ha : (Lit.int .i64 at0).wf = true) (_ : (Lit.int .i64 to0).wf = true) :
    Calls Tryd.prog 4 #[vt, .int .u64 sq, v, .int .i64 at0, .int .i64 to0] w fun e w' => e = .returned (.bool true) ∧ Below w.heap.size w w' := by
  obtain ⟨h1, h2⟩ := boundsu64 hs
  obtain ⟨a1, a2⟩ := bounds64 ha
  obtain ⟨seq, rfl⟩ := Int.eq_ofNat_of_zero_le h1
  unfold maxLen at hn hz
  have e : txtV (zs.map L) = zs.map Value.string := by
    unfold txtV
    rw [List.map_map]
    apply List.map_congr_left
    intro s _
    simp only [Function.comp, B_L]
  exact core_FrameReads (zs.map L) vt seq (by omega) v l at0 to0 a1 a2 w (by rw [e]; exact hm) hmn (fun s hs => by
    obtain ⟨z, hz', rfl⟩ := List.mem_map.1 hs
    have := hz z hz'
    rw [length_L]; omega) hw (by omega) (wr_bounds hf)
end Go.Proofs.YtnljmhdaloolgaaDoor
