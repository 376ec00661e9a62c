/- The law FrameBack returns true for every number, writes and texts. Condition: numbers and lengths fit an int. -/
import Derived.Test.YtnljmhdaloolgaaDoorFrmL
namespace Go.Proofs.YtnljmhdaloolgaaDoor
open Go.RowKit Go.Wir Go.Blk Go.Frm

theorem own_emptyF (w : World) (t : TypeId) (size base : Nat) (hb : base ≤ w.heap.size) : (w.alloc (.cells #[] t)).ownsRow base t size (.slice (some ⟨w.heap.size, 0, none⟩) 0 0) 0 [] :=
  ⟨by simp, .inr ⟨w.heap.size, 0, #[], rfl, hb, heap_alloc_new w _, by omega, by unfold maxLen; omega, by simp, by simp⟩⟩
/-- A slice of texts as a source of an append. -/
theorem txt_src {w w' : World} {l : List Txt} {oa : Option Addr} {c : Nat} (hc : ∀ i (hi : i < l.length), ∃ b off, oa = some ⟨b, off, none⟩ ∧ b < w.heap.size ∧ l.length ≤ c ∧ w.cell? ⟨b, off + i, none⟩ = some (.string (B l[i]))) (b : Below w.heap.size w w') :
    ∀ ad, oa = some ad → ∀ j u, (txtCells l)[j]? = some u → w'.cell? (ad.add j) = some u := by
  intro ad had j u hu
  have hj : j < l.length := by
    have := (List.getElem?_eq_some_iff.1 hu).1
    rwa [txtCells_length] at this
  obtain ⟨b', off, e, _, _, h1⟩ := hc j hj
  rw [e] at had
  simp only [Option.some.injEq] at had
  subst had
  rw [addr_add, cell_call b h1, ← hu]
  simp [txtCells, hj]
theorem txtCells_append (a b : List Txt) : txtCells a ++ txtCells b = txtCells (a ++ b) := by simp [txtCells]
theorem intW_natW {l : List Wr} (h : Fine l) : intW (natW l) = l := by
  unfold intW natW
  rw [List.map_map]
  conv => rhs; rw [← List.map_id l]
  apply List.map_congr_left
  intro p hp
  have := (h p hp).1
  simp only [Function.comp, id]
  rw [show ((p.1.toNat : Nat) : Int) = p.1 by omega]
set_option maxRecDepth 100000 in
set_option maxHeartbeats 1600000 in
theorem core_FrameBack (seq : Nat) (hs : seq < 18446744073709551616) (v vm : Value) (l : List Wr) (more : List Txt) (w : World) (hw : Wrs w v l) (hn : l.length ≤ 9223372036854775807) (hf : FitW l) (hm : Row w vm (txtV more)) (hmn : ∀ n c, vm = .slice none n c → n = 0 ∧ c = 0) (hml : ∀ s ∈ more, s.length ≤ 9223372036854775807) :
    Calls Tryd.prog 5 #[.int .u64 (seq : Nat), v, vm] w fun e w' => e = .returned (.bool true) ∧ Below w.heap.size w w' := by
  have Hsh := Lib.hid (law_shown w)
  have Hw := Lib.hid hw
  have Hf := Lib.hid hf
  have Hs := Lib.hid hs
  have Hml := Lib.hid hml
  have Hsm := Lib.hid (fun w' (b : Below w.heap.size w w') => law_small v l w' (hw.below b) hn (fun p hp => (hf p hp).2.2))
  obtain ⟨oa, c, rfl, _⟩ := hw.form
  obtain ⟨om, cm, rfl, hmc⟩ := txt_row hm
  have Hnil : Hid (om = none → more.length = 0 ∧ cm = 0) := Lib.hid (fun e => hmn _ _ (by rw [e]))
  have Hmc := Lib.hid hmc
  obtain ⟨sq, hsq⟩ : ∃ s : Int, s = (seq : Int) := ⟨_, rfl⟩
  have Hsq := Lib.hid hsq
  rw [← hsq]
  clear hw hf hs hsq hm hmn hml hmc
  cases hsm : smallW l with
  | false =>
    rw [hsm] at Hsm
    clear hsm
    go_enter Tryd.func5, Tryd.ntmps5
    go_wp2_with fail
    refine Hsh.out.mono ?_
    rintro e w1 ⟨rfl, hb⟩
    have HB := Lib.hid hb
    clear hb
    go_wp2_with fail
    refine (Hsm.out _ HB.out).mono ?_
    rintro e w2 ⟨rfl, rfl⟩
    go_wp2
    go_ret
    exact ⟨rfl, HB.out⟩
  | true =>
    obtain ⟨hl60, hl600⟩ := small_bounds hsm
    rw [hsm] at Hsm
    by_cases h60 : 60 < more.length
    · clear hsm
      go_enter Tryd.func5, Tryd.ntmps5
      go_wp2_with fail
      refine Hsh.out.mono ?_
      rintro e w1 ⟨rfl, hb⟩
      have HB := Lib.hid hb
      clear hb
      go_wp2_with fail
      refine (Hsm.out _ HB.out).mono ?_
      rintro e w2 ⟨rfl, rfl⟩
      go_wp2
      go_ret
      exact ⟨rfl, HB.out⟩
    have Hwh := Lib.hid (fun w' (b : Below w.heap.size w w') => law_whole _ l w' (Hw.out.below b) hn (fun p hp => ⟨(Hf.out p hp).1, (Hf.out p hp).2.1, by have := hl600 p hp; omega⟩))
    have HwW : Hid (∀ w' base v', w'.ownsRow base 45 2 v' (wholeN l).length (wrCells (wholeN l)) → Wrs w' v' (wholeW l)) := Lib.hid (fun _ _ _ h => own_wrs h)
    have Hfit2 := Lib.hid (fine_fit (whole_fine l))
    have hWl := wholeW_length l
    have Hq1 := Lib.hid (fun v' w' (h : Wrs w' v' (wholeW l)) => frame_Pack seq (wholeW l) v' Hs.out (by omega) Hfit2.out w' h)
    unfold PackPost at Hq1
    by_cases h0 : l.length = 0
    · have hw0 : (wholeW l).length = 0 := by omega
      have hwe : wholeW l = [] := List.eq_nil_of_length_eq_zero hw0
      rw [hwe] at Hq1 HwW
      rw [show packE [] = 6 from rfl] at Hq1
      rw [← Hsq.out] at Hq1
      clear hsm hwe hWl hw0 h0
      go_enter Tryd.func5, Tryd.ntmps5
      go_wp2_with fail
      refine Hsh.out.mono ?_
      rintro e w1 ⟨rfl, hb⟩
      have HB := Lib.hid hb
      clear hb
      go_wp2_with fail
      refine (Hsm.out _ HB.out).mono ?_
      rintro e w2 ⟨rfl, rfl⟩
      go_wp2_with (go_at_call 14; refine (Hwh.out _ HB.out).mono ?_; rintro e w3 ⟨v3, rfl, hown3, hb3⟩; have HW3 := Lib.hid (HwW.out _ _ _ hown3); have HB3 := Lib.hid (step_call HB.out hb3); clear hown3 hb3)
      refine (Hq1.out _ _ HW3.out).mono ?_
      rintro e w4 ⟨hb4, v4, rfl, _⟩
      have HB4 := Lib.hid (step_call HB3.out hb4)
      obtain ⟨ow, cw, rfl, _⟩ := HW3.out.form
      clear hb4
      go_wp2
      go_ret
      exact ⟨rfl, HB4.out⟩
    · obtain ⟨H, hH⟩ : ∃ H, Packed seq l H (datas (wholeW l)) := ⟨_, packed_of seq l (by omega)⟩
      have Hgood := Lib.hid (unpL_pack seq (wholeW l) more Hs.out (by omega) (by omega) (whole_fine l))
      have hinw := intW_natW (whole_fine l)
      have Hinw := Lib.hid hinw
      have Hread : Hid (headV H = (seq, (wholeW l).length, true)) := Lib.hid (by
        unfold headV
        rw [hH.head, readL_head seq (ats (wholeW l)) _ Hs.out (by rw [ats_length]; omega) (by rw [ats_length]; omega) (ats_lt (whole_fine l))]
        simp only [ats_length])
      have Hhead := Lib.hid (fun w => frame_Head H (by rw [hH.len]; omega) w)
      rw [Hread.out] at Hhead
      rw [packE_whole l (by omega), hH.pack] at Hq1
      rw [hH.pack] at Hgood
      have HHl := Lib.hid hH.len
      have Hdl := Lib.hid hH.dlen
      have Hds256 := Lib.hid (show ∀ s ∈ datas (wholeW l), s.length = 256 from fun s hs => by
        have := datas_256 (whole_fine l)
        rw [List.all_eq_true] at this
        exact of_decide_eq_true (this s hs))
      have Hsame := Lib.hid (fun va vb w (ha : Wrs w va (wholeW l)) (hb : Wrs w vb (wholeW l)) => law_sameWrites va vb (wholeW l) (by omega) w ha hb)
      have hw48 : (wholeW l).length ≤ 48 := by omega
      have hw1 : ((((wholeW l).length : Nat) : Int) == 0) = false := by rw [beq_eq_false_iff_ne]; omega
      rw [← Hsq.out] at Hq1 Hhead
      clear hsm h0 hWl hH hinw
      generalize natW (wholeW l) = nw at *
      generalize wholeW l = wl at *
      generalize datas wl = ds at *
      have Hun := Lib.hid (fun v' w' (h : Row w' v' (txtV ((H :: ds) ++ more))) => frame_Unpack ((H :: ds) ++ more) v' (by rw [List.length_append, List.length_cons, Hdl.out]; omega) (fun s hs => by
        rcases List.mem_append.1 hs with hs | hs
        · rcases List.mem_cons.1 hs with rfl | hs
          · rw [HHl.out]; omega
          · have := Hds256.out s hs; omega
        · exact Hml.out s hs) w' h)
      unfold UnpPost at Hun
      rw [Hgood.out] at Hun
      simp only at Hun
      rw [← Hsq.out] at Hun
      obtain ⟨i0, hi, hz0, hz1, hz2⟩ := info_parts Tryd.info_strF
      go_enter Tryd.func5, Tryd.ntmps5
      go_wp2_with fail
      refine Hsh.out.mono ?_
      rintro e w1 ⟨rfl, hb⟩
      have HB := Lib.hid hb
      clear hb
      go_wp2_with fail
      refine (Hsm.out _ HB.out).mono ?_
      rintro e w2 ⟨rfl, rfl⟩
      go_wp2_with (go_at_call 14; refine (Hwh.out _ HB.out).mono ?_; rintro e w3 ⟨v3, rfl, hown3, hb3⟩; have HW3 := Lib.hid (HwW.out _ _ _ hown3); have HB3 := Lib.hid (step_call HB.out hb3); clear hown3 hb3)
      refine (Hq1.out _ _ HW3.out).mono ?_
      rintro e w4 ⟨hb4, v4, rfl, hown4⟩
      have HW4 := Lib.hid (HW3.out.below hb4)
      have HB4 := Lib.hid (step_call HB3.out hb4)
      obtain ⟨g, cap, cur, rfl, hg, hcap, _, _, hcell, _⟩ := own_txt hown4 (by simp)
      rw [List.length_cons, Hdl.out] at hcap ⊢
      obtain ⟨ow, cw, rfl, _⟩ := HW4.out.form
      have d0 := hcell 0 (by simp)
      rw [List.getElem_cons_zero] at d0
      have hnews := Lib.hid (txt_news (w := w4.alloc (.cells #[] 9)) (b := g) (off := 0) (l := H :: ds) (fun i hi => by rw [Nat.zero_add]; exact cell_alloc _ (hcell i hi)))
      have hlenD := Hdl.out
      have hlc : (txtCells (H :: ds)).length = (wl.length + 1) * 1 := by rw [txtCells_length, List.length_cons, Hdl.out, Nat.mul_one]
      have Hlc := Lib.hid hlc
      have hown0 := Lib.hid (own_emptyF w4 9 1 w4.heap.size (Nat.le_refl _))
      clear hb4 hown4 hcell hlenD hlc
      go_wp2_with (at_builtin; go_must (refine wpList_append_where _ rfl (.tmp 48) (.tmp 49) 26 rfl w4.heap.size 9 i0 (.string ⟨#[]⟩) 1 16 Tryd.underlying26 hi hz0 hz1 hz2 rfl (by decide) _ _ _ rfl hown0.out ⟨g, 0, none⟩ (wl.length + 1) cap (txtCells (H :: ds)) rfl Hlc.out hnews.out (txtCells_oneF _) ?c3 ?c4 ?c5 ?_))
      case c3 => unfold maxLen; omega
      case c4 => omega
      case c5 => simp
      intro v5 w5 hown5 hgrow5 _
      have hb5 : Below w4.heap.size w4 w5 := (step_new (Below.refl w4.heap.size w4) _).grown hgrow5 (by simp) (fun q hq => by simp only [Value.ownBlock, Option.some.injEq] at hq; omega)
      try rw [Nat.zero_add] at hown5
      try rw [List.nil_append] at hown5
      have Hb5 := Lib.hid hb5
      have Hown5 := Lib.hid hown5
      have hb5s := hb5.size
      obtain ⟨a5, c5', rfl⟩ := own_form hown5
      have hsrc := Lib.hid (txt_src Hmc.out (step_call HB4.out hb5))
      have hlm : (txtCells more).length = more.length * 1 := by rw [txtCells_length, Nat.mul_one]
      have Hlm := Lib.hid hlm
      clear hown5 hgrow5 hb5 hlm
      go_wp2_with (at_builtin; go_must (refine wpList_append_any _ rfl (.tmp 50) (.tmp 51) 26 rfl w4.heap.size 9 i0 (.string ⟨#[]⟩) 1 16 Tryd.underlying26 hi hz0 hz1 hz2 rfl (by decide) _ _ _ rfl Hown5.out om more.length cm (txtCells more) rfl Hlm.out Hnil.out hsrc.out (txtCells_oneF _) ?d3 ?d4 ?d5 ?_))
      case d3 => unfold maxLen; omega
      case d4 => omega
      case d5 => omega
      intro v6 w6 hown6 hgrow6 _
      have hb6 : Below w4.heap.size w4 w6 := Hb5.out.grown hgrow6 hb5s (fun q hq => (Hown5.out.lt q hq).1)
      rw [txtCells_append] at hown6
      have hrow6 : Row w6 v6 (txtV ((H :: ds) ++ more)) := own_row (by rw [List.length_append, List.length_cons, Hdl.out]; exact hown6)
      have Hrow6 := Lib.hid hrow6
      have Hb6 := Lib.hid hb6
      have d6 := cell_below hb6 hg d0
      have HW6 := Lib.hid (HW4.out.below hb6)
      clear hown6 hgrow6 hb6 hrow6 d0
      go_wp2_with fail
      refine (Hun.out _ _ Hrow6.out).mono ?_
      rintro e w7 ⟨hb7, v7, rfl, hown7⟩
      have Hx7 := Lib.hid (show Wrs w7 v7 wl by have := own_wrs hown7; rwa [Hinw.out] at this)
      have HW7 := Lib.hid (HW6.out.below hb7)
      have HB7 := Lib.hid (step_call (step_call HB4.out Hb6.out) hb7)
      have d7 := cell_call hb7 d6
      clear hb7 hown7 d6
      go_wp2_with fail
      refine (Hhead.out _).mono ?_
      rintro e w8 ⟨rfl, hb8⟩
      have Hx8 := Lib.hid (Hx7.out.below hb8)
      have HW8 := Lib.hid (HW7.out.below hb8)
      have HB8 := Lib.hid (step_call HB7.out hb8)
      clear hb8
      go_wp2_with fail
      refine (Hsame.out _ _ _ Hx8.out HW8.out).mono ?_
      rintro e w9 ⟨rfl, hb9⟩
      have HB9 := Lib.hid (step_call HB8.out hb9)
      have q1 : (sq == sq) = true := by simp
      have q2 : ((wl.length : Int) == (wl.length : Int)) = true := by simp
      clear hb9
      go_wp2
      go_ret
      exact ⟨rfl, HB9.out⟩
theorem walk_FrameBack (sq : Int) (v : Value) (l : List Wr) (vm : Value) (zs : List ByteArray) (w : World) (hs : (Lit.int .u64 sq).wf = true) (hw : Wrs w v l) (hf : ∀ e ∈ l, (Lit.int .i64 e.1).wf = true ∧ e.2.length ≤ maxLen) (hn : l.length ≤ maxLen) (hm : Row w vm (zs.map Value.string)) (hz : ∀ s ∈ zs, s.size ≤ maxLen) (hmn : ∀ n c, vm = .slice none n c → n = 0 ∧ c = 0) :
    Calls Tryd.prog 5 #[.int .u64 sq, v, vm] w fun e w' => e = .returned (.bool true) ∧ Below w.heap.size w w' := by
  obtain ⟨h1, h2⟩ := boundsu64 hs
  obtain ⟨seq, rfl⟩ := Int.eq_ofNat_of_zero_le h1
  unfold maxLen at hn hz
  have e : txtV (zs.map L) = zs.map Value.string := by
    unfold txtV
    rw [List.map_map]
    apply List.map_congr_left
    intro s _
    simp only [Function.comp, B_L]
  exact core_FrameBack seq (by omega) v vm l (zs.map L) w hw (by omega) (wr_bounds hf) (by rw [e]; exact hm) hmn (fun s hs => by
    obtain ⟨z, hz', rfl⟩ := List.mem_map.1 hs
    have := hz z hz'
    rw [length_L]; omega)
end Go.Proofs.YtnljmhdaloolgaaDoor
