/- Chapter 3: the program's Pack. Conditions: numbers that fit, lengths. -/
import Derived.Test.YtlgfjoicdbjfjaaDoorFrmB
import Derived.Test.YtlgfjoicdbjfjaaDoorRep
namespace Go.Proofs.YtlgfjoicdbjfjaaDoor
open Go.RowKit Go.Wir Go.Blk Go.Frm Go.Shelf

theorem repeat_zeroF : ∀ c, Lib.repeatL [0] c = List.replicate c (0 : UInt8)
  | 0 => rfl
  | c + 1 => by rw [Lib.repeatL, repeat_zeroF c]; rfl
theorem repF (n : Nat) (h0 : 2 ≤ n) (h1 : n ≤ 100000) (w : World) : Calls Tryd.prog 47 #[.string ⟨#[0]⟩, .int .i64 (n : Nat)] w fun e w' => e = .returned (.string (B (List.replicate n 0))) ∧ Below w.heap.size w w' := by
  have := Any.strings_Repeat_main rren_105 rren_extra ⟨#[0]⟩ n w h0 (by omega) (by rw [show (⟨#[0]⟩ : ByteArray).size = 1 from rfl]; omega) (by decide)
  rw [show (⟨#[0]⟩ : ByteArray).data.toList = [0] from rfl, repeat_zeroF] at this
  exact this
def PackPost (seq : Nat) (l : List Wr) (base : Nat) (e : Ending) (w' : World) : Prop := ∃ v, e = .returned (.tuple #[v, .int .i64 (packE l : Nat)]) ∧ w'.ownsRow base 9 1 v (packT seq l).length (txtCells (packT seq l))
theorem PackPost.bad {seq : Nat} {l : List Wr} {base c : Nat} {w' : World} (h : packE l = c) (h0 : c ≠ 0) : PackPost seq l base (.returned (.tuple #[.slice none 0 0, .int .i64 (c : Nat)])) w' := by
  refine ⟨_, by rw [h], ?_⟩
  unfold packT
  rw [h, if_neg h0]
  exact World.ownsRow_nil _ _ _ _
theorem badE_step (l : List Wr) (k : Nat) (h : k < l.length) : badE (l.drop k) = if l[k].1 < 0 ∨ 4096 ≤ l[k].1 then 2 else if l[k].2.length ≠ 256 then 3 else badE (l.drop (k + 1)) := by
  rw [List.drop_eq_getElem_cons h]; rfl
set_option maxRecDepth 100000 in
set_option maxHeartbeats 1600000 in
theorem frame_Pack (seq : Nat) (l : List Wr) (v : Value) (hs : seq < 18446744073709551616) (hn : l.length ≤ 9223372036854775807) (hfit : ∀ p ∈ l, -9223372036854775808 ≤ p.1 ∧ p.1 ≤ 9223372036854775807 ∧ p.2.length ≤ 9223372036854775807) (w : World) (hw : Wrs w v l) :
    Calls Tryd.prog 35 #[.int .u64 (seq : Nat), v] w fun e w' => Below w.heap.size w w' ∧ PackPost seq l w.heap.size e w' := by
  obtain ⟨oa, cap, rfl, hcell⟩ := hw.form
  have Hcell := Lib.hid hcell
  have Hfit := Lib.hid hfit
  clear hcell hfit hw
  by_cases hm : l.length = 0 ∨ 48 < l.length
  · have HE : Hid (packE l = 6) := Lib.hid (by unfold packE; rw [if_pos hm])
    rcases hm with h0 | h0
    · have h1 : ((l.length : Int) == 0) = true := by rw [h0]; rfl
      clear h0
      go_enter Tryd.func35, Tryd.ntmps35
      go_wp2
      go_ret2
      exact ⟨Below.refl _ _, PackPost.bad (c := 6) HE.out (by omega)⟩
    · have h1 : ((l.length : Int) == 0) = false := by rw [beq_eq_false_iff_ne]; omega
      go_enter Tryd.func35, Tryd.ntmps35
      go_wp2
      go_ret2
      exact ⟨Below.refl _ _, PackPost.bad (c := 6) HE.out (by omega)⟩
  · have HP : Hid (packE l = badE l) := Lib.hid (by unfold packE; rw [if_neg hm])
    have hl1 : 1 ≤ l.length := by omega
    have hl2 : l.length ≤ 48 := by omega
    have h1 : ((l.length : Int) == 0) = false := by rw [beq_eq_false_iff_ne]; omega
    have hf4 : ∀ n, (fixedL n).length = 4 := fixedL_length
    have HF4 := Lib.hid hf4
    obtain ⟨i0, hi, hz0, hz1, hz2⟩ := info_parts Tryd.info_strF
    clear hm hf4
    obtain ⟨sq, hsq⟩ : ∃ s : Int, s = (seq : Int) := ⟨_, rfl⟩
    have hsq0 : 0 ≤ sq := by omega
    have Hsq := Lib.hid (show sq = (seq : Int) ∧ seq < 18446744073709551616 from ⟨hsq, hs⟩)
    rw [← hsq]
    clear hsq hs
    go_enter Tryd.func35, Tryd.ntmps35
    have hq1 : (sq % 4294967296).toNat = seq % 4294967296 := by have := Hsq.out; omega
    have hq2 : (sq / 4294967296).toNat = seq / 4294967296 := by have := Hsq.out; omega
    have hq3 : sq / 4294967296 < 4294967296 := by have := Hsq.out; omega
    have F1 := Lib.hid (fun w => wire_Fixed (sq % 4294967296) (by omega) (by omega) w)
    rw [hq1] at F1
    have F2 := Lib.hid (fun w => wire_Fixed (sq / 4294967296) (by omega) hq3 w)
    rw [hq2] at F2
    have F3 := Lib.hid (fun w => wire_Fixed (l.length : Int) (by omega) (by omega) w)
    rw [Int.toNat_natCast] at F3
    have HT : Hid (frontT seq l.length = magicT ++ fixedL (seq % 4294967296) ++ fixedL (seq / 4294967296) ++ fixedL l.length) := Lib.hid rfl
    clear hq1 hq2
    have hz1 := size_B (fixedL (seq % 4294967296))
    have hz2 := size_B (fixedL (seq / 4294967296))
    have hz3 := size_B (fixedL l.length)
    rw [HF4.out] at hz1 hz2 hz3
    generalize fixedL (seq % 4294967296) = f1 at *
    generalize fixedL (seq / 4294967296) = f2 at *
    generalize hf3 : fixedL l.length = f3 at *
    clear hf3
    go_wp2_with fail
    refine (F1.out _).mono ?_
    rintro e w1 ⟨rfl, hb1⟩
    have Hb1 := Lib.hid hb1
    clear hb1
    go_wp2_with fail
    refine (F2.out _).mono ?_
    rintro e w2 ⟨rfl, hb2⟩
    have Hb2 := Lib.hid (step_call Hb1.out hb2)
    clear hb2
    go_wp2_with fail
    refine (F3.out _).mono ?_
    rintro e w3 ⟨rfl, hb3⟩
    have Hb3 := Lib.hid (step_call Hb2.out hb3)
    clear hb3
    go_wp2
    have hF : (⟨#[67, 68, 88, 84]⟩ : ByteArray) ++ B f1 ++ B f2 ++ B f3 = B (frontT seq l.length) := by
      rw [HT.out, show (⟨#[67, 68, 88, 84]⟩ : ByteArray) = B magicT from rfl, B_append, B_append, B_append]
    have HF := Lib.hid hF
    clear hF hz1 hz2 hz3
    have HFl := Lib.hid (frontT_length seq l.length)
    go_loopw [7, 6, 34] (fun x7 x6 x34 wr => ∃ k : Nat, k ≤ l.length ∧ x34 = .int .i64 k ∧ x7 = .string (B (frontT seq l.length ++ nums (ats (l.take k)))) ∧ wr.ownsRow w.heap.size 9 1 x6 k (txtCells (datas (l.take k))) ∧ badE l = badE (l.drop k) ∧ Below w.heap.size w wr) (fun _ _ x34 _ => l.length - (intOf x34).toNat)
    case atStart => exact ⟨0, by omega, rfl, by rw [HF.out]; simp [ats, nums], World.ownsRow_nil _ _ _ _, rfl, Hb3.out⟩
    case round =>
      obtain ⟨k, hk, rfl, rfl, hown, hbad, hbel⟩ := hrel
      have Hbad := Lib.hid hbad
      have hbz := hbel.size
      obtain ⟨ax, cx, rfl⟩ := own_form hown
      have Hown := Lib.hid hown
      by_cases hlt : k < l.length
      · obtain ⟨b, off, rfl, hb, e1, e2⟩ := Hcell.out k hlt
        have e1 := cell_below hbel hb e1
        have e2 := cell_below hbel hb e2
        have hff := Hfit.out l[k] (List.getElem_mem hlt)
        have Hst := Lib.hid (badE_step l k hlt)
        have hnum : (B (frontT seq l.length ++ nums (ats (l.take k)))).size = 16 + 4 * k := by
          rw [size_B, List.length_append, HFl.out, nums_length, ats_length, List.length_take]; omega
        have HT1 : Hid (∀ (q : Nat), l[k].1 = (q : Int) → frontT seq l.length ++ nums (ats (l.take (k + 1))) = frontT seq l.length ++ nums (ats (l.take k)) ++ fixedL q) := Lib.hid (fun q hq => by
          rw [List.take_succ_eq_append_getElem hlt]
          unfold ats
          rw [List.map_append, nums_append, List.append_assoc]
          show _ ++ (_ ++ nums [l[k].1.toNat]) = _
          rw [hq, Int.toNat_natCast]
          simp [nums])
        have HD1 : Hid (txtCells (datas (l.take k)) ++ [.string (B l[k].2)] = txtCells (datas (l.take (k + 1)))) := Lib.hid (by
          rw [List.take_succ_eq_append_getElem hlt]; unfold datas txtCells; rw [List.map_append, List.map_append]; rfl)
        have Hbel := Lib.hid hbel
        have hk1 : (k : Int) < (l.length : Int) := by omega
        clear hbad hown hbel
        generalize frontT seq l.length ++ nums (ats (l.take k)) = T at *
        generalize l[k] = p at *
        obtain ⟨pb, ps⟩ := p
        simp only at e1 e2 Hst HT1 HD1
        obtain ⟨hf1, hf2, hf3⟩ : -9223372036854775808 ≤ pb ∧ pb ≤ 9223372036854775807 ∧ ps.length ≤ 9223372036854775807 := hff
        have hps := size_B ps
        by_cases hp0 : pb < 0
        · have HE : Hid (packE l = 2) := Lib.hid (by rw [HP.out, Hbad.out, Hst.out, if_pos (.inl hp0)])
          go_wp2
          go_ret2
          exact ⟨step_new Hbel.out _, PackPost.bad (c := 2) HE.out (by omega)⟩
        · by_cases hp1 : 4096 ≤ pb
          · have HE : Hid (packE l = 2) := Lib.hid (by rw [HP.out, Hbad.out, Hst.out, if_pos (.inr hp1)])
            go_wp2
            go_ret2
            exact ⟨step_new Hbel.out _, PackPost.bad (c := 2) HE.out (by omega)⟩
          · by_cases h256 : ps.length = 256
            · have hne : (((B ps).size : Int) != 256) = false := by rw [hps, h256]; rfl
              obtain ⟨q, rfl⟩ := Int.eq_ofNat_of_zero_le (by omega : 0 ≤ pb)
              have Hq := Lib.hid (fun w => wire_Fixed (q : Int) (by omega) (by omega) w)
              rw [Int.toNat_natCast] at Hq
              have hqz := size_B (fixedL q)
              rw [HF4.out] at hqz
              have HT2 := Lib.hid (HT1.out q rfl)
              have Hbad1 : Hid (badE l = badE (l.drop (k + 1))) := Lib.hid (by rw [Hbad.out, Hst.out, if_neg (by omega), if_neg (by omega)])
              clear h256
              generalize fixedL q = fq at *
              go_wp2_with fail
              refine (Hq.out _).mono ?_
              rintro e w6 ⟨rfl, hb6⟩
              have Hb6 := Lib.hid (step_call (step_new (Below.refl _ wr) (.cells #[.int .i64 (q : Int), .string (B ps)] 47)) hb6)
              have hb6s := Hb6.out.size
              have d1 : w6.cell? ⟨wr.heap.size, 1, none⟩ = some (.string (B ps)) := cell_call hb6 (by rw [Lib.cell_of_heap (heap_alloc_new wr _)]; rfl)
              have hown6 := Lib.hid ((own_kept Hown.out Hb6.out).alloc (.cells #[.string (B ps)] 9))
              have hnews := Lib.hid (cell1_new w6 (.string (B ps)) 9)
              clear hb6
              go_wp2_with (at_builtin; go_must (refine wpList_append_where _ rfl _ _ 44 rfl w.heap.size 9 i0 (.string ⟨#[]⟩) 1 16 Tryd.underlying44 hi hz0 hz1 hz2 rfl (by decide) _ _ _ rfl hown6.out ⟨w6.heap.size, 0, none⟩ 1 1 [.string (B ps)] rfl rfl ?c1 ?c2 ?c3 ?c4 ?c5 ?_))
              case c1 => exact hnews.out
              case c2 => simp [Value.oneCell']
              case c3 => unfold maxLen; omega
              case c4 => omega
              case c5 => simp; omega
              intro v' w7 hown7 hgrow7 _
              have hb7 : Below w.heap.size w w7 := (step_new (step_call Hbel.out Hb6.out) _).grown hgrow7 (by simp; omega) (fun q hq => (Hown.out.lt q hq).1)
              rw [HD1.out] at hown7
              have Hown7 := Lib.hid hown7
              have Hb7 := Lib.hid hb7
              clear hown7 hb7 hgrow7
              go_wp2
              go_roundw
              case rel => exact ⟨k + 1, by omega, by go_num, by rw [HT2.out, B_append], Hown7.out, Hbad1.out, Hb7.out⟩
              case measure => simp [intOf]; omega
            · have hne : (((B ps).size : Int) != 256) = true := by rw [hps, bne_iff_ne]; omega
              have HE : Hid (packE l = 3) := Lib.hid (by rw [HP.out, Hbad.out, Hst.out, if_neg (by omega), if_pos h256])
              go_wp2
              go_ret2
              exact ⟨step_new Hbel.out _, PackPost.bad (c := 3) HE.out (by omega)⟩
      · obtain rfl : k = l.length := by omega
        rw [List.take_length] at Hown
        have HE : Hid (packE l = 0) := Lib.hid (by rw [HP.out, Hbad.out, List.drop_length]; rfl)
        obtain ⟨_, _, hfine⟩ := packE_zero.1 HE.out
        have Hfine := Lib.hid hfine
        have HPT := Lib.hid (packT_fine seq hl1 hl2 hfine)
        rw [List.take_length] at *
        have hTl : (B (frontT seq l.length ++ nums (ats l))).size = 16 + 4 * l.length := by rw [size_B, List.length_append, HFl.out, nums_length, ats_length]
        have Hrep := Lib.hid (fun w => repF (232 - 4 * l.length) (by omega) (by omega) w)
        have hcount : IntKind.i64.wrap (248 - ((16 + 4 * l.length : Nat) : Int)) = ((232 - 4 * l.length : Nat) : Int) := by rw [IntWalk.i64_in _ (by omega)]; omega
        have Hbody : Hid (frontT seq l.length ++ nums (ats l) ++ List.replicate (232 - 4 * l.length) 0 = bodyT seq (ats l)) := Lib.hid (by unfold bodyT; rw [ats_length])
        have hbl := bodyT_length seq (ats l) (by rw [ats_length]; exact hl2)
        have Hbl := Lib.hid hbl
        have Hd256 := Lib.hid (datas_256 hfine)
        have Hbel := Lib.hid hbel
        have hrep2 := size_B (List.replicate (232 - 4 * l.length) 0)
        rw [List.length_replicate] at hrep2
        clear hbad hown hbel hbl hfine
        generalize frontT seq l.length ++ nums (ats l) = T at *
        generalize hR : List.replicate (232 - 4 * l.length) (0 : UInt8) = R at *
        clear hR
        have hB2 : B T ++ B R = B (bodyT seq (ats l)) := by rw [B_append, Hbody.out]
        have HB2 := Lib.hid hB2
        have hb248 := size_B (bodyT seq (ats l))
        rw [Hbl.out] at hb248
        have Hrow := Lib.hid (show Row wr (.slice ax l.length cx) (txtV (datas l)) by
          have := Hown.out
          rw [← datas_length] at this
          have h3 := own_row this
          rwa [datas_length] at h3)
        have Hsum := Lib.hid (fun w' (b' : Below wr.heap.size wr w') => frame_sum (bodyT seq (ats l)) (datas l) (.slice ax l.length cx) (by rw [Hbl.out]; omega) (by rw [datas_length]; omega) (by rw [datas_length]; omega) (fun s hs => by
          have := Hd256.out
          rw [List.all_eq_true] at this
          have := of_decide_eq_true (this s hs)
          omega) w' (Hrow.out.below b'))
        have hSl := sumT_length (bodyT seq (ats l)) (datas l)
        have HH : Hid (headT seq (ats l) (datas l) = bodyT seq (ats l) ++ sumT (bodyT seq (ats l)) (datas l) ++ endT) := Lib.hid rfl
        obtain ⟨ga, hga, hcd⟩ : ∃ g, ax = some ⟨g, 0, none⟩ ∧ ∀ i (hi : i < (datas l).length), wr.cell? ⟨g, 0 + i, none⟩ = some (.string (B (datas l)[i])) := by
          have h3 := Hown.out
          rw [← datas_length] at h3
          obtain ⟨g, cap', cur, e, _, _, _, _, hc, _⟩ := own_txt h3 (by rw [datas_length]; omega)
          simp only [Value.slice.injEq] at e
          exact ⟨g, e.1, fun i hi => by rw [Nat.zero_add]; exact hc i hi⟩
        subst hga
        have Hcd := Lib.hid hcd
        have HS1 := Lib.hid hSl
        clear hB2 hSl hcd
        generalize sumT (bodyT seq (ats l)) (datas l) = S at *
        have hSz := size_B S
        rw [HS1.out] at hSz
        generalize bodyT seq (ats l) = bd at *
        go_wp2_with fail
        rw [show (248 : Int) - (16 + 4 * (l.length : Int)) = ((232 - 4 * l.length : Nat) : Int) by omega]
        refine (Hrep.out _).mono ?_
        rintro e w6 ⟨rfl, hb6⟩
        have Hb6 := Lib.hid hb6
        clear hb6 hcount
        go_wp2_with fail
        rw [HB2.out]
        refine (Hsum.out _ Hb6.out).mono ?_
        rintro e w7 ⟨rfl, hb7⟩
        have Hb7 := Lib.hid (step_call Hb6.out hb7)
        have hnews := Lib.hid (txt_news (w := w7.alloc (.cells #[.string (B bd ++ B S ++ ⟨#[67, 68, 88, 69]⟩)] 9)) (fun i hi => cell_alloc _ (cell_call Hb7.out (Hcd.out i hi))))
        have hown7 := own_one w7 (.string (B bd ++ B S ++ ⟨#[67, 68, 88, 69]⟩)) 9
        have Hdl := Lib.hid (datas_length l)
        clear hb7
        go_wp2_with (at_builtin; go_must (refine wpList_append_where _ rfl _ _ 44 rfl w7.heap.size 9 i0 (.string ⟨#[]⟩) 1 16 Tryd.underlying44 hi hz0 hz1 hz2 rfl (by decide) _ _ _ rfl hown7 ⟨ga, 0, none⟩ l.length cx (txtCells (datas l)) rfl (by rw [txtCells_length, Hdl.out, Nat.mul_one]) hnews.out (txtCells_oneF _) ?d3 ?d4 ?d5 ?_))
        case d3 => unfold maxLen; omega
        case d4 => omega
        case d5 => simp
        intro v' w8 hown8 hgrow8 _
        have hb8 : Below w7.heap.size w7 w8 := (step_new (Below.refl w7.heap.size w7) _).grown hgrow8 (by simp) (fun q hq => by
          simp only [Value.ownBlock, Option.some.injEq] at hq
          omega)
        have Hb8 := Lib.hid (step_call Hbel.out (step_call Hb7.out hb8))
        have hbs : w.heap.size ≤ w7.heap.size := Nat.le_trans hbz Hb7.out.size
        have Hbs := Lib.hid hbs
        rw [show B bd ++ B S ++ ⟨#[67, 68, 88, 69]⟩ = B (headT seq (ats l) (datas l)) by
          rw [HH.out, show (⟨#[67, 68, 88, 69]⟩ : ByteArray) = B endT from rfl, B_append, B_append]] at hown8
        have Hown8 := Lib.hid (show w8.ownsRow w7.heap.size 9 1 v' (packT seq l).length (txtCells (packT seq l)) by
          rw [HPT.out, List.length_cons, Hdl.out, Nat.add_comm]
          exact hown8)
        clear hown8 hgrow8 hb8 hbs hown7
        go_wp2
        go_ret2
        exact ⟨Hb8.out, v', by rw [HE.out]; rfl, own_base Hown8.out Hbs.out⟩
end Go.Proofs.YtlgfjoicdbjfjaaDoor
