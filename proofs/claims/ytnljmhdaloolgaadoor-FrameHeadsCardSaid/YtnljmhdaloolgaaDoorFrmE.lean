/- Chapter 3: the reference's head and Pack. Conditions: numbers that fit, lengths. -/
import Derived.Test.YtnljmhdaloolgaaDoorFrmD
import Derived.Test.YtnljmhdaloolgaaDoorRef2Crc
import Derived.Test.YtnljmhdaloolgaaDoorByteRow
namespace Go.Proofs.YtnljmhdaloolgaaDoor
open Go.RowKit Go.Wir Go.Blk Go.Frm

theorem BRow.of_makeF {w : World} {base g n : Nat} (h : w.ownsRow base 5 1 (.slice (some ⟨g, 0, none⟩) n n) n (madeCells #[Value.int .u8 0] n).toList) : BRow w g (List.replicate n 0) := by
  rcases h.2 with ⟨h0, _⟩ | ⟨g', cap, cur, h0, hg, hh, h1, h2, h3, h4⟩
  · cases h0
  · simp only [Value.slice.injEq, Option.some.injEq, Addr.mk.injEq, and_true, true_and] at h0
    obtain ⟨rfl, rfl⟩ := h0
    refine ⟨cur, 0, 0, hh, by simp; omega, fun i hi => ?_, fun i _ h => by omega⟩
    simp at hi
    have : cur.toList[i]? = (madeCells #[Value.int .u8 0] n).toList[i]? := by rw [← h4, List.getElem?_take, Nat.mul_one, if_pos hi]
    rw [← Array.getElem?_toList, this]
    simp [madeCells, hi, Nat.mod_one]
theorem Tryd.info_u8F : (Tryd.prog.info? 5).map (fun i => (i.zero, i.size, i.bytes)) = some (some (.int .u8 0), 1, 1) := by kernel_rfl
set_option maxRecDepth 100000 in
set_option maxHeartbeats 1600000 in
theorem ref3_head (seq : Nat) (l : List Wr) (v : Value) (hs : seq < 18446744073709551616) (hl1 : 1 ≤ l.length) (hl2 : l.length ≤ 48) (hfine : Fine l) (w : World) (hw : Wrs w v l) :
    Calls Tryd.prog 25 #[.int .u64 (seq : Nat), v] w fun e w' => e = .returned (.string (B (bodyT seq (ats l)))) ∧ Below w.heap.size w w' := by
  obtain ⟨oa, cap, rfl, hcell⟩ := hw.form
  have Hcell := Lib.hid hcell
  have Hfine := Lib.hid hfine
  have HF4 := Lib.hid fixedL_length
  obtain ⟨j0, hj, hy0, hy1, hy2⟩ := info_parts Tryd.info_u8F
  clear hcell hw
  obtain ⟨sq, hsq⟩ : ∃ s : Int, s = (seq : Int) := ⟨_, rfl⟩
  have hsq0 : 0 ≤ sq := by omega
  have Hsq := Lib.hid (show sq = (seq : Int) ∧ seq < 18446744073709551616 from ⟨hsq, hs⟩)
  have hq1 : (sq % 4294967296).toNat = seq % 4294967296 := by omega
  have hq2 : (sq / 4294967296).toNat = seq / 4294967296 := by omega
  have hq3 : sq / 4294967296 < 4294967296 := by omega
  rw [← hsq]
  clear hsq hs
  have F1 := Lib.hid (fun w => ref2_Fixed (sq % 4294967296) (by omega) (by omega) w)
  rw [hq1] at F1
  have F2 := Lib.hid (fun w => ref2_Fixed (sq / 4294967296) (by omega) hq3 w)
  rw [hq2] at F2
  have F3 := Lib.hid (fun w => ref2_Fixed (l.length : Int) (by omega) (by omega) w)
  rw [Int.toNat_natCast] at F3
  have HT : Hid (frontT seq l.length = magicT ++ fixedL (seq % 4294967296) ++ fixedL (seq / 4294967296) ++ fixedL l.length) := Lib.hid rfl
  clear hq1 hq2
  have hz1 := size_B (fixedL (seq % 4294967296))
  have hz2 := size_B (fixedL (seq / 4294967296))
  have hz3 := size_B (fixedL l.length)
  rw [HF4.out] at hz1 hz2 hz3
  generalize fixedL (seq % 4294967296) = f1 at *
  generalize fixedL (seq / 4294967296) = f2 at *
  generalize hf3 : fixedL l.length = f3 at *
  clear hf3
  go_enter Tryd.func25, Tryd.ntmps25
  go_wp2_with fail
  refine (F1.out _).mono ?_
  rintro e w1 ⟨rfl, hb1⟩
  have Hb1 := Lib.hid hb1
  clear hb1
  go_wp2_with fail
  refine (F2.out _).mono ?_
  rintro e w2 ⟨rfl, hb2⟩
  have Hb2 := Lib.hid (step_call Hb1.out hb2)
  clear hb2
  go_wp2_with fail
  refine (F3.out _).mono ?_
  rintro e w3 ⟨rfl, hb3⟩
  have Hb3 := Lib.hid (step_call Hb2.out hb3)
  clear hb3
  go_wp2
  have hF : (⟨#[67, 68, 88, 84]⟩ : ByteArray) ++ B f1 ++ B f2 ++ B f3 = B (frontT seq l.length) := by
    rw [HT.out, show (⟨#[67, 68, 88, 84]⟩ : ByteArray) = B magicT from rfl, B_append, B_append, B_append]
  have HF := Lib.hid hF
  clear hF hz1 hz2 hz3
  have HFl := Lib.hid (frontT_length seq l.length)
  go_loopw [5, 6] (fun x5 x6 wr => ∃ k : Nat, k ≤ l.length ∧ x6 = .int .i64 k ∧ x5 = .string (B (frontT seq l.length ++ nums (ats (l.take k)))) ∧ Below w.heap.size w wr) (fun _ x6 _ => l.length - (intOf x6).toNat)
  case atStart => exact ⟨0, by omega, rfl, by rw [HF.out]; simp [ats, nums], Hb3.out⟩
  case round =>
    obtain ⟨k, hk, rfl, rfl, hbel⟩ := hrel
    have hnum : (B (frontT seq l.length ++ nums (ats (l.take k)))).size = 16 + 4 * k := by
      rw [size_B, List.length_append, HFl.out, nums_length, ats_length, List.length_take]; omega
    by_cases hlt : k < l.length
    · obtain ⟨b, off, rfl, hb, e1, e2⟩ := Hcell.out k hlt
      have e1 := cell_below hbel hb e1
      have hff := (Hfine.out l[k] (List.getElem_mem hlt)).1
      have HT1 : Hid (∀ (q : Nat), l[k].1 = (q : Int) → frontT seq l.length ++ nums (ats (l.take (k + 1))) = frontT seq l.length ++ nums (ats (l.take k)) ++ fixedL q) := Lib.hid (fun q hq => by
        rw [List.take_succ_eq_append_getElem hlt]
        unfold ats
        rw [List.map_append, nums_append, List.append_assoc]
        show _ ++ (_ ++ nums [l[k].1.toNat]) = _
        rw [hq, Int.toNat_natCast]
        simp [nums])
      have Hbel := Lib.hid hbel
      have hk1 : (k : Int) < (l.length : Int) := by omega
      clear hbel e2
      generalize frontT seq l.length ++ nums (ats (l.take k)) = T at *
      generalize l[k].1 = pb at *
      obtain ⟨hp0, hp1⟩ := hff
      obtain ⟨q, rfl⟩ := Int.eq_ofNat_of_zero_le hp0
      have Hq := Lib.hid (fun w => ref2_Fixed (q : Int) (by omega) (by omega) w)
      rw [Int.toNat_natCast] at Hq
      have hqz := size_B (fixedL q)
      rw [HF4.out] at hqz
      have HT2 := Lib.hid (HT1.out q rfl)
      generalize fixedL q = fq at *
      go_wp2_with fail
      refine (Hq.out _).mono ?_
      rintro e w6 ⟨rfl, hb6⟩
      have Hb6 := Lib.hid (step_call Hbel.out hb6)
      clear hb6
      go_wp2
      go_roundw
      case rel => exact ⟨k + 1, by omega, by go_num, by rw [HT2.out, B_append], Hb6.out⟩
      case measure => simp [intOf]; omega
    · obtain rfl : k = l.length := by omega
      rw [List.take_length] at *
      have Hbody : Hid (frontT seq l.length ++ nums (ats l) ++ List.replicate (232 - 4 * l.length) 0 = bodyT seq (ats l)) := Lib.hid (by unfold bodyT; rw [ats_length])
      generalize hN : 232 - 4 * l.length = N at *
      have hN2 : (248 : Int) - (16 + 4 * (l.length : Int)) = (N : Int) := by omega
      have hN3 : N ≤ 232 := by omega
      have HN2 := Lib.hid hN2
      have Hbel := Lib.hid hbel
      clear hN hN2 hbel
      generalize frontT seq l.length ++ nums (ats l) = T at *
      go_wp2_with (at_make; go_must (refine wpList_make_full wr rfl _ _ 34 rfl 0 5 j0 (.int .u8 0) 1 Tryd.underlying34 hj hy0 hy1 _ _ _ _ N rfl rfl HN2.out HN2.out ?b2 ?b3 (Nat.zero_le _) ?_))
      case b2 => rw [hy2]; omega
      case b3 => unfold maxLen; omega
      intro w6 hown hgrow
      have hrow : BRow w6 wr.heap.size (List.replicate N 0) := BRow.of_makeF hown
      have hb6 : Below wr.heap.size wr w6 := (Below.refl _ wr).grown hgrow (Nat.le_refl _) (fun k h => by cases h)
      have hconv := hrow.conv N
      rw [List.length_replicate] at hconv
      have hrs := size_B (List.replicate N 0)
      rw [List.length_replicate] at hrs
      have Hb6 := Lib.hid (step_call Hbel.out hb6)
      clear hown hgrow hrow hb6
      go_wp2
      go_ret
      exact ⟨by rw [← Hbody.out, ← B_append]; rfl, Hb6.out⟩
theorem headT_eq (seq : Nat) (l : List Nat) (data : List Txt) : headT seq l data = bodyT seq l ++ fixedL (crc (bodyT seq l ++ data.flatten)) ++ endT := rfl
set_option maxRecDepth 100000 in
set_option maxHeartbeats 1600000 in
theorem ref3_Pack (seq : Nat) (l : List Wr) (v : Value) (hs : seq < 18446744073709551616) (hn : l.length ≤ 9223372036854775807) (hfit : ∀ p ∈ l, -9223372036854775808 ≤ p.1 ∧ p.1 ≤ 9223372036854775807 ∧ p.2.length ≤ 9223372036854775807) (w : World) (hw : Wrs w v l) :
    Calls Tryd.prog 12 #[.int .u64 (seq : Nat), v] w fun e w' => Below w.heap.size w w' ∧ PackPost seq l w.heap.size e w' := by
  obtain ⟨oa, cap, rfl, hcell⟩ := hw.form
  have Hcell := Lib.hid hcell
  have Hfit := Lib.hid hfit
  have Hw := Lib.hid hw
  have Hs := Lib.hid hs
  clear hcell hfit hw hs
  obtain ⟨sq, hsq⟩ : ∃ s : Int, s = (seq : Int) := ⟨_, rfl⟩
  have Hsq := Lib.hid hsq
  rw [← hsq]
  clear hsq
  by_cases hm : l.length = 0 ∨ 48 < l.length
  · have HE : Hid (packE l = 6) := Lib.hid (by unfold packE; rw [if_pos hm])
    rcases hm with h0 | h0
    · have h1 : ((l.length : Int) == 0) = true := by rw [h0]; rfl
      clear h0
      go_enter Tryd.func12, Tryd.ntmps12
      go_wp2
      go_ret2
      exact ⟨Below.refl _ _, PackPost.bad (c := 6) HE.out (by omega)⟩
    · have h1 : ((l.length : Int) == 0) = false := by rw [beq_eq_false_iff_ne]; omega
      go_enter Tryd.func12, Tryd.ntmps12
      go_wp2
      go_ret2
      exact ⟨Below.refl _ _, PackPost.bad (c := 6) HE.out (by omega)⟩
  · have HP : Hid (packE l = badE l) := Lib.hid (by unfold packE; rw [if_neg hm])
    have hl1 : 1 ≤ l.length := by omega
    have hl2 : l.length ≤ 48 := by omega
    have h1 : ((l.length : Int) == 0) = false := by rw [beq_eq_false_iff_ne]; omega
    obtain ⟨i0, hi, hz0, hz1, hz2⟩ := info_parts Tryd.info_strF
    clear hm
    go_enter Tryd.func12, Tryd.ntmps12
    go_wp2
    go_loopw [6, 7] (fun x6 x7 wr => ∃ k : Nat, k ≤ l.length ∧ x7 = .int .i64 k ∧ x6 = .string (B (datas (l.take k)).flatten) ∧ (datas (l.take k)).flatten.length = 256 * k ∧ badE l = badE (l.drop k) ∧ Below w.heap.size w wr) (fun _ x7 _ => l.length - (intOf x7).toNat)
    case atStart => exact ⟨0, by omega, rfl, rfl, rfl, rfl, Below.refl _ _⟩
    case round =>
      obtain ⟨k, hk, rfl, rfl, hfl, hbad, hbel⟩ := hrel
      have Hbad := Lib.hid hbad
      have hAz := size_B (datas (l.take k)).flatten
      rw [hfl] at hAz
      have Hfl := Lib.hid hfl
      by_cases hlt : k < l.length
      · obtain ⟨b, off, rfl, hb, e1, e2⟩ := Hcell.out k hlt
        have e1 := cell_below hbel hb e1
        have e2 := cell_below hbel hb e2
        have hff := Hfit.out l[k] (List.getElem_mem hlt)
        have Hst := Lib.hid (badE_step l k hlt)
        have HD1 : Hid ((datas (l.take (k + 1))).flatten = (datas (l.take k)).flatten ++ l[k].2) := Lib.hid (by
          rw [List.take_succ_eq_append_getElem hlt]; unfold datas; rw [List.map_append, List.flatten_append]; simp)
        have Hbel := Lib.hid hbel
        have hk1 : (k : Int) < (l.length : Int) := by omega
        clear hbad hbel hfl
        generalize (datas (l.take k)).flatten = T at *
        generalize l[k] = p at *
        obtain ⟨pb, ps⟩ := p
        simp only at e1 e2 Hst HD1
        obtain ⟨hf1, hf2, hf3⟩ : -9223372036854775808 ≤ pb ∧ pb ≤ 9223372036854775807 ∧ ps.length ≤ 9223372036854775807 := hff
        have hps := size_B ps
        by_cases hp0 : pb < 0
        · have HE : Hid (packE l = 2) := Lib.hid (by rw [HP.out, Hbad.out, Hst.out, if_pos (.inl hp0)])
          go_wp2
          go_ret2
          exact ⟨Hbel.out, PackPost.bad (c := 2) HE.out (by omega)⟩
        · by_cases hp1 : 4096 ≤ pb
          · have HE : Hid (packE l = 2) := Lib.hid (by rw [HP.out, Hbad.out, Hst.out, if_pos (.inr hp1)])
            go_wp2
            go_ret2
            exact ⟨Hbel.out, PackPost.bad (c := 2) HE.out (by omega)⟩
          · by_cases h256 : ps.length = 256
            · have hne : (((B ps).size : Int) != 256) = false := by rw [hps, h256]; rfl
              have Hbad1 : Hid (badE l = badE (l.drop (k + 1))) := Lib.hid (by rw [Hbad.out, Hst.out, if_neg (by omega), if_neg (by omega)])
              have hps2 : (B ps).size = 256 := by rw [hps, h256]
              have H256 := Lib.hid h256
              clear h256 hps
              go_wp2
              go_roundw
              case rel => exact ⟨k + 1, by omega, by go_num, by rw [HD1.out, B_append], by rw [HD1.out, List.length_append, Hfl.out, H256.out]; omega, Hbad1.out, Hbel.out⟩
              case measure => simp [intOf]; omega
            · have hne : (((B ps).size : Int) != 256) = true := by rw [hps, bne_iff_ne]; omega
              have HE : Hid (packE l = 3) := Lib.hid (by rw [HP.out, Hbad.out, Hst.out, if_neg (by omega), if_pos h256])
              go_wp2
              go_ret2
              exact ⟨Hbel.out, PackPost.bad (c := 3) HE.out (by omega)⟩
      · obtain rfl : k = l.length := by omega
        have HE : Hid (packE l = 0) := Lib.hid (by rw [HP.out, Hbad.out, List.drop_length]; rfl)
        obtain ⟨_, _, hfine⟩ := packE_zero.1 HE.out
        have HPT := Lib.hid (packT_fine seq hl1 hl2 hfine)
        have Hhead := Lib.hid (ref3_head seq l _ Hs.out hl1 hl2 hfine wr (Hw.out.below hbel))
        rw [← Hsq.out] at Hhead
        have Hbl := Lib.hid (bodyT_length seq (ats l) (by rw [ats_length]; exact hl2))
        rw [List.take_length] at *
        have HH := Lib.hid (headT_eq seq (ats l) (datas l))
        have Hbel := Lib.hid hbel
        have hb248 := size_B (bodyT seq (ats l))
        rw [Hbl.out] at hb248
        have hcat := B_append (bodyT seq (ats l)) (datas l).flatten
        have Hcat := Lib.hid hcat
        have Hcrc := Lib.hid (fun w => ref2_Crc (B (bodyT seq (ats l) ++ (datas l).flatten)) (by rw [size_B, List.length_append, Hbl.out, Hfl.out]; omega) w)
        rw [L_B] at Hcrc
        have Hlt := Lib.hid (crc_lt (bodyT seq (ats l) ++ (datas l).flatten))
        clear hbad hfl hfine hbel hcat
        generalize (datas l).flatten = T at *
        generalize bodyT seq (ats l) = bd at *
        go_wp2_with fail
        refine Hhead.out.mono ?_
        rintro e w6 ⟨rfl, hb6⟩
        have Hb6 := Lib.hid hb6
        clear hb6
        go_wp2_with fail
        rw [Hcat.out]
        refine (Hcrc.out _).mono ?_
        rintro e w7 ⟨rfl, hb7⟩
        have Hb7 := Lib.hid (step_call Hb6.out hb7)
        have hlt : ((crc (bd ++ T) : Nat) : Int) < 4294967296 := by have := Hlt.out; omega
        clear hb7
        generalize crc (bd ++ T) = c at *
        go_wp2_with fail
        refine (ref2_Fixed _ (by omega) hlt w7).mono ?_
        rw [Int.toNat_natCast]
        rintro e w8 ⟨rfl, hb8⟩
        have Hb8 := Lib.hid (step_call Hbel.out (step_call Hb7.out hb8))
        have hfz := size_B (fixedL c)
        rw [fixedL_length] at hfz
        have hbz := Hb8.out.size
        clear hb8
        generalize fixedL c = fc at *
        rw [show endT = [67, 68, 88, 69] from rfl] at HH
        go_wp2
        have h0 : B bd ++ B fc ++ ⟨#[67, 68, 88, 69]⟩ = B (headT seq (ats l) (datas l)) := by
          rw [HH.out, show (⟨#[67, 68, 88, 69]⟩ : ByteArray) = B [67, 68, 88, 69] from rfl, B_append, B_append]
        rw [h0]
        have h0' := Lib.hid h0
        clear h0
        generalize headT seq (ats l) (datas l) = hd at *
        have hown0 := Lib.hid (own_one w8 (.string (B hd)) 9)
        generalize hw9 : w8.alloc (.cells #[.string (B hd)] 9) = w9 at *
        have Hb9 : Hid (Below w.heap.size w w9) := Lib.hid (by rw [← hw9]; exact step_new Hb8.out _)
        have Hbz := Lib.hid hbz
        clear hw9
        go_loopw [9, 10] (fun x9 x10 wr => ∃ k : Nat, k ≤ l.length ∧ x10 = .int .i64 k ∧ wr.ownsRow w8.heap.size 9 1 x9 (1 + k) (txtCells (hd :: datas (l.take k))) ∧ Below w.heap.size w wr ∧ w8.heap.size ≤ wr.heap.size) (fun _ x10 _ => l.length - (intOf x10).toNat)
        case atStart => exact ⟨0, by omega, rfl, hown0.out, Hb9.out, by have := (hown0.out.lt w8.heap.size rfl).2; omega⟩
        case round =>
          obtain ⟨k, hk, rfl, hown, hbel, hbz8⟩ := hrel
          obtain ⟨ax, cx, rfl⟩ := own_form hown
          have Hown := Lib.hid hown
          by_cases hlt : k < l.length
          · obtain ⟨b, off, rfl, hb, e1, e2⟩ := Hcell.out k hlt
            have e2 := cell_below hbel hb e2
            have HD1 : Hid (txtCells (hd :: datas (l.take k)) ++ [.string (B l[k].2)] = txtCells (hd :: datas (l.take (k + 1)))) := Lib.hid (by
              rw [List.take_succ_eq_append_getElem hlt]; unfold datas txtCells; rw [List.map_append, List.map_cons, List.map_cons, List.map_append]; rfl)
            have Hbel := Lib.hid hbel
            have hk1 : (k : Int) < (l.length : Int) := by omega
            clear hbel hown e1
            generalize l[k].2 = ps at *
            have hown6 := Lib.hid (Hown.out.alloc (.cells #[.string (B ps)] 9))
            have hnews := Lib.hid (cell1_new wr (.string (B ps)) 9)
            go_wp2_with (at_builtin; go_must (refine wpList_append_where _ rfl _ _ 26 rfl w8.heap.size 9 i0 (.string ⟨#[]⟩) 1 16 Tryd.underlying26 hi hz0 hz1 hz2 rfl (by decide) _ _ _ rfl hown6.out ⟨wr.heap.size, 0, none⟩ 1 1 [.string (B ps)] rfl rfl ?c1 ?c2 ?c3 ?c4 ?c5 ?_))
            case c1 => exact hnews.out
            case c2 => simp [Value.oneCell']
            case c3 => unfold maxLen; omega
            case c4 => omega
            case c5 => simp; omega
            intro v' w10 hown10 hgrow10 _
            have hb10 : Below w.heap.size w w10 := (step_new Hbel.out _).grown hgrow10 (by simp; have := Hbel.out.size; omega) (fun q hq => by have := (Hown.out.lt q hq).1; have := Hbz.out; omega)
            rw [HD1.out, show 1 + k + 1 = 1 + (k + 1) by omega] at hown10
            have Hown10 := Lib.hid hown10
            have Hb10 := Lib.hid hb10
            have Hsz10 := Lib.hid (show w8.heap.size ≤ w10.heap.size by have := hgrow10.size; simp at this; omega)
            clear hown10 hb10 hgrow10
            go_wp2
            go_roundw
            case rel => exact ⟨k + 1, by omega, by go_num, Hown10.out, Hb10.out, Hsz10.out⟩
            case measure => simp [intOf]; omega
          · obtain rfl : k = l.length := by omega
            rw [List.take_length] at Hown
            have Hown8 := Lib.hid (show wr.ownsRow w8.heap.size 9 1 (.slice ax (1 + l.length) cx) (packT seq l).length (txtCells (packT seq l)) by
              rw [HPT.out, List.length_cons, datas_length, show l.length + 1 = 1 + l.length by omega]
              exact Hown.out)
            have Hbel := Lib.hid hbel
            clear hown hbel
            go_wp2
            go_ret2
            exact ⟨Hbel.out, _, by rw [HE.out]; rfl, own_base Hown8.out Hbz.out⟩
end Go.Proofs.YtnljmhdaloolgaaDoor
