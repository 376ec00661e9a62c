/- Chapter 8: bytes are unpacked, or refused: inode.Unpack. Conditions: the bytes are few. -/
import Derived.Test.YteemloillnfaeaaDoorInoAcc
import Derived.Test.YteemloillnfaeaaDoorInoA
namespace Go.Proofs.YteemloillnfaeaaDoor
open Go.RowKit Go.Wir Go.Ino Go.Lib Go.Shelf
attribute [local go_sem] Oper.semAt_some

def UnpR (w : World) (r : Except Int (List Fil)) (e : Ending) (w' : World) : Prop := match r with
  | .ok l => (∃ v, e = .returned (.tuple #[v, .int .i64 0]) ∧ Files w' v l) ∧ Below w.heap.size w w'
  | .error n => e = .returned (.tuple #[.slice none 0 0, .int .i64 n]) ∧ Below w.heap.size w w'
theorem cut_at (t : Tx) (w : World) :
    Calls Tryd.prog 31 #[.string (B t), .string ⟨#[67, 68, 88, 73]⟩] w fun e w' => e = .returned (.tuple #[.string (B (trimPrefix t [67, 68, 88, 73])), .bool (hasPrefix t [67, 68, 88, 73])]) ∧ w = w' := by
  have := Any.strings_CutPrefix tren_103 (B t) ⟨#[67, 68, 88, 73]⟩ w
  refine this.mono ?_
  rintro e w' ⟨rfl, rfl⟩
  exact ⟨rfl, rfl⟩
theorem prefix_is (t : Tx) : hasPrefix t [67, 68, 88, 73] = decide (t.take 4 = [67, 68, 88, 73]) := by
  unfold hasPrefix
  rw [Bool.eq_iff_iff, List.isPrefixOf_iff_prefix, decide_eq_true_eq, List.prefix_iff_eq_take]
  exact eq_comm
theorem trimP_is {t : Tx} (h : t.take 4 = [67, 68, 88, 73]) : trimPrefix t [67, 68, 88, 73] = t.drop 4 := by
  unfold trimPrefix; rw [prefix_is, decide_eq_true h]; rfl
theorem trim0_at (s : ByteArray) (hs : s.size ≤ 9223372036854775807) (w : World) :
    Calls Tryd.prog 34 #[.string s, .string ⟨#[0]⟩] w fun e w' => e = .returned (.string (B (trimS (L s) [0]))) ∧ Below w.heap.size w w' :=
  Any.strings_Trim_laid tren_160 (by kernel_rfl) s ⟨#[0]⟩ w hs (by decide) (ascii_of_all (by decide))
theorem trim0_is (t : Tx) : ((B (trimS t [0])).toList.isEmpty) = t.all (fun b => b == 0) := by
  rw [toList_B, Bool.eq_iff_iff, List.isEmpty_iff, trim_nil, show (fun x => ([0] : Tx).contains x) = (fun b => b == 0) from funext fun b => by simp only [List.contains, List.elem]; cases b == 0 <;> rfl]
theorem unp_no {s : Tx} (h : ¬ (s.length = 3072 ∧ s.take 4 = [67, 68, 88, 73])) : unpL s = .error 7 := by rw [unp_end (allS_reads _), if_neg h]
theorem unp_yes {s : Tx} (h : s.length = 3072 ∧ s.take 4 = [67, 68, 88, 73]) : unpL s = endS (allS (s.drop 4)) := by rw [unp_end (allS_reads _), if_pos h]
theorem many_few (st : St) : ∀ n, (manyS fileS n st).2.1.length ≤ st.1.length ∧ ∀ f ∈ (manyS fileS n st).1, FewF st.1.length f
  | 0 => ⟨Nat.le_refl _, fun _ h => (by cases h)⟩
  | n + 1 => by
    obtain ⟨h1, h2⟩ := many_few st n
    obtain ⟨h3, h4⟩ := fileS_le (manyS fileS n st).2
    rw [manyS]
    refine ⟨by simp only; omega, fun x hx => ?_⟩
    rcases List.mem_append.1 hx with hx | hx
    · exact h2 x hx
    · simp at hx; subst hx; exact h4.mono h1
theorem manyQ_few (st : St) : ∀ n, (manyQ fileQ n st).2.1.length ≤ st.1.length ∧ ∀ f ∈ (manyQ fileQ n st).1, FewF st.1.length f
  | 0 => ⟨Nat.le_refl _, fun _ h => (by cases h)⟩
  | n + 1 => by
    obtain ⟨h1, h2⟩ := manyQ_few st n
    obtain ⟨h3, h4⟩ := fileQ_le (manyQ fileQ n st).2
    rw [manyQ]
    split
    · exact ⟨h1, h2⟩
    · refine ⟨by simp only; omega, fun x hx => ?_⟩
      rcases List.mem_append.1 hx with hx | hx
      · exact h2 x hx
      · simp at hx; subst hx; exact h4.mono h1
theorem allS_few (l : Tx) : ∀ f ∈ (allS l).1, FewF l.length f := by
  have h1 := (numS_le 64 (l, false)).2
  exact fun f hf => ((many_few (numS 64 (l, false)).2 (numS 64 (l, false)).1).2 f hf).mono h1
set_option maxRecDepth 100000 in
set_option maxHeartbeats 3200000 in
theorem inode_Unpack (s : Tx) (_ : s.length ≤ 100000) (w : World) :
    Calls Tryd.prog 14 #[.string (B s)] w (UnpR w (unpL s)) := by
  obtain ⟨i0, hi, hz0, hz1, hz2⟩ := info_parts (show (Tryd.prog.info? 44).map (fun i => (i.zero, i.size, i.bytes)) = some (some (.agg #[.string ⟨#[]⟩, .bool false, .int .i64 0, .slice none 0 0]), 4, 56) by kernel_rfl)
  have hsz := size_B s
  have HC := Lib.hid (fun w0 => cut_at s w0)
  by_cases h0 : s.length = 3072 ∧ s.take 4 = [67, 68, 88, 73]
  · obtain ⟨h1, h2⟩ := h0
    have HU := Lib.hid (unp_yes ⟨h1, h2⟩)
    rw [prefix_is, decide_eq_true h2, trimP_is h2] at HC
    have hls : (s.drop 4).length ≤ 3068 := by rw [List.length_drop]; omega
    have k1 : ((B s).size : Int) = 3072 := by omega
    obtain ⟨⟨a0, S0⟩, hA0⟩ : ∃ A, numS 64 (s.drop 4, false) = A := ⟨_, rfl⟩
    have hB0 := numS_le 64 (s.drop 4, false)
    rw [hA0] at hB0
    simp only at hB0
    obtain ⟨hB0, hB0'⟩ := hB0
    have HA : Hid (allS (s.drop 4) = manyS fileS a0 S0) := Lib.hid (by unfold allS; rw [hA0])
    rw [HA.out] at HU
    generalize s.drop 4 = l at *
    have hk : (((B s).size : Int) != 3072) = false := by rw [k1]; rfl
    clear h1 h2 hsz k1
    go_enter Tryd.func14, Tryd.ntmps14
    go_wp2_with (go_at_call 31; refine (HC.out _).mono ?_; rintro e w1 ⟨rfl, rfl⟩)
    have hR0 : RdS (w.alloc (.cells #[.string (B l), .bool false] 67)) w.heap.size (l, false) := heap_alloc_new w _
    have hW0 : Below w.heap.size w (w.alloc (.cells #[.string (B l), .bool false] 67)) := step_new (Below.refl _ _) _
    have hzw := World.size_alloc w (.cells #[.string (B l), .bool false] 67)
    refine (ino_numL 64 64 rfl (by omega) w.heap.size (l, false) (by simp only; omega) _ hR0).mono ?_
    rintro e w2 ⟨rfl, hr2, hc2⟩
    rw [hA0] at hr2 ⊢
    have HR2 := Lib.hid hr2
    have HW2 := Lib.hid (hW0.trans (hc2.below (K := w.heap.size) (by omega) (fun k hk e => by omega)))
    obtain ⟨rb, hrb⟩ : ∃ rb, w.heap.size = rb := ⟨_, rfl⟩
    have HRB := Lib.hid hrb
    have hS0 : S0.1.length ≤ 3068 := by omega
    have HM := Lib.hid (fun n => many_few S0 n)
    rw [hrb] at HR2 ⊢
    clear hr2 hc2 hA0 hR0 hW0 hzw
    go_wp2
    go_loopw [7, 26] (fun v i wr => ∃ (k : Nat) (ps : List FV), k ≤ a0 ∧ i = .int .i64 k ∧ RdS wr rb (manyS fileS k S0).2 ∧ Acc 44 (rb + 1) wr v ps ∧ ps.map Prod.fst = (manyS fileS k S0).1 ∧ Below rb w wr) (fun _ i _ => a0 - (intOf i).toNat)
    case atStart => exact ⟨0, [], by omega, rfl, HR2.out, Acc.nil _ _ _, rfl, by rw [← HRB.out]; exact HW2.out⟩
    case round =>
      obtain ⟨k, ps, hk, rfl, hR, hacc, hps, hbel⟩ := hrel
      obtain ⟨ao, ac, rfl⟩ := own_form hacc.own
      have HR := Lib.hid hR
      have HAc := Lib.hid hacc
      have Hps := Lib.hid hps
      have Hbel := Lib.hid hbel
      have hpl : ps.length = k := by have := congrArg List.length hps; rw [List.length_map, manyS_len] at this; exact this
      have hm := HM.out k
      have hrl := hR.lt
      by_cases hlt : k < a0
      · have hka : (k : Int) < (a0 : Int) := by omega
        have HE : Hid (manyS fileS (k + 1) S0 = ((manyS fileS k S0).1 ++ [(fileS (manyS fileS k S0).2).1], (fileS (manyS fileS k S0).2).2)) := Lib.hid rfl
        have hSl : (manyS fileS k S0).2.1.length ≤ 1000000 := by omega
        have hpl2 : ps.length ≤ 64 := by omega
        clear hR hacc hps hbel hm hpl
        generalize (manyS fileS k S0).1 = fs at *
        generalize (manyS fileS k S0).2 = S at *
        obtain ⟨⟨⟨nm, sh, sz, xs⟩, S'⟩, hX⟩ : ∃ A, fileS S = A := ⟨_, rfl⟩
        have HX := Lib.hid hX
        have HFI := Lib.hid (ino_file rb S hSl wr HR.out)
        rw [hX] at HFI
        clear hX
        go_wp2_with fail
        refine HFI.out.mono ?_
        rintro e w5 ⟨ve, rfl, hr5, hc5, hx5, hl5⟩
        obtain ⟨ob, oc, rfl, -⟩ := hx5.form
        simp only at hr5 hx5 ⊢
        have HR5 := Lib.hid hr5
        have HA5 := Lib.hid (HAc.out.chg hc5 (fun g hg e => by omega))
        have hb5 := hc5.size
        have Hl5 : Hid (∀ g, (Value.slice ob xs.length oc).ownBlock = some g → rb + 1 ≤ g ∧ g < w5.heap.size ∧ (Value.slice ao ps.length ac).ownBlock ≠ some g) := Lib.hid (fun g hg => by
          have h1 := hl5 g hg
          refine ⟨by omega, h1.2, fun e => ?_⟩
          have := (HAc.out.own.lt g e).2
          omega)
        have HB5 := Lib.hid (Hbel.out.trans (hc5.below (K := rb) (by omega) (fun k hk e => by omega)))
        have HX5 := Lib.hid hx5
        have hnews := Lib.hid (cell4_newI w5 w5.heap.size rfl (.string (B nm)) (.bool sh) (.int .i64 sz) (.slice ob xs.length oc) 44)
        have HA6 := Lib.hid (HA5.out.below (step_new (Below.refl _ _) (.cells #[.string (B nm), .bool sh, .int .i64 sz, .slice ob xs.length oc] 44)))
        have hsa := World.size_alloc w5 (.cells #[.string (B nm), .bool sh, .int .i64 sz, .slice ob xs.length oc] 44)
        clear hr5 hc5 hx5 hl5
        go_wp2_with (at_builtin; go_must (refine wpList_append_where _ rfl _ _ 22 rfl (rb + 1) 44 i0 (.agg #[.string ⟨#[]⟩, .bool false, .int .i64 0, .slice none 0 0]) 4 56 Tryd.underlying22 hi hz0 hz1 hz2 rfl (by decide) _ _ _ rfl HA6.out.own ⟨w5.heap.size, 0, none⟩ 1 1 [.string (B nm), .bool sh, .int .i64 sz, .slice ob xs.length oc] rfl rfl ?c1 ?c2 ?c3 ?c4 ?c5 ?_))
        case c1 => exact hnews.out
        case c2 => simp [Value.oneCell']
        case c3 => unfold maxLen; omega
        case c4 => omega
        case c5 => simp; omega
        intro v7 w7 hown7 hgrow7 hwhere7
        have HA7 := Lib.hid (HA6.out.push (f := ⟨nm, sh, sz, xs⟩) (HX5.out.below (step_new (Below.refl _ _) _)) (fun g hg => by have := Hl5.out g hg; exact ⟨this.1, by omega, this.2.2⟩) hown7 hgrow7 (by rw [hsa]; exact hwhere7))
        have HR7 : Hid (RdS w7 rb S') := Lib.hid ((hgrow7.block rb (by have := HR5.out.lt; omega) (fun e => by have := (HA6.out.own.lt rb e.symm).1; omega)).trans (HR5.out.below (step_new (Below.refl _ _) _)))
        have HB7 := Lib.hid ((HB5.out.alloc (by omega) _).grown hgrow7 (by omega) (fun q hq => by have := (HA6.out.own.lt q hq).1; omega))
        have Hps7 : Hid ((ps ++ [((⟨nm, sh, sz, xs⟩, .slice ob xs.length oc) : FV)]).map Prod.fst = (manyS fileS (k + 1) S0).1) := Lib.hid (by rw [HE.out, HX.out, List.map_append, Hps.out]; rfl)
        have HR8 : Hid (RdS w7 rb (manyS fileS (k + 1) S0).2) := Lib.hid (by rw [HE.out, HX.out]; exact HR7.out)
        clear hown7 hgrow7 hwhere7
        go_wp2
        go_roundw
        case rel => exact ⟨k + 1, _, by omega, by go_num, HR8.out, HA7.out, Hps7.out, HB7.out⟩
        case measure => simp [intOf]; omega
      · obtain rfl : k = a0 := by omega
        obtain ⟨⟨fs, q, bad⟩, hAll⟩ : ∃ A, manyS fileS k S0 = A := ⟨_, rfl⟩
        rw [hAll] at hR hps hm HU
        simp only at hR hps hm
        have hq : q.length ≤ 3068 := by omega
        have HR2 := Lib.hid hR
        have d0 := hR.c0
        have d1 := hR.c1
        have HFl : Hid (Files wr (.slice ao ps.length ac) fs) := Lib.hid (by rw [← hps]; exact hacc.files)
        have hfl : fs.length ≤ 64 := by rw [← hps, List.length_map]; omega
        have Hfit : Hid (∀ f ∈ fs, FitF f) := Lib.hid (fun f hf => FewF.fit (hm.2 f hf) (by omega))
        obtain ⟨rt, hrt⟩ : ∃ rt, rightB fs 0 4096 = rt := ⟨_, rfl⟩
        have HRt := Lib.hid (fun w0 (h : Below wr.heap.size wr w0) => inode_Right (.slice ao ps.length ac) fs 0 4096 (by omega) (by omega) (by omega) Hfit.out w0 (HFl.out.below h))
        rw [hrt] at HRt
        obtain ⟨zb, hzb⟩ : ∃ zb, (q.drop 4).all (fun b => b == 0) = zb := ⟨_, rfl⟩
        have HEnd : Hid (endS (fs, q, bad) = if (!bad && rt && decide (4 ≤ q.length) && zb) = true then (if q.take 4 = fixedL (crc (bytesL fs)) then .ok fs else .error 8) else .error 7) := Lib.hid (by
          unfold endS endB; simp only [hrt, hzb])
        have HT : Hid (∀ w0, Calls Tryd.prog 34 #[.string ((B q).extract 4 (B q).size), .string ⟨#[0]⟩] w0 fun e w' => e = .returned (.string (B (trimS (q.drop 4) [0]))) ∧ Below w0.heap.size w0 w') := Lib.hid (fun w0 => by
          have := trim0_at (B (q.drop 4)) (by rw [size_B, List.length_drop]; omega) w0
          rw [L_B] at this
          rw [show (B q).extract 4 (B q).size = B (q.drop 4) by rw [extract_to_end]; rfl]
          exact this)
        have hX := trim0_is (q.drop 4)
        rw [hzb] at hX
        have Hrt := Lib.hid hrt
        have hqs := size_B q
        have Hbw : Hid (Below w.heap.size w wr) := Lib.hid (by rw [HRB.out]; exact hbel)
        clear hR hacc hps hbel hm HR HAc Hps hAll hzb hrt hpl
        generalize B (trimS (q.drop 4) [0]) = X at *
        cases bad
        rotate_left
        · have hU : unpL s = .error 7 := by rw [HU.out, HEnd.out]; rfl
          have HU2 := Lib.hid hU
          clear hU hX
          go_wp2
          go_ret2
          rw [HU2.out]
          exact ⟨rfl, Hbw.out⟩
        cases rt
        · have hU : unpL s = .error 7 := by rw [HU.out, HEnd.out]; rfl
          have HU2 := Lib.hid hU
          clear hU hX
          go_wp2_with (first
            | (go_at_call 18; refine (HRt.out _ (by first | exact Below.refl _ _ | exact below_drew _)).mono ?_; rintro e w8 ⟨rfl, hb8⟩; have hb8 : Below wr.heap.size wr w8 := (by first | exact hb8 | exact step_call (below_drew _) hb8); have z0 := (HR2.out.below hb8).c0)
            | (go_at_call 34; refine (HT.out _).mono ?_; rintro e w9 ⟨rfl, hb9⟩; have hb9 : Below wr.heap.size wr w9 := (by first | exact step_call hb8 hb9 | exact step_call (step_call hb8 (below_drew _)) hb9); have z1 := (HR2.out.below hb9).c0)
            | fail)
          go_ret2
          rw [HU2.out]
          exact ⟨rfl, step_call Hbw.out hb8⟩
        by_cases h4 : q.length < 4
        · have hU : unpL s = .error 7 := by
            rw [HU.out, HEnd.out, decide_eq_false (by omega : ¬ 4 ≤ q.length)]; rfl
          have HU2 := Lib.hid hU
          have k4 : ((B q).size : Int) < 4 := by omega
          clear hU hX hqs
          go_wp2_with (first
            | (go_at_call 18; refine (HRt.out _ (by first | exact Below.refl _ _ | exact below_drew _)).mono ?_; rintro e w8 ⟨rfl, hb8⟩; have hb8 : Below wr.heap.size wr w8 := (by first | exact hb8 | exact step_call (below_drew _) hb8); have z0 := (HR2.out.below hb8).c0)
            | (go_at_call 34; refine (HT.out _).mono ?_; rintro e w9 ⟨rfl, hb9⟩; have hb9 : Below wr.heap.size wr w9 := (by first | exact step_call hb8 hb9 | exact step_call (step_call hb8 (below_drew _)) hb9); have z1 := (HR2.out.below hb9).c0)
            | fail)
          go_ret2
          rw [HU2.out]
          exact ⟨rfl, step_call Hbw.out hb8⟩
        have k4 : ¬ ((B q).size : Int) < 4 := by omega
        have k5 : 4 ≤ (B q).size := by omega
        cases zb
        · have hU : unpL s = .error 7 := by
            rw [HU.out, HEnd.out, decide_eq_true (by omega : 4 ≤ q.length)]; rfl
          have HU2 := Lib.hid hU
          clear hU hqs
          go_wp2_with (first
            | (go_at_call 18; refine (HRt.out _ (by first | exact Below.refl _ _ | exact below_drew _)).mono ?_; rintro e w8 ⟨rfl, hb8⟩; have hb8 : Below wr.heap.size wr w8 := (by first | exact hb8 | exact step_call (below_drew _) hb8); have z0 := (HR2.out.below hb8).c0)
            | (go_at_call 34; refine (HT.out _).mono ?_; rintro e w9 ⟨rfl, hb9⟩; have hb9 : Below wr.heap.size wr w9 := (by first | exact step_call hb8 hb9 | exact step_call (step_call hb8 (below_drew _)) hb9); have z1 := (HR2.out.below hb9).c0)
            | fail)
          go_ret2
          rw [HU2.out]
          exact ⟨rfl, step_call Hbw.out hb9⟩
        have HEn2 : Hid (unpL s = if q.take 4 = fixedL (crc (bytesL fs)) then .ok fs else .error 8) := Lib.hid (by
          rw [HU.out, HEnd.out, decide_eq_true (by omega : 4 ≤ q.length)]; rfl)
        obtain ⟨h64, hfew⟩ := right_few Hrt.out
        obtain ⟨hw1, -⟩ := whole_len h64 hfew
        have HB := Lib.hid (fun w0 (h : Below wr.heap.size wr w0) => ino_bytes (.slice ao ps.length ac) fs h64 hfew w0 (HFl.out.below h))
        have HXc := Lib.hid (fun v0 w0 h => wire_Crc1 v0 (bytesL fs) (by omega) w0 h)
        have hc1 := crc_lt (bytesL fs)
        generalize hcr : crc (bytesL fs) = cr at *
        have HF := Lib.hid (fun w0 => wire_Fixed (cr : Int) (by omega) (by omega) w0)
        rw [show ((cr : Int)).toNat = cr by omega] at HF
        have hex : (B q).extract 0 4 = B (q.take 4) := by rw [extract_take]; rfl
        go_wp2_with (first
            | (go_at_call 18; refine (HRt.out _ (by first | exact Below.refl _ _ | exact below_drew _)).mono ?_; rintro e w8 ⟨rfl, hb8⟩; have hb8 : Below wr.heap.size wr w8 := (by first | exact hb8 | exact step_call (below_drew _) hb8); have z0 := (HR2.out.below hb8).c0)
            | (go_at_call 34; refine (HT.out _).mono ?_; rintro e w9 ⟨rfl, hb9⟩; have hb9 : Below wr.heap.size wr w9 := (by first | exact step_call hb8 hb9 | exact step_call (step_call hb8 (below_drew _)) hb9); have z1 := (HR2.out.below hb9).c0)
            | (go_at_call 26; refine (HB.out _ (by first | exact hb9 | exact step_call hb9 (below_drew _))).mono ?_; rintro e w10 ⟨rfl, hb10⟩; have hb10 : Below wr.heap.size wr w10 := (by first | exact step_call hb9 hb10 | exact step_call (step_call hb9 (below_drew _)) hb10); have z2 := (HR2.out.below hb10).c0)
            | fail)
        have Hb10 := Lib.hid hb10
        clear hb8 hb9 hX k4 k5 d0 d1 z0 z1 hqs
        generalize hY : B (fixedL cr) = Y at *
        have hE : decide (q.take 4 = fixedL cr) = ((B (q.take 4)).toList == Y.toList) := by
          rw [← hY, toList_B, toList_B, Bool.eq_iff_iff, beq_iff_eq, decide_eq_true_eq]
        obtain ⟨bb, hbb⟩ : ∃ bb, ((B (q.take 4)).toList == Y.toList) = bb := ⟨_, rfl⟩
        rw [hbb] at hE
        have HE := Lib.hid hE
        have hbb2 : ((B (q.take 4)).toList != Y.toList) = !bb := by rw [← hbb]; rfl
        have k5 : 4 ≤ (B q).size := by rw [size_B]; omega
        have k6 : (4 : Int) ≤ ((B q).size : Int) := by omega
        clear hY hE
        cases bb
        · have hU : unpL s = .error 8 := by rw [HEn2.out, if_neg (of_decide_eq_false HE.out)]
          have HU2 := Lib.hid hU
          clear hU
          go_region_held3 (fun w' => Below w10.heap.size w10 w' ∧ w'.cell? ⟨rb, 0, none⟩ = some (.string (B q)))
            (first | assumption | (refine ⟨below_drew w10, ?_⟩ <;> assumption) | (go_split_ands; refine ⟨?_, ?_⟩ <;> first | exact step_call (by assumption) hb1 | exact cell_call hb1 (by assumption) | exact step_new (by assumption) _ | exact cell_alloc _ (by assumption)))
            (first
              | (go_at_call 25; refine (HXc.out _ _ (by first | exact row1i _ _ (by simp) _ _ | exact (row1i _ _ (by simp) _ _).below (below_drew _))).mono ?_; rintro e w11 ⟨rfl, hb1⟩)
              | (go_at_call 24; refine (HF.out _).mono ?_; rintro e w12 ⟨rfl, hb1⟩)
              | fail)
          all_goals
            go_wp2
            go_ret2
            rw [HU2.out]
            exact ⟨rfl, step_call Hbw.out (step_call Hb10.out (by go_split_ands; assumption))⟩
        · have hU : unpL s = .ok fs := by rw [HEn2.out, if_pos (of_decide_eq_true HE.out)]
          have HU2 := Lib.hid hU
          clear hU
          go_region_held3 (fun w' => Below w10.heap.size w10 w' ∧ w'.cell? ⟨rb, 0, none⟩ = some (.string (B q)))
            (first | assumption | (refine ⟨below_drew w10, ?_⟩ <;> assumption) | (go_split_ands; refine ⟨?_, ?_⟩ <;> first | exact step_call (by assumption) hb1 | exact cell_call hb1 (by assumption) | exact step_new (by assumption) _ | exact cell_alloc _ (by assumption)))
            (first
              | (go_at_call 25; refine (HXc.out _ _ (by first | exact row1i _ _ (by simp) _ _ | exact (row1i _ _ (by simp) _ _).below (below_drew _))).mono ?_; rintro e w11 ⟨rfl, hb1⟩)
              | (go_at_call 24; refine (HF.out _).mono ?_; rintro e w12 ⟨rfl, hb1⟩)
              | fail)
          all_goals
            go_wp2
            go_ret2
            rw [HU2.out]
            exact ⟨⟨_, rfl, HFl.out.below (step_call Hb10.out (by go_split_ands; assumption))⟩, step_call Hbw.out (step_call Hb10.out (by go_split_ands; assumption))⟩
  · have HU := Lib.hid (unp_no h0)
    by_cases h2 : s.take 4 = [67, 68, 88, 73]
    · have h1 : ¬ s.length = 3072 := fun h => h0 ⟨h, h2⟩
      have hk : (((B s).size : Int) != 3072) = true := by rw [bne_iff_ne]; omega
      rw [prefix_is, decide_eq_true h2] at HC
      clear h0 h1 h2 hsz
      go_enter Tryd.func14, Tryd.ntmps14
      go_wp2_with (go_at_call 31; refine (HC.out _).mono ?_; rintro e w1 ⟨rfl, rfl⟩)
      go_ret2
      rw [HU.out]
      exact ⟨rfl, Below.refl _ _⟩
    · rw [prefix_is, decide_eq_false h2] at HC
      clear h0 h2 hsz
      go_enter Tryd.func14, Tryd.ntmps14
      go_wp2_with (go_at_call 31; refine (HC.out _).mono ?_; rintro e w1 ⟨rfl, rfl⟩)
      go_ret2
      rw [HU.out]
      exact ⟨rfl, Below.refl _ _⟩
end Go.Proofs.YteemloillnfaeaaDoor
