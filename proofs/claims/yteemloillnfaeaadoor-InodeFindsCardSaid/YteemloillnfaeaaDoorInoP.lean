/- Chapter 8: bytes are unpacked, or refused, by the document's answer: codexref8.Unpack. Conditions: the bytes are few. -/
import Derived.Test.YteemloillnfaeaaDoorInoO
namespace Go.Proofs.YteemloillnfaeaaDoor
open Go.RowKit Go.Wir Go.Ino
attribute [local go_sem] Oper.semAt_some

theorem unp_yesQ {s : Tx} (h : s.length = 3072 ∧ s.take 4 = [67, 68, 88, 73]) : unpL s = endS (allQ (s.drop 4)) := by rw [unp_end (allQ_reads _), if_pos h]
theorem unp_split {s q : Tx} {fs : List Fil} (h : s.take 4 = [67, 68, 88, 73]) (hx : allQ (s.drop 4) = (fs, q, false)) : s = bytesL fs ++ q := by
  have h1 := allQ_reads (s.drop 4)
  rw [hx] at h1
  unfold Reads at h1
  split at h1
  · rename_i a l e
    simp only [Prod.mk.injEq, and_true] at h1
    obtain ⟨rfl, rfl⟩ := h1
    have h2 := (allR_some e).1
    conv => lhs; rw [← List.take_append_drop 4 s, h, h2]
    unfold bytesL; simp only [List.append_assoc]
  · cases h1
theorem extract_behind (a q : Tx) (m : Nat) : (B (a ++ q)).extract a.length (a.length + m) = B (q.take m) := by
  apply ByteArray.ext
  simp [B]
def ZeroUp (q : Tx) (j : Nat) : Prop := ∀ p (h : p < q.length), 4 ≤ p → p < j → q[p] = 0
theorem zero_all {q : Tx} (h : ZeroUp q q.length) : (q.drop 4).all (fun b => b == 0) = true := by
  rw [List.all_eq_true]
  intro x hx
  obtain ⟨i, hi, rfl⟩ := List.mem_iff_getElem.1 hx
  rw [List.length_drop] at hi
  rw [List.getElem_drop, beq_iff_eq]
  exact h (4 + i) (by omega) (by omega) (by omega)
theorem zero_not {q : Tx} {j : Nat} (hj : j < q.length) (h4 : 4 ≤ j) (h : q[j] ≠ 0) : (q.drop 4).all (fun b => b == 0) = false := by
  rw [← Bool.not_eq_true, List.all_eq_true]
  intro h2
  have := h2 q[j] (by
    rw [List.mem_iff_getElem]
    exact ⟨j - 4, by rw [List.length_drop]; omega, by rw [List.getElem_drop]; congr 1; omega⟩)
  exact h (by simpa using this)
set_option maxRecDepth 100000 in
set_option maxHeartbeats 3200000 in
theorem ref8_Unpack (s : Tx) (hs : s.length ≤ 100000) (w : World) :
    Calls Tryd.prog 15 #[.string (B s)] w (UnpR w (unpL s)) := by
  obtain ⟨i0, hi, hz0, hz1, hz2⟩ := info_parts (show (Tryd.prog.info? 58).map (fun i => (i.zero, i.size, i.bytes)) = some (some (.agg #[.string ⟨#[]⟩, .bool false, .int .i64 0, .slice none 0 0]), 4, 56) by kernel_rfl)
  have hsz := size_B s
  have hex4 : (B s).extract 0 4 = B (s.take 4) := by rw [extract_take]; rfl
  have hexd : (B s).extract 4 (B s).size = B (s.drop 4) := by rw [extract_to_end]; rfl
  by_cases h1 : s.length = 3072
  · have hk : (((B s).size : Int) != 3072) = false := by rw [hsz, h1]; rfl
    have k4 : (4 : Int) ≤ ((B s).size : Int) := by omega
    have k4' : 4 ≤ (B s).size := by omega
    by_cases h2 : s.take 4 = [67, 68, 88, 73]
    · have hm : ((B (s.take 4)).toList == [67, 68, 88, 73]) = true := by rw [toList_B, h2]; rfl
      have HU := Lib.hid (unp_yesQ ⟨h1, h2⟩)
      have HSP := Lib.hid (fun fs q hx => unp_split (s := s) (q := q) (fs := fs) h2 hx)
      have hls : (s.drop 4).length ≤ 3068 := by rw [List.length_drop]; omega
      obtain ⟨⟨a0, S0⟩, hA0⟩ : ∃ A, numQ 64 (s.drop 4, false) = A := ⟨_, rfl⟩
      have hB0 := numQ_le 64 (s.drop 4, false)
      rw [hA0] at hB0
      simp only at hB0
      obtain ⟨hB0, hB0'⟩ := hB0
      have HA : Hid (allQ (s.drop 4) = manyQ fileQ a0 S0) := Lib.hid (by unfold allQ; rw [hA0])
      rw [HA.out] at HU HSP
      have Hsz := Lib.hid hsz
      generalize s.take 4 = mg at *
      generalize s.drop 4 = l at *
      clear h1 h2 hsz
      go_enter Tryd.func15, Tryd.ntmps15
      go_wp2_with fail
      have hR0 : RdQ (w.alloc (.cells #[.string (B l), .bool true] 73)) w.heap.size (l, false) := heap_alloc_new w _
      have hW0 : Below w.heap.size w (w.alloc (.cells #[.string (B l), .bool true] 73)) := step_new (Below.refl _ _) _
      have hzw := World.size_alloc w (.cells #[.string (B l), .bool true] 73)
      refine (ref8_numL 64 64 rfl (by omega) w.heap.size (l, false) (by simp only; omega) _ hR0).mono ?_
      rintro e w2 ⟨rfl, hr2, hc2⟩
      rw [hA0] at hr2 ⊢
      have HR2 := Lib.hid hr2
      have HW2 := Lib.hid (hW0.trans (hc2.below (K := w.heap.size) (by omega) (fun k hk e => by omega)))
      obtain ⟨rb, hrb⟩ : ∃ rb, w.heap.size = rb := ⟨_, rfl⟩
      have HRB := Lib.hid hrb
      have hS0 : S0.1.length ≤ 3068 := by omega
      have HM := Lib.hid (fun n => manyQ_few S0 n)
      rw [hrb] at HR2 ⊢
      clear hr2 hc2 hA0 hR0 hW0 hzw hex4 hexd hm k4 k4' hk
      go_wp2
      go_loopw [6, 7] (fun v i wr => ∃ (k : Nat) (ps : List FV), k ≤ a0 ∧ i = .int .i64 k ∧ RdQ wr rb (manyQ fileQ k S0).2 ∧ Acc 58 (rb + 1) wr v ps ∧ ps.map Prod.fst = (manyQ fileQ k S0).1 ∧ Below rb w wr) (fun _ i _ => a0 - (intOf i).toNat)
      case atStart => exact ⟨0, [], by omega, rfl, HR2.out, Acc.nil _ _ _, rfl, by rw [← HRB.out]; exact HW2.out⟩
      case round =>
        obtain ⟨k, ps, hk, rfl, hR, hacc, hps, hbel⟩ := hrel
        obtain ⟨ao, ac, rfl⟩ := own_form hacc.own
        have HR := Lib.hid hR
        have HAc := Lib.hid hacc
        have Hps := Lib.hid hps
        have Hbel := Lib.hid hbel
        have hpl2 : ps.length ≤ 64 := by have := congrArg List.length hps; rw [List.length_map] at this; have := manyQ_len fileQ k S0; omega
        have hm := HM.out k
        have hrl := hR.lt
        by_cases hgo : k < a0 ∧ (manyQ fileQ k S0).2.2 = false
        · obtain ⟨hlt, hfine⟩ := hgo
          have hka : (k : Int) < (a0 : Int) := by omega
          have HE : Hid (manyQ fileQ (k + 1) S0 = ((manyQ fileQ k S0).1 ++ [(fileQ (manyQ fileQ k S0).2).1], (fileQ (manyQ fileQ k S0).2).2)) := Lib.hid (by rw [manyQ, hfine]; simp)
          have hSl : (manyQ fileQ k S0).2.1.length ≤ 1000000 := by omega
          generalize (manyQ fileQ k S0).1 = fs at *
          generalize (manyQ fileQ k S0).2 = S at *
          have o1 : wr.cell? ⟨rb, 1, none⟩ = some (.bool true) := by
            obtain ⟨S', b'⟩ := S
            simp only at hfine
            subst hfine
            exact hR.c1
          clear hR hacc hps hbel hm hfine
          obtain ⟨⟨⟨nm, sh, sz, xs⟩, S'⟩, hX⟩ : ∃ A, fileQ S = A := ⟨_, rfl⟩
          have HX := Lib.hid hX
          have HFI := Lib.hid (ref8_one rb S hSl wr HR.out)
          rw [hX] at HFI
          clear hX
          go_wp2_with fail
          refine HFI.out.mono ?_
          rintro e w5 ⟨ve, rfl, hr5, hc5, hx5, hl5⟩
          obtain ⟨ob, oc, rfl, -⟩ := hx5.form
          simp only at hr5 hx5 ⊢
          have HR5 := Lib.hid hr5
          have HA5 := Lib.hid (HAc.out.chg hc5 (fun g hg e => by omega))
          have hb5 := hc5.size
          have Hl5 : Hid (∀ g, (Value.slice ob xs.length oc).ownBlock = some g → rb + 1 ≤ g ∧ g < w5.heap.size ∧ (Value.slice ao ps.length ac).ownBlock ≠ some g) := Lib.hid (fun g hg => by
            have h1 := hl5 g hg
            refine ⟨by omega, h1.2, fun e => ?_⟩
            have := (HAc.out.own.lt g e).2
            omega)
          have HB5 := Lib.hid (Hbel.out.trans (hc5.below (K := rb) (by omega) (fun k hk e => by omega)))
          have HX5 := Lib.hid hx5
          have hsa1 := World.size_alloc w5 (.cells #[.string (B nm), .bool sh, .int .i64 sz, .slice ob xs.length oc] 58)
          have hnews := Lib.hid (cell4_newI (w5.alloc (.cells #[.string (B nm), .bool sh, .int .i64 sz, .slice ob xs.length oc] 58)) (w5.heap.size + 1) hsa1.symm (.string (B nm)) (.bool sh) (.int .i64 sz) (.slice ob xs.length oc) 58)
          have Hb6 := Lib.hid (step_new (step_new (Below.refl w5.heap.size w5) (.cells #[.string (B nm), .bool sh, .int .i64 sz, .slice ob xs.length oc] 58)) (.cells #[.string (B nm), .bool sh, .int .i64 sz, .slice ob xs.length oc] 58))
          have HA6 := Lib.hid (HA5.out.below Hb6.out)
          have hsa := World.size_alloc (w5.alloc (.cells #[.string (B nm), .bool sh, .int .i64 sz, .slice ob xs.length oc] 58)) (.cells #[.string (B nm), .bool sh, .int .i64 sz, .slice ob xs.length oc] 58)
          have Hsa := Lib.hid (hsa.trans (congrArg (· + 1) hsa1))
          clear hr5 hc5 hx5 hl5 hsa hsa1
          go_wp2_with (at_builtin; go_must (refine wpList_append_where _ rfl _ _ 24 rfl (rb + 1) 58 i0 (.agg #[.string ⟨#[]⟩, .bool false, .int .i64 0, .slice none 0 0]) 4 56 Tryd.underlying24 hi hz0 hz1 hz2 rfl (by decide) _ _ _ rfl HA6.out.own ⟨w5.heap.size + 1, 0, none⟩ 1 1 [.string (B nm), .bool sh, .int .i64 sz, .slice ob xs.length oc] rfl rfl ?c1 ?c2 ?c3 ?c4 ?c5 ?_))
          case c1 => exact hnews.out
          case c2 => simp [Value.oneCell']
          case c3 => unfold maxLen; omega
          case c4 => omega
          case c5 => simp; omega
          intro v7 w7 hown7 hgrow7 hwhere7
          have HA7 := Lib.hid (HA6.out.push (f := ⟨nm, sh, sz, xs⟩) (HX5.out.below Hb6.out) (fun g hg => by have h9 := Hl5.out g hg; have := Hsa.out; exact ⟨by omega, by omega, h9.2.2⟩) hown7 hgrow7 (by first | exact hwhere7 | (rw [Hsa.out]; exact hwhere7)))
          have HR7 : Hid (RdQ w7 rb S') := Lib.hid ((hgrow7.block rb (by have := HR5.out.lt; have := Hsa.out; omega) (fun e => by have := (HA6.out.own.lt rb e.symm).1; omega)).trans (HR5.out.below Hb6.out))
          have HB7 := Lib.hid (((HB5.out.alloc (by omega) _).alloc (by simp; omega) _).grown hgrow7 (by have := Hsa.out; omega) (fun q hq => by have := (HA6.out.own.lt q hq).1; omega))
          have Hps7 : Hid ((ps ++ [((⟨nm, sh, sz, xs⟩, .slice ob xs.length oc) : FV)]).map Prod.fst = (manyQ fileQ (k + 1) S0).1) := Lib.hid (by rw [HE.out, HX.out, List.map_append, Hps.out]; rfl)
          have HR8 : Hid (RdQ w7 rb (manyQ fileQ (k + 1) S0).2) := Lib.hid (by rw [HE.out, HX.out]; exact HR7.out)
          clear hown7 hgrow7 hwhere7
          go_wp2
          go_roundw
          case rel => exact ⟨k + 1, _, by omega, by go_num, HR8.out, HA7.out, Hps7.out, HB7.out⟩
          case measure => simp [intOf]; omega
        · have HST : manyQ fileQ a0 S0 = manyQ fileQ k S0 := by
            by_cases hlt : k < a0
            · exact manyQ_stop fileQ (by
                cases hbb : (manyQ fileQ k S0).2.2 with
                | true => rfl
                | false => exact absurd ⟨hlt, hbb⟩ hgo) a0 hk
            · obtain rfl : k = a0 := by omega
              rfl
          obtain ⟨⟨fs, q, bad⟩, hAll⟩ : ∃ A, manyQ fileQ k S0 = A := ⟨_, rfl⟩
          rw [HST, hAll] at HU HSP
          rw [hAll] at hR hps hm hgo
          simp only at hR hps hm hgo
          have hq : q.length ≤ 3068 := by omega
          have HR2 := Lib.hid hR
          have d1 := hR.c1
          have HFl : Hid (Files wr (.slice ao ps.length ac) fs) := Lib.hid (by rw [← hps]; exact hacc.files)
          have hfl : fs.length ≤ 64 := by rw [← hps, List.length_map]; omega
          have Hfit : Hid (∀ f ∈ fs, FitF f) := Lib.hid (fun f hf => FewF.fit (hm.2 f hf) (by omega))
          obtain ⟨rt, hrt⟩ : ∃ rt, rightB fs 0 4096 = rt := ⟨_, rfl⟩
          have HRt := Lib.hid (ref8_Right (.slice ao ps.length ac) fs 0 4096 (by omega) (by omega) (by omega) Hfit.out wr HFl.out)
          rw [hrt] at HRt
          obtain ⟨zb, hzb⟩ : ∃ zb, (q.drop 4).all (fun b => b == 0) = zb := ⟨_, rfl⟩
          have HEnd : Hid (endS (fs, q, bad) = if (!bad && rt && decide (4 ≤ q.length) && zb) = true then (if q.take 4 = fixedL (crc (bytesL fs)) then .ok fs else .error 8) else .error 7) := Lib.hid (by
            unfold endS endB; simp only [hrt, hzb])
          have Hzb := Lib.hid hzb
          have Hrt := Lib.hid hrt
          have hqs := size_B q
          have Hbw : Hid (Below w.heap.size w wr) := Lib.hid (by rw [HRB.out]; exact hbel)
          clear hR hacc hps hbel hm HR HAc Hps hAll hzb hrt HST
          cases bad
          rotate_left
          · have hU : unpL s = .error 7 := by rw [HU.out, HEnd.out]; rfl
            have HU2 := Lib.hid hU
            clear hU hgo
            by_cases hlt : k < a0
            · have hka : (k : Int) < (a0 : Int) := by omega
              go_wp2_with (first
              | (go_at_call 21; refine HRt.out.mono ?_; rintro e w8 ⟨rfl, hb8⟩; have z0 := (HR2.out.below hb8).c0; have z1 := (HR2.out.below hb8).c1)
              | fail)
              go_ret2
              rw [HU2.out]
              exact ⟨rfl, step_call Hbw.out hb8⟩
            · have hka : ¬ (k : Int) < (a0 : Int) := by omega
              go_wp2_with (first
              | (go_at_call 21; refine HRt.out.mono ?_; rintro e w8 ⟨rfl, hb8⟩; have z0 := (HR2.out.below hb8).c0; have z1 := (HR2.out.below hb8).c1)
              | fail)
              go_ret2
              rw [HU2.out]
              exact ⟨rfl, step_call Hbw.out hb8⟩
          have hka : ¬ (k : Int) < (a0 : Int) := fun h => hgo ⟨by omega, rfl⟩
          clear hgo
          cases rt
          · have hU : unpL s = .error 7 := by rw [HU.out, HEnd.out]; rfl
            have HU2 := Lib.hid hU
            clear hU
            go_wp2_with (first
              | (go_at_call 21; refine HRt.out.mono ?_; rintro e w8 ⟨rfl, hb8⟩; have z0 := (HR2.out.below hb8).c0; have z1 := (HR2.out.below hb8).c1)
              | fail)
            go_ret2
            rw [HU2.out]
            exact ⟨rfl, step_call Hbw.out hb8⟩
          by_cases h4 : q.length < 4
          · have hU : unpL s = .error 7 := by
              rw [HU.out, HEnd.out, decide_eq_false (by omega : ¬ 4 ≤ q.length)]; rfl
            have HU2 := Lib.hid hU
            have k4 : ((B q).size : Int) < 4 := by omega
            clear hU hqs
            go_wp2_with (first
              | (go_at_call 21; refine HRt.out.mono ?_; rintro e w8 ⟨rfl, hb8⟩; have z0 := (HR2.out.below hb8).c0; have z1 := (HR2.out.below hb8).c1)
              | fail)
            go_ret2
            rw [HU2.out]
            exact ⟨rfl, step_call Hbw.out hb8⟩
          have k4 : ¬ ((B q).size : Int) < 4 := by omega
          have k5 : 4 ≤ (B q).size := by omega
          have k6 : (B q).size = q.length := hqs
          clear hqs
          go_wp2_with (first
              | (go_at_call 21; refine HRt.out.mono ?_; rintro e w8 ⟨rfl, hb8⟩; have z0 := (HR2.out.below hb8).c0; have z1 := (HR2.out.below hb8).c1)
              | fail)
          have Hb8 := Lib.hid hb8
          have HK6 := Lib.hid k6
          have k7 : (4 : Int) ≤ ((B q).size : Int) := by omega
          have hz8 : (B q).size ≤ 3068 := by omega
          clear hb8 k6 h4 z1 d1 hka
          go_loop [10] (fun i => ∃ j : Nat, i = .int .i64 j ∧ 4 ≤ j ∧ j ≤ (B q).size ∧ ZeroUp q j) (fun i => (B q).size - (RowKit.intOf i).toNat)
          case atStart => exact ⟨4, rfl, by omega, by omega, fun p _ h1 h2 => by omega⟩
          case round =>
            obtain ⟨j, rfl, hj4, hj, hzu⟩ := hrel
            have Hzu := Lib.hid hzu
            clear hzu
            by_cases hjl : j < (B q).size
            · have hjq : j < q.length := by have := HK6.out; omega
              have hget : ((B q)[j]'hjl) = q[j] := by have := get_L (B q) j hjl; simpa [L_B] using this
              have hji : (j : Int) < ((B q).size : Int) := by omega
              obtain ⟨x, hx⟩ : ∃ x : Int, (((B q)[j]'hjl).toNat : Int) = x := ⟨_, rfl⟩
              have hx0 : x = 0 ↔ q[j] = 0 := by
                rw [← hx, hget]
                constructor
                · intro h; exact UInt8.toNat_inj.1 (by simp; omega)
                · intro h; rw [h]; rfl
              by_cases hz : q[j] = 0
              · have hne : (x != 0) = false := by rw [hx0.2 hz]; rfl
                have Hz2 : Hid (ZeroUp q (j + 1)) := Lib.hid (fun p hp h4 h5 => by
                  by_cases e : p = j
                  · subst e; exact hz
                  · exact Hzu.out p hp h4 (by omega))
                clear hz hx0 hget
                go_wp2
                go_round
                case rel => exact ⟨j + 1, by go_num, by omega, by omega, Hz2.out⟩
                case measure => first | omega | (simp [RowKit.intOf]; omega)
              · have hne : (x != 0) = true := by rw [bne_iff_ne]; exact fun h => hz (hx0.1 h)
                have hzf : zb = false := Hzb.out.symm.trans (zero_not hjq hj4 hz)
                have hU : unpL s = .error 7 := by rw [HU.out, HEnd.out, hzf]; simp
                have HU2 := Lib.hid hU
                clear hz hx0 hget hU hzf
                go_wp2
                go_ret2
                rw [HU2.out]
                exact ⟨rfl, step_call Hbw.out Hb8.out⟩
            · obtain rfl : j = (B q).size := by omega
              have hzt : zb = true := Hzb.out.symm.trans (zero_all (by rw [← HK6.out]; exact Hzu.out))
              have HEn2 : Hid (unpL s = if q.take 4 = fixedL (crc (bytesL fs)) then .ok fs else .error 8) := Lib.hid (by
                rw [HU.out, HEnd.out, hzt, decide_eq_true (by have := HK6.out; omega : 4 ≤ q.length)]; rfl)
              obtain ⟨h64, hfew⟩ := right_few Hrt.out
              obtain ⟨hw1, -⟩ := whole_len h64 hfew
              have HB := Lib.hid (fun w0 (h : Below wr.heap.size wr w0) => ref8_bytes (.slice ao ps.length ac) fs h64 hfew w0 (HFl.out.below h))
              have HXc := Lib.hid (fun w0 => ref2_Crc (B (bytesL fs)) (by rw [size_B]; omega) w0)
              rw [L_B] at HXc
              have hspl := HSP.out fs q rfl
              have hsl := congrArg List.length hspl
              rw [List.length_append] at hsl
              obtain ⟨n, hn⟩ : ∃ n, (B (bytesL fs)).size = n := ⟨_, rfl⟩
              have hn2 : n = (bytesL fs).length := by rw [← hn, size_B]
              have hex2 : (B s).extract n (n + 4) = B (q.take 4) := by
                rw [hspl, hn2]; exact extract_behind _ _ _
              have hn4 : n + 4 ≤ (B s).size := by rw [Hsz.out]; have := HK6.out; omega
              have hn5 : (n : Int) + 4 ≤ ((B s).size : Int) := by omega
              have hn6 : n ≤ 26000 := by omega
              have hc1 := crc_lt (bytesL fs)
              generalize hcr : crc (bytesL fs) = cr at *
              have HF := Lib.hid (fun w0 => ref2_Fixed (cr : Int) (by omega) (by omega) w0)
              rw [show ((cr : Int)).toNat = cr by omega] at HF
              generalize hY : B (fixedL cr) = Y at *
              have hE : decide (q.take 4 = fixedL cr) = ((B (q.take 4)).toList == Y.toList) := by
                rw [← hY, toList_B, toList_B, Bool.eq_iff_iff, beq_iff_eq, decide_eq_true_eq]
              obtain ⟨bb, hbb⟩ : ∃ bb, ((B (q.take 4)).toList == Y.toList) = bb := ⟨_, rfl⟩
              rw [hbb] at hE
              have HE := Lib.hid hE
              have hbb2 : ((B (q.take 4)).toList != Y.toList) = !bb := by rw [← hbb]; rfl
              clear hY hE hspl hsl hn2 hzt hcr hw1 hfew
              cases bb
              · have hU : unpL s = .error 8 := by rw [HEn2.out, if_neg (of_decide_eq_false HE.out)]
                have HU2 := Lib.hid hU
                clear hU
                go_wp2_with (first
                  | (go_at_call 28; refine (HB.out _ Hb8.out).mono ?_; rintro e w10 ⟨rfl, hb10⟩)
                  | fail)
                have y1 : IntKind.i64.wrap ((n : Int) + 4) = (n : Int) + 4 := IntWalk.i64_in _ (by omega)
                have y2 : ((n : Int) + 4).toNat = n + 4 := by omega
                have y3 : (0 : Int) ≤ (n : Int) + 4 := by omega
                have y4 : (n : Int) ≤ (n : Int) + 4 := by omega
                go_region_held3 (fun w' => Below w10.heap.size w10 w')
                  (first | assumption | exact below_drew w10 | exact step_call (by assumption) hb1)
                  (first
                    | (go_at_call 30; refine (HXc.out _).mono ?_; rintro e w11 ⟨rfl, hb1⟩)
                    | (go_at_call 29; refine (HF.out _).mono ?_; rintro e w12 ⟨rfl, hb1⟩)
                    | fail)
                all_goals
                  go_wp2
                  go_ret2
                  rw [HU2.out]
                  exact ⟨rfl, step_call Hbw.out (step_call Hb8.out (step_call hb10 (by assumption)))⟩
              · have hU : unpL s = .ok fs := by rw [HEn2.out, if_pos (of_decide_eq_true HE.out)]
                have HU2 := Lib.hid hU
                clear hU
                go_wp2_with (first
                  | (go_at_call 28; refine (HB.out _ Hb8.out).mono ?_; rintro e w10 ⟨rfl, hb10⟩)
                  | fail)
                have y1 : IntKind.i64.wrap ((n : Int) + 4) = (n : Int) + 4 := IntWalk.i64_in _ (by omega)
                have y2 : ((n : Int) + 4).toNat = n + 4 := by omega
                have y3 : (0 : Int) ≤ (n : Int) + 4 := by omega
                have y4 : (n : Int) ≤ (n : Int) + 4 := by omega
                go_region_held3 (fun w' => Below w10.heap.size w10 w')
                  (first | assumption | exact below_drew w10 | exact step_call (by assumption) hb1)
                  (first
                    | (go_at_call 30; refine (HXc.out _).mono ?_; rintro e w11 ⟨rfl, hb1⟩)
                    | (go_at_call 29; refine (HF.out _).mono ?_; rintro e w12 ⟨rfl, hb1⟩)
                    | fail)
                all_goals
                  go_wp2
                  go_ret2
                  rw [HU2.out]
                  exact ⟨⟨_, rfl, HFl.out.below (step_call Hb8.out (step_call hb10 (by assumption)))⟩, step_call Hbw.out (step_call Hb8.out (step_call hb10 (by assumption)))⟩
    · have hm : ((B (s.take 4)).toList == [67, 68, 88, 73]) = false := by rw [toList_B]; simpa using h2
      have HU := Lib.hid (unp_no (s := s) (fun h => h2 h.2))
      clear h1 h2 hsz
      go_enter Tryd.func15, Tryd.ntmps15
      go_wp2
      go_ret2
      rw [HU.out]
      exact ⟨rfl, Below.refl _ _⟩
  · have hk : (((B s).size : Int) != 3072) = true := by rw [bne_iff_ne]; omega
    have HU := Lib.hid (unp_no (s := s) (fun h => h1 h.1))
    clear h1 hsz
    go_enter Tryd.func15, Tryd.ntmps15
    go_wp2
    go_ret2
    rw [HU.out]
    exact ⟨rfl, Below.refl _ _⟩
end Go.Proofs.YteemloillnfaeaaDoor
