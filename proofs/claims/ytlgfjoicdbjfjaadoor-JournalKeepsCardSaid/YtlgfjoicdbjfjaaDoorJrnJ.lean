/- Chapter 4: Commit. Conditions: numbers fit, a device that may be. -/
import Derived.Test.YtlgfjoicdbjfjaaDoorJrnI
import Derived.Deep.AppendLies
namespace Go.Proofs.YtlgfjoicdbjfjaaDoor
open Go.RowKit Go.Wir Go.Blk Go.Frm Go.Jrn

section
variable {w0 w w' : World} {g : Nat} {od : Option Nat} {d : Dv} {jb : Nat} {j : Jn} {R : Nat → Prop}
theorem check_fine {l : List Wr} (ok : d.Ok) (h : checkE j d.disk.length l = 0) : 0 < l.length ∧ l.length ≤ 48 ∧ Fine l := by
  have hl := check_len h
  refine ⟨hl.1, hl.2, ?_⟩
  unfold checkE at h
  rw [if_neg (by omega)] at h
  have key : ∀ l : List Wr, badH j d.disk.length l = 0 → Fine l := by
    intro l
    induction l with
    | nil => intro _ p hp; simp at hp
    | cons q l ih =>
      intro hb p hp
      unfold badH at hb
      split at hb
      · rename_i h1
        split at hb
        · rename_i h2
          rcases List.mem_cons.1 hp with rfl | hp
          · unfold homeB at h1
            rw [Bool.and_eq_true, decide_eq_true_eq, decide_eq_true_eq] at h1
            have := ok.n1
            exact ⟨by omega, h2⟩
          · exact ih hb p hp
        · cases hb
      · cases hb
  exact key l h
theorem s1_drewJ {w : World} {b : Nat} {v : Value} (h : w.cell? ⟨b, 0, none⟩ = some v) : w.drew.cell? ⟨b, 0, none⟩ = some v := h
theorem s1_drewNJ {w : World} {b n : Nat} {v : Value} (h : w.cell? ⟨b, 0, none⟩ = some v) : (w.drewN n).cell? ⟨b, 0, none⟩ = some v := h
theorem s1_blk {w w' : World} {b n : Nat} {v : Value} (h : w.cell? ⟨b, 0, none⟩ = some v) (hb : w'.heap[b]? = (w.drewN n).heap[b]?) : w'.cell? ⟨b, 0, none⟩ = some v := (World.cell?_of_block (a := ⟨b, 0, none⟩) (w := w) hb).trans h
theorem fit_log {K : Nat} {j : Jn} (hj : JFit K j) : ∀ (L : List Txt) (_ : ∀ s ∈ L, s.length ≤ 256) (k : Nat), FitW (logF j k L)
  | [], _, _ => fun p hp => by simp [logF] at hp
  | s :: L, h, k => fun p hp => by
    have hpl : placeN j k < 5000 := by unfold placeN; rw [hj.log]; omega
    rcases List.mem_cons.1 hp with rfl | hp
    · have := h s (by simp)
      exact ⟨by show -9223372036854775808 ≤ ((placeN j k : Nat) : Int); omega, by show ((placeN j k : Nat) : Int) ≤ 9223372036854775807; omega, by show s.length ≤ 9223372036854775807; omega⟩
    · exact fit_log hj L (fun t ht => h t (by simp [ht])) (k + 1) p hp
theorem ckpt_ok (j : Jn) (d : Dv) (h : d.Ok) : (ckpt d j).2.1.Ok ∧ (ckpt d j).2.1.pend.length ≤ d.pend.length + 2 ∧ (ckpt d j).2.1.disk.length = d.disk.length := by
  obtain ⟨a1, a2, a3⟩ := lays_ok [(((placeN j 0 : Nat) : Int), zeros)] d h
  have e1 : ckD1 d j = lays d [(((placeN j 0 : Nat) : Int), zeros)] := rfl
  rw [← e1] at a1 a2 a3
  obtain ⟨b1, b2, b3⟩ := lays_ok [(((1 - j.pos : Nat) : Int), slotT (nextSl j))] (ckD1 d j).2 a1
  have e2 : ckD2 d j = lays (ckD1 d j).2 [(((1 - j.pos : Nat) : Int), slotT (nextSl j))] := rfl
  rw [← e2] at b1 b2 b3
  simp only [List.length_cons, List.length_nil] at a2 b2
  unfold ckpt
  split
  · split
    · exact ⟨b1, by show (ckD2 d j).2.pend.length ≤ _; omega, b3.trans a3⟩
    · exact ⟨b1, by show (ckD2 d j).2.pend.length ≤ _; omega, b3.trans a3⟩
  · exact ⟨a1, by show (ckD1 d j).2.pend.length ≤ _; omega, a3⟩
set_option maxRecDepth 100000 in
set_option maxHeartbeats 3200000 in
theorem jr_Commit {K : Nat} (h : LiveJ w0 w g od d jb j R) (ok : d.Ok) (hj : JFit K j) (hK : K ≤ 900000) (hp : d.pend.length ≤ 5000) (v : Value) (l : List Wr) (hw : Wrs w v l) (hv : ∀ k, v.ownBlock = some k → R k) (hfit : FitW l) (hn : l.length ≤ 100000) :
    Calls Tryd.prog 14 #[.pointer (some ⟨jb, 0, none⟩), v] w fun e w' => e = .returned (.int .i64 ((commit d j l).1 : Nat)) ∧ LiveJ w0 w' g od (commit d j l).2.1 jb (commit d j l).2.2 R ∧ Keeps R w w' := by
  have HC : Hid (commit d j l = if checkE j d.disk.length l = 0 then (if (comPre d j l).1 = 0 then comMain (comPre d j l).2.1 (comPre d j l).2.2 l else comPre d j l) else (checkE j d.disk.length l, d, j)) := Lib.hid rfl
  have H := Lib.hid h
  have Hok := Lib.hid ok
  have Hj := Lib.hid hj
  have Hw := Lib.hid hw
  have Hv := Lib.hid hv
  have Hfit := Lib.hid hfit
  have HCh := Lib.hid (jr_check h (by rw [hj.log]; omega) v l hw hfit hn)
  obtain ⟨oa, c, rfl, _⟩ := hw.form
  clear h ok hj hw hv hfit
  by_cases hc : checkE j d.disk.length l = 0
  · have Hfine := Lib.hid (check_fine Hok.out hc)
    obtain ⟨hl1, hl2⟩ := check_len hc
    have HC1 : Hid (commit d j l = if (comPre d j l).1 = 0 then comMain (comPre d j l).2.1 (comPre d j l).2.2 l else comPre d j l) := Lib.hid (by rw [HC.out, if_pos hc])
    rw [hc] at HCh
    clear hc HC
    go_enter Tryd.func14, Tryd.ntmps14
    go_wp2_with fail
    refine HCh.out.mono ?_
    rintro e w1 ⟨rfl, hb1⟩
    obtain ⟨j1, k1⟩ := LiveC.call H.out hb1
    obtain ⟨⟨_, _, _, _, _, _, c6, _⟩, _⟩ := LiveJ.cells j1
    have Hw1 := Lib.hid (Hw.out.below hb1)
    have HP := Lib.hid (frame_Pack j.next l (.slice oa l.length c) (by have := Hj.out.next; omega) (by omega) Hfit.out w1 Hw1.out)
    have J1 := Lib.hid j1
    have K1 := Lib.hid k1
    clear hb1 j1 k1
    go_wp2_with fail
    refine HP.out.mono ?_
    rintro e w2 ⟨hb2, hpost⟩
    have hp0 : packE l = 0 := packE_zero.2 Hfine.out
    have hpT := packT_fine j.next Hfine.out.1 Hfine.out.2.1 Hfine.out.2.2
    unfold PackPost at hpost
    rw [hp0, hpT] at hpost
    obtain ⟨vf, rfl, hownf⟩ := hpost
    have hfl : (headT j.next (ats l) (datas l) :: datas l).length = l.length + 1 := by rw [List.length_cons, datas_length]
    have j2 := LiveC.more J1.out hb2 vf (fun k hk => own_some hownf k hk)
    obtain ⟨_, k2⟩ := LiveC.call J1.out hb2
    have Hw2 := Lib.hid (Hw1.out.below hb2)
    have K2 := Lib.hid (K1.out.trans k2)
    rcases hownf.2 with ⟨rfl, h0⟩ | ⟨gf, cf, cur, rfl, hg1, hg2, hg3, hg4, hg5, hg6⟩
    · rw [hfl] at h0; omega
    obtain ⟨⟨_, _, _, c3, _, _, _, c7⟩, _⟩ := LiveJ.cells j2
    have J2 := Lib.hid j2
    have Hown := Lib.hid hownf
    rw [hfl] at hg3
    rw [hfl] at Hown
    rw [hfl]
    have hused := Hj.out.used
    have hlog := Hj.out.log
    have Hlog := Lib.hid hlog
    have hlog2 : j.x.log ≤ 4096 := by omega
    have HF : Hid (fullB j l = decide (j.x.log < j.used + (l.length + 2))) := Lib.hid rfl
    have HPre : Hid (comPre d j l = if fullB j l then ckpt d j else (0, d, j)) := Lib.hid rfl
    clear hp0 hpT hownf hg2 hg4 hg5 hg6 hb2 j2 k2 hfl c6 hlog
    obtain ⟨i0, hi, hz0, hz1, hz2⟩ := info_parts Tryd.info_str
    obtain ⟨iw, hwi, hwz0, hwz1, hwz2⟩ := info_parts Tryd.info_wr
    by_cases hf : j.x.log < j.used + (l.length + 2)
    · have HPre1 : Hid (comPre d j l = ckpt d j) := Lib.hid (by rw [HPre.out, HF.out, decide_eq_true hf]; rfl)
      have hf1 : (j.x.log : Int) - (j.used : Int) < (l.length : Int) + 1 + 1 := by omega
      have HCk := Lib.hid (jr_Checkpoint (LiveJ.drew J2.out 1).1 Hok.out Hj.out (by omega) (by omega))
      have Hcj := Lib.hid (ckpt_fit Hj.out d)
      have Hcd := Lib.hid (ckpt_ok j d Hok.out)
      rw [HPre1.out] at HC1
      have hnx : (ckpt d j).2.2.next = j.next := by rcases ckpt_j d j with e | e <;> rw [e]; rfl
      generalize ckpt d j = q at *
      obtain ⟨r1, d1, j1⟩ := q
      simp only at HCk Hcj Hcd HC1 hnx
      clear hf
      go_wp2
      go_region
      go_wp2_with fail
      refine HCk.out.mono ?_
      rintro e W ⟨rfl, j3, k3⟩
      have JX := Lib.hid j3
      have KX := Lib.hid ((LiveJ.drew J2.out 1).2.trans k3)
      clear j3 k3
      by_cases hE : r1 = 0
      · subst hE
        have HFin : Hid (commit d j l = comMain d1 j1 l) := Lib.hid (by rw [HC1.out]; rfl)
        have Hok1 := Lib.hid Hcd.out.1
        have Hj1 := Lib.hid (Hcj.out)
        have HNx := Lib.hid hnx
        clear hnx
        have hp1 : d1.pend.length ≤ 7000 := by have := Hcd.out.2.1; omega
        have HcM : Hid (comMain d1 j1 l = if (comD1 d1 j1 l).1 = 0 then (if (comD2 d1 j1 l).1 = 0 then ((wrs (comD2 d1 j1 l).2 l).1, (wrs (comD2 d1 j1 l).2 l).2, advJ j1 l.length) else ((comD2 d1 j1 l).1, (comD2 d1 j1 l).2, j1)) else ((comD1 d1 j1 l).1, (comD1 d1 j1 l).2, j1)) := Lib.hid rfl
        have HcD1 : Hid (comD1 d1 j1 l = lays d1 (logF j1 1 (datas l ++ [zeros]))) := Lib.hid rfl
        have HFitL : Hid (FitW (logF j1 1 (datas l ++ [zeros]))) := Lib.hid (fit_log Hj1.out _ (fun s hs => by
          rcases List.mem_append.1 hs with hs | hs
          · obtain ⟨p, hp, rfl⟩ := List.mem_map.1 hs
            exact Nat.le_of_eq (Hfine.out.2.2 p hp).2
          · rw [List.mem_singleton.1 hs]; exact Nat.le_of_eq zeros_length) 1)
        have hownW := own_keeps Hown.out (R := fun k => R k ∨ (Value.slice (some ⟨gf, 0, none⟩) (l.length + 1) cf).ownBlock = some k) (fun k hk => .inr hk) KX.out
        have hbkW := KX.out gf (.inr rfl)
        have hfc : ∀ i (hi : i < (headT j.next (ats l) (datas l) :: datas l).length), W.cell? ⟨gf, i, none⟩ = some (.string (B (headT j.next (ats l) (datas l) :: datas l)[i])) := fun i hi => by
          have hh := hownW
          rw [show l.length + 1 = (headT j.next (ats l) (datas l) :: datas l).length by rw [List.length_cons, datas_length]] at hh
          rcases own_row hh with ⟨a, cap, e1, e2⟩ | ⟨b, off, cap, e1, e2, e3, e4⟩
          · simp [txtV] at e2
          · simp only [Value.slice.injEq, Option.some.injEq, Addr.mk.injEq, and_true] at e1
            obtain ⟨⟨rfl, rfl⟩, _⟩ := e1
            have := e4 i (by rw [txtV_length]; exact hi)
            rw [Nat.zero_add] at this
            rw [this]
            simp only [txtV, List.getElem_map]
        have HCl := Lib.hid (clone_txtR (datas l) gf 1 (cf - 1) W (fun i hi => by
          have := hfc (i + 1) (by rw [List.length_cons]; omega)
          rw [Nat.add_comm 1 i, this, List.getElem_cons_succ]) (by rw [datas_length]; omega))
        rw [datas_length] at HCl
        have f0 := hfc 0 (by simp)
        rw [List.getElem_cons_zero] at f0
        have HWsz := Lib.hid (LiveC.jlt JX.out)
        clear hownW hfc
        go_wp2_with fail
        refine HCl.out.mono ?_
        rintro e w5 ⟨hb5, vd, rfl, hown5⟩
        have Hb5 := Lib.hid hb5
        have Hown5 := Lib.hid hown5
        obtain ⟨ad, cd, rfl⟩ := own_form hown5
        clear hb5 hown5
        go_wp2_with fail
        refine (noughts _).mono ?_
        rintro e w6 ⟨rfl, hb6⟩
        have Hb6 := Lib.hid (step_new (step_call Hb5.out hb6) (.cells #[.string (B zeros)] 9))
        have Ho6 := Lib.hid ((own_kept Hown5.out hb6).alloc (.cells #[.string (B zeros)] 9))
        clear hb6
        generalize hzr : zeros = zr at *
        go_wp2_with (at_builtin; go_must (refine wpList_append_own _ rfl _ _ 44 rfl W.heap.size 9 i0 (.string ⟨#[]⟩) 1 16 Tryd.underlying44 hi hz0 hz1 hz2 rfl (by decide) _ _ _ rfl Ho6.out ⟨w6.heap.size, 0, none⟩ 1 1 [.string (B zr)] rfl rfl ?c1 ?c2 ?c3 ?c4 ?c5 ?_))
        case c1 => exact cell1_new w6 _ _
        case c2 => simp [Value.oneCell']
        case c3 => unfold maxLen; omega
        case c4 => omega
        case c5 => exact Hb6.out.size
        intro v7 w7 hown7 hgrow7 _
        have Hb7 := Lib.hid (Hb6.out.grown hgrow7 Hb6.out.size (fun q hq => (Ho6.out.lt q hq).1))
        have HLL : Hid ((datas l ++ [zr]).length = l.length + 1) := Lib.hid (by rw [List.length_append, datas_length]; rfl)
        rw [show txtCells (datas l) ++ [.string (B zr)] = txtCells (datas l ++ [zr]) by unfold txtCells; rw [List.map_append]; rfl] at hown7
        have Hrow7 := Lib.hid (own_row (show w7.ownsRow W.heap.size 9 1 v7 (datas l ++ [zr]).length (txtCells (datas l ++ [zr])) by rw [HLL.out]; exact hown7))
        obtain ⟨j7, k7⟩ := LiveC.call JX.out Hb7.out
        have J7 := Lib.hid j7
        have K7 := Lib.hid (KX.out.trans k7)
        have hbk7 := Lib.hid (k7 gf (.inr rfl))
        clear hown7 hgrow7 j7 k7
        obtain ⟨o7, c7, hv7, hc7⟩ := txt_row Hrow7.out
        rw [HLL.out] at hv7
        subst hv7
        have Hc7 := Lib.hid hc7
        clear hc7
        generalize hLd : datas l ++ [zr] = L at *
        go_wp2
        go_loopw [55, 9] (fun x55 x9 wr => ∃ k : Nat, k ≤ l.length + 1 ∧ x55 = .int .i64 k ∧ wr.ownsRow w7.heap.size 47 2 x9 k (wrCells (natW (logF j1 1 (L.take k)))) ∧ Below w7.heap.size w7 wr) (fun x55 _ _ => l.length + 1 - (intOf x55).toNat)
        case atStart => exact ⟨0, by omega, rfl, World.ownsRow_nil _ _ _ _, Below.refl _ _⟩
        case round =>
          obtain ⟨k, hk, rfl, hown, hbel⟩ := hrel
          obtain ⟨ax, cx, rfl⟩ := own_form hown
          by_cases hlt : k < l.length + 1
          · obtain ⟨b, off, rfl, hb, hcap, e1⟩ := Hc7.out k (by rw [HLL.out]; exact hlt)
            have e1 := cell_below hbel hb e1
            have hst := wrCells_log j1 L k (by rw [HLL.out]; exact hlt)
            obtain ⟨jr, _⟩ := LiveC.call J7.out hbel
            have HPl := Lib.hid (jr_place jr Hj1.out (k + 1) (by omega))
            have hpl : placeN j1 (k + 1) < 5000 := by unfold placeN; rw [Hj1.out.log]; omega
            simp only [Int.natCast_add, Int.cast_ofNat_Int] at HPl
            generalize L[k]'(by rw [HLL.out]; exact hlt) = sk at *
            generalize placeN j1 (k + 1) = pk at *
            have Hst := Lib.hid hst
            have Hbel := Lib.hid hbel
            have Hown := Lib.hid hown
            clear hst jr hbel hown
            go_wp2_with fail
            refine HPl.out.mono ?_
            rintro e wq ⟨rfl, nq, hwq⟩
            have hbq : Below wr.heap.size wr wq := by rw [hwq]; exact ⟨rfl, rfl, rfl, Nat.le_refl _, fun _ _ => rfl⟩
            have Hbq := Lib.hid (step_new (step_call Hbel.out hbq) (.cells #[.int .i64 (pk : Nat), .string (B sk)] 47))
            have Hoq := Lib.hid ((own_kept Hown.out hbq).alloc (.cells #[.int .i64 (pk : Nat), .string (B sk)] 47))
            clear hwq hbq
            go_wp2_with (at_builtin; go_must (refine wpList_append_own _ rfl _ _ 35 rfl w7.heap.size 47 iw (.agg #[.int .i64 0, .string ⟨#[]⟩]) 2 24 Tryd.underlying35 hwi hwz0 hwz1 hwz2 rfl (by decide) _ _ _ rfl Hoq.out ⟨wq.heap.size, 0, none⟩ 1 1 [.int .i64 (pk : Nat), .string (B sk)] rfl rfl ?d1 ?d2 ?d3 ?d4 ?d5 ?_))
            case d1 => exact World.news_of_block (cs := #[.int .i64 (pk : Nat), .string (B sk)]) (t := 47) (fr := (0, 0)) (heap_alloc_new wq _)
            case d2 => simp [Value.oneCell']
            case d3 => unfold maxLen; omega
            case d4 => omega
            case d5 => exact Hbq.out.size
            intro v8 w8 hown8 hgrow8 _
            have Hb8 := Lib.hid (Hbq.out.grown hgrow8 Hbq.out.size (fun q hq => (Hoq.out.lt q hq).1))
            rw [← Hst.out] at hown8
            have Hown8 := Lib.hid hown8
            clear hown8 hgrow8
            go_wp2
            go_roundw
            case rel => exact ⟨k + 1, by omega, by go_num, Hown8.out, Hb8.out⟩
            case measure => simp [intOf]; omega
          · obtain rfl : k = l.length + 1 := by omega
            rw [show L.take (l.length + 1) = L from List.take_of_length_le (by rw [HLL.out]; omega)] at hown
            have hw8 : Wrs wr (.slice ax (l.length + 1) cx) (logF j1 1 L) := by
              have h8 := own_wrs (l := natW (logF j1 1 L)) (by rw [natlog_length, HLL.out]; exact hown)
              rwa [intW_logF] at h8
            have j8 := LiveC.more J7.out hbel (.slice ax (l.length + 1) cx) (fun k hk => own_some hown k hk)
            have k8 := (LiveC.call J7.out hbel).2
            have HLy := Lib.hid (jr_lays j8 Hok1.out _ (logF j1 1 L) hw8 (fun k hk => .inr hk) HFitL.out (by rw [logF_length, HLL.out]; omega))
            have Hlok := Lib.hid (lays_ok (logF j1 1 L) d1 Hok1.out)
            rw [← HcD1.out] at HLy Hlok
            have K8 := Lib.hid (K7.out.trans k8)
            have hbk8 := Lib.hid (k8 gf (.inr rfl))
            clear hown hbel hw8 j8 k8
            generalize hD1 : comD1 d1 j1 l = D1 at *
            obtain ⟨r1, dd⟩ := D1
            simp only at HLy Hlok HcM
            have hpl9 : placeN j1 0 < 5000 := by unfold placeN; rw [Hj1.out.log]; omega
            go_wp2_with fail
            refine HLy.out.mono ?_
            rintro e w9 ⟨rfl, j9, k9⟩
            have J9 := Lib.hid j9
            have K9 := Lib.hid (K8.out.trans (k9.less (R' := fun k => R k ∨ (Value.slice (some ⟨gf, 0, none⟩) (l.length + 1) cf).ownBlock = some k) (fun k hk => .inl hk)))
            have f9 : w9.cell? ⟨gf, 0, none⟩ = some (.string (B (headT j.next (ats l) (datas l)))) :=
              (World.cell?_of_block (a := ⟨gf, 0, none⟩) (((k9 gf (.inl (.inr rfl))).trans hbk8.out).trans hbk7.out)).trans f0
            clear j9 k9 f0
            by_cases hE : r1 = 0
            · subst hE
              have HFin2 : Hid (commit d j l = if (comD2 d1 j1 l).1 = 0 then ((wrs (comD2 d1 j1 l).2 l).1, (wrs (comD2 d1 j1 l).2 l).2, advJ j1 l.length) else ((comD2 d1 j1 l).1, (comD2 d1 j1 l).2, j1)) := Lib.hid (by rw [HFin.out, HcM.out]; rfl)
              have HcD2 : Hid (comD2 d1 j1 l = lays dd [(((placeN j1 0 : Nat) : Int), headT j.next (ats l) (datas l))]) := Lib.hid (by unfold comD2; rw [hD1, HNx.out])
              have HPl0 := Lib.hid (fun n => jr_place (LiveJ.drew J9.out n).1 Hj1.out 0 (by omega))
              have HH6 : (headT j.next (ats l) (datas l)).length = 256 := headT_length _ _ _ (by rw [ats_length]; omega)
              have Q3 := Lib.hid (show (headT j.next (ats l) (datas l)).length ≤ 100000 by omega)
              have Q4 := Lib.hid (show dd.pend.length ≤ 99999 by have := Hlok.out.2.1; rw [logF_length, HLL.out] at this; omega)
              have Q5 := Lib.hid (lays_ok [(((placeN j1 0 : Nat) : Int), headT j.next (ats l) (datas l))] dd Hlok.out.1)
              rw [← HcD2.out] at Q5
              have hpq : dd.pend.length ≤ 8000 := by have := Hlok.out.2.1; rw [logF_length, HLL.out] at this; omega
              have HLy2 := Lib.hid (fun n => jr_lays1 (LiveJ.drew J9.out n).1 Hlok.out.1 ((placeN j1 0 : Nat) : Int) (headT j.next (ats l) (datas l)) (by omega) (by omega) Q3.out Q4.out 47)
              rw [← HcD2.out] at HLy2
              generalize headT j.next (ats l) (datas l) = hT at *
              generalize placeN j1 0 = pl at *
              clear HH6
              go_wp2
              go_region_held3 (fun w' => w'.cell? ⟨gf, 0, none⟩ = some (.string (B hT)))
                (first | with_reducible exact s1_drewJ f9 | with_reducible exact s1_drewNJ (by assumption) | with_reducible exact cell_alloc _ (by assumption) | with_reducible assumption | with_reducible exact s1_blk f9 hgf10)
                (first
                  | (go_at_call 38; go_must (refine (HPl0.out 1).mono ?_); rintro e w2 ⟨rfl, n2, rfl⟩)
                  | (go_at_call 39; go_must (refine (HLy2.out (1 + n2)).mono ?_); rintro e w10 ⟨rfl, j10, k10⟩; have J10 := Lib.hid j10; have hgf10 := k10 gf (.inl (.inr rfl)); have K10 := Lib.hid (K9.out.trans ((((LiveJ.drew J9.out (1 + n2)).2).trans k10).less (R' := fun k => R k ∨ (Value.slice (some ⟨gf, 0, none⟩) (l.length + 1) cf).ownBlock = some k) (fun k hk => .inl hk)))))
              all_goals
                generalize hD2 : comD2 d1 j1 l = D2 at *
                obtain ⟨r2, d2⟩ := D2
                simp only at J10 Q5 HFin2
                by_cases hE2 : r2 = 0
                · have HFin3 : Hid (commit d j l = ((wrs d2 l).1, (wrs d2 l).2, advJ j1 l.length)) := Lib.hid (by rw [HFin2.out, if_pos hE2])
                  have hq2 : ((r2 : Int) != 0) = false := by rw [hE2]; rfl
                  have HAdv := Lib.hid (jr_advance J10.out Hj1.out (by omega) l.length (by omega))
                  clear hE2
                  go_wp2_with fail
                  refine HAdv.out.mono ?_
                  rintro e w11 ⟨rfl, j11, k11⟩
                  obtain ⟨⟨c0, _⟩, _⟩ := LiveJ.cells j11
                  have Kall := Lib.hid ((K2.out.trans (K10.out.less (fun k hk => .inl hk))).trans (k11.less (R' := R) (fun k hk => .inl (.inl hk))))
                  have HWr := Lib.hid (jr_writes j11.live Q5.out.1 (.slice oa l.length c) l (Hw.out.keeps Hv.out Kall.out) (fun k hk => .inl (.inl (.inl (Hv.out k hk)))) Hfit.out (by have := Q5.out.2.1; simp only [List.length_cons, List.length_nil] at this; omega))
                  have J11 := Lib.hid j11
                  clear j11 k11
                  go_wp2_with fail
                  refine HWr.out.mono ?_
                  rintro e w12 ⟨rfl, l12, k12⟩
                  obtain ⟨j12, k12'⟩ := LiveC.dev J11.out l12 k12
                  have J12 := Lib.hid j12
                  have K12 := Lib.hid (Kall.out.trans (k12'.less (R' := R) (fun k hk => .inl (.inl hk))))
                  clear l12 k12 j12 k12'
                  go_wp2
                  go_ret
                  exact ⟨by rw [HFin3.out]; rfl, by rw [HFin3.out]; exact LiveC.less J12.out (fun k hk => .inl (.inl hk)), K12.out⟩
                · have HFin3 : Hid (commit d j l = (r2, d2, j1)) := Lib.hid (by rw [HFin2.out, if_neg hE2])
                  have hq2 : ((r2 : Int) != 0) = true := by rw [bne_iff_ne]; omega
                  clear hE2
                  go_wp2
                  go_ret
                  exact ⟨by rw [HFin3.out]; rfl, by rw [HFin3.out]; exact LiveC.less J10.out (fun k hk => .inl (.inl hk)), K2.out.trans (K10.out.less (fun k hk => .inl hk))⟩
            · have HFin2 : Hid (commit d j l = (r1, dd, j1)) := Lib.hid (by rw [HFin.out, HcM.out, if_neg hE])
              have hq : ((r1 : Int) != 0) = true := by rw [bne_iff_ne]; omega
              clear hE
              go_wp2
              go_ret
              exact ⟨by rw [HFin2.out]; rfl, by rw [HFin2.out]; exact LiveC.less J9.out (fun k hk => .inl (.inl hk)), K2.out.trans (K9.out.less (fun k hk => .inl hk))⟩
      · have HFin : Hid (commit d j l = (r1, d1, j1)) := Lib.hid (by rw [HC1.out, if_neg hE])
        have hq : ((r1 : Int) != 0) = true := by rw [bne_iff_ne]; omega
        clear hE
        go_wp2
        go_ret
        exact ⟨by rw [HFin.out]; rfl, by rw [HFin.out]; exact LiveC.less JX.out (fun k hk => .inl hk), K2.out.trans (KX.out.less (fun k hk => .inl hk))⟩
    · have HPre1 : Hid (comPre d j l = (0, d, j)) := Lib.hid (by rw [HPre.out, HF.out, decide_eq_false hf]; rfl)
      have hf1 : ¬ (j.x.log : Int) - (j.used : Int) < (l.length : Int) + 1 + 1 := by omega
      have HFin : Hid (commit d j l = comMain d j l) := Lib.hid (by rw [HC1.out, HPre1.out]; rfl)
      obtain ⟨W, hWe⟩ : ∃ W, W = w2.drew := ⟨_, rfl⟩
      have JX := Lib.hid (LiveJ.drew J2.out 1).1
      have KX := Lib.hid (LiveJ.drew J2.out 1).2
      have hWd : w2.drewN 1 = W := hWe.symm
      rw [hWd] at JX KX
      obtain ⟨d1, hd1⟩ : ∃ x, x = d := ⟨_, rfl⟩
      obtain ⟨j1, hj1⟩ : ∃ x, x = j := ⟨_, rfl⟩
      have Hok1 : Hid d1.Ok := Lib.hid (by rw [hd1]; exact Hok.out)
      have Hj1 : Hid (JFit (K + 1) j1) := Lib.hid (by rw [hj1]; exact Hj.out.mono (Nat.le_succ K))
      have HNx : Hid (j1.next = j.next) := Lib.hid (by rw [hj1])
      have hp1 : d1.pend.length ≤ 7000 := by rw [hd1]; omega
      rw [← hd1, ← hj1] at JX
      have HFin1 : Hid (commit d j l = comMain d1 j1 l) := Lib.hid (by rw [hd1, hj1]; exact HFin.out)
      clear HFin
      have HFin := HFin1
      clear hf hd1 hj1 hWd
      go_wp2
      go_region
      rw [← hWe]
      clear hWe
      have HcM : Hid (comMain d1 j1 l = if (comD1 d1 j1 l).1 = 0 then (if (comD2 d1 j1 l).1 = 0 then ((wrs (comD2 d1 j1 l).2 l).1, (wrs (comD2 d1 j1 l).2 l).2, advJ j1 l.length) else ((comD2 d1 j1 l).1, (comD2 d1 j1 l).2, j1)) else ((comD1 d1 j1 l).1, (comD1 d1 j1 l).2, j1)) := Lib.hid rfl
      have HcD1 : Hid (comD1 d1 j1 l = lays d1 (logF j1 1 (datas l ++ [zeros]))) := Lib.hid rfl
      have HFitL : Hid (FitW (logF j1 1 (datas l ++ [zeros]))) := Lib.hid (fit_log Hj1.out _ (fun s hs => by
        rcases List.mem_append.1 hs with hs | hs
        · obtain ⟨p, hp, rfl⟩ := List.mem_map.1 hs
          exact Nat.le_of_eq (Hfine.out.2.2 p hp).2
        · rw [List.mem_singleton.1 hs]; exact Nat.le_of_eq zeros_length) 1)
      have hownW := own_keeps Hown.out (R := fun k => R k ∨ (Value.slice (some ⟨gf, 0, none⟩) (l.length + 1) cf).ownBlock = some k) (fun k hk => .inr hk) KX.out
      have hbkW := KX.out gf (.inr rfl)
      have hfc : ∀ i (hi : i < (headT j.next (ats l) (datas l) :: datas l).length), W.cell? ⟨gf, i, none⟩ = some (.string (B (headT j.next (ats l) (datas l) :: datas l)[i])) := fun i hi => by
        have hh := hownW
        rw [show l.length + 1 = (headT j.next (ats l) (datas l) :: datas l).length by rw [List.length_cons, datas_length]] at hh
        rcases own_row hh with ⟨a, cap, e1, e2⟩ | ⟨b, off, cap, e1, e2, e3, e4⟩
        · simp [txtV] at e2
        · simp only [Value.slice.injEq, Option.some.injEq, Addr.mk.injEq, and_true] at e1
          obtain ⟨⟨rfl, rfl⟩, _⟩ := e1
          have := e4 i (by rw [txtV_length]; exact hi)
          rw [Nat.zero_add] at this
          rw [this]
          simp only [txtV, List.getElem_map]
      have HCl := Lib.hid (clone_txtR (datas l) gf 1 (cf - 1) W (fun i hi => by
        have := hfc (i + 1) (by rw [List.length_cons]; omega)
        rw [Nat.add_comm 1 i, this, List.getElem_cons_succ]) (by rw [datas_length]; omega))
      rw [datas_length] at HCl
      have f0 := hfc 0 (by simp)
      rw [List.getElem_cons_zero] at f0
      have HWsz := Lib.hid (LiveC.jlt JX.out)
      clear hownW hfc
      go_wp2_with fail
      refine HCl.out.mono ?_
      rintro e w5 ⟨hb5, vd, rfl, hown5⟩
      have Hb5 := Lib.hid hb5
      have Hown5 := Lib.hid hown5
      obtain ⟨ad, cd, rfl⟩ := own_form hown5
      clear hb5 hown5
      go_wp2_with fail
      refine (noughts _).mono ?_
      rintro e w6 ⟨rfl, hb6⟩
      have Hb6 := Lib.hid (step_new (step_call Hb5.out hb6) (.cells #[.string (B zeros)] 9))
      have Ho6 := Lib.hid ((own_kept Hown5.out hb6).alloc (.cells #[.string (B zeros)] 9))
      clear hb6
      generalize hzr : zeros = zr at *
      go_wp2_with (at_builtin; go_must (refine wpList_append_own _ rfl _ _ 44 rfl W.heap.size 9 i0 (.string ⟨#[]⟩) 1 16 Tryd.underlying44 hi hz0 hz1 hz2 rfl (by decide) _ _ _ rfl Ho6.out ⟨w6.heap.size, 0, none⟩ 1 1 [.string (B zr)] rfl rfl ?c1 ?c2 ?c3 ?c4 ?c5 ?_))
      case c1 => exact cell1_new w6 _ _
      case c2 => simp [Value.oneCell']
      case c3 => unfold maxLen; omega
      case c4 => omega
      case c5 => exact Hb6.out.size
      intro v7 w7 hown7 hgrow7 _
      have Hb7 := Lib.hid (Hb6.out.grown hgrow7 Hb6.out.size (fun q hq => (Ho6.out.lt q hq).1))
      have HLL : Hid ((datas l ++ [zr]).length = l.length + 1) := Lib.hid (by rw [List.length_append, datas_length]; rfl)
      rw [show txtCells (datas l) ++ [.string (B zr)] = txtCells (datas l ++ [zr]) by unfold txtCells; rw [List.map_append]; rfl] at hown7
      have Hrow7 := Lib.hid (own_row (show w7.ownsRow W.heap.size 9 1 v7 (datas l ++ [zr]).length (txtCells (datas l ++ [zr])) by rw [HLL.out]; exact hown7))
      obtain ⟨j7, k7⟩ := LiveC.call JX.out Hb7.out
      have J7 := Lib.hid j7
      have K7 := Lib.hid (KX.out.trans k7)
      have hbk7 := Lib.hid (k7 gf (.inr rfl))
      clear hown7 hgrow7 j7 k7
      obtain ⟨o7, c7, hv7, hc7⟩ := txt_row Hrow7.out
      rw [HLL.out] at hv7
      subst hv7
      have Hc7 := Lib.hid hc7
      clear hc7
      generalize hLd : datas l ++ [zr] = L at *
      go_wp2
      go_loopw [55, 9] (fun x55 x9 wr => ∃ k : Nat, k ≤ l.length + 1 ∧ x55 = .int .i64 k ∧ wr.ownsRow w7.heap.size 47 2 x9 k (wrCells (natW (logF j1 1 (L.take k)))) ∧ Below w7.heap.size w7 wr) (fun x55 _ _ => l.length + 1 - (intOf x55).toNat)
      case atStart => exact ⟨0, by omega, rfl, World.ownsRow_nil _ _ _ _, Below.refl _ _⟩
      case round =>
        obtain ⟨k, hk, rfl, hown, hbel⟩ := hrel
        obtain ⟨ax, cx, rfl⟩ := own_form hown
        by_cases hlt : k < l.length + 1
        · obtain ⟨b, off, rfl, hb, hcap, e1⟩ := Hc7.out k (by rw [HLL.out]; exact hlt)
          have e1 := cell_below hbel hb e1
          have hst := wrCells_log j1 L k (by rw [HLL.out]; exact hlt)
          obtain ⟨jr, _⟩ := LiveC.call J7.out hbel
          have HPl := Lib.hid (jr_place jr Hj1.out (k + 1) (by omega))
          have hpl : placeN j1 (k + 1) < 5000 := by unfold placeN; rw [Hj1.out.log]; omega
          simp only [Int.natCast_add, Int.cast_ofNat_Int] at HPl
          generalize L[k]'(by rw [HLL.out]; exact hlt) = sk at *
          generalize placeN j1 (k + 1) = pk at *
          have Hst := Lib.hid hst
          have Hbel := Lib.hid hbel
          have Hown := Lib.hid hown
          clear hst jr hbel hown
          go_wp2_with fail
          refine HPl.out.mono ?_
          rintro e wq ⟨rfl, nq, hwq⟩
          have hbq : Below wr.heap.size wr wq := by rw [hwq]; exact ⟨rfl, rfl, rfl, Nat.le_refl _, fun _ _ => rfl⟩
          have Hbq := Lib.hid (step_new (step_call Hbel.out hbq) (.cells #[.int .i64 (pk : Nat), .string (B sk)] 47))
          have Hoq := Lib.hid ((own_kept Hown.out hbq).alloc (.cells #[.int .i64 (pk : Nat), .string (B sk)] 47))
          clear hwq hbq
          go_wp2_with (at_builtin; go_must (refine wpList_append_own _ rfl _ _ 35 rfl w7.heap.size 47 iw (.agg #[.int .i64 0, .string ⟨#[]⟩]) 2 24 Tryd.underlying35 hwi hwz0 hwz1 hwz2 rfl (by decide) _ _ _ rfl Hoq.out ⟨wq.heap.size, 0, none⟩ 1 1 [.int .i64 (pk : Nat), .string (B sk)] rfl rfl ?d1 ?d2 ?d3 ?d4 ?d5 ?_))
          case d1 => exact World.news_of_block (cs := #[.int .i64 (pk : Nat), .string (B sk)]) (t := 47) (fr := (0, 0)) (heap_alloc_new wq _)
          case d2 => simp [Value.oneCell']
          case d3 => unfold maxLen; omega
          case d4 => omega
          case d5 => exact Hbq.out.size
          intro v8 w8 hown8 hgrow8 _
          have Hb8 := Lib.hid (Hbq.out.grown hgrow8 Hbq.out.size (fun q hq => (Hoq.out.lt q hq).1))
          rw [← Hst.out] at hown8
          have Hown8 := Lib.hid hown8
          clear hown8 hgrow8
          go_wp2
          go_roundw
          case rel => exact ⟨k + 1, by omega, by go_num, Hown8.out, Hb8.out⟩
          case measure => simp [intOf]; omega
        · obtain rfl : k = l.length + 1 := by omega
          rw [show L.take (l.length + 1) = L from List.take_of_length_le (by rw [HLL.out]; omega)] at hown
          have hw8 : Wrs wr (.slice ax (l.length + 1) cx) (logF j1 1 L) := by
            have h8 := own_wrs (l := natW (logF j1 1 L)) (by rw [natlog_length, HLL.out]; exact hown)
            rwa [intW_logF] at h8
          have j8 := LiveC.more J7.out hbel (.slice ax (l.length + 1) cx) (fun k hk => own_some hown k hk)
          have k8 := (LiveC.call J7.out hbel).2
          have HLy := Lib.hid (jr_lays j8 Hok1.out _ (logF j1 1 L) hw8 (fun k hk => .inr hk) HFitL.out (by rw [logF_length, HLL.out]; omega))
          have Hlok := Lib.hid (lays_ok (logF j1 1 L) d1 Hok1.out)
          rw [← HcD1.out] at HLy Hlok
          have K8 := Lib.hid (K7.out.trans k8)
          have hbk8 := Lib.hid (k8 gf (.inr rfl))
          clear hown hbel hw8 j8 k8
          generalize hD1 : comD1 d1 j1 l = D1 at *
          obtain ⟨r1, dd⟩ := D1
          simp only at HLy Hlok HcM
          have hpl9 : placeN j1 0 < 5000 := by unfold placeN; rw [Hj1.out.log]; omega
          go_wp2_with fail
          refine HLy.out.mono ?_
          rintro e w9 ⟨rfl, j9, k9⟩
          have J9 := Lib.hid j9
          have K9 := Lib.hid (K8.out.trans (k9.less (R' := fun k => R k ∨ (Value.slice (some ⟨gf, 0, none⟩) (l.length + 1) cf).ownBlock = some k) (fun k hk => .inl hk)))
          have f9 : w9.cell? ⟨gf, 0, none⟩ = some (.string (B (headT j.next (ats l) (datas l)))) :=
            (World.cell?_of_block (a := ⟨gf, 0, none⟩) (((k9 gf (.inl (.inr rfl))).trans hbk8.out).trans hbk7.out)).trans f0
          clear j9 k9 f0
          by_cases hE : r1 = 0
          · subst hE
            have HFin2 : Hid (commit d j l = if (comD2 d1 j1 l).1 = 0 then ((wrs (comD2 d1 j1 l).2 l).1, (wrs (comD2 d1 j1 l).2 l).2, advJ j1 l.length) else ((comD2 d1 j1 l).1, (comD2 d1 j1 l).2, j1)) := Lib.hid (by rw [HFin.out, HcM.out]; rfl)
            have HcD2 : Hid (comD2 d1 j1 l = lays dd [(((placeN j1 0 : Nat) : Int), headT j.next (ats l) (datas l))]) := Lib.hid (by unfold comD2; rw [hD1, HNx.out])
            have HPl0 := Lib.hid (fun n => jr_place (LiveJ.drew J9.out n).1 Hj1.out 0 (by omega))
            have HH6 : (headT j.next (ats l) (datas l)).length = 256 := headT_length _ _ _ (by rw [ats_length]; omega)
            have Q3 := Lib.hid (show (headT j.next (ats l) (datas l)).length ≤ 100000 by omega)
            have Q4 := Lib.hid (show dd.pend.length ≤ 99999 by have := Hlok.out.2.1; rw [logF_length, HLL.out] at this; omega)
            have Q5 := Lib.hid (lays_ok [(((placeN j1 0 : Nat) : Int), headT j.next (ats l) (datas l))] dd Hlok.out.1)
            rw [← HcD2.out] at Q5
            have hpq : dd.pend.length ≤ 8000 := by have := Hlok.out.2.1; rw [logF_length, HLL.out] at this; omega
            have HLy2 := Lib.hid (fun n => jr_lays1 (LiveJ.drew J9.out n).1 Hlok.out.1 ((placeN j1 0 : Nat) : Int) (headT j.next (ats l) (datas l)) (by omega) (by omega) Q3.out Q4.out 47)
            rw [← HcD2.out] at HLy2
            generalize headT j.next (ats l) (datas l) = hT at *
            generalize placeN j1 0 = pl at *
            clear HH6
            go_wp2
            go_region_held3 (fun w' => w'.cell? ⟨gf, 0, none⟩ = some (.string (B hT)))
              (first | with_reducible exact s1_drewJ f9 | with_reducible exact s1_drewNJ (by assumption) | with_reducible exact cell_alloc _ (by assumption) | with_reducible assumption | with_reducible exact s1_blk f9 hgf10)
              (first
                | (go_at_call 38; go_must (refine (HPl0.out 1).mono ?_); rintro e w2 ⟨rfl, n2, rfl⟩)
                | (go_at_call 39; go_must (refine (HLy2.out (1 + n2)).mono ?_); rintro e w10 ⟨rfl, j10, k10⟩; have J10 := Lib.hid j10; have hgf10 := k10 gf (.inl (.inr rfl)); have K10 := Lib.hid (K9.out.trans ((((LiveJ.drew J9.out (1 + n2)).2).trans k10).less (R' := fun k => R k ∨ (Value.slice (some ⟨gf, 0, none⟩) (l.length + 1) cf).ownBlock = some k) (fun k hk => .inl hk)))))
            all_goals
              generalize hD2 : comD2 d1 j1 l = D2 at *
              obtain ⟨r2, d2⟩ := D2
              simp only at J10 Q5 HFin2
              by_cases hE2 : r2 = 0
              · have HFin3 : Hid (commit d j l = ((wrs d2 l).1, (wrs d2 l).2, advJ j1 l.length)) := Lib.hid (by rw [HFin2.out, if_pos hE2])
                have hq2 : ((r2 : Int) != 0) = false := by rw [hE2]; rfl
                have HAdv := Lib.hid (jr_advance J10.out Hj1.out (by omega) l.length (by omega))
                clear hE2
                go_wp2_with fail
                refine HAdv.out.mono ?_
                rintro e w11 ⟨rfl, j11, k11⟩
                obtain ⟨⟨c0, _⟩, _⟩ := LiveJ.cells j11
                have Kall := Lib.hid ((K2.out.trans (K10.out.less (fun k hk => .inl hk))).trans (k11.less (R' := R) (fun k hk => .inl (.inl hk))))
                have HWr := Lib.hid (jr_writes j11.live Q5.out.1 (.slice oa l.length c) l (Hw.out.keeps Hv.out Kall.out) (fun k hk => .inl (.inl (.inl (Hv.out k hk)))) Hfit.out (by have := Q5.out.2.1; simp only [List.length_cons, List.length_nil] at this; omega))
                have J11 := Lib.hid j11
                clear j11 k11
                go_wp2_with fail
                refine HWr.out.mono ?_
                rintro e w12 ⟨rfl, l12, k12⟩
                obtain ⟨j12, k12'⟩ := LiveC.dev J11.out l12 k12
                have J12 := Lib.hid j12
                have K12 := Lib.hid (Kall.out.trans (k12'.less (R' := R) (fun k hk => .inl (.inl hk))))
                clear l12 k12 j12 k12'
                go_wp2
                go_ret
                exact ⟨by rw [HFin3.out]; rfl, by rw [HFin3.out]; exact LiveC.less J12.out (fun k hk => .inl (.inl hk)), K12.out⟩
              · have HFin3 : Hid (commit d j l = (r2, d2, j1)) := Lib.hid (by rw [HFin2.out, if_neg hE2])
                have hq2 : ((r2 : Int) != 0) = true := by rw [bne_iff_ne]; omega
                clear hE2
                go_wp2
                go_ret
                exact ⟨by rw [HFin3.out]; rfl, by rw [HFin3.out]; exact LiveC.less J10.out (fun k hk => .inl (.inl hk)), K2.out.trans (K10.out.less (fun k hk => .inl hk))⟩
          · have HFin2 : Hid (commit d j l = (r1, dd, j1)) := Lib.hid (by rw [HFin.out, HcM.out, if_neg hE])
            have hq : ((r1 : Int) != 0) = true := by rw [bne_iff_ne]; omega
            clear hE
            go_wp2
            go_ret
            exact ⟨by rw [HFin2.out]; rfl, by rw [HFin2.out]; exact LiveC.less J9.out (fun k hk => .inl (.inl hk)), K2.out.trans (K9.out.less (fun k hk => .inl hk))⟩
  · have HC1 : Hid (commit d j l = (checkE j d.disk.length l, d, j)) := Lib.hid (by rw [HC.out, if_neg hc])
    have hq : ((checkE j d.disk.length l : Int) != 0) = true := by rw [bne_iff_ne]; omega
    clear hc
    go_enter Tryd.func14, Tryd.ntmps14
    go_wp2_with fail
    refine HCh.out.mono ?_
    rintro e w1 ⟨rfl, hb1⟩
    obtain ⟨j1, k1⟩ := LiveC.call H.out hb1
    have J1 := Lib.hid j1
    have K1 := Lib.hid k1
    clear hb1 j1 k1
    go_wp2
    go_ret
    exact ⟨by rw [HC1.out]; rfl, by rw [HC1.out]; exact J1.out, K1.out⟩
end
end Go.Proofs.YtlgfjoicdbjfjaaDoor
