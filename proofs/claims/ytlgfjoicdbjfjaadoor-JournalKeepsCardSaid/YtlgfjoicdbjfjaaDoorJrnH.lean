/- Chapter 4: the frame that is read next. Conditions: numbers fit, a device that may be. -/
import Derived.Test.YtlgfjoicdbjfjaaDoorJrnE
import Derived.Test.YtlgfjoicdbjfjaaDoorFrmC
namespace Go.Proofs.YtlgfjoicdbjfjaaDoor
open Go.RowKit Go.Wir Go.Blk Go.Frm Go.Jrn

/-- What (*Journal).frame tells. -/
def FramePost (d : Dv) (j : Jn) (base : Nat) (e : Ending) (w' : World) : Prop := match frameR d j with
  | none => ∃ v, e = .returned (.tuple #[v, .bool false])
  | some ws => ∃ v, e = .returned (.tuple #[v, .bool true]) ∧ w'.ownsRow base 47 2 v ws.length (wrCells ws)
theorem FramePost.no {d : Dv} {j : Jn} {base : Nat} {w' : World} (h : frameR d j = none) (v : Value) : FramePost d j base (.returned (.tuple #[v, .bool false])) w' := by
  unfold FramePost; rw [h]; exact ⟨v, rfl⟩
theorem s1_drew {w : World} {b : Nat} {v : Value} (h : w.cell? ⟨b, 0, none⟩ = some v) : w.drew.cell? ⟨b, 0, none⟩ = some v := h
theorem s1_drewN {w : World} {b n : Nat} {v : Value} (h : w.cell? ⟨b, 0, none⟩ = some v) : (w.drewN n).cell? ⟨b, 0, none⟩ = some v := h
theorem readsL_length (d : Dv) (j : Jn) : (readsL d j).length = min (j.x.log - j.used) 49 := by simp [readsL]
theorem readsL_snoc (d : Dv) (j : Jn) (k : Nat) (hk : k < min (j.x.log - j.used) 49) : (readsL d j).take (k + 1) = (readsL d j).take k ++ [readT d ((placeN j k : Nat) : Int)] := by
  rw [List.take_succ_eq_append_getElem (by rw [readsL_length]; exact hk)]
  simp [readsL]
theorem read_256 {d : Dv} (ok : d.Ok) (i : Int) : (readT d i).length ≤ 256 := by
  unfold readT
  split
  · simp
  · split
    · rename_i hi
      refine lastW_all (P := fun s => s.length ≤ 256) _ _ _ ?_ (fun p hp => Nat.le_of_eq (ok.pend p hp).2)
      unfold inD at hi
      rw [Bool.and_eq_true, decide_eq_true_eq, decide_eq_true_eq] at hi
      exact Nat.le_of_eq (getD_all (P := fun s => s.length = 256) ok.disk _ (by omega))
    · simp
theorem below_drawN {w w' : World} (n : Nat) (h : Below (w.drewN n).heap.size (w.drewN n) w') : Below w.heap.size w w' := ⟨h.os, h.tape, h.output, h.size, h.block⟩
theorem unpL_err {l : List Txt} {c : Nat} (h : unpL l = .error c) : c ≠ 0 := by
  cases l with
  | nil => simp only [unpL, Except.error.injEq] at h; omega
  | cons x l =>
    simp only [unpL] at h
    split at h
    · simp only [Except.error.injEq] at h; omega
    · split at h
      · simp only [Except.error.injEq] at h; omega
      · split at h
        · split at h
          · cases h
          · simp only [Except.error.injEq] at h; omega
        · simp only [Except.error.injEq] at h; omega
theorem unpL_few {l : List Txt} {seq : Nat} {ws : List (Nat × Txt)} (h : unpL l = .ok (seq, ws)) : ws.length ≤ 48 := by
  cases l with
  | nil => simp [unpL] at h
  | cons x l =>
    simp only [unpL] at h
    split at h
    · cases h
    · rename_i q seq' at' hr
      obtain ⟨_, _, _, h4, _, h5, _⟩ := readL_some hr
      split at h
      · cases h
      · split at h
        · split at h
          · simp only [Except.ok.injEq, Prod.mk.injEq] at h
            rw [← h.2, List.length_zip, h4, numsAt_length]; omega
          · cases h
        · cases h
section
variable {w0 w w' : World} {g : Nat} {od : Option Nat} {d : Dv} {jb : Nat} {j : Jn} {R : Nat → Prop}
theorem LiveJ.drewH (h : LiveJ w0 w g od d jb j R) (n : Nat) : LiveJ w0 (w.drewN n) g od d jb j R := (LiveC.call h (show Below w.heap.size w (w.drewN n) from ⟨rfl, rfl, rfl, Nat.le_refl _, fun _ _ => rfl⟩)).1
theorem live_ReadB {R : Nat → Prop} (h : Live w0 w g od d R) (ok : d.Ok) (hp : d.pend.length ≤ 100000) (i : Int) (h1 : -9223372036854775808 ≤ i) (h2 : i ≤ 9223372036854775807) :
    Calls Tryd.prog 25 #[.pointer (some ⟨g, 0, none⟩), .int .i64 i] w fun e w' => e = .returned (.tuple #[.string (B (readT d i)), .int .i64 (readE d i : Nat)]) ∧ Below w.heap.size w w' := by
  obtain ⟨op, a1, a2, a3, a4⟩ := h
  exact dev_Read d i g od op w a1 ok hp h1 h2
set_option maxRecDepth 100000 in
set_option maxHeartbeats 800000 in
theorem jr_frame {K : Nat} (h : LiveJ w0 w g od d jb j R) (ok : d.Ok) (hj : JFit K j) (_ : K ≤ 1000000) (hp : d.pend.length ≤ 10000) :
    Calls Tryd.prog 44 #[.pointer (some ⟨jb, 0, none⟩)] w fun e w' => FramePost d j w.heap.size e w' ∧ Below w.heap.size w w' := by
  have H := Lib.hid h
  have Hok := Lib.hid ok
  have Hj := Lib.hid hj
  obtain ⟨⟨_, _, _, c3, _, _, _, c7⟩, _⟩ := h.cells
  have hlog := hj.log
  have hused := hj.used
  have Hn := Lib.hid (show min (j.x.log - j.used) 49 ≤ 49 from Nat.min_le_right _ _)
  obtain ⟨i0, hi, hz0, hz1, hz2⟩ := info_parts Tryd.info_strF
  have HR : Hid (∀ r, frameR d j = r → frameR d j = r) := Lib.hid (fun _ h => h)
  clear h ok hj
  obtain ⟨M, hM1⟩ : ∃ M : Nat, min (j.x.log - j.used) 49 = M := ⟨_, rfl⟩
  have HM : Hid (min ((j.x.log : Int) - (j.used : Int)) 49 = (M : Int)) := Lib.hid (by omega)
  have hM49 : M ≤ 49 := by omega
  have HM1 := Lib.hid hM1
  have hlog4 : j.x.log ≤ 4096 := by omega
  clear hM1 hlog Hn HR
  have Hlen : Hid ((readsL d j).length = M) := Lib.hid (by rw [readsL_length]; exact HM1.out)
  go_enter Tryd.func44, Tryd.ntmps44
  go_wp2
  go_region
  go_wp2
  rw [HM.out]
  clear c3 c7
  go_loopw [24, 4] (fun x24 x4 wr => ∃ k : Nat, k ≤ M ∧ x24 = .int .i64 k ∧ wr.ownsRow w.heap.size 9 1 x4 k (txtCells ((readsL d j).take k)) ∧ Below w.heap.size w wr) (fun x24 _ _ => M - (intOf x24).toNat)
  case atStart => exact ⟨0, by omega, rfl, World.ownsRow_nil _ _ _ _, below_drew w⟩
  case round =>
    obtain ⟨k, hk, rfl, hown, hbel⟩ := hrel
    have hbz := hbel.size
    obtain ⟨ax, cx, rfl⟩ := own_form hown
    by_cases hlt : k < M
    · obtain ⟨j1, _⟩ := LiveC.call H.out hbel
      obtain ⟨⟨c0, _⟩, _⟩ := LiveJ.cells j1
      have HP := Lib.hid (fun n => jr_place (LiveJ.drewH j1 n) Hj.out k (by omega))
      have hpl : placeN j k < 5000 := by unfold placeN; rw [Hj.out.log]; omega
      have HRd := Lib.hid (fun n => live_ReadB (LiveJ.drewH j1 n).live Hok.out (by omega) ((placeN j k : Nat) : Int) (by omega) (by omega))
      have Hsn := Lib.hid (show txtCells ((readsL d j).take (k + 1)) = txtCells ((readsL d j).take k) ++ [.string (B (readT d ((placeN j k : Nat) : Int)))] by rw [readsL_snoc d j k (by rw [HM1.out]; exact hlt)]; unfold txtCells; rw [List.map_append]; rfl)
      have hrl := read_256 Hok.out ((placeN j k : Nat) : Int)
      have Hrl := Lib.hid hrl
      have Hbel := Lib.hid hbel
      have Hown := Lib.hid hown
      have hk1 : (k : Int) < (M : Int) := by omega
      generalize readT d ((placeN j k : Nat) : Int) = t at *
      generalize placeN j k = pl at *
      clear hrl hbel hown j1
      go_wp2_with fail
      go_region_held3 (fun w' => w'.cell? ⟨jb, 0, none⟩ = some (.pointer (some ⟨g, 0, none⟩)))
        (first | with_reducible exact s1_drew c0 | with_reducible exact s1_drewN (by assumption) | with_reducible assumption | with_reducible exact cell_call HB3.out c0)
        (first
          | (go_at_call 38; go_must (refine (HP.out 1).mono ?_); rintro e w2 ⟨rfl, n2, rfl⟩)
          | (go_at_call 25; go_must (refine (HRd.out (1 + n2)).mono ?_); rintro e w3 ⟨rfl, hb3⟩; have HB3 := Lib.hid (below_drawN (1 + n2) hb3)))
      have Ho3 := Lib.hid ((own_kept Hown.out HB3.out).alloc (.cells #[.string (B t)] 9))
      have Hb5 := Lib.hid (step_new (Hbel.out.trans (HB3.out.mono Hbel.out.size)) (.cells #[.string (B t)] 9))
      go_wp2_with (at_builtin; go_must (refine wpList_append_own _ rfl _ _ 44 rfl w.heap.size 9 i0 (.string ⟨#[]⟩) 1 16 Tryd.underlying44 hi hz0 hz1 hz2 rfl (by decide) _ _ _ rfl Ho3.out ⟨w3.heap.size, 0, none⟩ 1 1 [.string (B t)] rfl rfl ?c1 ?c2 ?c3 ?c4 ?c5 ?_))
      case c1 => exact cell1_new w3 _ _
      case c2 => simp [Value.oneCell']
      case c3 => unfold maxLen; omega
      case c4 => omega
      case c5 => exact Hb5.out.size
      intro v' w5 hown' hgrow _
      have Hb6 := Lib.hid (Hb5.out.grown hgrow Hb5.out.size (fun q hq => (Ho3.out.lt q hq).1))
      rw [← Hsn.out] at hown'
      have Hown5 := Lib.hid hown'
      clear hown' hgrow
      go_wp2
      go_roundw
      case rel => exact ⟨k + 1, by omega, by go_num, Hown5.out, Hb6.out⟩
      case measure => simp [intOf]; omega
    · obtain rfl : k = M := by omega
      rw [show (readsL d j).take k = readsL d j from List.take_of_length_le (by rw [Hlen.out]; omega)] at hown
      have hown2 : wr.ownsRow w.heap.size 9 1 (.slice ax k cx) (readsL d j).length (txtCells (readsL d j)) := by rw [Hlen.out]; exact hown
      have HU := Lib.hid (frame_Unpack (readsL d j) (.slice ax k cx) (by rw [Hlen.out]; omega) (fun s hs => by
        unfold readsL at hs
        obtain ⟨i, _, rfl⟩ := List.mem_map.1 hs
        have := read_256 Hok.out ((placeN j i : Nat) : Int)
        omega) wr (own_row hown2))
      have HF : Hid (frameR d j = match unpL (readsL d j) with
        | .error _ => none
        | .ok (seq, ws) => if seq = j.next ∧ ws.all (fun p => homeB j d.disk.length ((p.1 : Nat) : Int)) = true then some ws else none) := Lib.hid rfl
      have Hbel := Lib.hid hbel
      unfold UnpPost at HU
      clear hown hown2 hbel
      go_wp2_with fail
      refine HU.out.mono ?_
      rintro e w4 ⟨hb4, hpost⟩
      obtain ⟨j4, _⟩ := LiveC.call H.out (Hbel.out.trans (hb4.mono Hbel.out.size))
      have Hb4 := Lib.hid (Hbel.out.trans (hb4.mono Hbel.out.size))
      have Hbz := Lib.hid hb4.size
      clear hb4 HU
      cases hu : unpL (readsL d j) with
      | error c =>
        rw [hu] at hpost HF
        simp only at hpost HF
        have hc := unpL_err hu
        subst hpost
        have hq : ((c : Int) != 0) = true := by rw [bne_iff_ne]; omega
        clear hu hc j4
        go_wp2
        go_ret2
        exact ⟨FramePost.no HF.out _, Hb4.out⟩
      | ok q =>
        obtain ⟨seq, ws⟩ := q
        rw [hu] at hpost HF
        simp only at hpost HF
        obtain ⟨v4, rfl, hown4⟩ := hpost
        obtain ⟨⟨_, _, _, _, _, _, c6, _⟩, _⟩ := LiveJ.cells j4
        have J4 := Lib.hid j4
        have Hu := Lib.hid hu
        have Hown4 := Lib.hid hown4
        clear hu j4 hown4
        by_cases hs : seq = j.next
        · have hq : ((seq : Int) != (j.next : Int)) = false := by rw [hs]; simp
          have HF2 : Hid (frameR d j = if ws.all (fun p => homeB j d.disk.length ((p.1 : Nat) : Int)) = true then some ws else none) := Lib.hid (by rw [HF.out]; simp only [hs, true_and])
          clear hs
          obtain ⟨oa, cap, rfl, hcell⟩ := (own_wrs Hown4.out).form
          have Hcell : Hid (∀ i (hi : i < ws.length), ∃ b off, oa = some ⟨b, off, none⟩ ∧ b < w4.heap.size ∧ w4.cell? ⟨b, off + i * 2, none⟩ = some (.int .i64 ((ws[i].1 : Nat) : Int)) ∧ w4.cell? ⟨b, off + i * 2 + 1, none⟩ = some (.string (B ws[i].2))) := Lib.hid (fun i hi => by
            obtain ⟨b, off, e, hb, e1, e2⟩ := hcell i (by rw [intW_length]; exact hi)
            exact ⟨b, off, e, hb, by simpa [intW] using e1, by simpa [intW] using e2⟩)
          have hwl := unpL_few Hu.out
          clear hcell
          rw [intW_length] at Hown4 ⊢
          go_wp2
          go_loopw [61] (fun x61 wq => ∃ k : Nat, k ≤ ws.length ∧ x61 = .int .i64 k ∧ (ws.take k).all (fun p => homeB j d.disk.length ((p.1 : Nat) : Int)) = true ∧ Below w4.heap.size w4 wq) (fun x61 _ => ws.length - (intOf x61).toNat)
          case atStart => exact ⟨0, by omega, rfl, rfl, Below.refl _ _⟩
          case round =>
            obtain ⟨k2, hk2, rfl, hall, hbq⟩ := hrel
            by_cases hlt2 : k2 < ws.length
            · obtain ⟨b, off, rfl, hb, e1, e2⟩ := Hcell.out k2 hlt2
              have e1 := cell_below hbq hb e1
              have e2 := cell_below hbq hb e2
              have Hall := Lib.hid hall
              have Hsn2 := Lib.hid (show (ws.take (k2 + 1)).all (fun p => homeB j d.disk.length ((p.1 : Nat) : Int)) = ((ws.take k2).all (fun p => homeB j d.disk.length ((p.1 : Nat) : Int)) && homeB j d.disk.length ((ws[k2].1 : Nat) : Int)) by
                rw [List.take_succ_eq_append_getElem hlt2, List.all_append]; simp)
              have Hno := Lib.hid (fun (h : homeB j d.disk.length ((ws[k2].1 : Nat) : Int) = false) => (show ws.all (fun p => homeB j d.disk.length ((p.1 : Nat) : Int)) = false by
                rw [← Bool.not_eq_true, List.all_eq_true]
                intro hh
                have := hh _ (List.getElem_mem hlt2)
                rw [h] at this; cases this))
              have hbn := step_new hbq (.cells #[.int .i64 ((ws[k2].1 : Nat) : Int), .string (B ws[k2].2)] 47)
              obtain ⟨j5, _⟩ := LiveC.call J4.out hbn
              have HH := Lib.hid (jr_home j5 hlog4 ((ws[k2].1 : Nat) : Int))
              have Hbn := Lib.hid hbn
              clear hall hbq hbn j5
              generalize ws[k2] = p at *
              go_wp2_with fail
              refine HH.out.mono ?_
              rintro e w6 ⟨rfl, rfl⟩
              generalize homeB j d.disk.length ((p.1 : Nat) : Int) = q at *
              cases q
              · have HFn : Hid (frameR d j = none) := Lib.hid (by rw [HF2.out, Hno.out rfl]; rfl)
                go_wp2
                go_ret2
                exact ⟨FramePost.no HFn.out _, Hb4.out.trans (Hbn.out.mono Hb4.out.size)⟩
              · have Hal2 : Hid ((ws.take (k2 + 1)).all (fun p => homeB j d.disk.length ((p.1 : Nat) : Int)) = true) := Lib.hid (by rw [Hsn2.out, Hall.out]; rfl)
                go_wp2
                go_roundw
                case rel => exact ⟨k2 + 1, by omega, by go_num, Hal2.out, Hbn.out⟩
                case measure => simp [intOf]; omega
            · obtain rfl : k2 = ws.length := by omega
              rw [List.take_length] at hall
              have HFs : Hid (frameR d j = some ws) := Lib.hid (by rw [HF2.out, hall]; rfl)
              have Hbq := Lib.hid hbq
              clear hall hbq
              go_wp2
              go_ret2
              refine ⟨?_, Hb4.out.trans (Hbq.out.mono Hb4.out.size)⟩
              unfold FramePost
              rw [HFs.out]
              exact ⟨_, rfl, own_base (own_kept Hown4.out Hbq.out) (Nat.le_trans (Hbel.out.size) (Nat.le_refl _))⟩
        · have hq : ((seq : Int) != (j.next : Int)) = true := by rw [bne_iff_ne]; omega
          have HF2 : Hid (frameR d j = none) := Lib.hid (by rw [HF.out]; simp only [hs, false_and, if_false])
          clear hs
          go_wp2
          go_ret2
          exact ⟨FramePost.no HF2.out _, Hb4.out⟩
end
end Go.Proofs.YtlgfjoicdbjfjaaDoor
