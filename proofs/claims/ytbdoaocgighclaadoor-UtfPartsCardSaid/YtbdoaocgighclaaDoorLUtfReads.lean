/- The law UtfReads returns true for every text and number. Condition: the tables are laid. -/
import Derived.Test.YtbdoaocgighclaaDoorLUtfKeeps
import Derived.Test.YtbdoaocgighclaaDoorUtfPos
import Derived.Test.YtbdoaocgighclaaDoorHeld
namespace Go.Proofs.YtbdoaocgighclaaDoor
open Go.RowKit Go.Utf Go.Lib Go.Shelf
attribute [local go_sem] Oper.semAt_some

theorem box_below {W W' : World} {b : Nat} {t : TypeId} {v : Value} (h : Boxed W b t v) (hb : Below W.heap.size W W') : Boxed W' b t v := (hb.block b h.lt).trans h
theorem keeps_below {W W' : World} (hb : Below W.heap.size W W') : KeepsOthers W W' := ⟨hb.size, fun k _ hk _ => (hb.block k (Array.getElem?_eq_some_iff.1 hk).1).trans hk⟩
theorem box_other {W : World} {b k : Nat} {t : TypeId} {v u : Value} (h : Boxed W b t v) (hne : b ≠ k) : Boxed (W.setCell ⟨k, 0, none⟩ u) b t v := (Below.heap_setCell _ _ _ _ hne).trans h
theorem held_call {K w w' : World} {b off : Nat} {v : Value} (h : w.cell? ⟨b, off, none⟩ = some v ∧ Below K.heap.size K w) (hb : Below w.heap.size w w') : w'.cell? ⟨b, off, none⟩ = some v ∧ Below K.heap.size K w' := ⟨cell_call hb h.1, step_call h.2 hb⟩
theorem held_below {K w : World} {b off : Nat} {v : Value} (h : w.cell? ⟨b, off, none⟩ = some v ∧ Below K.heap.size K w) : Below K.heap.size K w := h.2
theorem held_drew {w : World} {b off : Nat} {v : Value} (h : w.cell? ⟨b, off, none⟩ = some v) : w.drew.cell? ⟨b, off, none⟩ = some v ∧ Below w.heap.size w w.drew := ⟨h, below_drew w⟩
set_option maxRecDepth 100000 in
set_option maxHeartbeats 3200000 in
theorem walk_UtfReads (s : ByteArray) (stop : Int) (_ : s.size ≤ maxLen) (_ : (Lit.int .i64 stop).wf = true) (w : World) (hT : Tabs w) :
    Calls Tryd.prog 6 #[.string s, .int .i64 stop] w fun e w' => e = .returned (.bool true) ∧ Below w.heap.size w w' := by
  refine (callsIn_wide (n := 6)).1 ?_
  refine callsIn_of_wp_marks Tryd.func6 rfl trivial ?_ rfl
  simp only [Tryd.ntmps6, List.size_toArray, List.length_cons, List.length_nil, Nat.reduceAdd, Nat.reduceSub, Array.replicate_succ, Array.replicate_zero, List.push_toArray, List.append_toArray, List.nil_append, List.cons_append]
  refine wpIn_wide.2 ?_
  have hA0 : Boxed (((w.alloc (.cells #[.string s] 9)).alloc (.cells #[.int .i64 stop] 3)).alloc (.cells #[.bool false] 4)) w.heap.size 9 (.string s) := ((Boxed.new w _ _).alloc _).alloc _
  have hS0 : Boxed (((w.alloc (.cells #[.string s] 9)).alloc (.cells #[.int .i64 stop] 3)).alloc (.cells #[.bool false] 4)) (w.heap.size + 1) 3 (.int .i64 stop) := by
    have := Boxed.new (w.alloc (.cells #[.string s] 9)) 3 (.int .i64 stop)
    rw [World.size_alloc] at this
    exact this.alloc _
  have hR0 : Boxed (((w.alloc (.cells #[.string s] 9)).alloc (.cells #[.int .i64 stop] 3)).alloc (.cells #[.bool false] 4)) (w.heap.size + 1 + 1) 4 (.bool false) := by
    have := Boxed.new ((w.alloc (.cells #[.string s] 9)).alloc (.cells #[.int .i64 stop] 3)) 4 (.bool false)
    rwa [World.size_alloc, World.size_alloc] at this
  have hb0 : Below w.heap.size w (((w.alloc (.cells #[.string s] 9)).alloc (.cells #[.int .i64 stop] 3)).alloc (.cells #[.bool false] 4)) := ((step_new (Below.refl w.heap.size w) _).alloc (by simp) _).alloc (by simp; omega) _
  have HT := Lib.hid hT
  clear hT
  go_wp2_with fail
  generalize ((w.alloc (.cells #[.string s] 9)).alloc (.cells #[.int .i64 stop] 3)).alloc (.cells #[.bool false] 4) = W0 at hA0 hS0 hR0 hb0 ⊢
  refine (law_shown W0 (HT.out.below hb0)).mono ?_
  rintro e W1 ⟨rfl, hb1⟩
  have hA1 := box_below hA0 hb1
  have hS1 := box_below hS0 hb1
  have hR1 := box_below hR0 hb1
  have Hb1 := Lib.hid (hb0.trans (hb1.mono hb0.size))
  clear hA0 hS0 hR0 hb0 hb1
  have cA1 := hA1.cell
  have cS1 := hS1.cell
  have cR1 := hR1.cell
  have fR1 := hR1.frozen
  by_cases h : 1000 < s.size
  · have hz : (1000 : Int) < (s.size : Int) := by omega
    have hres := World.cell?_setCell_same' W1 ⟨w.heap.size + 1 + 1, 0, none⟩ (.bool true) (by rw [cR1]; rfl)
    go_wp2
    refine ⟨.bool true, by simp [results, Tryd.f6, go_sem, hres], rfl, ?_⟩
    exact Hb1.out.setCell (by simp; omega) _
  have hz : (s.size : Int) ≤ 1000 := by omega
  have h9 : s.size ≤ 1000000000 := by omega
  have HR := Lib.hid (fun w' (b : Below w.heap.size w w') => utf_Rune s w' (HT.out.below b))
  have HR' := Lib.hid (fun w' => ref10_Rune s (by omega) w')
  unfold ReadV at HR HR'
  have HV := Lib.hid (fun w' (b : Below w.heap.size w w') => utf_Valid s (by omega) w' (HT.out.below b))
  have HV' := Lib.hid (fun w' => ref10_Valid s h9 w')
  generalize readL (L s) = x0 at HR HR'
  have hv : (validL (L s) != validL (L s)) = false := by simp
  generalize validL (L s) = v at HV HV' hv
  have hx1 : (x0.1 != x0.1) = false := by simp
  have hx2 : ((x0.2 : Int) != (x0.2 : Int)) = false := by simp
  go_wp2_with (first
    | (go_at_call 19; refine (HR.out _ Hb1.out).mono ?_; rintro e w2 ⟨rfl, hb⟩; have Hb2 := Lib.hid (step_call Hb1.out hb); have hA2 := box_below hA1 hb; have hS2 := box_below hS1 hb; have hR2 := box_below hR1 hb; have cA2 := hA2.cell; clear hb hA1 hS1 hR1 cA1 cS1 cR1 fR1)
    | (go_at_call 20; refine (HR'.out _).mono ?_; rintro e w3 ⟨rfl, hb⟩; have Hb3 := Lib.hid (step_call Hb2.out hb); have hA3 := box_below hA2 hb; have hS3 := box_below hS2 hb; have hR3 := box_below hR2 hb; have cA3 := hA3.cell; clear hb hA2 hS2 hR2 cA2))
  go_region_held3 (fun w' => w'.cell? ⟨w.heap.size, 0, none⟩ = some (.string s) ∧ Below w3.heap.size w3 w')
    (first | exact held_call (by assumption) hb9 | exact held_drew cA3 | assumption)
    (first
      | (go_at_call 21; refine (HV.out _ (step_call Hb3.out (held_below (by assumption)))).mono ?_; rintro e w9 ⟨rfl, hb9⟩)
      | (go_at_call 22; refine (HV'.out _).mono ?_; rintro e w9 ⟨rfl, hb9⟩))
  have hh9 : Below w3.heap.size w3 w9 := held_below (b := w.heap.size) (off := 0) (v := .string s) (by assumption)
  have hA9 := box_below hA3 hh9
  have hS9 := box_below hS3 hh9
  have hR9 := box_below hR3 hh9
  have Hb9 := Lib.hid (step_call Hb3.out hh9)
  have cA9 := hA9.cell
  clear hA3 hS3 hR3 cA3 hb9 hh9 hz HR HR' HV HV' hx1 hx2 hv
  have hA10 : Boxed ((w9.alloc (.cells #[.int .i64 0] 3)).alloc (.cells #[.int .i64 0] 3)) w.heap.size 9 (.string s) := (hA9.alloc _).alloc _
  have hS10 : Boxed ((w9.alloc (.cells #[.int .i64 0] 3)).alloc (.cells #[.int .i64 0] 3)) (w.heap.size + 1) 3 (.int .i64 stop) := (hS9.alloc _).alloc _
  have hR10 : Boxed ((w9.alloc (.cells #[.int .i64 0] 3)).alloc (.cells #[.int .i64 0] 3)) (w.heap.size + 1 + 1) 4 (.bool false) := (hR9.alloc _).alloc _
  have hP10 : Boxed ((w9.alloc (.cells #[.int .i64 0] 3)).alloc (.cells #[.int .i64 0] 3)) w9.heap.size 3 (.int .i64 0) := (Boxed.new w9 _ _).alloc _
  have hM10 : Boxed ((w9.alloc (.cells #[.int .i64 0] 3)).alloc (.cells #[.int .i64 0] 3)) (w9.heap.size + 1) 3 (.int .i64 0) := by
    have := Boxed.new (w9.alloc (.cells #[.int .i64 0] 3)) 3 (.int .i64 0)
    rwa [World.size_alloc] at this
  have hb10 : Below w.heap.size w ((w9.alloc (.cells #[.int .i64 0] 3)).alloc (.cells #[.int .i64 0] 3)) := step_new (step_new Hb9.out _) _
  have cA10 := hA10.cell
  have hn9 : w.heap.size + 1 + 1 < w9.heap.size := hR9.lt
  have hz10 : ((w9.alloc (.cells #[.int .i64 0] 3)).alloc (.cells #[.int .i64 0] 3)).heap.size = w9.heap.size + 1 + 1 := by simp
  clear hA9 hS9 hR9 cA9
  go_wp2_with fail
  generalize (w9.alloc (.cells #[.int .i64 0] 3)).alloc (.cells #[.int .i64 0] 3) = W10 at hA10 hS10 hR10 hP10 hM10 hb10 cA10 hz10 ⊢
  generalize w9.heap.size = n9 at *
  refine (utf_Runes s W10).mono ?_
  rintro e w11 ⟨rfl, rfl⟩
  rw [hz10]
  have hA11 := hA10.alloc (.cells #[.string s] 9)
  have hS11 := hS10.alloc (.cells #[.string s] 9)
  have hR11 := hR10.alloc (.cells #[.string s] 9)
  have hP11 := hP10.alloc (.cells #[.string s] 9)
  have hM11 := hM10.alloc (.cells #[.string s] 9)
  have hb11 := step_new hb10 (.cells #[.string s] 9)
  have hQ11 := Boxed.new W10 9 (.string s)
  have hz11 : (W10.alloc (.cells #[.string s] 9)).heap.size = n9 + 1 + 1 + 1 := by rw [World.size_alloc, hz10]
  rw [hz10] at hQ11
  generalize W10.alloc (.cells #[.string s] 9) = W11 at *
  clear hA10 hS10 hR10 hP10 hM10 hb10 cA10 hz10
  go_wp2_with fail
  refine wpIn_wide.1 (wpIn_rangeSeq (n := 6) rfl (by omega) (gf := 36) (lb := #[.pointer (some ⟨n9 + 1 + 1, 0, none⟩)]) ?hg trivial (enters_of Tryd.func36 (by kernel_rfl) rfl)
    (runes1_gives _ (by omega) (n9 + 1 + 1) s (by omega) w HT.out W11 hb11 (0, 0) hQ11) kpr_t (kpr_b (by omega) (by omega)) (Below.refl _ _) (fun _ => rfl)
    (fun pre W => Boxed W n9 3 (.int .i64 (atC (L s) pre.length : Nat)) ∧ Boxed W (n9 + 1) 3 (.int .i64 (pre.length : Nat)) ∧ Boxed W w.heap.size 9 (.string s) ∧ Boxed W (w.heap.size + 1) 3 (.int .i64 stop) ∧ Boxed W (w.heap.size + 1 + 1) 4 (.bool false) ∧ Boxed W (n9 + 1 + 1) 9 (.string s) ∧ Below w.heap.size w W)
    (fun c _ W => c = .ret ∧ Boxed W (w.heap.size + 1 + 1) 4 (.bool true) ∧ Below w.heap.size w W) ?hI ?hIx ?h0 ?act ?assign ?body ?done ?stop)
  case hg => rfl
  case hI =>
    rintro pre A C row ⟨h1, h2, h3, h4, h5, h6, h7⟩ hg hr
    have hr' : ∀ r, row = some r → ∃ o : Obj, A.heap[r]? = some o ∧ o.isCells = false := fun r e => (hr r e).2
    exact ⟨(grownBy_keeps_cells hg hr' h1 rfl).trans h1, (grownBy_keeps_cells hg hr' h2 rfl).trans h2, (grownBy_keeps_cells hg hr' h3 rfl).trans h3, (grownBy_keeps_cells hg hr' h4 rfl).trans h4, (grownBy_keeps_cells hg hr' h5 rfl).trans h5, (grownBy_keeps_cells hg hr' h6 rfl).trans h6, h7.grown hg h7.size (fun k e => by have := (hr k e).1; omega)⟩
  case hIx =>
    rintro c pre A C row ⟨h0, h1, h7⟩ hg hr
    have hr' : ∀ r, row = some r → ∃ o : Obj, A.heap[r]? = some o ∧ o.isCells = false := fun r e => (hr r e).2
    exact ⟨h0, (grownBy_keeps_cells hg hr' h1 rfl).trans h1, h7.grown hg h7.size (fun k e => by have := (hr k e).1; omega)⟩
  case h0 => exact ⟨by rw [List.length_nil, atC_zero]; exact hP11, hM11, hA11, hS11, hR11, hQ11, hb11⟩
  case assign =>
    intro l x W K hK
    dsimp only [pairV]
    gi_wp2
    exact hK
  case body =>
    rintro l pre x W ⟨h1, h2, h3, h4, h5, h6, h7⟩ hpre
    obtain ⟨hlt, hx, n, hrd, hat, hle⟩ := told_next hpre
    rw [← hx] at h1
    rw [length_L] at hle
    have hch := chunks_length (L s)
    rw [length_L] at hch
    have cP := h1.cell
    have fP := h1.frozen
    have cM := h2.cell
    have fM := h2.frozen
    have cA := h3.cell
    have cS := h4.cell
    have cR := h5.cell
    have fR := h5.frozen
    have Hat := Lib.hid hat
    have Hrd := Lib.hid hrd
    have hlen : (pre ++ [x]).length = pre.length + 1 := by simp
    have Hlen := Lib.hid hlen
    clear hpre hx hat hrd hlen
    by_cases hst : ((pre.length : Nat) : Int) = stop
    · have e1 : (((pre.length : Nat) : Int) == stop) = true := by rw [beq_iff_eq]; exact hst
      have hzb := h5.lt
      clear hst
      gi_wp2
      exact ⟨KeepsOthers.setCell _ _ _, rfl, h5.set _, h7.setCell (p := ⟨w.heap.size + 1 + 1, 0, none⟩) (by simp; omega) _⟩
    · have e1 : (((pre.length : Nat) : Int) == stop) = false := by rw [beq_eq_false_iff_ne]; exact hst
      have hxz : (x.1 : Int) ≤ (s.size : Int) := by omega
      have hn9' : (n : Int) ≤ 1000 := by omega
      have HRx := Lib.hid (ref10_Rune (s.extract x.1 s.size) (by rw [extract_to_end, size_B, List.length_drop, length_L]; omega) W)
      rw [show L (s.extract x.1 s.size) = (L s).drop x.1 by rw [extract_to_end, L_B], Hrd.out] at HRx
      unfold ReadV at HRx
      simp only at HRx
      have ex1 : ((x.1 : Int) != (x.1 : Int)) = false := by simp
      have ex2 : (x.2 != x.2) = false := by simp
      clear hst cR fR
      gi_wp2_with fail
      refine ⟨trivial, ?_⟩
      refine (CallsIn.inRound l (callsIn_wide.2 HRx.out)).mono ?_
      rintro e W2 ⟨rfl, hb2⟩
      have g1 := box_below h1 hb2
      have g2 := box_below h2 hb2
      have g3 := box_below h3 hb2
      have g4 := box_below h4 hb2
      have g5 := box_below h5 hb2
      have g6 := box_below h6 hb2
      have hko := keeps_below hb2
      have Hb2 := Lib.hid hb2
      have cP := g1.cell
      have fP := g1.frozen
      have cM := g2.cell
      have fM := g2.frozen
      clear hb2 cA cS
      gi_wp2
      have hb4 : Below w.heap.size W ((W2.setCell ⟨n9, 0, none⟩ (.int .i64 ((x.1 : Int) + (n : Int)))).setCell ⟨n9 + 1, 0, none⟩ (.int .i64 ((pre.length : Int) + 1))) := ((Hb2.out.mono (by have := h3.lt; omega)).setCell (by simp; omega) _).setCell (by simp; omega) _
      refine ⟨(hko.trans (KeepsOthers.setCell _ _ _)).trans (KeepsOthers.setCell _ _ _), ⟨((hko.trans (KeepsOthers.setCell _ _ _)).trans (KeepsOthers.setCell _ _ _)).walks, hb4, ?_⟩, ?_, ?_, ?_, ?_, ?_, ?_, h7.trans hb4⟩
      · exact (box_other (box_other g6 (by omega)) (by omega)).trans h6.symm
      · rw [Hlen.out, Hat.out]; exact box_other (g1.set _) (by omega)
      · rw [Hlen.out]; exact (box_other g2 (by omega)).set _
      · exact box_other (box_other g3 (by omega)) (by omega)
      · exact box_other (box_other g4 (by omega)) (by omega)
      · exact box_other (box_other g5 (by omega)) (by omega)
      · exact box_other (box_other g6 (by omega)) (by omega)
  case done =>
    rintro D W hD ⟨h1, h2, h3, h4, h5, h6, h7⟩ hK
    rw [idxC_length, atC_end, length_L] at h1
    have cP := h1.cell
    have cA := h3.cell
    have cR := h5.cell
    have fR := h5.frozen
    have e1 : ((s.size : Int) == (s.size : Int)) = true := by simp
    have hK' := Lib.hid ((KeepsOthers.setCell W ⟨w.heap.size + 1 + 1, 0, none⟩ (.bool true)).same D _ hK rfl)
    have hDw : w.heap.size ≤ D := by omega
    have hc5 := Lib.hid (cell_kept (h5.set (.bool true)).cell (grownBy_putObj' _ D (.deferred none)) (fun r e => by cases e; exact ⟨_, hK'.out, rfl⟩))
    have hb5 := Lib.hid ((h7.setCell (p := ⟨w.heap.size + 1 + 1, 0, none⟩) (by simp; omega) (.bool true)).trans (belowK_b (w := w) (Nat.le_refl _) _ D _ (.deferred none) hDw hK'.out rfl rfl))
    clear hK h1
    go_wp2
    refine ⟨by simp, .inl ⟨_, _, rfl, run_takeDeferred hK'.out, ?_⟩⟩
    have hc6 := hc5.out
    exact ⟨.bool true, by simp [results, Tryd.f6, go_sem, hc6], rfl, hb5.out⟩
  case stop =>
    rintro D c pre W hD hpre ⟨rfl, h1, h7⟩ hK
    have hDw : w.heap.size ≤ D := by omega
    have hc5 := Lib.hid (cell_kept h1.cell (grownBy_putObj' _ D (.deferred none)) (fun r e => by cases e; exact ⟨_, hK, rfl⟩))
    have hb5 := Lib.hid (h7.trans (belowK_b (w := w) (Nat.le_refl _) _ D _ (.deferred none) hDw hK rfl rfl))
    have HK := Lib.hid hK
    clear hK
    gi_wp2
    refine ⟨by simp, .inl ⟨_, _, rfl, run_takeDeferred HK.out, ?_⟩⟩
    have hc6 := hc5.out
    exact ⟨.bool true, by simp [results, Tryd.f6, go_sem, hc6], rfl, hb5.out⟩
end Go.Proofs.YtbdoaocgighclaaDoor
