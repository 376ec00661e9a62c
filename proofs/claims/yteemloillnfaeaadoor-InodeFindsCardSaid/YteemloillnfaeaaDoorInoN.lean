/- Chapter 8: the document's answer's reader of a file: (*codexref8.Reader).one. Conditions: the bytes are few. -/
import Derived.Test.YteemloillnfaeaaDoorInoM
namespace Go.Proofs.YteemloillnfaeaaDoor
open Go.RowKit Go.Wir Go.Ino
attribute [local go_sem] Oper.semAt_some

theorem RdQ.far {w : World} {rb : Nat} {st : St} (h : RdQ w rb st) {g : Nat} (hg : rb ≠ g) (k : Nat) (x : Value) : RdQ (w.setCell ⟨g, k, none⟩ x) rb st := (Below.heap_setCell _ _ _ _ hg).trans h
/-- A file's block. -/
def FilQ (w : World) (fb : Nat) (t : Tx) (s : Bool) (z : Int) (v : Value) : Prop := w.heap[fb]? = some (.cells #[.string (B t), .bool s, .int .i64 z, v] 58 (0, 0))
theorem FilQ.lt {w : World} {fb : Nat} {t : Tx} {s : Bool} {z : Int} {v : Value} (h : FilQ w fb t s z v) : fb < w.heap.size := by
  rcases Nat.lt_or_ge fb w.heap.size with h' | h'
  · exact h'
  · unfold FilQ at h; rw [Array.getElem?_eq_none h'] at h; cases h
theorem FilQ.chg {A : Nat → Prop} {w w' : World} {fb : Nat} {t : Tx} {s : Bool} {z : Int} {v : Value} (h : FilQ w fb t s z v) (c : Chg A w w') (hA : ¬ A fb) : FilQ w' fb t s z v := (c.block fb h.lt hA).trans h
theorem FilQ.cells {w : World} {fb : Nat} {t : Tx} {s : Bool} {z : Int} {v : Value} (h : FilQ w fb t s z v) : w.cell? ⟨fb, 0, none⟩ = some (.string (B t)) ∧ w.cell? ⟨fb, 1, none⟩ = some (.bool s) ∧ w.cell? ⟨fb, 2, none⟩ = some (.int .i64 z) ∧ w.cell? ⟨fb, 3, none⟩ = some v ∧
    w.frozen? ⟨fb, 0, none⟩ = false ∧ w.frozen? ⟨fb, 1, none⟩ = false ∧ w.frozen? ⟨fb, 2, none⟩ = false ∧ w.frozen? ⟨fb, 3, none⟩ = false := by
  unfold FilQ at h
  refine ⟨by rw [Lib.cell_of_heap h]; rfl, by rw [Lib.cell_of_heap h]; rfl, by rw [Lib.cell_of_heap h]; rfl, by rw [Lib.cell_of_heap h]; rfl, Lib.frozen_of_heap h 0, Lib.frozen_of_heap h 1, Lib.frozen_of_heap h 2, Lib.frozen_of_heap h 3⟩
theorem FilQ.set0 {w : World} {fb : Nat} {t : Tx} {s : Bool} {z : Int} {v : Value} (h : FilQ w fb t s z v) (t' : Tx) : FilQ (w.setCell ⟨fb, 0, none⟩ (.string (B t'))) fb t' s z v := by unfold FilQ at *; simp [World.setCell, Array.getElem?_modify, h]
theorem FilQ.set1 {w : World} {fb : Nat} {t : Tx} {s : Bool} {z : Int} {v : Value} (h : FilQ w fb t s z v) (s' : Bool) : FilQ (w.setCell ⟨fb, 1, none⟩ (.bool s')) fb t s' z v := by unfold FilQ at *; simp [World.setCell, Array.getElem?_modify, h]
theorem FilQ.set2 {w : World} {fb : Nat} {t : Tx} {s : Bool} {z : Int} {v : Value} (h : FilQ w fb t s z v) (z' : Int) : FilQ (w.setCell ⟨fb, 2, none⟩ (.int .i64 z')) fb t s z' v := by unfold FilQ at *; simp [World.setCell, Array.getElem?_modify, h]
theorem FilQ.set3 {w : World} {fb : Nat} {t : Tx} {s : Bool} {z : Int} {v : Value} (h : FilQ w fb t s z v) (v' : Value) : FilQ (w.setCell ⟨fb, 3, none⟩ v') fb t s z v' := by unfold FilQ at *; simp [World.setCell, Array.getElem?_modify, h]
theorem FilQ.far {w : World} {fb : Nat} {t : Tx} {s : Bool} {z : Int} {v : Value} (h : FilQ w fb t s z v) {g : Nat} (hg : fb ≠ g) (k : Nat) (x : Value) : FilQ (w.setCell ⟨g, k, none⟩ x) fb t s z v := (Below.heap_setCell _ _ _ _ hg).trans h
/-- The file being read, its reader, the result's block. -/
structure FQt (w : World) (rb fb : Nat) (x : World) (st : St) (t : Tx) (s : Bool) (z : Int) (v : Value) : Prop where
  rd : RdQ x rb st
  fl : FilQ x (fb) t s z v
  res : FilQ x w.heap.size [] false 0 (.slice none 0 0)
  lt : rb < w.heap.size
  hfb : w.heap.size + 1 ≤ fb
  chg : Chg (fun k => k = rb) w x
section
variable {w : World} {rb fb : Nat} {x y : World} {st st' : St} {t : Tx} {s : Bool} {z : Int} {v : Value}
theorem FQt.call (h : FQt w rb fb x st t s z v) (hr : RdQ y rb st') (c : Chg (fun k => k = rb) x y) : FQt w rb fb y st' t s z v :=
  ⟨hr, h.fl.chg c (fun e => by have := h.lt; have := h.hfb; omega), h.res.chg c (fun e => by have := h.lt; have := h.hfb; omega), h.lt, h.hfb, h.chg.trans c⟩
theorem FQt.below (h : FQt w rb fb x st t s z v) (b : Below x.heap.size x y) : FQt w rb fb y st t s z v := h.call (h.rd.below b) (Chg.of_below b)
theorem FQt.bad {l : Tx} {b : Bool} (h : FQt w rb fb x (l, b) t s z v) : FQt w rb fb (x.setCell ⟨rb, 1, none⟩ (.bool false)) (l, true) t s z v :=
  ⟨h.rd.set1, h.fl.far (by have := h.lt; have := h.hfb; omega) 1 _, h.res.far (by have := h.lt; have := h.hfb; omega) 1 _, h.lt, h.hfb, h.chg.set _ _ _ rfl⟩
theorem FQt.left {l r : Tx} {b : Bool} (h : FQt w rb fb x (l, b) t s z v) : FQt w rb fb (x.setCell ⟨rb, 0, none⟩ (.string (B r))) (r, b) t s z v :=
  ⟨h.rd.set0 r, h.fl.far (by have := h.lt; have := h.hfb; omega) 0 _, h.res.far (by have := h.lt; have := h.hfb; omega) 0 _, h.lt, h.hfb, h.chg.set _ _ _ rfl⟩
theorem FQt.name (h : FQt w rb fb x st t s z v) (t' : Tx) : FQt w rb fb (x.setCell ⟨fb, 0, none⟩ (.string (B t'))) st t' s z v :=
  ⟨h.rd.far (by have := h.lt; have := h.hfb; omega) 0 _, h.fl.set0 t', h.res.far (by have := h.hfb; omega) 0 _, h.lt, h.hfb, h.chg.set_new _ _ _ (by have := h.hfb; omega)⟩
theorem FQt.shut (h : FQt w rb fb x st t s z v) (s' : Bool) : FQt w rb fb (x.setCell ⟨fb, 1, none⟩ (.bool s')) st t s' z v :=
  ⟨h.rd.far (by have := h.lt; have := h.hfb; omega) 1 _, h.fl.set1 s', h.res.far (by have := h.hfb; omega) 1 _, h.lt, h.hfb, h.chg.set_new _ _ _ (by have := h.hfb; omega)⟩
theorem FQt.size (h : FQt w rb fb x st t s z v) (z' : Int) : FQt w rb fb (x.setCell ⟨fb, 2, none⟩ (.int .i64 z')) st t s z' v :=
  ⟨h.rd.far (by have := h.lt; have := h.hfb; omega) 2 _, h.fl.set2 z', h.res.far (by have := h.hfb; omega) 2 _, h.lt, h.hfb, h.chg.set_new _ _ _ (by have := h.hfb; omega)⟩
theorem FQt.exts (h : FQt w rb fb x st t s z v) (v' : Value) : FQt w rb fb (x.setCell ⟨fb, 3, none⟩ v') st t s z v' :=
  ⟨h.rd.far (by have := h.lt; have := h.hfb; omega) 3 _, h.fl.set3 v', h.res.far (by have := h.hfb; omega) 3 _, h.lt, h.hfb, h.chg.set_new _ _ _ (by have := h.hfb; omega)⟩
end
theorem FQt.far {w : World} {rb fb : Nat} {x : World} {st : St} {t : Tx} {s : Bool} {z : Int} {v : Value} (h : FQt w rb fb x st t s z v) {g : Nat} (hg : fb + 1 ≤ g) (k : Nat) (u : Value) : FQt w rb fb (x.setCell ⟨g, k, none⟩ u) st t s z v :=
  ⟨h.rd.far (by have := h.lt; have := h.hfb; omega) k _, h.fl.far (by have := h.hfb; omega) k _, h.res.far (by have := h.hfb; omega) k _, h.lt, h.hfb, h.chg.set_new _ _ _ (by have := h.hfb; omega)⟩
theorem FQt.grown {w : World} {rb fb : Nat} {x y : World} {st : St} {t : Tx} {s : Bool} {z : Int} {v : Value} (h : FQt w rb fb x st t s z v) {row : Option Nat} (hg : x.grownBy y row) (hr : ∀ g, row = some g → fb + 1 ≤ g) : FQt w rb fb y st t s z v :=
  have hn : ∀ k, k < fb + 1 → some k ≠ row := fun k hk e => by have := hr k e.symm; omega
  ⟨(hg.block rb h.rd.lt (hn rb (by have := h.lt; have := h.hfb; omega))).trans h.rd, (hg.block _ h.fl.lt (hn _ (by have := h.hfb; omega))).trans h.fl, (hg.block _ h.res.lt (hn _ (by have := h.hfb; omega))).trans h.res, h.lt, h.hfb,
    ⟨hg.os.trans h.chg.os, hg.tape.trans h.chg.tape, hg.output.trans h.chg.output, Nat.le_trans h.chg.size hg.size, fun k hk hA => (hg.block k (Nat.lt_of_lt_of_le hk h.chg.size) (hn k (by have := h.hfb; omega))).trans (h.chg.block k hk hA)⟩⟩
/-- Ahead of the file: the reader, the result's block. -/
structure FQ0 (w : World) (rb : Nat) (x : World) (st : St) : Prop where
  rd : RdQ x rb st
  res : FilQ x w.heap.size [] false 0 (.slice none 0 0)
  lt : rb < w.heap.size
  chg : Chg (fun k => k = rb) w x
theorem FQ0.new {w : World} {rb : Nat} {st : St} (h : RdQ w rb st) : FQ0 w rb (w.alloc (.cells #[.string ⟨#[]⟩, .bool false, .int .i64 0, .slice none 0 0] 58)) st :=
  ⟨h.below (step_new (Below.refl _ _) _), heap_alloc_new w _, h.lt, (Chg.of_below (Below.refl _ _)).alloc _⟩
theorem FQ0.below {w x y : World} {rb : Nat} {st : St} (h : FQ0 w rb x st) (b : Below x.heap.size x y) : FQ0 w rb y st :=
  ⟨h.rd.below b, h.res.chg (Chg.of_below (A := fun k => k = rb) b) (fun e => by have := h.lt; omega), h.lt, h.chg.trans (Chg.of_below b)⟩
theorem FQ0.bad {w x : World} {rb : Nat} {l : Tx} {b : Bool} (h : FQ0 w rb x (l, b)) : FQ0 w rb (x.setCell ⟨rb, 1, none⟩ (.bool false)) (l, true) :=
  ⟨h.rd.set1, h.res.far (by have := h.lt; omega) 1 _, h.lt, h.chg.set _ _ _ rfl⟩
theorem FQ0.left {w x : World} {rb : Nat} {l r : Tx} {b : Bool} (h : FQ0 w rb x (l, b)) : FQ0 w rb (x.setCell ⟨rb, 0, none⟩ (.string (B r))) (r, b) :=
  ⟨h.rd.set0 r, h.res.far (by have := h.lt; omega) 0 _, h.lt, h.chg.set _ _ _ rfl⟩
theorem FQ0.file {w x : World} {rb : Nat} {st : St} (h : FQ0 w rb x st) (t : Tx) (fb : Nat) (e : fb = x.heap.size) : FQt w rb fb (x.alloc (.cells #[.string (B t), .bool false, .int .i64 0, .slice none 0 0] 58)) st t false 0 (.slice none 0 0) := by
  subst e
  have b := step_new (Below.refl x.heap.size x) (.cells #[.string (B t), .bool false, .int .i64 0, .slice none 0 0] 58)
  exact ⟨h.rd.below b, heap_alloc_new x _, (h.below b).res, h.lt, by have := h.res.lt; omega, h.chg.alloc _⟩
def FileQost (w : World) (rb : Nat) (x : Fil × St) (e : Ending) (w' : World) : Prop :=
  ∃ ve, e = .returned (.agg #[.string (B x.1.name), .bool x.1.shut, .int .i64 x.1.size, ve]) ∧ RdQ w' rb x.2 ∧ Chg (fun k => k = rb) w w' ∧ Exts w' ve x.1.ext ∧ ∀ g, ve.ownBlock = some g → w.heap.size ≤ g ∧ g < w'.heap.size
theorem ref8_numL (m : Int) (most : Nat) (e : m = (most : Int)) (hm : most ≤ 2147483647) (rb : Nat) (st : St) (hl : st.1.length ≤ 1000000) (w : World) (h : RdQ w rb st) :
    Calls Tryd.prog 35 #[.pointer (some ⟨rb, 0, none⟩), .int .i64 m] w fun e w' => e = .returned (.int .i64 ((numQ most st).1 : Nat)) ∧ RdQ w' rb (numQ most st).2 ∧ Chg (fun k => k = rb) w w' := by
  subst e; exact ref8_num most hm rb st hl w h
theorem fileU_is {t : Tx} {s0 S1 S2 S3 S4 : St} {a1 a2 a3 : Nat} {xs : List Ext} (h1 : numQ 1 s0 = (a1, S1)) (h2 : numQ 2147483647 S1 = (a2, S2)) (h3 : numQ 16 S2 = (a3, S3)) (h4 : manyQ extQ a3 S3 = (xs, S4)) : fileU t s0 = (⟨t, a1 == 1, (a2 : Int), xs⟩, S4) := by
  unfold fileU; simp only [h1, h2, h3, h4]
set_option maxRecDepth 100000 in
set_option maxHeartbeats 3200000 in
theorem ref8_one (rb : Nat) (st : St) (hl : st.1.length ≤ 1000000) (w : World) (h : RdQ w rb st) :
    Calls Tryd.prog 36 #[.pointer (some ⟨rb, 0, none⟩)] w (FileQost w rb (fileQ st)) := by
  obtain ⟨i0, hi, hz0, hz1, hz2⟩ := info_parts (show (Tryd.prog.info? 46).map (fun i => (i.zero, i.size, i.bytes)) = some (some (.agg #[.int .i64 0, .int .i64 0]), 2, 16) by kernel_rfl)
  obtain ⟨l, bad⟩ := st
  have hs : (B l).size ≤ 9223372036854775807 := by rw [size_B]; simp only at hl; omega
  have HF0 := Lib.hid (FQ0.new h)
  have hrl := h.lt
  have c0 := h.c0
  have c0' := cell_alloc (.cells #[.string ⟨#[]⟩, .bool false, .int .i64 0, .slice none 0 0] 58) c0
  clear h
  cases hv : toTextL l with
  | none =>
    have HN : Hid (fileQ (l, bad) = (noF, l, true)) := Lib.hid (by unfold fileQ; simp only [hv])
    have HV := Lib.hid (fun w0 => ref2_ToText_none (B l) hs (by rw [L_B]; exact hv) w0)
    clear hv hl
    go_enter Tryd.func36, Tryd.ntmps36
    go_wp2_with fail
    refine (HV.out _).mono ?_
    rintro e w1 ⟨rfl, hb⟩
    have HF1 := Lib.hid (HF0.out.below hb)
    have d1 := HF1.out.rd.c1
    have g1 := HF1.out.rd.f1
    obtain ⟨r0, r1, r2, r3, p0, p1, p2, p3⟩ := HF1.out.res.cells
    have n1 : rb ≠ w.heap.size := by omega
    clear hb
    go_wp2
    refine bodyPost_ret_by (results_cell_row rfl _ _ w.heap.size _ _ _ _ (by rfl) (set4I _ _ _ _ HF1.out.bad.res) Tryd.underlying58 rfl (by kernel_rfl)) rfl ?_
    rw [HN.out]
    have hb := HF1.out.bad
    refine ⟨_, rfl, ((((hb.rd.far n1 _ _).far n1 _ _).far n1 _ _).far n1 _ _), ((((hb.chg.set_new _ _ _ (Nat.le_refl _)).set_new _ _ _ (Nat.le_refl _)).set_new _ _ _ (Nat.le_refl _)).set_new _ _ _ (Nat.le_refl _)), Exts.nil _, fun g h => by cases h⟩
  | some x =>
    obtain ⟨t, r⟩ := x
    have HN : Hid (fileQ (l, bad) = fileU t (r, bad)) := Lib.hid (by unfold fileQ; simp only [hv])
    have HV := Lib.hid (fun w0 => ref2_ToText_some (B l) t r hs (by rw [L_B]; exact hv) w0)
    have hrl2 : r.length ≤ 1000000 := by
      have := congrArg List.length (toTextL_some hv).1
      rw [List.length_append] at this
      simp only at hl; omega
    clear hv hl
    go_enter Tryd.func36, Tryd.ntmps36
    go_wp2_with fail
    refine (HV.out _).mono ?_
    rintro e w1 ⟨rfl, hb⟩
    have HF1 := Lib.hid (HF0.out.below hb)
    have d0 := HF1.out.rd.c0
    have g0 := HF1.out.rd.f0
    have n1 : rb ≠ w.heap.size := by omega
    clear hb
    go_wp2_with fail
    obtain ⟨fb, hfb⟩ : ∃ fb, fb = w1.heap.size := ⟨_, rfl⟩
    have HF2 := Lib.hid ((HF1.out.left (r := r)).file t fb (by simp [World.setCell]; exact hfb))
    rw [← hfb]
    have n2 : rb ≠ fb := by have := HF1.out.rd.lt; omega
    obtain ⟨⟨a1, S1⟩, hA1⟩ : ∃ A, numQ 1 (r, bad) = A := ⟨_, rfl⟩
    have hB1 := numQ_le 1 (r, bad)
    rw [hA1] at hB1
    refine (ref8_numL 1 1 rfl (by omega) rb (r, bad) hrl2 _ HF2.out.rd).mono ?_
    rintro e w2 ⟨rfl, hr2, hc2⟩
    rw [hA1] at hr2 ⊢
    have HF3 := Lib.hid (HF2.out.call hr2 hc2)
    have hsb := one_eq a1
    obtain ⟨sb, hsb2⟩ : ∃ sb, (a1 == 1) = sb := ⟨_, rfl⟩
    rw [hsb2] at hsb
    have HSB := Lib.hid hsb2
    have HA1 := Lib.hid hA1
    obtain ⟨-, e1, -, -, -, f1, -, -⟩ := HF3.out.fl.cells
    simp only at hB1
    obtain ⟨hB1, hB1'⟩ := hB1
    clear hA1 hr2 hc2 hsb2 d0 g0 c0 c0' hfb
    go_wp2_with fail
    have HF4 := Lib.hid (HF3.out.shut sb)
    obtain ⟨⟨a2, S2⟩, hA2⟩ : ∃ A, numQ 2147483647 S1 = A := ⟨_, rfl⟩
    have hB2 := numQ_le 2147483647 S1
    rw [hA2] at hB2
    simp only at hB2
    obtain ⟨hB2, hB2'⟩ := hB2
    refine (ref8_numL 2147483647 2147483647 rfl (by omega) rb S1 (by omega) _ HF4.out.rd).mono ?_
    rintro e w3 ⟨rfl, hr3, hc3⟩
    rw [hA2] at hr3 ⊢
    have HF5 := Lib.hid (HF4.out.call hr3 hc3)
    have HA2 := Lib.hid hA2
    obtain ⟨-, -, e2, -, -, -, f2, -⟩ := HF5.out.fl.cells
    clear hA2 hr3 hc3 e1 f1
    go_wp2_with fail
    have HF6 := Lib.hid (HF5.out.size (a2 : Int))
    obtain ⟨⟨a3, S3⟩, hA3⟩ : ∃ A, numQ 16 S2 = A := ⟨_, rfl⟩
    have hB3 := numQ_le 16 S2
    rw [hA3] at hB3
    simp only at hB3
    obtain ⟨hB3, hB3'⟩ := hB3
    refine (ref8_numL 16 16 rfl (by omega) rb S2 (by omega) _ HF6.out.rd).mono ?_
    rintro e w4 ⟨rfl, hr4, hc4⟩
    rw [hA3] at hr4 ⊢
    have HF7 := Lib.hid (HF6.out.call hr4 hc4)
    have HA3 := Lib.hid hA3
    have hS3 : S3.1.length ≤ 1000000 := by omega
    have HM := Lib.hid (fun n => manyQ_le extQ_le S3 n)
    have hrbw := hrl
    clear hA3 hr4 hc4 e2 f2 hsb
    go_wp2
    go_loopw [8] (fun i wr => ∃ (k : Nat) (av : Value), k ≤ a3 ∧ i = .int .i64 k ∧ FQt w rb fb wr (manyQ extQ k S3).2 t sb (a2 : Int) av ∧ wr.ownsRow (fb + 1) 46 2 av (manyQ extQ k S3).1.length (extCells (manyQ extQ k S3).1)) (fun i _ => a3 - (intOf i).toNat)
    case atStart => exact ⟨0, _, by omega, rfl, HF7.out, World.ownsRow_nil _ _ _ _⟩
    case round =>
      obtain ⟨k, av, hk, rfl, hF, hown⟩ := hrel
      obtain ⟨ao, ac, rfl⟩ := own_form hown
      have HF := Lib.hid hF
      have Hown := Lib.hid hown
      have hm := HM.out k
      by_cases hgo : k < a3 ∧ (manyQ extQ k S3).2.2 = false
      · obtain ⟨hlt, hfine⟩ := hgo
        have hka : (k : Int) < (a3 : Int) := by omega
        have HE : Hid (manyQ extQ (k + 1) S3 = ((manyQ extQ k S3).1 ++ [(extQ (manyQ extQ k S3).2).1], (extQ (manyQ extQ k S3).2).2)) := Lib.hid (by rw [manyQ, hfine]; simp)
        have hSl : (manyQ extQ k S3).2.1.length ≤ 1000000 := Nat.le_trans hm.1 hS3
        have hxk := manyQ_len extQ k S3
        generalize (manyQ extQ k S3).1 = xs at *
        generalize (manyQ extQ k S3).2 = S at *
        obtain ⟨⟨b1, U1⟩, hC1⟩ : ∃ A, numQ 4096 S = A := ⟨_, rfl⟩
        have hD1 := numQ_le 4096 S
        rw [hC1] at hD1
        obtain ⟨⟨b2, U2⟩, hC2⟩ : ∃ A, numQ 4096 U1 = A := ⟨_, rfl⟩
        have hD2 := numQ_le 4096 U1
        rw [hC2] at hD2
        simp only at hD1 hD2
        obtain ⟨hD1, hD1'⟩ := hD1
        obtain ⟨hD2, hD2'⟩ := hD2
        have HX : Hid (extQ S = (((b1 : Int), (b2 : Int)), U2)) := Lib.hid (by unfold extQ; simp only [hC1, hC2])
        have hwz := hF.fl.lt
        have HnR : Hid (∀ g, (Value.slice ao xs.length ac).ownBlock = some g → fb + 1 ≤ g ∧ g < wr.heap.size) := Lib.hid (fun g hg => Hown.out.lt g hg)
        have hfbx := hF.hfb
        have o1 : wr.cell? ⟨rb, 1, none⟩ = some (.bool true) := by
          obtain ⟨S', b'⟩ := S
          simp only at hfine
          subst hfine
          exact hF.rd.c1
        clear hF hown hm hfine
        go_wp2_with fail
        refine (ref8_numL 4096 4096 rfl (by omega) rb S hSl _ HF.out.rd).mono ?_
        rintro e w5 ⟨rfl, hr5, hc5⟩
        rw [hC1] at hr5 ⊢
        have HG1 := Lib.hid (HF.out.call hr5 hc5)
        have Hown2 := Lib.hid (own_chg' Hown.out hc5 (fun g hg e => by have := HnR.out g hg; omega))
        have hw5 := hc5.size
        clear hr5 hc5 hC1
        go_wp2_with fail
        refine (ref8_numL 4096 4096 rfl (by omega) rb U1 (by omega) _ HG1.out.rd).mono ?_
        rintro e w6 ⟨rfl, hr6, hc6⟩
        rw [hC2] at hr6 ⊢
        have HG4 := Lib.hid (HG1.out.call hr6 hc6)
        have Hown4 := Lib.hid (own_chg' Hown2.out hc6 (fun g hg e => by have := HnR.out g hg; omega))
        obtain ⟨-, -, -, e3, -, -, -, f3⟩ := HG4.out.fl.cells
        have hnews := Lib.hid (cell2_newI w6 w6.heap.size rfl (.int .i64 (b1 : Int)) (.int .i64 (b2 : Int)) 46)
        have hown5 := Lib.hid (Hown4.out.alloc (.cells #[.int .i64 (b1 : Int), .int .i64 (b2 : Int)] 46))
        have HG5 := Lib.hid (HG4.out.below (step_new (Below.refl _ _) (.cells #[.int .i64 (b1 : Int), .int .i64 (b2 : Int)] 46)))
        have hw6 := HG4.out.fl.lt
        clear hr6 hc6 hC2
        go_wp2_with (at_builtin; go_must (refine wpList_append_where _ rfl _ _ 42 rfl (fb + 1) 46 i0 (.agg #[.int .i64 0, .int .i64 0]) 2 16 Tryd.underlying42 hi hz0 hz1 hz2 rfl (by decide) _ _ _ rfl hown5.out ⟨w6.heap.size, 0, none⟩ 1 1 [.int .i64 (b1 : Int), .int .i64 (b2 : Int)] rfl rfl ?c1 ?c2 ?c3 ?c4 ?c5 ?_))
        case c1 => exact hnews.out
        case c2 => simp [Value.oneCell']
        case c3 => unfold maxLen; omega
        case c4 => omega
        case c5 => simp; omega
        intro v7 w7 hown7 hgrow7 _
        have HG6 := Lib.hid (HG5.out.grown hgrow7 (fun g hg => (HnR.out g hg).1))
        obtain ⟨a7, c7, rfl⟩ := own_form hown7
        obtain ⟨-, -, -, e3, -, -, -, f3⟩ := HG6.out.fl.cells
        have HG7 := Lib.hid (HG6.out.exts (.slice a7 (xs.length + 1) c7))
        have Hown7 := Lib.hid (own_far hown7 (g := fb) (fun g hg e => by have := (hown7.lt g hg).1; omega) 3 (.slice a7 (xs.length + 1) c7))
        clear hown7 hgrow7
        go_wp2
        go_roundw
        case rel => exact ⟨k + 1, _, by omega, by go_num, by rw [HE.out, HX.out]; exact HG7.out, by rw [HE.out, HX.out, extCells_append, List.length_append]; exact Hown7.out⟩
        case measure => simp [intOf]; omega
      · have HST : manyQ extQ a3 S3 = manyQ extQ k S3 := by
          by_cases hlt : k < a3
          · exact manyQ_stop extQ (by
              cases hbb : (manyQ extQ k S3).2.2 with
              | true => rfl
              | false => exact absurd ⟨hlt, hbb⟩ hgo) a3 hk
          · obtain rfl : k = a3 := by omega
            rfl
        have hfbx : ¬ (k < a3 ∧ (manyQ extQ k S3).2.2 = false) := hgo
        clear hgo
        obtain ⟨⟨xs, S4⟩, hA4⟩ : ∃ A, manyQ extQ k S3 = A := ⟨_, rfl⟩
        have HT := Lib.hid (fileU_is (t := t) HA1.out HA2.out HA3.out (HST.trans hA4))
        rw [hA4] at hF hown
        simp only at hF hown
        have HF8 := Lib.hid hF
        have Hown8 := Lib.hid hown
        have o1 := hF.rd.c1
        obtain ⟨e0, e1, e2, e3, -⟩ := hF.fl.cells
        obtain ⟨r0, r1, r2, r3, p0, p1, p2, p3⟩ := hF.res.cells
        rw [hA4] at hfbx
        simp only at hfbx
        clear hF hown HF Hown hA4 hm HM HST
        obtain ⟨S4, bb⟩ := S4
        simp only at hfbx o1
        by_cases hlt : k < a3
        · have hka : (k : Int) < (a3 : Int) := by omega
          cases bb
          · exact absurd ⟨hlt, rfl⟩ hfbx
          clear hfbx
          go_wp2
          refine bodyPost_ret_by (results_cell_row rfl _ _ w.heap.size _ _ _ _ (by rfl) (set4I _ _ _ _ HF8.out.res) Tryd.underlying58 rfl (by kernel_rfl)) rfl ?_
          rw [HN.out, HT.out]
          have hb := HF8.out
          have hnb : ∀ b, (Value.slice ao xs.length ac).ownBlock = some b → b ≠ w.heap.size := fun b hb2 e => by have := (Hown8.out.lt b hb2).1; have := hb.hfb; omega
          refine ⟨.slice ao xs.length ac, by rw [HSB.out], ((((hb.rd.far n1 _ _).far n1 _ _).far n1 _ _).far n1 _ _), ((((hb.chg.set_new _ _ _ (Nat.le_refl _)).set_new _ _ _ (Nat.le_refl _)).set_new _ _ _ (Nat.le_refl _)).set_new _ _ _ (Nat.le_refl _)), ?_, fun g hg => ⟨by have := (Hown8.out.lt g hg).1; have := hb.hfb; omega, by have := (Hown8.out.lt g hg).2; simp only [size_set]; omega⟩⟩
          exact own_exts (own_far (own_far (own_far (own_far Hown8.out hnb 0 (.string (B t))) hnb 1 (.bool sb)) hnb 2 (.int .i64 (a2 : Int))) hnb 3 (.slice ao xs.length ac))
        · have hka : ¬ (k : Int) < (a3 : Int) := by omega
          clear hfbx
          go_wp2
          refine bodyPost_ret_by (results_cell_row rfl _ _ w.heap.size _ _ _ _ (by rfl) (set4I _ _ _ _ HF8.out.res) Tryd.underlying58 rfl (by kernel_rfl)) rfl ?_
          rw [HN.out, HT.out]
          have hb := HF8.out
          have hnb : ∀ b, (Value.slice ao xs.length ac).ownBlock = some b → b ≠ w.heap.size := fun b hb2 e => by have := (Hown8.out.lt b hb2).1; have := hb.hfb; omega
          refine ⟨.slice ao xs.length ac, by rw [HSB.out], ((((hb.rd.far n1 _ _).far n1 _ _).far n1 _ _).far n1 _ _), ((((hb.chg.set_new _ _ _ (Nat.le_refl _)).set_new _ _ _ (Nat.le_refl _)).set_new _ _ _ (Nat.le_refl _)).set_new _ _ _ (Nat.le_refl _)), ?_, fun g hg => ⟨by have := (Hown8.out.lt g hg).1; have := hb.hfb; omega, by have := (Hown8.out.lt g hg).2; simp only [size_set]; omega⟩⟩
          exact own_exts (own_far (own_far (own_far (own_far Hown8.out hnb 0 (.string (B t))) hnb 1 (.bool sb)) hnb 2 (.int .i64 (a2 : Int))) hnb 3 (.slice ao xs.length ac))
end Go.Proofs.YteemloillnfaeaaDoor
