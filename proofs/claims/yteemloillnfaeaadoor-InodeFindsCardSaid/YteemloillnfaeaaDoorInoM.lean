/- Chapter 8: the program's reader of a file: (*inode.reader).file. Conditions: the bytes are few. -/
import Derived.Test.YteemloillnfaeaaDoorInoK
namespace Go.Proofs.YteemloillnfaeaaDoor
open Go.RowKit Go.Wir Go.Ino
attribute [local go_sem] Oper.semAt_some

theorem size_set (w : World) (a : Addr) (v : Value) : (w.setCell a v).heap.size = w.heap.size := by simp [World.setCell]
theorem own_chg' {A : Nat → Prop} {w w' : World} {base : Nat} {e : TypeId} {size : Nat} {v : Value} {n : Nat} {xs : List Value} (h : w.ownsRow base e size v n xs) (c : Chg A w w') (hA : ∀ g, v.ownBlock = some g → ¬ A g) : w'.ownsRow base e size v n xs := by
  refine ⟨h.1, ?_⟩
  rcases h.2 with hn | ⟨g, cap, cur, rfl, hb, hg, h3⟩
  · exact .inl hn
  · exact .inr ⟨g, cap, cur, rfl, hb, (c.block g (h.lt g rfl).2 (hA g rfl)).trans hg, h3⟩
/-- A file's block. -/
def FilB (w : World) (fb : Nat) (t : Tx) (s : Bool) (z : Int) (v : Value) : Prop := w.heap[fb]? = some (.cells #[.string (B t), .bool s, .int .i64 z, v] 44 (0, 0))
theorem FilB.lt {w : World} {fb : Nat} {t : Tx} {s : Bool} {z : Int} {v : Value} (h : FilB w fb t s z v) : fb < w.heap.size := by
  rcases Nat.lt_or_ge fb w.heap.size with h' | h'
  · exact h'
  · unfold FilB at h; rw [Array.getElem?_eq_none h'] at h; cases h
theorem FilB.chg {A : Nat → Prop} {w w' : World} {fb : Nat} {t : Tx} {s : Bool} {z : Int} {v : Value} (h : FilB w fb t s z v) (c : Chg A w w') (hA : ¬ A fb) : FilB w' fb t s z v := (c.block fb h.lt hA).trans h
theorem FilB.cells {w : World} {fb : Nat} {t : Tx} {s : Bool} {z : Int} {v : Value} (h : FilB w fb t s z v) : w.cell? ⟨fb, 0, none⟩ = some (.string (B t)) ∧ w.cell? ⟨fb, 1, none⟩ = some (.bool s) ∧ w.cell? ⟨fb, 2, none⟩ = some (.int .i64 z) ∧ w.cell? ⟨fb, 3, none⟩ = some v ∧
    w.frozen? ⟨fb, 0, none⟩ = false ∧ w.frozen? ⟨fb, 1, none⟩ = false ∧ w.frozen? ⟨fb, 2, none⟩ = false ∧ w.frozen? ⟨fb, 3, none⟩ = false := by
  unfold FilB at h
  refine ⟨by rw [Lib.cell_of_heap h]; rfl, by rw [Lib.cell_of_heap h]; rfl, by rw [Lib.cell_of_heap h]; rfl, by rw [Lib.cell_of_heap h]; rfl, Lib.frozen_of_heap h 0, Lib.frozen_of_heap h 1, Lib.frozen_of_heap h 2, Lib.frozen_of_heap h 3⟩
theorem FilB.set0 {w : World} {fb : Nat} {t : Tx} {s : Bool} {z : Int} {v : Value} (h : FilB w fb t s z v) (t' : Tx) : FilB (w.setCell ⟨fb, 0, none⟩ (.string (B t'))) fb t' s z v := by unfold FilB at *; simp [World.setCell, Array.getElem?_modify, h]
theorem FilB.set1 {w : World} {fb : Nat} {t : Tx} {s : Bool} {z : Int} {v : Value} (h : FilB w fb t s z v) (s' : Bool) : FilB (w.setCell ⟨fb, 1, none⟩ (.bool s')) fb t s' z v := by unfold FilB at *; simp [World.setCell, Array.getElem?_modify, h]
theorem FilB.set2 {w : World} {fb : Nat} {t : Tx} {s : Bool} {z : Int} {v : Value} (h : FilB w fb t s z v) (z' : Int) : FilB (w.setCell ⟨fb, 2, none⟩ (.int .i64 z')) fb t s z' v := by unfold FilB at *; simp [World.setCell, Array.getElem?_modify, h]
theorem FilB.set3 {w : World} {fb : Nat} {t : Tx} {s : Bool} {z : Int} {v : Value} (h : FilB w fb t s z v) (v' : Value) : FilB (w.setCell ⟨fb, 3, none⟩ v') fb t s z v' := by unfold FilB at *; simp [World.setCell, Array.getElem?_modify, h]
theorem FilB.far {w : World} {fb : Nat} {t : Tx} {s : Bool} {z : Int} {v : Value} (h : FilB w fb t s z v) {g : Nat} (hg : fb ≠ g) (k : Nat) (x : Value) : FilB (w.setCell ⟨g, k, none⟩ x) fb t s z v := (Below.heap_setCell _ _ _ _ hg).trans h
theorem RdS.far {w : World} {rb : Nat} {st : St} (h : RdS w rb st) {g : Nat} (hg : rb ≠ g) (k : Nat) (x : Value) : RdS (w.setCell ⟨g, k, none⟩ x) rb st := (Below.heap_setCell _ _ _ _ hg).trans h
/-- The file being read, its reader, the result's block. -/
structure FSt (w : World) (rb : Nat) (x : World) (st : St) (t : Tx) (s : Bool) (z : Int) (v : Value) : Prop where
  rd : RdS x rb st
  fl : FilB x (w.heap.size + 1) t s z v
  res : FilB x w.heap.size [] false 0 (.slice none 0 0)
  lt : rb < w.heap.size
  chg : Chg (fun k => k = rb) w x
theorem Chg.set_new {A : Nat → Prop} {w x : World} (h : Chg A w x) (g k : Nat) (v : Value) (hg : w.heap.size ≤ g) : Chg A w (x.setCell ⟨g, k, none⟩ v) :=
  ⟨h.os, h.tape, h.output, by have := h.size; simpa [World.setCell] using this, fun j hj hA => (Below.heap_setCell _ _ _ _ (fun (e : j = g) => by omega)).trans (h.block j hj hA)⟩
theorem Chg.trans {A : Nat → Prop} {w x y : World} (h : Chg A w x) (c : Chg A x y) : Chg A w y :=
  ⟨c.os.trans h.os, c.tape.trans h.tape, c.output.trans h.output, Nat.le_trans h.size c.size, fun k hk hA => (c.block k (Nat.lt_of_lt_of_le hk h.size) hA).trans (h.block k hk hA)⟩
theorem Chg.alloc {A : Nat → Prop} {w x : World} (h : Chg A w x) (o : Obj) : Chg A w (x.alloc o) := h.trans (Chg.of_below (step_new (Below.refl _ _) o))
section
variable {w : World} {rb : Nat} {x y : World} {st st' : St} {t : Tx} {s : Bool} {z : Int} {v : Value}
theorem FSt.call (h : FSt w rb x st t s z v) (hr : RdS y rb st') (c : Chg (fun k => k = rb) x y) : FSt w rb y st' t s z v :=
  ⟨hr, h.fl.chg c (fun e => by have := h.lt; omega), h.res.chg c (fun e => by have := h.lt; omega), h.lt, h.chg.trans c⟩
theorem FSt.below (h : FSt w rb x st t s z v) (b : Below x.heap.size x y) : FSt w rb y st t s z v := h.call (h.rd.below b) (Chg.of_below b)
theorem FSt.bad {l : Tx} {b : Bool} (h : FSt w rb x (l, b) t s z v) : FSt w rb (x.setCell ⟨rb, 1, none⟩ (.bool true)) (l, true) t s z v :=
  ⟨h.rd.set1, h.fl.far (by have := h.lt; omega) 1 _, h.res.far (by have := h.lt; omega) 1 _, h.lt, h.chg.set _ _ _ rfl⟩
theorem FSt.left {l r : Tx} {b : Bool} (h : FSt w rb x (l, b) t s z v) : FSt w rb (x.setCell ⟨rb, 0, none⟩ (.string (B r))) (r, b) t s z v :=
  ⟨h.rd.set0 r, h.fl.far (by have := h.lt; omega) 0 _, h.res.far (by have := h.lt; omega) 0 _, h.lt, h.chg.set _ _ _ rfl⟩
theorem FSt.name (h : FSt w rb x st t s z v) (t' : Tx) : FSt w rb (x.setCell ⟨w.heap.size + 1, 0, none⟩ (.string (B t'))) st t' s z v :=
  ⟨h.rd.far (by have := h.lt; omega) 0 _, h.fl.set0 t', h.res.far (by omega) 0 _, h.lt, h.chg.set_new _ _ _ (by omega)⟩
theorem FSt.shut (h : FSt w rb x st t s z v) (s' : Bool) : FSt w rb (x.setCell ⟨w.heap.size + 1, 1, none⟩ (.bool s')) st t s' z v :=
  ⟨h.rd.far (by have := h.lt; omega) 1 _, h.fl.set1 s', h.res.far (by omega) 1 _, h.lt, h.chg.set_new _ _ _ (by omega)⟩
theorem FSt.size (h : FSt w rb x st t s z v) (z' : Int) : FSt w rb (x.setCell ⟨w.heap.size + 1, 2, none⟩ (.int .i64 z')) st t s z' v :=
  ⟨h.rd.far (by have := h.lt; omega) 2 _, h.fl.set2 z', h.res.far (by omega) 2 _, h.lt, h.chg.set_new _ _ _ (by omega)⟩
theorem FSt.exts (h : FSt w rb x st t s z v) (v' : Value) : FSt w rb (x.setCell ⟨w.heap.size + 1, 3, none⟩ v') st t s z v' :=
  ⟨h.rd.far (by have := h.lt; omega) 3 _, h.fl.set3 v', h.res.far (by omega) 3 _, h.lt, h.chg.set_new _ _ _ (by omega)⟩
end
theorem FSt.new {w : World} {rb : Nat} {st : St} (h : RdS w rb st) : FSt w rb ((w.alloc (.cells #[.string ⟨#[]⟩, .bool false, .int .i64 0, .slice none 0 0] 44)).alloc (.cells #[.string ⟨#[]⟩, .bool false, .int .i64 0, .slice none 0 0] 44)) st [] false 0 (.slice none 0 0) :=
  have e : (w.alloc (.cells #[.string ⟨#[]⟩, .bool false, .int .i64 0, .slice none 0 0] 44)).heap.size = w.heap.size + 1 := World.size_alloc _ _
  have b := step_new (Below.refl (w.alloc (.cells #[.string ⟨#[]⟩, .bool false, .int .i64 0, .slice none 0 0] 44)).heap.size (w.alloc (.cells #[.string ⟨#[]⟩, .bool false, .int .i64 0, .slice none 0 0] 44))) (.cells #[.string ⟨#[]⟩, .bool false, .int .i64 0, .slice none 0 0] 44)
  ⟨(h.below (step_new (Below.refl _ _) _)).below b, by have := heap_alloc_new (w.alloc (.cells #[.string ⟨#[]⟩, .bool false, .int .i64 0, .slice none 0 0] 44)) (.cells #[.string ⟨#[]⟩, .bool false, .int .i64 0, .slice none 0 0] 44); rw [e] at this; exact this, (b.block w.heap.size (by omega)).trans (heap_alloc_new w _), h.lt, ((Chg.of_below (Below.refl _ _)).alloc _).alloc _⟩
theorem set4I {w : World} {g : Nat} {x0 x1 x2 x3 : Value} {ty : TypeId} (v0 v1 v2 v3 : Value) (h : w.heap[g]? = some (.cells #[x0, x1, x2, x3] ty (0, 0))) :
    ((((w.setCell ⟨g, 0, none⟩ v0).setCell ⟨g, 1, none⟩ v1).setCell ⟨g, 2, none⟩ v2).setCell ⟨g, 3, none⟩ v3).heap[g]? = some (.cells #[v0, v1, v2, v3] ty (0, 0)) := by simp [World.setCell, Array.getElem?_modify, h]
theorem FSt.far {w : World} {rb : Nat} {x : World} {st : St} {t : Tx} {s : Bool} {z : Int} {v : Value} (h : FSt w rb x st t s z v) {g : Nat} (hg : w.heap.size + 2 ≤ g) (k : Nat) (u : Value) : FSt w rb (x.setCell ⟨g, k, none⟩ u) st t s z v :=
  ⟨h.rd.far (by have := h.lt; omega) k _, h.fl.far (by omega) k _, h.res.far (by omega) k _, h.lt, h.chg.set_new _ _ _ (by omega)⟩
theorem FSt.grown {w : World} {rb : Nat} {x y : World} {st : St} {t : Tx} {s : Bool} {z : Int} {v : Value} (h : FSt w rb x st t s z v) {row : Option Nat} (hg : x.grownBy y row) (hr : ∀ g, row = some g → w.heap.size + 2 ≤ g) : FSt w rb y st t s z v :=
  have hn : ∀ k, k < w.heap.size + 2 → some k ≠ row := fun k hk e => by have := hr k e.symm; omega
  ⟨(hg.block rb h.rd.lt (hn rb (by have := h.lt; omega))).trans h.rd, (hg.block _ h.fl.lt (hn _ (by omega))).trans h.fl, (hg.block _ h.res.lt (hn _ (by omega))).trans h.res, h.lt,
    ⟨hg.os.trans h.chg.os, hg.tape.trans h.chg.tape, hg.output.trans h.chg.output, Nat.le_trans h.chg.size hg.size, fun k hk hA => (hg.block k (Nat.lt_of_lt_of_le hk h.chg.size) (hn k (by omega))).trans (h.chg.block k hk hA)⟩⟩
theorem own_far {w : World} {base : Nat} {e : TypeId} {size : Nat} {v : Value} {n : Nat} {xs : List Value} (h : w.ownsRow base e size v n xs) {g : Nat} (hg : ∀ b, v.ownBlock = some b → b ≠ g) (k : Nat) (u : Value) : (w.setCell ⟨g, k, none⟩ u).ownsRow base e size v n xs := by
  refine ⟨h.1, ?_⟩
  rcases h.2 with hn | ⟨b, cap, cur, rfl, hb, hh, h3⟩
  · exact .inl hn
  · exact .inr ⟨b, cap, cur, rfl, hb, (Below.heap_setCell _ _ _ _ (hg b rfl)).trans hh, h3⟩
/-- What a call has read: the file, its extents in blocks of the call's own. -/
def FilePost (w : World) (rb : Nat) (x : Fil × St) (e : Ending) (w' : World) : Prop :=
  ∃ ve, e = .returned (.agg #[.string (B x.1.name), .bool x.1.shut, .int .i64 x.1.size, ve]) ∧ RdS w' rb x.2 ∧ Chg (fun k => k = rb) w w' ∧ Exts w' ve x.1.ext ∧ ∀ g, ve.ownBlock = some g → w.heap.size ≤ g ∧ g < w'.heap.size
theorem ino_numL (m : Int) (most : Nat) (e : m = (most : Int)) (hm : most ≤ 2147483647) (rb : Nat) (st : St) (hl : st.1.length ≤ 1000000) (w : World) (h : RdS w rb st) :
    Calls Tryd.prog 32 #[.pointer (some ⟨rb, 0, none⟩), .int .i64 m] w fun e w' => e = .returned (.int .i64 ((numS most st).1 : Nat)) ∧ RdS w' rb (numS most st).2 ∧ Chg (fun k => k = rb) w w' := by
  subst e; exact ino_num most hm rb st hl w h
theorem fileT_is {t : Tx} {s0 S1 S2 S3 S4 : St} {a1 a2 a3 : Nat} {xs : List Ext} (h1 : numS 1 s0 = (a1, S1)) (h2 : numS 2147483647 S1 = (a2, S2)) (h3 : numS 16 S2 = (a3, S3)) (h4 : manyS extS a3 S3 = (xs, S4)) : fileT t s0 = (⟨t, a1 == 1, (a2 : Int), xs⟩, S4) := by
  unfold fileT; simp only [h1, h2, h3, h4]
theorem one_eq (a : Nat) : (((a : Nat) : Int) == 1) = (a == 1) := by
  rw [Bool.eq_iff_iff]; simp only [beq_iff_eq]; omega
set_option maxRecDepth 100000 in
set_option maxHeartbeats 3200000 in
theorem ino_file (rb : Nat) (st : St) (hl : st.1.length ≤ 1000000) (w : World) (h : RdS w rb st) :
    Calls Tryd.prog 33 #[.pointer (some ⟨rb, 0, none⟩)] w (FilePost w rb (fileS st)) := by
  obtain ⟨i0, hi, hz0, hz1, hz2⟩ := info_parts (show (Tryd.prog.info? 46).map (fun i => (i.zero, i.size, i.bytes)) = some (some (.agg #[.int .i64 0, .int .i64 0]), 2, 16) by kernel_rfl)
  obtain ⟨l, bad⟩ := st
  have hs : (B l).size ≤ 9223372036854775807 := by rw [size_B]; simp only at hl; omega
  have HF0 := Lib.hid (FSt.new h)
  have hrl := h.lt
  clear h
  have c0 := HF0.out.rd.c0
  have c1 := HF0.out.rd.c1
  cases hv : toTextL l with
  | none =>
    have HN : Hid (fileS (l, bad) = (noF, l, true)) := Lib.hid (by unfold fileS; simp only [hv])
    have HV := Lib.hid (fun w0 => wire_ToText_none (B l) hs (by rw [L_B]; exact hv) w0)
    clear hv hl
    go_enter Tryd.func33, Tryd.ntmps33
    go_wp2_with fail
    refine (HV.out _).mono ?_
    rintro e w1 ⟨rfl, hb⟩
    have HF1 := Lib.hid (HF0.out.below hb)
    have d1 := HF1.out.rd.c1
    have g1 := HF1.out.rd.f1
    obtain ⟨e0, e1, e2, e3, -⟩ := HF1.out.fl.cells
    obtain ⟨r0, r1, r2, r3, p0, p1, p2, p3⟩ := HF1.out.res.cells
    have n1 : rb ≠ w.heap.size := by omega
    have n2 : rb ≠ w.heap.size + 1 := by omega
    clear hb
    go_wp2
    refine bodyPost_ret_by (results_cell_row rfl _ _ w.heap.size _ _ _ _ (by rfl) (set4I _ _ _ _ HF1.out.bad.res) Tryd.underlying44 rfl (by kernel_rfl)) rfl ?_
    rw [HN.out]
    have hb := HF1.out.bad
    refine ⟨_, rfl, ((((hb.rd.far n1 _ _).far n1 _ _).far n1 _ _).far n1 _ _), ((((hb.chg.set_new _ _ _ (Nat.le_refl _)).set_new _ _ _ (Nat.le_refl _)).set_new _ _ _ (Nat.le_refl _)).set_new _ _ _ (Nat.le_refl _)), Exts.nil _, fun g h => by cases h⟩
  | some x =>
    obtain ⟨t, r⟩ := x
    have HN : Hid (fileS (l, bad) = fileT t (r, bad)) := Lib.hid (by unfold fileS; simp only [hv])
    have HV := Lib.hid (fun w0 => wire_ToText_some (B l) t r hs (by rw [L_B]; exact hv) w0)
    have hrl2 : r.length ≤ 1000000 := by
      have := congrArg List.length (toTextL_some hv).1
      rw [List.length_append] at this
      simp only at hl; omega
    clear hv hl
    go_enter Tryd.func33, Tryd.ntmps33
    go_wp2_with fail
    refine (HV.out _).mono ?_
    rintro e w1 ⟨rfl, hb⟩
    have HF1 := Lib.hid (HF0.out.below hb)
    have d1 := HF1.out.rd.c1
    have g1 := HF1.out.rd.f0
    have d0 := HF1.out.rd.c0
    obtain ⟨e0, e1, e2, e3, f0, f1, f2, f3⟩ := HF1.out.fl.cells
    have n1 : rb ≠ w.heap.size := by omega
    have n2 : rb ≠ w.heap.size + 1 := by omega
    clear hb
    go_wp2_with fail
    have HF2 := Lib.hid ((HF1.out.name t).left (r := r))
    obtain ⟨⟨a1, S1⟩, hA1⟩ : ∃ A, numS 1 (r, bad) = A := ⟨_, rfl⟩
    have hB1 := numS_le 1 (r, bad)
    rw [hA1] at hB1
    refine (ino_numL 1 1 rfl (by omega) rb (r, bad) hrl2 _ HF2.out.rd).mono ?_
    rintro e w2 ⟨rfl, hr2, hc2⟩
    rw [hA1] at hr2 ⊢
    have HF3 := Lib.hid (HF2.out.call hr2 hc2)
    have hsb := one_eq a1
    obtain ⟨sb, hsb2⟩ : ∃ sb, (a1 == 1) = sb := ⟨_, rfl⟩
    rw [hsb2] at hsb
    have HSB := Lib.hid hsb2
    have HA1 := Lib.hid hA1
    obtain ⟨-, e1, -, -, -, f1, -, -⟩ := HF3.out.fl.cells
    simp only at hB1
    obtain ⟨hB1, hB1'⟩ := hB1
    clear hA1 hr2 hc2 hsb2 d0 d1 e0 e2 e3 f0 f2 f3 g1 c0 c1
    go_wp2_with fail
    have HF4 := Lib.hid (HF3.out.shut sb)
    obtain ⟨⟨a2, S2⟩, hA2⟩ : ∃ A, numS 2147483647 S1 = A := ⟨_, rfl⟩
    have hB2 := numS_le 2147483647 S1
    rw [hA2] at hB2
    simp only at hB2
    obtain ⟨hB2, hB2'⟩ := hB2
    refine (ino_numL 2147483647 2147483647 rfl (by omega) rb S1 (by omega) _ HF4.out.rd).mono ?_
    rintro e w3 ⟨rfl, hr3, hc3⟩
    rw [hA2] at hr3 ⊢
    have HF5 := Lib.hid (HF4.out.call hr3 hc3)
    have HA2 := Lib.hid hA2
    obtain ⟨-, -, e2, -, -, -, f2, -⟩ := HF5.out.fl.cells
    clear hA2 hr3 hc3 e1 f1
    go_wp2_with fail
    have HF6 := Lib.hid (HF5.out.size (a2 : Int))
    obtain ⟨⟨a3, S3⟩, hA3⟩ : ∃ A, numS 16 S2 = A := ⟨_, rfl⟩
    have hB3 := numS_le 16 S2
    rw [hA3] at hB3
    simp only at hB3
    obtain ⟨hB3, hB3'⟩ := hB3
    refine (ino_numL 16 16 rfl (by omega) rb S2 (by omega) _ HF6.out.rd).mono ?_
    rintro e w4 ⟨rfl, hr4, hc4⟩
    rw [hA3] at hr4 ⊢
    have HF7 := Lib.hid (HF6.out.call hr4 hc4)
    have HA3 := Lib.hid hA3
    have hS3 : S3.1.length ≤ 1000000 := by omega
    have HM := Lib.hid (fun n => many_le extS_le S3 n)
    have hrbw := hrl
    clear hA3 hr4 hc4 e2 f2 hsb
    go_wp2
    go_loopw [38] (fun i wr => ∃ (k : Nat) (av : Value), k ≤ a3 ∧ i = .int .i64 k ∧ FSt w rb wr (manyS extS k S3).2 t sb (a2 : Int) av ∧ wr.ownsRow (w.heap.size + 2) 46 2 av k (extCells (manyS extS k S3).1)) (fun i _ => a3 - (intOf i).toNat)
    case atStart => exact ⟨0, _, by omega, rfl, HF7.out, World.ownsRow_nil _ _ _ _⟩
    case round =>
      obtain ⟨k, av, hk, rfl, hF, hown⟩ := hrel
      obtain ⟨ao, ac, rfl⟩ := own_form hown
      have HF := Lib.hid hF
      have Hown := Lib.hid hown
      have hm := HM.out k
      by_cases hlt : k < a3
      · have hka : (k : Int) < (a3 : Int) := by omega
        have HE : Hid (manyS extS (k + 1) S3 = ((manyS extS k S3).1 ++ [(extS (manyS extS k S3).2).1], (extS (manyS extS k S3).2).2)) := Lib.hid rfl
        have hSl : (manyS extS k S3).2.1.length ≤ 1000000 := Nat.le_trans hm.1 hS3
        generalize (manyS extS k S3).1 = xs at *
        generalize (manyS extS k S3).2 = S at *
        obtain ⟨⟨b1, U1⟩, hC1⟩ : ∃ A, numS 4096 S = A := ⟨_, rfl⟩
        have hD1 := numS_le 4096 S
        rw [hC1] at hD1
        obtain ⟨⟨b2, U2⟩, hC2⟩ : ∃ A, numS 4096 U1 = A := ⟨_, rfl⟩
        have hD2 := numS_le 4096 U1
        rw [hC2] at hD2
        simp only at hD1 hD2
        obtain ⟨hD1, hD1'⟩ := hD1
        obtain ⟨hD2, hD2'⟩ := hD2
        have HX : Hid (extS S = (((b1 : Int), (b2 : Int)), U2)) := Lib.hid (by unfold extS; simp only [hC1, hC2])
        have hwz := hF.fl.lt
        have HFa := Lib.hid (HF.out.below (step_new (Below.refl _ _) (.cells #[.int .i64 0, .int .i64 0] 46)))
        have hXa := heap_alloc_new wr (.cells #[.int .i64 0, .int .i64 0] 46)
        have Hown1 := Lib.hid (own_below Hown.out (step_new (Below.refl _ _) (.cells #[.int .i64 0, .int .i64 0] 46)))
        have HnR : Hid (∀ g, (Value.slice ao k ac).ownBlock = some g → w.heap.size + 2 ≤ g ∧ g < wr.heap.size) := Lib.hid (fun g hg => Hown.out.lt g hg)
        clear hF hown hm
        go_wp2_with fail
        refine (ino_numL 4096 4096 rfl (by omega) rb S hSl _ HFa.out.rd).mono ?_
        rintro e w5 ⟨rfl, hr5, hc5⟩
        rw [hC1] at hr5 ⊢
        have HG1 := Lib.hid (HFa.out.call hr5 hc5)
        have hX1 := (hc5.block wr.heap.size (by simp) (fun e => by omega)).trans hXa
        have Hown2 := Lib.hid (own_chg' Hown1.out hc5 (fun g hg e => by have := HnR.out g hg; omega))
        obtain ⟨x0, x1, y0, y1⟩ := cells2 hX1
        have hw5 := hc5.size
        rw [World.size_alloc] at hw5
        have HX1 := Lib.hid hX1
        clear hr5 hc5 hXa hX1 hC1
        go_wp2_with fail
        have HG2 := Lib.hid (HG1.out.far (g := wr.heap.size) (by omega) 0 (.int .i64 (b1 : Int)))
        refine (ino_numL 4096 4096 rfl (by omega) rb U1 (by omega) _ HG2.out.rd).mono ?_
        rintro e w6 ⟨rfl, hr6, hc6⟩
        rw [hC2] at hr6 ⊢
        have HG3 := Lib.hid (HG2.out.call hr6 hc6)
        have hX2 : w6.heap[wr.heap.size]? = some (.cells #[.int .i64 (b1 : Int), .int .i64 0] 46 (0, 0)) := (hc6.block wr.heap.size (by simp [World.setCell]; omega) (fun e => by omega)).trans (by
          have := HX1.out; simp [World.setCell, Array.getElem?_modify, this])
        have Hown3 := Lib.hid (own_chg' (own_far Hown2.out (g := wr.heap.size) (fun g hg e => by have := HnR.out g hg; omega) 0 (.int .i64 (b1 : Int))) hc6 (fun g hg e => by have := HnR.out g hg; omega))
        have HG4 := Lib.hid (HG3.out.far (g := wr.heap.size) (by omega) 1 (.int .i64 (b2 : Int)))
        have Hown4 := Lib.hid (own_far Hown3.out (g := wr.heap.size) (fun g hg e => by have := HnR.out g hg; omega) 1 (.int .i64 (b2 : Int)))
        obtain ⟨x0, x1, y0, y1⟩ := cells2 hX2
        obtain ⟨-, -, -, e3, -, -, -, f3⟩ := HG3.out.fl.cells
        clear hr6 hc6 hX2 hC2
        have hsw : (w6.setCell ⟨wr.heap.size, 1, none⟩ (.int .i64 (b2 : Int))).heap.size = w6.heap.size := by simp [World.setCell]
        have hnews := Lib.hid (cell2_newI (w6.setCell ⟨wr.heap.size, 1, none⟩ (.int .i64 (b2 : Int))) w6.heap.size hsw.symm (.int .i64 (b1 : Int)) (.int .i64 (b2 : Int)) 46)
        have hown5 := Lib.hid (Hown4.out.alloc (.cells #[.int .i64 (b1 : Int), .int .i64 (b2 : Int)] 46))
        have HG5 := Lib.hid (HG4.out.below (step_new (Below.refl _ _) (.cells #[.int .i64 (b1 : Int), .int .i64 (b2 : Int)] 46)))
        have hw6 := HG3.out.fl.lt
        clear hsw
        go_wp2_with (at_builtin; go_must (refine wpList_append_where _ rfl _ _ 42 rfl (w.heap.size + 2) 46 i0 (.agg #[.int .i64 0, .int .i64 0]) 2 16 Tryd.underlying42 hi hz0 hz1 hz2 rfl (by decide) _ _ _ rfl hown5.out ⟨w6.heap.size, 0, none⟩ 1 1 [.int .i64 (b1 : Int), .int .i64 (b2 : Int)] rfl rfl ?c1 ?c2 ?c3 ?c4 ?c5 ?_))
        case c1 => exact hnews.out
        case c2 => simp [Value.oneCell']
        case c3 => unfold maxLen; omega
        case c4 => omega
        case c5 => simp [World.setCell]; omega
        intro v7 w7 hown7 hgrow7 _
        have HG6 := Lib.hid (HG5.out.grown hgrow7 (fun g hg => (HnR.out g hg).1))
        obtain ⟨a7, c7, rfl⟩ := own_form hown7
        obtain ⟨-, -, -, e3, -, -, -, f3⟩ := HG6.out.fl.cells
        have HG7 := Lib.hid (HG6.out.exts (.slice a7 (k + 1) c7))
        have Hown7 := Lib.hid (own_far hown7 (g := w.heap.size + 1) (fun g hg e => by have := (hown7.lt g hg).1; omega) 3 (.slice a7 (k + 1) c7))
        clear hown7 hgrow7
        go_wp2
        go_roundw
        case rel => exact ⟨k + 1, _, by omega, by go_num, by rw [HE.out, HX.out]; exact HG7.out, by rw [HE.out, HX.out, extCells_append]; exact Hown7.out⟩
        case measure => simp [intOf]; omega
      · obtain rfl : k = a3 := by omega
        obtain ⟨⟨xs, S4⟩, hA4⟩ : ∃ A, manyS extS k S3 = A := ⟨_, rfl⟩
        have HT := Lib.hid (fileT_is (t := t) HA1.out HA2.out HA3.out hA4)
        have hxl : xs.length = k := by have := manyS_len extS k S3; rw [hA4] at this; exact this
        rw [hA4] at hF hown
        have HF8 := Lib.hid hF
        have Hown8 := Lib.hid hown
        obtain ⟨e0, e1, e2, e3, -⟩ := hF.fl.cells
        obtain ⟨r0, r1, r2, r3, p0, p1, p2, p3⟩ := hF.res.cells
        clear hF hown HF Hown hA4 hm HM
        go_wp2
        refine bodyPost_ret_by (results_cell_row rfl _ _ w.heap.size _ _ _ _ (by rfl) (set4I _ _ _ _ HF8.out.res) Tryd.underlying44 rfl (by kernel_rfl)) rfl ?_
        rw [HN.out, HT.out]
        have hb := HF8.out
        have hnb : ∀ b, (Value.slice ao k ac).ownBlock = some b → b ≠ w.heap.size := fun b hb e => by have := (Hown8.out.lt b hb).1; omega
        refine ⟨.slice ao k ac, by rw [HSB.out], ((((hb.rd.far n1 _ _).far n1 _ _).far n1 _ _).far n1 _ _), ((((hb.chg.set_new _ _ _ (Nat.le_refl _)).set_new _ _ _ (Nat.le_refl _)).set_new _ _ _ (Nat.le_refl _)).set_new _ _ _ (Nat.le_refl _)), ?_, fun g hg => ⟨by have := (Hown8.out.lt g hg).1; omega, by have := (Hown8.out.lt g hg).2; simp only [size_set]; omega⟩⟩
        have h4 := own_far (own_far (own_far (own_far Hown8.out hnb 0 (.string (B t))) hnb 1 (.bool sb)) hnb 2 (.int .i64 (a2 : Int))) hnb 3 (.slice ao k ac)
        subst hxl
        exact own_exts h4
end Go.Proofs.YteemloillnfaeaaDoor
