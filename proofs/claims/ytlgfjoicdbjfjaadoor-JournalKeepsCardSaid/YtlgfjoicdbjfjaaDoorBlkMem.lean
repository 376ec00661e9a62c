/- A device in memory (of block, and of the reference): its blocks, what a store changes. No conditions. -/
import Derived.Test.YtlgfjoicdbjfjaaDoorHeld
import Derived.Test.YtlgfjoicdbjfjaaDoorAppendWhere
import Derived.Test.YtlgfjoicdbjfjaaDoorBlkPlain
namespace Go.Proofs.YtlgfjoicdbjfjaaDoor
open Go.RowKit Go.Blk

/-- At most the blocks A, of those that were there, have changed. -/
structure Chg (A : Nat → Prop) (w w' : World) : Prop where
  os : w'.os = w.os
  tape : w'.tape = w.tape
  output : w'.output = w.output
  size : w.heap.size ≤ w'.heap.size
  block : ∀ k, k < w.heap.size → ¬ A k → w'.heap[k]? = w.heap[k]?
theorem Chg.refl (A : Nat → Prop) (w : World) : Chg A w w := ⟨rfl, rfl, rfl, Nat.le_refl _, fun _ _ _ => rfl⟩
theorem Chg.of_below {A : Nat → Prop} {w w' : World} (h : Below w.heap.size w w') : Chg A w w' := ⟨h.os, h.tape, h.output, h.size, fun k hk _ => h.block k hk⟩
theorem Chg.below {A : Nat → Prop} {w w' : World} {K : Nat} (h : Chg A w w') (hK : K ≤ w.heap.size) (hA : ∀ k, A k → K ≤ k) : Below K w w' :=
  ⟨h.os, h.tape, h.output, h.size, fun k hk => h.block k (by omega) (fun ha => by have := hA k ha; omega)⟩
theorem Chg.mono {A B' : Nat → Prop} {w w' : World} (h : Chg A w w') (hAB : ∀ k, k < w.heap.size → A k → B' k) : Chg B' w w' :=
  ⟨h.os, h.tape, h.output, h.size, fun k hk hn => h.block k hk (fun ha => hn (hAB k hk ha))⟩
theorem Chg.trans {A A' : Nat → Prop} {w w1 w2 : World} (h : Chg A w w1) (h2 : Chg A' w1 w2) (hA : ∀ k, k < w.heap.size → A' k → A k) : Chg A w w2 :=
  ⟨h2.os.trans h.os, h2.tape.trans h.tape, h2.output.trans h.output, Nat.le_trans h.size h2.size, fun k hk hn => (h2.block k (Nat.lt_of_lt_of_le hk h.size) (fun ha => hn (hA k hk ha))).trans (h.block k hk hn)⟩
theorem Chg.call {A : Nat → Prop} {w w1 w2 : World} (h : Chg A w w1) (b : Below w1.heap.size w1 w2) : Chg A w w2 := h.trans (A' := fun _ => False) (Chg.of_below b) (fun _ _ h => h.elim)
theorem Chg.new {A : Nat → Prop} {w w1 : World} (h : Chg A w w1) (o : Obj) : Chg A w (w1.alloc o) := h.call ((Below.refl _ _).alloc (Nat.le_refl _) o)
theorem Chg.set {A : Nat → Prop} {w w1 : World} (h : Chg A w w1) (g k : Nat) (v : Value) (hg : A g) : Chg A w (w1.setCell ⟨g, k, none⟩ v) :=
  ⟨h.os, h.tape, h.output, by have := h.size; simpa [World.setCell] using this, fun j hj hn => (Below.heap_setCell _ _ _ _ (fun e => hn (by rw [e]; exact hg))).trans (h.block j hj hn)⟩
theorem Chg.drewN {A : Nat → Prop} {w w1 : World} (h : Chg A w w1) (n : Nat) : Chg A w (w1.drewN n) := ⟨h.os, h.tape, h.output, h.size, h.block⟩
theorem Chg.grown {A : Nat → Prop} {w w1 w2 : World} {row : Option Nat} (h : Chg A w w1) (hg : w1.grownBy w2 row) (hr : ∀ k, k < w.heap.size → row = some k → A k) : Chg A w w2 :=
  ⟨hg.os.trans h.os, hg.tape.trans h.tape, hg.output.trans h.output, Nat.le_trans h.size hg.size, fun k hk hn => (hg.block k (Nat.lt_of_lt_of_le hk h.size) (fun e => hn (hr k hk e.symm))).trans (h.block k hk hn)⟩
theorem Chg.cell {A : Nat → Prop} {w w' : World} {b off : Nat} {v : Value} (h : Chg A w w') (hA : ¬ A b) (hc : w.cell? ⟨b, off, none⟩ = some v) : w'.cell? ⟨b, off, none⟩ = some v := by
  have hb := h.block b (lt_of_cell hc) hA
  exact (World.cell?_of_block (a := ⟨b, off, none⟩) hb).trans hc
theorem own_chg {A : Nat → Prop} {w w' : World} {base : Nat} {e : TypeId} {size : Nat} {v : Value} {n : Nat} {xs : List Value} (h : w.ownsRow base e size v n xs) (c : Chg A w w') (hA : ∀ k, v.ownBlock = some k → ¬ A k) : w'.ownsRow base e size v n xs := by
  refine ⟨h.1, ?_⟩
  rcases h.2 with hn | ⟨g, cap, cur, rfl, hb, hg, h3⟩
  · exact .inl hn
  · have hlt : g < w.heap.size := (h.lt g rfl).2
    exact .inr ⟨g, cap, cur, rfl, hb, (c.block g hlt (hA g rfl)).trans hg, h3⟩

def txtCells (l : List Txt) : List Value := l.map fun s => .string (B s)
def wrCells (l : List (Nat × Txt)) : List Value := l.flatMap fun p => [.int .i64 (p.1 : Nat), .string (B p.2)]
theorem txtCells_length (l : List Txt) : (txtCells l).length = l.length := by simp [txtCells]
theorem wrCells_length (l : List (Nat × Txt)) : (wrCells l).length = l.length * 2 := by
  unfold wrCells
  induction l with
  | nil => rfl
  | cons e l ih => simp only [List.flatMap_cons, List.length_append, ih, List.length_cons, List.length_nil]; omega
theorem wrCells_get (es : List (Nat × Txt)) (i : Nat) (h : i < es.length) : (wrCells es)[i * 2]? = some (.int .i64 (es[i].1 : Nat)) ∧ (wrCells es)[i * 2 + 1]? = some (.string (B es[i].2)) := by
  unfold wrCells
  induction es generalizing i with
  | nil => simp at h
  | cons e es ih =>
    cases i with
    | zero => simp
    | succ i =>
      have := ih i (by simpa using h)
      simp only [List.flatMap_cons, List.getElem_cons_succ]
      rw [show (i + 1) * 2 = i * 2 + 2 by omega]
      simpa using this
theorem wrCells_append (a b : List (Nat × Txt)) : wrCells (a ++ b) = wrCells a ++ wrCells b := by simp [wrCells]
theorem wrCells_one (l : List (Nat × Txt)) : ∀ u ∈ wrCells l, u.oneCell' = true := by
  unfold wrCells
  intro u hu
  obtain ⟨e, _, he⟩ := List.mem_flatMap.1 hu
  simp only [List.mem_cons, List.not_mem_nil, or_false] at he
  rcases he with rfl | rfl <;> rfl

/-- A device's blocks. -/
def ownV (g : Nat) (od op : Option Nat) (k : Nat) : Prop := k = g ∨ od = some k ∨ op = some k
def DevAt (T : TypeId) (w : World) (g : Nat) (od op : Option Nat) (d : Dv) : Prop := ∃ vd vp,
  w.heap[g]? = some (.cells #[vd, vp, .int .i64 d.fuse, .bool d.dead] T (0, 0)) ∧ w.ownsRow 0 9 1 vd d.disk.length (txtCells d.disk) ∧ vd.ownBlock = od ∧
  w.ownsRow 0 47 2 vp d.pend.length (wrCells d.pend) ∧ vp.ownBlock = op ∧ od ≠ some g ∧ op ≠ some g ∧ ∀ k, od = some k → op ≠ some k
section
variable {T : TypeId} {w w' : World} {g : Nat} {od op : Option Nat} {d : Dv}
theorem DevAt.lt (h : DevAt T w g od op d) : ∀ k, ownV g od op k → k < w.heap.size := by
  obtain ⟨vd, vp, h1, h2, rfl, h3, rfl, _⟩ := h
  intro k hk
  rcases hk with rfl | hk | hk
  · rcases Nat.lt_or_ge k w.heap.size with h' | h'
    · exact h'
    · simp [Array.getElem?_eq_none h'] at h1
  · exact (h2.lt k hk).2
  · exact (h3.lt k hk).2
theorem DevAt.keep {A : Nat → Prop} (h : DevAt T w g od op d) (c : Chg A w w') (hA : ∀ k, ownV g od op k → ¬ A k) : DevAt T w' g od op d := by
  have hl := h.lt
  obtain ⟨vd, vp, h1, h2, h3, h4, h5, h6⟩ := h
  refine ⟨vd, vp, (c.block g (hl g (.inl rfl)) (hA g (.inl rfl))).trans h1, own_chg h2 c (fun k hk => hA k (.inr (.inl (h3.symm.trans hk)))), h3, own_chg h4 c (fun k hk => hA k (.inr (.inr (h5.symm.trans hk)))), h5, h6⟩
theorem DevAt.below (h : DevAt T w g od op d) (b : Below w.heap.size w w') : DevAt T w' g od op d := h.keep (A := fun _ => False) (Chg.of_below b) (fun _ _ h => h)
theorem DevAt.cells (h : DevAt T w g od op d) : ∃ vd vp, w.heap[g]? = some (.cells #[vd, vp, .int .i64 d.fuse, .bool d.dead] T (0, 0)) ∧ (∃ a c, vd = .slice a d.disk.length c) ∧ (∃ a c, vp = .slice a d.pend.length c) ∧
    w.cell? ⟨g, 0, none⟩ = some vd ∧ w.cell? ⟨g, 1, none⟩ = some vp ∧ w.cell? ⟨g, 2, none⟩ = some (.int .i64 d.fuse) ∧ w.cell? ⟨g, 3, none⟩ = some (.bool d.dead) ∧
    w.frozen? ⟨g, 0, none⟩ = false ∧ w.frozen? ⟨g, 1, none⟩ = false ∧ w.frozen? ⟨g, 2, none⟩ = false ∧ w.frozen? ⟨g, 3, none⟩ = false ∧
    w.ownsRow 0 9 1 vd d.disk.length (txtCells d.disk) ∧ vd.ownBlock = od ∧ w.ownsRow 0 47 2 vp d.pend.length (wrCells d.pend) ∧ vp.ownBlock = op := by
  obtain ⟨vd, vp, h1, h2, h3, h4, h5, _⟩ := h
  refine ⟨vd, vp, h1, ?_, ?_, by rw [Lib.cell_of_heap h1]; rfl, by rw [Lib.cell_of_heap h1]; rfl, by rw [Lib.cell_of_heap h1]; rfl, by rw [Lib.cell_of_heap h1]; rfl, Lib.frozen_of_heap h1 0, Lib.frozen_of_heap h1 1, Lib.frozen_of_heap h1 2, Lib.frozen_of_heap h1 3, h2, h3, h4, h5⟩
  · rcases h2.2 with ⟨rfl, h0⟩ | ⟨_, cap, _, rfl, _⟩
    · exact ⟨none, 0, by rw [h0]⟩
    · exact ⟨_, _, rfl⟩
  · rcases h4.2 with ⟨rfl, h0⟩ | ⟨_, cap, _, rfl, _⟩
    · exact ⟨none, 0, by rw [h0]⟩
    · exact ⟨_, _, rfl⟩
end
/-- A row of texts that a call owns, its cells. -/
theorem own_txt {w : World} {base : Nat} {v : Value} {l : List Txt} (h : w.ownsRow base 9 1 v l.length (txtCells l)) (h0 : 0 < l.length) :
    ∃ g cap cur, v = .slice (some ⟨g, 0, none⟩) l.length cap ∧ g < w.heap.size ∧ l.length ≤ cap ∧ w.heap[g]? = some (.cells cur 9 (0, 0)) ∧ cur.size = cap ∧ (∀ i (hi : i < l.length), w.cell? ⟨g, i, none⟩ = some (.string (B l[i]))) ∧ ∀ i, w.frozen? ⟨g, i, none⟩ = false := by
  rcases h.2 with ⟨_, h1⟩ | ⟨g, cap, cur, rfl, hg, hh, h1, h2, h3, h4⟩
  · omega
  · refine ⟨g, cap, cur, rfl, ?_, h1, hh, by rw [h3, Nat.mul_one], fun i hi => ?_, fun i => Lib.frozen_of_heap hh i⟩
    · rcases Nat.lt_or_ge g w.heap.size with h' | h'
      · exact h'
      · simp [Array.getElem?_eq_none h'] at hh
    · rw [Lib.cell_of_heap hh]
      have : cur.toList[i]? = (txtCells l)[i]? := by rw [← h4, List.getElem?_take, Nat.mul_one, if_pos hi]
      rw [← Array.getElem?_toList, this]
      simp [txtCells, hi]
/-- A row of writes, its cells. -/
theorem own_wr {w : World} {base : Nat} {v : Value} {l : List (Nat × Txt)} (h : w.ownsRow base 47 2 v l.length (wrCells l)) (h0 : 0 < l.length) :
    ∃ g cap, v = .slice (some ⟨g, 0, none⟩) l.length cap ∧ g < w.heap.size ∧ ∀ i (hi : i < l.length), w.cell? ⟨g, i * 2, none⟩ = some (.int .i64 (l[i].1 : Nat)) ∧ w.cell? ⟨g, i * 2 + 1, none⟩ = some (.string (B l[i].2)) := by
  rcases h.2 with ⟨_, h1⟩ | ⟨g, cap, cur, rfl, hg, hh, h1, h2, h3, h4⟩
  · omega
  · refine ⟨g, cap, rfl, ?_, fun i hi => ?_⟩
    · rcases Nat.lt_or_ge g w.heap.size with h' | h'
      · exact h'
      · simp [Array.getElem?_eq_none h'] at hh
    · obtain ⟨e1, e2⟩ := wrCells_get l i hi
      have k1 : cur[i * 2]? = (wrCells l)[i * 2]? := by rw [← h4, List.getElem?_take, if_pos (by omega), Array.getElem?_toList]
      have k2 : cur[i * 2 + 1]? = (wrCells l)[i * 2 + 1]? := by rw [← h4, List.getElem?_take, if_pos (by omega), Array.getElem?_toList]
      constructor
      · rw [Lib.cell_of_heap hh, k1, e1]
      · rw [Lib.cell_of_heap hh, k2, e2]
/-- A store of a text into a row of texts. -/
theorem own_txt_set {w : World} {base g cap : Nat} {l : List Txt} (h : w.ownsRow base 9 1 (.slice (some ⟨g, 0, none⟩) l.length cap) l.length (txtCells l)) (i : Nat) (_ : i < l.length) (s : Txt) :
    (w.setCell ⟨g, i, none⟩ (.string (B s))).ownsRow base 9 1 (.slice (some ⟨g, 0, none⟩) (l.set i s).length cap) (l.set i s).length (txtCells (l.set i s)) := by
  rcases h.2 with ⟨h0, _⟩ | ⟨g', cap', cur, h0, hg, hh, h1, h2, h3, h4⟩
  · cases h0
  simp only [Value.slice.injEq, Option.some.injEq, Addr.mk.injEq, and_true, true_and] at h0
  obtain ⟨rfl, rfl⟩ := h0
  refine ⟨by rw [txtCells_length, Nat.mul_one], .inr ⟨g, cap, cur.setIfInBounds i (.string (B s)), rfl, hg, by simp [World.setCell, Array.getElem?_modify, hh], by rw [List.length_set]; exact h1, h2, by simpa using h3, ?_⟩⟩
  rw [List.length_set, Array.toList_setIfInBounds, List.take_set]
  rw [h4]
  simp [txtCells, List.map_set]

/-- What a call makes of a device: another state; its own blocks alone have changed. -/
def Mut (T : TypeId) (w w' : World) (g : Nat) (od op : Option Nat) (d' : Dv) : Prop := ∃ op', DevAt T w' g od op' d' ∧ (∀ k, op' = some k → op = some k ∨ w.heap.size ≤ k) ∧ Chg (ownV g od op) w w'
section
variable {T : TypeId} {w w1 w2 : World} {g : Nat} {od op : Option Nat} {d : Dv}
theorem Mut.refl (h : DevAt T w g od op d) : Mut T w w g od op d := ⟨op, h, fun _ hk => .inl hk, Chg.refl _ _⟩
theorem Mut.call (h : Mut T w w1 g od op d) (b : Below w1.heap.size w1 w2) : Mut T w w2 g od op d := by
  obtain ⟨op', h1, h2, h3⟩ := h
  exact ⟨op', h1.below b, h2, h3.call b⟩
theorem Mut.new (h : Mut T w w1 g od op d) (o : Obj) : Mut T w (w1.alloc o) g od op d := h.call ((Below.refl _ _).alloc (Nat.le_refl _) o)
theorem Mut.setFuse (h : Mut T w w1 g od op d) (f : Int) : Mut T w (w1.setCell ⟨g, 2, none⟩ (.int .i64 f)) g od op { d with fuse := f } := by
  obtain ⟨op', ⟨vd, vp, a1, a2, a3, a4, a5, a6, a7, a8⟩, h2, h3⟩ := h
  have c : Chg (fun k => k = g) w1 (w1.setCell ⟨g, 2, none⟩ (.int .i64 f)) := (Chg.refl _ w1).set g 2 _ rfl
  refine ⟨op', ⟨vd, vp, by simp [World.setCell, Array.getElem?_modify, a1], own_chg a2 c (fun k hk e => a6 (by rw [← a3, hk, e])), a3, own_chg a4 c (fun k hk e => a7 (by rw [← a5, hk, e])), a5, a6, a7, a8⟩, h2, h3.set g 2 _ (.inl rfl)⟩
theorem Mut.setDead (h : Mut T w w1 g od op d) (f : Bool) : Mut T w (w1.setCell ⟨g, 3, none⟩ (.bool f)) g od op { d with dead := f } := by
  obtain ⟨op', ⟨vd, vp, a1, a2, a3, a4, a5, a6, a7, a8⟩, h2, h3⟩ := h
  have c : Chg (fun k => k = g) w1 (w1.setCell ⟨g, 3, none⟩ (.bool f)) := (Chg.refl _ w1).set g 3 _ rfl
  refine ⟨op', ⟨vd, vp, by simp [World.setCell, Array.getElem?_modify, a1], own_chg a2 c (fun k hk e => a6 (by rw [← a3, hk, e])), a3, own_chg a4 c (fun k hk e => a7 (by rw [← a5, hk, e])), a5, a6, a7, a8⟩, h2, h3.set g 3 _ (.inl rfl)⟩
/-- Another row of pending writes: the call's own, or none. -/
theorem Mut.setPend (h : Mut T w w1 g od op d) (vp' : Value) (l : List (Nat × Txt)) (hown : w1.ownsRow 0 47 2 vp' l.length (wrCells l)) (hb : ∀ k, vp'.ownBlock = some k → (op = some k ∨ w.heap.size ≤ k) ∧ k ≠ g ∧ od ≠ some k) : Mut T w (w1.setCell ⟨g, 1, none⟩ vp') g od op { d with pend := l } := by
  obtain ⟨op', ⟨vd, vp, a1, a2, a3, a4, a5, a6, a7, a8⟩, h2, h3⟩ := h
  have c : Chg (fun k => k = g) w1 (w1.setCell ⟨g, 1, none⟩ vp') := (Chg.refl _ w1).set g 1 _ rfl
  refine ⟨vp'.ownBlock, ⟨vd, vp', by simp [World.setCell, Array.getElem?_modify, a1], own_chg a2 c (fun k hk e => a6 (by rw [← a3, hk, e])), a3, own_chg hown c (fun k hk => (hb k hk).2.1), rfl, a6, fun e => (hb g e).2.1 rfl, fun k hk e => (hb k e).2.2 hk⟩, fun k hk => (hb k hk).1, h3.set g 1 _ (.inl rfl)⟩
/-- A store on one of the blocks. -/
theorem Mut.setDisk (h : Mut T w w1 g od op d) (gd : Nat) (hgd : od = some gd) (i : Nat) (hi : i < d.disk.length) (s : Txt) : Mut T w (w1.setCell ⟨gd, i, none⟩ (.string (B s))) g od op { d with disk := d.disk.set i s } := by
  obtain ⟨op', ⟨vd, vp, a1, a2, a3, a4, a5, a6, a7, a8⟩, h2, h3⟩ := h
  subst hgd
  have c : Chg (fun k => k = gd) w1 (w1.setCell ⟨gd, i, none⟩ (.string (B s))) := (Chg.refl _ w1).set gd i _ rfl
  obtain ⟨gg, cap, cur, rfl, b1, b2, b3, b4, b5, b6⟩ := own_txt a2 (by omega)
  simp only [Value.ownBlock, Option.some.injEq] at a3
  subst a3
  have hne : gg ≠ g := fun e => a6 (by rw [e])
  have hgl : g < w1.heap.size := by
    rcases Nat.lt_or_ge g w1.heap.size with h' | h'
    · exact h'
    · simp [Array.getElem?_eq_none h'] at a1
  refine ⟨op', ⟨.slice (some ⟨gg, 0, none⟩) d.disk.length cap, vp, (c.block g hgl (fun e => hne e.symm)).trans a1, ?_, rfl, own_chg a4 c (fun k hk e => a8 gg rfl (by rw [← a5, hk, e])), a5, a6, a7, a8⟩, h2, h3.set gg i _ (.inr (.inl rfl))⟩
  have := own_txt_set a2 i hi s
  rw [List.length_set] at this
  simpa using this
theorem Mut.trans {d1 : Dv} {_ : Option Nat} (h : Mut T w w1 g od op d1) (h1 : ∀ op1, DevAt T w1 g od op1 d1 → Mut T w1 w2 g od op1 d) : Mut T w w2 g od op d := by
  obtain ⟨op1, a1, a2, a3⟩ := h
  obtain ⟨op2, b1, b2, b3⟩ := h1 op1 a1
  refine ⟨op2, b1, fun k hk => ?_, a3.trans b3 (fun k hk ha => ?_)⟩
  · rcases b2 k hk with h5 | h5
    · exact a2 k h5
    · exact .inr (Nat.le_trans a3.size h5)
  · rcases ha with rfl | ha | ha
    · exact .inl rfl
    · exact .inr (.inl ha)
    · rcases a2 k ha with h5 | h5
      · exact .inr (.inr h5)
      · omega
end
end Go.Proofs.YtlgfjoicdbjfjaaDoor
