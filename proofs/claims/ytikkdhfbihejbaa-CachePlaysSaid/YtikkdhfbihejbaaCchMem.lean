/- A cache in memory: its block, the map's, a block of each entry; what a call leaves. No conditions. -/
import Derived.Test.YtikkdhfbihejbaaHeld
import Derived.Test.YtikkdhfbihejbaaCchDirty
import Derived.Test.YtikkdhfbihejbaaCchMap
namespace Go.Proofs.Ytikkdhfbihejbaa
open Go.RowKit Go.Cch

/-- At most the blocks A, of those that were there, have changed. -/
structure Chg (A : Nat → Prop) (w w' : World) : Prop where
  os : w'.os = w.os
  tape : w'.tape = w.tape
  output : w'.output = w.output
  size : w.heap.size ≤ w'.heap.size
  block : ∀ k, k < w.heap.size → ¬ A k → w'.heap[k]? = w.heap[k]?
theorem Chg.refl (A : Nat → Prop) (w : World) : Chg A w w := ⟨rfl, rfl, rfl, Nat.le_refl _, fun _ _ _ => rfl⟩
theorem Chg.of_below {A : Nat → Prop} {w w' : World} (h : Below w.heap.size w w') : Chg A w w' := ⟨h.os, h.tape, h.output, h.size, fun k hk _ => h.block k hk⟩
theorem Chg.below {A : Nat → Prop} {w w' : World} {K : Nat} (h : Chg A w w') (hK : K ≤ w.heap.size) (hA : ∀ k, A k → K ≤ k) : Below K w w' :=
  ⟨h.os, h.tape, h.output, h.size, fun k hk => h.block k (by omega) (fun ha => by have := hA k ha; omega)⟩
theorem Chg.mono {A B' : Nat → Prop} {w w' : World} (h : Chg A w w') (hAB : ∀ k, k < w.heap.size → A k → B' k) : Chg B' w w' :=
  ⟨h.os, h.tape, h.output, h.size, fun k hk hn => h.block k hk (fun ha => hn (hAB k hk ha))⟩
theorem Chg.trans {A A' : Nat → Prop} {w w1 w2 : World} (h : Chg A w w1) (h2 : Chg A' w1 w2) (hA : ∀ k, k < w.heap.size → A' k → A k) : Chg A w w2 :=
  ⟨h2.os.trans h.os, h2.tape.trans h.tape, h2.output.trans h.output, Nat.le_trans h.size h2.size, fun k hk hn => (h2.block k (Nat.lt_of_lt_of_le hk h.size) (fun ha => hn (hA k hk ha))).trans (h.block k hk hn)⟩
theorem Chg.call {A : Nat → Prop} {w w1 w2 : World} (h : Chg A w w1) (b : Below w1.heap.size w1 w2) : Chg A w w2 := h.trans (A' := fun _ => False) (Chg.of_below b) (fun _ _ h => h.elim)
theorem Chg.new {A : Nat → Prop} {w w1 : World} (h : Chg A w w1) (o : Obj) : Chg A w (w1.alloc o) := h.call ((Below.refl _ _).alloc (Nat.le_refl _) o)
theorem Chg.set {A : Nat → Prop} {w w1 : World} (h : Chg A w w1) (g k : Nat) (v : Value) (hg : g < w.heap.size → A g) : Chg A w (w1.setCell ⟨g, k, none⟩ v) :=
  ⟨h.os, h.tape, h.output, by have := h.size; simpa [World.setCell] using this, fun j hj hn => (Below.heap_setCell _ _ _ _ (fun e => hn (by rw [e]; exact hg (by rw [← show j = g from e]; exact hj)))).trans (h.block j hj hn)⟩
theorem Chg.drewN {A : Nat → Prop} {w w1 : World} (h : Chg A w w1) (n : Nat) : Chg A w (w1.drewN n) := ⟨h.os, h.tape, h.output, h.size, h.block⟩
theorem Chg.grown {A : Nat → Prop} {w w1 w2 : World} {row : Option Nat} (h : Chg A w w1) (hg : w1.grownBy w2 row) (hr : ∀ k, k < w.heap.size → row = some k → A k) : Chg A w w2 :=
  ⟨hg.os.trans h.os, hg.tape.trans h.tape, hg.output.trans h.output, Nat.le_trans h.size hg.size, fun k hk hn => (hg.block k (Nat.lt_of_lt_of_le hk h.size) (fun e => hn (hr k hk e.symm))).trans (h.block k hk hn)⟩
theorem Chg.cell {A : Nat → Prop} {w w' : World} {b off : Nat} {v : Value} (h : Chg A w w') (hA : ¬ A b) (hc : w.cell? ⟨b, off, none⟩ = some v) : w'.cell? ⟨b, off, none⟩ = some v := by
  have hb := h.block b (lt_of_cell hc) hA
  exact (World.cell?_of_block (a := ⟨b, off, none⟩) hb).trans hc
theorem own_chg {A : Nat → Prop} {w w' : World} {base : Nat} {e : TypeId} {size : Nat} {v : Value} {n : Nat} {xs : List Value} (h : w.ownsRow base e size v n xs) (c : Chg A w w') (hA : ∀ k, v.ownBlock = some k → ¬ A k) : w'.ownsRow base e size v n xs := by
  refine ⟨h.1, ?_⟩
  rcases h.2 with hn | ⟨g, cap, cur, rfl, hb, hg, h3⟩
  · exact .inl hn
  · have hlt : g < w.heap.size := (h.lt g rfl).2
    exact .inr ⟨g, cap, cur, rfl, hb, (c.block g hlt (hA g rfl)).trans hg, h3⟩
theorem heap_set_same {w : World} {b i : Nat} {cs : Array Value} {T : TypeId} (h : w.heap[b]? = some (.cells cs T)) (v : Value) : (w.setCell ⟨b, i, none⟩ v).heap[b]? = some (.cells (cs.setIfInBounds i v) T) := by
  simp [World.setCell, Array.getElem?_modify, h]
theorem heap_set_other {w : World} {b b' i : Nat} (h : b ≠ b') (v : Value) : (w.setCell ⟨b', i, none⟩ v).heap[b]? = w.heap[b]? := Below.heap_setCell _ _ _ _ h
theorem ptrMap_heap {w w' : World} {P : Program} {k : TypeId} {b n : Nat} {f : Int → Option Nat} (h : w.ptrMap P k b n f) (hb : w'.heap[b]? = w.heap[b]?) : w'.ptrMap P k b n f := by
  obtain ⟨D, ⟨es, clock, h1, h2⟩, h3⟩ := h
  exact ⟨D, ⟨es, clock, hb.trans h1, h2⟩, h3⟩
theorem ptrMap_len {w : World} {P : Program} {k : TypeId} {b n m : Nat} {f : Int → Option Nat} (h : w.ptrMap P k b n f) (e : n = m) : w.ptrMap P k b m f := e ▸ h

def keyI (i : Int) : Prop := (Lit.int .i64 i).wf = true
theorem keyI_of {i : Int} (h1 : -9223372036854775808 ≤ i) (h2 : i ≤ 9223372036854775807) : keyI i := by
  unfold keyI
  simp [Lit.wf, IntKind.min, IntKind.max, IntKind.signed, IntKind.bits]
  omega
theorem keyI.low {i : Int} (h : keyI i) : -9223372036854775808 ≤ i ∧ i ≤ 9223372036854775807 := by
  unfold keyI at h
  simp [Lit.wf, IntKind.min, IntKind.max, IntKind.signed, IntKind.bits] at h
  omega
def entCells (e : Ent) : Array Value := #[.string (B e.x.data), .bool e.x.dirty, .int .i64 ((e.x.pins : Nat) : Int), .int .i64 ((e.u : Nat) : Int)]
def chCells (src : Value) (c : Ch) (clk mb : Nat) : Array Value := #[src, .int .i64 ((c.most : Nat) : Int), .int .i64 ((clk : Nat) : Int), .int .i64 ((c.misses : Nat) : Int), .map (some mb)]
def ownC (cb mb : Nat) (M : List Ent) (k : Nat) : Prop := k = cb ∨ k = mb ∨ ∃ e ∈ M, e.g = k
/-- A cache. -/
structure CAt (w : World) (src : Value) (cb mb clk : Nat) (c : Ch) (M : List Ent) : Prop where
  ok : c.Ok
  list : entL M = c.l
  falls : Falls M clk
  blk : w.heap[cb]? = some (.cells (chCells src c clk mb) 66)
  map : w.ptrMap Try.prog 3 mb M.length (entF M)
  ents : ∀ e ∈ M, w.heap[e.g]? = some (.cells (entCells e) 70)
  ne : cb ≠ mb
  nce : ∀ e ∈ M, e.g ≠ cb ∧ e.g ≠ mb
  apart : (M.map Ent.g).Nodup
  keys : ∀ e ∈ M, keyI e.x.pos
section
variable {w w' : World} {src : Value} {cb mb clk : Nat} {c c' : Ch} {M : List Ent}
theorem CAt.nodup (h : CAt w src cb mb clk c M) : ((entL M).map Kd.pos).Nodup := by rw [h.list]; exact h.ok.apart
theorem CAt.lt (h : CAt w src cb mb clk c M) {k : Nat} (hk : ownC cb mb M k) : k < w.heap.size := by
  rcases hk with rfl | rfl | ⟨e, he, rfl⟩
  · exact (Array.getElem?_eq_some_iff.1 h.blk).1
  · exact h.map.lt
  · exact (Array.getElem?_eq_some_iff.1 (h.ents e he)).1
theorem CAt.keep {A : Nat → Prop} (h : CAt w src cb mb clk c M) (g : Chg A w w') (hA : ∀ k, ownC cb mb M k → ¬ A k) : CAt w' src cb mb clk c M :=
  ⟨h.ok, h.list, h.falls, (g.block _ (h.lt (.inl rfl)) (hA _ (.inl rfl))).trans h.blk, ptrMap_heap h.map (g.block _ (h.lt (.inr (.inl rfl))) (hA _ (.inr (.inl rfl)))),
    fun e he => (g.block _ (h.lt (.inr (.inr ⟨e, he, rfl⟩))) (hA _ (.inr (.inr ⟨e, he, rfl⟩)))).trans (h.ents e he), h.ne, h.nce, h.apart, h.keys⟩
theorem CAt.below (h : CAt w src cb mb clk c M) (g : Below w.heap.size w w') : CAt w' src cb mb clk c M := h.keep (A := fun _ => False) (Chg.of_below g) (fun _ _ h => h)
theorem CAt.len (h : CAt w src cb mb clk c M) : M.length = c.l.length := by rw [← h.list]; simp [entL]
theorem CAt.most (h : CAt w src cb mb clk c M) : M.length ≤ c.most := by rw [h.len]; exact h.ok.many
theorem less_sub {i : Int} {e : Ent} (h : e ∈ entLess M i) : e ∈ M := (List.mem_filter.1 h).1
theorem CAt.self (h : CAt w src cb mb clk c M) {e : Ent} (he : e ∈ M) {d : Ent} (hd : d ∈ M) (hp : d.x.pos = e.x.pos) : d = e := by
  have hn := h.nodup
  unfold entL at hn
  rw [List.map_map] at hn
  clear h
  induction M with
  | nil => simp at he
  | cons a M ih =>
    rw [List.map_cons, List.nodup_cons] at hn
    rcases List.mem_cons.1 he with h1 | h1 <;> rcases List.mem_cons.1 hd with h2 | h2
    · rw [h1, h2]
    · exact absurd (List.mem_map.2 ⟨d, h2, by rw [← h1]; exact hp⟩) hn.1
    · exact absurd (List.mem_map.2 ⟨e, h1, by rw [← h2]; exact hp.symm⟩) hn.1
    · exact ih h1 h2 hn.2
theorem CAt.at (h : CAt w src cb mb clk c M) {e : Ent} (he : e ∈ M) : entAt M e.x.pos = some e := by
  cases hf : entAt M e.x.pos with
  | none =>
    have := entAt_none.1 hf
    rw [has_iff.2 ⟨e.x, (show e.x ∈ entL M from List.mem_map.2 ⟨e, he, rfl⟩), rfl⟩] at this
    cases this
  | some d => rw [h.self he (entAt_some hf).1 (entAt_some hf).2]
theorem g_inj (hn : (M.map Ent.g).Nodup) {e d : Ent} (he : e ∈ M) (hd : d ∈ M) (hg : d.g = e.g) : d = e := by
  induction M with
  | nil => simp at he
  | cons a M ih =>
    rw [List.map_cons, List.nodup_cons] at hn
    rcases List.mem_cons.1 he with h1 | h1 <;> rcases List.mem_cons.1 hd with h2 | h2
    · rw [h1, h2]
    · exact absurd (List.mem_map.2 ⟨d, h2, by rw [← h1]; exact hg⟩) hn.1
    · exact absurd (List.mem_map.2 ⟨e, h1, by rw [← h2]; exact hg.symm⟩) hn.1
    · exact ih hn.2 h1 h2
/-- One that was kept is used: it stands first; it may hold something else. -/
theorem CAt.use (h : CAt w src cb mb clk c M) {i : Int} {e : Ent} (he : entAt M i = some e) (x : Kd) (hx : x.pos = i) (hc' : c' = { c with l := x :: less c.l i })
    (hb : w'.heap[cb]? = some (.cells (chCells src c' (clk + 1) mb) 66)) (hg : w'.heap[e.g]? = some (.cells (entCells ⟨x, e.g, clk + 1⟩) 70))
    (ho : ∀ k, k < w.heap.size → k ≠ cb → k ≠ e.g → w'.heap[k]? = w.heap[k]?) : CAt w' src cb mb (clk + 1) c' (⟨x, e.g, clk + 1⟩ :: entLess M i) := by
  obtain ⟨hem, hep⟩ := entAt_some he
  have hlen := entLess_len h.nodup he
  have hmem : ∀ d ∈ entLess M i, d ∈ M ∧ d.g ≠ e.g := fun d hd => ⟨less_sub hd, fun hg => by
    have := g_inj h.apart hem (less_sub hd) hg
    subst this
    have := (List.mem_filter.1 hd).2
    rw [(eis_iff (i := i) (e := d)).2 hep] at this
    cases this⟩
  have hxl : e.x ∈ c.l := by rw [← h.list]; exact List.mem_map.2 ⟨e, hem, rfl⟩
  refine ⟨?_, ?_, h.falls.front i _ rfl, hb, ?_, ?_, h.ne, ?_, ?_, ?_⟩
  · rw [hc', ← hep]
    exact front_ok h.ok hxl (hx.trans hep.symm) c.misses
  · rw [hc']
    show x :: entL (entLess M i) = _
    rw [entL_less, h.list]
  · refine ptrMap_len (ptrMap_heap (h.map.same fun j => ?_) (ho mb h.map.lt h.ne.symm (h.nce e hem).2.symm)) (by rw [List.length_cons, hlen])
    exact entF_front (e' := ⟨x, e.g, clk + 1⟩) he hx rfl j
  · intro d hd
    rcases List.mem_cons.1 hd with rfl | hd
    · exact hg
    · have := hmem d hd
      rw [ho d.g (h.lt (.inr (.inr ⟨d, this.1, rfl⟩))) (h.nce d this.1).1 this.2]
      exact h.ents d this.1
  · intro d hd
    rcases List.mem_cons.1 hd with rfl | hd
    · exact h.nce e hem
    · exact h.nce d (hmem d hd).1
  · rw [List.map_cons, List.nodup_cons]
    refine ⟨fun hm => ?_, h.apart.sublist (List.filter_sublist.map _)⟩
    obtain ⟨d, hd, hde⟩ := List.mem_map.1 hm
    exact (hmem d hd).2 hde
  · intro d hd
    rcases List.mem_cons.1 hd with rfl | hd
    · show keyI x.pos; rw [hx, ← hep]; exact h.keys e hem
    · exact h.keys d (hmem d hd).1
/-- One more: a new block holds it. -/
theorem CAt.cons (h : CAt w src cb mb clk c M) (hl : c.l.length < c.most) {i : Int} (hi : hasL c.l i = false) (hk : keyI i) (x : Kd) (hx : x.pos = i) (g : Nat) (hc' : c'.l = x :: c.l ∧ c'.most = c.most) (hgn : w.heap.size ≤ g)
    (hb : w'.heap[cb]? = some (.cells (chCells src c' (clk + 1) mb) 66)) (hg : w'.heap[g]? = some (.cells (entCells ⟨x, g, clk + 1⟩) 70))
    (hm : w'.ptrMap Try.prog 3 mb (M.length + 1) (fun j => if j = i then some g else entF M j))
    (ho : ∀ k, k < w.heap.size → k ≠ cb → k ≠ mb → w'.heap[k]? = w.heap[k]?) : CAt w' src cb mb (clk + 1) c' (⟨x, g, clk + 1⟩ :: M) := by
  have hne : ∀ k, ownC cb mb M k → k ≠ g := fun k hk => by have := h.lt hk; omega
  refine ⟨?_, ?_, h.falls.cons _ rfl, hb, ?_, ?_, h.ne, ?_, ?_, ?_⟩
  · obtain ⟨l', m', k'⟩ := c'
    obtain ⟨h1, h2⟩ := hc'
    simp only at h1 h2
    subst h1 h2
    exact cons_ok h.ok hl (List.Sublist.refl _) x (by rw [hx]; exact not_has hi) k'
  · rw [hc'.1]; show x :: entL M = _; rw [h.list]
  · refine ptrMap_len (hm.same fun j => ?_) rfl
    rw [entF_cons]
    show (if j = x.pos then some g else entF M j) = _
    rw [hx]
  · intro d hd
    rcases List.mem_cons.1 hd with rfl | hd
    · exact hg
    · rw [ho d.g (h.lt (.inr (.inr ⟨d, hd, rfl⟩))) (h.nce d hd).1 (h.nce d hd).2]
      exact h.ents d hd
  · intro d hd
    rcases List.mem_cons.1 hd with rfl | hd
    · exact ⟨(hne _ (.inl rfl)).symm, (hne _ (.inr (.inl rfl))).symm⟩
    · exact h.nce d hd
  · rw [List.map_cons, List.nodup_cons]
    refine ⟨fun hm => ?_, h.apart⟩
    obtain ⟨d, hd, hde⟩ := List.mem_map.1 hm
    exact hne d.g (.inr (.inr ⟨d, hd, rfl⟩)) hde
  · intro d hd
    rcases List.mem_cons.1 hd with rfl | hd
    · show keyI x.pos; rw [hx]; exact hk
    · exact h.keys d hd
/-- One is taken out. -/
theorem CAt.less (h : CAt w src cb mb clk c M) {e : Ent} (hem : e ∈ M) (hm : w'.ptrMap Try.prog 3 mb (M.length - 1) (fun j => if j = e.x.pos then none else entF M j))
    (ho : ∀ k, ownC cb mb M k → k ≠ mb → w'.heap[k]? = w.heap[k]?) : CAt w' src cb mb clk { c with l := less c.l e.x.pos } (entLess M e.x.pos) := by
  have hlen := entLess_len h.nodup (h.at hem)
  refine ⟨⟨h.ok.one, Nat.le_trans (List.length_filter_le _ _) h.ok.many, apart_less h.ok.apart _⟩, by rw [entL_less, h.list], h.falls.less _, ?_, ?_, ?_, h.ne, fun d hd => h.nce d (less_sub hd), h.apart.sublist (List.filter_sublist.map _), fun d hd => h.keys d (less_sub hd)⟩
  · rw [ho cb (.inl rfl) h.ne]; exact h.blk
  · refine ptrMap_len (hm.same fun j => entF_less M e.x.pos j) (by omega)
  · intro d hd
    rw [ho d.g (.inr (.inr ⟨d, less_sub hd, rfl⟩)) (h.nce d (less_sub hd)).2]
    exact h.ents d (less_sub hd)
/-- Entries hold something else; where they stand is as it was. -/
theorem CAt.turn (h : CAt w src cb mb clk c M) (f : Kd → Kd) (hf : ∀ x, (f x).pos = x.pos)
    (hg : ∀ e ∈ M, w'.heap[e.g]? = some (.cells (entCells ⟨f e.x, e.g, e.u⟩) 70))
    (ho : ∀ k, k < w.heap.size → (∀ e ∈ M, k ≠ e.g) → w'.heap[k]? = w.heap[k]?) : CAt w' src cb mb clk { c with l := c.l.map f } (M.map fun e => ⟨f e.x, e.g, e.u⟩) := by
  refine ⟨turn_ok h.ok hf, ?_, h.falls.map (fun _ => rfl), ?_, ?_, ?_, h.ne, ?_, ?_, ?_⟩
  · unfold entL
    rw [List.map_map, ← h.list]
    unfold entL
    rw [List.map_map]
    rfl
  · rw [ho cb (h.lt (.inl rfl)) (fun e he => ((h.nce e he).1).symm)]; exact h.blk
  · refine ptrMap_len (ptrMap_heap (h.map.same fun j => ?_) (ho mb h.map.lt (fun e he => ((h.nce e he).2).symm))) (by simp)
    exact entF_map M (fun e => ⟨f e.x, e.g, e.u⟩) (fun e => hf e.x) (fun _ => rfl) j
  · intro d hd
    obtain ⟨e, he, rfl⟩ := List.mem_map.1 hd
    exact hg e he
  · intro d hd
    obtain ⟨e, he, rfl⟩ := List.mem_map.1 hd
    exact h.nce e he
  · rw [List.map_map]; exact h.apart
  · intro d hd
    obtain ⟨e, he, rfl⟩ := List.mem_map.1 hd
    show keyI (f e.x).pos
    rw [hf]; exact h.keys e he
end
/-- What a call makes of a cache: its own blocks alone have changed. -/
def MutC (w w' : World) (src : Value) (cb mb clk' : Nat) (M : List Ent) (c' : Ch) : Prop := ∃ M', CAt w' src cb mb clk' c' M' ∧ (∀ k, ownC cb mb M' k → ownC cb mb M k ∨ w.heap.size ≤ k) ∧ Chg (ownC cb mb M) w w'
end Go.Proofs.Ytikkdhfbihejbaa
