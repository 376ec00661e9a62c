/- Chapter 6: codexref6's take and first. Condition: at most 100000 blocks. -/
import Derived.Test.YtikkdhfbihejbaaCchS
import Derived.Deep.RegionLaw
namespace Go.Proofs.Ytikkdhfbihejbaa
open Go.RowKit Go.Cch
attribute [local go_sem] Oper.semAt_some

theorem mut_of_store {w W' : World} {K rb : Nat} {v v7 : Value} {c c' : Ch} (h : RAt w K rb v c) (hK : K ≤ w.heap.size)
    (hrb : W'.heap[rb]? = some (.cells #[v7, .int .i64 ((c'.most : Nat) : Int), .int .i64 ((c'.misses : Nat) : Int)] 53))
    (hown : W'.ownsRow w.heap.size 57 4 v7 c'.l.length (kdCells c'.l)) (hchg : Chg (fun k => k = rb) w W') : MutR w W' K rb v c' := by
  have hlt := h.lt (.inl rfl)
  refine ⟨v7, ⟨hrb, own_base hown hK, fun e => ?_, h.low⟩, fun k hk => ?_, hchg.mono (fun k _ hk => .inl hk)⟩
  · have := (hown.lt rb e).1; omega
  · rcases hk with rfl | hk
    · exact .inl (.inl rfl)
    · exact .inr (hown.lt k hk).1
theorem hr_new {W w : World} {b : Nat} {v : Value} (h : Below W.heap.size W w ∧ w.cell? ⟨b, 0, none⟩ = some v ∧ w.frozen? ⟨b, 0, none⟩ = false) (hb : b < W.heap.size) (o : Obj) : Below W.heap.size W (w.alloc o) ∧ (w.alloc o).cell? ⟨b, 0, none⟩ = some v ∧ (w.alloc o).frozen? ⟨b, 0, none⟩ = false := by
  refine ⟨step_new h.1 o, cell_alloc o h.2.1, ?_⟩
  rw [← h.2.2]
  exact World.frozen?_of_block (a := ⟨b, 0, none⟩) (heap_alloc_old w o (Nat.lt_of_lt_of_le hb h.1.size))
theorem hr_drew {w : World} {b : Nat} {v : Value} (h : w.cell? ⟨b, 0, none⟩ = some v) (hf : w.frozen? ⟨b, 0, none⟩ = false) : Below w.heap.size w w.drew ∧ w.drew.cell? ⟨b, 0, none⟩ = some v ∧ w.drew.frozen? ⟨b, 0, none⟩ = false := ⟨below_drew w, h, hf⟩
theorem hr_grown {W w w' : World} {b : Nat} {v : Value} {row : Option Nat} (h : Below W.heap.size W w ∧ w.cell? ⟨b, 0, none⟩ = some v ∧ w.frozen? ⟨b, 0, none⟩ = false) (hg : w.grownBy w' row) (hr : ∀ k, row = some k → W.heap.size ≤ k) (hb : b < W.heap.size) :
    Below W.heap.size W w' ∧ w'.cell? ⟨b, 0, none⟩ = some v ∧ w'.frozen? ⟨b, 0, none⟩ = false := by
  have hlt : b < w.heap.size := Nat.lt_of_lt_of_le hb h.1.size
  have hne : some b ≠ row := fun e => by have := hr b e.symm; omega
  refine ⟨h.1.grown hg h.1.size hr, (hg.cell_far ⟨b, 0, none⟩ hlt hne).trans h.2.1, ?_⟩
  rw [← h.2.2]
  exact World.frozen?_of_block (a := ⟨b, 0, none⟩) (hg.block b hlt hne)
/-- A part of a row of blocks, read later. -/
theorem kd_take_news {w : World} {base g cap : Nat} {o : List Kd} (h : w.ownsRow base 57 4 (.slice (some ⟨g, 0, none⟩) o.length cap) o.length (kdCells o)) (j : Nat) :
    ∀ W', Below w.heap.size w W' → ∀ ad, some (⟨g, 0, none⟩ : Addr) = some ad → ∀ i u, (kdCells (o.take j))[i]? = some u → W'.cell? (ad.add i) = some u := by
  rintro W' hb ad e i u hu
  cases e
  have hg := (h.lt g rfl).2
  have e1 : (⟨g, 0, none⟩ : Addr).add i = ⟨g, i, none⟩ := by unfold Addr.add; split <;> simp_all
  rw [e1]
  refine cell_below hb hg ?_
  have hsplit : kdCells o = kdCells (o.take j) ++ kdCells (o.drop j) := by rw [kdCells, kdCells, kdCells, ← List.flatMap_append, List.take_append_drop]
  have := h.cells (g := g) rfl i u (by
    rw [hsplit, List.getElem?_append_left (List.getElem?_eq_some_iff.1 hu).1]
    exact hu)
  rwa [e1] at this
theorem kd_drop_news {w : World} {base g cap : Nat} {o : List Kd} (h : w.ownsRow base 57 4 (.slice (some ⟨g, 0, none⟩) o.length cap) o.length (kdCells o)) (j : Nat) (hj : j ≤ o.length) :
    ∀ W', Below w.heap.size w W' → ∀ ad, some (⟨g, j * 4, none⟩ : Addr) = some ad → ∀ i u, (kdCells (o.drop j))[i]? = some u → W'.cell? (ad.add i) = some u := by
  rintro W' hb ad e i u hu
  cases e
  have hg := (h.lt g rfl).2
  have e1 : (⟨g, j * 4, none⟩ : Addr).add i = ⟨g, j * 4 + i, none⟩ := by unfold Addr.add; split <;> simp_all
  have e2 : (⟨g, 0, none⟩ : Addr).add (j * 4 + i) = ⟨g, j * 4 + i, none⟩ := by unfold Addr.add; split <;> simp_all
  rw [e1]
  refine cell_below hb hg ?_
  have hsplit : kdCells o = kdCells (o.take j) ++ kdCells (o.drop j) := by rw [kdCells, kdCells, kdCells, ← List.flatMap_append, List.take_append_drop]
  have hl : (kdCells (o.take j)).length = j * 4 := by rw [kdCells, flat_len kdC_len, List.length_take]; congr 1; omega
  have := h.cells (g := g) rfl (j * 4 + i) u (by
    rw [hsplit, List.getElem?_append_right (by omega), hl, show j * 4 + i - j * 4 = i by omega]
    exact hu)
  rwa [e2] at this
/-- What a region that ends in a store of the new row leaves. -/
theorem row_end {w wq w6 W : World} {K rb n : Nat} {v v6 : Value} {c c' : Ch} {xs : List Value} (h : RAt w K rb v c) (hK : K ≤ w.heap.size) (hRq : RAt wq K rb v c) (hq : Chg (fun k => k = rb) w wq) (hb6 : Below wq.heap.size wq w6) (hz : w.heap.size < wq.heap.size)
    (hown : w6.ownsRow wq.heap.size 57 4 v6 n xs) (hn : n = c'.l.length) (hx : xs = kdCells c'.l) (hm : c'.most = c.most ∧ c'.misses = c.misses) (hW : Chg (fun k => w.heap.size ≤ k ∧ k < wq.heap.size) (w6.setCell ⟨rb, 0, none⟩ v6) W) : MutR w W K rb v c' := by
  have hlt := h.lt (.inl rfl)
  have hs6 := hb6.size
  have h6 : w6.heap[rb]? = some (.cells #[v, .int .i64 ((c.most : Nat) : Int), .int .i64 ((c.misses : Nat) : Int)] 53) := (hb6.block rb (by omega)).trans hRq.blk
  have hsz : (w6.setCell ⟨rb, 0, none⟩ v6).heap.size = w6.heap.size := by simp [World.setCell]
  subst hn hx
  refine mut_of_store (v7 := v6) h hK ?_ ?_ ?_
  · rw [hW.block rb (by omega) (by omega), heap_set_same h6, hm.1, hm.2]; rfl
  · have h1 : (w6.setCell ⟨rb, 0, none⟩ v6).ownsRow w.heap.size 57 4 v6 c'.l.length (kdCells c'.l) := own_base (own_chg hown ((Chg.refl (fun k => k = rb) w6).set _ _ _ (fun _ => rfl)) (fun k hk e => by have := (hown.lt k hk).1; omega)) hq.size
    exact own_chg h1 hW (fun k hk e => by have := (hown.lt k hk).1; omega)
  · refine (hq.trans (A' := fun k => k = rb) (w2 := w6.setCell ⟨rb, 0, none⟩ v6) ((Chg.of_below (A := fun k => k = rb) hb6).set _ _ _ (fun _ => rfl)) (fun _ _ h => h)).trans hW (fun k hk hk2 => by omega)
/-- A new block of four cells, read and written. -/
theorem new4 {W : World} {b : Nat} {x0 x1 x2 x3 : Value} {ty : TypeId} (h : W.heap[b]? = some (.cells #[x0, x1, x2, x3] ty)) : W.cell? ⟨b, 0, none⟩ = some x0 ∧ W.cell? ⟨b, 1, none⟩ = some x1 ∧ W.cell? ⟨b, 2, none⟩ = some x2 ∧ W.cell? ⟨b, 3, none⟩ = some x3 ∧ W.frozen? ⟨b, 0, none⟩ = false ∧ W.frozen? ⟨b, 1, none⟩ = false ∧ W.frozen? ⟨b, 2, none⟩ = false ∧ W.frozen? ⟨b, 3, none⟩ = false := by
  refine ⟨?_, ?_, ?_, ?_, Lib.frozen_of_heap h _, Lib.frozen_of_heap h _, Lib.frozen_of_heap h _, Lib.frozen_of_heap h _⟩ <;> (rw [Lib.cell_of_heap h]; rfl)
theorem heap_set4 {W : World} {b : Nat} {x0 x1 x2 x3 : Value} (y0 y1 y2 y3 : Value) {ty : TypeId} (h : W.heap[b]? = some (.cells #[x0, x1, x2, x3] ty)) :
    ((((W.setCell ⟨b, 0, none⟩ y0).setCell ⟨b, 1, none⟩ y1).setCell ⟨b, 2, none⟩ y2).setCell ⟨b, 3, none⟩ y3).heap[b]? = some (.cells #[y0, y1, y2, y3] ty) := by
  rw [heap_set_same (heap_set_same (heap_set_same (heap_set_same h _) _) _) _]; rfl
def kdV (x : Kd) : Value := .agg #[.int .i64 x.pos, .string (B x.data), .bool x.dirty, .int .i64 ((x.pins : Nat) : Int)]
set_option maxRecDepth 100000 in
set_option maxHeartbeats 6400000 in
theorem ref_take {w : World} {K rb : Nat} {v : Value} {c : Ch} (h : RAt w K rb v c) (hK : K ≤ w.heap.size) (k : Nat) (hk : k < c.l.length) (hl : c.l.length ≤ 100000) :
    Calls Try.prog 49 #[.pointer (some ⟨rb, 0, none⟩), .int .i64 ((k : Nat) : Int)] w fun e w' => e = .returned (kdV c.l[k]) ∧ MutR w w' K rb v { c with l := c.l.take k ++ c.l.drop (k + 1) } := by
  obtain ⟨i0, hi, hz0, hz1, hz2⟩ := info_parts Try.info_kd6
  obtain ⟨oa, cp, rfl⟩ := h.form
  have hrow := h.row
  have hrb := h.lt (.inl rfl)
  obtain ⟨g, rfl, -, e0, e1, e2, e3⟩ := h.at hk
  have hcp : c.l.length ≤ cp := by
    rcases hrow.2 with ⟨h0, _⟩ | ⟨g', cap, cur, h0, _, _, h1, _⟩
    · simp at h0
    · simp only [Value.slice.injEq] at h0; omega
  have hchg0 : Chg (fun k => k = rb) w ((w.alloc (.cells #[.int .i64 0, .string ⟨#[]⟩, .bool false, .int .i64 0] 57)).alloc (.cells #[.int .i64 c.l[k].pos, .string (B c.l[k].data), .bool c.l[k].dirty, .int .i64 ((c.l[k].pins : Nat) : Int)] 57)) := ((Chg.refl _ w).new _).new _
  have hz : ((w.alloc (.cells #[.int .i64 0, .string ⟨#[]⟩, .bool false, .int .i64 0] 57)).alloc (.cells #[.int .i64 c.l[k].pos, .string (B c.l[k].data), .bool c.l[k].dirty, .int .i64 ((c.l[k].pins : Nat) : Int)] 57)).heap.size = w.heap.size + 2 := by simp
  have hk1 : ((w.alloc (.cells #[.int .i64 0, .string ⟨#[]⟩, .bool false, .int .i64 0] 57)).alloc (.cells #[.int .i64 c.l[k].pos, .string (B c.l[k].data), .bool c.l[k].dirty, .int .i64 ((c.l[k].pins : Nat) : Int)] 57)).heap[w.heap.size + 1]? = some (.cells #[.int .i64 c.l[k].pos, .string (B c.l[k].data), .bool c.l[k].dirty, .int .i64 ((c.l[k].pins : Nat) : Int)] 57) := by
    have := heap_alloc_new (w.alloc (.cells #[.int .i64 0, .string ⟨#[]⟩, .bool false, .int .i64 0] 57)) (.cells #[.int .i64 c.l[k].pos, .string (B c.l[k].data), .bool c.l[k].dirty, .int .i64 ((c.l[k].pins : Nat) : Int)] 57)
    rwa [World.size_alloc] at this
  have hk0 : ((w.alloc (.cells #[.int .i64 0, .string ⟨#[]⟩, .bool false, .int .i64 0] 57)).alloc (.cells #[.int .i64 c.l[k].pos, .string (B c.l[k].data), .bool c.l[k].dirty, .int .i64 ((c.l[k].pins : Nat) : Int)] 57)).heap[w.heap.size]? = some (.cells #[.int .i64 0, .string ⟨#[]⟩, .bool false, .int .i64 0] 57) :=
    (heap_alloc_old _ _ (by simp)).trans (heap_alloc_new w _)
  have H := Lib.hid h
  have hR1 := h.below ((step_new (step_new (Below.refl w.heap.size w) (.cells #[.int .i64 0, .string ⟨#[]⟩, .bool false, .int .i64 0] 57)) (.cells #[.int .i64 c.l[k].pos, .string (B c.l[k].data), .bool c.l[k].dirty, .int .i64 ((c.l[k].pins : Nat) : Int)] 57)))
  obtain ⟨c0, -, -, -, -⟩ := h.cells
  obtain ⟨d0, -, -, df0, -⟩ := hR1.cells
  have c0a := cell_alloc (.cells #[.int .i64 0, .string ⟨#[]⟩, .bool false, .int .i64 0] 57) c0
  have e0a := cell_alloc (.cells #[.int .i64 0, .string ⟨#[]⟩, .bool false, .int .i64 0] 57) e0
  have e1a := cell_alloc (.cells #[.int .i64 0, .string ⟨#[]⟩, .bool false, .int .i64 0] 57) e1
  have e2a := cell_alloc (.cells #[.int .i64 0, .string ⟨#[]⟩, .bool false, .int .i64 0] 57) e2
  have e3a := cell_alloc (.cells #[.int .i64 0, .string ⟨#[]⟩, .bool false, .int .i64 0] 57) e3
  have HR1 := Lib.hid hR1
  have Hrow := Lib.hid hR1.row
  have Hchg := Lib.hid hchg0
  have Hk0 := Lib.hid hk0
  have Hk1 := Lib.hid hk1
  clear h hR1 hrow hchg0 hk0 hk1
  go_enter Try.func49, Try.ntmps49
  go_wp2
  generalize (w.alloc (.cells #[.int .i64 0, .string ⟨#[]⟩, .bool false, .int .i64 0] 57)).alloc (.cells #[.int .i64 c.l[k].pos, .string (B c.l[k].data), .bool c.l[k].dirty, .int .i64 ((c.l[k].pins : Nat) : Int)] 57) = wq at *
  have hw : IntKind.i64.wrap ((k : Int) + 1) = (k : Int) + 1 := by rw [IntKind.wrap_i64]; omega
  have hw0 : (0 : Int) ≤ (k : Int) + 1 := by omega
  have hw1 : (k : Int) + 1 ≤ (c.l.length : Int) := by omega
  have HnT := Lib.hid (kd_take_news Hrow.out k)
  have HnD := Lib.hid (kd_drop_news Hrow.out (k + 1) (by omega))
  have Hlt1 : Hid ((kdCells (c.l.take k)).length = k * 4) := Lib.hid <| by rw [kdCells, flat_len kdC_len, List.length_take]; congr 1; omega
  have Hld1 : Hid ((kdCells (c.l.drop (k + 1))).length = (c.l.length - (k + 1)) * 4) := Lib.hid <| by rw [kdCells, flat_len kdC_len, List.length_drop]
  have d0x : (wq.alloc (.cells #[] 57)).cell? ⟨rb, 0, none⟩ = some (.slice (some ⟨g, 0, none⟩) c.l.length cp) := cell_alloc _ d0
  have d0y : wq.drew.cell? ⟨rb, 0, none⟩ = some (.slice (some ⟨g, 0, none⟩) c.l.length cp) := d0
  clear c0 c0a e0 e1 e2 e3 e0a e1a e2a e3a
  by_cases hcap : k + 1 < cp
  · have hkcp : k ≤ cp := by omega
    have hcne : ¬ cp = k + 1 := by omega
    go_region_law (first
      | (refine step_append_any _ (by rfl) _ _ _ (by rfl) wq.heap.size 57 i0 _ 4 40 Try.underlying51 hi hz0 hz1 hz2 rfl (by decide) (.slice (some ⟨w.heap.size + 2, 0, none⟩) 0 0) 0 [] (by rfl) (own_nil_new _ 4 (by rw [← hz]; exact heap_alloc_new wq _) (by omega)) (some ⟨g, 0, none⟩) k cp (kdCells (c.l.take k)) (by rfl) Hlt1.out (fun h => (by cases h)) (HnT.out _ (by first | exact step_new (Below.refl _ wq) _ | exact step_new (below_to_drew (Below.refl _ wq)) _)) (kd_one _) (by unfold maxLen; omega) (by omega) (by first | omega | (simp; done) | (simp; omega)) ?_
         intro v5 w5 hown5 hgrow5 _
         have hb5 : Below wq.heap.size wq w5 := Below.grown (by first | exact step_new (Below.refl _ wq) _ | exact step_new (below_to_drew (Below.refl _ wq)) _) hgrow5 (by first | (simp; done) | (simp; omega)) (fun j e => (by simp [Value.ownBlock] at e; omega))
         have hown5 : w5.ownsRow wq.heap.size 57 4 v5 k (kdCells (c.l.take k)) := (by simpa using hown5)
         have hz5 := hb5.size
         have d5 := cell_call hb5 d0
         have df5 : w5.frozen? ⟨rb, 0, none⟩ = false := (World.frozen?_of_block (a := ⟨rb, 0, none⟩) (hb5.block rb (by omega))).trans df0
         have Hb5 := Lib.hid hb5
         have Hown5 := Lib.hid hown5
         clear hb5 hown5 hgrow5)
      | (refine step_append_any _ (by rfl) _ _ _ (by rfl) wq.heap.size 57 i0 _ 4 40 Try.underlying51 hi hz0 hz1 hz2 rfl (by decide) v5 k (kdCells (c.l.take k)) (by rfl) Hown5.out (some ⟨g, (k + 1) * 4, none⟩) (c.l.length - (k + 1)) (cp - (k + 1)) (kdCells (c.l.drop (k + 1))) (by rfl) Hld1.out (fun h => (by cases h)) (HnD.out _ Hb5.out) (kd_one _) (by unfold maxLen; omega) (by omega) (by first | omega | (simp; done) | (simp; omega)) ?_
         intro v6 w6 hown6 hgrow6 _
         obtain ⟨oa6, cp6, rfl⟩ := own_form hown6
         have hb6 : Below wq.heap.size wq w6 := Hb5.out.grown hgrow6 (by omega) (fun j e => (Hown5.out.lt j e).1)
         have d6 := cell_call hb6 d0
         have df6 : w6.frozen? ⟨rb, 0, none⟩ = false := (World.frozen?_of_block (a := ⟨rb, 0, none⟩) (hb6.block rb (by omega))).trans df0
         have Hb6 := Lib.hid hb6
         have Hown6 := Lib.hid hown6
         clear hb6 hown6 hgrow6))
    all_goals
      have hsz6 := Hb6.out.size
      obtain ⟨x0, x1, x2, x3, -, -, -, -⟩ := new4 ((heap_set_other (i := 0) (show w.heap.size + 1 ≠ rb by omega) (.slice oa6 (k + (c.l.length - (k + 1))) cp6)).trans ((Hb6.out.block (w.heap.size + 1) (by omega)).trans Hk1.out))
      have Hn0 := Lib.hid ((heap_set_other (i := 0) (show w.heap.size ≠ rb by omega) (.slice oa6 (k + (c.l.length - (k + 1))) cp6)).trans ((Hb6.out.block w.heap.size (by omega)).trans Hk0.out))
      obtain ⟨y0, y1, y2, y3, f0, f1, f2, f3⟩ := new4 Hn0.out
      have Hend := Lib.hid (fun W hW => row_end (W := W) (c' := { c with l := c.l.take k ++ c.l.drop (k + 1) }) H.out hK HR1.out Hchg.out Hb6.out (by omega) Hown6.out (by rw [List.length_append, List.length_take, List.length_drop]; omega) (by rw [kdCells, kdCells, kdCells, ← List.flatMap_append]) ⟨rfl, rfl⟩ hW)
      generalize w6.setCell ⟨rb, 0, none⟩ (.slice oa6 (k + (c.l.length - (k + 1))) cp6) = W7 at *
      go_wp2
      refine bodyPost_ret_by (results_cell_row rfl _ _ w.heap.size _ _ _ _ (by rfl) (heap_set4 _ _ _ _ Hn0.out) Try.underlying57 rfl (by kernel_rfl)) rfl ⟨rfl, Hend.out _ ?_⟩
      exact ((((Chg.refl _ W7).set _ _ _ (fun _ => ⟨Nat.le_refl _, by omega⟩)).set _ _ _ (fun _ => ⟨Nat.le_refl _, by omega⟩)).set _ _ _ (fun _ => ⟨Nat.le_refl _, by omega⟩)).set _ _ _ (fun _ => ⟨Nat.le_refl _, by omega⟩)
  · obtain rfl : cp = k + 1 := by omega
    have hkcp : (k : Int) ≤ (k : Int) + 1 := by omega
    go_region_law (first
      | (refine step_append_any _ (by rfl) _ _ _ (by rfl) wq.heap.size 57 i0 _ 4 40 Try.underlying51 hi hz0 hz1 hz2 rfl (by decide) (.slice (some ⟨w.heap.size + 2, 0, none⟩) 0 0) 0 [] (by rfl) (own_nil_new _ 4 (by rw [← hz]; exact heap_alloc_new wq _) (by omega)) (some ⟨g, 0, none⟩) k (k + 1) (kdCells (c.l.take k)) (by rfl) Hlt1.out (fun h => (by cases h)) (HnT.out _ (by first | exact step_new (Below.refl _ wq) _ | exact step_new (below_to_drew (Below.refl _ wq)) _)) (kd_one _) (by unfold maxLen; omega) (by omega) (by first | omega | (simp; done) | (simp; omega)) ?_
         intro v5 w5 hown5 hgrow5 _
         have hb5 : Below wq.heap.size wq w5 := Below.grown (by first | exact step_new (Below.refl _ wq) _ | exact step_new (below_to_drew (Below.refl _ wq)) _) hgrow5 (by first | (simp; done) | (simp; omega)) (fun j e => (by simp [Value.ownBlock] at e; omega))
         have hown5 : w5.ownsRow wq.heap.size 57 4 v5 k (kdCells (c.l.take k)) := (by simpa using hown5)
         have hz5 := hb5.size
         have d5 := cell_call hb5 d0
         have df5 : w5.frozen? ⟨rb, 0, none⟩ = false := (World.frozen?_of_block (a := ⟨rb, 0, none⟩) (hb5.block rb (by omega))).trans df0
         have Hb5 := Lib.hid hb5
         have Hown5 := Lib.hid hown5
         clear hb5 hown5 hgrow5)
      | (refine step_append_any _ (by rfl) _ _ _ (by rfl) wq.heap.size 57 i0 _ 4 40 Try.underlying51 hi hz0 hz1 hz2 rfl (by decide) v5 k (kdCells (c.l.take k)) (by rfl) Hown5.out (some ⟨g, 0, none⟩) 0 0 (kdCells (c.l.drop (k + 1))) (by rfl) (by rw [Hld1.out]; omega) (fun h => (by cases h)) (fun ad e i u hu => (by rw [List.drop_eq_nil_of_le (by omega)] at hu; simp at hu)) (kd_one _) (by unfold maxLen; omega) (by omega) (by first | omega | (simp; done) | (simp; omega)) ?_
         intro v6 w6 hown6 hgrow6 _
         rw [Nat.add_zero] at hown6
         obtain ⟨oa6, cp6, rfl⟩ := own_form hown6
         have hb6 : Below wq.heap.size wq w6 := Hb5.out.grown hgrow6 (by omega) (fun j e => (Hown5.out.lt j e).1)
         have d6 := cell_call hb6 d0
         have df6 : w6.frozen? ⟨rb, 0, none⟩ = false := (World.frozen?_of_block (a := ⟨rb, 0, none⟩) (hb6.block rb (by omega))).trans df0
         have Hb6 := Lib.hid hb6
         have Hown6 := Lib.hid hown6
         clear hb6 hown6 hgrow6))
    all_goals
      have hsz6 := Hb6.out.size
      obtain ⟨x0, x1, x2, x3, -, -, -, -⟩ := new4 ((heap_set_other (i := 0) (show w.heap.size + 1 ≠ rb by omega) (.slice oa6 k cp6)).trans ((Hb6.out.block (w.heap.size + 1) (by omega)).trans Hk1.out))
      have Hn0 := Lib.hid ((heap_set_other (i := 0) (show w.heap.size ≠ rb by omega) (.slice oa6 k cp6)).trans ((Hb6.out.block w.heap.size (by omega)).trans Hk0.out))
      obtain ⟨y0, y1, y2, y3, f0, f1, f2, f3⟩ := new4 Hn0.out
      have Hend := Lib.hid (fun W hW => row_end (W := W) (c' := { c with l := c.l.take k ++ c.l.drop (k + 1) }) H.out hK HR1.out Hchg.out Hb6.out (by omega) Hown6.out (by rw [List.length_append, List.length_take, List.length_drop]; omega) (by rw [kdCells, kdCells, kdCells, ← List.flatMap_append]) ⟨rfl, rfl⟩ hW)
      generalize w6.setCell ⟨rb, 0, none⟩ (.slice oa6 k cp6) = W7 at *
      go_wp2
      refine bodyPost_ret_by (results_cell_row rfl _ _ w.heap.size _ _ _ _ (by rfl) (heap_set4 _ _ _ _ Hn0.out) Try.underlying57 rfl (by kernel_rfl)) rfl ⟨rfl, Hend.out _ ?_⟩
      exact ((((Chg.refl _ W7).set _ _ _ (fun _ => ⟨Nat.le_refl _, by omega⟩)).set _ _ _ (fun _ => ⟨Nat.le_refl _, by omega⟩)).set _ _ _ (fun _ => ⟨Nat.le_refl _, by omega⟩)).set _ _ _ (fun _ => ⟨Nat.le_refl _, by omega⟩)
end Go.Proofs.Ytikkdhfbihejbaa
