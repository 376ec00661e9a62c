/- Chapter 8: a list of files that a call of its own makes. No conditions. -/
import Derived.Test.YteemloillnfaeaaDoorInoN
namespace Go.Proofs.YteemloillnfaeaaDoor
open Go.RowKit Go.Wir Go.Ino

abbrev FV := Fil × Value
def filCells (ps : List FV) : List Value := ps.flatMap fun p => [.string (B p.1.name), .bool p.1.shut, .int .i64 p.1.size, p.2]
theorem filCells_append (a b : List FV) : filCells (a ++ b) = filCells a ++ filCells b := by simp [filCells]
theorem filCells_length (l : List FV) : (filCells l).length = l.length * 4 := by
  unfold filCells
  induction l with
  | nil => rfl
  | cons x l ih => simp [ih]; omega
theorem filCells_get (es : List FV) (i : Nat) (h : i < es.length) : (filCells es)[i * 4]? = some (.string (B es[i].1.name)) ∧ (filCells es)[i * 4 + 1]? = some (.bool es[i].1.shut) ∧ (filCells es)[i * 4 + 2]? = some (.int .i64 es[i].1.size) ∧ (filCells es)[i * 4 + 3]? = some es[i].2 := by
  unfold filCells
  induction es generalizing i with
  | nil => simp at h
  | cons e es ih =>
    cases i with
    | zero => simp
    | succ i =>
      have := ih i (by simpa using h)
      simp only [List.flatMap_cons, List.getElem_cons_succ]
      rw [show (i + 1) * 4 = i * 4 + 4 by omega]
      simpa using this
theorem Exts.one {w : World} {v : Value} {xs : List Ext} (h : Exts w v xs) : v.oneCell' = true := by
  obtain ⟨oa, c, rfl, _⟩ := h; rfl
theorem filCells_one {w : World} {l : List FV} (h : ∀ p ∈ l, Exts w p.2 p.1.ext) : ∀ u ∈ filCells l, u.oneCell' = true := by
  intro u hu
  unfold filCells at hu
  obtain ⟨x, hx, hx2⟩ := List.mem_flatMap.1 hu
  simp at hx2
  rcases hx2 with rfl | rfl | rfl | rfl
  · rfl
  · rfl
  · rfl
  · exact (h x hx).one
theorem Exts.chg {A : Nat → Prop} {w w' : World} {v : Value} {xs : List Ext} (h : Exts w v xs) (c : Chg A w w') (hA : ∀ g, v.ownBlock = some g → ¬ A g) : Exts w' v xs := by
  obtain ⟨oa, cp, rfl, h0, hc⟩ := h
  refine ⟨oa, cp, rfl, h0, fun i hi => ?_⟩
  obtain ⟨b, off, rfl, hb, c1, c2⟩ := hc i hi
  exact ⟨b, off, rfl, Nat.lt_of_lt_of_le hb c.size, cell_chg c (hA b rfl) c1, cell_chg c (hA b rfl) c2⟩
theorem Exts.grown {w w' : World} {v : Value} {xs : List Ext} {row : Option Nat} (h : Exts w v xs) (c : w.grownBy w' row) (hA : ∀ g, v.ownBlock = some g → row ≠ some g) : Exts w' v xs :=
  h.chg (A := fun k => row = some k) ⟨c.os, c.tape, c.output, c.size, fun k hk hk2 => c.block k hk (fun e => hk2 e.symm)⟩ hA
/-- The list so far: its row, the extents' rows, all of the call's own. -/
structure Acc (T : TypeId) (base : Nat) (w : World) (v : Value) (ps : List FV) : Prop where
  own : w.ownsRow base T 4 v ps.length (filCells ps)
  ext : ∀ p ∈ ps, Exts w p.2 p.1.ext
  low : ∀ p ∈ ps, ∀ g, p.2.ownBlock = some g → base ≤ g ∧ g < w.heap.size ∧ v.ownBlock ≠ some g
theorem Acc.nil (T : TypeId) (base : Nat) (w : World) : Acc T base w (.slice none 0 0) [] := ⟨World.ownsRow_nil _ _ _ _, fun _ h => (by cases h), fun _ h => (by cases h)⟩
theorem Acc.chg {A : Nat → Prop} {T : TypeId} {base : Nat} {w w' : World} {v : Value} {ps : List FV} (h : Acc T base w v ps) (c : Chg A w w') (hA : ∀ g, base ≤ g → ¬ A g) : Acc T base w' v ps :=
  ⟨own_chg' h.own c (fun g hg => hA g (h.own.lt g hg).1), fun p hp => (h.ext p hp).chg c (fun g hg => hA g (h.low p hp g hg).1), fun p hp g hg => ⟨(h.low p hp g hg).1, Nat.lt_of_lt_of_le (h.low p hp g hg).2.1 c.size, (h.low p hp g hg).2.2⟩⟩
theorem Acc.below {T : TypeId} {base : Nat} {w w' : World} {v : Value} {ps : List FV} (h : Acc T base w v ps) (b : Below w.heap.size w w') : Acc T base w' v ps :=
  h.chg (A := fun _ => False) (Chg.of_below b) (fun _ _ h => h)
theorem Acc.push {T : TypeId} {base : Nat} {w w' : World} {v v' : Value} {ps : List FV} (h : Acc T base w v ps) {f : Fil} {ve : Value} (hx : Exts w ve f.ext) (hl : ∀ g, ve.ownBlock = some g → base ≤ g ∧ g < w.heap.size ∧ v.ownBlock ≠ some g)
    (ho : w'.ownsRow base T 4 v' (ps.length + 1) (filCells ps ++ [.string (B f.name), .bool f.shut, .int .i64 f.size, ve])) (hg : w.grownBy w' v.ownBlock) (hv : v'.ownBlock = v.ownBlock ∨ ∃ g, v'.ownBlock = some g ∧ w.heap.size ≤ g) : Acc T base w' v' (ps ++ [(f, ve)]) := by
  have hp' : ∀ p ∈ ps ++ [(f, ve)], Exts w p.2 p.1.ext ∧ ∀ g, p.2.ownBlock = some g → base ≤ g ∧ g < w.heap.size ∧ v.ownBlock ≠ some g := by
    intro p hp
    rcases List.mem_append.1 hp with hp | hp
    · exact ⟨h.ext p hp, h.low p hp⟩
    · simp at hp; subst hp; exact ⟨hx, hl⟩
  refine ⟨?_, fun p hp => (hp' p hp).1.grown hg (fun g e => ((hp' p hp).2 g e).2.2), fun p hp g e => ?_⟩
  · rw [filCells_append, List.length_append]; exact ho
  · obtain ⟨h1, h2, h3⟩ := (hp' p hp).2 g e
    refine ⟨h1, Nat.lt_of_lt_of_le h2 hg.size, ?_⟩
    rcases hv with hv | ⟨q, hv, hq⟩
    · rw [hv]; exact h3
    · rw [hv]; intro e2; simp only [Option.some.injEq] at e2; omega
theorem own_files {T : TypeId} {w : World} {base : Nat} {v : Value} {ps : List FV} (h : w.ownsRow base T 4 v ps.length (filCells ps)) (hx : ∀ p ∈ ps, Exts w p.2 p.1.ext) : Files w v (ps.map Prod.fst) := by
  rcases h.2 with ⟨rfl, h0⟩ | ⟨g, cap, cur, rfl, hg, hh, h1, h2, h3, h4⟩
  · exact ⟨none, 0, by rw [List.length_map, h0], fun _ => rfl, fun i hi => by rw [List.length_map] at hi; omega⟩
  · refine ⟨some ⟨g, 0, none⟩, cap, by rw [List.length_map], fun h => (by cases h), fun i hi => ?_⟩
    rw [List.length_map] at hi
    have hi' : i < ps.length := hi
    obtain ⟨g1, g2, g3, g4⟩ := filCells_get ps i hi'
    have hc : ∀ j, j < 4 → cur.toList[i * 4 + j]? = (filCells ps)[i * 4 + j]? := fun j hj => by rw [← h4, List.getElem?_take, if_pos (by omega)]
    refine ⟨g, 0, ps[i].2, rfl, (h.lt g rfl).2, ?_, ?_, ?_, ?_, ?_⟩
    · rw [Lib.cell_of_heap hh, Nat.zero_add, ← Array.getElem?_toList]
      have := hc 0 (by omega)
      rw [Nat.add_zero] at this
      rw [this, g1, List.getElem_map]
    · rw [Lib.cell_of_heap hh, Nat.zero_add, ← Array.getElem?_toList, hc 1 (by omega), g2, List.getElem_map]
    · rw [Lib.cell_of_heap hh, Nat.zero_add, ← Array.getElem?_toList, hc 2 (by omega), g3, List.getElem_map]
    · rw [Lib.cell_of_heap hh, Nat.zero_add, ← Array.getElem?_toList, hc 3 (by omega), g4]
    · rw [List.getElem_map]; exact hx _ (List.getElem_mem hi')
theorem Acc.files {T : TypeId} {base : Nat} {w : World} {v : Value} {ps : List FV} (h : Acc T base w v ps) : Files w v (ps.map Prod.fst) := own_files h.own h.ext
theorem FewF.fit {n : Nat} {f : Fil} (h : FewF n f) (hn : n ≤ 9223372036854775807) : FitF f := by
  obtain ⟨h1, h2, h3, h4, h5⟩ := h
  refine ⟨by omega, by omega, by omega, by omega, fun x hx => ?_⟩
  have := h5 x hx
  unfold smallE at this
  omega
theorem cell4_newI (w : World) (b : Nat) (hb : b = w.heap.size) (x y z u : Value) (t : TypeId) : ∀ (j : Nat) q, [x, y, z, u][j]? = some q → (w.alloc (.cells #[x, y, z, u] t)).cell? ((⟨b, 0, none⟩ : Addr).add j) = some q := by
  subst hb
  intro j q hq
  have e : (⟨w.heap.size, 0, none⟩ : Addr).add j = ⟨w.heap.size, j, none⟩ := by unfold Addr.add; split <;> simp_all
  rw [e, Lib.cell_of_heap (heap_alloc_new w _)]
  rcases j with _ | _ | _ | _ | j
  · simpa using hq
  · simpa using hq
  · simpa using hq
  · simpa using hq
  · simp at hq
end Go.Proofs.YteemloillnfaeaaDoor
