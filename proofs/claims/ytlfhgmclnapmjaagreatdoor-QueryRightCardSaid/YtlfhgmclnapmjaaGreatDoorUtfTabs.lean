/- Chapter 10's tables in memory: unicode/utf8's two, and the spans of kinds. No conditions. -/
import Derived.Test.YtlfhgmclnapmjaaGreatDoorBase
import Derived.Test.YtlfhgmclnapmjaaGreatDoorUni
import Derived.Test.YtlfhgmclnapmjaaGreatDoorUtfPlain
import Derived.Lib.LaidU8
namespace Go.Proofs.YtlfhgmclnapmjaaGreatDoor
open Go.RowKit Go.Utf Go.Lib Go.Shelf

/-- The spans of kinds, as they lie in memory. -/
def SpansAt (w : World) : Prop := ∀ i, i < 34 → w.cell? ⟨0, i * 3, none⟩ = some (.int .i32 (spansT.getD i (0, 0, 0)).1) ∧ w.cell? ⟨0, i * 3 + 1, none⟩ = some (.int .i32 (spansT.getD i (0, 0, 0)).2.1) ∧ w.cell? ⟨0, i * 3 + 2, none⟩ = some (.int .i64 (spansT.getD i (0, 0, 0)).2.2)
/-- The tables that chapter 10 reads. -/
structure Tabs (w : World) : Prop where
  u8 : Lib.Utf8Tabs (uren.g 3) (uren.g 4) w
  sp : SpansAt w
theorem Tabs.below {w w' : World} (h : Tabs w) (b : Below w.heap.size w w') : Tabs w' :=
  ⟨Utf8Tabs_below h.u8 b, fun i hi => ⟨cell_below b (lt_of_cell (h.sp i hi).1) (h.sp i hi).1, cell_below b (lt_of_cell (h.sp i hi).2.1) (h.sp i hi).2.1, cell_below b (lt_of_cell (h.sp i hi).2.2) (h.sp i hi).2.2⟩⟩
def spansData : DataW Unit := .agg (spansT.map fun s => .agg [.lit (.int .i32 s.1), .lit (.int .i32 s.2.1), .lit (.int .i64 s.2.2)])
theorem uextra : U8Extra Tryz.prog uren := { n3 := by kernel_rfl, n4 := by kernel_rfl, y3 := by kernel_rfl, y4 := by kernel_rfl, c5 := by kernel_rfl, c119 := by kernel_rfl, c138 := by kernel_rfl }
theorem spans_of_reads {w : World} (h : VarReads Tryz.prog w "codex/utf.spans" spansData) : SpansAt w := by
  intro i hi
  obtain ⟨g, t, cs, fuel, p, hg, hty, hvar, hd⟩ := h
  obtain rfl : g = 0 := Option.some.inj (hg.symm.trans (by kernel_rfl))
  obtain rfl : t = 106 := Option.some.inj (hty.symm.trans (by kernel_rfl))
  obtain ⟨fuel', d, q, hdi, he⟩ := array_elem Tryz.underlying106 hd i hi
  have hlen : i < spansT.length := hi
  obtain ⟨s, hs⟩ : ∃ s, spansT.getD i (0, 0, 0) = s := ⟨_, rfl⟩
  have hsi : spansT[i]? = some s := by rw [← hs, List.getD_eq_getElem?_getD]; simp [hlen]
  rw [List.getElem?_map, hsi] at hdi
  simp only [Option.map_some, Option.some.injEq] at hdi
  subst hdi
  rw [show Tryz.prog.cellsOf 105 = 3 by kernel_rfl] at he
  obtain ⟨xs, n, rfl, hx, hl, hxl, hall⟩ := DataW.trod_struct Tryz.underlying105 he
  have hxs := congrArg Prod.fst hx
  simp only [DataW.agg.injEq] at hxs
  obtain ⟨x0, x1, x2, rfl⟩ : ∃ x0 x1 x2, xs = [x0, x1, x2] := by
    match xs, hxs with
    | [x0, x1, x2], _ => exact ⟨x0, x1, x2, rfl⟩
  simp only [List.map_cons, List.map_nil, List.cons.injEq, and_true] at hxs
  obtain ⟨y0, y1, y2⟩ := hxs
  have f0 := hall 0 _ rfl
  have f1 := hall 1 _ rfl
  have f2 := hall 2 _ rfl
  change DataW.trod _ _ _ _ _ _ _ 21 (((_ : List Value).drop 0).take (Tryz.prog.cellsOf 21)) = some x0 at f0
  change DataW.trod _ _ _ _ _ _ _ 21 (((_ : List Value).drop 1).take (Tryz.prog.cellsOf 21)) = some x1 at f1
  change DataW.trod _ _ _ _ _ _ _ 3 (((_ : List Value).drop 2).take (Tryz.prog.cellsOf 3)) = some x2 at f2
  rw [show Tryz.prog.cellsOf 21 = 1 by kernel_rfl] at f0 f1
  rw [show Tryz.prog.cellsOf 3 = 1 by kernel_rfl] at f2
  obtain ⟨z0, c0, g0, _⟩ := DataW.trod_int Tryz.underlying21 f0
  obtain ⟨z1, c1, g1, _⟩ := DataW.trod_int Tryz.underlying21 f1
  obtain ⟨z2, c2, g2, _⟩ := DataW.trod_int Tryz.underlying3 f2
  rw [g0] at y0
  rw [g1] at y1
  rw [g2] at y2
  simp only [DataW.lit.injEq, Lit.int.injEq, true_and] at y0 y1 y2
  subst y0 y1 y2
  have e0 := congrArg (·[0]?) c0
  have e1 := congrArg (·[0]?) c1
  have e2 := congrArg (·[0]?) c2
  simp only [List.getElem?_take, List.getElem?_drop] at e0 e1 e2
  rw [hs]
  refine ⟨?_, ?_, ?_⟩
  · rw [World.var?_cell hg hvar (i * 3), ← Array.getElem?_toList]; simpa using e0
  · rw [World.var?_cell hg hvar (i * 3 + 1), ← Array.getElem?_toList]; simpa using e1
  · rw [World.var?_cell hg hvar (i * 3 + 2), ← Array.getElem?_toList]; simpa using e2
theorem tabs_of_reads {w : World} (h1 : VarReads Tryz.prog w "unicode/utf8.first" firstData) (h2 : VarReads Tryz.prog w "unicode/utf8.acceptRanges" acceptData) (h3 : VarReads Tryz.prog w "codex/utf.spans" spansData) : Tabs w :=
  ⟨utf8Tabs_of_reads uren_260 uextra h1 h2, spans_of_reads h3⟩
end Go.Proofs.YtlfhgmclnapmjaaGreatDoor
