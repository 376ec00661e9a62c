/- dict.number, text, entry: what is read of bytes. Conditions: lengths fit an int. -/
import Derived.Test.YtefnddhondbjbaaWireToText
import Derived.Test.YtefnddhondbjbaaDictPackW
namespace Go.Proofs.Ytefnddhondbjbaa
open Go.RowKit Go.Wir Go.Dic

theorem set3 {w : World} {g : Nat} {x0 x1 x2 : Value} {ty : TypeId} (v0 v1 v2 : Value) (h : w.heap[g]? = some (.cells #[x0, x1, x2] ty (0, 0))) :
    (((w.setCell ⟨g, 0, none⟩ v0).setCell ⟨g, 1, none⟩ v1).setCell ⟨g, 2, none⟩ v2).heap[g]? = some (.cells #[v0, v1, v2] ty (0, 0)) := by simp [World.setCell, Array.getElem?_modify, h]
theorem below_set {w x : World} (h : Below w.heap.size w x) (g k : Nat) (v : Value) (hg : w.heap.size ≤ g) : Below w.heap.size w (x.setCell ⟨g, k, none⟩ v) :=
  ⟨h.os, h.tape, h.output, by have := h.size; simpa [World.setCell] using this, fun j hj => (Below.heap_setCell _ _ _ _ (show j ≠ g by omega)).trans (h.block j hj)⟩
theorem below_new {w x : World} {o : Obj} (h : Below (w.alloc o).heap.size (w.alloc o) x) : Below w.heap.size w x := ((Below.refl _ _).alloc (Nat.le_refl _) _).trans (h.mono (by simp))
theorem cells3 {w : World} {g : Nat} {x0 x1 x2 : Value} {ty : TypeId} (h : w.heap[g]? = some (.cells #[x0, x1, x2] ty (0, 0))) :
    w.cell? ⟨g, 0, none⟩ = some x0 ∧ w.cell? ⟨g, 1, none⟩ = some x1 ∧ w.cell? ⟨g, 2, none⟩ = some x2 ∧ w.frozen? ⟨g, 0, none⟩ = false ∧ w.frozen? ⟨g, 1, none⟩ = false ∧ w.frozen? ⟨g, 2, none⟩ = false :=
  ⟨by rw [Lib.cell_of_heap h]; rfl, by rw [Lib.cell_of_heap h]; rfl, by rw [Lib.cell_of_heap h]; rfl, Lib.frozen_of_heap h 0, Lib.frozen_of_heap h 1, Lib.frozen_of_heap h 2⟩
theorem cells4 {w : World} {g : Nat} {x0 x1 x2 x3 : Value} {ty : TypeId} (h : w.heap[g]? = some (.cells #[x0, x1, x2, x3] ty (0, 0))) :
    w.cell? ⟨g, 0, none⟩ = some x0 ∧ w.cell? ⟨g, 1, none⟩ = some x1 ∧ w.cell? ⟨g, 2, none⟩ = some x2 ∧ w.cell? ⟨g, 3, none⟩ = some x3 ∧ w.frozen? ⟨g, 0, none⟩ = false ∧ w.frozen? ⟨g, 1, none⟩ = false ∧ w.frozen? ⟨g, 2, none⟩ = false ∧ w.frozen? ⟨g, 3, none⟩ = false :=
  ⟨by rw [Lib.cell_of_heap h]; rfl, by rw [Lib.cell_of_heap h]; rfl, by rw [Lib.cell_of_heap h]; rfl, by rw [Lib.cell_of_heap h]; rfl, Lib.frozen_of_heap h 0, Lib.frozen_of_heap h 1, Lib.frozen_of_heap h 2, Lib.frozen_of_heap h 3⟩
theorem set4 {w : World} {g : Nat} {x0 x1 x2 x3 : Value} {ty : TypeId} (v0 v1 v2 v3 : Value) (h : w.heap[g]? = some (.cells #[x0, x1, x2, x3] ty (0, 0))) :
    ((((w.setCell ⟨g, 0, none⟩ v0).setCell ⟨g, 1, none⟩ v1).setCell ⟨g, 2, none⟩ v2).setCell ⟨g, 3, none⟩ v3).heap[g]? = some (.cells #[v0, v1, v2, v3] ty (0, 0)) := by simp [World.setCell, Array.getElem?_modify, h]
def numberL (s : List UInt8) (most : Nat) : Option (Nat × List UInt8) := match toVarL s with
  | some (v, r) => if v ≤ most then some (v, r) else none
  | none => none
theorem numberL_le {s : List UInt8} {most n : Nat} {r : List UInt8} (h : numberL s most = some (n, r)) : n ≤ most ∧ r.length ≤ s.length := by
  unfold numberL at h
  cases h' : toVarL s with
  | none => rw [h'] at h; cases h
  | some x =>
    obtain ⟨v, q⟩ := x
    rw [h'] at h
    simp only at h
    split at h
    · cases h; exact ⟨by assumption, toVarL_le h'⟩
    · cases h
set_option maxRecDepth 100000 in
theorem dict_number_some (s : ByteArray) (most : Nat) (hs : s.size ≤ 9223372036854775807) (hm : most ≤ 9223372036854775807) (n : Nat) (r : List UInt8) (h : numberL (L s) most = some (n, r)) (w : World) :
    Calls Try.prog 45 #[.string s, .int .i64 (most : Nat)] w fun e w' => e = .returned (.agg #[.int .i64 (n : Nat), .string (B r), .bool true]) ∧ Below w.heap.size w w' := by
  obtain ⟨hnm, _⟩ := numberL_le h
  have hv : toVarL (L s) = some (n, r) := by
    unfold numberL at h
    cases h' : toVarL (L s) with
    | none => rw [h'] at h; cases h
    | some x => obtain ⟨v, q⟩ := x; rw [h'] at h; simp only at h; split at h <;> simp_all
  have Hv := Lib.hid hv
  clear h hv
  have q1 : IntKind.u64.wrap (most : Int) = (most : Int) := by rw [IntKind.wrap_u64]; omega
  have q2 : IntKind.i64.wrap (n : Int) = (n : Int) := IntWalk.i64_in _ (by omega)
  go_enter Try.func45, Try.ntmps45
  go_wp2_with fail
  refine (wire_ToVar_some s n r hs Hv.out _).mono ?_
  rintro e w1 ⟨rfl, hb⟩
  have hg : w1.heap[w.heap.size]? = some (.cells #[.int .i64 0, .string ⟨#[]⟩, .bool false] 94 (0, 0)) := (hb.block w.heap.size (by simp)).trans (heap_alloc_new w _)
  obtain ⟨c0, c1, c2, f0, f1, f2⟩ := cells3 hg
  have Hb := Lib.hid hb
  have Hg := Lib.hid hg
  clear hb hg
  go_wp2
  refine bodyPost_ret_by (results_cell_row rfl _ _ w.heap.size _ _ _ _ (by rfl) (set3 _ _ _ Hg.out) Try.underlying94 rfl (by kernel_rfl)) rfl ⟨rfl, ?_⟩
  exact below_set (below_set (below_set (below_new Hb.out) _ _ _ (Nat.le_refl _)) _ _ _ (Nat.le_refl _)) _ _ _ (Nat.le_refl _)
set_option maxRecDepth 100000 in
theorem dict_number_none (s : ByteArray) (most : Nat) (hs : s.size ≤ 9223372036854775807) (hm : most ≤ 9223372036854775807) (h : numberL (L s) most = none) (w : World) :
    Calls Try.prog 45 #[.string s, .int .i64 (most : Nat)] w fun e w' => e = .returned (.agg #[.int .i64 0, .string ⟨#[]⟩, .bool false]) ∧ Below w.heap.size w w' := by
  have q1 : IntKind.u64.wrap (most : Int) = (most : Int) := by rw [IntKind.wrap_u64]; omega
  rcases hv : toVarL (L s) with _ | ⟨n, r⟩
  · have Hv := Lib.hid hv
    clear h hv
    go_enter Try.func45, Try.ntmps45
    go_wp2_with fail
    refine (wire_ToVar_none s hs Hv.out _).mono ?_
    rintro e w1 ⟨rfl, hb⟩
    have hg : w1.heap[w.heap.size]? = some (.cells #[.int .i64 0, .string ⟨#[]⟩, .bool false] 94 (0, 0)) := (hb.block w.heap.size (by simp)).trans (heap_alloc_new w _)
    obtain ⟨c0, c1, c2, f0, f1, f2⟩ := cells3 hg
    have Hb := Lib.hid hb
    have Hg := Lib.hid hg
    clear hb hg
    go_wp2
    refine bodyPost_ret_by (results_cell_row rfl _ _ w.heap.size _ _ _ _ (by rfl) (set3 _ _ _ Hg.out) Try.underlying94 rfl (by kernel_rfl)) rfl ⟨rfl, ?_⟩
    exact below_set (below_set (below_set (below_new Hb.out) _ _ _ (Nat.le_refl _)) _ _ _ (Nat.le_refl _)) _ _ _ (Nat.le_refl _)
  · have hn : most < n := by
      unfold numberL at h
      rw [hv] at h
      simp only at h
      split at h
      · cases h
      · omega
    have Hv := Lib.hid hv
    clear h hv
    go_enter Try.func45, Try.ntmps45
    go_wp2_with fail
    refine (wire_ToVar_some s n r hs Hv.out _).mono ?_
    rintro e w1 ⟨rfl, hb⟩
    have hg : w1.heap[w.heap.size]? = some (.cells #[.int .i64 0, .string ⟨#[]⟩, .bool false] 94 (0, 0)) := (hb.block w.heap.size (by simp)).trans (heap_alloc_new w _)
    obtain ⟨c0, c1, c2, f0, f1, f2⟩ := cells3 hg
    have Hb := Lib.hid hb
    have Hg := Lib.hid hg
    clear hb hg
    go_wp2
    refine bodyPost_ret_by (results_cell_row rfl _ _ w.heap.size _ _ _ _ (by rfl) (set3 _ _ _ Hg.out) Try.underlying94 rfl (by kernel_rfl)) rfl ⟨rfl, ?_⟩
    exact below_set (below_set (below_set (below_new Hb.out) _ _ _ (Nat.le_refl _)) _ _ _ (Nat.le_refl _)) _ _ _ (Nat.le_refl _)
/-- A text read, or nothing. -/
def textG (s : ByteArray) : List UInt8 := ((toTextL (L s)).map Prod.fst).getD []
def textR (s : ByteArray) : List UInt8 := ((toTextL (L s)).map Prod.snd).getD []
set_option maxRecDepth 100000 in
theorem dict_text (s : ByteArray) (hs : s.size ≤ 9223372036854775807) (w : World) :
    Calls Try.prog 46 #[.string s] w fun e w' => e = .returned (.agg #[.string (B (textG s)), .string (B (textR s)), .bool (toTextL (L s)).isSome]) ∧ Below w.heap.size w w' := by
  have hc : ∀ w, Calls Try.prog 51 #[.string s] w fun e w' => e = .returned (.tuple #[.string (B (textG s)), .string (B (textR s)), .bool (toTextL (L s)).isSome]) ∧ Below w.heap.size w w' := by
    intro w
    rcases h : toTextL (L s) with _ | ⟨t, r⟩
    · rw [show textG s = [] by unfold textG; rw [h]; rfl, show textR s = [] by unfold textR; rw [h]; rfl]
      exact wire_ToText_none s hs h w
    · rw [show textG s = t by unfold textG; rw [h]; rfl, show textR s = r by unfold textR; rw [h]; rfl]
      exact wire_ToText_some s t r hs h w
  have Hc := Lib.hid hc
  clear hc
  generalize textG s = t at *
  generalize textR s = r at *
  generalize (toTextL (L s)).isSome = ok at *
  go_enter Try.func46, Try.ntmps46
  go_wp2_with fail
  refine (Hc.out _).mono ?_
  rintro e w1 ⟨rfl, hb⟩
  have hg : w1.heap[w.heap.size]? = some (.cells #[.string ⟨#[]⟩, .string ⟨#[]⟩, .bool false] 98 (0, 0)) := (hb.block w.heap.size (by simp)).trans (heap_alloc_new w _)
  obtain ⟨c0, c1, c2, f0, f1, f2⟩ := cells3 hg
  have Hb := Lib.hid hb
  have Hg := Lib.hid hg
  clear hb hg
  go_wp2
  refine bodyPost_ret_by (results_cell_row rfl _ _ w.heap.size _ _ _ _ (by rfl) (set3 _ _ _ Hg.out) Try.underlying98 rfl (by kernel_rfl)) rfl ⟨rfl, ?_⟩
  exact below_set (below_set (below_set (below_new Hb.out) _ _ _ (Nat.le_refl _)) _ _ _ (Nat.le_refl _)) _ _ _ (Nat.le_refl _)
end Go.Proofs.Ytefnddhondbjbaa
