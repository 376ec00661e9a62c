/- A map from ints to blocks that a call has made, as a function: its laws, also at the operation. No conditions beyond the laws'. -/
import Derived.Maps.OwnSet
import Derived.Maps.RangeWalk
import Derived.Maps.Ext
namespace Go
open Go.ChangeMaps Go.MapKept
open Go.WideElems (Fit rd rg pl rd_val elemAt)
open Go.Maps (Keyed)

/-- An element that is a pointer: to no block, or to the head of one. -/
def ptrE (v : Value) : Option (DataW Unit × List MemPlace) :=
  match v with
  | .pointer none => some (.lit (.bool false), [])
  | .pointer (some ⟨g, 0, none⟩) => some (.lit (.int .i64 (g : Int)), [])
  | _ => none
def ptrV : Option Nat → Value
  | none => .pointer none
  | some g => .pointer (some ⟨g, 0, none⟩)
def ptrD : Option Nat → DataW Unit
  | none => .lit (.bool false)
  | some g => .lit (.int .i64 (g : Int))
theorem ptrE_mk (o : Option Nat) : ptrE (ptrV o) = some (ptrD o, []) := by cases o <;> rfl
theorem ptrE_inv {v : Value} {y : DataW Unit × List MemPlace} (h : ptrE v = some y) : ∃ o, v = ptrV o ∧ y = (ptrD o, []) := by
  unfold ptrE at h
  split at h
  · exact ⟨none, rfl, (Option.some.inj h).symm⟩
  · rename_i g
    exact ⟨some g, rfl, (Option.some.inj h).symm⟩
  · cases h
theorem ptrD_inj {a b : Option Nat} (h : ptrD a = ptrD b) : a = b := by
  cases a <;> cases b
  · rfl
  · simp [ptrD] at h
  · simp [ptrD] at h
  · simp [ptrD] at h
    congr 1
    omega
/-- Block b is a map of n entries from ints to blocks: f. -/
def World.ptrMap (w : World) (P : Program) (k : TypeId) (b n : Nat) (f : Int → Option Nat) : Prop :=
  ∃ D : DataW Unit, w.ownsMap P k ptrE b n D ∧ Maps.size D = n ∧ ∀ i : Int, (Lit.int .i64 i).wf = true → D.atKey (.int .i64 i) (ptrD none) = ptrD (f i) ∧ Maps.has D (.int .i64 i) = (f i).isSome
section
variable {P : Program} {k t e : TypeId} {w : World} {b n : Nat} {f : Int → Option Nat}
theorem ownsMap_tight {D : DataW Unit} (h : w.ownsMap P k ptrE b n D) : w.ownsMap P k ptrE b (Maps.size D) D := by
  obtain ⟨es, clock, hb, F, hs, rfl⟩ := h
  refine ⟨es, clock, hb, F, ?_, rfl⟩
  rw [Maps.size_eq, length_read]
  exact Nat.le_refl _
theorem World.ptrMap_made (w : World) (P : Program) (k : TypeId) : (w.alloc (.map #[] 0)).ptrMap P k w.heap.size 0 fun _ => none :=
  ⟨.map [], World.ownsMap_made w P k ptrE, rfl, fun _ _ => ⟨rfl, rfl⟩⟩
theorem World.ptrMap.lt (h : w.ptrMap P k b n f) : b < w.heap.size := by obtain ⟨D, h, _⟩ := h; exact h.lt
theorem World.ptrMap.kept {w' : World} {row : Option Nat} (h : w.ptrMap P k b n f) (hg : w.grownBy w' row) (hne : some b ≠ row) : w'.ptrMap P k b n f := by
  obtain ⟨D, h1, h2⟩ := h; exact ⟨D, h1.kept hg hne, h2⟩
theorem World.ptrMap.alloc (h : w.ptrMap P k b n f) (o : Obj) : (w.alloc o).ptrMap P k b n f := by
  obtain ⟨D, h1, h2⟩ := h; exact ⟨D, h1.alloc o, h2⟩
theorem World.ptrMap.drew (h : w.ptrMap P k b n f) : w.drew.ptrMap P k b n f := h
theorem World.ptrMap.setCell (h : w.ptrMap P k b n f) {a : Addr} (ha : b ≠ a.block) (u : Value) : (w.setCell a u).ptrMap P k b n f := by
  obtain ⟨D, h1, h2⟩ := h; exact ⟨D, h1.setCell ha u, h2⟩
theorem World.ptrMap.same {f' : Int → Option Nat} (h : w.ptrMap P k b n f) (hf : ∀ i, f' i = f i) : w.ptrMap P k b n f' := by
  obtain rfl : f' = f := funext hf
  exact h
section
variable (hk : P.underlying k = some (.int .i64)) (ht : P.underlying t = some (.map k e))
include hk
theorem key_i64 {i : Int} (hi : (Lit.int .i64 i).wf = true) : keyOf P k (.int .i64 i) = some (.int .i64 i) := Maps.keyOf_int_mk hk hi
theorem lit_key {i : Int} (hi : (Lit.int .i64 i).wf = true) : WideAt.IsKeyLit (.int .i64 i) := (Maps.int_keyed hk).key (key_i64 hk hi)
include ht
/-- 'm[i]'. -/
theorem World.ptrMap.look (h : w.ptrMap P k b n f) (hz : (zeroValue e).run P w = .ok (.pointer none) w) {i : Int} (hi : (Lit.int .i64 i).wf = true) :
    (Instr.lookup t (.map (some b)) (.int .i64 i) false).run P w = .ok (ptrV (f i)) w := by
  obtain ⟨D, h1, _, h3⟩ := h
  obtain ⟨v, ps, hrun, hv⟩ := h1.lookup (Maps.int_keyed hk) ht hz (zd := ptrD none) (zp := []) rfl (key_i64 hk hi)
  obtain ⟨o, rfl, ho⟩ := ptrE_inv hv
  rw [(h3 i hi).1] at ho
  simp only [Prod.mk.injEq] at ho
  rw [hrun, ptrD_inj ho.1]
/-- 'm[i] = p'. -/
theorem World.ptrMap.store (h : w.ptrMap P k b n f) (hn : n < maxLen) {i : Int} (hi : (Lit.int .i64 i).wf = true) (g : Nat) :
    ∃ w', (Instr.mapUpdate t (.map (some b)) (.int .i64 i) (.pointer (some ⟨g, 0, none⟩))).run P w = .ok () w' ∧ w'.ptrMap P k b (if (f i).isSome then n else n + 1) (fun j => if j = i then some g else f j) ∧ w.mapTurned w' b := by
  obtain ⟨D, h1, rfl, h3⟩ := h
  obtain ⟨w', hrun, h4, h5⟩ := h1.store (Maps.int_keyed hk) ht hn (key_i64 hk hi) (ptrE_mk (some g))
  have hsz : Maps.size (D.put (.int .i64 i) (ptrD (some g))) = if (f i).isSome then Maps.size D else Maps.size D + 1 := by
    rw [Maps.size_put (h1.tidy (Maps.int_keyed hk)), (h3 i hi).2]
  refine ⟨w', hrun, ⟨_, by rw [← hsz]; exact ownsMap_tight h4, hsz, fun j hj => ?_⟩, h5⟩
  by_cases hji : j = i
  · subst hji
    dsimp only
    rw [if_pos rfl]
    exact ⟨Maps.atKey_put_same h1.isMap (lit_key hk hj) _ _, by rw [Maps.has_put_same h1.isMap (lit_key hk hj)]; rfl⟩
  · have hne : Lit.int .i64 j ≠ Lit.int .i64 i := fun e => hji (by simpa using e)
    dsimp only
    rw [if_neg hji, Maps.atKey_put_other hne, Maps.has_put_other hne]
    exact h3 j hj
/-- 'delete(m, i)'. -/
theorem World.ptrMap.del (h : w.ptrMap P k b n f) {i : Int} (hi : (Lit.int .i64 i).wf = true) (ty : TypeId) :
    ∃ w', (Builtin.delete_ #[t, k] ty #[.map (some b), .int .i64 i]).run P w = .ok (.tuple #[]) w' ∧ w'.ptrMap P k b (if (f i).isSome then n - 1 else n) (fun j => if j = i then none else f j) ∧ w.mapTurned w' b := by
  obtain ⟨D, h1, rfl, h3⟩ := h
  obtain ⟨w', hrun, h4, h5⟩ := h1.drop (Maps.int_keyed hk) ht (key_i64 hk hi) ty
  have hsz : Maps.size (D.del (.int .i64 i)) = if (f i).isSome then Maps.size D - 1 else Maps.size D := by
    have := Maps.size_del (k := .int .i64 i) (h1.tidy (Maps.int_keyed hk))
    rw [(h3 i hi).2] at this
    split at this
    · rw [if_pos ‹_›]; omega
    · rw [if_neg ‹_›]; omega
  refine ⟨w', hrun, ⟨_, by rw [← hsz]; exact ownsMap_tight h4, hsz, fun j hj => ?_⟩, h5⟩
  by_cases hji : j = i
  · subst hji
    dsimp only
    rw [if_pos rfl]
    exact ⟨Maps.atKey_del_same _, by rw [Maps.has_del_same]; rfl⟩
  · have hne : Lit.int .i64 j ≠ Lit.int .i64 i := fun e => hji (by simpa using e)
    dsimp only
    rw [if_neg hji, Maps.atKey_del_other hne, Maps.has_del_other hne]
    exact h3 j hj
end
/-! at the operation -/
variable {ops : Array Oper} {rest : List Oper} {o : Oper} {a : Act} {Q : Exit → Act → World → Prop}
theorem wpList_look_ptr (w : World) (hg : o.guard = none) (m x : Operand) (t : TypeId) (hop : o.op = Op.lookup t m x false) (k e : TypeId) (hk : P.underlying k = some (.int .i64)) (ht : P.underlying t = some (.map k e)) (hz : (zeroValue e).run P w = .ok (.pointer none) w)
    (b n : Nat) (f : Int → Option Nat) (hm : a.eval m = .map (some b)) (h : w.ptrMap P k b n f) (i : Int) (hi : (Lit.int .i64 i).wf = true) (hx : a.eval x = .int .i64 i)
    (hK : wpList P ops Q rest (a.put o.dst (ptrV (f i))) w) : wpList P ops Q (o :: rest) a w := by
  refine wpList_plain hg fun K' hK' => ?_
  unfold Oper.wp
  simp [execOp, hop, hm, hx, h.look hk ht hz hi, Result.andThen]
  exact hK' _ _ hK
theorem wpList_store_ptr (w : World) (hg : o.guard = none) (m x v : Operand) (t : TypeId) (hop : o.op = Op.mapUpdate t m x v) (k e : TypeId) (hk : P.underlying k = some (.int .i64)) (ht : P.underlying t = some (.map k e))
    (b n : Nat) (f : Int → Option Nat) (hm : a.eval m = .map (some b)) (h : w.ptrMap P k b n f) (hn : n < maxLen) (i : Int) (hi : (Lit.int .i64 i).wf = true) (hx : a.eval x = .int .i64 i) (g : Nat) (hv : a.eval v = .pointer (some ⟨g, 0, none⟩))
    (hK : ∀ w', w'.ptrMap P k b (if (f i).isSome then n else n + 1) (fun j => if j = i then some g else f j) → w.mapTurned w' b → wpList P ops Q rest (a.put o.dst undef) w') : wpList P ops Q (o :: rest) a w := by
  refine wpList_plain hg fun K' hK' => ?_
  obtain ⟨w', hrun, r1, r2⟩ := h.store hk ht hn hi g
  unfold Oper.wp
  simp [execOp, hop, hm, hx, hv, hrun, Result.andThen]
  exact hK' _ _ (hK w' r1 r2)
theorem wpList_del_ptr (w : World) (hg : o.guard = none) (m x : Operand) (t k : TypeId) (hop : o.op = Op.call { callee := Callee.builtin Builtin.delete, args := #[m, x], argTypes := #[t, k] }) (e : TypeId) (hk : P.underlying k = some (.int .i64)) (ht : P.underlying t = some (.map k e))
    (b n : Nat) (f : Int → Option Nat) (hm : a.eval m = .map (some b)) (h : w.ptrMap P k b n f) (i : Int) (hi : (Lit.int .i64 i).wf = true) (hx : a.eval x = .int .i64 i)
    (hK : ∀ w', w'.ptrMap P k b (if (f i).isSome then n - 1 else n) (fun j => if j = i then none else f j) → w.mapTurned w' b → wpList P ops Q rest (a.put o.dst (.tuple #[])) w') : wpList P ops Q (o :: rest) a w := by
  refine wpList_plain hg fun K' hK' => ?_
  obtain ⟨w', hrun, r1, r2⟩ := h.del hk ht hi o.type
  unfold Oper.wp
  simp [execOp, hop, resolve, invoke, builtin, hm, hx, hrun, Result.andThen]
  exact hK' _ _ (hK w' r1 r2)
theorem wpList_len_ptr (w : World) (hg : o.guard = none) (m : Operand) (t : TypeId) (hop : o.op = Op.call { callee := Callee.builtin Builtin.len, args := #[m], argTypes := #[t] }) (k e : TypeId) (ht : P.underlying t = some (.map k e))
    (b n : Nat) (f : Int → Option Nat) (hm : a.eval m = .map (some b)) (h : w.ptrMap P k b n f) (hK : wpList P ops Q rest (a.put o.dst (.int .i64 n)) w) : wpList P ops Q (o :: rest) a w := by
  obtain ⟨D, h1, h2, _⟩ := h
  refine wpList_len_own w hg m t hop k e ht ptrE b n D hm h1 ?_
  rw [h2]; exact hK
end
end Go
