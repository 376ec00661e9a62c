/- append([]byte(s), c): one byte behind a text's bytes. No conditions beyond sizes. -/
import Derived.Test.YtefnddhondbjbaaByteRow
import Derived.Laws.AppendOwn
namespace Go.Proofs.Ytefnddhondbjbaa
open Go.RowKit

theorem run_append_byte {P : Program} (w : World) (t ty e : TypeId) (i : TypeInfo) (ht : P.underlying t = some (.slice e)) (hi : P.info? e = some i) (hz : i.zero = some (.int .u8 0)) (hsize : i.size = 1) (hby : i.bytes = 1)
    (g n cap : Nat) (l : List UInt8) (cur : Array Value) (lo hh : Nat) (hg : w.heap[g]? = some (.cells cur e (lo, hh))) (hlo : cur.size ≤ lo) (hcap : cur.size = cap) (hn : l.length = n) (hnc : n ≤ cap)
    (hcells : ∀ j (h : j < l.length), cur[j]? = some (.int .u8 (l[j].toNat : Int)))
    (a : Addr) (c : Nat) (x : UInt8) (hx : w.cell? a = some (.int .u8 (x.toNat : Int))) (hsm : n + 1 ≤ 140737488355328) :
    ∃ g' cap' w' cur' lo' hh', (Builtin.append_ #[t, t] ty #[.slice (some ⟨g, 0, none⟩) n cap, .slice (some a) 1 c]).run P w = .ok (.slice (some ⟨g', 0, none⟩) (n + 1) cap') w' ∧
      w'.heap[g']? = some (.cells cur' e (lo', hh')) ∧ n + 1 ≤ cur'.size ∧ (∀ j (h : j < (l ++ [x]).length), cur'[j]? = some (.int .u8 ((l ++ [x])[j].toNat : Int))) ∧ (cur'.size ≤ lo' ∨ (lo' = 0 ∧ hh' = 0)) ∧ w.grownBy w' (some g) := by
  have hnews : ∀ j u, [Value.int .u8 (x.toNat : Int)][j]? = some u → w.cell? (a.add j) = some u := by
    intro j u hu
    cases j with
    | zero => simp at hu; subst hu; rw [show a.add 0 = a by unfold Addr.add; simp]; exact hx
    | succ j => simp at hu
  by_cases hroom : n + 1 ≤ cap
  · have hn2 : n < cur.size := by omega
    have hcell : w.cell? ⟨g, n, none⟩ = some cur[n] := by simp [World.cell?, hg, hn2]
    have hfro : w.frozen? ⟨g, n, none⟩ = false := by
      simp only [World.frozen?, hg, Bool.and_eq_false_iff, decide_eq_false_iff_not]
      left; omega
    have hf := run_firstCells_some (P := P) w i.size 1 a 1 c [Value.int .u8 (x.toNat : Int)] (by rw [hsize]; rfl) hnews
    have hst : (storeCells ⟨g, n, none⟩ [Value.int .u8 (x.toNat : Int)] 0).run P w = .ok () (w.setCell ⟨g, n, none⟩ (.int .u8 (x.toNat : Int))) := by
      have hadd : (⟨g, n, none⟩ : Addr).add 0 = ⟨g, n, none⟩ := by unfold Addr.add; simp
      have h1 : (store ((⟨g, n, none⟩ : Addr).add 0) (Value.int .u8 (x.toNat : Int))).run P w = .ok () (w.setCell ⟨g, n, none⟩ (.int .u8 (x.toNat : Int))) := by
        rw [hadd, run_store P w _ _ _ (by rfl), hcell]
        simp [hfro]
      simp only [storeCells, Sem.run_bind, h1, Result.andThen_ok]
      rfl
    refine ⟨g, cap, w.setCell ⟨g, n, none⟩ (.int .u8 (x.toNat : Int)), cur.setIfInBounds n (.int .u8 (x.toNat : Int)), lo, hh, ?_, ?_, ?_, ?_, ?_, ?_⟩
    · rw [hsize] at hf
      simp [Builtin.append_, run_underlying ht, sizeOf, typeInfo, hi, hsize, Builtin.lenOf, hroom, hf, Addr.add_lit, hst]
    · simp [World.setCell, Array.getElem?_modify, hg]
    · simp; omega
    · intro j hj
      rw [List.length_append, List.length_singleton] at hj
      rw [Array.getElem?_setIfInBounds]
      by_cases e : n = j
      · subst e
        rw [if_pos rfl, if_pos hn2]
        simp [← hn]
      · rw [if_neg e, hcells j (by omega), List.getElem_append_left (show j < l.length by omega)]
    · left; simpa using hlo
    · exact ⟨rfl, rfl, rfl, by simp [World.setCell], fun k _ hk => Below.heap_setCell _ _ _ _ (fun e => hk (by simp [e]))⟩
  · have holds : ∀ j u, (Lib.byteCells l)[j]? = some u → w.cell? ((⟨g, 0, none⟩ : Addr).add j) = some u := by
      intro j u hu
      have hj : j < l.length := by
        rcases Nat.lt_or_ge j l.length with h | h
        · exact h
        · rw [List.getElem?_eq_none (by simpa [Lib.byteCells] using h)] at hu; cases hu
      have e1 : (⟨g, 0, none⟩ : Addr).add j = ⟨g, j, none⟩ := by unfold Addr.add; split <;> simp_all
      rw [e1]
      rw [Lib.cell_of_heap hg, hcells j hj]
      simp [Lib.byteCells, hj] at hu
      rw [← hu]
    have hr := run_append_grow (P := P) w t ty e i (.int .u8 0) ht hi hz ⟨g, 0, none⟩ n cap (Lib.byteCells l) (by rw [hsize]; simp [Lib.byteCells, hn]) holds a 1 c [Value.int .u8 (x.toNat : Int)] (by rw [hsize]; rfl) hnews (by omega) (by omega) (growslice_fits (by omega) (by rw [hby]; omega))
    refine ⟨w.heap.size, _, _, _, 0, 0, hr, heap_alloc_new w.drew _, ?_, ?_, .inr ⟨rfl, rfl⟩, ⟨rfl, rfl, rfl, by simp, fun k hk _ => heap_alloc_old w.drew _ hk⟩⟩
    · simp [Lib.byteCells, hn]
      try omega
    · intro j hj
      have e : (Lib.byteCells l).toArray ++ [Value.int .u8 (x.toNat : Int)].toArray = (Lib.byteCells (l ++ [x])).toArray := by simp [Lib.byteCells]
      rw [e, Array.getElem?_append_left (by simpa [Lib.byteCells] using hj)]
      simp only [Lib.byteCells, List.getElem?_toArray, List.getElem?_map]
      rw [List.getElem?_eq_getElem hj]; rfl
theorem wpList_append_byte {ops : Array Oper} {rest : List Oper} {o : Oper} {a : Act} {Q : Exit → Act → World → Prop} (w : World) (hgd : o.guard = none) (s x : Operand)
    (ho : o.op = .call { callee := .builtin .append, args := #[s, x], argTypes := #[39, 39] })
    (t : ByteArray) (w0 : World) (ht : t.size ≤ 140737488355000) (hs : a.eval s = .slice (some ⟨w0.heap.size, 0, none⟩) t.size (grownCap w0 t.size 0 5))
    (hg : w.heap[w0.heap.size]? = some (.cells (bytesRow t (grownCap w0 t.size 0 5)) 5 ((bytesRow t (grownCap w0 t.size 0 5)).size, (bytesRow t (grownCap w0 t.size 0 5)).size + 1)))
    (ad : Addr) (c : Nat) (u : UInt8) (hx : a.eval x = .slice (some ad) 1 c) (hu : w.cell? ad = some (.int .u8 (u.toNat : Int)))
    (h : ∀ g' cap' w', BRow w' g' (L t ++ [u]) → w.grownBy w' (some w0.heap.size) → wpList Try.prog ops Q rest (a.put o.dst (.slice (some ⟨g', 0, none⟩) (t.size + 1) cap')) w') : wpList Try.prog ops Q (o :: rest) a w := by
  obtain ⟨i0, hi, hz0, hz1, hz2⟩ := info_parts Try.info_u8
  have hsz : (bytesRow t (grownCap w0 t.size 0 5)).size = grownCap w0 t.size 0 5 := by
    have := grownCap_ge w0 t.size 0 5
    simp only [bytesRow, Array.size_append, Array.size_map, Array.size_replicate]
    have e : t.data.size = t.size := rfl
    omega
  have hcells : ∀ j (h : j < (L t).length), (bytesRow t (grownCap w0 t.size 0 5))[j]? = some (.int .u8 ((L t)[j].toNat : Int)) := by
    intro j hj
    obtain ⟨⟨l⟩⟩ := t
    simp only [L] at hj ⊢
    simp only [bytesRow]
    rw [Array.getElem?_append_left (by simpa using hj)]
    simp [hj]
  refine wpList_plain hgd fun K hK => ?_
  obtain ⟨g', cap', w', cur', lo', hh', hr, h1, h2, h3, h4, h5⟩ := run_append_byte (P := Try.prog) w 39 o.type 5 i0 Try.underlying39 hi hz0 hz1 hz2 w0.heap.size t.size (grownCap w0 t.size 0 5) (L t) _ _ _ hg (Nat.le_refl _) hsz (length_L t) (grownCap_ge w0 t.size 0 5) hcells ad c u hu (by omega)
  have hrow : BRow w' g' (L t ++ [u]) := ⟨cur', lo', hh', h1, by rw [List.length_append, length_L, List.length_singleton]; exact h2, h3, fun j hj hlh => by
    rw [List.length_append, length_L, List.length_singleton] at hj
    rcases h4 with h4 | ⟨h4, h6⟩
    · omega
    · omega⟩
  unfold Oper.wp execOp
  simp only [ho, resolve, invoke, builtin, Sem.run_bind, Sem.run_pure, Result.andThen_ok, List.map_toArray, List.map_cons, List.map_nil, hs, hx, hr]
  exact hK _ _ (h g' cap' w' hrow h5)
end Go.Proofs.Ytefnddhondbjbaa
