/- Chapter 6: the document's answer (codexref6) in memory; its find. Condition: at most 100000 blocks. -/
import Derived.Test.YtikkdhfbihejbaaCchA
import Derived.Test.YtikkdhfbihejbaaCchR
import Derived.Test.YtikkdhfbihejbaaStepAny
import Derived.BigQuiet
namespace Go.Proofs.Ytikkdhfbihejbaa
open Go.RowKit Go.Cch
attribute [local go_sem] Oper.semAt_some

/-- The document's cache. -/
structure RAt (w : World) (K rb : Nat) (v : Value) (c : Ch) : Prop where
  blk : w.heap[rb]? = some (.cells #[v, .int .i64 ((c.most : Nat) : Int), .int .i64 ((c.misses : Nat) : Int)] 53)
  row : w.ownsRow K 57 4 v c.l.length (kdCells c.l)
  ne : v.ownBlock ≠ some rb
  low : K ≤ rb
def ownR (rb : Nat) (v : Value) (k : Nat) : Prop := k = rb ∨ v.ownBlock = some k
/-- What a call makes of it: its own blocks alone have changed. -/
def MutR (w w' : World) (K rb : Nat) (v : Value) (c' : Ch) : Prop := ∃ v', RAt w' K rb v' c' ∧ (∀ k, ownR rb v' k → ownR rb v k ∨ w.heap.size ≤ k) ∧ Chg (ownR rb v) w w'
section
variable {w w' : World} {K rb : Nat} {v : Value} {c c' : Ch}
theorem RAt.cells (h : RAt w K rb v c) : w.cell? ⟨rb, 0, none⟩ = some v ∧ w.cell? ⟨rb, 1, none⟩ = some (.int .i64 ((c.most : Nat) : Int)) ∧ w.cell? ⟨rb, 2, none⟩ = some (.int .i64 ((c.misses : Nat) : Int)) ∧ w.frozen? ⟨rb, 0, none⟩ = false ∧ w.frozen? ⟨rb, 2, none⟩ = false := by
  refine ⟨?_, ?_, ?_, Lib.frozen_of_heap h.blk _, Lib.frozen_of_heap h.blk _⟩ <;> (rw [Lib.cell_of_heap h.blk]; rfl)
theorem RAt.lt (h : RAt w K rb v c) {k : Nat} (hk : ownR rb v k) : k < w.heap.size := by
  rcases hk with rfl | hk
  · exact (Array.getElem?_eq_some_iff.1 h.blk).1
  · exact (h.row.lt k hk).2
theorem RAt.ge (h : RAt w K rb v c) {k : Nat} (hk : ownR rb v k) : K ≤ k := by
  rcases hk with rfl | hk
  · exact h.low
  · exact (h.row.lt k hk).1
theorem RAt.keep {A : Nat → Prop} (h : RAt w K rb v c) (g : Chg A w w') (hA : ∀ k, ownR rb v k → ¬ A k) : RAt w' K rb v c :=
  ⟨(g.block _ (h.lt (.inl rfl)) (hA _ (.inl rfl))).trans h.blk, own_chg h.row g (fun k hk => hA k (.inr hk)), h.ne, h.low⟩
theorem RAt.below (h : RAt w K rb v c) (g : Below w.heap.size w w') : RAt w' K rb v c := h.keep (A := fun _ => False) (Chg.of_below g) (fun _ _ h => h)
theorem RAt.form (h : RAt w K rb v c) : ∃ oa cp, v = .slice oa c.l.length cp := own_form h.row
theorem RAt.at {oa : Option Addr} {n cp : Nat} (h : RAt w K rb (.slice oa n cp) c) {i : Nat} (hi : i < c.l.length) : ∃ g, oa = some ⟨g, 0, none⟩ ∧ n = c.l.length ∧ w.cell? ⟨g, i * 4, none⟩ = some (.int .i64 c.l[i].pos) ∧ w.cell? ⟨g, i * 4 + 1, none⟩ = some (.string (B c.l[i].data)) ∧ w.cell? ⟨g, i * 4 + 2, none⟩ = some (.bool c.l[i].dirty) ∧ w.cell? ⟨g, i * 4 + 3, none⟩ = some (.int .i64 ((c.l[i].pins : Nat) : Int)) := by
  rcases h.row.2 with ⟨_, h0⟩ | ⟨g, cap, cur, h1, _, hh, _, _, _, h4⟩
  · omega
  · simp only [Value.slice.injEq] at h1
    have hlt : i * 4 + 4 ≤ c.l.length * 4 := by omega
    have key : ∀ j u, j < 4 → (kdC c.l[i])[j]? = some u → w.cell? ⟨g, i * 4 + j, none⟩ = some u := fun j u hj hu => by
      rw [Lib.cell_of_heap hh]
      have : cur.toList[i * 4 + j]? = (kdCells c.l)[i * 4 + j]? := by rw [← h4, List.getElem?_take, if_pos (by omega)]
      rw [← Array.getElem?_toList, this, flat_get kdC_len c.l i hi j hj]
      exact hu
    exact ⟨g, h1.1, h1.2.1, key 0 _ (by omega) rfl, key 1 _ (by omega) rfl, key 2 _ (by omega) rfl, key 3 _ (by omega) rfl⟩
end
/-- Where a block stands: -1: it is not kept. -/
def FoundAt (l : List Kd) (i z : Int) : Prop := (∃ k : Nat, ∃ h : k < l.length, z = (k : Int) ∧ l[k].pos = i ∧ ∀ j (hj : j < l.length), j < k → l[j].pos ≠ i) ∨ (z = -1 ∧ ∀ x ∈ l, x.pos ≠ i)
set_option maxRecDepth 100000 in
theorem ref_find {w : World} {K rb : Nat} {v : Value} {c : Ch} (h : RAt w K rb v c) (i : Int) (hl : c.l.length ≤ 100000) :
    Calls Try.prog 48 #[.pointer (some ⟨rb, 0, none⟩), .int .i64 i] w fun e w' => w = w' ∧ ∃ z : Int, e = .returned (.int .i64 z) ∧ FoundAt c.l i z := by
  obtain ⟨c0, -, -, -, -⟩ := h.cells
  obtain ⟨oa, cp, rfl⟩ := h.form
  have H := Lib.hid h
  clear h
  go_enter Try.func48, Try.ntmps48
  go_wp2
  go_loop [5] (fun z => ∃ k : Nat, k ≤ c.l.length ∧ z = .int .i64 k ∧ ∀ j (hj : j < c.l.length), j < k → c.l[j].pos ≠ i) (fun z => c.l.length - (intOf z).toNat)
  case atStart => exact ⟨0, by omega, rfl, fun j _ h => by omega⟩
  case round =>
    obtain ⟨k, hk, rfl, hne⟩ := hrel
    have Hne := Lib.hid hne
    clear hne
    by_cases hlt : k < c.l.length
    · obtain ⟨g, rfl, -, e0, -, -, -⟩ := H.out.at hlt
      by_cases he : c.l[k].pos = i
      · have Hf : Hid (FoundAt c.l i (k : Int)) := Lib.hid (.inl ⟨k, hlt, rfl, he, Hne.out⟩)
        have heb : (c.l[k].pos == i) = true := by rw [beq_iff_eq]; exact he
        clear he
        generalize c.l[k].pos = p at *
        go_wp2
        go_ret
        exact ⟨rfl, _, rfl, Hf.out⟩
      · have heb : (c.l[k].pos == i) = false := by rw [beq_eq_false_iff_ne]; exact he
        have Hne2 : Hid (∀ j (hj : j < c.l.length), j < k + 1 → c.l[j].pos ≠ i) := Lib.hid (fun j hj hjk => by
          by_cases hjk2 : j = k
          · subst hjk2; exact he
          · exact Hne.out j hj (by omega))
        clear he
        generalize c.l[k].pos = p at *
        go_wp2
        go_round
        case rel => exact ⟨k + 1, by omega, by go_num, Hne2.out⟩
        case measure => simp [intOf]; omega
    · have Hf : Hid (FoundAt c.l i (-1)) := Lib.hid (.inr ⟨rfl, fun x hx => by
        obtain ⟨j, hj, rfl⟩ := List.mem_iff_getElem.1 hx
        exact Hne.out j hj (by omega)⟩)
      obtain rfl : k = c.l.length := by omega
      go_wp2
      go_ret
      exact ⟨rfl, _, rfl, Hf.out⟩
end Go.Proofs.Ytikkdhfbihejbaa
