/- Chapter 17: a part of a slice of queries; a slice turned. No conditions. -/
import Derived.Test.YtlfhgmclnapmjaaDoorQryLs
namespace Go.Proofs.YtlfhgmclnapmjaaDoor
open Go.RowKit Go.Utf Go.Qry Go.Lib

theorem QRow.take {w : World} {n : Nat} {oa : Option Addr} {m c : Nat} {l : List Qy} (h : QRow w n (.slice oa m c) l) (hm : m = l.length) (K : Nat) (hK : K ≤ l.length) : QRow w n (.slice oa K c) (l.take K) := by
  subst hm
  cases n with
  | zero =>
    obtain ⟨a, c', e, hz, rfl⟩ := h
    simp only [Value.slice.injEq] at e
    obtain ⟨rfl, -, rfl⟩ := e
    obtain rfl : K = 0 := by simpa using hK
    exact ⟨oa, c, rfl, hz, rfl⟩
  | succ n =>
    rcases h with ⟨a, c', e, hz, rfl⟩ | ⟨b, off, cap, e, h2, h3, h4, h5⟩
    · simp only [Value.slice.injEq] at e
      obtain ⟨rfl, -, rfl⟩ := e
      obtain rfl : K = 0 := by simpa using hK
      exact .inl ⟨oa, c, rfl, hz, rfl⟩
    · simp only [Value.slice.injEq, true_and] at e
      obtain ⟨rfl, rfl⟩ := e
      have hlen : (l.take K).length = K := by rw [List.length_take]; omega
      refine .inr ⟨b, off, c, by rw [hlen], by omega, h3, h4, fun i hi => ?_⟩
      have hi' : i < l.length := by omega
      rw [List.getElem_take]
      exact h5 i hi'
theorem qCells_take (ps : List (Qy × Value × Value × Value)) (K j : Nat) (u : Value) (h : (qCells (ps.take K))[j]? = some u) : (qCells ps)[j]? = some u := by
  have hj := (List.getElem?_eq_some_iff.1 h).1
  rw [← List.take_append_drop K ps, qCells_append, List.getElem?_append_left hj]
  exact h
theorem qCells_drop (ps : List (Qy × Value × Value × Value)) (K : Nat) (hK : K ≤ ps.length) (j : Nat) (u : Value) (h : (qCells (ps.drop K))[j]? = some u) : (qCells ps)[K * 5 + j]? = some u := by
  have hl : (qCells (ps.take K)).length = K * 5 := by rw [qCells_length, List.length_take]; congr 1; omega
  rw [← List.take_append_drop K ps, qCells_append, List.getElem?_append_right (by omega), hl, show K * 5 + j - K * 5 = j by omega]
  exact h
theorem qCells_mem_take {ps : List (Qy × Value × Value × Value)} {K : Nat} {u : Value} (h : u ∈ qCells (ps.take K)) : u ∈ qCells ps := by
  rw [← List.take_append_drop K ps, qCells_append]; exact List.mem_append_left _ h
theorem qCells_mem_drop {ps : List (Qy × Value × Value × Value)} {K : Nat} {u : Value} (h : u ∈ qCells (ps.drop K)) : u ∈ qCells ps := by
  rw [← List.take_append_drop K ps, qCells_append]; exact List.mem_append_right _ h
theorem news_drop {w : World} {b off : Nat} {ps : List (Qy × Value × Value × Value)} {K : Nat} (hK : K ≤ ps.length) (h : ∀ ad, some (⟨b, off, none⟩ : Addr) = some ad → ∀ j u, (qCells ps)[j]? = some u → w.cell? (ad.add j) = some u) : ∀ ad, some (⟨b, off + K * 5, none⟩ : Addr) = some ad → ∀ j u, (qCells (ps.drop K))[j]? = some u → w.cell? (ad.add j) = some u := by
  rintro ad e j u hu
  cases e
  have h1 := h _ rfl (K * 5 + j) u (qCells_drop ps K hK j u hu)
  rw [show (⟨b, off, none⟩ : Addr).add (K * 5 + j) = ⟨b, off + K * 5 + j, none⟩ by rw [Nat.add_assoc]; unfold Addr.add; split <;> simp_all] at h1
  rw [show (⟨b, off + K * 5, none⟩ : Addr).add j = ⟨b, off + K * 5 + j, none⟩ by unfold Addr.add; split <;> simp_all]
  exact h1
theorem news_take {w : World} {oa : Option Addr} {ps : List (Qy × Value × Value × Value)} {K : Nat} (h : ∀ ad, oa = some ad → ∀ j u, (qCells ps)[j]? = some u → w.cell? (ad.add j) = some u) : ∀ ad, oa = some ad → ∀ j u, (qCells (ps.take K))[j]? = some u → w.cell? (ad.add j) = some u := fun ad e j u hu => h ad e j u (qCells_take ps K j u hu)
theorem c_drew (w : World) : Below w.heap.size w w.drew ∧ w.heap.size ≤ w.drew.heap.size := ⟨below_drew w, Nat.le_refl _⟩
theorem c_new {W w : World} (h : Below W.heap.size W w ∧ W.heap.size ≤ w.heap.size) (o : Obj) : Below W.heap.size W (w.alloc o) ∧ W.heap.size ≤ (w.alloc o).heap.size := ⟨step_new h.1 o, (step_new h.1 o).size⟩
theorem c_grown {W w w' : World} {row : Option Nat} (h : Below W.heap.size W w ∧ W.heap.size ≤ w.heap.size) (hg : w.grownBy w' row) (hr : ∀ k, row = some k → W.heap.size ≤ k) : Below W.heap.size W w' ∧ W.heap.size ≤ w'.heap.size := ⟨h.1.grown hg h.1.size hr, (h.1.grown hg h.1.size hr).size⟩
/-- query.Terms of a QBool of rows. -/
theorem terms_bool_at (n : Nat) (a b c : List Qy) (va vb vc : Value) (w : World) (ha : QRow w n va a) (hb : QRow w n vb b) (hc : QRow w n vc c) (hs : shortB (.mk 5 [] a b c) = true) (hcn : cnt (.mk 5 [] a b c) ≤ 100000) (hT : Tabs w) (ts : List Tx) (hts : termsQ (.mk 5 [] a b c) = ts) :
    Calls Tryd.prog 20 #[.agg #[.int .i64 5, .string ⟨#[]⟩, va, vb, vc]] w fun e w' => ∃ v, e = .returned v ∧ Below w.heap.size w w' ∧ w'.ownsRow w.heap.size 9 1 v ts.length (txtCells ts) := by
  subst hts
  exact query_Terms n (.mk 5 [] a b c) va vb vc w (bool_val ha hb hc) hs hcn hT
theorem rot_cnt (t : Tx) (a c : List Qy) (k : Nat) : cnt (.mk 5 t [] (a.drop k ++ a.take k) c) = cnt (.mk 5 t [] a c) := by rw [cnt, cnt, cntL_rot]
def goodQ (q : Qy) : Bool := smallQ q && rightB q
theorem good_facts {q : Qy} (h : goodQ q = true) : cnt q ≤ 100 ∧ shortB q = true := by
  unfold goodQ at h
  rw [Bool.and_eq_true] at h
  exact ⟨((right_iff q).1 h.2).1, (smallQ_cnt q h.1).2⟩
/-- A turn, cut down to a place in a list. -/
theorem turn_at (t : Int) (N : Nat) (hN : 0 < N) : ∃ K : Nat, K < N ∧ ((0 ≤ t.tmod N ∧ t.tmod N = (K : Int)) ∨ (t.tmod N < 0 ∧ t.tmod N = -(K : Int))) := by
  have h1 := Int.tmod_lt_of_pos t (show (0 : Int) < N by omega)
  have h2 : -(N : Int) < t.tmod N := by
    have := Int.tmod_lt_of_pos (-t) (show (0 : Int) < N by omega)
    rw [Int.neg_tmod] at this
    omega
  by_cases h : t.tmod N < 0
  · exact ⟨(-(t.tmod N)).toNat, by omega, .inr ⟨h, by omega⟩⟩
  · exact ⟨(t.tmod N).toNat, by omega, .inl ⟨by omega, by omega⟩⟩
end Go.Proofs.YtlfhgmclnapmjaaDoor
