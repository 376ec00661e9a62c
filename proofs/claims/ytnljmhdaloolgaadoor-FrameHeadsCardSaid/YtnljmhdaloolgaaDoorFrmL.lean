/- What the laws of chapter 3 share: whole writes packed. No conditions. -/
import Derived.Test.YtnljmhdaloolgaaDoorFrmK
namespace Go.Proofs.YtnljmhdaloolgaaDoor
open Go.RowKit Go.Wir Go.Blk Go.Frm

theorem small_bounds {l : List Wr} (h : smallW l = true) : l.length ≤ 60 ∧ ∀ p ∈ l, p.2.length ≤ 600 := by
  unfold smallW at h
  rw [Bool.and_eq_true, decide_eq_true_eq, List.all_eq_true] at h
  exact ⟨h.1, fun p hp => of_decide_eq_true (h.2 p hp)⟩
/-- A packed list: what both sides make. -/
theorem packed_row {seq : Nat} {l : List Wr} {w : World} {base : Nat} {v : Value} (h : w.ownsRow base 9 1 v (packT seq l).length (txtCells (packT seq l))) : Row w v (txtV (packT seq l)) := own_row h
theorem packT_len (seq : Nat) (l : List Wr) : (packT seq l).length ≤ 49 := by
  unfold packT
  split
  · rename_i h
    have := packE_zero.1 h
    rw [List.length_cons, datas_length]; omega
  · simp
theorem bounds64 {z : Int} (hc : (Lit.int .i64 z).wf = true) : -9223372036854775808 ≤ z ∧ z ≤ 9223372036854775807 := by
  simp [Lit.wf, IntKind.min, IntKind.max, IntKind.signed, IntKind.bits] at hc
  omega
theorem boundsu64 {z : Int} (hc : (Lit.int .u64 z).wf = true) : 0 ≤ z ∧ z ≤ 18446744073709551615 := by
  simp [Lit.wf, IntKind.min, IntKind.max, IntKind.signed, IntKind.bits] at hc
  omega
def FitW (l : List Wr) : Prop := ∀ p ∈ l, -9223372036854775808 ≤ p.1 ∧ p.1 ≤ 9223372036854775807 ∧ p.2.length ≤ 9223372036854775807
theorem wr_bounds {l : List Wr} (h : ∀ e ∈ l, (Lit.int .i64 e.1).wf = true ∧ e.2.length ≤ maxLen) : FitW l := fun p hp => by
  have h1 := bounds64 (h p hp).1
  have h2 := (h p hp).2
  unfold maxLen at h2
  exact ⟨h1.1, h1.2, by omega⟩
theorem fine_fit {l : List Wr} (h : Fine l) : FitW l := fun p hp => ⟨by have := (h p hp).1; omega, by have := (h p hp).1; omega, by have := (h p hp).2; omega⟩
theorem row_prefix {w : World} {g cap : Nat} {l : List Txt} (hg : g < w.heap.size) (hc : l.length ≤ cap) (h : ∀ i (hi : i < l.length), w.cell? ⟨g, i, none⟩ = some (.string (B l[i]))) (k : Nat) (hk : k ≤ l.length) : Row w (.slice (some ⟨g, 0, none⟩) k cap) (txtV (l.take k)) := by
  by_cases h0 : k = 0
  · subst h0
    exact .inl ⟨_, _, rfl, rfl⟩
  · have hl : (txtV (l.take k)).length = k := by rw [txtV_length, List.length_take]; omega
    refine .inr ⟨g, 0, cap, by rw [hl], by rw [hl]; omega, hg, fun i hi => ?_⟩
    rw [hl] at hi
    rw [Nat.zero_add, h i (by omega)]
    simp [txtV]
/-- What packing whole writes answers: the head, and the data. -/
structure Packed (seq : Nat) (l : List Wr) (H : Txt) (ds : List Txt) : Prop where
  pack : packT seq (wholeW l) = H :: ds
  len : H.length = 256
  dlen : ds.length = (wholeW l).length
  data : ds = datas (wholeW l)
  head : H = headT seq (ats (wholeW l)) ds
theorem packed_of (seq : Nat) (l : List Wr) (h0 : 0 < l.length) : Packed seq l (headT seq (ats (wholeW l)) (datas (wholeW l))) (datas (wholeW l)) := by
  have hl := wholeW_length l
  exact ⟨packT_fine seq (by omega) (by omega) (whole_fine l), headT_length _ _ _ (by rw [ats_length]; omega), datas_length _, rfl, rfl⟩
theorem packE_whole (l : List Wr) (h0 : 0 < l.length) : packE (wholeW l) = 0 := packE_zero.2 ⟨by rw [wholeW_length]; omega, by rw [wholeW_length]; omega, whole_fine l⟩
end Go.Proofs.YtnljmhdaloolgaaDoor
