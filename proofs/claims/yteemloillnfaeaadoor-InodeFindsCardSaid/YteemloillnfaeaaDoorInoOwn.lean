/- Chapter 8: extents that a call owns; what of a directory is right. No conditions. -/
import Derived.Test.YteemloillnfaeaaDoorInoMem
import Derived.Test.YteemloillnfaeaaDoorInoLaws
import Derived.Sort.OwnSorted
import Derived.Lib.OwnBridge
namespace Go.Proofs.YteemloillnfaeaaDoor
open Go.RowKit Go.Ino

def extCells (l : List Ext) : List Value := l.flatMap fun x => [.int .i64 x.1, .int .i64 x.2]
theorem extCells_append (a b : List Ext) : extCells (a ++ b) = extCells a ++ extCells b := by simp [extCells]
theorem extCells_length (l : List Ext) : (extCells l).length = l.length * 2 := by
  unfold extCells
  induction l with
  | nil => rfl
  | cons x l ih => simp [ih]; omega
theorem extCells_one (l : List Ext) : ∀ u ∈ extCells l, u.oneCell' = true := by
  intro u hu
  unfold extCells at hu
  obtain ⟨x, _, hx⟩ := List.mem_flatMap.1 hu
  simp at hx
  rcases hx with rfl | rfl <;> simp [Value.oneCell']
theorem extCells_get (es : List Ext) (i : Nat) (h : i < es.length) : (extCells es)[i * 2]? = some (.int .i64 es[i].1) ∧ (extCells es)[i * 2 + 1]? = some (.int .i64 es[i].2) := by
  unfold extCells
  induction es generalizing i with
  | nil => simp at h
  | cons e es ih =>
    cases i with
    | zero => simp
    | succ i =>
      have := ih i (by simpa using h)
      simp only [List.flatMap_cons, List.getElem_cons_succ]
      rw [show (i + 1) * 2 = i * 2 + 2 by omega]
      simpa using this
theorem own_exts {w : World} {base : Nat} {v : Value} {l : List Ext} (h : w.ownsRow base 46 2 v l.length (extCells l)) : Exts w v l := by
  rcases h.2 with ⟨rfl, h0⟩ | ⟨g, cap, cur, rfl, hg, hh, h1, h2, h3, h4⟩
  · exact ⟨none, 0, by rw [h0], fun _ => rfl, fun i hi => by omega⟩
  · refine ⟨some ⟨g, 0, none⟩, cap, rfl, fun h => (by cases h), fun i hi => ⟨g, 0, rfl, (h.lt g rfl).2, ?_, ?_⟩⟩
    · rw [Lib.cell_of_heap hh, Nat.zero_add]
      have : cur.toList[i * 2]? = (extCells l)[i * 2]? := by rw [← h4, List.getElem?_take, if_pos (by omega)]
      rw [← Array.getElem?_toList, this, (extCells_get l i hi).1]
    · rw [Lib.cell_of_heap hh, Nat.zero_add]
      have : cur.toList[i * 2 + 1]? = (extCells l)[i * 2 + 1]? := by rw [← h4, List.getElem?_take, if_pos (by omega)]
      rw [← Array.getElem?_toList, this, (extCells_get l i hi).2]
theorem right_len {l : List Fil} {a b : Int} (h : 64 < l.length) : rightB l a b = false := by
  rw [← Bool.not_eq_true, rightB_iff]; intro h2; omega
theorem right_rise {l : List Fil} {a b : Int} (h : riseB l = false) : rightB l a b = false := by
  unfold rightB; rw [h]; simp
theorem right_file {l : List Fil} {a b : Int} {f : Fil} (hf : f ∈ l) (h : nameB f.name = false ∨ fileB (max a 0) (min b 4096) f = false) : rightB l a b = false := by
  rw [← Bool.not_eq_true, rightB_iff]
  intro h2
  have := h2.2.2.1 f hf
  rcases h with h | h
  · rw [h] at this; exact absurd this.1 (by simp)
  · rw [h] at this; exact absurd this.2 (by simp)
def GoodUp (a b : Int) (l : List Fil) : Prop := ∀ f ∈ l, nameB f.name = true ∧ fileB a b f = true
theorem GoodUp.small {a b : Int} {l : List Fil} (h : GoodUp a b l) (ha : 0 ≤ a) (hb : b ≤ 4096) : (∀ x ∈ l.flatMap Fil.ext, smallE x ∧ 1 ≤ x.2) ∧ (l.flatMap Fil.ext).length ≤ 16 * l.length := by
  induction l with
  | nil => simp
  | cons f l ih =>
    obtain ⟨i1, i2⟩ := ih fun g hg => h g (by simp [hg])
    have hf := (h f (by simp)).2
    have hf16 : f.ext.length ≤ 16 := by
      unfold fileB at hf
      simp only [Bool.and_eq_true, decide_eq_true_eq] at hf
      exact hf.1.1.2
    refine ⟨fun x hx => ?_, ?_⟩
    · rw [List.flatMap_cons, List.mem_append] at hx
      rcases hx with hx | hx
      · have := (extB_iff _ _ _).1 (fileB_ext hf x hx)
        unfold smallE; omega
      · exact i1 x hx
    · rw [List.flatMap_cons, List.length_append, List.length_cons]; omega
theorem right_end {l p : List Ext} {fs : List Fil} {a b : Int} (h64 : fs.length ≤ 64) (hr : riseB fs = true) (hg : GoodUp (max a 0) (min b 4096) fs) (hl : l = fs.flatMap Fil.ext) (hp : p.Perm l) (hs : p.Pairwise fun a b => a.1 ≤ b.1) :
    rightB fs a b = true ↔ ∀ i (h : i + 1 < p.length), (p[i]'(by omega)).1 + (p[i]'(by omega)).2 ≤ p[i + 1].1 := by
  subst hl
  have hsm := hg.small (by omega) (by omega)
  rw [apart_sorted hp hs (fun x hx => (hsm.1 x hx).2), rightB_iff]
  unfold riseB at hr
  exact ⟨fun h => h.2.2.2, fun h => ⟨h64, of_decide_eq_true hr, hg, h⟩⟩
theorem exts_news {w : World} {oa : Option Addr} {c : Nat} {l : List Ext} (h : Exts w (.slice oa l.length c) l) : ∀ ad, oa = some ad → ∀ j u, (extCells l)[j]? = some u → w.cell? (ad.add j) = some u := by
  obtain ⟨oa', c', e, _, hc⟩ := h
  simp only [Value.slice.injEq, true_and] at e
  obtain ⟨rfl, rfl⟩ := e
  intro ad ea j u hu
  have hj : j < l.length * 2 := by
    rcases Nat.lt_or_ge j (l.length * 2) with h | h
    · exact h
    · rw [List.getElem?_eq_none (by rw [extCells_length]; exact h)] at hu; cases hu
  obtain ⟨b, off, e, _, k1, k2⟩ := hc (j / 2) (by omega)
  rw [e] at ea
  cases ea
  have e1 : (⟨b, off, none⟩ : Addr).add j = ⟨b, off + j, none⟩ := by unfold Addr.add; split <;> simp_all
  rw [e1]
  obtain ⟨g1, g2⟩ := extCells_get l (j / 2) (by omega)
  rcases Nat.mod_two_eq_zero_or_one j with hm | hm
  · rw [show j / 2 * 2 = j by omega] at g1 k1
    rw [hu] at g1; cases g1; exact k1
  · rw [show j / 2 * 2 + 1 = j by omega] at g2
    rw [Nat.add_assoc, show j / 2 * 2 + 1 = j by omega] at k2
    rw [hu] at g2; cases g2; exact k2
theorem below_own {K base size n : Nat} {W A C : World} {e : TypeId} {v : Value} {xs : List Value} (h : Below K W A) (ho : A.ownsRow base e size v n xs) (hg : A.grownBy C v.ownBlock) (hn : K ≤ base) (hK : K ≤ A.heap.size) : Below K W C := by
  refine h.grown hg hK fun j ej => ?_
  have := (ho.lt j ej).1
  omega
theorem own_below {w w' : World} {base : Nat} {e : TypeId} {size : Nat} {v : Value} {n : Nat} {xs : List Value} (h : w.ownsRow base e size v n xs) (b : Below w.heap.size w w') : w'.ownsRow base e size v n xs := by
  refine ⟨h.1, ?_⟩
  rcases h.2 with hn | ⟨g, cap, cur, rfl, hb, hg, h3⟩
  · exact .inl hn
  · exact .inr ⟨g, cap, cur, rfl, hb, (b.block g (h.lt g rfl).2).trans hg, h3⟩
theorem own_form {w : World} {base : Nat} {e : TypeId} {size : Nat} {v : Value} {n : Nat} {xs : List Value} (h : w.ownsRow base e size v n xs) : ∃ a c, v = .slice a n c := by
  rcases h.2 with ⟨rfl, h0⟩ | ⟨g, cap, cur, rfl, _⟩
  · exact ⟨none, 0, by rw [h0]⟩
  · exact ⟨_, _, rfl⟩
theorem file_16 {a b : Int} {f : Fil} (h : fileB a b f = true) : f.ext.length ≤ 16 := by
  unfold fileB at h
  simp only [Bool.and_eq_true, decide_eq_true_eq] at h
  exact h.1.1.2
end Go.Proofs.YteemloillnfaeaaDoor
