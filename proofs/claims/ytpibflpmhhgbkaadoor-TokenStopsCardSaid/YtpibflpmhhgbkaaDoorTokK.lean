/- Facts of tokens that the laws share; rows of tokens as what is appended. No conditions. -/
import Derived.Test.YtpibflpmhhgbkaaDoorTokH
import Derived.Test.YtpibflpmhhgbkaaDoorTokJoin
import Derived.Test.YtpibflpmhhgbkaaDoorStepAny
import Derived.Sort.Walk0
namespace Go.Proofs.YtpibflpmhhgbkaaDoor
open Go.RowKit Go.Utf Go.Lib

theorem less_B (x t : Tx) : Op.bytesLess (B x).toList (B t).toList = decide (x < t) := by rw [toList_B, toList_B, Go.Proofs.bytesLess_eq]
theorem by_hole3 {α β γ : Type} {H : α → β → γ → Prop} {G : Prop} (h : ∃ Z : α → β → γ → Prop, (∀ a b c, H a b c → Z a b c) ∧ ((∀ a b c, H a b c → Z a b c) → G)) : G := let ⟨_, h1, h2⟩ := h; h2 h1
theorem tok_facts {l : List UInt8} {ts : List (List UInt8 × Nat)} (h : tokensL l = ts) :
    (∀ i j (hij : i < j) (hj : j < ts.length), (ts[i]'(Nat.lt_trans hij hj)).2 < ts[j].2) ∧ (∀ i (hi : i < ts.length), i ≤ ts[i].2) ∧ (∀ i (hi : i < ts.length), ts[i].1.length ≤ 40 ∧ ts[i].2 < l.length) ∧ ∀ x ∈ ts, tokensL x.1 = [(x.1, 0)] := by
  have hr : ∀ i j (hij : i < j) (hj : j < ts.length), (ts[i]'(Nat.lt_trans hij hj)).2 < ts[j].2 := by
    intro i j hij hj
    have hp : ts.Pairwise fun a b => a.2 < b.2 := by rw [← h]; exact toks_rise 0 (wordsL l)
    exact List.pairwise_iff_getElem.1 hp i j (Nat.lt_trans hij hj) hj hij
  refine ⟨hr, ?_, ?_, ?_⟩
  · intro i
    induction i with
    | zero => intro _; omega
    | succ i ih =>
      intro hi
      have h1 := hr i (i + 1) (by omega) hi
      have := ih (by omega)
      omega
  · intro i hi
    have hm : ts[i] ∈ toksFrom 0 (wordsL l) := by
      have h2 : toksFrom 0 (wordsL l) = ts := h
      rw [h2]
      exact List.getElem_mem hi
    obtain ⟨h1, _, _, h2⟩ := toks_mem hm
    unfold goodB at h1
    rw [Bool.and_eq_true, decide_eq_true_eq] at h1
    have := words_count l
    exact ⟨h1.1, by omega⟩
  · intro x hx
    rw [← h] at hx
    exact tokens_term hx
theorem Toks.grown {w w' : World} {oa : Option Addr} {c : Nat} {l : List (List UInt8 × Nat)} {row : Option Nat} (h : Toks w (.slice oa l.length c) l) (hg : w.grownBy w' row) (hne : ∀ a, oa = some a → some a.block ≠ row) : Toks w' (.slice oa l.length c) l := by
  obtain ⟨oa', c', h1, h2⟩ := h
  simp only [Value.slice.injEq, true_and] at h1
  obtain ⟨rfl, rfl⟩ := h1
  refine ⟨oa, c, rfl, fun i hi => ?_⟩
  obtain ⟨b, off, e, hb, k1, k2⟩ := h2 i hi
  have hn := hne _ e
  exact ⟨b, off, e, Nat.lt_of_lt_of_le hb hg.size, (hg.cell_far ⟨b, off + i * 2, none⟩ hb hn).trans k1, (hg.cell_far ⟨b, off + i * 2 + 1, none⟩ hb hn).trans k2⟩
def FarV (v : Value) (oa : Option Addr) : Prop := ∀ a, oa = some a → some a.block ≠ v.ownBlock
theorem own_toks' {w : World} {base n : Nat} {v : Value} {l : List (List UInt8 × Nat)} (h : w.ownsRow base 32 2 v n (tokCells l)) (hn : n = l.length) : Toks w v l := by
  subst hn; exact own_toks h
theorem tokCells_one (l : List (List UInt8 × Nat)) : ∀ u ∈ tokCells l, u.oneCell' = true := by
  intro u hu
  unfold tokCells at hu
  obtain ⟨x, _, hx⟩ := List.mem_flatMap.1 hu
  simp at hx
  rcases hx with rfl | rfl <;> simp [Value.oneCell']
theorem tokCells_length (l : List (List UInt8 × Nat)) : (tokCells l).length = l.length * 2 := by
  unfold tokCells
  induction l with
  | nil => rfl
  | cons x l ih => simp [ih]; omega
/-- A call's own row of tokens as what is appended. -/
theorem own_news {w : World} {base : Nat} {v : Value} {l : List (List UInt8 × Nat)} (h : w.ownsRow base 32 2 v l.length (tokCells l)) :
    ∃ oa c, v = .slice oa l.length c ∧ (oa = none → l.length = 0 ∧ c = 0) ∧ ∀ ad, oa = some ad → ∀ j u, (tokCells l)[j]? = some u → w.cell? (ad.add j) = some u := by
  rcases h.2 with ⟨rfl, h0⟩ | ⟨g, cap, cur, rfl, _⟩
  · exact ⟨none, 0, by rw [h0], fun _ => ⟨h0, rfl⟩, fun ad h => (by cases h)⟩
  · refine ⟨_, _, rfl, fun h => (by cases h), fun ad e => ?_⟩
    cases e
    exact h.cells (g := g) rfl
theorem own_news' {w : World} {base : Nat} {oa : Option Addr} {c : Nat} {l : List (List UInt8 × Nat)} (h : w.ownsRow base 32 2 (.slice oa l.length c) l.length (tokCells l)) :
    (oa = none → l.length = 0 ∧ c = 0) ∧ ∀ ad, oa = some ad → ∀ j u, (tokCells l)[j]? = some u → w.cell? (ad.add j) = some u := by
  obtain ⟨oa', c', e, h1, h2⟩ := own_news h
  simp only [Value.slice.injEq, true_and] at e
  obtain ⟨rfl, rfl⟩ := e
  exact ⟨h1, h2⟩
theorem terms_count (l : List UInt8) : (termsL l).length ≤ (tokensL l).length := by
  have := Lib.compact_length_le (((tokensL l).map Prod.fst).mergeSort fun x y => decide (x ≤ y))
  unfold termsL
  rw [List.length_mergeSort, List.length_map] at this
  exact this
theorem terms_none {st : List UInt8} (h : tokensL st = []) : termsL (L (B st)) = [] := by
  rw [L_B]
  refine terms_is List.Pairwise.nil (fun x => ?_)
  rw [h]; simp
end Go.Proofs.YtpibflpmhhgbkaaDoor
