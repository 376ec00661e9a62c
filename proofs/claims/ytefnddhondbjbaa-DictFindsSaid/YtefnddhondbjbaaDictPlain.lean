/- The plain functions of chapter 13 (terms and what belongs to them) and their laws; no program in sight. No conditions. -/
import Derived.Test.YtefnddhondbjbaaWirePlain
import GoSem.Op.String
namespace Go.Dic
open Go.Wir

/-- A term and its value. -/
abbrev Ent := List UInt8 × List UInt8
def leB (a b : List UInt8) : Bool := Op.bytesLess a b || a == b
/-- Do the entries rise, from a term on, none too long? -/
def rises : List UInt8 → List Ent → Bool
  | _, [] => true
  | last, e :: l => if leB e.1 last then false else if 40 < e.1.length then false else if 4194304 < e.2.length then false else rises e.1 l
def right (l : List Ent) : Bool := rises [] l && decide (l.length ≤ 1048576)
theorem less_asymm : ∀ (a b : List UInt8), Op.bytesLess a b = true → Op.bytesLess b a = false
  | [], [], h => by simp [Op.bytesLess] at h
  | [], _ :: _, _ => by simp [Op.bytesLess]
  | _ :: _, [], h => by simp [Op.bytesLess] at h
  | x :: a, y :: b, h => by
    simp only [Op.bytesLess, Bool.or_eq_true, decide_eq_true_eq, Bool.and_eq_true, beq_iff_eq] at h
    simp only [Op.bytesLess, Bool.or_eq_false_iff, decide_eq_false_iff_not, Bool.and_eq_false_imp, beq_iff_eq]
    rcases h with h | ⟨rfl, h⟩
    · exact ⟨fun h' => by rw [UInt8.lt_iff_toNat_lt] at *; omega, fun e => by subst e; rw [UInt8.lt_iff_toNat_lt] at h; omega⟩
    · exact ⟨fun h' => by rw [UInt8.lt_iff_toNat_lt] at *; omega, fun _ => less_asymm a b h⟩
theorem less_irrefl (a : List UInt8) : Op.bytesLess a a = false := by
  cases h : Op.bytesLess a a with
  | false => rfl
  | true => rw [less_asymm a a h] at h; cases h
theorem less_total : ∀ (a b : List UInt8), Op.bytesLess a b = false → a ≠ b → Op.bytesLess b a = true
  | [], [], _, h => absurd rfl h
  | [], _ :: _, h, _ => by simp [Op.bytesLess] at h
  | _ :: _, [], _, _ => by simp [Op.bytesLess]
  | x :: a, y :: b, h, hne => by
    simp only [Op.bytesLess, Bool.or_eq_false_iff, decide_eq_false_iff_not, Bool.and_eq_false_imp, beq_iff_eq] at h
    simp only [Op.bytesLess, Bool.or_eq_true, decide_eq_true_eq, Bool.and_eq_true, beq_iff_eq]
    by_cases e : x = y
    · subst e
      exact .inr ⟨rfl, less_total a b (h.2 rfl) (fun e => hne (by rw [e]))⟩
    · refine .inl ?_
      have h1 := h.1
      rw [UInt8.lt_iff_toNat_lt] at *
      have : x.toNat ≠ y.toNat := fun h => e (UInt8.toNat_inj.1 h)
      omega
theorem less_trans : ∀ (a b c : List UInt8), Op.bytesLess a b = true → Op.bytesLess b c = true → Op.bytesLess a c = true
  | _, _, [], _, h => by simp [Op.bytesLess] at h
  | _, [], _ :: _, h, _ => by simp [Op.bytesLess] at h
  | [], _ :: _, _ :: _, _, _ => by simp [Op.bytesLess]
  | x :: a, y :: b, z :: c, h1, h2 => by
    simp only [Op.bytesLess, Bool.or_eq_true, decide_eq_true_eq, Bool.and_eq_true, beq_iff_eq] at *
    rcases h1 with h1 | ⟨rfl, h1⟩
    · rcases h2 with h2 | ⟨rfl, h2⟩
      · refine .inl ?_; rw [UInt8.lt_iff_toNat_lt] at *; omega
      · exact .inl h1
    · rcases h2 with h2 | ⟨rfl, h2⟩
      · exact .inl h2
      · exact .inr ⟨rfl, less_trans a b c h1 h2⟩
/-- 'at most' is 'not less the other way'. -/
theorem leB_not (a b : List UInt8) : leB a b = !Op.bytesLess b a := by
  unfold leB
  cases h : Op.bytesLess a b with
  | true => rw [less_asymm a b h]; rfl
  | false =>
    by_cases e : a = b
    · subst e; rw [h]; simp
    · rw [less_total a b h e]; simpa using e
theorem leB_nil (a : List UInt8) : leB a [] = true ↔ a = [] := by
  rw [leB_not]
  cases a <;> simp [Op.bytesLess]
end Go.Dic
