/- A text of which nothing is left when bytes of a set are cut off at both ends. No conditions. -/
import Derived.Test.YteemloillnfaeaaDoorInoPlain
import Derived.Lib.SlTrimSet
namespace Go.Ino
open Go.Lib

theorem dropWhile_nil {p : UInt8 → Bool} {l : Tx} : l.dropWhile p = [] ↔ l.all p = true := by
  induction l with
  | nil => simp
  | cons a l ih =>
    rw [List.dropWhile_cons, List.all_cons]
    by_cases h : p a = true
    · rw [if_pos h, ih, h, Bool.true_and]
    · rw [if_neg h]; simp [h]
theorem trim_nil (l cs : Tx) : trimS l cs = [] ↔ l.all (cs.contains ·) = true := by
  unfold trimS trimLeftS
  rw [dropWhile_nil]
  unfold trimRightS
  rw [List.all_reverse]
  constructor
  · intro h
    rw [← List.all_reverse]
    have e := List.takeWhile_append_dropWhile (p := (cs.contains ·)) (l := l.reverse)
    rw [← e, List.all_append, Bool.and_eq_true]
    refine ⟨?_, h⟩
    rw [List.all_eq_true]
    intro x hx
    have := List.all_takeWhile (p := (cs.contains ·)) (l := l.reverse)
    rw [List.all_eq_true] at this
    exact this x hx
  · intro h
    rw [List.all_eq_true] at *
    intro x hx
    exact h x (by have := (List.dropWhile_sublist (cs.contains ·) (l := l.reverse)).subset hx; simpa using this)
def nameS : Tx := [97, 98, 99, 100, 101, 102, 103, 104, 105, 106, 107, 108, 109, 110, 111, 112, 113, 114, 115, 116, 117, 118, 119, 120, 121, 122, 48, 49, 50, 51, 52, 53, 54, 55, 56, 57, 46, 45, 95]
theorem nameS_at (n : Nat) (h : n < 256) : nameS.contains (UInt8.ofNat n) = charB (UInt8.ofNat n) := by
  have hall : ((List.range 256).all fun n => nameS.contains (UInt8.ofNat n) == charB (UInt8.ofNat n)) = true := by decide +kernel
  simpa using List.all_eq_true.1 hall n (List.mem_range.2 h)
theorem nameS_char (c : UInt8) : nameS.contains c = charB c := by
  have := nameS_at c.toNat c.toNat_lt
  rwa [show UInt8.ofNat c.toNat = c by simp] at this
/-- What inode.Name asks. -/
theorem nameB_trim (s : Tx) : nameB s = (!(s == []) && (decide (s.length ≤ 24) && (trimS s nameS == []))) := by
  unfold nameB
  have h1 : (trimS s nameS == []) = s.all charB := by
    rw [Bool.eq_iff_iff, beq_iff_eq, trim_nil]
    have : (fun x => nameS.contains x) = charB := funext nameS_char
    rw [show (nameS.contains ·) = charB from this]
  rw [h1, Bool.and_assoc]
  congr 1
  cases s <;> simp
end Go.Ino
