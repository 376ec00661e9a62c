/- What the readers of chapter 8 make of bytes, step by step, and that this is what the plain reading says. No conditions. -/
import Derived.Test.YteemloillnfaeaaDoorInoPlain
namespace Go.Ino
open Go.Wir

/-- The bytes left; whether something was not there. -/
abbrev St := Tx × Bool
def numT (most : Nat) (l : Tx) : Nat := match numL most l with | some (v, _) => v | none => 0
def numD (most : Nat) (l : Tx) : Tx := match numL most l with | some (_, r) => r | none => l
def numO (most : Nat) (l : Tx) : Bool := (numL most l).isSome
/-- The reader of the program: once bad, each number is nought. -/
def numS (most : Nat) (st : St) : Nat × St := if (st.2 || !numO most st.1) = true then (0, st.1, true) else (numT most st.1, numD most st.1, false)
/-- The reader of the document's answer. -/
def numQ (most : Nat) (st : St) : Nat × St := if numO most st.1 = true then (numT most st.1, numD most st.1, st.2) else (0, st.1, true)
theorem numT_le (most : Nat) (l : Tx) : numT most l ≤ most := by
  unfold numT
  cases h : numL most l with
  | none => exact Nat.zero_le _
  | some x => exact (numL_some h).1
theorem numD_le (most : Nat) (l : Tx) : (numD most l).length ≤ l.length := by
  unfold numD
  cases h : numL most l with
  | none => exact Nat.le_refl _
  | some x => have := congrArg List.length (numL_some h).2; rw [List.length_append] at this; show x.2.length ≤ _; omega
theorem numS_le (most : Nat) (st : St) : (numS most st).1 ≤ most ∧ (numS most st).2.1.length ≤ st.1.length := by
  unfold numS
  split
  · exact ⟨Nat.zero_le _, Nat.le_refl _⟩
  · exact ⟨numT_le _ _, numD_le _ _⟩
theorem numQ_le (most : Nat) (st : St) : (numQ most st).1 ≤ most ∧ (numQ most st).2.1.length ≤ st.1.length := by
  unfold numQ
  split
  · exact ⟨numT_le _ _, numD_le _ _⟩
  · exact ⟨Nat.zero_le _, Nat.le_refl _⟩
theorem numS_bad (most : Nat) (l : Tx) : numS most (l, true) = (0, l, true) := rfl
theorem numS_ok {most : Nat} {l r : Tx} {v : Nat} (h : numL most l = some (v, r)) : numS most (l, false) = (v, r, false) := by
  unfold numS numO numT numD; simp [h]
theorem numS_no {most : Nat} {l : Tx} (h : numL most l = none) (b : Bool) : numS most (l, b) = (0, l, true) := by
  unfold numS numO; simp [h]
theorem numQ_ok {most : Nat} {l r : Tx} {v : Nat} (h : numL most l = some (v, r)) (b : Bool) : numQ most (l, b) = (v, r, b) := by
  unfold numQ numO numT numD; simp [h]
theorem numQ_no {most : Nat} {l : Tx} (h : numL most l = none) (b : Bool) : numQ most (l, b) = (0, l, true) := by
  unfold numQ numO; simp [h]
theorem numQ_mono (most : Nat) (st : St) (h : st.2 = true) : (numQ most st).2.2 = true := by unfold numQ; split <;> simp [h]
theorem numS_mono (most : Nat) (st : St) (h : st.2 = true) : (numS most st).2.2 = true := by unfold numS; simp [h]
def extS (st : St) : Ext × St := ((((numS 4096 st).1 : Int), ((numS 4096 (numS 4096 st).2).1 : Int)), (numS 4096 (numS 4096 st).2).2)
def extQ (st : St) : Ext × St := ((((numQ 4096 st).1 : Int), ((numQ 4096 (numQ 4096 st).2).1 : Int)), (numQ 4096 (numQ 4096 st).2).2)
/-- n rounds, whatever is bad. -/
def manyS {α : Type} (f : St → α × St) : Nat → St → List α × St
  | 0, st => ([], st)
  | n + 1, st => ((manyS f n st).1 ++ [(f (manyS f n st).2).1], (f (manyS f n st).2).2)
/-- n rounds, none once something is bad. -/
def manyQ {α : Type} (f : St → α × St) : Nat → St → List α × St
  | 0, st => ([], st)
  | n + 1, st => if (manyQ f n st).2.2 then manyQ f n st else ((manyQ f n st).1 ++ [(f (manyQ f n st).2).1], (f (manyQ f n st).2).2)
theorem manyS_cons {α : Type} (f : St → α × St) : ∀ n st, manyS f (n + 1) st = ((f st).1 :: (manyS f n (f st).2).1, (manyS f n (f st).2).2)
  | 0, st => rfl
  | n + 1, st => by
    rw [manyS, manyS_cons f n st]; rfl
theorem manyQ_bad {α : Type} (f : St → α × St) : ∀ n (st : St), st.2 = true → manyQ f n st = ([], st)
  | 0, st, _ => rfl
  | n + 1, st, h => by rw [manyQ, manyQ_bad f n st h]; simp [h]
theorem manyQ_cons {α : Type} (f : St → α × St) : ∀ n (st : St), st.2 = false → manyQ f (n + 1) st = ((f st).1 :: (manyQ f n (f st).2).1, (manyQ f n (f st).2).2)
  | 0, st, h => by simp [manyQ, h]
  | n + 1, st, h => by
    rw [manyQ, manyQ_cons f n st h]
    simp only
    split
    · rename_i h2; rw [manyQ, if_pos h2]
    · rename_i h2; rw [manyQ, if_neg h2]; rfl
theorem manyQ_stop {α : Type} (f : St → α × St) {k : Nat} {st : St} (h : (manyQ f k st).2.2 = true) : ∀ n, k ≤ n → manyQ f n st = manyQ f k st := by
  intro n hn
  obtain ⟨d, rfl⟩ : ∃ d, n = k + d := ⟨n - k, by omega⟩
  clear hn
  induction d with
  | zero => rfl
  | succ d ih => rw [show k + (d + 1) = (k + d) + 1 by omega, manyQ, ih, if_pos h]
theorem manyS_len {α : Type} (f : St → α × St) : ∀ n st, (manyS f n st).1.length = n
  | 0, _ => rfl
  | n + 1, st => by rw [manyS]; simp [manyS_len f n st]
theorem manyQ_len {α : Type} (f : St → α × St) : ∀ n st, (manyQ f n st).1.length ≤ n
  | 0, _ => Nat.le_refl _
  | n + 1, st => by
    have := manyQ_len f n st
    rw [manyQ]
    split
    · omega
    · simp; omega
theorem manyQ_len' {α : Type} (f : St → α × St) : ∀ n st, (manyQ f n st).2.2 = false → (manyQ f n st).1.length = n
  | 0, _, _ => rfl
  | n + 1, st, h => by
    have := manyQ_len' f n st
    rw [manyQ] at h ⊢
    split
    · rename_i h2; rw [if_pos h2] at h; rw [h2] at h; cases h
    · rename_i h2; simp; exact this (by simpa using h2)
theorem manyS_mono {α : Type} {f : St → α × St} (hf : ∀ st : St, st.2 = true → (f st).2.2 = true) : ∀ n (st : St), st.2 = true → (manyS f n st).2.2 = true
  | 0, _, h => h
  | n + 1, st, h => hf _ (manyS_mono hf n st h)
theorem manyQ_mono {α : Type} (f : St → α × St) : ∀ n (st : St), st.2 = true → (manyQ f n st).2.2 = true := fun n st h => by rw [manyQ_bad f n st h]; exact h
theorem many_le {α : Type} {f : St → α × St} {P : α → Prop} (hf : ∀ st : St, (f st).2.1.length ≤ st.1.length ∧ P (f st).1) (st : St) : ∀ n, (manyS f n st).2.1.length ≤ st.1.length ∧ ∀ x ∈ (manyS f n st).1, P x
  | 0 => ⟨Nat.le_refl _, fun _ h => by cases h⟩
  | n + 1 => by
    obtain ⟨h1, h2⟩ := many_le hf st n
    obtain ⟨h3, h4⟩ := hf (manyS f n st).2
    rw [manyS]
    refine ⟨by simp only; omega, fun x hx => ?_⟩
    rcases List.mem_append.1 hx with hx | hx
    · exact h2 x hx
    · simp at hx; subst hx; exact h4
theorem manyQ_le {α : Type} {f : St → α × St} {P : α → Prop} (hf : ∀ st : St, (f st).2.1.length ≤ st.1.length ∧ P (f st).1) (st : St) : ∀ n, (manyQ f n st).2.1.length ≤ st.1.length ∧ ∀ x ∈ (manyQ f n st).1, P x
  | 0 => ⟨Nat.le_refl _, fun _ h => by cases h⟩
  | n + 1 => by
    obtain ⟨h1, h2⟩ := manyQ_le hf st n
    obtain ⟨h3, h4⟩ := hf (manyQ f n st).2
    rw [manyQ]
    split
    · exact ⟨h1, h2⟩
    · refine ⟨by simp only; omega, fun x hx => ?_⟩
      rcases List.mem_append.1 hx with hx | hx
      · exact h2 x hx
      · simp at hx; subst hx; exact h4
theorem extS_le (st : St) : (extS st).2.1.length ≤ st.1.length ∧ smallE (extS st).1 := by
  have h1 := numS_le 4096 st
  have h2 := numS_le 4096 (numS 4096 st).2
  unfold extS smallE; simp only; omega
theorem extQ_le (st : St) : (extQ st).2.1.length ≤ st.1.length ∧ smallE (extQ st).1 := by
  have h1 := numQ_le 4096 st
  have h2 := numQ_le 4096 (numQ 4096 st).2
  unfold extQ smallE; simp only; omega
theorem extS_mono (st : St) (h : st.2 = true) : (extS st).2.2 = true := numS_mono _ _ (numS_mono _ _ h)
theorem extQ_mono (st : St) (h : st.2 = true) : (extQ st).2.2 = true := numQ_mono _ _ (numQ_mono _ _ h)
/-- As the plain reading: what it reads, or something is bad. -/
def Reads {α : Type} (r : Option (α × Tx)) (x : α × St) : Prop := match r with
  | some (a, l) => x = (a, l, false)
  | none => x.2.2 = true
theorem extsS_reads : ∀ n l, Reads (extsR n l) (manyS extS n (l, false))
  | 0, l => rfl
  | n + 1, l => by
    rw [manyS_cons]
    unfold extsR
    cases h1 : numL 4096 l with
    | none =>
      show (manyS extS n (extS (l, false)).2).2.2 = true
      refine manyS_mono extS_mono n _ ?_
      unfold extS; rw [numS_no h1]; exact numS_mono _ _ rfl
    | some x =>
      obtain ⟨a, l1⟩ := x
      cases h2 : numL 4096 l1 with
      | none =>
        simp only [h2]
        show (manyS extS n (extS (l, false)).2).2.2 = true
        refine manyS_mono extS_mono n _ ?_
        unfold extS; rw [numS_ok h1]; simp only; rw [numS_no h2]
      | some y =>
        obtain ⟨b, l2⟩ := y
        have e : extS (l, false) = (((a : Int), (b : Int)), l2, false) := by unfold extS; rw [numS_ok h1]; simp only; rw [numS_ok h2]
        rw [e]
        have ih := extsS_reads n l2
        unfold Reads at ih ⊢
        cases h3 : extsR n l2 with
        | none => rw [h3] at ih; simp only [h2, h3]; exact ih
        | some z => rw [h3] at ih; simp only at ih; simp only [h2, h3, ih]
theorem extsQ_reads : ∀ n l, Reads (extsR n l) (manyQ extQ n (l, false))
  | 0, l => rfl
  | n + 1, l => by
    rw [manyQ_cons _ _ _ rfl]
    unfold extsR
    cases h1 : numL 4096 l with
    | none =>
      show (manyQ extQ n (extQ (l, false)).2).2.2 = true
      refine manyQ_mono extQ n _ ?_
      unfold extQ; rw [numQ_no h1]; exact numQ_mono _ _ rfl
    | some x =>
      obtain ⟨a, l1⟩ := x
      cases h2 : numL 4096 l1 with
      | none =>
        simp only [h2]
        show (manyQ extQ n (extQ (l, false)).2).2.2 = true
        refine manyQ_mono extQ n _ ?_
        unfold extQ; rw [numQ_ok h1]; simp only; rw [numQ_no h2]
      | some y =>
        obtain ⟨b, l2⟩ := y
        have e : extQ (l, false) = (((a : Int), (b : Int)), l2, false) := by unfold extQ; rw [numQ_ok h1]; simp only; rw [numQ_ok h2]
        rw [e]
        have ih := extsQ_reads n l2
        unfold Reads at ih ⊢
        cases h3 : extsR n l2 with
        | none => rw [h3] at ih; simp only [h2, h3]; exact ih
        | some z => rw [h3] at ih; simp only at ih; simp only [h2, h3, ih]
def noF : Fil := ⟨[], false, 0, []⟩
/-- A file, by the program's reader; the text is there. -/
def fileT (t : Tx) (s0 : St) : Fil × St :=
  (⟨t, (numS 1 s0).1 == 1, ((numS 2147483647 (numS 1 s0).2).1 : Int), (manyS extS (numS 16 (numS 2147483647 (numS 1 s0).2).2).1 (numS 16 (numS 2147483647 (numS 1 s0).2).2).2).1⟩,
    (manyS extS (numS 16 (numS 2147483647 (numS 1 s0).2).2).1 (numS 16 (numS 2147483647 (numS 1 s0).2).2).2).2)
def fileS (st : St) : Fil × St := match toTextL st.1 with
  | some (t, r) => fileT t (r, st.2)
  | none => (noF, st.1, true)
def fileU (t : Tx) (s0 : St) : Fil × St :=
  (⟨t, (numQ 1 s0).1 == 1, ((numQ 2147483647 (numQ 1 s0).2).1 : Int), (manyQ extQ (numQ 16 (numQ 2147483647 (numQ 1 s0).2).2).1 (numQ 16 (numQ 2147483647 (numQ 1 s0).2).2).2).1⟩,
    (manyQ extQ (numQ 16 (numQ 2147483647 (numQ 1 s0).2).2).1 (numQ 16 (numQ 2147483647 (numQ 1 s0).2).2).2).2)
def fileQ (st : St) : Fil × St := match toTextL st.1 with
  | some (t, r) => fileU t (r, st.2)
  | none => (noF, st.1, true)
/-- Few enough for the walk. -/
def FewF (n : Nat) (f : Fil) : Prop := f.name.length ≤ n ∧ 0 ≤ f.size ∧ f.size ≤ 2147483647 ∧ f.ext.length ≤ 16 ∧ ∀ x ∈ f.ext, smallE x
theorem FewF.mono {n m : Nat} {f : Fil} (h : FewF n f) (hn : n ≤ m) : FewF m f := ⟨Nat.le_trans h.1 hn, h.2⟩
theorem noF_few (n : Nat) : FewF n noF := ⟨Nat.zero_le _, by decide, by decide, by decide, fun _ h => by cases h⟩
theorem fileS_le (st : St) : (fileS st).2.1.length ≤ st.1.length ∧ FewF st.1.length (fileS st).1 := by
  unfold fileS
  cases h : toTextL st.1 with
  | none => exact ⟨Nat.le_refl _, noF_few _⟩
  | some x =>
    obtain ⟨t, r⟩ := x
    obtain ⟨e1, e2⟩ := toTextL_some h
    have hr : r.length ≤ st.1.length := by have := congrArg List.length e1; rw [List.length_append] at this; omega
    have h1 := numS_le 1 (r, st.2)
    have h2 := numS_le 2147483647 (numS 1 (r, st.2)).2
    have h3 := numS_le 16 (numS 2147483647 (numS 1 (r, st.2)).2).2
    have h4 := many_le extS_le (numS 16 (numS 2147483647 (numS 1 (r, st.2)).2).2).2 (numS 16 (numS 2147483647 (numS 1 (r, st.2)).2).2).1
    show (fileT t (r, st.2)).2.1.length ≤ _ ∧ FewF _ (fileT t (r, st.2)).1
    unfold fileT FewF
    simp only at h1 ⊢
    refine ⟨by omega, e2, by omega, by omega, by rw [manyS_len]; omega, h4.2⟩
theorem fileQ_le (st : St) : (fileQ st).2.1.length ≤ st.1.length ∧ FewF st.1.length (fileQ st).1 := by
  unfold fileQ
  cases h : toTextL st.1 with
  | none => exact ⟨Nat.le_refl _, noF_few _⟩
  | some x =>
    obtain ⟨t, r⟩ := x
    obtain ⟨e1, e2⟩ := toTextL_some h
    have hr : r.length ≤ st.1.length := by have := congrArg List.length e1; rw [List.length_append] at this; omega
    have h1 := numQ_le 1 (r, st.2)
    have h2 := numQ_le 2147483647 (numQ 1 (r, st.2)).2
    have h3 := numQ_le 16 (numQ 2147483647 (numQ 1 (r, st.2)).2).2
    have h4 := manyQ_le extQ_le (numQ 16 (numQ 2147483647 (numQ 1 (r, st.2)).2).2).2 (numQ 16 (numQ 2147483647 (numQ 1 (r, st.2)).2).2).1
    have h5 := manyQ_len extQ (numQ 16 (numQ 2147483647 (numQ 1 (r, st.2)).2).2).1 (numQ 16 (numQ 2147483647 (numQ 1 (r, st.2)).2).2).2
    show (fileU t (r, st.2)).2.1.length ≤ _ ∧ FewF _ (fileU t (r, st.2)).1
    unfold fileU FewF
    simp only at h1 ⊢
    refine ⟨by omega, e2, by omega, by omega, by omega, h4.2⟩
theorem fileS_mono (st : St) (h : st.2 = true) : (fileS st).2.2 = true := by
  unfold fileS
  split
  · exact manyS_mono extS_mono _ _ (numS_mono _ _ (numS_mono _ _ (numS_mono _ _ h)))
  · rfl
theorem fileQ_mono (st : St) (h : st.2 = true) : (fileQ st).2.2 = true := by
  unfold fileQ
  split
  · exact manyQ_mono extQ _ _ (numQ_mono _ _ (numQ_mono _ _ (numQ_mono _ _ h)))
  · rfl
theorem fileS_reads (l : Tx) : Reads (fileR l) (fileS (l, false)) := by
  unfold fileR fileS
  cases h0 : toTextL l with
  | none => rfl
  | some x =>
    obtain ⟨t, l1⟩ := x
    simp only
    unfold fileT
    cases h1 : numL 1 l1 with
    | none => rw [numS_no h1]; exact manyS_mono extS_mono _ _ (numS_mono _ _ (numS_mono _ _ rfl))
    | some x =>
      obtain ⟨a, l2⟩ := x
      rw [numS_ok h1]
      simp only
      cases h2 : numL 2147483647 l2 with
      | none => rw [numS_no h2]; exact manyS_mono extS_mono _ _ (numS_mono _ _ rfl)
      | some x =>
        obtain ⟨b, l3⟩ := x
        rw [numS_ok h2]
        simp only
        cases h3 : numL 16 l3 with
        | none => rw [numS_no h3]; exact manyS_mono extS_mono _ _ rfl
        | some x =>
          obtain ⟨c, l4⟩ := x
          rw [numS_ok h3]
          simp only
          have ih := extsS_reads c l4
          unfold Reads at ih ⊢
          cases h4 : extsR c l4 with
          | none => rw [h4] at ih; exact ih
          | some z => rw [h4] at ih; simp only at ih; simp only [ih]
theorem fileQ_reads (l : Tx) : Reads (fileR l) (fileQ (l, false)) := by
  unfold fileR fileQ
  cases h0 : toTextL l with
  | none => rfl
  | some x =>
    obtain ⟨t, l1⟩ := x
    simp only
    unfold fileU
    cases h1 : numL 1 l1 with
    | none => rw [numQ_no h1]; exact manyQ_mono extQ _ _ (numQ_mono _ _ (numQ_mono _ _ rfl))
    | some x =>
      obtain ⟨a, l2⟩ := x
      rw [numQ_ok h1]
      simp only
      cases h2 : numL 2147483647 l2 with
      | none => rw [numQ_no h2]; exact manyQ_mono extQ _ _ (numQ_mono _ _ rfl)
      | some x =>
        obtain ⟨b, l3⟩ := x
        rw [numQ_ok h2]
        simp only
        cases h3 : numL 16 l3 with
        | none => rw [numQ_no h3]; exact manyQ_mono extQ _ _ rfl
        | some x =>
          obtain ⟨c, l4⟩ := x
          rw [numQ_ok h3]
          simp only
          have ih := extsQ_reads c l4
          unfold Reads at ih ⊢
          cases h4 : extsR c l4 with
          | none => rw [h4] at ih; exact ih
          | some z => rw [h4] at ih; simp only at ih; simp only [ih]
theorem filesS_reads : ∀ n l, Reads (filesR n l) (manyS fileS n (l, false))
  | 0, l => rfl
  | n + 1, l => by
    rw [manyS_cons]
    unfold filesR
    have h0 := fileS_reads l
    unfold Reads at h0
    cases h1 : fileR l with
    | none => rw [h1] at h0; exact manyS_mono fileS_mono n _ h0
    | some x =>
      obtain ⟨a, l1⟩ := x
      rw [h1] at h0
      simp only at h0
      rw [h0]
      have ih := filesS_reads n l1
      unfold Reads at ih ⊢
      cases h3 : filesR n l1 with
      | none => rw [h3] at ih; simp only [h3]; exact ih
      | some z => rw [h3] at ih; simp only at ih; simp only [h3, ih]
theorem filesQ_reads : ∀ n l, Reads (filesR n l) (manyQ fileQ n (l, false))
  | 0, l => rfl
  | n + 1, l => by
    rw [manyQ_cons _ _ _ rfl]
    unfold filesR
    have h0 := fileQ_reads l
    unfold Reads at h0
    cases h1 : fileR l with
    | none => rw [h1] at h0; exact manyQ_mono fileQ n _ h0
    | some x =>
      obtain ⟨a, l1⟩ := x
      rw [h1] at h0
      simp only at h0
      rw [h0]
      have ih := filesQ_reads n l1
      unfold Reads at ih ⊢
      cases h3 : filesR n l1 with
      | none => rw [h3] at ih; simp only [h3]; exact ih
      | some z => rw [h3] at ih; simp only at ih; simp only [h3, ih]
/-- The whole reading: the number of files, the files. -/
def allS (l : Tx) : List Fil × St := manyS fileS (numS 64 (l, false)).1 (numS 64 (l, false)).2
def allQ (l : Tx) : List Fil × St := manyQ fileQ (numQ 64 (l, false)).1 (numQ 64 (l, false)).2
def allR (l : Tx) : Option (List Fil × Tx) := match numL 64 l with
  | none => none
  | some (n, r) => filesR n r
theorem allS_reads (l : Tx) : Reads (allR l) (allS l) := by
  unfold allR allS
  cases h : numL 64 l with
  | none => rw [numS_no h]; rfl
  | some x => obtain ⟨n, r⟩ := x; rw [numS_ok h]; exact filesS_reads n r
theorem allQ_reads (l : Tx) : Reads (allR l) (allQ l) := by
  unfold allR allQ
  cases h : numL 64 l with
  | none => rw [numQ_no h]; rfl
  | some x => obtain ⟨n, r⟩ := x; rw [numQ_ok h]; exact filesQ_reads n r
theorem allR_some {l q : Tx} {fs : List Fil} (h : allR l = some (fs, q)) : l = varL fs.length ++ fs.flatMap fileL ++ q ∧ fs.length ≤ 64 := by
  unfold allR at h
  split at h
  · cases h
  rename_i n r h1
  obtain ⟨k1, e1⟩ := numL_some h1
  obtain ⟨e2, e3, _⟩ := filesR_some h
  subst e2
  exact ⟨by rw [e1, e3]; simp, k1⟩
/-- The checks behind the reading. -/
def endB (fs : List Fil) (st : St) : Bool := !st.2 && rightB fs 0 4096 && decide (4 ≤ st.1.length) && (st.1.drop 4).all (fun b => b == 0)
def endS (x : List Fil × St) : Except Int (List Fil) := if endB x.1 x.2 = true then (if x.2.1.take 4 = fixedL (crc (bytesL x.1)) then .ok x.1 else .error 8) else .error 7
theorem unp_end {s : Tx} {x : List Fil × St} (hx : Reads (allR (s.drop 4)) x) : unpL s = if s.length = 3072 ∧ s.take 4 = [67, 68, 88, 73] then endS x else .error 7 := by
  unfold unpL
  by_cases h : s.length = 3072 ∧ s.take 4 = [67, 68, 88, 73]
  · rw [if_pos h, if_pos h]
    unfold Reads allR at hx
    unfold endS endB
    cases h1 : numL 64 (s.drop 4) with
    | none => rw [h1] at hx; simp only at hx; simp [hx]
    | some y =>
      obtain ⟨n, r⟩ := y
      rw [h1] at hx
      simp only at hx ⊢
      cases h2 : filesR n r with
      | none => rw [h2] at hx; simp only at hx; simp [hx]
      | some z =>
        obtain ⟨fs, q⟩ := z
        rw [h2] at hx
        simp only at hx
        subst hx
        simp only [Bool.not_false, Bool.true_and, Bool.and_eq_true, decide_eq_true_eq, and_assoc]
  · rw [if_neg h, if_neg h]
end Go.Ino
