/- The plain functions of chapter 8 (the directory) and their laws; no program in sight. No conditions. -/
import Derived.Test.YteemloillnfaeaaDoorWirePlain
namespace Go.Ino
open Go.Wir

abbrev Tx := List UInt8
abbrev Ext := Int × Int
/-- A file. -/
structure Fil where
  name : Tx
  shut : Bool
  size : Int
  ext : List Ext
def charB (c : UInt8) : Bool := decide (97 ≤ c.toNat ∧ c.toNat ≤ 122) || (decide (48 ≤ c.toNat ∧ c.toNat ≤ 57) || (c.toNat == 46 || (c.toNat == 45 || c.toNat == 95)))
def nameB (s : Tx) : Bool := decide (1 ≤ s.length) && decide (s.length ≤ 24) && s.all charB
def extB (first blocks : Int) (x : Ext) : Bool := decide (1 ≤ x.2) && decide (first ≤ x.1) && decide (x.1 < blocks) && decide (x.2 ≤ blocks - x.1)
def sumC (l : List Ext) : Int := (l.map Prod.snd).sum
def fileB (first blocks : Int) (f : Fil) : Bool :=
  decide (0 ≤ f.size) && decide (f.size ≤ 2147483647) && decide (f.ext.length ≤ 16) && f.ext.all (extB first blocks) && decide (sumC f.ext = (f.size + 255) / 256)
def offB (x y : Ext) : Bool := !(decide (x.1 < y.1 + y.2) && decide (y.1 < x.1 + x.2))
def riseB (l : List Fil) : Bool := decide (l.Pairwise fun a b => a.name < b.name)
def apartB (l : List Ext) : Bool := decide (l.Pairwise fun a b => offB a b = true)
def rightB (l : List Fil) (first blocks : Int) : Bool :=
  decide (l.length ≤ 64) && riseB l && l.all (fun f => nameB f.name && fileB (max first 0) (min blocks 4096) f) && apartB (l.flatMap Fil.ext)
theorem rightB_iff (l : List Fil) (first blocks : Int) : rightB l first blocks = true ↔ l.length ≤ 64 ∧ (l.Pairwise fun a b => a.name < b.name) ∧ (∀ f ∈ l, nameB f.name = true ∧ fileB (max first 0) (min blocks 4096) f = true) ∧ (l.flatMap Fil.ext).Pairwise fun a b => offB a b = true := by
  unfold rightB riseB apartB
  simp only [Bool.and_eq_true, decide_eq_true_eq, List.all_eq_true, and_assoc]
theorem offB_comm (x y : Ext) : offB x y = offB y x := by unfold offB; rw [Bool.and_comm]
/-- Sorted by where they begin, extents are apart just where each ends ahead of the next one. -/
theorem apart_sorted {all p : List Ext} (hp : p.Perm all) (hs : p.Pairwise fun a b => a.1 ≤ b.1) (hc : ∀ x ∈ all, 1 ≤ x.2) :
    (∀ i (h : i + 1 < p.length), (p[i]'(by omega)).1 + (p[i]'(by omega)).2 ≤ p[i + 1].1) ↔ all.Pairwise fun a b => offB a b = true := by
  rw [← hp.pairwise_iff (fun {x y} h => by rw [offB_comm]; exact h)]
  have hc' : ∀ i (h : i < p.length), 1 ≤ (p[i]).2 := fun i h => hc _ (hp.mem_iff.1 (List.getElem_mem h))
  rw [List.pairwise_iff_getElem]
  rw [List.pairwise_iff_getElem] at hs
  constructor
  · intro h i j hi hj hij
    have h1 := h i (by omega)
    have h2 : (p[i + 1]'(by omega)).1 ≤ p[j].1 := by
      by_cases e : i + 1 = j
      · subst e; omega
      · exact hs (i + 1) j (by omega) hj (by omega)
    unfold offB
    rw [Bool.not_eq_true', Bool.and_eq_false_iff]
    right
    rw [decide_eq_false_iff_not]; omega
  · intro h i hi
    have h1 := h i (i + 1) (by omega) hi (by omega)
    have h2 := hs i (i + 1) (by omega) hi (by omega)
    have h3 := hc' (i + 1) hi
    unfold offB at h1
    rw [Bool.not_eq_true', Bool.and_eq_false_iff] at h1
    rcases h1 with h1 | h1 <;> rw [decide_eq_false_iff_not] at h1 <;> omega
/-- Names that rise one by one rise all. -/
theorem rise_all {l : List Fil} (h : ∀ i (hi : i + 1 < l.length), (l[i]'(by omega)).name < l[i + 1].name) : l.Pairwise fun a b => a.name < b.name := by
  rw [List.pairwise_iff_getElem]
  intro i j hi hj hij
  obtain ⟨d, rfl⟩ : ∃ d, j = i + 1 + d := ⟨j - i - 1, by omega⟩
  induction d with
  | zero => exact h i (by omega)
  | succ d ih => exact List.lt_trans (ih (by omega) (by omega)) (h (i + 1 + d) (by omega))
/-- The place of a name. -/
def placeL (l : List Fil) (t : Tx) : Nat := (l.takeWhile fun f => decide (f.name < t)).length
def foundB (l : List Fil) (t : Tx) : Bool := match l[placeL l t]? with | some f => f.name == t | none => false
theorem place_le (l : List Fil) (t : Tx) : placeL l t ≤ l.length := List.Sublist.length_le (List.takeWhile_sublist _)
theorem place_lo {l : List Fil} {t : Tx} : ∀ i (_ : i < placeL l t), ∃ h2 : i < l.length, l[i].name < t := by
  unfold placeL
  induction l with
  | nil => intro i h; simp at h
  | cons f l ih =>
    intro i h
    rw [List.takeWhile_cons] at h
    split at h
    · rename_i hf
      cases i with
      | zero => exact ⟨by simp, by simpa using hf⟩
      | succ i =>
        obtain ⟨h2, h3⟩ := ih i (by simpa using h)
        exact ⟨by simpa using h2, by simpa using h3⟩
    · simp at h
theorem place_at {l : List Fil} {t : Tx} : ∀ h : placeL l t < l.length, ¬ l[placeL l t].name < t := by
  unfold placeL
  induction l with
  | nil => intro h; simp at h
  | cons f l ih =>
    by_cases hf : f.name < t
    · have e : (f :: l).takeWhile (fun f => decide (f.name < t)) = f :: l.takeWhile (fun f => decide (f.name < t)) := by rw [List.takeWhile_cons, if_pos (by simpa using hf)]
      intro h
      simp only [e, List.length_cons, List.getElem_cons_succ]
      exact ih (by simpa [e] using h)
    · have e : (f :: l).takeWhile (fun f => decide (f.name < t)) = [] := by rw [List.takeWhile_cons, if_neg (by simpa using hf)]
      intro h
      simp only [e, List.length_nil, List.getElem_cons_zero]
      exact hf
theorem place_is {l : List Fil} {t : Tx} {k : Nat} (hk : k ≤ l.length) (h1 : ∀ i (_ : i < k) (h2 : i < l.length), l[i].name < t) (h2 : ∀ h : k < l.length, ¬ l[k].name < t) : placeL l t = k := by
  rcases Nat.lt_trichotomy (placeL l t) k with h | h | h
  · exact absurd (h1 _ h (by omega)) (place_at (by omega))
  · exact h
  · obtain ⟨h3, h4⟩ := place_lo k h
    exact absurd h4 (h2 h3)

/-! ### bytes -/
def extL (x : Ext) : Tx := varL x.1.toNat ++ varL x.2.toNat
def fileL (f : Fil) : Tx := textL f.name ++ varL (if f.shut then 1 else 0) ++ varL f.size.toNat ++ varL f.ext.length ++ f.ext.flatMap extL
def bytesL (l : List Fil) : Tx := [67, 68, 88, 73] ++ varL l.length ++ l.flatMap fileL
def wholeL (l : List Fil) : Tx := bytesL l ++ fixedL (crc (bytesL l))
def packE (l : List Fil) : Int := if rightB l 0 4096 then (if (wholeL l).length ≤ 3072 then 0 else 5) else 1
def packT (l : List Fil) : Tx := if packE l = 0 then wholeL l ++ List.replicate (3072 - (wholeL l).length) 0 else []
def numL (most : Nat) (l : Tx) : Option (Nat × Tx) := match toVarL l with
  | some (v, r) => if v ≤ most then some (v, r) else none
  | none => none
theorem numL_some {most : Nat} {l r : Tx} {v : Nat} (h : numL most l = some (v, r)) : v ≤ most ∧ l = varL v ++ r := by
  unfold numL at h
  split at h
  · rename_i v' r' hv
    split at h
    · simp only [Option.some.injEq, Prod.mk.injEq] at h
      obtain ⟨rfl, rfl⟩ := h
      exact ⟨by assumption, (toVarL_some hv).2⟩
    · cases h
  · cases h
theorem numL_var {most v : Nat} (hv : v ≤ most) (hm : most < 18446744073709551616) (r : Tx) : numL most (varL v ++ r) = some (v, r) := by
  unfold numL
  rw [toVarL_varL v r (by omega)]
  simp [hv]
def extsR : Nat → Tx → Option (List Ext × Tx)
  | 0, l => some ([], l)
  | n + 1, l => match numL 4096 l with
    | none => none
    | some (a, l1) => match numL 4096 l1 with
      | none => none
      | some (b, l2) => match extsR n l2 with
        | none => none
        | some (xs, r) => some (((a : Int), (b : Int)) :: xs, r)
def smallE (x : Ext) : Prop := 0 ≤ x.1 ∧ x.1 ≤ 4096 ∧ 0 ≤ x.2 ∧ x.2 ≤ 4096
theorem extsR_some : ∀ {n : Nat} {l r : Tx} {xs : List Ext}, extsR n l = some (xs, r) → xs.length = n ∧ l = xs.flatMap extL ++ r ∧ ∀ x ∈ xs, smallE x
  | 0, l, r, xs, h => by
    simp only [extsR, Option.some.injEq, Prod.mk.injEq] at h
    obtain ⟨rfl, rfl⟩ := h
    simp
  | n + 1, l, r, xs, h => by
    unfold extsR at h
    split at h
    · cases h
    rename_i a l1 h1
    split at h
    · cases h
    rename_i b l2 h2
    split at h
    · cases h
    rename_i ys r' h3
    simp only [Option.some.injEq, Prod.mk.injEq] at h
    obtain ⟨rfl, rfl⟩ := h
    obtain ⟨e1, e2, e3⟩ := extsR_some h3
    obtain ⟨a1, a2⟩ := numL_some h1
    obtain ⟨b1, b2⟩ := numL_some h2
    refine ⟨by simp [e1], ?_, ?_⟩
    · rw [a2, b2, e2]; simp [extL]
    · intro x hx
      rcases List.mem_cons.1 hx with rfl | hx
      · unfold smallE; simp only; omega
      · exact e3 x hx
theorem extsR_back : ∀ (xs : List Ext) (r : Tx), (∀ x ∈ xs, smallE x) → extsR xs.length (xs.flatMap extL ++ r) = some (xs, r)
  | [], r, _ => rfl
  | x :: xs, r, h => by
    have hx := h x (by simp)
    unfold smallE at hx
    have e : (x :: xs).flatMap extL ++ r = varL x.1.toNat ++ (varL x.2.toNat ++ (xs.flatMap extL ++ r)) := by simp [extL]
    rw [e, List.length_cons]
    unfold extsR
    rw [numL_var (by omega) (by omega)]
    simp only
    rw [numL_var (by omega) (by omega)]
    simp only
    rw [extsR_back xs r (fun y hy => h y (by simp [hy]))]
    obtain ⟨a, b⟩ := x
    simp only at hx ⊢
    rw [show ((a.toNat : Nat) : Int) = a by omega, show ((b.toNat : Nat) : Int) = b by omega]
def fileR (l : Tx) : Option (Fil × Tx) := match toTextL l with
  | none => none
  | some (nm, l1) => match numL 1 l1 with
    | none => none
    | some (sl, l2) => match numL 2147483647 l2 with
      | none => none
      | some (sz, l3) => match numL 16 l3 with
        | none => none
        | some (n, l4) => match extsR n l4 with
          | none => none
          | some (xs, r) => some (⟨nm, sl == 1, (sz : Int), xs⟩, r)
def smallF (f : Fil) : Prop := 0 ≤ f.size ∧ f.size ≤ 2147483647 ∧ f.ext.length ≤ 16 ∧ ∀ x ∈ f.ext, smallE x
theorem fileR_some {l r : Tx} {f : Fil} (h : fileR l = some (f, r)) : l = fileL f ++ r ∧ smallF f ∧ f.name.length ≤ l.length := by
  unfold fileR at h
  split at h
  · cases h
  rename_i nm l1 h1
  split at h
  · cases h
  rename_i sl l2 h2
  split at h
  · cases h
  rename_i sz l3 h3
  split at h
  · cases h
  rename_i n l4 h4
  split at h
  · cases h
  rename_i xs r' h5
  simp only [Option.some.injEq, Prod.mk.injEq] at h
  obtain ⟨rfl, rfl⟩ := h
  obtain ⟨e1, e1'⟩ := toTextL_some h1
  obtain ⟨b2, e2⟩ := numL_some h2
  obtain ⟨b3, e3⟩ := numL_some h3
  obtain ⟨b4, e4⟩ := numL_some h4
  obtain ⟨b5, e5, b6⟩ := extsR_some h5
  refine ⟨?_, ⟨by simp only; omega, by simp only; omega, by simp only; omega, b6⟩, e1'⟩
  have hs : (if (sl == 1) = true then 1 else 0) = sl := by
    by_cases h : sl = 1
    · subst h; rfl
    · have : sl = 0 := by omega
      subst this; rfl
  unfold fileL
  simp only [hs, b5]
  rw [e1, e2, e3, e4, e5]
  simp [← b5]
theorem fileR_back (f : Fil) (r : Tx) (h : smallF f) (hn : f.name.length < 18446744073709551616) : fileR (fileL f ++ r) = some (f, r) := by
  obtain ⟨nm, sl, sz, xs⟩ := f
  obtain ⟨h1, h2, h3, h4⟩ := h
  simp only at h1 h2 h3 h4 hn
  unfold fileR fileL
  simp only [List.append_assoc]
  rw [toTextL_textL _ _ hn]
  simp only
  rw [numL_var (by split <;> omega) (by omega)]
  simp only
  rw [numL_var (by omega) (by omega)]
  simp only
  rw [numL_var h3 (by omega)]
  simp only
  rw [extsR_back xs r h4]
  simp only [Option.some.injEq, Prod.mk.injEq, and_true, Fil.mk.injEq, true_and]
  refine ⟨?_, by omega⟩
  cases sl <;> rfl
def filesR : Nat → Tx → Option (List Fil × Tx)
  | 0, l => some ([], l)
  | n + 1, l => match fileR l with
    | none => none
    | some (f, l1) => match filesR n l1 with
      | none => none
      | some (fs, r) => some (f :: fs, r)
theorem filesR_some : ∀ {n : Nat} {l r : Tx} {fs : List Fil}, filesR n l = some (fs, r) → fs.length = n ∧ l = fs.flatMap fileL ++ r ∧ ∀ f ∈ fs, smallF f ∧ f.name.length ≤ l.length
  | 0, l, r, fs, h => by
    simp only [filesR, Option.some.injEq, Prod.mk.injEq] at h
    obtain ⟨rfl, rfl⟩ := h
    simp
  | n + 1, l, r, fs, h => by
    unfold filesR at h
    split at h
    · cases h
    rename_i f l1 h1
    split at h
    · cases h
    rename_i gs r' h3
    simp only [Option.some.injEq, Prod.mk.injEq] at h
    obtain ⟨rfl, rfl⟩ := h
    obtain ⟨e1, e2, e3⟩ := filesR_some h3
    obtain ⟨a1, a2, a3⟩ := fileR_some h1
    have hl : l1.length ≤ l.length := by rw [a1]; simp
    refine ⟨by simp [e1], ?_, ?_⟩
    · rw [a1, e2]; simp
    · intro g hg
      rcases List.mem_cons.1 hg with rfl | hg
      · exact ⟨a2, a3⟩
      · exact ⟨(e3 g hg).1, Nat.le_trans (e3 g hg).2 hl⟩
theorem filesR_back : ∀ (fs : List Fil) (r : Tx), (∀ f ∈ fs, smallF f ∧ f.name.length < 18446744073709551616) → filesR fs.length (fs.flatMap fileL ++ r) = some (fs, r)
  | [], r, _ => rfl
  | f :: fs, r, h => by
    have hf := h f (by simp)
    have e : (f :: fs).flatMap fileL ++ r = fileL f ++ (fs.flatMap fileL ++ r) := by simp
    rw [e, List.length_cons]
    unfold filesR
    rw [fileR_back f _ hf.1 hf.2]
    simp only
    rw [filesR_back fs r (fun y hy => h y (by simp [hy]))]
/-- What is unpacked of bytes; the error's number where they are none. -/
def unpL (s : Tx) : Except Int (List Fil) :=
  if s.length = 3072 ∧ s.take 4 = [67, 68, 88, 73] then
    match numL 64 (s.drop 4) with
    | none => .error 7
    | some (n, r) => match filesR n r with
      | none => .error 7
      | some (l, q) =>
        if rightB l 0 4096 = true ∧ 4 ≤ q.length ∧ (q.drop 4).all (fun b => b == 0) = true then
          (if q.take 4 = fixedL (crc (bytesL l)) then .ok l else .error 8)
        else .error 7
  else .error 7
theorem right_small {l : List Fil} {first blocks : Int} (h : rightB l first blocks = true) : l.length ≤ 64 ∧ ∀ f ∈ l, smallF f ∧ 1 ≤ f.name.length ∧ f.name.length ≤ 24 := by
  obtain ⟨h1, _, h3, _⟩ := (rightB_iff _ _ _).1 h
  refine ⟨h1, fun f hf => ?_⟩
  obtain ⟨k1, k2⟩ := h3 f hf
  unfold nameB at k1
  unfold fileB at k2
  simp only [Bool.and_eq_true, decide_eq_true_eq, List.all_eq_true] at k1 k2
  obtain ⟨⟨⟨⟨k3, k4⟩, k5⟩, k6⟩, _⟩ := k2
  refine ⟨⟨k3, k4, k5, fun x hx => ?_⟩, k1.1.1, k1.1.2⟩
  have := k6 x hx
  unfold extB at this
  simp only [Bool.and_eq_true, decide_eq_true_eq] at this
  unfold smallE
  omega
theorem fixedL_length (n : Nat) : (fixedL n).length = 4 := rfl
/-- What was packed is unpacked as it was. -/
theorem unp_pack {l : List Fil} (h : packE l = 0) : unpL (packT l) = .ok l ∧ (packT l).length = 3072 := by
  have hr : rightB l 0 4096 = true := by
    by_cases hr : rightB l 0 4096 = true
    · exact hr
    · unfold packE at h; rw [if_neg hr] at h; cases h
  have hl : (wholeL l).length ≤ 3072 := by
    by_cases hl : (wholeL l).length ≤ 3072
    · exact hl
    · unfold packE at h; rw [if_pos hr, if_neg hl] at h; cases h
  have e : packT l = [67, 68, 88, 73] ++ (varL l.length ++ (l.flatMap fileL ++ (fixedL (crc (bytesL l)) ++ List.replicate (3072 - (wholeL l).length) 0))) := by
    unfold packT; rw [if_pos h]; unfold wholeL bytesL; simp only [List.append_assoc]
  have hlen : (packT l).length = 3072 := by
    unfold packT; rw [if_pos h, List.length_append, List.length_replicate]; omega
  refine ⟨?_, hlen⟩
  obtain ⟨h64, hsm⟩ := right_small hr
  unfold unpL
  rw [if_pos ⟨hlen, by rw [e]; rfl⟩]
  have e2 : (packT l).drop 4 = varL l.length ++ (l.flatMap fileL ++ (fixedL (crc (bytesL l)) ++ List.replicate (3072 - (wholeL l).length) 0)) := by rw [e]; rfl
  rw [e2, numL_var h64 (by omega)]
  simp only
  rw [filesR_back l _ (fun f hf => ⟨(hsm f hf).1, by have := (hsm f hf).2.2; omega⟩)]
  simp only
  have t4 : (fixedL (crc (bytesL l)) ++ List.replicate (3072 - (wholeL l).length) 0).take 4 = fixedL (crc (bytesL l)) := by
    rw [List.take_append_of_le_length (by rw [fixedL_length]; omega), List.take_of_length_le (by rw [fixedL_length]; omega)]
  have d4 : (fixedL (crc (bytesL l)) ++ List.replicate (3072 - (wholeL l).length) 0).drop 4 = List.replicate (3072 - (wholeL l).length) 0 := by
    rw [List.drop_append_of_le_length (by rw [fixedL_length]; omega), List.drop_of_length_le (by rw [fixedL_length]; omega)]; rfl
  rw [if_pos ⟨hr, by rw [List.length_append, fixedL_length]; omega, by rw [d4]; simp⟩, if_pos t4]
theorem all_zero {q : Tx} (h : q.all (fun b => b == 0) = true) : q = List.replicate q.length 0 := by
  rw [List.eq_replicate_iff]
  exact ⟨rfl, fun b hb => by simpa using List.all_eq_true.1 h b hb⟩
/-- What is unpacked is packed as it was. -/
theorem pack_unp {s : Tx} {l : List Fil} (h : unpL s = .ok l) : packE l = 0 ∧ packT l = s ∧ rightB l 0 4096 = true := by
  unfold unpL at h
  split at h
  · rename_i h0
    split at h
    · cases h
    rename_i n r h1
    split at h
    · cases h
    rename_i l' q h2
    split at h
    · rename_i h3
      split at h
      · rename_i h4
        simp only [Except.ok.injEq] at h
        subst h
        obtain ⟨k1, e1⟩ := numL_some h1
        obtain ⟨rfl, e2, k2⟩ := filesR_some h2
        obtain ⟨hr, hq, hz⟩ := h3
        have es : s = bytesL l' ++ (fixedL (crc (bytesL l')) ++ q.drop 4) := by
          rw [← h4, List.take_append_drop]
          conv => lhs; rw [← List.take_append_drop 4 s, h0.2, e1, e2]
          unfold bytesL; simp only [List.append_assoc]
        have hlen := congrArg List.length es
        rw [h0.1, List.length_append, List.length_append, fixedL_length] at hlen
        have hw : (wholeL l').length = (bytesL l').length + 4 := by unfold wholeL; rw [List.length_append, fixedL_length]
        have hp : packE l' = 0 := by unfold packE; rw [if_pos hr, if_pos (by omega)]
        refine ⟨hp, ?_, hr⟩
        unfold packT
        rw [if_pos hp]
        conv => rhs; rw [es]
        unfold wholeL
        rw [List.append_assoc]
        congr 2
        rw [all_zero hz]
        congr 1
        have : (wholeL l').length = (bytesL l' ++ fixedL (crc (bytesL l'))).length := rfl
        omega
      · cases h
    · cases h
  · cases h
end Go.Ino
