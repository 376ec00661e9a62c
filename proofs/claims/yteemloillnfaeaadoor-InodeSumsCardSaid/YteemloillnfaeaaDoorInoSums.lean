/- Bytes that were packed, with another last byte that is no nought, are not unpacked. No conditions. -/
import Derived.Test.YteemloillnfaeaaDoorInoLaws
namespace Go.Ino
open Go.Wir

/-- The last place of a text that is no nought. -/
def LastNz (T : Tx) (k : Nat) : Prop := T.getD k 0 ≠ 0 ∧ ∀ j, k < j → T.getD j 0 = 0
theorem getD_app (a b : Tx) (j : Nat) : (a ++ b).getD j 0 = if j < a.length then a.getD j 0 else b.getD (j - a.length) 0 := by
  simp only [List.getD_eq_getElem?_getD, List.getElem?_append]
  split <;> rfl
theorem getD_over {T : Tx} {j : Nat} (h : T.length ≤ j) : T.getD j 0 = 0 := by simp [List.getD_eq_getElem?_getD, h]
theorem getD_rep (n j : Nat) : (List.replicate n (0 : UInt8)).getD j 0 = 0 := by
  simp only [List.getD_eq_getElem?_getD, List.getElem?_replicate]; split <;> rfl
theorem LastNz.lt {T : Tx} {k : Nat} (h : LastNz T k) : k < T.length := by
  rcases Nat.lt_or_ge k T.length with h1 | h1
  · exact h1
  · exact absurd (getD_over h1) h.1
theorem last_is {A : Tx} {b : UInt8} {n k : Nat} (hb : b ≠ 0) (h : LastNz (A ++ b :: List.replicate n 0) k) : k = A.length := by
  obtain ⟨h1, h2⟩ := h
  rcases Nat.lt_trichotomy k A.length with h3 | h3 | h3
  · have := h2 A.length h3
    rw [getD_app, if_neg (by omega), Nat.sub_self] at this
    exact absurd this hb
  · exact h3
  · rw [getD_app, if_neg (by omega)] at h1
    obtain ⟨d, rfl⟩ : ∃ d, k = A.length + 1 + d := ⟨k - A.length - 1, by omega⟩
    rw [show A.length + 1 + d - A.length = d + 1 by omega] at h1
    exact absurd (getD_rep n d) h1
theorem set_at (A : Tx) (b v : UInt8) (Z : Tx) : (A ++ b :: Z).set A.length v = A ++ v :: Z := by
  rw [List.set_append_right _ _ (Nat.le_refl _), Nat.sub_self]; rfl
theorem extsR_snoc (X : Tx) : ∀ xs : List Ext, (∀ x ∈ xs, smallE x) → extsR (xs.length + 1) (xs.flatMap extL ++ X) = match numL 4096 X with
    | none => none
    | some (a, l1) => match numL 4096 l1 with
      | none => none
      | some (b, l2) => some (xs ++ [((a : Int), (b : Int))], l2)
  | [], _ => by
    rw [List.flatMap_nil, List.nil_append, List.length_nil]
    unfold extsR
    cases numL 4096 X with
    | none => rfl
    | some p =>
      simp only
      cases numL 4096 p.2 with
      | none => rfl
      | some q => simp only [extsR, List.nil_append]
  | x :: xs, h => by
    have hx := h x (by simp)
    unfold smallE at hx
    have e : (x :: xs).flatMap extL ++ X = varL x.1.toNat ++ (varL x.2.toNat ++ (xs.flatMap extL ++ X)) := by simp [extL]
    rw [e, List.length_cons]
    unfold extsR
    rw [numL_var (by omega) (by omega)]
    simp only
    rw [numL_var (by omega) (by omega)]
    simp only
    rw [extsR_snoc X xs (fun y hy => h y (by simp [hy]))]
    have e1 : (((x.1.toNat : Nat) : Int), ((x.2.toNat : Nat) : Int)) = x := by
      obtain ⟨a, b⟩ := x
      simp only at hx ⊢
      rw [show ((a.toNat : Nat) : Int) = a by omega, show ((b.toNat : Nat) : Int) = b by omega]
    rw [e1]
    cases numL 4096 X with
    | none => rfl
    | some p =>
      simp only
      cases numL 4096 p.2 with
      | none => rfl
      | some q => rfl
theorem filesR_snoc (X : Tx) : ∀ fs : List Fil, (∀ f ∈ fs, smallF f ∧ f.name.length < 18446744073709551616) → filesR (fs.length + 1) (fs.flatMap fileL ++ X) = match fileR X with
    | none => none
    | some (f, r) => some (fs ++ [f], r)
  | [], _ => by
    rw [List.flatMap_nil, List.nil_append, List.length_nil]
    unfold filesR
    cases fileR X with
    | none => rfl
    | some p => simp only [filesR, List.nil_append]
  | f :: fs, h => by
    have hf := h f (by simp)
    have e : (f :: fs).flatMap fileL ++ X = fileL f ++ (fs.flatMap fileL ++ X) := by simp
    rw [e, List.length_cons]
    unfold filesR
    rw [fileR_back f _ hf.1 hf.2]
    simp only
    rw [filesR_snoc X fs (fun y hy => h y (by simp [hy]))]
    cases fileR X with
    | none => rfl
    | some p => rfl
/-- The bytes of a number: all but the last go on; the last is no nought, but of nought itself. -/
theorem varF_last : ∀ (f n : Nat), n < 128 ^ (f + 1) → ∃ u b, varF f n = u ++ [b] ∧ (∀ c ∈ u, 127 < c.toNat) ∧ u.length ≤ f ∧ (0 < n → b ≠ 0)
  | 0, n, h => ⟨[], UInt8.ofNat n, rfl, by simp, by simp, fun h0 e => by
      have := congrArg UInt8.toNat e
      rw [ofNat_toNat n (by omega)] at this
      simp at this; omega⟩
  | f + 1, n, h => by
    unfold varF
    split
    · rename_i h1
      exact ⟨[], UInt8.ofNat n, rfl, by simp, by simp, fun h0 e => by
        have := congrArg UInt8.toNat e
        rw [ofNat_toNat n (by omega)] at this
        simp at this; omega⟩
    · rename_i h1
      obtain ⟨u, b, e1, e2, e3, e4⟩ := varF_last f (n / 128) (by rw [Nat.div_lt_iff_lt_mul (by omega)]; rw [Nat.pow_succ] at h; omega)
      refine ⟨UInt8.ofNat (n % 128 + 128) :: u, b, by rw [e1]; rfl, ?_, by simpa using e3, fun _ => e4 (by omega)⟩
      intro c hc
      rcases List.mem_cons.1 hc with rfl | hc
      · rw [ofNat_toNat _ (by omega)]; omega
      · exact e2 c hc
/-- With another last byte, and a nought behind, a number is none, or as long. -/
theorem numL_other {most : Nat} {u : Tx} {v : UInt8} {z r : Tx} {x : Nat} (hu : ∀ c ∈ u, 127 < c.toNat) (hl : u.length ≤ 9) (h : numL most (u ++ v :: 0 :: z) = some (x, r)) : r = 0 :: z := by
  have hv : ∃ q, toVarL (u ++ v :: 0 :: z) = some q ∧ q.2 = r := by
    unfold numL at h
    split at h
    · rename_i a b e
      split at h
      · simp only [Option.some.injEq, Prod.mk.injEq] at h
        exact ⟨_, e, h.2⟩
      · cases h
    · cases h
  obtain ⟨q, hq, rfl⟩ := hv
  by_cases h1 : 127 < v.toNat
  · have hb : ∀ b ∈ (u ++ v :: 0 :: z).take (u.length + 1), 127 < b.toNat := by
      intro b hb
      rw [List.take_append, List.take_of_length_le (by omega), Nat.add_sub_cancel_left] at hb
      simp only [List.take_succ_cons, List.take_zero, List.mem_append, List.mem_singleton] at hb
      rcases hb with hb | rfl
      · exact hu b hb
      · exact h1
    by_cases h9 : u.length + 1 = 10
    · rw [toVarL_end _ 10 (by simp; omega) (by omega) (by rw [← h9]; exact hb) (.inr rfl)] at hq
      cases hq
    · have hlt : u.length + 1 < (u ++ v :: 0 :: z).length := by simp
      have hg : (u ++ v :: 0 :: z)[u.length + 1] = 0 := by
        rw [List.getElem_append_right (by omega)]
        simp only [Nat.add_sub_cancel_left, List.getElem_cons_succ, List.getElem_cons_zero]
      rw [toVarL_at _ (u.length + 1) hlt (by omega) hb (by rw [hg]; decide), if_pos (.inr ⟨by omega, by rw [hg]; rfl⟩)] at hq
      cases hq
  · have hb : ∀ b ∈ (u ++ v :: 0 :: z).take u.length, 127 < b.toNat := by
      intro b hb
      rw [List.take_append_of_le_length (Nat.le_refl _), List.take_length] at hb
      exact hu b hb
    have hlt : u.length < (u ++ v :: 0 :: z).length := by simp
    have hg : (u ++ v :: 0 :: z)[u.length] = v := by rw [List.getElem_append_right (Nat.le_refl _)]; simp
    rw [toVarL_at _ u.length hlt (by omega) hb (by rw [hg]; exact h1)] at hq
    split at hq
    · cases hq
    · simp only [Option.some.injEq] at hq
      rw [← hq]
      simp only
      rw [List.drop_append, List.drop_of_length_le (by omega), Nat.add_sub_cancel_left]; rfl
theorem numL_zero (most : Nat) (z : Tx) : numL most (0 :: z) = some (0, z) := by
  unfold numL
  have e : toVarL (0 :: z) = some (0, z) := toVarL_varL 0 z (by omega)
  rw [e]; simp
theorem last_bytes {T : Tx} (h : ∃ c ∈ T, c ≠ (0 : UInt8)) : ∃ A b n, T = A ++ b :: List.replicate n 0 ∧ b ≠ 0 := by
  induction T with
  | nil => obtain ⟨c, hc, _⟩ := h; simp at hc
  | cons x T ih =>
    by_cases h2 : ∃ c ∈ T, c ≠ (0 : UInt8)
    · obtain ⟨A, b, n, rfl, hb⟩ := ih h2
      exact ⟨x :: A, b, n, rfl, hb⟩
    · obtain ⟨c, hc, hne⟩ := h
      have hz : ∀ c ∈ T, c = (0 : UInt8) := fun c hc => by
        by_cases e : c = 0
        · exact e
        · exact absurd ⟨c, hc, e⟩ h2
      rcases List.mem_cons.1 hc with rfl | hc
      · exact ⟨[], c, T.length, by rw [List.nil_append, List.eq_replicate_iff.2 ⟨rfl, hz⟩, List.length_replicate], hne⟩
      · exact absurd (hz c hc) hne
theorem LastNz.left {A B : Tx} {k : Nat} (h : LastNz (A ++ B) k) (hk : k < A.length) : LastNz A k := by
  refine ⟨by have := h.1; rwa [getD_app, if_pos hk] at this, fun j hj => ?_⟩
  by_cases hl : j < A.length
  · have := h.2 j hj; rwa [getD_app, if_pos hl] at this
  · exact getD_over (by omega)
theorem LastNz.right {A B : Tx} {k : Nat} (h : LastNz (A ++ B) (A.length + k)) : LastNz B k := by
  refine ⟨by have := h.1; rwa [getD_app, if_neg (by omega), Nat.add_sub_cancel_left] at this, fun j hj => ?_⟩
  have := h.2 (A.length + j) (by omega)
  rwa [getD_app, if_neg (by omega), Nat.add_sub_cancel_left] at this
theorem char_ne {c : UInt8} (h : charB c = true) : c ≠ 0 := by
  rintro rfl; exact absurd h (by decide)
theorem sumC_pos : ∀ {l : List Ext}, (∀ x ∈ l, 1 ≤ x.2) → (l.length : Int) ≤ sumC l
  | [], _ => by simp [sumC]
  | x :: l, h => by
    have h1 := sumC_pos (fun y hy => h y (List.mem_cons_of_mem _ hy))
    have h2 := h x (by simp)
    unfold sumC at *
    simp only [List.map_cons, List.sum_cons, List.length_cons]
    omega
/-- A file whose last byte that is no nought is another one has, if it is one, as many bytes. -/
theorem last_file {a b : Int} {f g : Fil} {k : Nat} {v : UInt8} {W q : Tx} (hn : nameB f.name = true) (hf : fileB a b f = true) (hs : smallF f) (hk : LastNz (fileL f) k)
    (hr : fileR ((fileL f).set k v ++ 0 :: W) = some (g, q)) : q = 0 :: W := by
  obtain ⟨nm, sh, sz, xs⟩ := f
  obtain ⟨s1, s2, s3, s4⟩ := hs
  simp only at s1 s2 s3 s4 hn
  unfold nameB at hn
  simp only [Bool.and_eq_true, decide_eq_true_eq, List.all_eq_true] at hn
  obtain ⟨⟨n1, n2⟩, n3⟩ := hn
  have hfe := fileB_ext hf
  simp only at hfe
  have hv1 : varL (if sh = true then 1 else 0) = [if sh = true then 1 else 0] := by cases sh <;> rfl
  rcases List.eq_nil_or_concat xs with rfl | ⟨ys, x, rfl⟩
  · have hsz : sz = 0 := by
      unfold fileB at hf
      simp only [Bool.and_eq_true, decide_eq_true_eq, sumC, List.map_nil, List.sum_nil] at hf
      omega
    subst hsz
    have e : fileL ⟨nm, sh, 0, []⟩ = textL nm ++ [if sh = true then 1 else 0, 0, 0] := by
      unfold fileL; simp only [hv1]
      rw [show varL (Int.toNat 0) = [0] from rfl, show varL ([] : List Ext).length = [0] from rfl]; simp
    rw [e] at hk hr
    cases sh with
    | true =>
      have e2 : textL nm ++ [if true = true then 1 else 0, 0, 0] = textL nm ++ 1 :: List.replicate 2 0 := rfl
      rw [e2] at hk hr
      obtain rfl := last_is (by decide) hk
      rw [set_at, List.append_assoc] at hr
      unfold fileR at hr
      rw [toTextL_textL _ _ (by omega)] at hr
      simp only at hr
      cases h1 : numL 1 (v :: List.replicate 2 0 ++ 0 :: W) with
      | none => rw [h1] at hr; cases hr
      | some p =>
        obtain ⟨x, r⟩ := p
        have := numL_other (u := []) (v := v) (z := 0 :: 0 :: W) (by simp) (by simp) (h1 : numL 1 ([] ++ v :: 0 :: 0 :: 0 :: W) = _)
        subst this
        rw [h1] at hr
        simp only [numL_zero, extsR] at hr
        simp only [Option.some.injEq, Prod.mk.injEq] at hr
        exact hr.2.symm
    | false =>
      obtain ⟨A, c, rfl⟩ : ∃ A c, nm = A ++ [c] := by
        rcases List.eq_nil_or_concat nm with rfl | ⟨A, c, rfl⟩
        · simp at n1
        · exact ⟨A, c, by simp⟩
      have hc := char_ne (n3 c (by simp))
      have hl : varL (A ++ [c]).length = [UInt8.ofNat (A ++ [c]).length] := by
        unfold varL varF
        rw [if_pos (by omega)]
      have e2 : textL (A ++ [c]) ++ [if false = true then 1 else 0, 0, 0] = (varL (A ++ [c]).length ++ A) ++ c :: List.replicate 3 0 := by
        unfold textL; simp [List.replicate]
      rw [e2] at hk hr
      obtain rfl := last_is hc hk
      rw [set_at] at hr
      have e3 : varL (A ++ [c]).length ++ A ++ v :: List.replicate 3 0 ++ 0 :: W = textL (A ++ [v]) ++ (0 :: 0 :: 0 :: 0 :: W) := by
        unfold textL; simp [List.replicate]
      rw [e3] at hr
      unfold fileR at hr
      rw [toTextL_textL _ _ (by simp at n2 ⊢; omega)] at hr
      simp only [numL_zero, extsR] at hr
      simp only [Option.some.injEq, Prod.mk.injEq] at hr
      exact hr.2.symm
  · rw [List.concat_eq_append] at *
    have hx := (extB_iff _ _ _).1 (hfe x (by simp))
    have hsx := s4 x (by simp)
    unfold smallE at hsx
    obtain ⟨u, c, e1, e2, e3, e4⟩ := varF_last 9 x.2.toNat (by omega)
    have hvx : varL x.2.toNat = u ++ [c] := e1
    have hcz := e4 (by omega)
    have e : fileL ⟨nm, sh, sz, ys ++ [x]⟩ = (textL nm ++ (varL (if sh = true then 1 else 0) ++ (varL sz.toNat ++ (varL (ys ++ [x]).length ++ (ys.flatMap extL ++ (varL x.1.toNat ++ u)))))) ++ c :: List.replicate 0 0 := by
      unfold fileL; simp [extL, hvx]
    rw [e] at hk hr
    obtain rfl := last_is hcz hk
    rw [set_at] at hr
    simp only [List.append_assoc] at hr
    unfold fileR at hr
    rw [toTextL_textL _ _ (by omega)] at hr
    simp only at hr
    rw [numL_var (by split <;> omega) (by omega)] at hr
    simp only at hr
    rw [numL_var (by omega) (by omega)] at hr
    simp only at hr
    rw [numL_var s3 (by omega)] at hr
    simp only at hr
    rw [List.length_append, List.length_singleton, extsR_snoc _ ys (fun y hy => s4 y (by simp [hy]))] at hr
    rw [numL_var (by omega) (by omega)] at hr
    simp only at hr
    cases h1 : numL 4096 (u ++ (v :: List.replicate 0 0 ++ 0 :: W)) with
    | none => rw [h1] at hr; cases hr
    | some p =>
      obtain ⟨y, r⟩ := p
      have := numL_other e2 e3 (h1 : numL 4096 (u ++ v :: 0 :: W) = _)
      subst this
      rw [h1] at hr
      simp only [Option.some.injEq, Prod.mk.injEq] at hr
      exact hr.2.symm
theorem set_getD {T : Tx} {k : Nat} {v : UInt8} (h : k < T.length) (e : T.set k v = T) : v = T.getD k 0 := by
  have h1 : (T.set k v)[k]'(by simpa using h) = T[k] := by simp only [e]
  rw [List.getElem_set_self] at h1
  simp [List.getD_eq_getElem?_getD, h, h1]
theorem crc_one' {T : Tx} {k : Nat} {v : UInt8} (h : k < T.length) (hc : crc (T.set k v) = crc T) : T.set k v = T := by
  have e : T.set k v = T.set k (T[k] ^^^ (T[k] ^^^ v)) := by rw [← UInt8.xor_assoc, UInt8.xor_self, UInt8.zero_xor]
  have hle := le_set T (T[k] ^^^ v) k h
  rw [← e] at hle
  exact crc_burst _ _ (8 * k) (T[k] ^^^ v).toNat (by simp) (by have := (T[k] ^^^ v).toNat_lt; omega) hle (.inr (by omega)) hc
theorem fixedL_inj {a b : Nat} (ha : a < 4294967296) (hb : b < 4294967296) (h : fixedL a = fixedL b) : a = b := by
  have h1 := toFixedL_fixedL a ha []
  have h2 := toFixedL_fixedL b hb []
  rw [h, h2] at h1
  simp at h1
  exact h1.symm
theorem set_left {A B : Tx} {k : Nat} (v : UInt8) (h : k < A.length) : (A ++ B).set k v = A.set k v ++ B := by
  rw [List.set_append_left _ _ h]
theorem set_right {A B : Tx} {k : Nat} (v : UInt8) : (A ++ B).set (A.length + k) v = A ++ B.set k v := by
  rw [List.set_append_right _ _ (by omega), Nat.add_sub_cancel_left]
theorem take4 {A : Tx} (B : Tx) (h : A.length = 4) : (A ++ B).take 4 = A := by rw [← h]; simp
/-- What was packed, with another last byte that is no nought, is not unpacked. -/
theorem sums_law {l : List Fil} (h : packE l = 0) {k : Nat} (hk : LastNz (packT l) k) (h8 : 8 ≤ k) {v : UInt8} (hv : v ≠ (packT l).getD k 0) : ∀ l', unpL ((packT l).set k v) ≠ .ok l' := by
  intro l' hu
  have hlen := (unp_pack h).2
  have hkl : k < 3072 := by rw [← hlen]; exact hk.lt
  have hr : rightB l 0 4096 = true := by
    by_cases hr : rightB l 0 4096 = true
    · exact hr
    · unfold packE at h; rw [if_neg hr] at h; cases h
  obtain ⟨h64, hsm⟩ := right_small hr
  have hw : (wholeL l).length ≤ 3072 := by
    by_cases hl : (wholeL l).length ≤ 3072
    · exact hl
    · unfold packE at h; rw [if_pos hr, if_neg hl] at h; cases h
  have hwl : (wholeL l).length = (bytesL l).length + 4 := by unfold wholeL; rw [List.length_append, fixedL_length]
  obtain ⟨Z, hZ⟩ : ∃ Z, List.replicate (3072 - (wholeL l).length) (0 : UInt8) = Z := ⟨_, rfl⟩
  have hZ0 : ∀ j, Z.getD j 0 = 0 := fun j => by rw [← hZ]; exact getD_rep _ _
  have hZl : Z.length = 3072 - (wholeL l).length := by rw [← hZ]; simp
  have e : packT l = bytesL l ++ (fixedL (crc (bytesL l)) ++ Z) := by
    unfold packT; rw [if_pos h, hZ]; unfold wholeL; rw [List.append_assoc]
  have hcl := crc_lt (bytesL l)
  obtain ⟨c, hc⟩ : ∃ c, crc (bytesL l) = c := ⟨_, rfl⟩
  rw [hc] at e hcl
  -- what is unpacked, seen from its bytes
  obtain ⟨p1, p2, p3⟩ := pack_unp hu
  have hu' := hu
  unfold unpL at hu'
  split at hu'
  rotate_left
  · cases hu'
  rename_i h0
  split at hu'
  · cases hu'
  rename_i n r h1
  split at hu'
  · cases hu'
  rename_i g q h2
  split at hu'
  rotate_left
  · cases hu'
  rename_i h3
  split at hu'
  rotate_left
  · cases hu'
  rename_i h4
  simp only [Except.ok.injEq] at hu'
  subst hu'
  by_cases hm : (bytesL l).length ≤ k
  · obtain ⟨d, rfl⟩ : ∃ d, k = (bytesL l).length + d := ⟨k - (bytesL l).length, by omega⟩
    have hd : d < 4 := by
      rcases Nat.lt_or_ge d 4 with hd | hd
      · exact hd
      · have := hk.1
        rw [e, getD_app, if_neg (by omega), Nat.add_sub_cancel_left, getD_app, if_neg (by rw [fixedL_length]; omega)] at this
        exact absurd (hZ0 _) this
    have es : (packT l).set ((bytesL l).length + d) v = [67, 68, 88, 73] ++ (varL l.length ++ (l.flatMap fileL ++ ((fixedL c).set d v ++ Z))) := by
      rw [e, set_right, set_left v (by rw [fixedL_length]; exact hd)]
      unfold bytesL; simp only [List.append_assoc]
    rw [es] at h1
    rw [show List.drop 4 (([67, 68, 88, 73] : Tx) ++ (varL l.length ++ (l.flatMap fileL ++ ((fixedL c).set d v ++ Z)))) = varL l.length ++ (l.flatMap fileL ++ ((fixedL c).set d v ++ Z)) from rfl, numL_var h64 (by omega)] at h1
    simp only [Option.some.injEq, Prod.mk.injEq] at h1
    obtain ⟨rfl, rfl⟩ := h1
    rw [filesR_back l _ (fun f hf => ⟨(hsm f hf).1, by have := (hsm f hf).2.2; omega⟩)] at h2
    simp only [Option.some.injEq, Prod.mk.injEq] at h2
    obtain ⟨rfl, rfl⟩ := h2
    rw [hc] at h4
    have ht : ((fixedL c).set d v ++ Z).take 4 = (fixedL c).set d v := take4 _ (by rw [List.length_set]; rfl)
    rw [ht] at h4
    have := set_getD (by rw [fixedL_length]; exact hd) h4
    apply hv
    rw [this, e, getD_app, if_neg (by omega), Nat.add_sub_cancel_left, getD_app, if_pos (by rw [fixedL_length]; exact hd)]
  · have hfz : ∀ j, (fixedL c ++ Z).getD j 0 = 0 := fun j => by
      have := hk.2 ((bytesL l).length + j) (by omega)
      rwa [e, getD_app, if_neg (by omega), Nat.add_sub_cancel_left] at this
    obtain ⟨W, hW⟩ : ∃ W, fixedL c ++ Z = 0 :: W := by
      have h5 := hfz 0
      cases hF : fixedL c ++ Z with
      | nil => have := congrArg List.length hF; rw [List.length_append, fixedL_length] at this; simp at this
      | cons a W => rw [hF] at h5; simp at h5; subst h5; exact ⟨W, rfl⟩
    have hkm := LastNz.left (by rw [e] at hk; exact hk) (Nat.lt_of_not_le hm)
    rcases List.eq_nil_or_concat l with rfl | ⟨fs, f, rfl⟩
    · have : (bytesL []).length = 5 := rfl
      omega
    rw [List.concat_eq_append] at *
    obtain ⟨f1, f2⟩ := ((rightB_iff _ _ _).1 hr).2.2.1 f (by simp)
    have eb : bytesL (fs ++ [f]) = ([67, 68, 88, 73] ++ (varL (fs ++ [f]).length ++ fs.flatMap fileL)) ++ fileL f := by unfold bytesL; simp
    obtain ⟨H, hH⟩ : ∃ H, [67, 68, 88, 73] ++ (varL (fs ++ [f]).length ++ fs.flatMap fileL) = H := ⟨_, rfl⟩
    rw [hH] at eb
    have hkH : H.length ≤ k := by
      rcases Nat.lt_or_ge k H.length with h5 | h5
      · exfalso
        have hz : ∀ j, (fileL f).getD j 0 = 0 := fun j => by
          have := hkm.2 (H.length + j) (by omega)
          rwa [eb, getD_app, if_neg (by omega), Nat.add_sub_cancel_left] at this
        unfold nameB at f1
        simp only [Bool.and_eq_true, decide_eq_true_eq, List.all_eq_true] at f1
        obtain ⟨⟨n1, _⟩, n3⟩ := f1
        cases hnm : f.name with
        | nil => rw [hnm] at n1; simp at n1
        | cons a nm =>
          have := hz (varL f.name.length).length
          have e5 : fileL f = varL f.name.length ++ (a :: (nm ++ (varL (if f.shut then 1 else 0) ++ (varL f.size.toNat ++ (varL f.ext.length ++ f.ext.flatMap extL))))) := by
            unfold fileL textL; rw [hnm]; simp
          rw [e5, getD_app, if_neg (by omega), Nat.sub_self] at this
          exact char_ne (n3 a (by rw [hnm]; simp)) this
      · exact h5
    obtain ⟨d, rfl⟩ : ∃ d, k = H.length + d := ⟨k - H.length, by omega⟩
    rw [eb] at hkm hm
    have hkf := hkm.right
    have hdl := hkf.lt
    have es : (packT (fs ++ [f])).set (H.length + d) v = H ++ ((fileL f).set d v ++ 0 :: W) := by
      rw [e, eb, hW, List.append_assoc, set_right, set_left v hdl]
    have hrd := h1
    rw [es, ← hH, show List.drop 4 (([67, 68, 88, 73] : Tx) ++ (varL (fs ++ [f]).length ++ fs.flatMap fileL) ++ ((fileL f).set d v ++ 0 :: W)) = varL (fs ++ [f]).length ++ (fs.flatMap fileL ++ ((fileL f).set d v ++ 0 :: W)) by simp, numL_var h64 (by omega)] at hrd
    simp only [Option.some.injEq, Prod.mk.injEq] at hrd
    obtain ⟨rfl, rfl⟩ := hrd
    rw [List.length_append, List.length_singleton, filesR_snoc _ fs (fun g hg => ⟨(hsm g (by simp [hg])).1, by have := (hsm g (by simp [hg])).2.2; omega⟩)] at h2
    cases hfr : fileR ((fileL f).set d v ++ 0 :: W) with
    | none => rw [hfr] at h2; cases h2
    | some pr =>
      obtain ⟨f', q'⟩ := pr
      rw [hfr] at h2
      simp only [Option.some.injEq, Prod.mk.injEq] at h2
      obtain ⟨rfl, rfl⟩ := h2
      have hq := last_file f1 f2 (hsm f (by simp)).1 hkf hfr
      subst hq
      have e6 := (fileR_some hfr).1
      have e7 : fileL f' = (fileL f).set d v := (List.append_cancel_right e6).symm
      have e8 : bytesL (fs ++ [f']) = (bytesL (fs ++ [f])).set (H.length + d) v := by
        rw [eb, set_right, ← e7, ← hH]; unfold bytesL; simp
      rw [← hW, show (fixedL c ++ Z).take 4 = fixedL c from take4 _ rfl] at h4
      have h9 := fixedL_inj hcl (crc_lt _) h4
      rw [e8, ← hc] at h9
      have h10 := crc_one' (by rw [eb, List.length_append]; omega) h9.symm
      apply hv
      rw [set_getD (by rw [eb, List.length_append]; omega) h10, e, getD_app, if_pos (by rw [eb, List.length_append]; omega)]
end Go.Ino
