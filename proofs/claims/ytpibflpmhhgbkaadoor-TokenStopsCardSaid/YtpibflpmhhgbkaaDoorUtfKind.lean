/- Kinds of runes, and Fold as the program goes, plain. No conditions. -/
import Derived.Test.YtpibflpmhhgbkaaDoorUtfSeq
namespace Go.Utf
open Go.Lib

/-! Kinds. -/
def letterB (r : Int) : Bool :=
  if inB r 65 90 || (inB r 97 122 || (r == 170 || (r == 181 || r == 186))) then true
  else if inB r 192 591 then r != 215 && r != 247
  else if inB r 880 1023 then r != 885 && (r != 894 && (r != 888 && (r != 889 && (!inB r 896 901 && (r != 903 && (r != 907 && (r != 909 && (r != 930 && r != 1014))))))))
  else if inB r 1024 1327 then !inB r 1154 1161
  else inB r 1329 1366 || (inB r 1377 1415 || (inB r 1488 1514 || (inB r 19968 40959 || inB r 44032 55203)))
/-- A rune's kind, by the document. -/
def kindN (r : Int) : Int :=
  if letterB r then 1
  else if inB r 48 57 || (inB r 1632 1641 || inB r 2406 2415) then 2
  else if inB r 9 13 || (r == 32 || (r == 133 || (r == 160 || (inB r 8192 8202 || (r == 8232 || (r == 8233 || r == 12288)))))) then 3
  else 0
def spansT : List (Int × Int × Int) := [(9, 13, 3), (32, 32, 3), (48, 57, 2), (65, 90, 1), (97, 122, 1), (133, 133, 3), (160, 160, 3), (170, 170, 1), (181, 181, 1), (186, 186, 1),
  (192, 214, 1), (216, 246, 1), (248, 591, 1), (880, 884, 1), (886, 887, 1), (890, 893, 1), (895, 895, 1), (902, 902, 1), (904, 906, 1), (908, 908, 1),
  (910, 929, 1), (931, 1013, 1), (1015, 1153, 1), (1162, 1327, 1), (1329, 1366, 1), (1377, 1415, 1), (1488, 1514, 1), (1632, 1641, 2), (2406, 2415, 2), (8192, 8202, 3),
  (8232, 8233, 3), (12288, 12288, 3), (19968, 40959, 1), (44032, 55203, 1)]
/-- A rune's kind, by the program: the first span whose end is not below it. -/
def kindS (r : Int) : Int := match spansT.find? fun s => decide (r ≤ s.2.1) with
  | some s => if s.1 ≤ r then s.2.2 else 0
  | none => 0
set_option maxRecDepth 100000 in
theorem kind_all : ((List.range 25).all fun a => (List.range 100).all fun b => kindS ((100 * a + b : Nat) : Int) == kindN ((100 * a + b : Nat) : Int)) = true := by decide +kernel
theorem kind_small (n : Nat) (h : n < 2500) : kindS n = kindN n := by
  have h1 := List.all_eq_true.1 kind_all (n / 100) (List.mem_range.2 (by omega))
  have h2 := List.all_eq_true.1 h1 (n % 100) (List.mem_range.2 (by omega))
  rw [show 100 * (n / 100) + n % 100 = n by omega] at h2
  exact eq_of_beq h2
theorem inB_no {r a b : Int} (h : r < a ∨ b < r) : inB r a b = false := by unfold inB; simp; omega
theorem inB_yes {r a b : Int} (h1 : a ≤ r) (h2 : r ≤ b) : inB r a b = true := by unfold inB; simp; omega
theorem kindS_neg {r : Int} (h : r < 9) : kindS r = 0 := by
  unfold kindS spansT
  rw [List.find?_cons_of_pos (by simp; omega)]
  simp only
  rw [if_neg (by omega)]
theorem kindS_big {r : Int} (h : 12288 < r) : kindS r = if r ≤ 40959 then (if 19968 ≤ r then 1 else 0) else if r ≤ 55203 then (if 44032 ≤ r then 1 else 0) else 0 := by
  have e : spansT = spansT.take 32 ++ spansT.drop 32 := (List.take_append_drop _ _).symm
  have hn : (spansT.take 32).find? (fun s => decide (r ≤ s.2.1)) = none := by
    rw [List.find?_eq_none]
    intro s hs
    have : ∀ s ∈ spansT.take 32, s.2.1 ≤ 12288 := by decide
    have := this s hs
    simp; omega
  unfold kindS
  rw [e, List.find?_append, hn]
  have hd : spansT.drop 32 = [(19968, 40959, 1), (44032, 55203, 1)] := rfl
  rw [hd]
  by_cases h1 : r ≤ 40959
  · rw [List.find?_cons_of_pos (by simpa using h1), if_pos h1]; rfl
  · rw [List.find?_cons_of_neg (by simpa using h1), if_neg h1]
    by_cases h2 : r ≤ 55203
    · rw [List.find?_cons_of_pos (by simpa using h2), if_pos h2]; rfl
    · rw [List.find?_cons_of_neg (by simpa using h2), if_neg h2]; rfl
theorem ne_b {r a : Int} (h : r ≠ a) : (r == a) = false := by simpa using h
theorem kindN_out {r : Int} (h : r < 9 ∨ 12288 < r) : kindN r = if inB r 19968 40959 || inB r 44032 55203 then 1 else 0 := by
  unfold kindN letterB
  simp only [inB_no (r := r) (a := 65) (b := 90) (by omega), inB_no (r := r) (a := 97) (b := 122) (by omega), inB_no (r := r) (a := 192) (b := 591) (by omega), inB_no (r := r) (a := 880) (b := 1023) (by omega),
    inB_no (r := r) (a := 1024) (b := 1327) (by omega), inB_no (r := r) (a := 1329) (b := 1366) (by omega), inB_no (r := r) (a := 1377) (b := 1415) (by omega), inB_no (r := r) (a := 1488) (b := 1514) (by omega),
    inB_no (r := r) (a := 48) (b := 57) (by omega), inB_no (r := r) (a := 1632) (b := 1641) (by omega), inB_no (r := r) (a := 2406) (b := 2415) (by omega), inB_no (r := r) (a := 9) (b := 13) (by omega), inB_no (r := r) (a := 8192) (b := 8202) (by omega),
    ne_b (r := r) (a := 170) (by omega), ne_b (r := r) (a := 181) (by omega), ne_b (r := r) (a := 186) (by omega), ne_b (r := r) (a := 32) (by omega), ne_b (r := r) (a := 133) (by omega), ne_b (r := r) (a := 160) (by omega),
    ne_b (r := r) (a := 8232) (by omega), ne_b (r := r) (a := 8233) (by omega), ne_b (r := r) (a := 12288) (by omega), Bool.false_or, Bool.or_false, if_false, Bool.false_eq_true]
theorem kindS_mid {r : Int} (h : 2415 < r) (h' : r ≤ 12288) : kindS r = if r ≤ 8202 then (if 8192 ≤ r then 3 else 0) else if r ≤ 8233 then (if 8232 ≤ r then 3 else 0) else (if 12288 ≤ r then 3 else 0) := by
  have e : spansT = spansT.take 29 ++ spansT.drop 29 := (List.take_append_drop _ _).symm
  have hn : (spansT.take 29).find? (fun s => decide (r ≤ s.2.1)) = none := by
    rw [List.find?_eq_none]
    intro s hs
    have : ∀ s ∈ spansT.take 29, s.2.1 ≤ 2415 := by decide
    have := this s hs
    simp; omega
  unfold kindS
  rw [e, List.find?_append, hn]
  have hd : spansT.drop 29 = [(8192, 8202, 3), (8232, 8233, 3), (12288, 12288, 3), (19968, 40959, 1), (44032, 55203, 1)] := rfl
  rw [hd]
  by_cases h1 : r ≤ 8202
  · rw [List.find?_cons_of_pos (by simpa using h1), if_pos h1]; rfl
  · rw [List.find?_cons_of_neg (by simpa using h1), if_neg h1]
    by_cases h2 : r ≤ 8233
    · rw [List.find?_cons_of_pos (by simpa using h2), if_pos h2]; rfl
    · rw [List.find?_cons_of_neg (by simpa using h2), if_neg h2, List.find?_cons_of_pos (by simpa using h')]; rfl
theorem kindN_mid {r : Int} (h : 2415 < r) (h' : r ≤ 12288) : kindN r = if inB r 8192 8202 || (r == 8232 || (r == 8233 || r == 12288)) then 3 else 0 := by
  unfold kindN letterB
  simp only [inB_no (r := r) (a := 65) (b := 90) (by omega), inB_no (r := r) (a := 97) (b := 122) (by omega), inB_no (r := r) (a := 192) (b := 591) (by omega), inB_no (r := r) (a := 880) (b := 1023) (by omega),
    inB_no (r := r) (a := 1024) (b := 1327) (by omega), inB_no (r := r) (a := 1329) (b := 1366) (by omega), inB_no (r := r) (a := 1377) (b := 1415) (by omega), inB_no (r := r) (a := 1488) (b := 1514) (by omega), inB_no (r := r) (a := 19968) (b := 40959) (by omega), inB_no (r := r) (a := 44032) (b := 55203) (by omega),
    inB_no (r := r) (a := 48) (b := 57) (by omega), inB_no (r := r) (a := 1632) (b := 1641) (by omega), inB_no (r := r) (a := 2406) (b := 2415) (by omega), inB_no (r := r) (a := 9) (b := 13) (by omega),
    ne_b (r := r) (a := 170) (by omega), ne_b (r := r) (a := 181) (by omega), ne_b (r := r) (a := 186) (by omega), ne_b (r := r) (a := 32) (by omega), ne_b (r := r) (a := 133) (by omega), ne_b (r := r) (a := 160) (by omega),
    Bool.false_or, Bool.or_false, if_false, Bool.false_eq_true]
theorem kind_eq (r : Int) : kindS r = kindN r := by
  by_cases h1 : r < 9
  · rw [kindS_neg h1, kindN_out (.inl h1), inB_no (by omega), inB_no (by omega)]; rfl
  · by_cases h2 : 12288 < r
    · rw [kindS_big h2, kindN_out (.inr h2)]
      by_cases h3 : r ≤ 40959
      · rw [if_pos h3, inB_no (r := r) (a := 44032) (by omega)]
        by_cases h4 : 19968 ≤ r
        · rw [if_pos h4, inB_yes h4 h3]; rfl
        · rw [if_neg h4, inB_no (by omega)]; rfl
      · rw [if_neg h3, inB_no (r := r) (a := 19968) (by omega)]
        by_cases h4 : r ≤ 55203
        · rw [if_pos h4]
          by_cases h5 : 44032 ≤ r
          · rw [if_pos h5, inB_yes h5 h4]; rfl
          · rw [if_neg h5, inB_no (by omega)]; rfl
        · rw [if_neg h4, inB_no (by omega)]; rfl
    · by_cases h3 : 2415 < r
      · rw [kindS_mid h3 (by omega), kindN_mid h3 (by omega)]
        by_cases h4 : r ≤ 8202
        · rw [if_pos h4, ne_b (a := 8232) (by omega), ne_b (a := 8233) (by omega), ne_b (a := 12288) (by omega)]
          by_cases h5 : 8192 ≤ r
          · rw [if_pos h5, inB_yes h5 h4]; rfl
          · rw [if_neg h5, inB_no (by omega)]; rfl
        · rw [if_neg h4, inB_no (by omega)]
          by_cases h5 : r ≤ 8233
          · rw [if_pos h5, ne_b (a := 12288) (by omega)]
            by_cases h6 : 8232 ≤ r
            · rw [if_pos h6]
              by_cases h7 : r = 8232
              · subst h7; rfl
              · obtain rfl : r = 8233 := by omega
                rfl
            · rw [if_neg h6, ne_b (by omega), ne_b (by omega)]; rfl
          · rw [if_neg h5, ne_b (a := 8232) (by omega), ne_b (a := 8233) (by omega)]
            by_cases h6 : 12288 ≤ r
            · obtain rfl : r = 12288 := by omega
              rfl
            · rw [if_neg h6, ne_b (by omega)]; rfl
      · have := kind_small r.toNat (by omega)
        rwa [show ((r.toNat : Nat) : Int) = r by omega] at this
set_option maxRecDepth 100000 in
theorem kind_fold_small : ∀ n : Nat, n < 1400 → kindN (foldN n) = kindN n := by decide +kernel
theorem kind_fold (v : Int) : kindN (foldN v) = kindN v := by
  by_cases h : v < 0 ∨ 1366 < v
  · rw [fold_big h]
  · have := kind_fold_small v.toNat (by omega)
    rwa [show ((v.toNat : Nat) : Int) = v by omega] at this
/-- Fold, as the program goes. -/
def foldU (r : Int) : Int :=
  if r == 215 || r == 930 then r
  else if inB r 65 90 || (inB r 192 222 || (inB r 1040 1071 || inB r 913 937)) then r + 32
  else if r == 962 then 963
  else if inB r 1024 1039 then r + 80
  else if inB r 256 303 || (inB r 330 375 || (inB r 1120 1153 || (inB r 1162 1215 || inB r 1232 1327))) then r + 1 - r % 2
  else if inB r 313 328 || inB r 377 382 then r + r % 2
  else if inB r 1329 1366 then r + 48
  else r
set_option maxRecDepth 100000 in
theorem foldU_small : ∀ n : Nat, n < 1400 → foldU n = foldN n := by decide +kernel
theorem foldU_big {r : Int} (h : r < 0 ∨ 1366 < r) : foldU r = r := by
  unfold foldU
  simp only [inB_no (r := r) (a := 65) (b := 90) (by omega), inB_no (r := r) (a := 192) (b := 222) (by omega), inB_no (r := r) (a := 1040) (b := 1071) (by omega), inB_no (r := r) (a := 913) (b := 937) (by omega),
    inB_no (r := r) (a := 1024) (b := 1039) (by omega), inB_no (r := r) (a := 256) (b := 303) (by omega), inB_no (r := r) (a := 330) (b := 375) (by omega), inB_no (r := r) (a := 1120) (b := 1153) (by omega),
    inB_no (r := r) (a := 1162) (b := 1215) (by omega), inB_no (r := r) (a := 1232) (b := 1327) (by omega), inB_no (r := r) (a := 313) (b := 328) (by omega), inB_no (r := r) (a := 377) (b := 382) (by omega), inB_no (r := r) (a := 1329) (b := 1366) (by omega),
    ne_b (r := r) (a := 215) (by omega), ne_b (r := r) (a := 930) (by omega), ne_b (r := r) (a := 962) (by omega), Bool.or_false, if_false, Bool.false_eq_true]
theorem fold_eq (r : Int) : foldU r = foldN r := by
  by_cases h : r < 0 ∨ 1366 < r
  · rw [foldU_big h, fold_big h]
  · have := foldU_small r.toNat (by omega)
    rwa [show ((r.toNat : Nat) : Int) = r by omega] at this
end Go.Utf
