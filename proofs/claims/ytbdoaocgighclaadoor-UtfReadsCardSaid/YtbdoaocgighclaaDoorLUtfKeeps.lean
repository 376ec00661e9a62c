/- The law UtfKeeps returns true for every number and text. Condition: the tables are laid. -/
import Derived.Test.YtbdoaocgighclaaDoorLUtfBytes
namespace Go.Proofs.YtbdoaocgighclaaDoor
open Go.RowKit Go.Utf Go.Lib Go.Shelf

theorem str_differ (a : ByteArray) : (!(a.toList == a.toList)) = false := by rw [str_same]; rfl
theorem valid_rune {r : Int} (h : isB r = true) : validL (runeT r) = true := by
  have := chunks_rune h []
  rw [List.append_nil, chunks_nil] at this
  rw [isB_iff] at h
  unfold validL
  rw [this]
  simp; omega
set_option maxRecDepth 100000 in
set_option maxHeartbeats 3200000 in
theorem walk_UtfKeeps (r : Int) (s : ByteArray) (_ : (Lit.int .i64 r).wf = true) (_ : s.size ≤ maxLen) (w : World) (hT : Tabs w) :
    Calls Tryd.prog 7 #[.int .i64 r, .string s] w fun e w' => e = .returned (.bool true) ∧ Below w.heap.size w w' := by
  have Hsh := Lib.hid (law_shown w hT)
  have HT := Lib.hid hT
  clear hT
  by_cases h : 1000 < s.size
  · have hz : (1000 : Int) < (s.size : Int) := by omega
    go_enter Tryd.func7, Tryd.ntmps7
    go_wp2_with (go_at_call 9; refine Hsh.out.mono ?_; rintro e w1 ⟨rfl, hb⟩; have Hb := Lib.hid hb; clear hb)
    go_ret
    exact ⟨rfl, Hb.out⟩
  have hz : (s.size : Int) ≤ 1000 := by omega
  have h9 : s.size ≤ 1000000000 := by omega
  have HF := Lib.hid (fun w' => utf_Fold r w')
  have HF2 := Lib.hid (fun w' => utf_Fold (foldN r) w')
  rw [fold_fold] at HF2
  have HK := Lib.hid (fun w' (b : Below w.heap.size w w') => utf_Kind (foldN r) w' (HT.out.below b))
  rw [kind_fold] at HK
  have HK2 := Lib.hid (fun w' (b : Below w.heap.size w w') => utf_Kind r w' (HT.out.below b))
  have HT1 := Lib.hid (fun w' (b : Below w.heap.size w w') => utf_Folded s h9 w' (HT.out.below b))
  have hfl : (B (foldL (L s))).size ≤ 4000 := by
    rw [size_B]
    have := foldL_length (L s)
    rw [length_L] at this
    omega
  have HV := Lib.hid (fun w' (b : Below w.heap.size w w') => utf_Valid s (by omega) w' (HT.out.below b))
  have HV2 := Lib.hid (fun w' (b : Below w.heap.size w w') => utf_Valid (B (foldL (L s))) (by omega) w' (HT.out.below b))
  rw [L_B, valid_fold] at HV2
  have HT2 := Lib.hid (fun w' (b : Below w.heap.size w w') => utf_Folded (B (foldL (L s))) (by omega) w' (HT.out.below b))
  rw [L_B, foldL_foldL] at HT2
  have hst := str_differ (B (foldL (L s)))
  generalize B (foldL (L s)) = t at HT1 HV2 HT2 hst hfl
  have hk : (kindN r != kindN r) = false := by simp
  have hf : (foldN r != foldN r) = false := by simp
  generalize kindN r = k at HK HK2 hk
  generalize foldN r = f at HF HF2 HK hf
  have HA := Lib.hid (fun w' => utf_Append s h9 r w')
  have hn4 := runeT_length r
  have hUz : (B (L s ++ runeT r)).size = s.size + (runeT r).length := by rw [size_B, List.length_append, length_L]
  have hU0 : (B (L s ++ runeT r)).extract 0 s.size = s := by rw [extract_take, L_B, ← length_L, List.take_left, B_L]
  have HU1 : Hid (readL (L ((B (L s ++ runeT r)).extract s.size (B (L s ++ runeT r)).size)) = (fixN r, (runeT r).length)) := Lib.hid (by
    rw [extract_to_end, L_B, L_B, ← length_L, List.drop_left]
    have := read_rune (fixN_is r) []
    rw [List.append_nil, runeT_fix] at this
    exact this)
  have HV3 := Lib.hid (fun w' (b : Below w.heap.size w w') => utf_Valid (B (L s ++ runeT r)) (by omega) w' (HT.out.below b))
  rw [L_B] at HV3
  have HVU : Hid (validL (L s) = true → validL (L s ++ runeT r) = true) := Lib.hid (fun hv => by
    rw [valid_append _ _ hv]
    have := valid_rune (fixN_is r)
    rwa [runeT_fix] at this)
  have hUn : (((runeT r).length : Int) != ((B (L s ++ runeT r)).size : Int) - (s.size : Int)) = false := by
    rw [bne_eq_false_iff_eq]; omega
  have HR := Lib.hid (fun w' (b : Below w.heap.size w w') => rune_at _ _ _ HU1.out w' (HT.out.below b))
  have hUle : (s.size : Int) ≤ ((B (L s ++ runeT r)).size : Int) := by omega
  have hUle2 : (B (L s ++ runeT r)).size ≤ 2000 := by omega
  generalize B (L s ++ runeT r) = U at HA hU0 hUn HR HV3 hUle hUle2
  generalize (runeT r).length = n at hUn HR
  generalize validL (L s ++ runeT r) = va at HV3 HVU
  have hs' := str_differ s
  have HI := Lib.hid (fun w' => ref10_Is r w')
  clear hUz HU1 hn4 h
  cases hv : validL (L s)
  all_goals
    rw [hv] at HV HV2 HVU
    clear hv
    cases hi : isB r
    all_goals
      have hfix : fixN r = if isB r then r else 65533 := rfl
      rw [hi] at HI hfix
      first
        | (rw [if_neg (by decide)] at hfix
           rw [hfix] at HR
           clear hi hfix)
        | (rw [if_pos rfl] at hfix
           rw [hfix] at HR
           clear hi hfix)
      have hrr : (r != r) = false := by simp
      go_enter Tryd.func7, Tryd.ntmps7
      go_wp2_with (first
        | (go_at_call 9; refine Hsh.out.mono ?_; rintro e w1 ⟨rfl, hb⟩; have Hb := Lib.hid hb; clear hb)
        | (go_at_call 14; (with_reducible refine (HF.out _).mono ?_); rintro e w2 ⟨rfl, hb⟩; have Hb := Lib.hid (step_call Hb.out hb); clear hb HF)
        | (go_at_call 14; (with_reducible refine (HF2.out _).mono ?_); rintro e w2 ⟨rfl, hb⟩; have Hb := Lib.hid (step_call Hb.out hb); clear hb HF2)
        | (go_at_call 12; (with_reducible refine (HK.out _ Hb.out).mono ?_); rintro e w2 ⟨rfl, hb⟩; have Hb := Lib.hid (step_call Hb.out hb); clear hb HK)
        | (go_at_call 12; (with_reducible refine (HK2.out _ Hb.out).mono ?_); rintro e w2 ⟨rfl, hb⟩; have Hb := Lib.hid (step_call Hb.out hb); clear hb HK2)
        | (go_at_call 10; (with_reducible refine (HT1.out _ Hb.out).mono ?_); rintro e w2 ⟨rfl, hb⟩; have Hb := Lib.hid (step_call Hb.out hb); clear hb HT1)
        | (go_at_call 10; (with_reducible refine (HT2.out _ Hb.out).mono ?_); rintro e w2 ⟨rfl, hb⟩; have Hb := Lib.hid (step_call Hb.out hb); clear hb HT2)
        | (go_at_call 21; (with_reducible refine (HV.out _ Hb.out).mono ?_); rintro e w2 ⟨rfl, hb⟩; have Hb := Lib.hid (step_call Hb.out hb); clear hb HV)
        | (go_at_call 21; (with_reducible refine (HV2.out _ Hb.out).mono ?_); rintro e w2 ⟨rfl, hb⟩; have Hb := Lib.hid (step_call Hb.out hb); clear hb HV2)
        | (go_at_call 21; (with_reducible refine (HV3.out _ Hb.out).mono ?_); rintro e w2 ⟨rfl, hb⟩; have Hb := Lib.hid (step_call Hb.out hb); clear hb HV3)
        | (go_at_call 16; (with_reducible refine (HA.out _).mono ?_); rintro e w2 ⟨rfl, hb⟩; have Hb := Lib.hid (step_call Hb.out hb); clear hb HA)
        | (go_at_call 19; (with_reducible refine (HR.out _ Hb.out).mono ?_); rintro e w2 ⟨rfl, hb⟩; have Hb := Lib.hid (step_call Hb.out hb); clear hb HR)
        | (go_at_call 18; (with_reducible refine (HI.out _).mono ?_); rintro e w2' ⟨rfl, rfl⟩))
      all_goals
        go_ret
        exact ⟨ret_bool (by have := HVU.out; cases va <;> simp_all), Hb.out⟩
end Go.Proofs.YtbdoaocgighclaaDoor
