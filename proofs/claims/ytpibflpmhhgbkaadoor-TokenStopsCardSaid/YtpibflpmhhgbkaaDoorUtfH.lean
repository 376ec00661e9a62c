/- Chapter 10: the reference's Rune. Condition: the text's length fits an int. -/
import Derived.Test.YtpibflpmhhgbkaaDoorUtfRef
import Derived.Test.YtpibflpmhhgbkaaDoorUtfG
import Derived.IntWalk
import Derived.Deep.RegionWith
namespace Go.Proofs.YtpibflpmhhgbkaaDoor
open Go.RowKit Go.Utf Go.Lib

theorem nth_get_s (s : ByteArray) (i : Nat) (h : i < s.size) : (nth (L s) i : Int) = ((s[i].toNat : Nat) : Int) := by
  rw [nth_get (by rw [length_L]; exact h), get_L s i h]
theorem candV_zero (l : List UInt8) (m : Nat) : candV l m 0 = nth l 0 - offN m := rfl
theorem candV_step (s : ByteArray) (m i : Nat) (h : i + 1 < s.size) : candV (L s) m (i + 1) = 64 * candV (L s) m i + ((s[i + 1].toNat : Nat) : Int) - 128 := by
  rw [← nth_get_s s (i + 1) h]; rfl
def ReadV (p : Int × Nat) : Ending := .returned (.tuple #[.int .i64 p.1, .int .i64 (p.2 : Nat)])
/-- None of the lengths below k is a rune's. -/
def NoneB (l : List UInt8) (k : Nat) : Prop := ∀ m, 1 ≤ m → m < k → okB l m = false
theorem noneB_one (l : List UInt8) : NoneB l 1 := fun m h1 h2 => by omega
theorem noneB_step {l : List UInt8} {k : Nat} (h : NoneB l k) (hk : okB l k = false) : NoneB l (k + 1) := by
  intro m h1 h2
  by_cases e : m = k
  · rw [e]; exact hk
  · exact h m h1 (by omega)
set_option maxRecDepth 100000 in
set_option maxHeartbeats 3200000 in
theorem ref10_Rune (s : ByteArray) (hs : s.size ≤ 9223372036854775807) (w : World) :
    Calls Tryd.prog 37 #[.string s] w fun e w' => e = ReadV (readL (L s)) ∧ Below w.heap.size w w' := by
  by_cases h0 : L s = []
  · have he : s.toList.isEmpty = true := by rw [toList_L, h0]; rfl
    rw [h0]
    go_enter Tryd.func37, Tryd.ntmps37
    go_wp2
    go_ret2
    exact ⟨rfl, Below.refl _ _⟩
  have he : s.toList.isEmpty = false := by rw [toList_L]; simpa using h0
  have Hne := Lib.hid h0
  have hpos : 0 < s.size := by
    rcases Nat.eq_zero_or_pos s.size with h | h
    · exact absurd (List.eq_nil_of_length_eq_zero (by rw [length_L]; exact h)) h0
    · exact h
  clear h0
  go_enter Tryd.func37, Tryd.ntmps37
  go_wp2
  go_loopw [4] (fun x4 wr => ∃ k : Nat, 1 ≤ k ∧ k ≤ 5 ∧ x4 = .int .i64 k ∧ NoneB (L s) k ∧ Below w.heap.size w wr) (fun x4 _ => 5 - (intOf x4).toNat)
  case atStart => exact ⟨1, by omega, by omega, rfl, noneB_one _, Below.refl _ _⟩
  case round =>
    obtain ⟨k, hk1, hk5, rfl, hno, hb⟩ := hrel
    have Hno := Lib.hid hno
    have Hb := Lib.hid hb
    clear hno
    by_cases hk : k ≤ 4 ∧ k ≤ s.size
    · obtain ⟨hk4, hks⟩ := hk
      have hz4 : (k : Int) ≤ 4 := by omega
      have hzs : (k : Int) ≤ (s.size : Int) := by omega
      have h1234 : k = 1 ∨ k = 2 ∨ k = 3 ∨ k = 4 := by omega
      rcases h1234 with h | h | h | h
      · have HO : Hid (offN k = 0) := Lib.hid (by rw [h]; rfl)
        have t2 : ((k : Int) == 2) = false := by rw [h]; rfl
        have t3 : ((k : Int) == 3) = false := by rw [h]; rfl
        have t4 : ((k : Int) == 4) = false := by rw [h]; rfl
        clear h
        have g0 := nth_get_s s 0 hpos
        have hb0 := s[0].toNat_lt
        go_wp2
        go_loop [5, 6] (fun x5 x6 => ∃ i : Nat, 1 ≤ i ∧ i ≤ k ∧ x6 = .int .i64 i ∧ x5 = .int .i64 (candV (L s) k (i - 1))) (fun _ x6 => k - (intOf x6).toNat)
        case atStart => exact ⟨1, by omega, hk1, rfl, by rw [Nat.sub_self, candV_zero, HO.out, g0] <;> first | rfl | simp⟩
        case round =>
          obtain ⟨i, hi1, hik, rfl, rfl⟩ := hrel
          obtain ⟨p, rfl⟩ : ∃ p, i = p + 1 := ⟨i - 1, by omega⟩
          rw [Nat.add_sub_cancel]
          obtain ⟨c1, c2⟩ := candV_bd (L s) k p (by omega)
          by_cases hip : p + 1 < k
          · have st := candV_step s k p (by omega)
            have hix : ((p : Int) + 1) < (s.size : Int) := by omega
            have hb1 := (s[p + 1]'(by omega)).toNat_lt
            have St := Lib.hid st
            generalize candV (L s) k p = c at c1 c2 St ⊢
            clear st g0
            go_wp2
            go_round
            case rel => exact ⟨p + 2, by omega, by omega, by go_num, by rw [show p + 2 - 1 = p + 1 by omega, St.out]⟩
            case measure => simp [intOf]; omega
          · obtain rfl : k = p + 1 := by omega
            have hF : Hid (candF (L s) (p + 1) = candV (L s) (p + 1) p) := Lib.hid rfl
            have hok : Hid (okB (L s) (p + 1) = (decide (p + 1 ≤ (L s).length) && (isB (candF (L s) (p + 1)) && decide (runeT (candF (L s) (p + 1)) = (L s).take (p + 1))))) := Lib.hid rfl
            have Hrd := Lib.hid (ok_read (l := L s) (m := p + 1))
            rw [hF.out] at hok Hrd
            generalize candV (L s) (p + 1) p = c at c1 c2 hok Hrd ⊢
            have Hlen : Hid (decide (p + 1 ≤ (L s).length) = true) := Lib.hid (by rw [length_L]; exact decide_eq_true (by omega))
            have Hno2 := Lib.hid (noneB_step (k := p + 1) Hno.out)
            clear g0
            cases his : isB c with
            | false =>
              have Hfin := Lib.hid (Hno2.out (by rw [hok.out, his]; simp))
              have Hcon := Lib.hid (ref10_Is c wr)
              rw [his] at Hcon
              clear his hok
              go_wp2_with (go_at_call 33; refine Hcon.out.mono ?_; rintro e w1 ⟨rfl, rfl⟩)
              go_region
              all_goals
                go_wp2
                go_roundw
                case rel => exact ⟨p + 2, by omega, by omega, by go_num, Hfin.out, Hb.out.drew⟩
                case measure => simp [intOf]; omega
            | true =>
              have Hcon := Lib.hid (ref10_Is c wr)
              rw [his] at Hcon
              have Hby := Lib.hid (fun w => ref10_Bytes c his w)
              have q4 : p + 1 ≤ s.size := by omega
              have ht : ((B (runeT c)).toList == (s.extract 0 (p + 1)).toList) = decide (runeT c = (L s).take (p + 1)) := by
                rw [str_eq, L_B, L_extract]; simp
              rw [his, Hlen.out, Bool.true_and, Bool.true_and] at hok
              by_cases heq : runeT c = (L s).take (p + 1)
              · rw [decide_eq_true heq] at ht hok
                have Hres := Lib.hid (Hrd.out hok.out).1
                clear his hok heq
                go_wp2_with (go_at_call 33; refine Hcon.out.mono ?_; rintro e w1 ⟨rfl, rfl⟩)
                go_region_with (go_at_call 34; refine (Hby.out _).mono ?_; rintro e w1 ⟨rfl, hb1⟩)
                all_goals
                  go_wp2
                  go_ret2
                  exact ⟨by rw [Hres.out]; rfl, Hb.out.drew.trans (hb1.mono Hb.out.size)⟩
              · rw [decide_eq_false heq] at ht hok
                have Hfin := Lib.hid (Hno2.out hok.out)
                clear his hok heq
                go_wp2_with (go_at_call 33; refine Hcon.out.mono ?_; rintro e w1 ⟨rfl, rfl⟩)
                go_region_with (go_at_call 34; refine (Hby.out _).mono ?_; rintro e w1 ⟨rfl, hb1⟩)
                all_goals
                  go_wp2
                  go_roundw
                  case rel => exact ⟨p + 2, by omega, by omega, by go_num, Hfin.out, Hb.out.drew.trans (hb1.mono Hb.out.size)⟩
                  case measure => simp [intOf]; omega
      · have HO : Hid (offN k = 192) := Lib.hid (by rw [h]; rfl)
        have t2 : ((k : Int) == 2) = true := by rw [h]; rfl
        have t3 : ((k : Int) == 3) = false := by rw [h]; rfl
        have t4 : ((k : Int) == 4) = false := by rw [h]; rfl
        clear h
        have g0 := nth_get_s s 0 hpos
        have hb0 := s[0].toNat_lt
        go_wp2
        go_loop [5, 6] (fun x5 x6 => ∃ i : Nat, 1 ≤ i ∧ i ≤ k ∧ x6 = .int .i64 i ∧ x5 = .int .i64 (candV (L s) k (i - 1))) (fun _ x6 => k - (intOf x6).toNat)
        case atStart => exact ⟨1, by omega, hk1, rfl, by rw [Nat.sub_self, candV_zero, HO.out, g0] <;> first | rfl | simp⟩
        case round =>
          obtain ⟨i, hi1, hik, rfl, rfl⟩ := hrel
          obtain ⟨p, rfl⟩ : ∃ p, i = p + 1 := ⟨i - 1, by omega⟩
          rw [Nat.add_sub_cancel]
          obtain ⟨c1, c2⟩ := candV_bd (L s) k p (by omega)
          by_cases hip : p + 1 < k
          · have st := candV_step s k p (by omega)
            have hix : ((p : Int) + 1) < (s.size : Int) := by omega
            have hb1 := (s[p + 1]'(by omega)).toNat_lt
            have St := Lib.hid st
            generalize candV (L s) k p = c at c1 c2 St ⊢
            clear st g0
            go_wp2
            go_round
            case rel => exact ⟨p + 2, by omega, by omega, by go_num, by rw [show p + 2 - 1 = p + 1 by omega, St.out]⟩
            case measure => simp [intOf]; omega
          · obtain rfl : k = p + 1 := by omega
            have hF : Hid (candF (L s) (p + 1) = candV (L s) (p + 1) p) := Lib.hid rfl
            have hok : Hid (okB (L s) (p + 1) = (decide (p + 1 ≤ (L s).length) && (isB (candF (L s) (p + 1)) && decide (runeT (candF (L s) (p + 1)) = (L s).take (p + 1))))) := Lib.hid rfl
            have Hrd := Lib.hid (ok_read (l := L s) (m := p + 1))
            rw [hF.out] at hok Hrd
            generalize candV (L s) (p + 1) p = c at c1 c2 hok Hrd ⊢
            have Hlen : Hid (decide (p + 1 ≤ (L s).length) = true) := Lib.hid (by rw [length_L]; exact decide_eq_true (by omega))
            have Hno2 := Lib.hid (noneB_step (k := p + 1) Hno.out)
            clear g0
            cases his : isB c with
            | false =>
              have Hfin := Lib.hid (Hno2.out (by rw [hok.out, his]; simp))
              have Hcon := Lib.hid (ref10_Is c wr)
              rw [his] at Hcon
              clear his hok
              go_wp2_with (go_at_call 33; refine Hcon.out.mono ?_; rintro e w1 ⟨rfl, rfl⟩)
              go_region
              all_goals
                go_wp2
                go_roundw
                case rel => exact ⟨p + 2, by omega, by omega, by go_num, Hfin.out, Hb.out.drew⟩
                case measure => simp [intOf]; omega
            | true =>
              have Hcon := Lib.hid (ref10_Is c wr)
              rw [his] at Hcon
              have Hby := Lib.hid (fun w => ref10_Bytes c his w)
              have q4 : p + 1 ≤ s.size := by omega
              have ht : ((B (runeT c)).toList == (s.extract 0 (p + 1)).toList) = decide (runeT c = (L s).take (p + 1)) := by
                rw [str_eq, L_B, L_extract]; simp
              rw [his, Hlen.out, Bool.true_and, Bool.true_and] at hok
              by_cases heq : runeT c = (L s).take (p + 1)
              · rw [decide_eq_true heq] at ht hok
                have Hres := Lib.hid (Hrd.out hok.out).1
                clear his hok heq
                go_wp2_with (go_at_call 33; refine Hcon.out.mono ?_; rintro e w1 ⟨rfl, rfl⟩)
                go_region_with (go_at_call 34; refine (Hby.out _).mono ?_; rintro e w1 ⟨rfl, hb1⟩)
                all_goals
                  go_wp2
                  go_ret2
                  exact ⟨by rw [Hres.out]; rfl, Hb.out.drew.trans (hb1.mono Hb.out.size)⟩
              · rw [decide_eq_false heq] at ht hok
                have Hfin := Lib.hid (Hno2.out hok.out)
                clear his hok heq
                go_wp2_with (go_at_call 33; refine Hcon.out.mono ?_; rintro e w1 ⟨rfl, rfl⟩)
                go_region_with (go_at_call 34; refine (Hby.out _).mono ?_; rintro e w1 ⟨rfl, hb1⟩)
                all_goals
                  go_wp2
                  go_roundw
                  case rel => exact ⟨p + 2, by omega, by omega, by go_num, Hfin.out, Hb.out.drew.trans (hb1.mono Hb.out.size)⟩
                  case measure => simp [intOf]; omega
      · have HO : Hid (offN k = 224) := Lib.hid (by rw [h]; rfl)
        have t2 : ((k : Int) == 2) = false := by rw [h]; rfl
        have t3 : ((k : Int) == 3) = true := by rw [h]; rfl
        have t4 : ((k : Int) == 4) = false := by rw [h]; rfl
        clear h
        have g0 := nth_get_s s 0 hpos
        have hb0 := s[0].toNat_lt
        go_wp2
        go_loop [5, 6] (fun x5 x6 => ∃ i : Nat, 1 ≤ i ∧ i ≤ k ∧ x6 = .int .i64 i ∧ x5 = .int .i64 (candV (L s) k (i - 1))) (fun _ x6 => k - (intOf x6).toNat)
        case atStart => exact ⟨1, by omega, hk1, rfl, by rw [Nat.sub_self, candV_zero, HO.out, g0] <;> first | rfl | simp⟩
        case round =>
          obtain ⟨i, hi1, hik, rfl, rfl⟩ := hrel
          obtain ⟨p, rfl⟩ : ∃ p, i = p + 1 := ⟨i - 1, by omega⟩
          rw [Nat.add_sub_cancel]
          obtain ⟨c1, c2⟩ := candV_bd (L s) k p (by omega)
          by_cases hip : p + 1 < k
          · have st := candV_step s k p (by omega)
            have hix : ((p : Int) + 1) < (s.size : Int) := by omega
            have hb1 := (s[p + 1]'(by omega)).toNat_lt
            have St := Lib.hid st
            generalize candV (L s) k p = c at c1 c2 St ⊢
            clear st g0
            go_wp2
            go_round
            case rel => exact ⟨p + 2, by omega, by omega, by go_num, by rw [show p + 2 - 1 = p + 1 by omega, St.out]⟩
            case measure => simp [intOf]; omega
          · obtain rfl : k = p + 1 := by omega
            have hF : Hid (candF (L s) (p + 1) = candV (L s) (p + 1) p) := Lib.hid rfl
            have hok : Hid (okB (L s) (p + 1) = (decide (p + 1 ≤ (L s).length) && (isB (candF (L s) (p + 1)) && decide (runeT (candF (L s) (p + 1)) = (L s).take (p + 1))))) := Lib.hid rfl
            have Hrd := Lib.hid (ok_read (l := L s) (m := p + 1))
            rw [hF.out] at hok Hrd
            generalize candV (L s) (p + 1) p = c at c1 c2 hok Hrd ⊢
            have Hlen : Hid (decide (p + 1 ≤ (L s).length) = true) := Lib.hid (by rw [length_L]; exact decide_eq_true (by omega))
            have Hno2 := Lib.hid (noneB_step (k := p + 1) Hno.out)
            clear g0
            cases his : isB c with
            | false =>
              have Hfin := Lib.hid (Hno2.out (by rw [hok.out, his]; simp))
              have Hcon := Lib.hid (ref10_Is c wr)
              rw [his] at Hcon
              clear his hok
              go_wp2_with (go_at_call 33; refine Hcon.out.mono ?_; rintro e w1 ⟨rfl, rfl⟩)
              go_region
              all_goals
                go_wp2
                go_roundw
                case rel => exact ⟨p + 2, by omega, by omega, by go_num, Hfin.out, Hb.out.drew⟩
                case measure => simp [intOf]; omega
            | true =>
              have Hcon := Lib.hid (ref10_Is c wr)
              rw [his] at Hcon
              have Hby := Lib.hid (fun w => ref10_Bytes c his w)
              have q4 : p + 1 ≤ s.size := by omega
              have ht : ((B (runeT c)).toList == (s.extract 0 (p + 1)).toList) = decide (runeT c = (L s).take (p + 1)) := by
                rw [str_eq, L_B, L_extract]; simp
              rw [his, Hlen.out, Bool.true_and, Bool.true_and] at hok
              by_cases heq : runeT c = (L s).take (p + 1)
              · rw [decide_eq_true heq] at ht hok
                have Hres := Lib.hid (Hrd.out hok.out).1
                clear his hok heq
                go_wp2_with (go_at_call 33; refine Hcon.out.mono ?_; rintro e w1 ⟨rfl, rfl⟩)
                go_region_with (go_at_call 34; refine (Hby.out _).mono ?_; rintro e w1 ⟨rfl, hb1⟩)
                all_goals
                  go_wp2
                  go_ret2
                  exact ⟨by rw [Hres.out]; rfl, Hb.out.drew.trans (hb1.mono Hb.out.size)⟩
              · rw [decide_eq_false heq] at ht hok
                have Hfin := Lib.hid (Hno2.out hok.out)
                clear his hok heq
                go_wp2_with (go_at_call 33; refine Hcon.out.mono ?_; rintro e w1 ⟨rfl, rfl⟩)
                go_region_with (go_at_call 34; refine (Hby.out _).mono ?_; rintro e w1 ⟨rfl, hb1⟩)
                all_goals
                  go_wp2
                  go_roundw
                  case rel => exact ⟨p + 2, by omega, by omega, by go_num, Hfin.out, Hb.out.drew.trans (hb1.mono Hb.out.size)⟩
                  case measure => simp [intOf]; omega
      · have HO : Hid (offN k = 240) := Lib.hid (by rw [h]; rfl)
        have t2 : ((k : Int) == 2) = false := by rw [h]; rfl
        have t3 : ((k : Int) == 3) = false := by rw [h]; rfl
        have t4 : ((k : Int) == 4) = true := by rw [h]; rfl
        clear h
        have g0 := nth_get_s s 0 hpos
        have hb0 := s[0].toNat_lt
        go_wp2
        go_loop [5, 6] (fun x5 x6 => ∃ i : Nat, 1 ≤ i ∧ i ≤ k ∧ x6 = .int .i64 i ∧ x5 = .int .i64 (candV (L s) k (i - 1))) (fun _ x6 => k - (intOf x6).toNat)
        case atStart => exact ⟨1, by omega, hk1, rfl, by rw [Nat.sub_self, candV_zero, HO.out, g0] <;> first | rfl | simp⟩
        case round =>
          obtain ⟨i, hi1, hik, rfl, rfl⟩ := hrel
          obtain ⟨p, rfl⟩ : ∃ p, i = p + 1 := ⟨i - 1, by omega⟩
          rw [Nat.add_sub_cancel]
          obtain ⟨c1, c2⟩ := candV_bd (L s) k p (by omega)
          by_cases hip : p + 1 < k
          · have st := candV_step s k p (by omega)
            have hix : ((p : Int) + 1) < (s.size : Int) := by omega
            have hb1 := (s[p + 1]'(by omega)).toNat_lt
            have St := Lib.hid st
            generalize candV (L s) k p = c at c1 c2 St ⊢
            clear st g0
            go_wp2
            go_round
            case rel => exact ⟨p + 2, by omega, by omega, by go_num, by rw [show p + 2 - 1 = p + 1 by omega, St.out]⟩
            case measure => simp [intOf]; omega
          · obtain rfl : k = p + 1 := by omega
            have hF : Hid (candF (L s) (p + 1) = candV (L s) (p + 1) p) := Lib.hid rfl
            have hok : Hid (okB (L s) (p + 1) = (decide (p + 1 ≤ (L s).length) && (isB (candF (L s) (p + 1)) && decide (runeT (candF (L s) (p + 1)) = (L s).take (p + 1))))) := Lib.hid rfl
            have Hrd := Lib.hid (ok_read (l := L s) (m := p + 1))
            rw [hF.out] at hok Hrd
            generalize candV (L s) (p + 1) p = c at c1 c2 hok Hrd ⊢
            have Hlen : Hid (decide (p + 1 ≤ (L s).length) = true) := Lib.hid (by rw [length_L]; exact decide_eq_true (by omega))
            have Hno2 := Lib.hid (noneB_step (k := p + 1) Hno.out)
            clear g0
            cases his : isB c with
            | false =>
              have Hfin := Lib.hid (Hno2.out (by rw [hok.out, his]; simp))
              have Hcon := Lib.hid (ref10_Is c wr)
              rw [his] at Hcon
              clear his hok
              go_wp2_with (go_at_call 33; refine Hcon.out.mono ?_; rintro e w1 ⟨rfl, rfl⟩)
              go_region
              all_goals
                go_wp2
                go_roundw
                case rel => exact ⟨p + 2, by omega, by omega, by go_num, Hfin.out, Hb.out.drew⟩
                case measure => simp [intOf]; omega
            | true =>
              have Hcon := Lib.hid (ref10_Is c wr)
              rw [his] at Hcon
              have Hby := Lib.hid (fun w => ref10_Bytes c his w)
              have q4 : p + 1 ≤ s.size := by omega
              have ht : ((B (runeT c)).toList == (s.extract 0 (p + 1)).toList) = decide (runeT c = (L s).take (p + 1)) := by
                rw [str_eq, L_B, L_extract]; simp
              rw [his, Hlen.out, Bool.true_and, Bool.true_and] at hok
              by_cases heq : runeT c = (L s).take (p + 1)
              · rw [decide_eq_true heq] at ht hok
                have Hres := Lib.hid (Hrd.out hok.out).1
                clear his hok heq
                go_wp2_with (go_at_call 33; refine Hcon.out.mono ?_; rintro e w1 ⟨rfl, rfl⟩)
                go_region_with (go_at_call 34; refine (Hby.out _).mono ?_; rintro e w1 ⟨rfl, hb1⟩)
                all_goals
                  go_wp2
                  go_ret2
                  exact ⟨by rw [Hres.out]; rfl, Hb.out.drew.trans (hb1.mono Hb.out.size)⟩
              · rw [decide_eq_false heq] at ht hok
                have Hfin := Lib.hid (Hno2.out hok.out)
                clear his hok heq
                go_wp2_with (go_at_call 33; refine Hcon.out.mono ?_; rintro e w1 ⟨rfl, rfl⟩)
                go_region_with (go_at_call 34; refine (Hby.out _).mono ?_; rintro e w1 ⟨rfl, hb1⟩)
                all_goals
                  go_wp2
                  go_roundw
                  case rel => exact ⟨p + 2, by omega, by omega, by go_num, Hfin.out, Hb.out.drew.trans (hb1.mono Hb.out.size)⟩
                  case measure => simp [intOf]; omega
    · have hend := Lib.hid (read_end Hne.out k (by rw [length_L]; omega) Hno.out)
      by_cases hk4 : k ≤ 4
      · have hz : (s.size : Int) < (k : Int) := by omega
        go_wp2
        go_ret2
        exact ⟨by rw [hend.out]; rfl, Hb.out⟩
      · have hz : (4 : Int) < (k : Int) := by omega
        go_wp2
        go_ret2
        exact ⟨by rw [hend.out]; rfl, Hb.out⟩
end Go.Proofs.YtpibflpmhhgbkaaDoor
