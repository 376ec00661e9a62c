/- Chapter 10: Rune, Valid, runeOf, Append; the reference's Append, Valid. Conditions: the text's length fits an int (of Append: is small). -/
import Derived.Test.YtpibflpmhhgbkaaDoorUtfH
import Derived.Test.YtpibflpmhhgbkaaDoorUtfTabs
import Derived.Lib.ValidU
namespace Go.Utf
open Go.Lib
theorem readL_decode (s : ByteArray) : readL s.data.toList = fixR (decodeGo s) := by
  obtain ⟨⟨l⟩⟩ := s
  cases l with
  | nil => rfl
  | cons b l =>
    have : decodeGo ⟨⟨b :: l⟩⟩ = Utf8.decode ⟨⟨b :: l⟩⟩ 0 := if_neg (by simp [ByteArray.size])
    rw [this]; rfl
theorem decodeL_read (l : List UInt8) (h : l ≠ []) : readL l = fixR (decodeL l) := by
  cases l with
  | nil => exact absurd rfl h
  | cons b l => rfl
theorem fixR_snd (d : Nat × Nat) : (fixR d).2 = d.2 := by unfold fixR; split <;> rfl
theorem validGo_eq : ∀ n l, l.length ≤ n → validGoD n l = validL l := by
  intro n
  induction n with
  | zero =>
    intro l hl
    obtain rfl : l = [] := List.eq_nil_of_length_eq_zero (by omega)
    unfold validL; rw [chunks_nil]; rfl
  | succ n ih =>
    intro l hl
    by_cases h : l = []
    · subst h; unfold validL; rw [chunks_nil]; rfl
    · have hr := decodeL_read l h
      have hpos := readL_pos h
      have hw : (decodeL l).2 = (readL l).2 := by rw [hr, fixR_snd]
      unfold validGoD
      rw [if_neg h]
      have hv : validL l = (decide (0 ≤ (readL l).1) && validL (l.drop (readL l).2)) := by
        unfold validL; rw [chunks_cons h, List.all_cons]
      rw [hv]
      by_cases hb : (decodeL l).1 = 65533 ∧ (decodeL l).2 = 1
      · rw [if_pos hb]
        have : (readL l).1 = -1 := by rw [hr]; unfold fixR; rw [if_pos (by omega)]
        rw [this]; rfl
      · rw [if_neg hb, hw]
        have : (readL l).1 ≠ -1 := by
          intro e
          rcases read_cases h with e1 | ⟨v, k, e1, hv, _⟩
          · have h1 : (readL l).2 = 1 := by rw [e1]
            rw [hr] at e
            unfold fixR at e
            split at e
            · rename_i hc; omega
            · simp only at e; omega
          · rw [e1] at e; rw [isB_iff] at hv; simp only at e; omega
        have h0 : 0 ≤ (readL l).1 := by
          rcases readL_is h with e | e
          · exact absurd e this
          · rw [isB_iff] at e; omega
        rw [decide_eq_true h0, Bool.true_and]
        exact ih _ (by have := drop_lt h; omega)
theorem validD_eq (l : List UInt8) : validD l = validL l := validGo_eq _ _ (Nat.le_refl _)
/-- A rune, or U+FFFD, if it is none. -/
def fixN (r : Int) : Int := if isB r then r else 65533
theorem fixN_is (r : Int) : isB (fixN r) = true := by unfold fixN; split <;> first | assumption | rfl
theorem runeT_fix (r : Int) : runeT (fixN r) = runeT r := by
  unfold fixN
  split
  · rfl
  · rename_i h
    rw [isB_iff] at h
    unfold runeT encodeRune
    rw [encodeRuneZ_bad (r := r) (by omega)]; rfl
theorem encode_eq {v : Int} (h : isB v = true) : Utf8.encode v = ⟨(runeT v).toArray⟩ := by
  have hv : Utf8.valid v = true := by rw [isB_iff] at h; unfold Utf8.valid; simp; omega
  unfold Utf8.encode
  rw [hv]
  simp only [if_true]
  have e : ∀ x : Int, 0 ≤ x → ∀ n : Nat, (n : Int) = x → UInt8.ofNat n = x.toNat.toUInt8 := by
    intro x _ n hn; subst hn; rfl
  rcases isB_cases h with ⟨h0, h1⟩ | ⟨h0, h1⟩ | h2 | ⟨h0, h1⟩
  · rw [runeT_one h0 h1, if_pos (by omega)]
  · rw [runeT_two h0 h1, if_neg (by omega), if_pos (by omega), e (192 + v / 64) (by omega) _ (by omega), e (128 + v % 64) (by omega) _ (by omega)]
  · rw [runeT_three h2, if_neg (by omega), if_neg (by omega), if_pos (by omega), e (224 + v / 4096) (by omega) _ (by omega), e (128 + v / 64 % 64) (by omega) _ (by omega), e (128 + v % 64) (by omega) _ (by omega)]
  · rw [runeT_four h0 h1, if_neg (by omega), if_neg (by omega), if_neg (by omega), e (240 + v / 262144) (by omega) _ (by omega), e (128 + v / 4096 % 64) (by omega) _ (by omega), e (128 + v / 64 % 64) (by omega) _ (by omega), e (128 + v % 64) (by omega) _ (by omega)]
end Go.Utf
namespace Go.Proofs.YtpibflpmhhgbkaaDoor
open Go.RowKit Go.Utf Go.Lib Go.Shelf

set_option maxRecDepth 100000 in
set_option maxHeartbeats 1000000 in
theorem utf_Rune (s : ByteArray) (w : World) (hT : Tabs w) :
    Calls Tryd.prog 42 #[.string s] w fun e w' => e = ReadV (readL (L s)) ∧ Below w.heap.size w w' := by
  have HD := Lib.hid (Any.utf8_DecodeRuneInString uren_197 s w hT.u8)
  have hr : readL (L s) = fixR (decodeGo s) := readL_decode s
  have hle : (decodeGo s).1 ≤ 1114111 := by
    unfold decodeGo
    split
    · decide
    · exact rune_le _ _
  rw [hr]
  generalize decodeGo s = d at HD hle ⊢
  obtain ⟨R, K⟩ := d
  simp only at HD hle
  by_cases h1 : R = 65533
  · have e1 : ((R : Int) == 65533) = true := by subst h1; rfl
    by_cases h2 : K < 3
    · have e : fixR (R, K) = (-1, K) := if_pos ⟨h1, h2⟩
      rw [e]
      clear h1 hr e
      go_enter Tryd.func42, Tryd.ntmps42
      go_wp2_with (go_at_call 60; refine HD.out.mono ?_; rintro e w1 ⟨rfl, hb⟩)
      go_ret2
      exact ⟨rfl, hb⟩
    · have e : fixR (R, K) = ((R : Int), K) := fixR_no (by omega)
      rw [e]
      have h3 : (3 : Int) ≤ (K : Int) := by omega
      have hR : (R : Int) ≤ 65533 := by omega
      clear h1 hr e h2
      go_enter Tryd.func42, Tryd.ntmps42
      go_wp2_with (go_at_call 60; refine HD.out.mono ?_; rintro e w1 ⟨rfl, hb⟩)
      go_ret2
      exact ⟨rfl, hb⟩
  · have e1 : ((R : Int) == 65533) = false := by rw [beq_eq_false_iff_ne]; omega
    have e : fixR (R, K) = ((R : Int), K) := fixR_no (by omega)
    have hR : (R : Int) ≤ 1114111 := by omega
    rw [e]
    clear h1 hr e
    go_enter Tryd.func42, Tryd.ntmps42
    go_wp2_with (go_at_call 60; refine HD.out.mono ?_; rintro e w1 ⟨rfl, hb⟩)
    go_ret2
    exact ⟨rfl, hb⟩
theorem ret_i32 {a b : Int} (h : a = b) : Ending.returned (.int .i32 a) = .returned (.int .i32 b) := by rw [h]
set_option maxRecDepth 100000 in
set_option maxHeartbeats 1000000 in
theorem utf_runeOf (r : Int) (w : World) :
    Calls Tryd.prog 28 #[.int .i64 r] w fun e w' => e = .returned (.int .i32 (fixN r)) ∧ w = w' := by
  obtain ⟨v, hv⟩ : ∃ v, fixN r = v := ⟨_, rfl⟩
  rw [hv]
  have Hv := Lib.hid hv
  clear hv
  by_cases h0 : r < 0
  · have hf : Hid (fixN r = 65533) := Lib.hid (by unfold fixN; rw [if_neg]; rw [isB_iff]; omega)
    go_enter Tryd.func28, Tryd.ntmps28
    go_wp2
    go_ret
    exact ⟨ret_i32 (by rw [← Hv.out, hf.out]), rfl⟩
  by_cases h1 : 1114111 < r
  · have hf : Hid (fixN r = 65533) := Lib.hid (by unfold fixN; rw [if_neg]; rw [isB_iff]; omega)
    have h0' : 0 ≤ r := by omega
    clear h0
    go_enter Tryd.func28, Tryd.ntmps28
    go_wp2
    go_ret
    exact ⟨ret_i32 (by rw [← Hv.out, hf.out]), rfl⟩
  have h0' : 0 ≤ r := by omega
  have h1' : r ≤ 1114111 := by omega
  clear h0 h1
  by_cases h2 : r < 55296
  · have hf : Hid (fixN r = r) := Lib.hid (by unfold fixN; rw [if_pos]; rw [isB_iff]; omega)
    go_enter Tryd.func28, Tryd.ntmps28
    go_wp2
    all_goals
      go_ret
      exact ⟨ret_i32 (by rw [← Hv.out, hf.out]), rfl⟩
  by_cases h3 : 57343 < r
  · have hf : Hid (fixN r = r) := Lib.hid (by unfold fixN; rw [if_pos]; rw [isB_iff]; omega)
    have h2' : 55296 ≤ r := by omega
    clear h2
    go_enter Tryd.func28, Tryd.ntmps28
    go_wp2
    all_goals
      go_ret
      exact ⟨ret_i32 (by rw [← Hv.out, hf.out]), rfl⟩
  · have hf : Hid (fixN r = 65533) := Lib.hid (by unfold fixN; rw [if_neg]; rw [isB_iff]; omega)
    have h2' : 55296 ≤ r := by omega
    have h3' : r ≤ 57343 := by omega
    clear h2 h3
    go_enter Tryd.func28, Tryd.ntmps28
    go_wp2
    all_goals
      go_ret
      exact ⟨ret_i32 (by rw [← Hv.out, hf.out]), rfl⟩
set_option maxRecDepth 100000 in
set_option maxHeartbeats 1000000 in
theorem ref10_Append (s : ByteArray) (hs : s.size ≤ 1000000000) (r : Int) (w : World) :
    Calls Tryd.prog 19 #[.string s, .int .i64 r] w fun e w' => e = .returned (.string (B (L s ++ runeT r))) ∧ Below w.heap.size w w' := by
  have h4 := (runeT_length r).2
  have hz : (B (runeT r)).size ≤ 4 := by rw [size_B]; exact h4
  have Hs : Hid (s ++ B (runeT r) = B (L s ++ runeT r)) := Lib.hid (congrArg (· ++ B (runeT r)) (B_L s).symm |>.trans (B_append _ _))
  have hsum : ¬ 9223372036854775807 < s.size + (B (runeT r)).size := by omega
  have HI := Lib.hid (ref10_Is r w)
  cases his : isB r with
  | true =>
    have Hby := Lib.hid (ref10_Bytes r his w)
    rw [his] at HI
    clear his h4 hz
    go_enter Tryd.func19, Tryd.ntmps19
    go_wp2_with (first
      | (go_at_call 33; refine HI.out.mono ?_; rintro e w1 ⟨rfl, rfl⟩)
      | (go_at_call 34; refine Hby.out.mono ?_; rintro e w1 ⟨rfl, hb⟩))
    go_ret
    exact ⟨ret_str Hs.out, hb⟩
  | false =>
    have Hby := Lib.hid (ref10_Bytes 65533 (by decide) w)
    have e : runeT 65533 = runeT r := by
      have := runeT_fix r
      unfold fixN at this
      rw [his] at this; exact this
    rw [e] at Hby
    rw [his] at HI
    clear his h4 hz e
    go_enter Tryd.func19, Tryd.ntmps19
    go_wp2_with (first
      | (go_at_call 33; refine HI.out.mono ?_; rintro e w1 ⟨rfl, rfl⟩)
      | (go_at_call 34; refine Hby.out.mono ?_; rintro e w1 ⟨rfl, hb⟩))
    go_ret
    exact ⟨ret_str Hs.out, hb⟩
end Go.Proofs.YtpibflpmhhgbkaaDoor
