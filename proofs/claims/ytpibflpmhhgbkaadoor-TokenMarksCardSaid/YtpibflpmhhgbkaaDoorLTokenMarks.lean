/- The law TokenMarks returns true for every list of words and every two runes. Condition: the tables are laid. -/
import Derived.Test.YtpibflpmhhgbkaaDoorTokK
import Derived.Test.YtpibflpmhhgbkaaDoorUtfI
namespace Go.Utf
open Go.Lib
/-- Words with a blank behind each; with two runes behind each. -/
def blanksT (l : List Tx) : List UInt8 := l.flatMap (· ++ [32])
def marksT (a b : Int) (l : List Tx) : List UInt8 := l.flatMap fun x => x ++ runeT a ++ runeT b
def markB (r : Int) : Prop := kindN r ≠ 1 ∧ kindN r ≠ 2
theorem mark_not {r : Int} (h : markB r) : isB (fixN r) = true ∧ isW (fixN r, runeT (fixN r)) = false := by
  refine ⟨fixN_is r, ?_⟩
  have hk : kindN (fixN r) ≠ 1 ∧ kindN (fixN r) ≠ 2 := by
    unfold fixN
    split
    · exact h
    · decide +kernel
  unfold isW
  rw [Bool.and_eq_false_iff]
  right
  simp [hk.1, hk.2]
theorem words_blanks (l : List Tx) : wordsL (blanksT l) = l.flatMap wordsL := by
  induction l with
  | nil => exact words_nil
  | cons x l ih =>
    have e : blanksT (x :: l) = x ++ 32 :: blanksT l := by simp [blanksT]
    rw [e, words_blank, ih]; rfl
theorem words_marks {a b : Int} (ha : markB a) (hb : markB b) (l : List Tx) : wordsL (runeT b ++ marksT a b l) = l.flatMap wordsL := by
  obtain ⟨a1, a2⟩ := mark_not ha
  obtain ⟨b1, b2⟩ := mark_not hb
  rw [← runeT_fix b, words_lead _ b1 b2]
  induction l with
  | nil => exact words_nil
  | cons x l ih =>
    have e : marksT a b (x :: l) = x ++ (runeT (fixN a) ++ (runeT (fixN b) ++ marksT a b l)) := by simp [marksT, runeT_fix]
    rw [e, words_part _ _ a1 a2, words_lead _ b1 b2, ih]; rfl
theorem tokens_marks {a b : Int} (ha : markB a) (hb : markB b) (l : List Tx) : tokensL (runeT b ++ marksT a b l) = tokensL (blanksT l) := by
  unfold tokensL; rw [words_marks ha hb, words_blanks]
end Go.Utf
namespace Go.Proofs.YtpibflpmhhgbkaaDoor
open Go.RowKit Go.Utf Go.Lib
attribute [local go_sem] Oper.semAt_some

theorem terms_marks {a b : Int} (ha : markB a) (hb : markB b) (l : List Tx) : termsL (runeT b ++ marksT a b l) = termsL (blanksT l) := by
  unfold termsL; rw [tokens_marks ha hb]
theorem blanks_len (l : List Tx) (h : ∀ x ∈ l, x.length ≤ 60) : (blanksT l).length ≤ 61 * l.length := by
  induction l with
  | nil => simp [blanksT]
  | cons x l ih =>
    have := ih fun y hy => h y (by simp [hy])
    have := h x (by simp)
    have e : blanksT (x :: l) = x ++ 32 :: blanksT l := by simp [blanksT]
    rw [e]; simp; omega
theorem marks_len (a b : Int) (l : List Tx) (h : ∀ x ∈ l, x.length ≤ 60) : (marksT a b l).length ≤ 68 * l.length := by
  induction l with
  | nil => simp [marksT]
  | cons x l ih =>
    have := ih fun y hy => h y (by simp [hy])
    have := h x (by simp)
    have := (runeT_length a).2
    have := (runeT_length b).2
    have e : marksT a b (x :: l) = x ++ (runeT a ++ (runeT b ++ marksT a b l)) := by simp [marksT]
    rw [e]; simp; omega
def Sh (l : List Tx) : Prop := ∀ x ∈ l, x.length ≤ 60
set_option maxRecDepth 100000 in
set_option maxHeartbeats 12800000 in
theorem walk_TokenMarks (v : Value) (zs : List ByteArray) (a b : Int) (w : World) (hm : Row w v (zs.map Value.string)) (hz : ∀ s ∈ zs, s.size ≤ maxLen) (_ : (Lit.int .i64 a).wf = true) (_ : (Lit.int .i64 b).wf = true) (hT : Tabs w) :
    Calls Tryd.prog 6 #[v, .int .i64 a, .int .i64 b] w fun e w' => e = .returned (.bool true) ∧ Below w.heap.size w w' := by
  have HT := Lib.hid hT
  have HS := Lib.hid (law_shown w hT)
  have e0 : zs.map Value.string = txtV (zs.map L) := by simp [txtV, B_L]
  rw [e0] at hm
  obtain ⟨oa, ca, rfl, hcell⟩ := txt_row hm
  have Hcell := Lib.hid hcell
  have Hm := Lib.hid hm
  have Hz := Lib.hid hz
  clear hT hm hcell e0 hz
  generalize zs.map L = l at *
  have HK1 := Lib.hid (fun w0 => ref10_Kind a w0)
  have HK2 := Lib.hid (fun w0 => ref10_Kind b w0)
  by_cases hl : l.length ≤ 40
  · have hl1 : ¬ (l.length : Int) > 40 := by omega
    by_cases hab : (((kindN a : Int) == 1) = false ∧ ((kindN a : Int) == 2) = false) ∧ ((kindN b : Int) == 1) = false ∧ ((kindN b : Int) == 2) = false
    · obtain ⟨⟨k1, k2⟩, k3, k4⟩ := hab
      have Ha : Hid (markB a) := Lib.hid ⟨by simpa using k1, by simpa using k2⟩
      have Hb : Hid (markB b) := Lib.hid ⟨by simpa using k3, by simpa using k4⟩
      generalize (kindN a : Int) = ka at *
      generalize (kindN b : Int) = kb at *
      go_enter Tryd.func6, Tryd.ntmps6
      go_wp2_with fail
      refine HS.out.mono ?_
      rintro e w0 ⟨rfl, hb0⟩
      have Hb0 := Lib.hid hb0
      clear hb0
      go_wp2_with (first | (go_at_call 18; with_reducible refine (HK1.out _).mono ?_; rintro e w1 ⟨rfl, rfl⟩) | (go_at_call 18; with_reducible refine (HK2.out _).mono ?_; rintro e w1 ⟨rfl, rfl⟩))
      have HAa : Hid (∀ w0, Calls Tryd.prog 19 #[.string ⟨#[]⟩, .int .i64 a] w0 fun e w' => e = .returned (.string (B (runeT a))) ∧ Below w0.heap.size w0 w') := Lib.hid (fun w0 => ref10_Append ⟨#[]⟩ (by decide) a w0)
      have HAb : Hid (∀ w0, Calls Tryd.prog 19 #[.string ⟨#[]⟩, .int .i64 b] w0 fun e w' => e = .returned (.string (B (runeT b))) ∧ Below w0.heap.size w0 w') := Lib.hid (fun w0 => ref10_Append ⟨#[]⟩ (by decide) b w0)
      refine (HAb.out _).mono ?_
      rintro e w1 ⟨rfl, hb1⟩
      have Hb1 := Lib.hid (step_call Hb0.out hb1)
      clear hb1
      have hra := (runeT_length a).2
      have hrb := (runeT_length b).2
      go_wp2
      go_loopw [8, 9, 10] (fun sv tv i wr => ∃ k : Nat, k ≤ l.length ∧ i = .int .i64 k ∧ sv = .string (B (blanksT (l.take k))) ∧ tv = .string (B (runeT b ++ marksT a b (l.take k))) ∧ Sh (l.take k) ∧ Below w.heap.size w wr) (fun _ _ i _ => l.length - (intOf i).toNat)
      case atStart => exact ⟨0, by omega, rfl, rfl, by simp [marksT], fun x hx => by simp at hx, Hb1.out⟩
      case round =>
        obtain ⟨k, hk, rfl, rfl, rfl, hsh, hbel⟩ := hrel
        have Hsh := Lib.hid hsh
        have Hbel := Lib.hid hbel
        have hl2 := blanks_len (l.take k) hsh
        have hl3 := marks_len a b (l.take k) hsh
        rw [List.length_take, Nat.min_eq_left hk] at hl2 hl3
        by_cases hlt : k < l.length
        · obtain ⟨b0, off, rfl, hb, -, c⟩ := Hcell.out k hlt
          have c := cell_below hbel hb c
          have hS : blanksT (l.take (k + 1)) = blanksT (l.take k) ++ l[k] ++ [32] := by
            rw [List.take_succ_eq_append_getElem hlt]; simp only [blanksT, List.flatMap_append, List.flatMap_cons, List.flatMap_nil, List.append_nil, List.append_assoc]
          have hT' : runeT b ++ marksT a b (l.take (k + 1)) = (runeT b ++ marksT a b (l.take k)) ++ l[k] ++ runeT a ++ runeT b := by
            rw [List.take_succ_eq_append_getElem hlt]; simp only [marksT, List.flatMap_append, List.flatMap_cons, List.flatMap_nil, List.append_nil, List.append_assoc]
          have hsh2 : l[k].length ≤ 60 → Sh (l.take (k + 1)) := fun h x hx => by
            rw [List.take_succ_eq_append_getElem hlt, List.mem_append] at hx
            rcases hx with hx | hx
            · exact hsh x hx
            · simp at hx; rw [hx]; exact h
          have HS2 := Lib.hid hS
          have HT2 := Lib.hid hT'
          have Hsh2 := Lib.hid hsh2
          have hzs : (B (blanksT (l.take k))).size ≤ 2440 := by rw [size_B]; omega
          have hzt : (B (runeT b ++ marksT a b (l.take k))).size ≤ 2724 := by rw [size_B, List.length_append]; omega
          clear hS hT' hsh hsh2 hbel hl2 hl3
          generalize blanksT (l.take k) = S at *
          generalize runeT b ++ marksT a b (l.take k) = T at *
          generalize l[k] = x at c HS2 HT2 Hsh2
          have hk1 : (k : Int) < (l.length : Int) := by omega
          have hk0 : (0 : Int) ≤ (k : Int) := by omega
          have hxz := size_B x
          by_cases hx : x.length ≤ 60
          · have hx1 : ¬ ((B x).size : Int) > 60 := by omega
            have hza := size_B (runeT a)
            have hzb := size_B (runeT b)
            have r1 : ¬ 9223372036854775807 < (B S).size + (B x).size := by omega
            have r2 : ¬ 9223372036854775807 < (B S).size + (B x).size + 1 := by omega
            have r3 : ¬ 9223372036854775807 < (B T).size + (B x).size := by omega
            have r4 : ¬ 9223372036854775807 < (B T).size + (B x).size + (B (runeT a)).size := by omega
            have r5 : ¬ 9223372036854775807 < (B T).size + (B x).size + (B (runeT a)).size + (B (runeT b)).size := by omega
            have HSx : Hid (B S ++ B x ++ ⟨#[32]⟩ = B (blanksT (l.take (k + 1)))) := Lib.hid (by rw [HS2.out, ← B_append, ← B_append]; rfl)
            have HTx : Hid (B T ++ B x ++ B (runeT a) ++ B (runeT b) = B (runeT b ++ marksT a b (l.take (k + 1)))) := Lib.hid (by rw [HT2.out, ← B_append, ← B_append, ← B_append])
            have Hsh3 := Lib.hid (Hsh2.out hx)
            clear hx hza hzb hxz
            go_wp2
            go_region_held3 (fun w' => Below wr.heap.size wr w' ∧ w'.cell? ⟨b0, off + k, none⟩ = some (.string (B x)))
              (first | assumption | exact h1_drew c | exact h1_call (by assumption) hb1)
              (first
                | (go_at_call 19; with_reducible refine (HAa.out _).mono ?_; rintro e w5 ⟨rfl, hb1⟩)
                | (go_at_call 19; with_reducible refine (HAb.out _).mono ?_; rintro e w5 ⟨rfl, hb1⟩))
            all_goals
              go_wp2
              clear r1 r2 r3 r4 r5
              go_roundw
              case rel => exact ⟨k + 1, by omega, by go_num, by rw [HSx.out], by rw [HTx.out], Hsh3.out, step_call Hbel.out (by go_split_ands; assumption)⟩
              case measure => simp [intOf]; omega
          · have hx1 : ((B x).size : Int) > 60 := by omega
            clear hx
            go_wp2
            go_ret
            exact ⟨rfl, Hbel.out⟩
        · obtain rfl : k = l.length := by omega
          have htk : Hid (tokensL (L (B (runeT b ++ marksT a b (l.take l.length)))) = tokensL (L (B (blanksT (l.take l.length))))) := Lib.hid (by rw [L_B, L_B]; exact tokens_marks Ha.out Hb.out _)
          have htm : Hid (termsL (L (B (runeT b ++ marksT a b (l.take l.length)))) = termsL (L (B (blanksT (l.take l.length))))) := Lib.hid (by rw [L_B, L_B]; exact terms_marks Ha.out Hb.out _)
          have hzs : (B (blanksT (l.take l.length))).size ≤ 1000000 := by rw [size_B]; omega
          have hzt : (B (runeT b ++ marksT a b (l.take l.length))).size ≤ 1000000 := by rw [size_B, List.length_append]; omega
          have hcnt := tokens_count (B (blanksT (l.take l.length))) hzs
          have hcnt2 : (termsL (L (B (blanksT (l.take l.length))))).length ≤ 9223372036854775807 := by
            have := terms_count (L (B (blanksT (l.take l.length))))
            omega
          clear hsh hbel hl2 hl3
          generalize B (blanksT (l.take l.length)) = S at *
          generalize B (runeT b ++ marksT a b (l.take l.length)) = T at *
          go_wp2_with fail
          refine (tokens_at S hzs _ rfl _ (HT.out.below Hbel.out)).mono ?_
          rintro e w2 ⟨v2, rfl, hb2, ht2⟩
          have Hb2 := Lib.hid (step_call Hbel.out hb2)
          have Ht2 := Lib.hid ht2
          clear hb2 ht2
          go_wp2_with fail
          refine (tokens_at T hzt _ htk.out _ (HT.out.below Hb2.out)).mono ?_
          rintro e w3 ⟨v3, rfl, hb3, ht3⟩
          have Hb3 := Lib.hid (step_call Hb2.out hb3)
          have Ht2' := Lib.hid (Ht2.out.below hb3)
          have Ht3 := Lib.hid ht3
          clear hb3 ht3
          go_wp2_with fail
          refine (law_same _ _ _ (by omega) _ Ht2'.out Ht3.out).mono ?_
          rintro e w4 ⟨rfl, hb4⟩
          have Hb4 := Lib.hid (step_call Hb3.out hb4)
          clear hb4
          go_wp2_with fail
          refine (terms_at S hzs _ rfl _ (HT.out.below Hb4.out)).mono ?_
          rintro e w5 ⟨v5, rfl, hb5, ht5⟩
          have Hb5 := Lib.hid (step_call Hb4.out hb5)
          have Ht5 := Lib.hid ht5
          clear hb5 ht5
          go_wp2_with fail
          refine (terms_at T hzt _ htm.out _ (HT.out.below Hb5.out)).mono ?_
          rintro e w6 ⟨v6, rfl, hb6, ht6⟩
          have Hb6 := Lib.hid (step_call Hb5.out hb6)
          have Ht5' := Lib.hid (Ht5.out.below hb6)
          have Ht6 := Lib.hid ht6
          clear hb6 ht6
          go_wp2_with fail
          refine (law_sameTexts _ _ _ hcnt2 _ Ht5'.out Ht6.out).mono ?_
          rintro e w7 ⟨rfl, hb7⟩
          have Hb7 := Lib.hid (step_call Hb6.out hb7)
          clear hb7
          go_wp2
          go_ret
          exact ⟨rfl, Hb7.out⟩
    · have hab2 : ((kindN a : Int) == 1) = true ∨ (((kindN a : Int) == 1) = false ∧ ((kindN a : Int) == 2) = true) ∨ (((kindN a : Int) == 1) = false ∧ ((kindN a : Int) == 2) = false ∧ ((kindN b : Int) == 1) = true) ∨ (((kindN a : Int) == 1) = false ∧ ((kindN a : Int) == 2) = false ∧ ((kindN b : Int) == 1) = false ∧ ((kindN b : Int) == 2) = true) := by
        revert hab
        cases ((kindN a : Int) == 1) <;> cases ((kindN a : Int) == 2) <;> cases ((kindN b : Int) == 1) <;> cases ((kindN b : Int) == 2) <;> simp
      clear hab
      generalize (kindN a : Int) = ka at *
      generalize (kindN b : Int) = kb at *
      rcases hab2 with k1 | ⟨k1, k2⟩ | ⟨k1, k2, k3⟩ | ⟨k1, k2, k3, k4⟩
      all_goals
        go_enter Tryd.func6, Tryd.ntmps6
        go_wp2_with fail
        refine HS.out.mono ?_
        rintro e w0 ⟨rfl, hb0⟩
        go_wp2_with (first | (go_at_call 18; with_reducible refine (HK1.out _).mono ?_; rintro e w1 ⟨rfl, rfl⟩) | (go_at_call 18; with_reducible refine (HK2.out _).mono ?_; rintro e w1 ⟨rfl, rfl⟩))
        go_ret
        exact ⟨rfl, hb0⟩
  · have hl1 : (l.length : Int) > 40 := by omega
    go_enter Tryd.func6, Tryd.ntmps6
    go_wp2_with fail
    refine HS.out.mono ?_
    rintro e w0 ⟨rfl, hb0⟩
    go_wp2
    go_ret
    exact ⟨rfl, hb0⟩
end Go.Proofs.YtpibflpmhhgbkaaDoor
