/- Chapter 10: the reference's Valid and Folded. Condition: the text is at most 10^9 bytes. -/
import Derived.Test.YtpibflpmhhgbkaaDoorUtfK
import Derived.Test.YtpibflpmhhgbkaaDoorOwnBytes
import Derived.Lib.AppendStr
import Derived.OwnWalk
namespace Go.Utf
open Go.Lib
theorem validL_cons {l : List UInt8} (h : l ≠ []) : validL l = (decide (0 ≤ (readL l).1) && validL (l.drop (readL l).2)) := by
  unfold validL; rw [chunks_cons h, List.all_cons]
theorem foldL_cons {l : List UInt8} (h : l ≠ []) : foldL l = (if (readL l).1 < 0 then l.take 1 else runeT (foldN (readL l).1)) ++ foldL (l.drop (readL l).2) := by
  cases l with
  | nil => exact absurd rfl h
  | cons b l =>
    rcases read_cases h with e | ⟨v, n, e, hv, hn, h2⟩
    · rw [foldL_bad (by rw [e]; decide), e, if_pos (by decide)]; rfl
    · rw [e]
      simp only
      rw [isB_iff] at hv
      rw [if_neg (by omega)]
      conv => lhs; rw [h2]
      rw [foldL_rune ((isB_iff _).2 hv)]
theorem take_one : ∀ (l : List UInt8) (h : 0 < l.length), l.take 1 = [l[0]]
  | [], h => by simp at h
  | _ :: _, _ => rfl
theorem foldL_length (l : List UInt8) : (foldL l).length ≤ 4 * l.length := by
  rw [← outP_runes]
  have := outP_length l (idxC 0 (chunks l))
  rw [idxC_length] at this
  have := chunks_length l
  omega
end Go.Utf
namespace Go.Proofs.YtpibflpmhhgbkaaDoor
open Go.RowKit Go.Utf Go.Lib Go.Shelf

theorem own_kept2 {w w' : World} {base : Nat} {e : TypeId} {size : Nat} {v : Value} {n : Nat} {xs : List Value} (h : w.ownsRow base e size v n xs) (b : Below w.heap.size w w') : w'.ownsRow base e size v n xs := by
  refine h.kept (row := none) (grown_below b) ?_
  cases hv : v.ownBlock with
  | none => exact .inl rfl
  | some k => exact .inr (by simp)
set_option maxRecDepth 100000 in
set_option maxHeartbeats 1600000 in
theorem ref10_Folded (s : ByteArray) (hs : s.size ≤ 1000000000) (w : World) :
    Calls Tryd.prog 22 #[.string s] w fun e w' => e = .returned (.string (B (foldL (L s)))) ∧ Below w.heap.size w w' := by
  obtain ⟨i0, hi, hz0, hz1, hz2⟩ := info_parts Tryd.info_u8
  go_enter Tryd.func22, Tryd.ntmps22
  go_wp2
  go_loopw [0, 3] (fun x0 x3 wr => ∃ (t : ByteArray) (pre : List UInt8), x0 = .string t ∧ t.size ≤ s.size ∧ pre.length + 4 * t.size ≤ 4 * s.size ∧ foldL (L s) = pre ++ foldL (L t) ∧ wr.ownsRow w.heap.size 5 1 x3 pre.length (Lib.byteCells pre) ∧ Below w.heap.size w wr) (fun x0 _ _ => match x0 with | .string t => t.size | _ => 0)
  case atStart => exact ⟨s, [], rfl, Nat.le_refl _, by simp, rfl, World.ownsRow_nil _ _ _ _, Below.refl _ _⟩
  case round =>
    obtain ⟨t, pre, rfl, ht, hl, hv, hown, hb⟩ := hrel
    have Hv := Lib.hid hv
    have Hb := Lib.hid hb
    have hbz := hb.size
    clear hv
    by_cases h0 : t.size = 0
    · have hz : (t.size : Int) ≤ 0 := by omega
      have Hn : Hid (L t = []) := Lib.hid (List.eq_nil_of_length_eq_zero (by rw [length_L]; exact h0))
      have hconv := conv_own hown
      clear hown h0
      go_wp2
      go_ret
      exact ⟨ret_str (by rw [Hv.out, Hn.out, foldL_nil, List.append_nil]), Hb.out⟩
    · have hz : (0 : Int) < (t.size : Int) := by omega
      have hne : L t ≠ [] := by
        intro e
        have := congrArg List.length e
        rw [length_L, List.length_nil] at this; omega
      have Hc := Lib.hid (foldL_cons hne)
      have hpos := readL_pos hne
      have hle := readL_le hne
      rw [length_L] at hle
      have HR := Lib.hid (ref10_Rune t (by omega) wr)
      unfold ReadV at HR
      have His := Lib.hid (readL_is hne)
      obtain ⟨x, hx⟩ : ∃ x, readL (L t) = x := ⟨_, rfl⟩
      rw [hx] at HR Hc hpos hle His
      obtain ⟨r, n⟩ := x
      simp only at HR Hc hpos hle His
      have hn : (n : Int) ≤ (t.size : Int) := by omega
      have ht0 : 0 < t.size := by omega
      clear hx hne h0
      by_cases hr : r < 0
      · have Hr := Lib.hid hr
        have Ht1 : Hid ((L t).take 1 = [t[0]]) := Lib.hid (by
          rw [get_L t 0 ht0]
          exact take_one _ _)
        go_wp2_with (first
          | (go_at_call 37; refine HR.out.mono ?_; rintro e w1 ⟨rfl, hb1⟩; have Hb1 := Lib.hid (step_call Hb.out hb1); have hown1 := own_kept2 hown hb1; have hz1' := Hb1.out.size; clear hown hb1)
          | (at_builtin; go_must (refine wpList_append_own _ rfl _ _ 44 rfl w.heap.size 5 i0 (.int .u8 0) 1 1 Tryd.underlying44 hi hz0 hz1 hz2 rfl (by decide) _ _ _ rfl (hown1.alloc _) ⟨w1.heap.size, 0, none⟩ 1 1 [.int .u8 ((t[0].toNat : Nat) : Int)] rfl rfl ?c1 ?c2 ?c3 ?c4 ?c5 ?_)))
        case c1 => exact cell_one_new _ _ _
        case c2 => simp [Value.oneCell']
        case c3 => unfold maxLen; omega
        case c4 => omega
        case c5 => simp; omega
        intro v' w2 hown2 hgrow _
        have hb2 := Lib.hid (below_append Hb1.out hown1 hgrow)
        have hown3 : w2.ownsRow w.heap.size 5 1 v' (pre ++ [t[0]]).length (Lib.byteCells (pre ++ [t[0]])) := by
          rw [List.length_append, ← byte_cell]; exact hown2
        have Hown3 := Lib.hid hown3
        clear hown2 hgrow hown1 hown3
        go_wp2
        go_roundw
        case rel => exact ⟨_, pre ++ [t[0]], rfl, by simp; omega, by simp; omega, by rw [Hv.out, Hc.out, if_pos Hr.out, Ht1.out, extract_to_end, L_B, List.append_assoc], Hown3.out, hb2.out⟩
        case measure => simp; omega
      · have hr' : 0 ≤ r := by omega
        have Hr : Hid (¬ r < 0) := Lib.hid (by omega)
        have hri : isB r = true := by
          rcases His.out with h | h
          · omega
          · exact h
        have hff := fold_is hri
        have HF := Lib.hid (fun w => ref10_Fold r w)
        have HB := Lib.hid (fun w => ref10_Bytes (foldN r) hff w)
        have h4 := (runeT_length (foldN r)).2
        obtain ⟨v, hv⟩ : ∃ v, foldN r = v := ⟨_, rfl⟩
        rw [hv] at HF HB Hc h4
        have hsz := size_B (runeT v)
        have hsz4 : (B (runeT v)).size ≤ 4 := by omega
        have Hsz := Lib.hid hsz
        clear hri hff hv hsz hr h4
        go_wp2_with (first
          | (go_at_call 37; refine HR.out.mono ?_; rintro e w1 ⟨rfl, hb1⟩; have Hb1 := Lib.hid (step_call Hb.out hb1); have hown1 := own_kept2 hown hb1; clear hown hb1)
          | (go_at_call 38; refine (HF.out _).mono ?_; rintro e w2 ⟨rfl, rfl⟩)
          | (go_at_call 34; refine (HB.out _).mono ?_; rintro e w3 ⟨rfl, hb3⟩; have Hb3 := Lib.hid (step_call Hb1.out hb3); have hown3 := own_kept2 hown1 hb3; have hz3 := Hb3.out.size; clear hown1 hb3)
          | (at_builtin; go_must (refine wpList_append_own_string _ rfl _ _ 44 9 rfl w.heap.size 5 i0 Tryd.underlying44 Tryd.underlying9 hi hz0 hz1 hz2 _ _ _ rfl hown3 _ rfl ?d1 ?d2 ?d3 ?_)))
        case d1 => unfold maxLen; omega
        case d2 => omega
        case d3 => omega
        intro v' w4 hown4 hgrow _
        have hb4 := Lib.hid (Hb3.out.grown hgrow hz3 (own_ge hown3))
        have Hown4 : Hid (w4.ownsRow w.heap.size 5 1 v' (pre ++ runeT v).length (Lib.byteCells (pre ++ runeT v))) := Lib.hid (by
          rw [List.length_append, ← Hsz.out, Lib.byteCells_append]; exact hown4)
        have Hsz4 := Lib.hid hsz4
        clear hown4 hgrow hown3 hsz4
        go_wp2
        go_roundw
        case rel => exact ⟨_, pre ++ runeT v, rfl, by simp; omega, by have := Hsz4.out; rw [Hsz.out] at this; simp; omega, by rw [Hv.out, Hc.out, if_neg (show ¬ r < 0 by have := Hr.out; omega), extract_to_end, L_B, List.append_assoc], Hown4.out, hb4.out⟩
        case measure => simp; omega
end Go.Proofs.YtpibflpmhhgbkaaDoor
