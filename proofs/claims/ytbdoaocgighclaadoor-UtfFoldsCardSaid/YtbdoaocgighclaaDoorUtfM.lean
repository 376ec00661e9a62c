/- Chapter 10's examples hold. Condition: the tables. -/
import Derived.Test.YtbdoaocgighclaaDoorUtfL
import Derived.Test.YtbdoaocgighclaaDoorUtfF
namespace Go.Proofs.YtbdoaocgighclaaDoor
open Go.RowKit Go.Utf Go.Lib Go.Shelf

theorem rune_at (s : ByteArray) (r : Int) (n : Nat) (h : readL (L s) = (r, n)) (w : World) (hT : Tabs w) :
    Calls Tryd.prog 19 #[.string s] w fun e w' => e = .returned (.tuple #[.int .i64 r, .int .i64 (n : Nat)]) ∧ Below w.heap.size w w' := by
  have := utf_Rune s w hT
  rw [h] at this; exact this
theorem kind_at (r k : Int) (h : kindN r = k) (w : World) (hT : Tabs w) :
    Calls Tryd.prog 12 #[.int .i64 r] w fun e w' => e = .returned (.int .i64 k) ∧ Below w.heap.size w w' := by
  have := utf_Kind r w hT
  rw [h] at this; exact this
theorem folded_at (s : ByteArray) (hs : s.size ≤ 1000000000) (l : List UInt8) (h : foldL (L s) = l) (w : World) (hT : Tabs w) :
    Calls Tryd.prog 10 #[.string s] w fun e w' => e = .returned (.string (B l)) ∧ Below w.heap.size w w' := by
  have := utf_Folded s hs w hT
  rw [h] at this; exact this
theorem rd1 : readL (L ⟨#[195, 169]⟩) = (233, 2) := by decide +kernel
theorem rd2 : readL (L ⟨#[195, 40]⟩) = (-1, 1) := by decide +kernel
theorem rd3 : readL (L ⟨#[237, 160, 128]⟩) = (-1, 1) := by decide +kernel
theorem rd4 : readL (L ⟨#[]⟩) = (-1, 0) := by decide +kernel
theorem fd_pieces : [195, 132, 195, 150, 32, 206, 163, 207, 130, 32, 208, 150] = runeT 196 ++ (runeT 214 ++ (runeT 32 ++ (runeT 931 ++ (runeT 962 ++ (runeT 32 ++ (runeT 1046 ++ [])))))) := by decide +kernel
theorem fd_done : runeT 228 ++ (runeT 246 ++ (runeT 32 ++ (runeT 963 ++ (runeT 963 ++ (runeT 32 ++ (runeT 1078 ++ [])))))) = [195, 164, 195, 182, 32, 207, 131, 207, 131, 32, 208, 182] := by decide +kernel
theorem fd1 : foldL (L ⟨#[195, 132, 195, 150, 32, 206, 163, 207, 130, 32, 208, 150]⟩) = [195, 164, 195, 182, 32, 207, 131, 207, 131, 32, 208, 182] := by
  show foldL [195, 132, 195, 150, 32, 206, 163, 207, 130, 32, 208, 150] = _
  rw [fd_pieces, foldL_rune (by decide), foldL_rune (by decide), foldL_rune (by decide), foldL_rune (by decide), foldL_rune (by decide), foldL_rune (by decide), foldL_rune (by decide), foldL_nil]
  exact fd_done
set_option maxRecDepth 100000 in
set_option maxHeartbeats 1600000 in
theorem law_shown (w : World) (hT : Tabs w) : Calls Tryd.prog 9 #[] w fun e w' => e = .returned (.bool true) ∧ Below w.heap.size w w' := by
  have Hb := Lib.hid (Below.refl w.heap.size w)
  have HT := Lib.hid hT
  have ht : (B [195, 164, 195, 182, 32, 207, 131, 207, 131, 32, 208, 182]).toList = [195, 164, 195, 182, 32, 207, 131, 207, 131, 32, 208, 182] := toList_B _
  clear hT
  go_enter Tryd.func9, Tryd.ntmps9
  go_wp2_with fail
  refine (rune_at _ _ _ rd1 _ (HT.out.below Hb.out)).mono ?_
  rintro e w1 ⟨rfl, hb⟩
  have Hb := Lib.hid (step_call Hb.out hb)
  clear hb
  go_wp2_with fail
  refine (rune_at _ _ _ rd2 _ (HT.out.below Hb.out)).mono ?_
  rintro e w2 ⟨rfl, hb⟩
  have Hb := Lib.hid (step_call Hb.out hb)
  clear hb
  go_wp2_with fail
  refine (rune_at _ _ _ rd3 _ (HT.out.below Hb.out)).mono ?_
  rintro e w3 ⟨rfl, hb⟩
  have Hb := Lib.hid (step_call Hb.out hb)
  clear hb
  go_wp2_with fail
  refine (rune_at _ _ _ rd4 _ (HT.out.below Hb.out)).mono ?_
  rintro e w4 ⟨rfl, hb⟩
  have Hb := Lib.hid (step_call Hb.out hb)
  clear hb
  go_wp2_with (first
    | (go_at_call 12; (with_reducible refine (kind_at 97 1 (by decide) _ (HT.out.below Hb.out)).mono ?_); rintro e w5 ⟨rfl, hb⟩; have Hb := Lib.hid (step_call Hb.out hb); clear hb)
    | (go_at_call 12; (with_reducible refine (kind_at 55 2 (by decide) _ (HT.out.below Hb.out)).mono ?_); rintro e w5 ⟨rfl, hb⟩; have Hb := Lib.hid (step_call Hb.out hb); clear hb)
    | (go_at_call 12; (with_reducible refine (kind_at 32 3 (by decide) _ (HT.out.below Hb.out)).mono ?_); rintro e w5 ⟨rfl, hb⟩; have Hb := Lib.hid (step_call Hb.out hb); clear hb)
    | (go_at_call 12; (with_reducible refine (kind_at 45 0 (by decide) _ (HT.out.below Hb.out)).mono ?_); rintro e w5 ⟨rfl, hb⟩; have Hb := Lib.hid (step_call Hb.out hb); clear hb)
    | (go_at_call 12; (with_reducible refine (kind_at 20013 1 (by decide) _ (HT.out.below Hb.out)).mono ?_); rintro e w5 ⟨rfl, hb⟩; have Hb := Lib.hid (step_call Hb.out hb); clear hb)
    | (go_at_call 12; (with_reducible refine (kind_at 1632 2 (by decide) _ (HT.out.below Hb.out)).mono ?_); rintro e w5 ⟨rfl, hb⟩; have Hb := Lib.hid (step_call Hb.out hb); clear hb)
    | (go_at_call 10; go_must (refine (folded_at _ (by decide) _ fd1 _ (HT.out.below Hb.out)).mono ?_); rintro e w6 ⟨rfl, hb⟩; have Hb := Lib.hid (step_call Hb.out hb); clear hb))
  go_ret
  exact ⟨rfl, Hb.out⟩
end Go.Proofs.YtbdoaocgighclaaDoor
