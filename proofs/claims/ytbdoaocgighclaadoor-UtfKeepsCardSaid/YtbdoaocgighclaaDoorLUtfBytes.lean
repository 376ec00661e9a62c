/- The law UtfBytes returns true for every number. Condition: the tables are laid. -/
import Derived.Test.YtbdoaocgighclaaDoorLUtfKinds
namespace Go.Utf
open Go.Lib
theorem read_cut {r : Int} (h : isB r = true) (k : Nat) (h1 : 1 ≤ k) (h2 : k < (runeT r).length) : readL ((runeT r).take k) = (-1, 1) := by
  have hne : (runeT r).take k ≠ [] := by
    intro e
    have := congrArg List.length e
    rw [List.length_take, List.length_nil] at this; omega
  rcases read_cases hne with e | ⟨v, n, e, hv, hn, h3⟩
  · exact e
  · exfalso
    have hle := readL_le hne
    rw [e] at hle
    rw [List.length_take] at hle
    have h4 : runeT r = runeT v ++ (((runeT r).take k).drop n ++ (runeT r).drop k) := by
      conv => lhs; rw [← List.take_append_drop k (runeT r), h3]
      rw [List.append_assoc]
    have h5 := read_rune hv (((runeT r).take k).drop n ++ (runeT r).drop k)
    rw [← h4] at h5
    have h6 := read_rune h []
    rw [List.append_nil] at h6
    rw [h5] at h6
    have h7 := congrArg Prod.snd h6
    simp only at h7 hle
    omega
end Go.Utf
namespace Go.Proofs.YtbdoaocgighclaaDoor
open Go.RowKit Go.Utf Go.Lib Go.Shelf

set_option maxRecDepth 100000 in
set_option maxHeartbeats 3200000 in
theorem walk_UtfBytes (r : Int) (_ : (Lit.int .i64 r).wf = true) (w : World) (hT : Tabs w) :
    Calls Tryd.prog 5 #[.int .i64 r] w fun e w' => e = .returned (.bool true) ∧ Below w.heap.size w w' := by
  have Hsh := Lib.hid (law_shown w hT)
  have HT := Lib.hid hT
  have HI := Lib.hid (fun w' => ref10_Is r w')
  clear hT
  cases his : isB r with
  | false =>
    rw [his] at HI
    clear his
    go_enter Tryd.func5, Tryd.ntmps5
    go_wp2_with (first
      | (go_at_call 9; refine Hsh.out.mono ?_; rintro e w1 ⟨rfl, hb⟩; have Hb := Lib.hid hb; clear hb)
      | (go_at_call 18; refine (HI.out _).mono ?_; rintro e w2' ⟨rfl, rfl⟩))
    go_ret
    exact ⟨rfl, Hb.out⟩
  | true =>
    rw [his] at HI
    have HA := Lib.hid (fun w' => utf_Append ⟨#[]⟩ (by decide) r w')
    rw [show L ⟨#[]⟩ ++ runeT r = runeT r from rfl] at HA
    have hsz : (B (runeT r)).size = (runeT r).length := size_B _
    have H1 : Hid (readL (L (B (runeT r) ++ ⟨#[120]⟩)) = (r, (runeT r).length)) := Lib.hid (by rw [L_append, L_B]; exact read_rune his _)
    have H2 : ∀ k, readL (L ((B (runeT r)).extract 0 k)) = readL ((runeT r).take k) := fun k => by rw [extract_take, L_B, L_B]
    have hcase : (r < 128 ∧ (runeT r).length = 1) ∨ (128 ≤ r ∧ r < 2048 ∧ (runeT r).length = 2) ∨ (2048 ≤ r ∧ r < 65536 ∧ (runeT r).length = 3) ∨ (65536 ≤ r ∧ (runeT r).length = 4) := by
      rcases isB_cases his with ⟨h0, h1⟩ | ⟨h0, h1⟩ | h | ⟨h0, h1⟩
      · exact .inl ⟨by omega, by rw [runeT_one h0 h1]; rfl⟩
      · exact .inr (.inl ⟨by omega, by omega, by rw [runeT_two h0 h1]; rfl⟩)
      · exact .inr (.inr (.inl ⟨by omega, by omega, by rw [runeT_three h]; rfl⟩))
      · exact .inr (.inr (.inr ⟨by omega, by rw [runeT_four h0 h1]; rfl⟩))
    have Hcut := Lib.hid (read_cut his)
    have hrr : (r == r) = true := beq_self_eq_true _
    clear his
    have key : ∀ (N m : Nat), (runeT r).length = N → 1 ≤ N → N ≤ 4 → readL ((runeT r).take (N - 1)) = (-1, m) →
        ∃ S : ByteArray, B (runeT r) = S ∧ S.size = N ∧ (∀ W, Tabs W → Calls Tryd.prog 19 #[.string (S ++ ⟨#[120]⟩)] W fun e w' => e = .returned (.tuple #[.int .i64 r, .int .i64 (N : Nat)]) ∧ Below W.heap.size W w') ∧
          (∀ X W, L X = (L S).take (N - 1) → Tabs W → Calls Tryd.prog 19 #[.string X] W fun e w' => e = .returned (.tuple #[.int .i64 (-1), .int .i64 (m : Nat)]) ∧ Below W.heap.size W w') := by
      intro N m hN h1 h4 hm
      exact ⟨_, rfl, by rw [hsz, hN], fun W hW => rune_at _ _ _ (by rw [H1.out, hN]) W hW, fun X W hX hW => rune_at _ _ _ (by rw [hX, L_B, hm]) W hW⟩
    clear H1 H2 hsz
    rcases hcase with ⟨h1, hl⟩ | ⟨h0, h1, hl⟩ | ⟨h0, h1, hl⟩ | ⟨h0, hl⟩
    · obtain ⟨S, hS, hz, HR1, HR2⟩ := key 1 0 hl (by omega) (by omega) rfl
      rw [hS] at HA
      have HR1 := Lib.hid HR1
      have HR2 := Lib.hid HR2
      clear key hS Hcut hl
      go_enter Tryd.func5, Tryd.ntmps5
      go_wp2_with (first
        | (go_at_call 9; refine Hsh.out.mono ?_; rintro e w1 ⟨rfl, hb⟩; have Hb := Lib.hid hb; clear hb)
        | (go_at_call 18; refine (HI.out _).mono ?_; rintro e w2' ⟨rfl, rfl⟩)
        | (go_at_call 16; refine (HA.out _).mono ?_; rintro e w2 ⟨rfl, hb⟩; have Hb2 := Lib.hid (step_call Hb.out hb); clear hb))
      refine (HR1.out _ (HT.out.below Hb2.out)).mono ?_
      rintro e w3 ⟨rfl, hb⟩
      have Hb3 := Lib.hid (step_call Hb2.out hb)
      clear hb HR1
      go_wp2_with fail
      refine (HR2.out _ _ rfl (HT.out.below Hb3.out)).mono ?_
      rintro e w4 ⟨rfl, hb⟩
      have Hb4 := Lib.hid (step_call Hb3.out hb)
      clear hb HR2
      go_wp2
      go_ret
      exact ⟨by first | rfl | simp, Hb4.out⟩
    · obtain ⟨S, hS, hz, HR1, HR2⟩ := key 2 1 hl (by omega) (by omega) (Hcut.out 1 (by omega) (by omega))
      rw [hS] at HA
      have HR1 := Lib.hid HR1
      have HR2 := Lib.hid HR2
      clear key hS Hcut hl
      go_enter Tryd.func5, Tryd.ntmps5
      go_wp2_with (first
        | (go_at_call 9; refine Hsh.out.mono ?_; rintro e w1 ⟨rfl, hb⟩; have Hb := Lib.hid hb; clear hb)
        | (go_at_call 18; refine (HI.out _).mono ?_; rintro e w2' ⟨rfl, rfl⟩)
        | (go_at_call 16; refine (HA.out _).mono ?_; rintro e w2 ⟨rfl, hb⟩; have Hb2 := Lib.hid (step_call Hb.out hb); clear hb))
      refine (HR1.out _ (HT.out.below Hb2.out)).mono ?_
      rintro e w3 ⟨rfl, hb⟩
      have Hb3 := Lib.hid (step_call Hb2.out hb)
      clear hb HR1
      go_wp2_with fail
      refine (HR2.out _ _ (by rw [extract_take, L_B]) (HT.out.below Hb3.out)).mono ?_
      rintro e w4 ⟨rfl, hb⟩
      have Hb4 := Lib.hid (step_call Hb3.out hb)
      clear hb HR2
      go_wp2
      go_ret
      exact ⟨by first | rfl | simp, Hb4.out⟩
    · obtain ⟨S, hS, hz, HR1, HR2⟩ := key 3 1 hl (by omega) (by omega) (Hcut.out 2 (by omega) (by omega))
      rw [hS] at HA
      have HR1 := Lib.hid HR1
      have HR2 := Lib.hid HR2
      clear key hS Hcut hl
      go_enter Tryd.func5, Tryd.ntmps5
      go_wp2_with (first
        | (go_at_call 9; refine Hsh.out.mono ?_; rintro e w1 ⟨rfl, hb⟩; have Hb := Lib.hid hb; clear hb)
        | (go_at_call 18; refine (HI.out _).mono ?_; rintro e w2' ⟨rfl, rfl⟩)
        | (go_at_call 16; refine (HA.out _).mono ?_; rintro e w2 ⟨rfl, hb⟩; have Hb2 := Lib.hid (step_call Hb.out hb); clear hb))
      refine (HR1.out _ (HT.out.below Hb2.out)).mono ?_
      rintro e w3 ⟨rfl, hb⟩
      have Hb3 := Lib.hid (step_call Hb2.out hb)
      clear hb HR1
      go_wp2_with fail
      refine (HR2.out _ _ (by rw [extract_take, L_B]) (HT.out.below Hb3.out)).mono ?_
      rintro e w4 ⟨rfl, hb⟩
      have Hb4 := Lib.hid (step_call Hb3.out hb)
      clear hb HR2
      go_wp2
      go_ret
      exact ⟨by first | rfl | simp, Hb4.out⟩
    · obtain ⟨S, hS, hz, HR1, HR2⟩ := key 4 1 hl (by omega) (by omega) (Hcut.out 3 (by omega) (by omega))
      rw [hS] at HA
      have HR1 := Lib.hid HR1
      have HR2 := Lib.hid HR2
      clear key hS Hcut hl
      go_enter Tryd.func5, Tryd.ntmps5
      go_wp2_with (first
        | (go_at_call 9; refine Hsh.out.mono ?_; rintro e w1 ⟨rfl, hb⟩; have Hb := Lib.hid hb; clear hb)
        | (go_at_call 18; refine (HI.out _).mono ?_; rintro e w2' ⟨rfl, rfl⟩)
        | (go_at_call 16; refine (HA.out _).mono ?_; rintro e w2 ⟨rfl, hb⟩; have Hb2 := Lib.hid (step_call Hb.out hb); clear hb))
      refine (HR1.out _ (HT.out.below Hb2.out)).mono ?_
      rintro e w3 ⟨rfl, hb⟩
      have Hb3 := Lib.hid (step_call Hb2.out hb)
      clear hb HR1
      go_wp2_with fail
      refine (HR2.out _ _ (by rw [extract_take, L_B]) (HT.out.below Hb3.out)).mono ?_
      rintro e w4 ⟨rfl, hb⟩
      have Hb4 := Lib.hid (step_call Hb3.out hb)
      clear hb HR2
      go_wp2
      go_ret
      exact ⟨by first | rfl | simp, Hb4.out⟩
end Go.Proofs.YtbdoaocgighclaaDoor
