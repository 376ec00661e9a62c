/- The law WireLists returns true for every list of texts. Conditions: their lengths fit an int. -/
import Derived.Test.YtijjccamcodbfaaShown2
namespace Go.Proofs.Ytijjccamcodbfaa
open Go.RowKit Go.Wir

theorem sizes_le (l : List ByteArray) (m : Nat) (h : ∀ s ∈ l, s.size ≤ m) : sizes l ≤ l.length * (m + 10) := by
  unfold sizes
  induction l with
  | nil => simp
  | cons a l ih =>
    have h1 := h a (by simp)
    have h2 := ih fun s hs => h s (by simp [hs])
    simp only [List.map_cons, List.sum_cons, List.length_cons, Nat.succ_mul]; omega

set_option maxRecDepth 100000 in
set_option maxHeartbeats 1600000 in
theorem walk_WireLists (v : Value) (l : List ByteArray) (w : World) (hrow : Row w v (l.map .string)) (hl : ∀ s ∈ l, s.size ≤ maxLen) :
    Calls Try.prog 9 #[v] w fun e w' => e = .returned (.bool true) ∧ Below w.heap.size w w' := by
  have Hl := Lib.hid hl
  have Hrow := Lib.hid hrow
  clear hl
  rcases hrow with ⟨a, cap, rfl, h0⟩ | ⟨b, off, cap, rfl, hlc, hb, hcell⟩
  · obtain rfl : l = [] := by simpa using h0
    have e1 : B (textsL []) = ⟨#[]⟩ := rfl
    clear h0
    go_enter Try.func9, Try.ntmps9
    go_wp2_with fail
    refine (shown2 w).mono ?_
    rintro e w1 ⟨rfl, b1⟩
    have B1 := Lib.hid (step_call (Below.refl _ w) b1)
    clear b1
    go_wp2
    go_loop [4] (fun i => i = .int .i64 0) (fun _ => 0)
    case atStart => rfl
    case round =>
      subst hrel
      go_wp2_with fail
      refine (wire_Text _ [] _ (Hrow.out.below B1.out) (by simp [sizes])).mono ?_
      rintro e w2 ⟨rfl, b2⟩
      have B2 := Lib.hid (step_call B1.out b2)
      clear b2
      go_wp2
      go_loop [5, 6] (fun t i => i = .int .i64 0 ∧ t = .string ⟨#[]⟩) (fun _ _ => 0)
      case atStart => exact ⟨rfl, rfl⟩
      case round =>
        obtain ⟨rfl, rfl⟩ := hrel
        go_wp2
        go_ret
        exact ⟨rfl, B2.out⟩
  · rw [List.length_map] at hlc
    by_cases hbig : 60 < l.length
    · rw [List.length_map]
      go_enter Try.func9, Try.ntmps9
      go_wp2_with fail
      refine (shown2 w).mono ?_
      rintro e w1 ⟨rfl, b1⟩
      have B1 := Lib.hid (step_call (Below.refl _ w) b1)
      clear b1
      go_wp2
      go_ret
      exact ⟨rfl, B1.out⟩
    have hcell' : ∀ i (h : i < l.length), w.cell? ⟨b, off + i, none⟩ = some (.string l[i]) := fun i hi => by rw [hcell i (by simpa using hi)]; simp
    have Hcell := Lib.hid hcell'
    clear hcell hcell' hlc
    rw [List.length_map] at *
    have hl60 : l.length ≤ 60 := by omega
    have Hrow' := Lib.hid (show Row w (.slice (some ⟨b, off, none⟩) l.length cap) (l.map .string) by exact Hrow.out)
    clear Hrow
    go_enter Try.func9, Try.ntmps9
    go_wp2_with fail
    refine (shown2 w).mono ?_
    rintro e w1 ⟨rfl, b1⟩
    have B1 := Lib.hid (step_call (Below.refl _ w) b1)
    clear b1
    go_wp2
    go_loop [4] (fun i => ∃ k : Nat, k ≤ l.length ∧ i = .int .i64 k ∧ ∀ s ∈ l.take k, s.size ≤ 1000) (fun i => l.length - (intOf i).toNat)
    case atStart => exact ⟨0, by omega, rfl, by simp⟩
    case round =>
      obtain ⟨k, hk, rfl, hsm⟩ := hrel
      have Hsm := Lib.hid hsm
      clear hsm
      by_cases hlt : k < l.length
      · have hc := cell_below B1.out hb (Hcell.out k hlt)
        have hsk := Hl.out l[k] (List.getElem_mem hlt)
        unfold maxLen at hsk
        have Htk := Lib.hid (List.take_succ_eq_append_getElem hlt)
        generalize l[k] = s at *
        by_cases h1000 : 1000 < s.size
        · go_wp2
          go_ret
          exact ⟨rfl, B1.out⟩
        · go_wp2
          go_round
          case rel => exact ⟨k + 1, by omega, by go_num, fun t ht => by
            rw [Htk.out] at ht
            rcases List.mem_append.1 ht with ht | ht
            · exact Hsm.out t ht
            · simp at ht; subst ht; omega⟩
          case measure => simp [intOf]; omega
      · obtain rfl : k = l.length := by omega
        have Hall : Hid (∀ s ∈ l, s.size ≤ 1000) := Lib.hid (fun s hs => Hsm.out s (by rw [List.take_length]; exact hs))
        have hsz := sizes_le l 1000 Hall.out
        have hsz2 : sizes l ≤ 60600 := by
          have := Nat.mul_le_mul_right (1000 + 10) hl60
          omega
        clear hsz Hsm
        go_wp2_with fail
        refine (wire_Text _ l _ (Hrow'.out.below B1.out) (by omega)).mono ?_
        rintro e w2 ⟨rfl, b2⟩
        have B2 := Lib.hid (step_call B1.out b2)
        clear b2
        go_wp2
        go_loopw [5, 6] (fun t i wr => ∃ k : Nat, k ≤ l.length ∧ i = .int .i64 k ∧ t = .string (B (textsL (l.drop k))) ∧ Below w.heap.size w wr) (fun _ i _ => l.length - (intOf i).toNat)
        case atStart => exact ⟨0, Nat.zero_le _, rfl, rfl, B2.out⟩
        case round =>
          obtain ⟨k, hk, rfl, rfl, hbel⟩ := hrel
          by_cases hlt : k < l.length
          · have hc := cell_below hbel hb (Hcell.out k hlt)
            have hd : textsL (l.drop k) = textL (L l[k]) ++ textsL (l.drop (k + 1)) := by unfold textsL; rw [List.drop_eq_getElem_cons hlt, List.flatMap_cons]
            rw [hd]
            have hsk := Hall.out l[k] (List.getElem_mem hlt)
            have hrl : (textsL (l.drop (k + 1))).length ≤ 60600 := by
              have h1 := textsL_length (l.drop (k + 1))
              have h2 : sizes (l.drop (k + 1)) ≤ sizes l := by
                unfold sizes
                conv => rhs; rw [← List.take_append_drop (k + 1) l]
                rw [List.map_append, List.sum_append]; omega
              omega
            clear hd
            generalize hr : textsL (l.drop (k + 1)) = r at *
            have Hr := Lib.hid hr
            clear hr
            have Hcl := Lib.hid (fun (w' : World) (h : Below wr.heap.size wr w') => cell_below h (lt_of_cell hc) hc)
            generalize l[k] = s at *
            have Hbel := Lib.hid hbel
            have e1 : B (L s) = s := B_L s
            clear hbel
            go_wp2_with fail
            refine (wire_ToText_some _ (L s) r (by rw [size_B, List.length_append]; have := textL_length (L s); rw [length_L] at this; omega) (by rw [L_B]; exact toTextL_textL (L s) r (by rw [length_L]; omega)) _).mono ?_
            rintro e w1 ⟨rfl, b1⟩
            have B1 := Lib.hid (step_call (Below.refl _ wr) b1)
            clear b1
            have hc2 := Hcl.out _ B1.out
            go_wp2
            go_roundw
            case rel => exact ⟨k + 1, by omega, by go_num, by rw [Hr.out], Hbel.out.trans (B1.out.mono Hbel.out.size)⟩
            case measure => simp [intOf]; omega
          · obtain rfl : k = l.length := by omega
            have e0 : B (textsL (l.drop l.length)) = ⟨#[]⟩ := by rw [List.drop_length]; rfl
            rw [e0]
            have Hbel := Lib.hid hbel
            clear hbel
            go_wp2
            go_ret
            exact ⟨rfl, Hbel.out⟩
end Go.Proofs.Ytijjccamcodbfaa
