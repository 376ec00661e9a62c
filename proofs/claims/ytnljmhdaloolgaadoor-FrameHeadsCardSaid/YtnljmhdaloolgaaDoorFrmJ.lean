/- Chapter 3: the law's reads. Conditions: lengths. -/
import Derived.Test.YtnljmhdaloolgaaDoorFrmI
namespace Go.Proofs.YtnljmhdaloolgaaDoor
open Go.RowKit Go.Wir Go.Blk Go.Frm

set_option maxRecDepth 100000 in
set_option maxHeartbeats 1600000 in
theorem law_reads (v : Value) (l : List Txt) (w : World) (hn : l.length ≤ 100000) (hl : ∀ s ∈ l, s.length ≤ 1000000) (hr : Row w v (txtV l)) :
    Calls Tryd.prog 16 #[v] w fun e w' => e = .returned (.bool true) ∧ Below w.heap.size w w' := by
  have Hr := Lib.hid hr
  have Hl := Lib.hid hl
  have Hu1 := Lib.hid (frame_Unpack l v hn (fun s hs => by have := hl s hs; omega) w hr)
  have Hu2 := Lib.hid (fun w' (b : Below w.heap.size w w') => ref3_Unpack l v hn (fun s hs => by have := hl s hs; omega) w' (hr.below b))
  obtain ⟨oa, c, rfl, hcell⟩ := txt_row hr
  have Hcell := Lib.hid hcell
  have Hh1 := Lib.hid (fun s w (h : List.length s ≤ 1000000) => frame_Head s (by omega) w)
  have Hh2 := Lib.hid (fun s w (h : List.length s ≤ 1000000) => ref3_Head s (by omega) w)
  clear hr hl hcell
  obtain ⟨P, hP1, hP2⟩ : ∃ P : Nat × Nat × List (Nat × Txt), (∀ w' base e, UnpPost l base e w' → ∃ v' : Value, e = .returned (.tuple #[.int .u64 (P.1 : Nat), v', .int .i64 (P.2.1 : Nat)]) ∧ Wrs w' v' (intW P.2.2)) ∧ P.2.2.length ≤ 9223372036854775807 := by
    cases hu : unpL l with
    | error c =>
      refine ⟨(0, c, []), fun w' base e h => ?_, by simp⟩
      unfold UnpPost at h
      rw [hu] at h
      exact ⟨.slice none 0 0, h, .inl ⟨none, 0, rfl, rfl⟩⟩
    | ok q =>
      obtain ⟨seq, ws⟩ := q
      by_cases hw : ws.length ≤ 9223372036854775807
      · refine ⟨(seq, 0, ws), fun w' base e h => ?_, hw⟩
        unfold UnpPost at h
        rw [hu] at h
        obtain ⟨v', h1, h2⟩ := h
        exact ⟨v', h1, own_wrs h2⟩
      · exfalso
        cases l with
        | nil => cases hu
        | cons x ls =>
          simp only [unpL] at hu
          cases hr : readL x with
          | none => rw [hr] at hu; cases hu
          | some q =>
            obtain ⟨s', at'⟩ := q
            rw [hr] at hu
            simp only at hu
            split at hu
            · cases hu
            · split at hu
              · split at hu
                · simp only [Except.ok.injEq, Prod.mk.injEq] at hu
                  have h5 := (readL_some hr).2.2.2.1
                  have h6 := (readL_some hr).2.2.2.2.2.1
                  have : ws.length ≤ 48 := by
                    rw [← hu.2, List.length_zip, h5, numsAt_length]; omega
                  omega
                · cases hu
              · cases hu
  obtain ⟨sq, c', ws⟩ := P
  have HP := Lib.hid hP1
  have hP3 : (intW ws).length ≤ 9223372036854775807 := by rw [intW_length]; exact hP2
  clear hP1
  simp only at hP2
  have e1 : ((sq : Int) != (sq : Int)) = false := by simp
  have e2 : ((c' : Int) != (c' : Int)) = false := by simp
  go_enter Tryd.func16, Tryd.ntmps16
  go_wp2_with fail
  refine Hu1.out.mono ?_
  rintro e w1 ⟨hb1, hq⟩
  obtain ⟨v1, rfl, hw1⟩ := HP.out _ _ _ hq
  have Hw1 := Lib.hid hw1
  have Hb1 := Lib.hid hb1
  clear hq hb1 hw1
  go_wp2_with fail
  refine (Hu2.out _ Hb1.out).mono ?_
  rintro e w2 ⟨hb2, hq⟩
  obtain ⟨v2, rfl, hw2⟩ := HP.out _ _ _ hq
  have Hw2 := Lib.hid hw2
  have Hw1 := Lib.hid (Hw1.out.below hb2)
  have Hb2 := Lib.hid (step_call Hb1.out hb2)
  have Hsame := Lib.hid (law_sameWrites v1 v2 (intW ws) hP3 w2 Hw1.out hw2)
  clear hq hb2 hw2
  go_wp2_with (go_at_call 19; refine Hsame.out.mono ?_; rintro e w3 ⟨rfl, hb3⟩; have Hb3 := Lib.hid (step_call Hb2.out hb3); clear hb3)
  clear e1 e2
  go_loopw [9] (fun x9 wr => ∃ k : Nat, k ≤ l.length ∧ k ≤ 4 ∧ x9 = .int .i64 k ∧ Below w.heap.size w wr) (fun x9 _ => 4 - (intOf x9).toNat)
  case atStart => exact ⟨0, by omega, by omega, rfl, Hb3.out⟩
  case round =>
    obtain ⟨k, hk, hk4, rfl, hbel⟩ := hrel
    by_cases hlt : k < l.length ∧ k < 4
    · obtain ⟨hlt, hlt2⟩ := hlt
      obtain ⟨b, off, rfl, hb, _, c0⟩ := Hcell.out k hlt
      have c0 := cell_below hbel hb c0
      have hs := Hl.out l[k] (List.getElem_mem hlt)
      have Hbel := Lib.hid hbel
      have hk1 : (k : Int) < (l.length : Int) := by omega
      have hk2 : (k : Int) < 4 := by omega
      clear hbel
      generalize l[k] = s at *
      have Hhs1 := Lib.hid (Hh1.out s wr hs)
      have Hhs2 := Lib.hid (fun w => Hh2.out s w hs)
      generalize headV s = hv at *
      obtain ⟨h1, h2, h3⟩ := hv
      simp only at Hhs1 Hhs2
      have e1 : ((h1 : Int) != (h1 : Int)) = false := by simp
      have e2 : ((h2 : Int) != (h2 : Int)) = false := by simp
      have e3 : (h3 != h3) = false := by simp
      go_wp2_with fail
      refine Hhs1.out.mono ?_
      rintro e w4 ⟨rfl, hb4⟩
      have d0 := cell_call hb4 c0
      have Hb4 := Lib.hid (step_call Hbel.out hb4)
      clear hb4
      go_wp2_with fail
      refine (Hhs2.out _).mono ?_
      rintro e w5 ⟨rfl, hb5⟩
      have Hb5 := Lib.hid (step_call Hb4.out hb5)
      clear hb5
      go_wp2
      go_roundw
      case rel => exact ⟨k + 1, by omega, by omega, by go_num, Hb5.out⟩
      case measure => simp [intOf]; omega
    · rcases (show (l.length : Int) ≤ (k : Int) ∨ ((k : Int) < (l.length : Int) ∧ (4 : Int) ≤ (k : Int)) by omega) with hk1 | ⟨hk1, hk2⟩
      all_goals
        clear hlt
        go_wp2
        go_ret
        exact ⟨rfl, hbel⟩
end Go.Proofs.YtnljmhdaloolgaaDoor
