/- The law FramePacks returns true for every number and writes. Condition: numbers and lengths fit an int. -/
import Derived.Test.YtnljmhdaloolgaaDoorFrmK
namespace Go.Proofs.YtnljmhdaloolgaaDoor
open Go.RowKit Go.Wir Go.Blk Go.Frm

theorem small_bounds {l : List Wr} (h : smallW l = true) : l.length ≤ 60 ∧ ∀ p ∈ l, p.2.length ≤ 600 := by
  unfold smallW at h
  rw [Bool.and_eq_true, decide_eq_true_eq, List.all_eq_true] at h
  exact ⟨h.1, fun p hp => of_decide_eq_true (h.2 p hp)⟩
/-- A packed list: what both sides make. -/
theorem packed_row {seq : Nat} {l : List Wr} {w : World} {base : Nat} {v : Value} (h : w.ownsRow base 9 1 v (packT seq l).length (txtCells (packT seq l))) : Row w v (txtV (packT seq l)) := own_row h
theorem packT_len (seq : Nat) (l : List Wr) : (packT seq l).length ≤ 49 := by
  unfold packT
  split
  · rename_i h
    have := packE_zero.1 h
    rw [List.length_cons, datas_length]; omega
  · simp
set_option maxRecDepth 100000 in
set_option maxHeartbeats 1600000 in
theorem core_FramePacks (seq : Nat) (hs : seq < 18446744073709551616) (v : Value) (l : List Wr) (w : World) (hw : Wrs w v l) (hn : l.length ≤ 9223372036854775807) (hf : ∀ p ∈ l, -9223372036854775808 ≤ p.1 ∧ p.1 ≤ 9223372036854775807 ∧ p.2.length ≤ 9223372036854775807) :
    Calls Tryd.prog 3 #[.int .u64 (seq : Nat), v] w fun e w' => e = .returned (.bool true) ∧ Below w.heap.size w w' := by
  have Hsh := Lib.hid (law_shown w)
  have Hw := Lib.hid hw
  have Hf := Lib.hid hf
  have Hs := Lib.hid hs
  have Hsm := Lib.hid (fun w' (b : Below w.heap.size w w') => law_small v l w' (hw.below b) hn (fun p hp => (hf p hp).2.2))
  obtain ⟨sq, hsq⟩ : ∃ s : Int, s = (seq : Int) := ⟨_, rfl⟩
  have Hsq := Lib.hid hsq
  rw [← hsq]
  clear hw hf hs hsq
  cases hsm : smallW l with
  | false =>
    rw [hsm] at Hsm
    clear hsm
    go_enter Tryd.func3, Tryd.ntmps3
    go_wp2_with fail
    refine Hsh.out.mono ?_
    rintro e w1 ⟨rfl, hb⟩
    have HB := Lib.hid hb
    clear hb
    go_wp2_with fail
    refine (Hsm.out _ HB.out).mono ?_
    rintro e w2 ⟨rfl, rfl⟩
    go_wp2
    go_ret
    exact ⟨rfl, HB.out⟩
  | true =>
    obtain ⟨hl60, hl600⟩ := small_bounds hsm
    rw [hsm] at Hsm
    have Hp1 := Lib.hid (fun w' (b : Below w.heap.size w w') => frame_Pack seq l v Hs.out hn Hf.out w' (Hw.out.below b))
    have Hp2 := Lib.hid (fun w' (b : Below w.heap.size w w') => ref3_Pack seq l v Hs.out hn Hf.out w' (Hw.out.below b))
    have Hwh := Lib.hid (fun w' (b : Below w.heap.size w w') => law_whole v l w' (Hw.out.below b) hn (fun p hp => ⟨(Hf.out p hp).1, (Hf.out p hp).2.1, by have := hl600 p hp; omega⟩))
    have hWl := wholeW_length l
    have hWf := whole_fine l
    have Hfit2 := Lib.hid (show ∀ p ∈ wholeW l, -9223372036854775808 ≤ p.1 ∧ p.1 ≤ 9223372036854775807 ∧ p.2.length ≤ 9223372036854775807 from fun p hp => ⟨by have := (hWf p hp).1; omega, by have := (hWf p hp).1; omega, by have := (hWf p hp).2; omega⟩)
    have Hq1 := Lib.hid (fun v' w' (h : Wrs w' v' (wholeW l)) => frame_Pack seq (wholeW l) v' Hs.out (by omega) Hfit2.out w' h)
    have Hq2 := Lib.hid (fun v' w' (h : Wrs w' v' (wholeW l)) => ref3_Pack seq (wholeW l) v' Hs.out (by omega) Hfit2.out w' h)
    have Hst := Lib.hid (fun va vb k w (ha : Row w va (txtV (packT seq k))) (hb : Row w vb (txtV (packT seq k))) => law_sameTexts va vb (packT seq k) (by have := packT_len seq k; omega) w ha hb)
    unfold PackPost at Hp1 Hp2 Hq1 Hq2
    have HwW : Hid (∀ w' base v', w'.ownsRow base 45 2 v' (wholeN l).length (wrCells (wholeN l)) → Wrs w' v' (wholeW l)) := Lib.hid (fun _ _ _ h => own_wrs h)
    rw [← Hsq.out] at Hp1 Hp2 Hq1 Hq2
    generalize wholeW l = wl at *
    generalize packE l = e1 at *
    generalize packE wl = e2 at *
    have q1 : ((e1 : Int) != (e1 : Int)) = false := by simp
    have q2 : ((e2 : Int) == (e2 : Int)) = true := by simp
    clear hsm hWl hWf
    go_enter Tryd.func3, Tryd.ntmps3
    go_wp2_with fail
    refine Hsh.out.mono ?_
    rintro e w1 ⟨rfl, hb⟩
    have HB := Lib.hid hb
    clear hb
    go_wp2_with fail
    refine (Hsm.out _ HB.out).mono ?_
    rintro e w2 ⟨rfl, rfl⟩
    go_wp2_with fail
    refine (Hp1.out _ HB.out).mono ?_
    rintro e w3 ⟨hb3, v3, rfl, hown3⟩
    have HR3 := Lib.hid (packed_row hown3)
    have HB3 := Lib.hid (step_call HB.out hb3)
    clear hb3 hown3
    go_wp2_with fail
    refine (Hp2.out _ HB3.out).mono ?_
    rintro e w4 ⟨hb4, v4, rfl, hown4⟩
    have HR4 := Lib.hid (packed_row hown4)
    have HR3 := Lib.hid (HR3.out.below hb4)
    have HB4 := Lib.hid (step_call HB3.out hb4)
    clear hb4 hown4
    go_wp2_with (first
      | (go_at_call 13
         refine (Hst.out _ _ _ _ HR3.out HR4.out).mono ?_
         rintro e w5 ⟨rfl, hb5⟩
         have HB5 := Lib.hid (step_call HB4.out hb5)
         clear hb5 q1)
      | (go_at_call 14
         refine (Hwh.out _ HB5.out).mono ?_
         rintro e w6 ⟨v6, rfl, hown6, hb6⟩
         have HW6 := Lib.hid (HwW.out _ _ _ hown6)
         have HB6 := Lib.hid (step_call HB5.out hb6)
         clear hown6 hb6))
    refine (Hq1.out _ _ HW6.out).mono ?_
    rintro e w7 ⟨hb7, v7, rfl, hown7⟩
    have HR7 := Lib.hid (packed_row hown7)
    have HW7 := Lib.hid (HW6.out.below hb7)
    have HB7 := Lib.hid (step_call HB6.out hb7)
    clear hb7 hown7
    go_wp2_with fail
    refine (Hq2.out _ _ HW7.out).mono ?_
    rintro e w8 ⟨hb8, v8, rfl, hown8⟩
    have HR8 := Lib.hid (packed_row hown8)
    have HR7 := Lib.hid (HR7.out.below hb8)
    have HB8 := Lib.hid (step_call HB7.out hb8)
    clear hb8 hown8
    go_wp2_with (go_at_call 13; refine (Hst.out _ _ _ _ HR7.out HR8.out).mono ?_; rintro e w9 ⟨rfl, hb9⟩; have HB9 := Lib.hid (step_call HB8.out hb9); clear hb9)
    go_ret
    exact ⟨rfl, HB9.out⟩
theorem bounds64 {z : Int} (hc : (Lit.int .i64 z).wf = true) : -9223372036854775808 ≤ z ∧ z ≤ 9223372036854775807 := by
  simp [Lit.wf, IntKind.min, IntKind.max, IntKind.signed, IntKind.bits] at hc
  omega
theorem boundsu64 {z : Int} (hc : (Lit.int .u64 z).wf = true) : 0 ≤ z ∧ z ≤ 18446744073709551615 := by
  simp [Lit.wf, IntKind.min, IntKind.max, IntKind.signed, IntKind.bits] at hc
  omega
theorem wr_bounds {l : List Wr} (h : ∀ e ∈ l, (Lit.int .i64 e.1).wf = true ∧ e.2.length ≤ maxLen) : ∀ p ∈ l, -9223372036854775808 ≤ p.1 ∧ p.1 ≤ 9223372036854775807 ∧ p.2.length ≤ 9223372036854775807 := fun p hp => by
  have h1 := bounds64 (h p hp).1
  have h2 := (h p hp).2
  unfold maxLen at h2
  exact ⟨h1.1, h1.2, by omega⟩
theorem walk_FramePacks (sq : Int) (v : Value) (l : List Wr) (w : World) (hs : (Lit.int .u64 sq).wf = true) (hw : Wrs w v l) (hf : ∀ e ∈ l, (Lit.int .i64 e.1).wf = true ∧ e.2.length ≤ maxLen) (hn : l.length ≤ maxLen) :
    Calls Tryd.prog 3 #[.int .u64 sq, v] w fun e w' => e = .returned (.bool true) ∧ Below w.heap.size w w' := by
  obtain ⟨h1, h2⟩ := boundsu64 hs
  obtain ⟨seq, rfl⟩ := Int.eq_ofNat_of_zero_le h1
  unfold maxLen at hn
  exact core_FramePacks seq (by omega) v l w hw (by omega) (wr_bounds hf)
end Go.Proofs.YtnljmhdaloolgaaDoor
