/- The law QueryTerms returns true for every two texts. Condition: the tables are laid. -/
import Derived.Test.YtlfhgmclnapmjaaDoorQryLs
import Derived.BigQuiet
namespace Go.Proofs.YtlfhgmclnapmjaaDoor
open Go.RowKit Go.Utf Go.Qry Go.Lib
attribute [local go_sem] Oper.semAt_some

/-- Which of the terms were had so far. -/
def hadT (H : List Tx) (x : Tx) (k : Nat) : Bool := (H.take k).any fun y => decide (y = x)
theorem hadT_snoc (H : List Tx) (x : Tx) (k : Nat) (h : k < H.length) : hadT H x (k + 1) = (hadT H x k || decide (H[k] = x)) := by
  unfold hadT
  rw [List.take_add_one, List.getElem?_eq_getElem h, List.any_append]
  simp
def allT (W H : List Tx) (i : Nat) : Bool := decide (0 < W.length) && (W.take i).all fun x => H.any fun y => decide (y = x)
theorem allT_snoc (W H : List Tx) (i : Nat) (h : i < W.length) : allT W H (i + 1) = (allT W H i && hadT H W[i] H.length) := by
  unfold allT hadT
  rw [List.take_add_one, List.getElem?_eq_getElem h, List.all_append, List.take_of_length_le (Nat.le_refl _), Bool.and_assoc]
  simp
theorem rows_at {w : World} {base : Nat} {v : Value} {l : List Tx} (h : w.ownsRow base 9 1 v l.length (txtCells l)) : ∃ oa c, v = .slice oa l.length c ∧ ∀ i (hi : i < l.length), ∃ b off, oa = some ⟨b, off, none⟩ ∧ b < w.heap.size ∧ l.length ≤ c ∧ w.cell? ⟨b, off + i, none⟩ = some (.string (B l[i])) := txt_row (own_row h)
theorem terms11_at (s : ByteArray) (hs : s.size ≤ 1000000) (w : World) :
    Calls Tryd.prog 21 #[.string s] w fun e w' => ∃ v, e = .returned v ∧ Below w.heap.size w w' ∧ w'.ownsRow w.heap.size 9 1 v (termsC (L s)).length (txtCells (termsC (L s))) := ref11_Terms s hs w
theorem terms_short (s : ByteArray) (h : s.size ≤ 1000000) : (termsC (L s)).length ≤ 1000000 := by
  have h1 := canon_len ((tokensL (L s)).map Prod.fst)
  have h2 := tokens_count s h
  rw [List.length_map] at h1
  exact Nat.le_trans h1 h2
set_option maxRecDepth 100000 in
set_option maxHeartbeats 12800000 in
theorem walk_QueryTerms (s t : ByteArray) (_ : s.size ≤ maxLen) (_ : t.size ≤ maxLen) (w : World) (hT : Tabs w) :
    Calls Tryd.prog 8 #[.string s, .string t] w fun e w' => e = .returned (.bool true) ∧ Below w.heap.size w w' := by
  have HS := Lib.hid (law_shown17 w hT)
  have HT := Lib.hid hT
  clear hT
  go_enter Tryd.func8, Tryd.ntmps8
  go_wp2_with fail
  refine HS.out.mono ?_
  rintro e w1 ⟨rfl, hb⟩
  have B1 := Lib.hid hb
  clear hb HS
  by_cases hs : s.size ≤ 190
  · have hsi : ¬ 190 < (s.size : Int) := by omega
    by_cases ht : t.size ≤ 1500
    · have hti : ¬ 1500 < (t.size : Int) := by omega
      go_wp2_with fail
      refine (law_one 3 s w1).mono ?_
      rintro e w2 ⟨rfl, hb⟩
      have B2 := Lib.hid (step_call B1.out hb)
      clear hb
      go_wp2_with fail
      have hsz : Hid (w2.heap.size = w2.heap.size) := Lib.hid rfl
      have hb := step_new (Below.refl w2.heap.size w2) (.cells #[.int .i64 3, .string s, .slice none 0 0, .slice none 0 0, .slice none 0 0] 24)
      have p0 : (w2.alloc (.cells #[.int .i64 3, .string s, .slice none 0 0, .slice none 0 0, .slice none 0 0] 24)).cell? ⟨w2.heap.size, 0, none⟩ = some (.int .i64 3) := by rw [Lib.cell_of_heap (heap_alloc_new w2 _)]; rfl
      rw [hsz.out] at p0
      have p1 : (w2.alloc (.cells #[.int .i64 3, .string s, .slice none 0 0, .slice none 0 0, .slice none 0 0] 24)).cell? ⟨w2.heap.size, 1, none⟩ = some (.string s) := by rw [Lib.cell_of_heap (heap_alloc_new w2 _)]; rfl
      rw [hsz.out] at p1
      have p2 : (w2.alloc (.cells #[.int .i64 3, .string s, .slice none 0 0, .slice none 0 0, .slice none 0 0] 24)).cell? ⟨w2.heap.size, 2, none⟩ = some (.slice none 0 0) := by rw [Lib.cell_of_heap (heap_alloc_new w2 _)]; rfl
      rw [hsz.out] at p2
      have p3 : (w2.alloc (.cells #[.int .i64 3, .string s, .slice none 0 0, .slice none 0 0, .slice none 0 0] 24)).cell? ⟨w2.heap.size, 3, none⟩ = some (.slice none 0 0) := by rw [Lib.cell_of_heap (heap_alloc_new w2 _)]; rfl
      rw [hsz.out] at p3
      have p4 : (w2.alloc (.cells #[.int .i64 3, .string s, .slice none 0 0, .slice none 0 0, .slice none 0 0] 24)).cell? ⟨w2.heap.size, 4, none⟩ = some (.slice none 0 0) := by rw [Lib.cell_of_heap (heap_alloc_new w2 _)]; rfl
      rw [hsz.out] at p4
      have hsz2 : (w2.alloc (.cells #[.int .i64 3, .string s, .slice none 0 0, .slice none 0 0, .slice none 0 0] 24)).heap.size = w2.heap.size + 1 := World.size_alloc _ _
      rw [hsz.out] at hsz2
      have hsz := Lib.hid hsz2
      have B3 := Lib.hid (step_new B2.out (.cells #[.int .i64 3, .string s, .slice none 0 0, .slice none 0 0, .slice none 0 0] 24))
      clear hb hsz2
      generalize w2.alloc (.cells #[.int .i64 3, .string s, .slice none 0 0, .slice none 0 0, .slice none 0 0] 24) = w3 at *
      refine (law_one 2 s w3).mono ?_
      rintro e w4 ⟨rfl, hb⟩
      replace p0 := cell_call hb p0
      replace p1 := cell_call hb p1
      replace p2 := cell_call hb p2
      replace p3 := cell_call hb p3
      replace p4 := cell_call hb p4
      have B4 := Lib.hid (step_call B3.out hb)
      clear hb
      have x1p0 : ∀ o0, (w4.alloc o0).cell? ⟨w2.heap.size, 0, none⟩ = some (.int .i64 3) := fun o0 => (cell_alloc o0 p0)
      have x1p1 : ∀ o0, (w4.alloc o0).cell? ⟨w2.heap.size, 1, none⟩ = some (.string s) := fun o0 => (cell_alloc o0 p1)
      have x1p2 : ∀ o0, (w4.alloc o0).cell? ⟨w2.heap.size, 2, none⟩ = some (.slice none 0 0) := fun o0 => (cell_alloc o0 p2)
      have x1p3 : ∀ o0, (w4.alloc o0).cell? ⟨w2.heap.size, 3, none⟩ = some (.slice none 0 0) := fun o0 => (cell_alloc o0 p3)
      have x1p4 : ∀ o0, (w4.alloc o0).cell? ⟨w2.heap.size, 4, none⟩ = some (.slice none 0 0) := fun o0 => (cell_alloc o0 p4)
      go_wp2_with fail
      clear x1p0 x1p1 x1p2 x1p3 x1p4
      have hsz : Hid (w4.heap.size = w4.heap.size) := Lib.hid rfl
      have hb := step_new (Below.refl w4.heap.size w4) (.cells #[.int .i64 2, .string s, .slice none 0 0, .slice none 0 0, .slice none 0 0] 24)
      have q0 : (w4.alloc (.cells #[.int .i64 2, .string s, .slice none 0 0, .slice none 0 0, .slice none 0 0] 24)).cell? ⟨w4.heap.size, 0, none⟩ = some (.int .i64 2) := by rw [Lib.cell_of_heap (heap_alloc_new w4 _)]; rfl
      rw [hsz.out] at q0
      have q1 : (w4.alloc (.cells #[.int .i64 2, .string s, .slice none 0 0, .slice none 0 0, .slice none 0 0] 24)).cell? ⟨w4.heap.size, 1, none⟩ = some (.string s) := by rw [Lib.cell_of_heap (heap_alloc_new w4 _)]; rfl
      rw [hsz.out] at q1
      have q2 : (w4.alloc (.cells #[.int .i64 2, .string s, .slice none 0 0, .slice none 0 0, .slice none 0 0] 24)).cell? ⟨w4.heap.size, 2, none⟩ = some (.slice none 0 0) := by rw [Lib.cell_of_heap (heap_alloc_new w4 _)]; rfl
      rw [hsz.out] at q2
      have q3 : (w4.alloc (.cells #[.int .i64 2, .string s, .slice none 0 0, .slice none 0 0, .slice none 0 0] 24)).cell? ⟨w4.heap.size, 3, none⟩ = some (.slice none 0 0) := by rw [Lib.cell_of_heap (heap_alloc_new w4 _)]; rfl
      rw [hsz.out] at q3
      have q4 : (w4.alloc (.cells #[.int .i64 2, .string s, .slice none 0 0, .slice none 0 0, .slice none 0 0] 24)).cell? ⟨w4.heap.size, 4, none⟩ = some (.slice none 0 0) := by rw [Lib.cell_of_heap (heap_alloc_new w4 _)]; rfl
      rw [hsz.out] at q4
      replace p0 := cell_call hb p0
      replace p1 := cell_call hb p1
      replace p2 := cell_call hb p2
      replace p3 := cell_call hb p3
      replace p4 := cell_call hb p4
      have hsz2 : (w4.alloc (.cells #[.int .i64 2, .string s, .slice none 0 0, .slice none 0 0, .slice none 0 0] 24)).heap.size = w4.heap.size + 1 := World.size_alloc _ _
      rw [hsz.out] at hsz2
      have hsz := Lib.hid hsz2
      have B5 := Lib.hid (step_new B4.out (.cells #[.int .i64 2, .string s, .slice none 0 0, .slice none 0 0, .slice none 0 0] 24))
      clear hb hsz2
      generalize w4.alloc (.cells #[.int .i64 2, .string s, .slice none 0 0, .slice none 0 0, .slice none 0 0] 24) = w5 at *
      refine (right_at 3 (by omega) s (by omega) w5 (HT.out.below B5.out)).mono ?_
      rintro e w6 ⟨rfl, hb⟩
      replace p0 := cell_call hb p0
      replace p1 := cell_call hb p1
      replace p2 := cell_call hb p2
      replace p3 := cell_call hb p3
      replace p4 := cell_call hb p4
      replace q0 := cell_call hb q0
      replace q1 := cell_call hb q1
      replace q2 := cell_call hb q2
      replace q3 := cell_call hb q3
      replace q4 := cell_call hb q4
      have B6 := Lib.hid (step_call B5.out hb)
      clear hb
      generalize rightB (.mk 3 (L s) [] [] []) = rt at *
      cases rt
      case false =>
        go_wp2
        go_ret
        exact ⟨rfl, B6.out⟩
      case true =>
        have hcnt := tokens_count t (by omega)
        have Hlb := Lib.hid (toks_bound t (by omega))
        have Hph := Lib.hid (phrase_has (L s) (L t))
        have Hw := Lib.hid (terms_phrase (L s))
        have Hf := Lib.hid (terms_term (L s))
        go_wp2_with fail
        refine (ref11_Tokens t (by omega) w6).mono ?_
        rintro e w7 ⟨v, rfl, hb, hown⟩
        replace p0 := cell_call hb p0
        replace p1 := cell_call hb p1
        replace p2 := cell_call hb p2
        replace p3 := cell_call hb p3
        replace p4 := cell_call hb p4
        replace q0 := cell_call hb q0
        replace q1 := cell_call hb q1
        replace q2 := cell_call hb q2
        replace q3 := cell_call hb q3
        replace q4 := cell_call hb q4
        have B7 := Lib.hid (step_call B6.out hb)
        have Ht := Lib.hid (own_toks hown)
        clear hown
        clear hb
        generalize tokensL (L t) = l at *
        have hcH := terms_short t (by omega)
        have hcW := terms_short s (by omega)
        go_wp2_with fail
        refine (terms11_at t (by omega) w7).mono ?_
        rintro e w8 ⟨v, rfl, hb, hown⟩
        replace p0 := cell_call hb p0
        replace p1 := cell_call hb p1
        replace p2 := cell_call hb p2
        replace p3 := cell_call hb p3
        replace p4 := cell_call hb p4
        replace q0 := cell_call hb q0
        replace q1 := cell_call hb q1
        replace q2 := cell_call hb q2
        replace q3 := cell_call hb q3
        replace q4 := cell_call hb q4
        replace Ht := Lib.hid (Ht.out.below hb)
        have B8 := Lib.hid (step_call B7.out hb)
        have OH := Lib.hid hown
        obtain ⟨xa, xc, rfl⟩ := own_form hown
        clear hown
        clear hb
        go_wp2_with fail
        refine (terms_of 3 (by omega) s (by omega) _ Hw.out w8 (HT.out.below B8.out)).mono ?_
        rintro e w9 ⟨v, rfl, hb, hown⟩
        replace p0 := cell_call hb p0
        replace p1 := cell_call hb p1
        replace p2 := cell_call hb p2
        replace p3 := cell_call hb p3
        replace p4 := cell_call hb p4
        replace q0 := cell_call hb q0
        replace q1 := cell_call hb q1
        replace q2 := cell_call hb q2
        replace q3 := cell_call hb q3
        replace q4 := cell_call hb q4
        replace Ht := Lib.hid (Ht.out.below hb)
        replace OH := Lib.hid (own_below OH.out hb)
        have B9 := Lib.hid (step_call B8.out hb)
        have OW := Lib.hid hown
        obtain ⟨ya, yc, rfl⟩ := own_form hown
        clear hown
        clear hb
        go_wp2_with fail
        refine (terms_of 2 (by omega) s (by omega) _ rfl w9 (HT.out.below B9.out)).mono ?_
        rintro e w10 ⟨v, rfl, hb, hown⟩
        replace p0 := cell_call hb p0
        replace p1 := cell_call hb p1
        replace p2 := cell_call hb p2
        replace p3 := cell_call hb p3
        replace p4 := cell_call hb p4
        replace q0 := cell_call hb q0
        replace q1 := cell_call hb q1
        replace q2 := cell_call hb q2
        replace q3 := cell_call hb q3
        replace q4 := cell_call hb q4
        replace Ht := Lib.hid (Ht.out.below hb)
        replace OH := Lib.hid (own_below OH.out hb)
        replace OW := Lib.hid (own_below OW.out hb)
        have B10 := Lib.hid (step_call B9.out hb)
        have OF := Lib.hid hown
        obtain ⟨za, zc, rfl⟩ := own_form hown
        clear hown
        clear hb
        clear OF
        rw [Hf.out]
        go_wp2_with fail
        refine (terms11_at s (by omega) w10).mono ?_
        rintro e w11 ⟨v, rfl, hb, hown⟩
        replace p0 := cell_call hb p0
        replace p1 := cell_call hb p1
        replace p2 := cell_call hb p2
        replace p3 := cell_call hb p3
        replace p4 := cell_call hb p4
        replace q0 := cell_call hb q0
        replace q1 := cell_call hb q1
        replace q2 := cell_call hb q2
        replace q3 := cell_call hb q3
        replace q4 := cell_call hb q4
        replace Ht := Lib.hid (Ht.out.below hb)
        replace OH := Lib.hid (own_below OH.out hb)
        replace OW := Lib.hid (own_below OW.out hb)
        have B11 := Lib.hid (step_call B10.out hb)
        have OW2 := Lib.hid hown
        obtain ⟨ua, uc, rfl⟩ := own_form hown
        clear hown
        clear hb
        go_wp2_with fail
        refine (law_sameTexts17 _ _ _ (by omega) w11 (own_row OW.out) (own_row OW2.out)).mono ?_
        rintro e w12 ⟨rfl, hb⟩
        replace p0 := cell_call hb p0
        replace p1 := cell_call hb p1
        replace p2 := cell_call hb p2
        replace p3 := cell_call hb p3
        replace p4 := cell_call hb p4
        replace q0 := cell_call hb q0
        replace q1 := cell_call hb q1
        replace q2 := cell_call hb q2
        replace q3 := cell_call hb q3
        replace q4 := cell_call hb q4
        replace Ht := Lib.hid (Ht.out.below hb)
        replace OH := Lib.hid (own_below OH.out hb)
        replace OW := Lib.hid (own_below OW.out hb)
        have B12 := Lib.hid (step_call B11.out hb)
        clear hb
        clear OW2 Hw Hf
        generalize hHt : termsC (L t) = H at *
        generalize hWs : termsC (L s) = W at *
        clear hHt hWs
        have hmin : ¬ 1 < ((min 1 W.length : Nat) : Int) := by omega
        have hmin2 : (((min 1 W.length : Nat) : Int) != min 1 (W.length : Int)) = false := by rw [bne_eq_false_iff_eq]; omega
        obtain ⟨ya2, yc2, e, hyc⟩ := rows_at OW.out
        simp only [Value.slice.injEq, true_and] at e
        obtain ⟨rfl, rfl⟩ := e
        obtain ⟨xa2, xc2, e, hxc⟩ := rows_at OH.out
        simp only [Value.slice.injEq, true_and] at e
        obtain ⟨rfl, rfl⟩ := e
        have Hyc := Lib.hid hyc
        have Hxc := Lib.hid hxc
        clear hyc hxc OW OH
        have P0 := Lib.hid p0
        have P1 := Lib.hid p1
        have P2 := Lib.hid p2
        have P3 := Lib.hid p3
        have P4 := Lib.hid p4
        have Q0 := Lib.hid q0
        have Q1 := Lib.hid q1
        have Q2 := Lib.hid q2
        have Q3 := Lib.hid q3
        have Q4 := Lib.hid q4
        clear p0 p1 p2 p3 p4 q0 q1 q2 q3 q4
        go_wp2
        clear hmin hmin2
        go_loopw [13, 14] (fun x13 x14 wr => ∃ i : Nat, i ≤ W.length ∧ x14 = .int .i64 i ∧ x13 = .bool (allT W H i) ∧ Below w12.heap.size w12 wr) (fun _ x14 _ => W.length - (intOf x14).toNat)
        case atStart => exact ⟨0, by omega, rfl, by unfold allT; simp, Below.refl _ _⟩
        case round =>
          obtain ⟨i, hi, rfl, rfl, hbel⟩ := hrel
          have Hbel := Lib.hid hbel
          by_cases hlt : i < W.length
          · obtain ⟨yb, yf, rfl, hyb, -, ky⟩ := Hyc.out i hlt
            have hki : (i : Int) < (W.length : Int) := by omega
            have Hsn := Lib.hid (allT_snoc W H i hlt)
            have KY := Lib.hid ky
            clear ky
            generalize W[i] = x at *
            generalize hcc : allT W H (i + 1) = c1 at *
            have Hcc := Lib.hid hcc
            clear hcc
            generalize allT W H i = c0 at *
            clear hbel
            go_wp2
            go_loopw [15, 16] (fun x15 x16 wr => ∃ k : Nat, k ≤ H.length ∧ x16 = .int .i64 k ∧ x15 = .bool (hadT H x k) ∧ Below w12.heap.size w12 wr) (fun _ x16 _ => H.length - (intOf x16).toNat)
            case atStart => exact ⟨0, by omega, rfl, rfl, Hbel.out⟩
            case round =>
              obtain ⟨k, hk, rfl, rfl, hbel⟩ := hrel
              have Hbi := Lib.hid hbel
              by_cases hlt2 : k < H.length
              · obtain ⟨xb, xf, rfl, hxb, -, kx⟩ := Hxc.out k hlt2
                have kx := cell_below hbel hxb kx
                have ky := cell_below hbel hyb KY.out
                have hkk : (k : Int) < (H.length : Int) := by omega
                have Hs2 := Lib.hid (hadT_snoc H x k hlt2)
                have e1 : ((B H[k]).toList == (B x).toList) = decide (H[k] = x) := by rw [toList_B, toList_B, Bool.eq_iff_iff, beq_iff_eq, decide_eq_true_eq]
                generalize decide (H[k] = x) = dd at *
                generalize H[k] = y at *
                generalize hcc : hadT H x (k + 1) = d1 at *
                have Hdd := Lib.hid hcc
                clear hcc hbel
                generalize hadT H x k = d0 at *
                cases d0
                all_goals
                  go_wp2
                  go_quiet (fail)
                  go_wp2
                  go_roundw
                  case rel => exact ⟨k + 1, by omega, by go_num, by rw [Hdd.out, Hs2.out]; simp, below_to_drewN Hbi.out _⟩
                  case measure => simp [intOf]; omega
              · obtain rfl : k = H.length := by omega
                generalize hadT H x H.length = hd at *
                clear hbel
                cases c0 <;> cases hd
                all_goals
                  go_wp2
                  go_roundw
                  case rel => exact ⟨i + 1, by omega, by go_num, by rw [Hcc.out, Hsn.out]; rfl, Hbi.out⟩
                  case measure => simp [intOf]; omega
          · obtain rfl : i = W.length := by omega
            have Hall : Hid (matB l (.mk 3 (L s) [] [] []) = true → allT W H W.length = true ∧ matB l (.mk 2 (L s) [] [] []) = true) := Lib.hid (fun h => by
              have := Hph.out h
              unfold allT
              rw [List.take_of_length_le (Nat.le_refl _)]
              exact this)
            generalize allT W H W.length = al at *
            clear Hph Hyc Hxc hlt hi
            have hb := hbel
            clear hbel
            have p0 := cell_call hb P0.out
            have p1 := cell_call hb P1.out
            have p2 := cell_call hb P2.out
            have p3 := cell_call hb P3.out
            have p4 := cell_call hb P4.out
            have q0 := cell_call hb Q0.out
            have q1 := cell_call hb Q1.out
            have q2 := cell_call hb Q2.out
            have q3 := cell_call hb Q3.out
            have q4 := cell_call hb Q4.out
            clear P0 P1 P2 P3 P4 Q0 Q1 Q2 Q3 Q4
            replace Ht := Lib.hid (Ht.out.below hb)
            have B13 := Lib.hid (step_call B12.out hb)
            clear hb Hbel
            generalize hmp : matB l (.mk 3 (L s) [] [] []) = mp at *
            generalize hmt : matB l (.mk 2 (L s) [] [] []) = mt at *
            have HMP := Lib.hid hmp
            have HMT := Lib.hid hmt
            clear hmp hmt
            go_wp2_with fail
            refine (mat_at 3 (by omega) s (by omega) l v Hlb.out hcnt mp HMP.out wr Ht.out (HT.out.below B13.out)).mono ?_
            rintro e w14 ⟨rfl, hb⟩
            replace p0 := cell_call hb p0
            replace p1 := cell_call hb p1
            replace p2 := cell_call hb p2
            replace p3 := cell_call hb p3
            replace p4 := cell_call hb p4
            replace q0 := cell_call hb q0
            replace q1 := cell_call hb q1
            replace q2 := cell_call hb q2
            replace q3 := cell_call hb q3
            replace q4 := cell_call hb q4
            replace Ht := Lib.hid (Ht.out.below hb)
            have B14 := Lib.hid (step_call B13.out hb)
            clear hb
            go_wp2_with fail
            refine (mat_at 2 (by omega) s (by omega) l v Hlb.out hcnt mt HMT.out w14 Ht.out (HT.out.below B14.out)).mono ?_
            rintro e w15 ⟨rfl, hb⟩
            replace p0 := cell_call hb p0
            replace p1 := cell_call hb p1
            replace p2 := cell_call hb p2
            replace p3 := cell_call hb p3
            replace p4 := cell_call hb p4
            replace q0 := cell_call hb q0
            replace q1 := cell_call hb q1
            replace q2 := cell_call hb q2
            replace q3 := cell_call hb q3
            replace q4 := cell_call hb q4
            replace Ht := Lib.hid (Ht.out.below hb)
            have B15 := Lib.hid (step_call B14.out hb)
            clear hb
            cases mp
            case false =>
              clear Hall
              cases al <;> cases mt
              all_goals
                go_wp2
                go_ret
                exact ⟨rfl, B15.out⟩
            case true =>
              obtain ⟨rfl, rfl⟩ := Hall.out rfl
              clear Hall
              go_wp2
              go_ret
              exact ⟨rfl, B15.out⟩
    · have hti : 1500 < (t.size : Int) := by omega
      go_wp2
      go_ret
      exact ⟨rfl, B1.out⟩
  · have hsi : 190 < (s.size : Int) := by omega
    go_wp2
    go_ret
    exact ⟨rfl, B1.out⟩
end Go.Proofs.YtlfhgmclnapmjaaDoor
