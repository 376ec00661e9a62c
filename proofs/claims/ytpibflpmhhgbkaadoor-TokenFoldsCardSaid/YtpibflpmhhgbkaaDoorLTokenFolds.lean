/- The law TokenFolds returns true for every text. Condition: the tables are laid. -/
import Derived.Test.YtpibflpmhhgbkaaDoorTokK
namespace Go.Proofs.YtpibflpmhhgbkaaDoor
open Go.RowKit Go.Utf Go.Lib
attribute [local go_sem] Oper.semAt_some

set_option maxRecDepth 100000 in
set_option maxHeartbeats 12800000 in
theorem walk_TokenFolds (s : ByteArray) (_ : s.size ≤ maxLen) (w : World) (hT : Tabs w) :
    Calls Tryd.prog 4 #[.string s] w fun e w' => e = .returned (.bool true) ∧ Below w.heap.size w w' := by
  have HT := Lib.hid hT
  have HS := Lib.hid (law_shown w hT)
  clear hT
  by_cases hs : s.size ≤ 1500
  · have hs1 : ¬ (s.size : Int) > 1500 := by omega
    go_enter Tryd.func4, Tryd.ntmps4
    go_wp2_with fail
    refine HS.out.mono ?_
    rintro e w0 ⟨rfl, hb0⟩
    have Hb0 := Lib.hid hb0
    clear hb0
    go_wp2_with fail
    refine (token_Tokens s (by omega) w0 (HT.out.below Hb0.out)).mono ?_
    rintro e w1 ⟨v1, rfl, hb1, ht1⟩
    have Hb1 := Lib.hid (step_call Hb0.out hb1)
    have Ht1 := Lib.hid (own_toks ht1)
    obtain ⟨la, lc, rfl⟩ := own_form ht1
    clear hb1 ht1
    go_wp2_with fail
    refine (utf_Folded s (by omega) w1 (HT.out.below Hb1.out)).mono ?_
    rintro e w2 ⟨rfl, hb2⟩
    have Hb2 := Lib.hid (step_call Hb1.out hb2)
    have Ht2 := Lib.hid (Ht1.out.below hb2)
    clear hb2
    have hfl : tokensL (L (B (foldL (L s)))) = tokensL (L s) := by rw [L_B]; exact toks_fold 0 (L s)
    go_wp2_with fail
    refine (tokens_at (B (foldL (L s))) (by rw [size_B]; have := foldL_length (L s); rw [length_L] at this; omega) _ hfl w2 (HT.out.below Hb2.out)).mono ?_
    rintro e w3 ⟨v3, rfl, hb3, ht3⟩
    have Hb3 := Lib.hid (step_call Hb2.out hb3)
    have Ht3 := Lib.hid (Ht2.out.below hb3)
    have Hv3 := Lib.hid ht3
    clear hb3 ht3 hfl
    have hcnt := tokens_count s (by omega)
    go_wp2_with fail
    refine (law_same v3 _ _ (by omega) w3 Hv3.out Ht3.out).mono ?_
    rintro e w4 ⟨rfl, hb4⟩
    have Hb4 := Lib.hid (step_call Hb3.out hb4)
    have Ht4 := Lib.hid (Ht3.out.below hb4)
    clear hb4
    go_wp2
    obtain ⟨ts, hts⟩ : ∃ ts, tokensL (L s) = ts := ⟨_, rfl⟩
    obtain ⟨hrise, hlow, hgood, hterm⟩ := tok_facts hts
    have Hrise := Lib.hid hrise
    have Hlow := Lib.hid hlow
    have Hgood := Lib.hid hgood
    have Hterm := Lib.hid hterm
    have Hts := Lib.hid hts
    rw [hts] at Ht4 hcnt ⊢
    clear hrise hlow hgood hterm Ht1 Ht2 Ht3 Hv3 hts
    go_loopw [5] (fun i wr => ∃ k : Nat, k ≤ ts.length ∧ i = .int .i64 k ∧ Below w4.heap.size w4 wr) (fun i _ => ts.length - (intOf i).toNat)
    case atStart => exact ⟨0, by omega, rfl, Below.refl _ _⟩
    case round =>
      obtain ⟨k, hk, rfl, hbel⟩ := hrel
      by_cases hlt : k < ts.length
      · obtain ⟨oa, oc, hv, hcells⟩ := Ht4.out
        cases hv
        obtain ⟨b, off, rfl, hb, k1, k2⟩ := hcells k hlt
        have k1 := cell_below hbel hb k1
        have k2 := cell_below hbel hb k2
        have hone := Hterm.out _ (List.getElem_mem hlt)
        obtain ⟨hg1, hg2⟩ := Hgood.out k hlt
        rw [length_L] at hg2
        have hlow := Hlow.out k hlt
        have hprev : k ≠ 0 → ∃ p2 : Nat, wr.cell? ⟨b, off + (k - 1) * 2 + 1, none⟩ = some (.int .i64 (p2 : Nat)) ∧ p2 < (ts[k]).2 := by
          intro h0
          obtain ⟨b2, off2, e2, hb2, _, j2⟩ := hcells (k - 1) (by omega)
          simp only [Option.some.injEq, Addr.mk.injEq, and_true] at e2
          obtain ⟨rfl, rfl⟩ := e2
          exact ⟨_, cell_below hbel hb j2, Hrise.out (k - 1) k (by omega) hlt⟩
        clear hcells
        generalize ts[k] = x at k1 k2 hone hg1 hg2 hlow hprev
        obtain ⟨t, p⟩ := x
        simp only at k1 k2 hone hg1 hg2 hlow hprev
        have Hprev := Lib.hid hprev
        clear hprev
        have hbt : L (B t) = t := L_B t
        have hsz4 := hbel.size
        have HBr := Lib.hid (Hb4.out.trans (hbel.mono Hb4.out.size))
        have Hbel := Lib.hid hbel
        have hrd : Below w4.heap.size w4 wr.drew := below_to_drew hbel
        have ka : (wr.alloc (.cells #[.string (B t), .int .i64 0] 32)).cell? ⟨b, off + k * 2, none⟩ = some (.string (B t)) := cell_alloc _ k1
        have HTd := Lib.hid (HT.out.below (below_to_drew HBr.out))
        have HTa := Lib.hid (HT.out.below (step_new (below_to_drew HBr.out) (.cells #[.string (B t), .int .i64 0] 32)))
        have hlit : Toks (wr.drew.alloc (.cells #[.string (B t), .int .i64 0] 32)) (.slice (some ⟨wr.heap.size, 0, none⟩) 1 1) [(t, 0)] := toks_new wr.drew [(t, 0)] 32
        have Hlit := Lib.hid hlit
        have Hone := Lib.hid hone
        have htl : (B t).size ≤ 1000000 := by rw [size_B]; omega
        have Htl := Lib.hid htl
        clear hbel hrd hlit hone htl hbt
        go_wp2
        refine by_hole3 (H := fun (_ _ : Value) (w6 : World) => Below wr.heap.size wr w6) ⟨?Z, ?cont, ?reg⟩
        case reg =>
          intro hc
          have Hc := Lib.hid hc
          clear hc
          go_region_with (first
            | (go_at_call 10; refine (tokens_at (B t) Htl.out [(t, 0)] Hone.out _ (by first | exact HTd.out | exact HTa.out)).mono ?_; rintro e w5 ⟨v5, rfl, hb5, ht5⟩; have Ht5 := Lib.hid ht5; have Hb5 := Lib.hid hb5; obtain ⟨o5, c5, rfl, _⟩ := ht5; have k5 := cell_call hb5 (by first | exact ka | exact k1); have HB5 : Hid (Below wr.heap.size wr w5) := Lib.hid (by first | exact step_call (below_drew wr) hb5 | exact step_call (step_new (below_drew wr) _) hb5); clear hb5)
            | (go_at_call 9; refine (law_same _ _ [(t, 0)] (by simp) _ (by first | exact Ht5.out | exact Ht5.out.below (step_new (Below.refl _ _) _)) (by first | exact Hlit.out.below Hb5.out | exact toks_new w5 [(t, 0)] 32)).mono ?_; rintro e w6 ⟨rfl, hb6⟩; have HB6 : Hid (Below wr.heap.size wr w6) := Lib.hid (by first | exact step_call HB5.out hb6 | exact step_call (step_new HB5.out _) hb6); clear hb6)
            | fail)
          all_goals
            generalize Value.slice o5 1 c5 = va
            first
              | (generalize Value.slice (some ⟨w5.heap.size, 0, none⟩) 1 1 = vb; exact Hc.out va vb _ HB6.out)
              | (generalize Value.slice (some ⟨wr.heap.size, 0, none⟩) 1 1 = vb; exact Hc.out va vb _ HB6.out)
        case cont =>
          intro va vb w6 hb6
          have HB6 : Hid (Below wr.heap.size wr w6) := Lib.hid hb6
          clear hb6
          have m1 := cell_call HB6.out k1
          have m2 := cell_call HB6.out k2
          have HBn := Lib.hid (Hbel.out.trans (HB6.out.mono hsz4))
          have q40 : decide (40 < ((B t).size : Int)) = false := by rw [size_B]; simp; omega
          have qlow : decide ((p : Int) < (k : Int)) = false := by simp; omega
          have qlow2 : decide (p < k) = false := by simp; omega
          clear k1 k2 ka
          by_cases hk0 : k = 0
          · subst hk0
            rw [Nat.zero_mul, Nat.add_zero] at m1 m2
            have q0 : ¬ (p : Int) < 0 := by omega
            have q1 : decide ((p : Int) < 0) = false := by simp
            clear qlow qlow2
            go_wp2
            go_quiet (fail)
            go_wp2
            go_roundw
            case rel => exact ⟨1, by omega, by go_num, below_to_drewN HBn.out _⟩
            case measure => simp [intOf]; omega
          · obtain ⟨p2, n1, n2⟩ := Hprev.out hk0
            have n1 := cell_call HB6.out n1
            obtain ⟨j, rfl⟩ : ∃ j, k = j + 1 := ⟨k - 1, by omega⟩
            rw [Nat.add_sub_cancel] at n1
            have z3 : (0 : Int) ≤ (j : Int) + 1 := by omega
            have z5 : (j : Int) < (ts.length : Int) := by omega
            have z6 : (j : Int) + 1 < (ts.length : Int) := by omega
            have z7 : j < ts.length := by omega
            have g1 : decide ((p : Int) < (j : Int) + 1) = false := by simp; omega
            have g2 : decide ((p : Int) ≤ (p2 : Int)) = false := by simp; omega
            have g3 : decide (p ≤ p2) = false := by simp; omega
            have g4 : decide ((0 : Int) < (j : Int) + 1) = true := decide_eq_true (by omega)
            have z4 : ((j : Int) + 1).toNat = j + 1 := by omega
            have z2 : IntKind.i64.wrap (j : Int) = (j : Int) := IntWalk.i64_in _ (by omega)
            have z1 : IntKind.i64.wrap ((j : Int) + 1 - 1) = (j : Int) := by rw [show (j : Int) + 1 - 1 = (j : Int) by omega]; exact IntWalk.i64_in _ (by omega)
            clear hk0 n2 qlow qlow2
            go_wp2
            go_quiet (fail)
            clear z1 z2 z4
            go_wp2
            go_roundw
            case rel => exact ⟨j + 1 + 1, by omega, by go_num, below_to_drewN HBn.out _⟩
            case measure => simp [intOf]; omega
      · obtain rfl : k = ts.length := by omega
        have HBr := Lib.hid (Hb4.out.trans (hbel.mono Hb4.out.size))
        clear hbel
        have Hcl := Lib.hid (terms_count (L s))
        have Hset := Lib.hid (set_of ((tokensL (L s)).map Prod.fst)).1
        go_wp2_with fail
        refine (terms_at s (by omega) _ rfl wr (HT.out.below HBr.out)).mono ?_
        rintro e w5 ⟨v5, rfl, hb5, ht5⟩
        have HB5 := Lib.hid (step_call HBr.out hb5)
        have Hrow : Hid ((termsL (L s)).Pairwise (· < ·)) := Lib.hid (set_of ((tokensL (L s)).map Prod.fst)).1
        have hcl := Hcl.out
        rw [Hts.out] at hcl
        generalize termsL (L s) = tm at *
        obtain ⟨o5, c5, rfl, hk5⟩ := txt_row ht5
        have Hk5 := Lib.hid hk5
        clear hb5 ht5 hk5
        have hcd : decide (tm.length ≤ ts.length) = true := by simpa using hcl
        go_wp2
        go_loopw [8] (fun i wr => ∃ k : Nat, i = .int .i64 ((k : Int) + 1) ∧ Below w5.heap.size w5 wr) (fun i _ => tm.length - (intOf i).toNat)
        case atStart => exact ⟨0, rfl, Below.refl _ _⟩
        case round =>
          obtain ⟨k, rfl, hbel⟩ := hrel
          by_cases hlt : k + 1 < tm.length
          · obtain ⟨b, off, rfl, hb, -, c1⟩ := Hk5.out (k + 1) hlt
            obtain ⟨b', off', e, -, -, c0⟩ := Hk5.out k (by omega)
            simp only [Option.some.injEq, Addr.mk.injEq, and_true] at e
            obtain ⟨rfl, rfl⟩ := e
            have c1 := cell_below hbel hb c1
            have c0 := cell_below hbel hb c0
            have hord : tm[k] < tm[k + 1] := List.pairwise_iff_getElem.1 Hrow.out k (k + 1) (by omega) hlt (by omega)
            have l1 : Op.bytesLess (B tm[k + 1]).toList (B tm[k]).toList = false := by
              rw [less_B]; exact decide_eq_false (fun h => List.lt_irrefl _ (List.lt_trans h hord))
            have l2 : ((B tm[k + 1]).toList == (B tm[k]).toList) = false := by
              rw [toList_B, toList_B, beq_eq_false_iff_ne]; exact fun h => List.lt_irrefl _ (h ▸ hord)
            have HB := Lib.hid hbel
            clear hord hbel
            generalize tm[k + 1] = x at c1 l1 l2
            generalize tm[k] = y at c0 l1 l2
            have z3 : (0 : Int) ≤ (k : Int) + 1 := by omega
            have z5 : (k : Int) < (tm.length : Int) := by omega
            have z6 : (k : Int) + 1 < (tm.length : Int) := by omega
            have z7 : k < tm.length := by omega
            have z4 : ((k : Int) + 1).toNat = k + 1 := by omega
            have z2 : IntKind.i64.wrap (k : Int) = (k : Int) := IntWalk.i64_in _ (by omega)
            have z1 : IntKind.i64.wrap ((k : Int) + 1 - 1) = (k : Int) := by rw [show (k : Int) + 1 - 1 = (k : Int) by omega]; exact IntWalk.i64_in _ (by omega)
            go_wp2
            go_quiet (fail)
            clear z1 z2 z4
            go_wp2
            go_roundw
            case rel => exact ⟨k + 1, by go_num, below_to_drewN HB.out _⟩
            case measure => simp [intOf]; omega
          · have z6 : ¬ (k : Int) + 1 < (tm.length : Int) := by omega
            have HB := Lib.hid (HB5.out.trans (hbel.mono HB5.out.size))
            clear hbel
            go_wp2
            go_ret
            exact ⟨rfl, HB.out⟩
  · have hs1 : (s.size : Int) > 1500 := by omega
    go_enter Tryd.func4, Tryd.ntmps4
    go_wp2_with fail
    refine HS.out.mono ?_
    rintro e w0 ⟨rfl, hb0⟩
    go_wp2
    go_ret
    exact ⟨rfl, hb0⟩
end Go.Proofs.YtpibflpmhhgbkaaDoor
