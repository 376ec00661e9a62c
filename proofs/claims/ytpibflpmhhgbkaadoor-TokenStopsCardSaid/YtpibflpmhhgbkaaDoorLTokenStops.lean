/- The law TokenStops returns true for every text and number. Condition: the tables are laid. -/
import Derived.Test.YtpibflpmhhgbkaaDoorTokK
namespace Go.Proofs.YtpibflpmhhgbkaaDoor
open Go.RowKit Go.Utf Go.Lib
attribute [local go_sem] Oper.semAt_some

set_option maxRecDepth 100000 in
set_option maxHeartbeats 12800000 in
theorem walk_TokenStops (s : ByteArray) (n : Int) (_ : s.size ≤ maxLen) (hn : (Lit.int .i64 n).wf = true) (w : World) (hT : Tabs w) :
    Calls Tryd.prog 7 #[.string s, .int .i64 n] w fun e w' => e = .returned (.bool true) ∧ Below w.heap.size w w' := by
  have HT := Lib.hid hT
  have HS := Lib.hid (law_shown w hT)
  have hb : -9223372036854775808 ≤ n ∧ n ≤ 9223372036854775807 := by
    simp [Lit.wf, IntKind.min, IntKind.max, IntKind.signed, IntKind.bits] at hn
    omega
  clear hT hn
  by_cases hs : s.size ≤ 600
  · have hs1 : ¬ (s.size : Int) > 600 := by omega
    obtain ⟨hb1, hb2⟩ := hb
    go_enter Tryd.func7, Tryd.ntmps7
    go_wp2_with fail
    refine HS.out.mono ?_
    rintro e w0 ⟨rfl, hb0⟩
    have Hb0 := Lib.hid hb0
    clear hb0
    have hm1 : Int.tmod n 19 < 19 := Int.tmod_lt_of_pos n (by decide)
    have hm2 : -19 < Int.tmod n 19 := Int.lt_tmod_of_pos n (by decide)
    have hrow : ∀ k (h : k < 19), (w0.alloc (.cells (stopsT.map fun t => Value.string (B t)).toArray 9)).cell? ⟨w0.heap.size, k, none⟩ = some (.string (B (stopsT[k]'h))) := by
      intro k h
      have hb : (w0.alloc (.cells (stopsT.map fun t => Value.string (B t)).toArray 9)).heap[w0.heap.size]? = some (.cells (stopsT.map fun t => Value.string (B t)).toArray 9 (0, 0)) := heap_alloc_new w0 _
      have hk : k < stopsT.length := h
      simp only [World.cell?, hb]
      simp [hk]
      rfl
    have Hrow := Lib.hid hrow
    have hbel := step_new Hb0.out (.cells (stopsT.map fun t => Value.string (B t)).toArray 9)
    have Hbel := Lib.hid hbel
    clear hrow hbel
    by_cases hneg : Int.tmod n 19 < 0
    · obtain ⟨k, hk, hk9⟩ : ∃ k : Nat, -Int.tmod n 19 = (k : Int) ∧ k < 19 := ⟨(-Int.tmod n 19).toNat, by omega, by omega⟩
      go_wp2_with fail
      change Code.wp _ _ _ _ (w0.alloc (.cells (stopsT.map fun t => Value.string (B t)).toArray 9))
      generalize w0.alloc (.cells (stopsT.map fun t => Value.string (B t)).toArray 9) = w1 at Hrow Hbel ⊢
      clear hk hneg hm1 hm2
      have hc := Hrow.out k hk9
      have hmem : stopsT[k]'hk9 ∈ stopsT := List.getElem_mem _
      obtain ⟨q1, q2, q3⟩ := stops_word _ hmem
      generalize stopsT[k]'hk9 = st at hc q1 q2 q3
      have hcat : tokensL (L (B st ++ ⟨#[32]⟩ ++ s ++ ⟨#[32]⟩ ++ B st)) = (tokensL (L s)).map fun x => (x.1, x.2 + 1) := by
        rw [L_append, L_append, L_append, L_append, L_B, ← tokens_around st (L s) q1 q2]
        congr 1
        simp [L]
      have Hcat := Lib.hid hcat
      have Hst := Lib.hid q2
      have hz1 : (B st).size = st.length := size_B st
      have hst : (B st).size ≤ 1000000 := by omega
      have hsz : (B st ++ ⟨#[32]⟩ ++ s ++ ⟨#[32]⟩ ++ B st).size ≤ 1000000 := by
        have h32 : (⟨#[32]⟩ : ByteArray).size = 1 := rfl
        rw [ByteArray.size_append, ByteArray.size_append, ByteArray.size_append, ByteArray.size_append, hz1, h32]; omega
      have Hsz := Lib.hid hsz
      clear hcat q1 q2 hsz hmem
      refine by_hole (H := fun v w2 => Toks w2 v ((tokensL (L s)).map fun x => (x.1, x.2 + 1)) ∧ Below w.heap.size w w2 ∧ Below w1.heap.size w1 w2) ⟨?Z1, ?cont1, ?reg1⟩
      case reg1 =>
        intro hc
        have Hc := Lib.hid hc
        clear hc
        go_region_with (go_at_call 10; refine (tokens_at _ Hsz.out _ Hcat.out _ (HT.out.below (below_to_drew Hbel.out))).mono ?_; rintro e w2 ⟨v2, rfl, hb2, ht2⟩; have Ht2 := Lib.hid ht2; have Hb2 := Lib.hid (step_call (below_to_drew Hbel.out) hb2); have HB12 := Lib.hid (step_call (below_drew w1) hb2); clear hb2 ht2)
        all_goals exact Hc.out _ _ ⟨Ht2.out, Hb2.out, HB12.out⟩
      case cont1 =>
        rintro v2 w2 ⟨ht2, hb2, hb12⟩
        have hc2 := cell_call hb12 hc
        clear hb12 hc
        have Hb2 := Lib.hid hb2
        have Ht2 := Lib.hid ht2
        clear ht2 hb2
        go_wp2_with fail
        refine (token_Tokens s (by omega) w2 (HT.out.below Hb2.out)).mono ?_
        rintro e w3 ⟨v3, rfl, hb3, ht3⟩
        have hc3 := cell_call hb3 hc2
        have Hb3 := Lib.hid (step_call Hb2.out hb3)
        have Ht3 := Lib.hid (own_toks ht3)
        have Ht2' := Lib.hid (Ht2.out.below hb3)
        clear hb3 ht3 hc2
        obtain ⟨o2, c2, rfl, hc2⟩ := Ht2'.out
        obtain ⟨o3, c3, rfl, hc3'⟩ := Ht3.out
        obtain ⟨ts, hts⟩ : ∃ ts, tokensL (L s) = ts := ⟨_, rfl⟩
        have hcnt := tokens_count s (by omega)
        obtain ⟨-, -, hgood, -⟩ := tok_facts hts
        rw [length_L] at hgood
        have Hgood := Lib.hid hgood
        rw [hts] at Ht2 Ht2' Ht3 hc2 hc3' hcnt ⊢
        have Hc2 := Lib.hid hc2
        have Hc3 := Lib.hid hc3'
        have HC3 := Lib.hid hc3
        clear hts hc2 hc3 hc3' Ht2 Ht2' Ht3 hgood
        have hlm : (ts.map fun x => (x.1, x.2 + 1)).length = ts.length := by simp
        rw [hlm]
        go_wp2
        go_loopw [10] (fun i wr => ∃ j : Nat, j ≤ ts.length ∧ i = .int .i64 j ∧ Below w3.heap.size w3 wr) (fun i _ => ts.length - (intOf i).toNat)
        case atStart => exact ⟨0, by omega, rfl, Below.refl _ _⟩
        case round =>
          obtain ⟨j, hj, rfl, hbel⟩ := hrel
          by_cases hlt : j < ts.length
          · obtain ⟨b2, f2, rfl, g2, d2, d2'⟩ := Hc2.out j (by rw [hlm]; exact hlt)
            obtain ⟨b3, f3, rfl, g3, d3, d3'⟩ := Hc3.out j hlt
            rw [List.getElem_map] at d2 d2'
            have d2 := cell_below hbel g2 d2
            have d2' := cell_below hbel g2 d2'
            have d3 := cell_below hbel g3 d3
            have d3' := cell_below hbel g3 d3'
            have hp := (Hgood.out j hlt).2
            generalize ts[j] = x at d2 d2' d3 d3' hp
            obtain ⟨t, p⟩ := x
            simp only [Int.natCast_add, Int.cast_ofNat_Int] at d2 d2' d3 d3' hp
            have HB := Lib.hid hbel
            clear hbel
            have e1 : ((B t).toList != (B t).toList) = false := by simp
            have e2 : ((p : Int) + 1 != (p : Int) + 1) = false := by simp
            go_wp2
            go_quiet (fail)
            go_wp2
            go_roundw
            case rel => exact ⟨j + 1, by omega, by go_num, below_to_drewN HB.out _⟩
            case measure => simp [intOf]; omega
          · obtain rfl : j = ts.length := by omega
            have HB := Lib.hid (Hb3.out.trans (hbel.mono Hb3.out.size))
            have hc4 := cell_below hbel (lt_of_cell HC3.out) HC3.out
            clear hbel
            go_wp2_with fail
            refine (terms_at (B st) hst _ (terms_none Hst.out) _ (HT.out.below HB.out)).mono ?_
            rintro e w5 ⟨v5, rfl, hb5, ht5⟩
            obtain ⟨o5, k5, rfl, _⟩ := txt_row ht5
            have HB5 := Lib.hid (step_call HB.out hb5)
            clear ht5 hb5
            go_wp2
            go_ret
            exact ⟨rfl, HB5.out⟩
    · obtain ⟨k, hk, hk9⟩ : ∃ k : Nat, Int.tmod n 19 = (k : Int) ∧ k < 19 := ⟨(Int.tmod n 19).toNat, by omega, by omega⟩
      go_wp2_with fail
      change Code.wp _ _ _ _ (w0.alloc (.cells (stopsT.map fun t => Value.string (B t)).toArray 9))
      generalize w0.alloc (.cells (stopsT.map fun t => Value.string (B t)).toArray 9) = w1 at Hrow Hbel ⊢
      clear hk hneg hm1 hm2
      have hc := Hrow.out k hk9
      have hmem : stopsT[k]'hk9 ∈ stopsT := List.getElem_mem _
      obtain ⟨q1, q2, q3⟩ := stops_word _ hmem
      generalize stopsT[k]'hk9 = st at hc q1 q2 q3
      have hcat : tokensL (L (B st ++ ⟨#[32]⟩ ++ s ++ ⟨#[32]⟩ ++ B st)) = (tokensL (L s)).map fun x => (x.1, x.2 + 1) := by
        rw [L_append, L_append, L_append, L_append, L_B, ← tokens_around st (L s) q1 q2]
        congr 1
        simp [L]
      have Hcat := Lib.hid hcat
      have Hst := Lib.hid q2
      have hz1 : (B st).size = st.length := size_B st
      have hst : (B st).size ≤ 1000000 := by omega
      have hsz : (B st ++ ⟨#[32]⟩ ++ s ++ ⟨#[32]⟩ ++ B st).size ≤ 1000000 := by
        have h32 : (⟨#[32]⟩ : ByteArray).size = 1 := rfl
        rw [ByteArray.size_append, ByteArray.size_append, ByteArray.size_append, ByteArray.size_append, hz1, h32]; omega
      have Hsz := Lib.hid hsz
      clear hcat q1 q2 hsz hmem
      refine by_hole (H := fun v w2 => Toks w2 v ((tokensL (L s)).map fun x => (x.1, x.2 + 1)) ∧ Below w.heap.size w w2 ∧ Below w1.heap.size w1 w2) ⟨?Z2, ?cont2, ?reg2⟩
      case reg2 =>
        intro hc
        have Hc := Lib.hid hc
        clear hc
        go_region_with (go_at_call 10; refine (tokens_at _ Hsz.out _ Hcat.out _ (HT.out.below (below_to_drew Hbel.out))).mono ?_; rintro e w2 ⟨v2, rfl, hb2, ht2⟩; have Ht2 := Lib.hid ht2; have Hb2 := Lib.hid (step_call (below_to_drew Hbel.out) hb2); have HB12 := Lib.hid (step_call (below_drew w1) hb2); clear hb2 ht2)
        all_goals exact Hc.out _ _ ⟨Ht2.out, Hb2.out, HB12.out⟩
      case cont2 =>
        rintro v2 w2 ⟨ht2, hb2, hb12⟩
        have hc2 := cell_call hb12 hc
        clear hb12 hc
        have Hb2 := Lib.hid hb2
        have Ht2 := Lib.hid ht2
        clear ht2 hb2
        go_wp2_with fail
        refine (token_Tokens s (by omega) w2 (HT.out.below Hb2.out)).mono ?_
        rintro e w3 ⟨v3, rfl, hb3, ht3⟩
        have hc3 := cell_call hb3 hc2
        have Hb3 := Lib.hid (step_call Hb2.out hb3)
        have Ht3 := Lib.hid (own_toks ht3)
        have Ht2' := Lib.hid (Ht2.out.below hb3)
        clear hb3 ht3 hc2
        obtain ⟨o2, c2, rfl, hc2⟩ := Ht2'.out
        obtain ⟨o3, c3, rfl, hc3'⟩ := Ht3.out
        obtain ⟨ts, hts⟩ : ∃ ts, tokensL (L s) = ts := ⟨_, rfl⟩
        have hcnt := tokens_count s (by omega)
        obtain ⟨-, -, hgood, -⟩ := tok_facts hts
        rw [length_L] at hgood
        have Hgood := Lib.hid hgood
        rw [hts] at Ht2 Ht2' Ht3 hc2 hc3' hcnt ⊢
        have Hc2 := Lib.hid hc2
        have Hc3 := Lib.hid hc3'
        have HC3 := Lib.hid hc3
        clear hts hc2 hc3 hc3' Ht2 Ht2' Ht3 hgood
        have hlm : (ts.map fun x => (x.1, x.2 + 1)).length = ts.length := by simp
        rw [hlm]
        go_wp2
        go_loopw [10] (fun i wr => ∃ j : Nat, j ≤ ts.length ∧ i = .int .i64 j ∧ Below w3.heap.size w3 wr) (fun i _ => ts.length - (intOf i).toNat)
        case atStart => exact ⟨0, by omega, rfl, Below.refl _ _⟩
        case round =>
          obtain ⟨j, hj, rfl, hbel⟩ := hrel
          by_cases hlt : j < ts.length
          · obtain ⟨b2, f2, rfl, g2, d2, d2'⟩ := Hc2.out j (by rw [hlm]; exact hlt)
            obtain ⟨b3, f3, rfl, g3, d3, d3'⟩ := Hc3.out j hlt
            rw [List.getElem_map] at d2 d2'
            have d2 := cell_below hbel g2 d2
            have d2' := cell_below hbel g2 d2'
            have d3 := cell_below hbel g3 d3
            have d3' := cell_below hbel g3 d3'
            have hp := (Hgood.out j hlt).2
            generalize ts[j] = x at d2 d2' d3 d3' hp
            obtain ⟨t, p⟩ := x
            simp only [Int.natCast_add, Int.cast_ofNat_Int] at d2 d2' d3 d3' hp
            have HB := Lib.hid hbel
            clear hbel
            have e1 : ((B t).toList != (B t).toList) = false := by simp
            have e2 : ((p : Int) + 1 != (p : Int) + 1) = false := by simp
            go_wp2
            go_quiet (fail)
            go_wp2
            go_roundw
            case rel => exact ⟨j + 1, by omega, by go_num, below_to_drewN HB.out _⟩
            case measure => simp [intOf]; omega
          · obtain rfl : j = ts.length := by omega
            have HB := Lib.hid (Hb3.out.trans (hbel.mono Hb3.out.size))
            have hc4 := cell_below hbel (lt_of_cell HC3.out) HC3.out
            clear hbel
            go_wp2_with fail
            refine (terms_at (B st) hst _ (terms_none Hst.out) _ (HT.out.below HB.out)).mono ?_
            rintro e w5 ⟨v5, rfl, hb5, ht5⟩
            obtain ⟨o5, k5, rfl, _⟩ := txt_row ht5
            have HB5 := Lib.hid (step_call HB.out hb5)
            clear ht5 hb5
            go_wp2
            go_ret
            exact ⟨rfl, HB5.out⟩
  · have hs1 : (s.size : Int) > 600 := by omega
    go_enter Tryd.func7, Tryd.ntmps7
    go_wp2_with fail
    refine HS.out.mono ?_
    rintro e w0 ⟨rfl, hb0⟩
    go_wp2
    go_ret
    exact ⟨rfl, hb0⟩
end Go.Proofs.YtpibflpmhhgbkaaDoor
