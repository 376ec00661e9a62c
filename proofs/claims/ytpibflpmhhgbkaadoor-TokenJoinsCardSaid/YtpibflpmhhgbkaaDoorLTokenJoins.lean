/- The law TokenJoins returns true for every two texts. Condition: the tables are laid. -/
import Derived.Test.YtpibflpmhhgbkaaDoorTokK
namespace Go.Proofs.YtpibflpmhhgbkaaDoor
open Go.RowKit Go.Utf Go.Lib
attribute [local go_sem] Oper.semAt_some

set_option maxRecDepth 100000 in
set_option maxHeartbeats 12800000 in
theorem walk_TokenJoins (s t : ByteArray) (_ : s.size ≤ maxLen) (_ : t.size ≤ maxLen) (w : World) (hT : Tabs w) :
    Calls Tryd.prog 5 #[.string s, .string t] w fun e w' => e = .returned (.bool true) ∧ Below w.heap.size w w' := by
  have HT := Lib.hid hT
  have HS := Lib.hid (law_shown w hT)
  obtain ⟨i0, hi, hz0, hz1, hz2⟩ := info_parts infoTok
  clear hT
  by_cases hs : s.size ≤ 700
  · by_cases ht : t.size ≤ 700
    · have hs1 : ¬ (s.size : Int) > 700 := by omega
      have ht1 : ¬ (t.size : Int) > 700 := by omega
      have hc1 : tokensL (L (s ++ ⟨#[32, 122, 122]⟩)) = tokensL (L s) ++ [([122, 122], (wordsL (L s)).length)] := by
        rw [L_append, show L ⟨#[32, 122, 122]⟩ = 32 :: [122, 122] from rfl, tokens_join, tokens_zz]; simp
      have hc2 : tokensL (L (s ++ ⟨#[32]⟩ ++ t)) = tokensL (L s) ++ (tokensL (L t)).map fun x => (x.1, x.2 + (wordsL (L s)).length) := by
        rw [L_append, L_append, show L ⟨#[32]⟩ = [32] from rfl, List.append_assoc, List.singleton_append, tokens_join]
      have hz1' : (s ++ ⟨#[32, 122, 122]⟩).size ≤ 1000000 := by rw [ByteArray.size_append, show (⟨#[32, 122, 122]⟩ : ByteArray).size = 3 from rfl]; omega
      have hz2' : (s ++ ⟨#[32]⟩ ++ t).size ≤ 1000000 := by rw [ByteArray.size_append, ByteArray.size_append, show (⟨#[32]⟩ : ByteArray).size = 1 from rfl]; omega
      have hn := words_count (L s)
      rw [length_L] at hn
      have hcs := tokens_count s (by omega)
      have hct := tokens_count t (by omega)
      have Htok := Lib.hid (fun w0 h => token_Tokens s (by omega) w0 h)
      have Htok2 := Lib.hid (fun w0 h => token_Tokens t (by omega) w0 h)
      obtain ⟨ta, hta⟩ : ∃ x, tokensL (L s) = x := ⟨_, rfl⟩
      obtain ⟨tb, htb⟩ : ∃ x, tokensL (L t) = x := ⟨_, rfl⟩
      obtain ⟨-, -, hgood, -⟩ := tok_facts htb
      rw [length_L] at hgood
      rw [hta, htb] at hc2
      rw [hta] at hc1 hcs Htok
      rw [htb] at hct Htok2
      generalize (wordsL (L s)).length = n at hc1 hc2 hn
      have Hc1 := Lib.hid hc1
      have Hc2 := Lib.hid hc2
      have Hgood := Lib.hid hgood
      have Hz1 := Lib.hid hz1'
      have Hz2 := Lib.hid hz2'
      have hsum1 : ¬ 9223372036854775807 < s.size + 3 := by omega
      have hsum2 : ¬ 9223372036854775807 < s.size + 1 := by omega
      clear hc1 hc2 hgood hta htb hz1' hz2'
      go_enter Tryd.func5, Tryd.ntmps5
      go_wp2_with fail
      refine HS.out.mono ?_
      rintro e w0 ⟨rfl, hb0⟩
      have Hb0 := Lib.hid hb0
      clear hb0
      go_wp2_with fail
      refine (Htok.out w0 (HT.out.below Hb0.out)).mono ?_
      rintro e w1 ⟨v1, rfl, hb1, ho1⟩
      have Hb1 := Lib.hid (step_call Hb0.out hb1)
      obtain ⟨oa, ca, rfl, hnil, hnews⟩ := own_news ho1
      have Ho1 := Lib.hid ho1
      clear hb1 ho1 hnil hnews
      go_wp2_with fail
      refine (tokens_at _ Hz1.out _ Hc1.out w1 (HT.out.below Hb1.out)).mono ?_
      rintro e w2 ⟨v2, rfl, hb2, ht2⟩
      obtain ⟨o2, c2, rfl, hk2⟩ := ht2
      have hlc : (ta ++ [(([122, 122] : List UInt8), n)]).length = ta.length + 1 := by simp
      obtain ⟨b2, f2, rfl, -, -, d2⟩ := hk2 ta.length (by rw [hlc]; omega)
      rw [List.getElem_append_right (Nat.le_refl _)] at d2
      simp only [Nat.sub_self, List.getElem_cons_zero] at d2
      rw [hlc]
      have Hb2 := Lib.hid (step_call Hb1.out hb2)
      have Ho2 := Lib.hid (own_below Ho1.out hb2)
      clear hk2 hlc hb2
      have hne : (((ta.length + 1 : Nat) : Int) != (ta.length : Int) + 1) = false := by simp
      have hne' : ((ta.length : Int) + 1 != (ta.length : Int) + 1) = false := by simp
      have hzw := Hb2.out.size
      have Hown0 := Lib.hid (World.ownsRow_made (e := 32) (size := 2) w2 #[] 0 Hb2.out.size (by unfold maxLen; omega) rfl)
      have Hsrc := Lib.hid (own_news' (Ho2.out.alloc (.cells #[] 32)))
      go_wp2_with (at_builtin; go_must (refine wpList_append_any _ rfl _ _ 24 rfl w.heap.size 32 i0 _ 2 24 Tryd.underlying24 hi hz0 hz1 hz2 rfl (by decide) _ 0 [] rfl Hown0.out oa ta.length ca (tokCells ta) rfl (tokCells_length ta) Hsrc.out.1 Hsrc.out.2 (tokCells_one ta) ?c1 ?c2 ?c3 ?_))
      case c1 => unfold maxLen; omega
      case c2 => omega
      case c3 => simp; omega
      intro v3 w3 hown3 hgrow3 _
      have Hb3 := Lib.hid (below_own (step_new Hb2.out (.cells #[] 32)) Hown0.out hgrow3 (Nat.le_refl _) (by simp; omega))
      obtain ⟨a3, c3, rfl⟩ := own_form hown3
      have Ho3 := Lib.hid hown3
      clear hown3 hgrow3 d2
      go_wp2_with fail
      refine (Htok2.out w3 (HT.out.below Hb3.out)).mono ?_
      rintro e w4 ⟨v4, rfl, hb4, ho4⟩
      have Ho3' := Lib.hid (own_below Ho3.out hb4)
      have Hb4 := Lib.hid (step_call Hb3.out hb4)
      have Ht4 := Lib.hid (own_toks ho4)
      obtain ⟨ob, cb, rfl, -⟩ := own_toks ho4
      have Hfar : Hid (FarV (.slice a3 ta.length c3) ob) := Lib.hid (by
        rintro a rfl e
        have h1 := (ho4.lt a.block rfl).1
        have h2 := (Ho3.out.lt a.block e.symm).2
        omega)
      clear hb4 ho4
      go_wp2
      go_loopw [9, 11] (fun v i wr => ∃ k : Nat, k ≤ tb.length ∧ i = .int .i64 k ∧ wr.ownsRow w.heap.size 32 2 v (ta.length + k) (tokCells (ta ++ (tb.take k).map fun x => (x.1, x.2 + n))) ∧ Below w.heap.size w wr ∧ Toks wr (.slice ob tb.length cb) tb ∧ FarV v ob) (fun _ i _ => tb.length - (intOf i).toNat)
      case atStart => exact ⟨0, by omega, rfl, by simpa using Ho3'.out, Hb4.out, Ht4.out, Hfar.out⟩
      case round =>
        obtain ⟨k, hk, rfl, hown, hbel, htok, hfar⟩ := hrel
        obtain ⟨av, cv, rfl⟩ := own_form hown
        have Hown := Lib.hid hown
        have Hbel := Lib.hid hbel
        have Htok := Lib.hid htok
        have Hfr := Lib.hid hfar
        by_cases hlt : k < tb.length
        · obtain ⟨ob', cb', e, hcell⟩ := htok
          simp only [Value.slice.injEq, true_and] at e
          obtain ⟨rfl, rfl⟩ := e
          obtain ⟨b, off, rfl, hb, d1, d2⟩ := hcell k hlt
          have hcat : Hid (tokCells (ta ++ (tb.take (k + 1)).map fun x => (x.1, x.2 + n)) = tokCells (ta ++ (tb.take k).map fun x => (x.1, x.2 + n)) ++ [.string (B tb[k].1), .int .i64 ((tb[k].2 : Int) + (n : Int))]) := Lib.hid (by
            rw [List.take_succ_eq_append_getElem hlt, List.map_append, ← List.append_assoc, tokCells_append]
            simp [tokCells])
          have hp := (Hgood.out k hlt).2
          have ag : Value.ownBlock (.slice av (ta.length + k) cv) ≠ some b := fun e => hfar _ rfl e.symm
          have hbz := hbel.size
          clear hcell hown hbel hfar
          generalize tb[k] = x at d1 d2 hcat hp
          obtain ⟨x, p⟩ := x
          simp only at d1 d2 hcat hp
          have hsum : IntKind.i64.wrap ((p : Int) + (n : Int)) = (p : Int) + (n : Int) := IntWalk.i64_in _ (by omega)
          have hk0 : (0 : Int) ≤ (k : Int) := by omega
          have hk1 : (k : Int) < (tb.length : Int) := by omega
          go_wp2
          go_region_held3 (fun w' => w'.cell? ⟨b, off + k * 2, none⟩ = some (.string (B x)) ∧ w'.cell? ⟨b, off + k * 2 + 1, none⟩ = some (.int .i64 (p : Nat)))
            (first
              | go_keep
              | (go_split_ands
                 refine ⟨?_, ?_⟩
                 · (rw [hgrow.cell_far _ (by simp; omega) (Ne.symm ag)]; assumption)
                 · (rw [hgrow.cell_far _ (by simp; omega) (Ne.symm ag)]; assumption)))
            ((refine step_append_lies _ (by rfl) _ _ _ (by rfl) w.heap.size 32 i0 _ 2 24 Tryd.underlying24 hi hz0 hz1 hz2 rfl (by omega) (.slice av (ta.length + k) cv) (ta.length + k) _ (by rfl) ((Hown.out.alloc _).drew)
                ⟨wr.heap.size, 0, none⟩ 1 1 [.string (B x), .int .i64 ((p : Int) + (n : Int))] (by rfl) (by rfl) (World.news_of_block (cs := #[.string (B x), .int .i64 ((p : Int) + (n : Int))]) (t := 32) (fr := (0, 0)) (heap_alloc_new wr _)) (by simp [Value.oneCell'])
                (by omega) (by unfold maxLen; omega) (by omega) (by simp; omega) (wr.heap.size + 1) (by simp) ?_; intro gg cap2 w7 hown7 hgrow hat hlt7))
          all_goals
            have Hb7 : Hid (Below w.heap.size w w7) := Lib.hid ((step_new Hbel.out (.cells #[.string (B x), .int .i64 ((p : Int) + (n : Int))] 32)).drew.grown hgrow (by simp; omega) (fun q hq => (Hown.out.lt q hq).1))
            rw [← hcat.out] at hown7
            have Hown7 := Lib.hid hown7
            have Ht7 := Lib.hid ((Htok.out.below (below_to_drew (step_new (Below.refl _ wr) (.cells #[.string (B x), .int .i64 ((p : Int) + (n : Int))] 32)))).grown hgrow (fun a ha => Hfr.out a ha))
            have Hf7 : Hid (FarV (.slice (some ⟨gg, 0, none⟩) (ta.length + k + 1) cap2) (some ⟨b, off, none⟩)) := Lib.hid (by
              intro a ha e
              rcases hat with h | h
              · exact Hfr.out a ha (e.trans h.symm)
              · cases ha
                simp only [Value.ownBlock, Option.some.injEq] at e
                omega)
            clear hown7 hgrow hat
            go_wp2
            go_roundw
            case rel => exact ⟨k + 1, by omega, by go_num, Hown7.out, Hb7.out, Ht7.out, Hf7.out⟩
            case measure => simp [intOf]; omega
        · obtain rfl : k = tb.length := by omega
          rw [List.take_length] at hown
          have HB := Lib.hid hbel
          have Hall := Lib.hid (own_toks' hown (by simp))
          clear hown hbel htok hfar Hown Hbel Htok Hfr
          go_wp2_with fail
          refine (tokens_at _ Hz2.out _ Hc2.out _ (HT.out.below HB.out)).mono ?_
          rintro e w5 ⟨v5, rfl, hb5, ht5⟩
          have HB5 := Lib.hid (step_call HB.out hb5)
          have Hall5 := Lib.hid (Hall.out.below hb5)
          have Ht5 := Lib.hid ht5
          clear hb5 ht5
          go_wp2_with fail
          refine (law_same _ _ _ (by simp; omega) _ Ht5.out Hall5.out).mono ?_
          rintro e w6 ⟨rfl, hb6⟩
          have HB6 := Lib.hid (step_call HB5.out hb6)
          clear hb6
          go_wp2
          go_ret
          exact ⟨rfl, HB6.out⟩
    · have hs1 : ¬ (s.size : Int) > 700 := by omega
      have ht1 : (t.size : Int) > 700 := by omega
      go_enter Tryd.func5, Tryd.ntmps5
      go_wp2_with fail
      refine HS.out.mono ?_
      rintro e w0 ⟨rfl, hb0⟩
      go_wp2
      go_ret
      exact ⟨rfl, hb0⟩
  · have hs1 : (s.size : Int) > 700 := by omega
    go_enter Tryd.func5, Tryd.ntmps5
    go_wp2_with fail
    refine HS.out.mono ?_
    rintro e w0 ⟨rfl, hb0⟩
    go_wp2
    go_ret
    exact ⟨rfl, hb0⟩
end Go.Proofs.YtpibflpmhhgbkaaDoor
