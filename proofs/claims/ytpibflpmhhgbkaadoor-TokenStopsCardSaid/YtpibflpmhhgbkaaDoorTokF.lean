/- Chapter 11: codexref11.Tokens. Condition: the text is at most 10^6 bytes. -/
import Derived.Test.YtpibflpmhhgbkaaDoorTokE
import Derived.Test.YtpibflpmhhgbkaaDoorUtfL
namespace Go.Proofs.YtpibflpmhhgbkaaDoor
open Go.RowKit Go.Utf Go.Lib
attribute [local go_sem] Oper.semAt_some

set_option maxRecDepth 100000 in
set_option maxHeartbeats 6400000 in
theorem ref11_Tokens (s : ByteArray) (hs : s.size ≤ 1000000) (w : World) :
    Calls Tryd.prog 11 #[.string s] w fun e w' => ∃ v, e = .returned v ∧ Below w.heap.size w w' ∧ w'.ownsRow w.heap.size 32 2 v (tokensL (L s)).length (tokCells (tokensL (L s))) := by
  obtain ⟨i0, hi, hz0, hz1, hz2⟩ := info_parts infoTok
  have HW := Lib.hid (ref11_words s hs w)
  have hcnt := words_count (L s)
  rw [length_L] at hcnt
  have hroom : ∀ x ∈ wordsL (L s), x.length ≤ 1000000 := fun x hx => by have := words_le hx; rw [length_L] at this; omega
  have Htok : Hid (tokensL (L s) = toksFrom 0 (wordsL (L s))) := Lib.hid rfl
  generalize tokensL (L s) = ts at Htok ⊢
  generalize wordsL (L s) = ws at HW hcnt hroom Htok
  have Hroom := Lib.hid hroom
  clear hroom
  go_enter Tryd.func11, Tryd.ntmps11
  go_wp2_with fail
  refine HW.out.mono ?_
  rintro e w1 ⟨v, rfl, hb1, hown⟩
  have hrow := own_row hown
  obtain ⟨oa, oc, rfl, hcells⟩ := txt_row hrow
  have Hcells := Lib.hid hcells
  have Hb1 := Lib.hid hb1
  have Hsz := Lib.hid hb1.size
  clear hcells hown hb1 hrow
  go_wp2
  go_loopw [3, 5] (fun l i wr => ∃ k : Nat, k ≤ ws.length ∧ i = .int .i64 k ∧ wr.ownsRow w1.heap.size 32 2 l (toksFrom 0 (ws.take k)).length (tokCells (toksFrom 0 (ws.take k))) ∧ Below w1.heap.size w1 wr) (fun _ i _ => ws.length - (intOf i).toNat)
  case atStart => exact ⟨0, by omega, rfl, World.ownsRow_nil _ _ _ _, Below.refl _ _⟩
  case round =>
    obtain ⟨k, hk, rfl, hown, hbel⟩ := hrel
    obtain ⟨la, lc, rfl⟩ := own_form hown
    by_cases h1 : k < ws.length
    · obtain ⟨b, off, rfl, hb, _, k1⟩ := Hcells.out k h1
      have k1 := cell_below hbel hb k1
      have hx : ws[k].length ≤ 1000000 := Hroom.out _ (List.getElem_mem h1)
      have hnext := toks_append 0 (ws.take k) [ws[k]]
      rw [← List.take_succ_eq_append_getElem h1] at hnext
      simp only [toksFrom, List.append_nil, Nat.zero_add, List.length_take] at hnext
      rw [Nat.min_eq_left (Nat.le_of_lt h1)] at hnext
      have htl := toks_length 0 (ws.take k)
      rw [List.length_take, Nat.min_eq_left (Nat.le_of_lt h1)] at htl
      generalize ws[k] = x at k1 hx hnext
      have HF := Lib.hid (ref10_Folded (B x) (by rw [size_B]; omega) wr)
      rw [L_B] at HF
      generalize foldL x = t at HF hnext
      have HS := Lib.hid (fun w => ref11_Stop (B t) w)
      rw [L_B] at HS
      have hgd : goodB t = (decide (t.length ≤ 40) && !stopB t) := rfl
      rw [hgd] at hnext
      generalize stopB t = sb at HS hnext
      have Hnext := Lib.hid hnext
      have Ho := Lib.hid hown
      have Hbel := Lib.hid hbel
      have hsz := hbel.size
      clear hnext hgd hown hbel
      obtain ⟨tn, htn⟩ : ∃ tn, toksFrom 0 (ws.take (k + 1)) = tn := ⟨_, rfl⟩
      rw [htn] at Hnext
      have Htn := Lib.hid htn
      clear htn
      generalize toksFrom 0 (ws.take k) = tk at Ho Hnext htl
      go_wp2_with fail
      refine HF.out.mono ?_
      rintro e w2 ⟨rfl, hb2⟩
      have Hb2 := Lib.hid (hb2.mono hsz)
      have Ho2 := Lib.hid (own_below Ho.out hb2)
      clear hb2
      go_wp2_with fail
      refine (HS.out w2).mono ?_
      rintro e w3 ⟨rfl, hb3⟩
      have HB3 := Lib.hid ((Hbel.out.trans Hb2.out).trans (hb3.mono (Hbel.out.trans Hb2.out).size))
      have Ho3 := Lib.hid (own_below Ho2.out hb3)
      have hsz3 := HB3.out.size
      clear hb3
      have hszB : (B t).size = t.length := size_B t
      cases sb
      · by_cases hlen : t.length ≤ 40
        · have hl40 : ((B t).size : Int) ≤ 40 := by omega
          have Hn2 : Hid (tn = tk ++ [(t, k)]) := Lib.hid (by rw [Hnext.out, decide_eq_true hlen]; rfl)
          have Ho4 := Lib.hid (Ho3.out.alloc (.cells #[.string (B t), .int .i64 (k : Nat)] 32))
          go_wp2_with (at_builtin; go_must (refine wpList_append_own _ rfl _ _ 24 rfl w1.heap.size 32 i0 (.agg #[.string ⟨#[]⟩, .int .i64 0]) 2 24 Tryd.underlying24 hi hz0 hz1 hz2 rfl (by decide) _ _ _ rfl Ho4.out ⟨w3.heap.size, 0, none⟩ 1 1 [.string (B t), .int .i64 (k : Nat)] rfl rfl ?c1 ?c2 ?c3 ?c4 ?c5 ?_))
          case c1 => exact (cell2_new w3 w3.heap.size rfl (.string (B t)) (.int .i64 (k : Nat)) 32)
          case c2 => simp [Value.oneCell']
          case c3 => unfold maxLen; omega
          case c4 => omega
          case c5 => simp; omega
          intro v' w5 hown' hgrow _
          have Hb5 := Lib.hid (below_own (step_at HB3.out (.cells #[.string (B t), .int .i64 (k : Nat)] 32) hsz3) Ho4.out hgrow (Nat.le_refl _) (by simp; omega))
          have Ho5 := Lib.hid hown'
          clear hown' hgrow
          go_wp2
          go_roundw
          case rel =>
            refine ⟨k + 1, by omega, by go_num, ?_, Hb5.out⟩
            rw [Htn.out, Hn2.out, List.length_append, List.length_singleton, tokCells_append]; exact Ho5.out
          case measure => simp [intOf]; omega
        · have hl40 : ¬ ((B t).size : Int) ≤ 40 := by omega
          have Hn2 : Hid (tn = tk) := Lib.hid (by rw [Hnext.out, decide_eq_false hlen]; simp)
          go_wp2
          go_roundw
          case rel =>
            refine ⟨k + 1, by omega, by go_num, ?_, HB3.out⟩
            rw [Htn.out, Hn2.out]; exact Ho3.out
          case measure => simp [intOf]; omega
      · have Hn2 : Hid (tn = tk) := Lib.hid (by rw [Hnext.out]; simp)
        go_wp2
        go_roundw
        case rel =>
          refine ⟨k + 1, by omega, by go_num, ?_, HB3.out⟩
          rw [Htn.out, Hn2.out]; exact Ho3.out
        case measure => simp [intOf]; omega
    · have hk' : k = ws.length := by omega
      subst hk'
      rw [List.take_length] at hown ⊢
      have HB := Lib.hid (Hb1.out.trans (hbel.mono Hsz.out))
      have Ho := Lib.hid hown
      clear hown hbel
      go_wp2
      go_ret
      refine ⟨_, rfl, HB.out, ?_⟩
      rw [Htok.out]
      exact own_base Ho.out Hsz.out
end Go.Proofs.YtpibflpmhhgbkaaDoor
