/- Chapter 17: codexref17.Phrase. Conditions: as the calls'. Chapter 17: query.Phrase. Conditions: as the calls'. Chapter 17: codexlaw17's comparisons, one. No conditions. -/
import Derived.Test.YtlfhgmclnapmjaaGreatDoorQryE
import Derived.Test.YtlfhgmclnapmjaaGreatDoorTokSet
import Derived.Test.YtlfhgmclnapmjaaGreatDoorTokC
import Derived.Test.YtlfhgmclnapmjaaGreatDoorStepAny
namespace Go.Proofs.YtlfhgmclnapmjaaGreatDoor
open Go.RowKit Go.Utf Go.Qry
attribute [local go_sem] Oper.semAt_some

theorem p3_drew {w : World} {a1 a2 a3 : Addr} {v1 v2 v3 : Value} (h1 : w.cell? a1 = some v1) (h2 : w.cell? a2 = some v2) (h3 : w.cell? a3 = some v3) : Below w.heap.size w w.drew ∧ w.drew.cell? a1 = some v1 ∧ w.drew.cell? a2 = some v2 ∧ w.drew.cell? a3 = some v3 := ⟨below_drew w, h1, h2, h3⟩
theorem p3_new {W w : World} {b1 o1 b2 o2 b3 o3 : Nat} {v1 v2 v3 : Value} (h : Below W.heap.size W w ∧ w.cell? ⟨b1, o1, none⟩ = some v1 ∧ w.cell? ⟨b2, o2, none⟩ = some v2 ∧ w.cell? ⟨b3, o3, none⟩ = some v3) (o : Obj) : Below W.heap.size W (w.alloc o) ∧ (w.alloc o).cell? ⟨b1, o1, none⟩ = some v1 ∧ (w.alloc o).cell? ⟨b2, o2, none⟩ = some v2 ∧ (w.alloc o).cell? ⟨b3, o3, none⟩ = some v3 := ⟨step_new h.1 o, cell_alloc o h.2.1, cell_alloc o h.2.2.1, cell_alloc o h.2.2.2⟩
theorem phrase_snoc (t : Tx) (k : Nat) (h : k < (tokensL t).length) : (phraseL t).take (k + 1) = (phraseL t).take k ++ [((tokensL t)[k].1, (tokensL t)[k].2 - firstP t)] := by
  have h' : k < (phraseL t).length := by rw [phrase_length]; exact h
  rw [List.take_succ_eq_append_getElem h']
  simp [phraseL]
theorem first_rise (t : Tx) (k : Nat) (h : k < (tokensL t).length) : firstP t ≤ (tokensL t)[k].2 := by
  rw [firstP_eq t (by omega)]
  exact tokens_rise t k h
theorem token_pos (t : Tx) (ht : t.length ≤ 1000000) (k : Nat) (h : k < (tokensL t).length) : (tokensL t)[k].2 ≤ 1000000 := by
  obtain ⟨_, _, _, h4⟩ := toks_mem (n := 0) (ws := wordsL t) (List.getElem_mem h)
  have h5 := words_count t
  omega
set_option maxRecDepth 100000 in
set_option maxHeartbeats 6400000 in
theorem ref17_Phrase (s : Tx) (hs : s.length ≤ 1000000) (w : World) :
    Calls Tryz.prog 11 #[.string (B s)] w fun e w' => ∃ v, e = .returned (.tuple #[v, .bool (decide (0 < (phraseL s).length))]) ∧ Below w.heap.size w w' ∧ w'.ownsRow w.heap.size 44 2 v (phraseL s).length (tokCells (phraseL s)) := by
  obtain ⟨i0, hi, hz0, hz1, hz2⟩ := info_parts infoTok
  have hW := ref11_Tokens (B s) (by rw [size_B]; exact hs) w
  rw [L_B] at hW
  have HW := Lib.hid hW
  have Hsn := Lib.hid (phrase_snoc s)
  have Hri := Lib.hid (first_rise s)
  have Hpo := Lib.hid (token_pos s hs)
  have Hf0 := Lib.hid (firstP_eq s)
  have hpl := phrase_length s
  have hcnt := tokens_count (B s) (by rw [size_B]; exact hs)
  rw [L_B] at hcnt
  clear hW hs
  generalize phraseL s = ps at *
  generalize tokensL s = ts at *
  generalize firstP s = F at *
  go_enter Tryz.func11, Tryz.ntmps11
  go_wp2_with fail
  refine HW.out.mono ?_
  rintro e w1 ⟨v, rfl, hb1, hown⟩
  obtain ⟨oa, oc, rfl, hcells⟩ := own_toks hown
  have Hcells := Lib.hid hcells
  have Hb1 := Lib.hid hb1
  have Hsz := Lib.hid hb1.size
  clear hcells hown hb1
  go_wp2
  go_loopw [4, 6] (fun l i wr => ∃ k : Nat, k ≤ ts.length ∧ i = .int .i64 k ∧ wr.ownsRow w1.heap.size 44 2 l (ps.take k).length (tokCells (ps.take k)) ∧ Below w1.heap.size w1 wr) (fun _ i _ => ts.length - (intOf i).toNat)
  case atStart => exact ⟨0, by omega, rfl, World.ownsRow_nil _ _ _ _, Below.refl _ _⟩
  case round =>
    obtain ⟨k, hk, rfl, hown, hbel⟩ := hrel
    obtain ⟨la, lc, rfl⟩ := own_form hown
    by_cases h1 : k < ts.length
    · obtain ⟨b, off, rfl, hb, j1, j2⟩ := Hcells.out k h1
      obtain ⟨b', off', e, -, -, j3⟩ := Hcells.out 0 (by omega)
      simp only [Option.some.injEq, Addr.mk.injEq] at e
      obtain ⟨rfl, rfl, -⟩ := e
      have k1 := cell_below hbel hb j1
      have k2 := cell_below hbel hb j2
      have k3 := cell_below hbel hb j3
      clear j1 j2 j3
      rw [← Hf0.out (by omega)] at k3
      simp only [Nat.zero_mul, Nat.add_zero] at k3
      have hnext := Hsn.out k h1
      have hge := Hri.out k h1
      have hpm := Hpo.out k h1
      have htl : (ps.take k).length = k := by rw [List.length_take, hpl]; omega
      have hki : (k : Int) < (ts.length : Int) := by omega
      have h0i : (0 : Int) < (ts.length : Int) := by omega
      obtain ⟨⟨t, p⟩, hx⟩ : ∃ x, ts[k] = x := ⟨_, rfl⟩
      rw [hx] at k1 k2 hnext hge hpm
      simp only at k1 k2 hnext hge hpm
      clear hx
      have Hnext := Lib.hid hnext
      have Ho := Lib.hid hown
      have Hbel := Lib.hid hbel
      have hsz := hbel.size
      clear hnext hown hbel
      generalize ps.take k = tk at Ho Hnext htl
      rw [htl] at Ho
      have hne : ts ≠ [] := by intro e; rw [e] at h1; simp at h1
      clear Hcells Hsn Hri Hpo Hf0 HW
      generalize ts.length = N at *
      have h0n : 0 < N := by omega
      have hn0 : N ≠ 0 := by omega
      have hw1 : IntKind.i64.wrap ((p : Int) - (F : Int)) = ((p - F : Nat) : Int) := by rw [IntWalk.i64_in _ (by omega)]; omega
      have ag : Value.ownBlock (.slice la k lc) ≠ some b := (fun h => by have := (Ho.out.lt _ h).1; omega)
      have hbr : b < wr.heap.size := by omega
      go_wp2
      go_region_held3 (fun w' => w'.cell? ⟨b, off + k * 2, none⟩ = some (.string (B t)) ∧ w'.cell? ⟨b, off + k * 2 + 1, none⟩ = some (.int .i64 (p : Nat)) ∧ w'.cell? ⟨b, off + 1, none⟩ = some (.int .i64 (F : Nat)))
        (first
          | go_keep
          | (refine ⟨?_, ?_, ?_⟩ <;> assumption)
          | (go_split_ands
             refine ⟨?_, ?_, ?_⟩
             · (rw [hgrow.cell_far _ (by simp; omega) (Ne.symm ag)]; assumption)
             · (rw [hgrow.cell_far _ (by simp; omega) (Ne.symm ag)]; assumption)
             · (rw [hgrow.cell_far _ (by simp; omega) (Ne.symm ag)]; assumption)))
        ((refine step_append_lies _ (by rfl) _ _ _ (by rfl) w1.heap.size 44 i0 _ 2 24 Tryz.underlying29 hi hz0 hz1 hz2 rfl (by omega) (.slice la k lc) k (tokCells tk) (by rfl) ((Ho.out.alloc _).drew)
            ⟨wr.heap.size, 0, none⟩ 1 1 [.string (B t), .int .i64 ((p - F : Nat) : Int)] (by rfl) (by rfl) (World.news_of_block (cs := #[.string (B t), .int .i64 ((p - F : Nat) : Int)]) (t := 44) (fr := (0, 0)) (heap_alloc_new wr _)) (by simp [Value.oneCell'])
            (by omega) (by unfold maxLen; omega) (by omega) (by simp; omega) (wr.heap.size + 1) (by simp) ?_; intro gg cap w5 hown1 hgrow hat hlt1))
      have Hb5 : Hid (Below w1.heap.size w1 w5) := Lib.hid ((step_new Hbel.out (.cells #[.string (B t), .int .i64 ((p - F : Nat) : Int)] 44)).drew.grown hgrow (by simp; omega) (fun k hk => (Ho.out.lt k hk).1))
      have Hown1 := Lib.hid hown1
      clear hgrow hat hlt1 hown1
      go_wp2
      go_roundw
      case rel =>
        refine ⟨k + 1, by omega, by go_num, ?_, Hb5.out⟩
        have h := Hown1.out
        rw [Hnext.out, List.length_append, List.length_singleton, htl, tokCells_append]; exact h
      case measure => simp [intOf]; omega
    · obtain rfl : k = ts.length := by omega
      rw [← hpl, List.take_length] at hown
      have HB := Lib.hid (Hb1.out.trans (hbel.mono Hsz.out))
      have hown2 := own_base hown Hsz.out
      clear hown hbel Hcells Hsn Hri Hpo Hf0 HW
      rw [List.take_of_length_le (by omega)]
      have Hpl := Lib.hid hpl
      rw [hpl] at hown2
      have Ho := Lib.hid hown2
      clear hpl hown2
      by_cases hz : 0 < ts.length
      · have hz' : (0 : Int) < (ts.length : Int) := by omega
        have Hz := Lib.hid (decide_eq_true hz)
        go_wp2
        go_ret2
        exact ⟨_, by rw [Hpl.out, Hz.out]; rfl, HB.out, by rw [Hpl.out]; exact Ho.out⟩
      · have hz' : ¬ (0 : Int) < (ts.length : Int) := by omega
        have Hz := Lib.hid (decide_eq_false hz)
        go_wp2
        go_ret2
        exact ⟨_, by rw [Hpl.out, Hz.out]; rfl, HB.out, by rw [Hpl.out]; exact Ho.out⟩
end Go.Proofs.YtlfhgmclnapmjaaGreatDoor
namespace Go.Proofs.YtlfhgmclnapmjaaGreatDoor
open Go.RowKit Go.Utf Go.Qry
attribute [local go_sem] Oper.semAt_some

theorem tkc_len (l : List (List UInt8 × Nat)) : (tokCells l).length = l.length * 2 := by
  induction l with
  | nil => rfl
  | cons x l ih =>
    have : tokCells (x :: l) = [.string (B x.1), .int .i64 (x.2 : Nat)] ++ tokCells l := rfl
    rw [this, List.length_append, ih, List.length_cons]; simp; omega
theorem mix_get (ps ts : List (List UInt8 × Nat)) (k : Nat) (h : ps.length = ts.length) (hk : k < ts.length) : (tokCells (ps.take k ++ ts.drop k))[k * 2 + 1]? = some (.int .i64 (ts[k].2 : Nat)) := by
  have hl : (tokCells (ps.take k)).length = k * 2 := by rw [tkc_len, List.length_take]; congr 1; omega
  rw [tokCells_append, List.getElem?_append_right (by omega), hl, List.drop_eq_getElem_cons hk, show k * 2 + 1 - k * 2 = 1 by omega]
  rfl
theorem mix_set (ps ts : List (List UInt8 × Nat)) (k : Nat) (h : ps.length = ts.length) (hk : k < ts.length) (y : Nat) (h2 : ps.take (k + 1) = ps.take k ++ [(ts[k].1, y)]) : (tokCells (ps.take k ++ ts.drop k)).set (k * 2 + 1) (.int .i64 (y : Nat)) = tokCells (ps.take (k + 1) ++ ts.drop (k + 1)) := by
  have hl : (tokCells (ps.take k)).length = k * 2 := by rw [tkc_len, List.length_take]; congr 1; omega
  rw [h2, tokCells_append, List.set_append_right _ _ (by omega), hl, List.drop_eq_getElem_cons hk, show k * 2 + 1 - k * 2 = 1 by omega, List.append_assoc, tokCells_append]
  rfl
theorem below_set' {K : Nat} {W w : World} (h : Below K W w) (g k : Nat) (v : Value) (hg : K ≤ g) : Below K W (w.setCell ⟨g, k, none⟩ v) := h.setCell (p := ⟨g, k, none⟩) hg v
set_option maxRecDepth 100000 in
set_option maxHeartbeats 6400000 in
theorem query_Phrase (s : Tx) (hs : s.length ≤ 1000000) (w : World) (hT : Tabs w) :
    Calls Tryz.prog 10 #[.string (B s)] w fun e w' => ∃ v, e = .returned (.tuple #[v, .bool (decide (0 < (phraseL s).length))]) ∧ Below w.heap.size w w' ∧ w'.ownsRow w.heap.size 44 2 v (phraseL s).length (tokCells (phraseL s)) := by
  have hW := token_Tokens (B s) (by rw [size_B]; exact hs) w hT
  rw [L_B] at hW
  have HW := Lib.hid hW
  have Hsn := Lib.hid (phrase_snoc s)
  have Hri := Lib.hid (first_rise s)
  have Hpo := Lib.hid (token_pos s hs)
  have Hf0 := Lib.hid (firstP_eq s)
  have hpl := phrase_length s
  have hcnt := tokens_count (B s) (by rw [size_B]; exact hs)
  rw [L_B] at hcnt
  clear hW hs hT
  generalize phraseL s = ps at *
  generalize tokensL s = ts at *
  generalize firstP s = F at *
  have Hpl := Lib.hid hpl
  go_enter Tryz.func10, Tryz.ntmps10
  go_wp2_with fail
  refine HW.out.mono ?_
  rintro e w1 ⟨v, rfl, hb1, hown⟩
  have Hb1 := Lib.hid hb1
  clear hb1 HW hpl
  by_cases h0 : ts.length = 0
  · obtain rfl : ts = [] := List.eq_nil_of_length_eq_zero h0
    obtain ⟨la, lc, rfl⟩ := own_form hown
    have hp0 : Hid (ps = []) := Lib.hid (List.eq_nil_of_length_eq_zero (by rw [Hpl.out]; rfl))
    clear hown Hsn Hri Hpo Hf0
    go_wp2
    go_ret2
    exact ⟨_, by rw [hp0.out]; rfl, Hb1.out, by rw [hp0.out]; exact World.ownsRow_nil _ _ _ _⟩
  · rcases hown.2 with ⟨e, e0⟩ | ⟨g, cap, cur, e, hg, -⟩
    · exfalso; omega
    · subst e
      have hF := hown.cellAt 1 (by omega)
      have hF2 := mix_get ps ts 0 Hpl.out (by omega)
      rw [List.take_zero, List.nil_append, List.drop_zero, ← Hf0.out (by omega)] at hF2
      rw [show (0 * 2 + 1) = 1 from rfl] at hF2
      rw [hF2] at hF
      have Hown := Lib.hid hown
      have hz : (0 : Int) < (ts.length : Int) := by omega
      have hz' : 0 < ts.length := by omega
      have hne : ts ≠ [] := by intro e; rw [e] at h0; exact h0 rfl
      have Hg := Lib.hid hg
      clear hown hF2
      go_wp2
      go_loopw [18] (fun x18 wr => ∃ k : Nat, k ≤ ts.length ∧ x18 = .int .i64 k ∧ wr.ownsRow w.heap.size 44 2 (.slice (some ⟨g, 0, none⟩) ts.length cap) ts.length (tokCells (ps.take k ++ ts.drop k)) ∧ Below w.heap.size w wr) (fun x18 _ => ts.length - (intOf x18).toNat)
      case atStart => exact ⟨0, by omega, rfl, Hown.out, Hb1.out⟩
      case round =>
        obtain ⟨k, hk, rfl, hown, hbel⟩ := hrel
        have Hbel := Lib.hid hbel
        by_cases hlt : k < ts.length
        · have hki : (k : Int) < (ts.length : Int) := by omega
          have k1 := hown.cellAt (k * 2 + 1) (by omega)
          rw [mix_get ps ts k Hpl.out hlt] at k1
          have hfr := hown.frozenAt (k * 2 + 1)
          have hge := Hri.out k hlt
          have hpm := Hpo.out k hlt
          have Hset := Lib.hid (mix_set ps ts k Hpl.out hlt (ts[k].2 - F) (Hsn.out k hlt))
          have Hst := Lib.hid (hown.stored (k * 2 + 1) (.int .i64 ((ts[k].2 - F : Nat) : Int)))
          clear hown hbel hF
          generalize ts[k].2 = p at *
          have hw1 : IntKind.i64.wrap ((p : Int) - (F : Int)) = ((p - F : Nat) : Int) := by rw [IntWalk.i64_in _ (by omega)]; omega
          go_wp2
          go_roundw
          case rel =>
            refine ⟨k + 1, by omega, by go_num, ?_, below_set' Hbel.out _ _ _ Hg.out⟩
            have h := Hst.out.1
            rw [Hset.out] at h
            exact h
          case measure => simp [intOf]; omega
        · obtain rfl : k = ts.length := by omega
          have hown2 := hown
          rw [List.drop_of_length_le (Nat.le_refl _), List.append_nil, List.take_of_length_le (by rw [Hpl.out]; exact Nat.le_refl _)] at hown2
          have Ho := Lib.hid hown2
          have Hz := Lib.hid (decide_eq_true hz')
          clear hown hown2 hbel
          go_wp2
          go_ret2
          exact ⟨_, by rw [Hpl.out, Hz.out]; rfl, Hbel.out, by rw [Hpl.out]; exact Ho.out⟩
end Go.Proofs.YtlfhgmclnapmjaaGreatDoor
namespace Go.Proofs.YtlfhgmclnapmjaaGreatDoor
open Go.RowKit Go.Utf Go.Qry
attribute [local go_sem] Oper.semAt_some

set_option maxRecDepth 100000 in
set_option maxHeartbeats 3200000 in
theorem law_sameTexts17 (va vb : Value) (l : List (List UInt8)) (hn : l.length ≤ 9223372036854775807) (w : World) (ha : Row w va (txtV l)) (hb : Row w vb (txtV l)) :
    Calls Tryz.prog 13 #[va, vb] w fun e w' => e = .returned (.bool true) ∧ Below w.heap.size w w' := by
  obtain ⟨o1, k1, rfl, hc1⟩ := txt_row ha
  obtain ⟨o2, k2, rfl, hc2⟩ := txt_row hb
  have Ha := Lib.hid hc1
  have Hb := Lib.hid hc2
  have hne : ((l.length : Int) != (l.length : Int)) = false := by simp
  clear ha hb hc1 hc2
  go_enter Tryz.func13, Tryz.ntmps13
  go_wp2
  clear hne
  go_loopw [5] (fun i wr => ∃ k : Nat, k ≤ l.length ∧ i = .int .i64 k ∧ Below w.heap.size w wr) (fun i _ => l.length - (intOf i).toNat)
  case atStart => exact ⟨0, by omega, rfl, Below.refl _ _⟩
  case round =>
    obtain ⟨k, hk, rfl, hbel⟩ := hrel
    by_cases hlt : k < l.length
    · obtain ⟨b1, f1, rfl, hb1, _, d1⟩ := Ha.out k hlt
      obtain ⟨b2, f2, rfl, hb2, _, d2⟩ := Hb.out k hlt
      have d1 := cell_below hbel hb1 d1
      have d2 := cell_below hbel hb2 d2
      have Hbel := Lib.hid hbel
      clear hbel
      generalize l[k] = x at *
      have e1 : ((B x).toList != (B x).toList) = false := by simp
      have hk1 : (k : Int) < (l.length : Int) := by omega
      go_wp2
      go_quiet (fail)
      go_wp2
      go_roundw
      case rel => exact ⟨k + 1, by omega, by go_num, below_to_drewN Hbel.out _⟩
      case measure => simp [intOf]; omega
    · obtain rfl : k = l.length := by omega
      go_wp2
      go_ret
      exact ⟨rfl, hbel⟩
set_option maxRecDepth 100000 in
set_option maxHeartbeats 3200000 in
theorem law_same17 (va vb : Value) (l : List (List UInt8 × Nat)) (hn : l.length ≤ 9223372036854775807) (w : World) (ha : Toks w va l) (hb : Toks w vb l) :
    Calls Tryz.prog 12 #[va, vb] w fun e w' => e = .returned (.bool true) ∧ Below w.heap.size w w' := by
  obtain ⟨o1, k1, rfl, hc1⟩ := ha
  obtain ⟨o2, k2, rfl, hc2⟩ := hb
  have Ha := Lib.hid hc1
  have Hb := Lib.hid hc2
  have hne : ((l.length : Int) != (l.length : Int)) = false := by simp
  clear hc1 hc2
  go_enter Tryz.func12, Tryz.ntmps12
  go_wp2
  clear hne
  go_loopw [5] (fun i wr => ∃ k : Nat, k ≤ l.length ∧ i = .int .i64 k ∧ Below w.heap.size w wr) (fun i _ => l.length - (intOf i).toNat)
  case atStart => exact ⟨0, by omega, rfl, Below.refl _ _⟩
  case round =>
    obtain ⟨k, hk, rfl, hbel⟩ := hrel
    by_cases hlt : k < l.length
    · obtain ⟨b1, f1, rfl, hb1, d1, d1'⟩ := Ha.out k hlt
      obtain ⟨b2, f2, rfl, hb2, d2, d2'⟩ := Hb.out k hlt
      have d1 := cell_below hbel hb1 d1
      have d2 := cell_below hbel hb2 d2
      have d1' := cell_below hbel hb1 d1'
      have d2' := cell_below hbel hb2 d2'
      have Hbel := Lib.hid hbel
      clear hbel
      generalize l[k] = x at *
      obtain ⟨x, p⟩ := x
      simp only at d1 d2 d1' d2'
      have e1 : ((B x).toList != (B x).toList) = false := by simp
      have hk1 : (k : Int) < (l.length : Int) := by omega
      go_wp2
      go_quiet (fail)
      go_wp2
      go_roundw
      case rel => exact ⟨k + 1, by omega, by go_num, below_to_drewN Hbel.out _⟩
      case measure => simp [intOf]; omega
    · obtain rfl : k = l.length := by omega
      go_wp2
      go_ret
      exact ⟨rfl, hbel⟩
set_option maxRecDepth 100000 in
theorem law_one (k : Int) (s : ByteArray) (w : World) : Calls Tryz.prog 18 #[.int .i64 k, .string s] w fun e w' => e = .returned (.agg #[.int .i64 k, .string s, .slice none 0 0, .slice none 0 0, .slice none 0 0]) ∧ Below w.heap.size w w' := by
  go_enter Tryz.func18, Tryz.ntmps18
  go_wp2
  refine bodyPost_ret_by (results_cell_row rfl _ _ w.heap.size _ _ _ _ (by rfl) (heap_alloc_new w _) Tryz.underlying24 rfl (by kernel_rfl)) rfl ⟨rfl, step_new (Below.refl _ _) _⟩
end Go.Proofs.YtlfhgmclnapmjaaGreatDoor
