/- Chapter 11: codexref11.words. Condition: the text is at most 10^6 bytes. -/
import Derived.Test.YtpibflpmhhgbkaaDoorTokD
import Derived.Test.YtpibflpmhhgbkaaDoorUtfH
namespace Go.Utf
open Go.Lib
/-- Words, piece by piece: those that are done, and the one under way. -/
def goW : List (Int × List UInt8) → List (List UInt8) → Option (List UInt8) → List (List UInt8)
  | [], a, cur => a ++ cur.toList
  | c :: cs, a, cur => if isW c then goW cs a (some (cur.getD [] ++ c.2)) else goW cs (a ++ cur.toList) none
theorem goW_fold (cs : List (Int × List UInt8)) : ∀ R : List (List (Int × List UInt8)) × List (Int × List UInt8), goW cs (R.1.map joinC) (if R.2 = [] then none else some (joinC R.2)) = (flushG (cs.foldl (stG isW) R)).map joinC := by
  induction cs with
  | nil =>
    intro R
    unfold goW
    rw [List.foldl_nil]
    unfold flushG
    by_cases h0 : R.2 = []
    · rw [if_pos h0, if_pos h0]; simp
    · rw [if_neg h0, if_neg h0]; simp
  | cons c cs ih =>
    intro R
    rw [List.foldl_cons]
    unfold goW
    by_cases h : isW c = true
    · rw [if_pos h, ← ih]
      have e : stG isW R c = (R.1, R.2 ++ [c]) := by simp [stG, h]
      rw [e]
      dsimp only
      rw [if_neg (by simp : ¬ (R.2 ++ [c] = []))]
      congr 2
      rw [joinC_append]
      have e1 : joinC [c] = c.2 := by simp [joinC]
      rw [e1]
      by_cases h0 : R.2 = []
      · rw [if_pos h0, h0]; rfl
      · rw [if_neg h0]; rfl
    · rw [if_neg h, ← ih]
      have e : stG isW R c = (flushG R, []) := by simp [stG, h]
      rw [e]
      dsimp only
      rw [if_pos rfl]
      congr 1
      unfold flushG
      by_cases h0 : R.2 = []
      · rw [if_pos h0, if_pos h0]; simp
      · rw [if_neg h0, if_neg h0]; simp
theorem words_go (l : List UInt8) : goW (chunks l) [] none = wordsL l := goW_fold (chunks l) ([], [])
end Go.Utf
namespace Go.Proofs.YtpibflpmhhgbkaaDoor
open Go.RowKit Go.Utf Go.Lib
attribute [local go_sem] Oper.semAt_some

theorem own_last {w : World} {base g cap : Nat} {a : List (List UInt8)} {x : List UInt8} (h : w.ownsRow base 9 1 (.slice (some ⟨g, 0, none⟩) (a.length + 1) cap) (a.length + 1) (txtCells (a ++ [x]))) :
    w.cell? ⟨g, a.length, none⟩ = some (.string (B x)) ∧ w.frozen? ⟨g, a.length, none⟩ = false ∧ base ≤ g ∧ a.length + 1 ≤ cap ∧ cap ≤ maxLen := by
  rcases h.2 with ⟨h0, _⟩ | ⟨g', cap', cur, h0, hg, hh, h1, h2, h3, h4⟩
  · cases h0
  cases h0
  refine ⟨?_, Lib.frozen_of_heap hh _, hg, h1, h2⟩
  rw [Lib.cell_of_heap hh]
  have : cur.toList[a.length]? = (txtCells (a ++ [x]))[a.length]? := by rw [← h4, List.getElem?_take, if_pos (by omega)]
  rw [← Array.getElem?_toList, this]
  simp [txtCells]
theorem own_last_set {w : World} {base g cap : Nat} {a : List (List UInt8)} {x : List UInt8} (h : w.ownsRow base 9 1 (.slice (some ⟨g, 0, none⟩) (a.length + 1) cap) (a.length + 1) (txtCells (a ++ [x]))) (y : List UInt8) :
    (w.setCell ⟨g, a.length, none⟩ (.string (B y))).ownsRow base 9 1 (.slice (some ⟨g, 0, none⟩) (a.length + 1) cap) (a.length + 1) (txtCells (a ++ [y])) := by
  rcases h.2 with ⟨h0, _⟩ | ⟨g', cap', cur, h0, hg, hh, h1, h2, h3, h4⟩
  · cases h0
  cases h0
  refine ⟨by simp [txtCells], .inr ⟨g, cap, cur.setIfInBounds a.length (.string (B y)), rfl, hg, by simp [World.setCell, Array.getElem?_modify, hh], h1, h2, by simpa using h3, ?_⟩⟩
  rw [Array.toList_setIfInBounds, List.take_set, h4]
  simp [txtCells]
set_option maxRecDepth 100000 in
set_option maxHeartbeats 6400000 in
theorem ref11_words (s : ByteArray) (hs : s.size ≤ 1000000) (w : World) :
    Calls Tryd.prog 21 #[.string s] w fun e w' => ∃ v, e = .returned v ∧ Below w.heap.size w w' ∧ w'.ownsRow w.heap.size 9 1 v (wordsL (L s)).length (txtCells (wordsL (L s))) := by
  obtain ⟨i0, hi, hz0, hz1, hz2⟩ := info_parts infoStr
  go_enter Tryd.func21, Tryd.ntmps21
  go_wp2
  go_loopw [0, 3, 4] (fun sv ov iv wr => ∃ (t : ByteArray) (a : List (List UInt8)) (cur : Option (List UInt8)), sv = .string t ∧ iv = .bool cur.isSome ∧ goW (chunks (L t)) a cur = wordsL (L s) ∧ wr.ownsRow w.heap.size 9 1 ov (a ++ cur.toList).length (txtCells (a ++ cur.toList)) ∧ (a ++ cur.toList).length + t.size ≤ s.size ∧ (cur.getD []).length + t.size ≤ s.size ∧ Below w.heap.size w wr) (fun sv _ _ _ => match sv with | .string t => t.size | _ => 0)
  case atStart => exact ⟨s, [], none, rfl, rfl, words_go _, World.ownsRow_nil _ _ _ _, by simp, by simp, Below.refl _ _⟩
  case round =>
    obtain ⟨t, a, cur, rfl, rfl, hgo, hown, hl1, hl2, hb⟩ := hrel
    have Hb := Lib.hid hb
    have hbz := hb.size
    by_cases h0 : t.size = 0
    · have hz : ¬ (0 : Int) < (t.size : Int) := by omega
      have hnil : L t = [] := List.eq_nil_of_length_eq_zero (by rw [length_L]; exact h0)
      rw [hnil, chunks_nil] at hgo
      unfold goW at hgo
      rw [hgo] at hown
      obtain ⟨la, lc, rfl⟩ := own_form hown
      have Ho := Lib.hid hown
      clear h0 hown hl1 hgo
      go_wp2
      go_ret
      exact ⟨_, rfl, Hb.out, Ho.out⟩
    · have hz : (0 : Int) < (t.size : Int) := by omega
      have hne : L t ≠ [] := by
        intro e
        have := congrArg List.length e
        rw [length_L, List.length_nil] at this; omega
      have hpos := readL_pos hne
      have hle := readL_le hne
      rw [length_L] at hle
      rw [chunks_cons hne] at hgo
      have HR := Lib.hid (ref10_Rune t (by omega) wr)
      unfold ReadV at HR
      obtain ⟨x, hx⟩ : ∃ x, readL (L t) = x := ⟨_, rfl⟩
      rw [hx] at HR hgo hpos hle
      obtain ⟨r, n⟩ := x
      simp only at HR hgo hpos hle
      have hn : (n : Int) ≤ (t.size : Int) := by omega
      have hx1 : t.extract n t.size = B ((L t).drop n) := extract_to_end t n
      have hx2 : t.extract 0 n = B ((L t).take n) := extract_take t n
      have hx3 : (t.extract n t.size).size = t.size - n := by simp
      have hx4 : ((L t).take n).length = n := by rw [List.length_take, length_L]; omega
      have hkd : isW (r, (L t).take n) = (decide (0 ≤ r) && (kindN r == 1 || kindN r == 2)) := rfl
      unfold goW at hgo
      obtain ⟨b, hbe⟩ : ∃ b, isW (r, (L t).take n) = b := ⟨_, rfl⟩
      rw [hbe] at hgo hkd
      have HK := Lib.hid (fun w => ref10_Kind r w)
      generalize kindN r = kd at hkd HK
      have Hgo := Lib.hid hgo
      have hcs : (0 ≤ r ∧ (kd == 1) = true ∧ b = true) ∨ (0 ≤ r ∧ (kd == 1) = false ∧ (kd == 2) = true ∧ b = true) ∨ (r < 0 ∧ b = false) ∨ (0 ≤ r ∧ (kd == 1) = false ∧ (kd == 2) = false ∧ b = false) := by
        by_cases h0 : 0 ≤ r
        · rw [decide_eq_true h0, Bool.true_and] at hkd
          cases e1 : (kd == 1) <;> cases e2 : (kd == 2) <;> simp_all
        · rw [decide_eq_false h0, Bool.false_and] at hkd
          exact .inr (.inr (.inl ⟨by omega, hkd⟩))
      have Hx1 := Lib.hid hx1
      have Hx2 := Lib.hid hx2
      have Hx3 := Lib.hid hx3
      generalize (L t).take n = y at hx4 Hx2 Hgo
      have Hx4 := Lib.hid hx4
      clear hx hne h0 hgo hkd hbe hx1 hx2 hx3 hx4 hb
      rcases hcs with ⟨k1, k2, rfl⟩ | ⟨k1, k2, k3, rfl⟩ | ⟨k1, rfl⟩ | ⟨k1, k2, k3, rfl⟩
      · cases cur with
        | none =>
          rw [show (none : Option (List UInt8)).toList = [] from rfl, List.append_nil] at hown
          have Ho := Lib.hid hown
          have hl1' : a.length + t.size ≤ s.size := by simpa using hl1
          have Hgo' := Hgo.out
          rw [if_pos rfl] at Hgo'
          have Hgo2 : Hid (goW (chunks ((L t).drop n)) a (some y) = wordsL (L s)) := Lib.hid Hgo'
          clear hown hl1 hl2 Hgo Hgo'
          go_wp2_with fail
          refine HR.out.mono ?_
          rintro e w1 ⟨rfl, hb1⟩
          have Hb1 := Lib.hid (step_call Hb.out hb1)
          have Ho1 := Lib.hid (own_below Ho.out hb1)
          clear hb1
          go_wp2_with fail
          refine (HK.out w1).mono ?_
          rintro e w2 ⟨rfl, rfl⟩
          have hsz1 := Hb1.out.size
          have Hoa := Lib.hid (Ho1.out.alloc (.cells #[.string ⟨#[]⟩] 9))
          have Hn1 := Lib.hid (cell_one_new w1 (.string ⟨#[]⟩) 9)
          obtain ⟨la, lc, rfl⟩ := own_form Ho1.out
          go_wp2_with (at_builtin; go_must (refine wpList_append_own _ rfl _ _ 27 rfl w.heap.size 9 i0 (.string ⟨#[]⟩) 1 16 Tryd.underlying27 hi hz0 hz1 hz2 rfl (by decide) _ _ _ rfl Hoa.out ⟨w1.heap.size, 0, none⟩ 1 1 [.string ⟨#[]⟩] rfl rfl ?c1 ?c2 ?c3 ?c4 ?c5 ?_))
          case c1 => exact Hn1.out
          case c2 => simp [Value.oneCell']
          case c3 => unfold maxLen; omega
          case c4 => omega
          case c5 => simp; omega
          intro v' w5 hown' hgrow _
          have HBW := Lib.hid (below_own (step_at Hb1.out (.cells #[.string ⟨#[]⟩] 9) hsz1) Hoa.out hgrow (Nat.le_refl _) (by simp; omega))
          obtain ⟨g, cap, rfl⟩ := ownsRow_succ hown'
          have OW : w5.ownsRow w.heap.size 9 1 (.slice (some ⟨g, 0, none⟩) (a.length + 1) cap) (a.length + 1) (txtCells (a ++ [[]])) := by
            have e : txtCells (a ++ [[]]) = txtCells a ++ [Value.string ⟨#[]⟩] := by simp [txtCells, B]
            rw [e]; exact hown'
          clear hown' hgrow
          obtain ⟨W0, hW0⟩ : ∃ W0 : List UInt8, W0 = [] := ⟨_, rfl⟩
          rw [← hW0] at OW
          have HW0 := Lib.hid hW0
          have Hroom : Hid (W0.length + t.size ≤ s.size) := Lib.hid (by rw [hW0]; simp; omega)
          have HgoW : Hid (goW (chunks ((L t).drop n)) a (some (W0 ++ y)) = wordsL (L s)) := Lib.hid (by rw [hW0]; exact Hgo2.out)
          clear hW0
          obtain ⟨d1, f1, dg, dc, dm⟩ := own_last OW
          have hadd : B W0 ++ t.extract 0 n = B (W0 ++ y) := by rw [Hx2.out, B_append]
          have Hset := Lib.hid (own_last_set OW (W0 ++ y))
          have Hbs := Lib.hid (HBW.out.setCell (p := ⟨g, a.length, none⟩) dg (.string (B (W0 ++ y))))
          have hx2 := Hx2.out
          have hz1' : (B W0).size = W0.length := size_B _
          have hz2' : (B y).size = n := by rw [size_B]; exact Hx4.out
          have hroom := Hroom.out
          have hal : a.length ≤ 1000000 := by omega
          rw [hx2] at hadd
          have Hadd := Lib.hid hadd
          clear OW dg hadd
          go_wp2
          go_region
          go_wp2
          go_roundw
          case rel =>
            refine ⟨B ((L t).drop n), a, some (W0 ++ y), by rw [Hx1.out], rfl, HgoW.out, ?_, ?_, ?_, ?_⟩
            · rw [show (some (W0 ++ y)).toList = [W0 ++ y] from rfl, List.length_append, List.length_singleton, Hadd.out]; exact Hset.out
            · rw [← Hx1.out, Hx3.out, show (some (W0 ++ y)).toList = [W0 ++ y] from rfl, List.length_append, List.length_singleton]; omega
            · have := Hx4.out
              rw [← Hx1.out, Hx3.out, show (some (W0 ++ y)).getD [] = W0 ++ y from rfl, List.length_append]; omega
            · rw [Hadd.out]; exact below_to_drew Hbs.out
          case measure => simp; omega
        | some W0 =>
          have hl1' : a.length + 1 + t.size ≤ s.size := by simpa using hl1
          have hl2' : W0.length + t.size ≤ s.size := by simpa using hl2
          have Hroom : Hid (W0.length + t.size ≤ s.size) := Lib.hid hl2'
          have Hgo' := Hgo.out
          rw [if_pos rfl] at Hgo'
          have HgoW : Hid (goW (chunks ((L t).drop n)) a (some (W0 ++ y)) = wordsL (L s)) := Lib.hid Hgo'
          rw [show (some W0).toList = [W0] from rfl, List.length_append, List.length_singleton] at hown
          obtain ⟨g, cap, rfl⟩ := ownsRow_succ hown
          have Ho := Lib.hid hown
          clear hown hl1 hl2 hl2' Hgo Hgo'
          go_wp2_with fail
          refine HR.out.mono ?_
          rintro e w1 ⟨rfl, hb1⟩
          have Hb1 := Lib.hid (step_call Hb.out hb1)
          have Ho1 := Lib.hid (own_below Ho.out hb1)
          clear hb1
          go_wp2_with fail
          refine (HK.out w1).mono ?_
          rintro e w2 ⟨rfl, rfl⟩
          have HBW := Hb1
          have OW := Ho1.out
          obtain ⟨d1, f1, dg, dc, dm⟩ := own_last OW
          have hadd : B W0 ++ t.extract 0 n = B (W0 ++ y) := by rw [Hx2.out, B_append]
          have Hset := Lib.hid (own_last_set OW (W0 ++ y))
          have Hbs := Lib.hid (HBW.out.setCell (p := ⟨g, a.length, none⟩) dg (.string (B (W0 ++ y))))
          have hx2 := Hx2.out
          have hz1' : (B W0).size = W0.length := size_B _
          have hz2' : (B y).size = n := by rw [size_B]; exact Hx4.out
          have hroom := Hroom.out
          have hal : a.length ≤ 1000000 := by omega
          rw [hx2] at hadd
          have Hadd := Lib.hid hadd
          clear OW dg hadd
          go_wp2
          go_region
          go_wp2
          go_roundw
          case rel =>
            refine ⟨B ((L t).drop n), a, some (W0 ++ y), by rw [Hx1.out], rfl, HgoW.out, ?_, ?_, ?_, ?_⟩
            · rw [show (some (W0 ++ y)).toList = [W0 ++ y] from rfl, List.length_append, List.length_singleton, Hadd.out]; exact Hset.out
            · rw [← Hx1.out, Hx3.out, show (some (W0 ++ y)).toList = [W0 ++ y] from rfl, List.length_append, List.length_singleton]; omega
            · have := Hx4.out
              rw [← Hx1.out, Hx3.out, show (some (W0 ++ y)).getD [] = W0 ++ y from rfl, List.length_append]; omega
            · rw [Hadd.out]; exact below_to_drew Hbs.out
          case measure => simp; omega
      · cases cur with
        | none =>
          rw [show (none : Option (List UInt8)).toList = [] from rfl, List.append_nil] at hown
          have Ho := Lib.hid hown
          have hl1' : a.length + t.size ≤ s.size := by simpa using hl1
          have Hgo' := Hgo.out
          rw [if_pos rfl] at Hgo'
          have Hgo2 : Hid (goW (chunks ((L t).drop n)) a (some y) = wordsL (L s)) := Lib.hid Hgo'
          clear hown hl1 hl2 Hgo Hgo'
          go_wp2_with fail
          refine HR.out.mono ?_
          rintro e w1 ⟨rfl, hb1⟩
          have Hb1 := Lib.hid (step_call Hb.out hb1)
          have Ho1 := Lib.hid (own_below Ho.out hb1)
          clear hb1
          go_wp2_with fail
          refine (HK.out w1).mono ?_
          rintro e w2 ⟨rfl, rfl⟩
          have hsz1 := Hb1.out.size
          have Hoa := Lib.hid (Ho1.out.alloc (.cells #[.string ⟨#[]⟩] 9))
          have Hn1 := Lib.hid (cell_one_new w1 (.string ⟨#[]⟩) 9)
          obtain ⟨la, lc, rfl⟩ := own_form Ho1.out
          go_wp2_with (at_builtin; go_must (refine wpList_append_own _ rfl _ _ 27 rfl w.heap.size 9 i0 (.string ⟨#[]⟩) 1 16 Tryd.underlying27 hi hz0 hz1 hz2 rfl (by decide) _ _ _ rfl Hoa.out ⟨w1.heap.size, 0, none⟩ 1 1 [.string ⟨#[]⟩] rfl rfl ?c1 ?c2 ?c3 ?c4 ?c5 ?_))
          case c1 => exact Hn1.out
          case c2 => simp [Value.oneCell']
          case c3 => unfold maxLen; omega
          case c4 => omega
          case c5 => simp; omega
          intro v' w5 hown' hgrow _
          have HBW := Lib.hid (below_own (step_at Hb1.out (.cells #[.string ⟨#[]⟩] 9) hsz1) Hoa.out hgrow (Nat.le_refl _) (by simp; omega))
          obtain ⟨g, cap, rfl⟩ := ownsRow_succ hown'
          have OW : w5.ownsRow w.heap.size 9 1 (.slice (some ⟨g, 0, none⟩) (a.length + 1) cap) (a.length + 1) (txtCells (a ++ [[]])) := by
            have e : txtCells (a ++ [[]]) = txtCells a ++ [Value.string ⟨#[]⟩] := by simp [txtCells, B]
            rw [e]; exact hown'
          clear hown' hgrow
          obtain ⟨W0, hW0⟩ : ∃ W0 : List UInt8, W0 = [] := ⟨_, rfl⟩
          rw [← hW0] at OW
          have HW0 := Lib.hid hW0
          have Hroom : Hid (W0.length + t.size ≤ s.size) := Lib.hid (by rw [hW0]; simp; omega)
          have HgoW : Hid (goW (chunks ((L t).drop n)) a (some (W0 ++ y)) = wordsL (L s)) := Lib.hid (by rw [hW0]; exact Hgo2.out)
          clear hW0
          obtain ⟨d1, f1, dg, dc, dm⟩ := own_last OW
          have hadd : B W0 ++ t.extract 0 n = B (W0 ++ y) := by rw [Hx2.out, B_append]
          have Hset := Lib.hid (own_last_set OW (W0 ++ y))
          have Hbs := Lib.hid (HBW.out.setCell (p := ⟨g, a.length, none⟩) dg (.string (B (W0 ++ y))))
          have hx2 := Hx2.out
          have hz1' : (B W0).size = W0.length := size_B _
          have hz2' : (B y).size = n := by rw [size_B]; exact Hx4.out
          have hroom := Hroom.out
          have hal : a.length ≤ 1000000 := by omega
          rw [hx2] at hadd
          have Hadd := Lib.hid hadd
          clear OW dg hadd
          go_wp2
          go_region
          go_wp2
          go_roundw
          case rel =>
            refine ⟨B ((L t).drop n), a, some (W0 ++ y), by rw [Hx1.out], rfl, HgoW.out, ?_, ?_, ?_, ?_⟩
            · rw [show (some (W0 ++ y)).toList = [W0 ++ y] from rfl, List.length_append, List.length_singleton, Hadd.out]; exact Hset.out
            · rw [← Hx1.out, Hx3.out, show (some (W0 ++ y)).toList = [W0 ++ y] from rfl, List.length_append, List.length_singleton]; omega
            · have := Hx4.out
              rw [← Hx1.out, Hx3.out, show (some (W0 ++ y)).getD [] = W0 ++ y from rfl, List.length_append]; omega
            · rw [Hadd.out]; exact below_to_drew Hbs.out
          case measure => simp; omega
        | some W0 =>
          have hl1' : a.length + 1 + t.size ≤ s.size := by simpa using hl1
          have hl2' : W0.length + t.size ≤ s.size := by simpa using hl2
          have Hroom : Hid (W0.length + t.size ≤ s.size) := Lib.hid hl2'
          have Hgo' := Hgo.out
          rw [if_pos rfl] at Hgo'
          have HgoW : Hid (goW (chunks ((L t).drop n)) a (some (W0 ++ y)) = wordsL (L s)) := Lib.hid Hgo'
          rw [show (some W0).toList = [W0] from rfl, List.length_append, List.length_singleton] at hown
          obtain ⟨g, cap, rfl⟩ := ownsRow_succ hown
          have Ho := Lib.hid hown
          clear hown hl1 hl2 hl2' Hgo Hgo'
          go_wp2_with fail
          refine HR.out.mono ?_
          rintro e w1 ⟨rfl, hb1⟩
          have Hb1 := Lib.hid (step_call Hb.out hb1)
          have Ho1 := Lib.hid (own_below Ho.out hb1)
          clear hb1
          go_wp2_with fail
          refine (HK.out w1).mono ?_
          rintro e w2 ⟨rfl, rfl⟩
          have HBW := Hb1
          have OW := Ho1.out
          obtain ⟨d1, f1, dg, dc, dm⟩ := own_last OW
          have hadd : B W0 ++ t.extract 0 n = B (W0 ++ y) := by rw [Hx2.out, B_append]
          have Hset := Lib.hid (own_last_set OW (W0 ++ y))
          have Hbs := Lib.hid (HBW.out.setCell (p := ⟨g, a.length, none⟩) dg (.string (B (W0 ++ y))))
          have hx2 := Hx2.out
          have hz1' : (B W0).size = W0.length := size_B _
          have hz2' : (B y).size = n := by rw [size_B]; exact Hx4.out
          have hroom := Hroom.out
          have hal : a.length ≤ 1000000 := by omega
          rw [hx2] at hadd
          have Hadd := Lib.hid hadd
          clear OW dg hadd
          go_wp2
          go_region
          go_wp2
          go_roundw
          case rel =>
            refine ⟨B ((L t).drop n), a, some (W0 ++ y), by rw [Hx1.out], rfl, HgoW.out, ?_, ?_, ?_, ?_⟩
            · rw [show (some (W0 ++ y)).toList = [W0 ++ y] from rfl, List.length_append, List.length_singleton, Hadd.out]; exact Hset.out
            · rw [← Hx1.out, Hx3.out, show (some (W0 ++ y)).toList = [W0 ++ y] from rfl, List.length_append, List.length_singleton]; omega
            · have := Hx4.out
              rw [← Hx1.out, Hx3.out, show (some (W0 ++ y)).getD [] = W0 ++ y from rfl, List.length_append]; omega
            · rw [Hadd.out]; exact below_to_drew Hbs.out
          case measure => simp; omega
      · have Ho := Lib.hid hown
        have Hl := Lib.hid hl1
        have Hl2 : Hid (t.size ≤ s.size) := Lib.hid (by omega)
        clear hown hl1 hl2
        obtain ⟨ib, hib⟩ : ∃ ib, cur.isSome = ib := ⟨_, rfl⟩
        rw [hib]
        clear hib
        go_wp2_with fail
        refine HR.out.mono ?_
        rintro e w1 ⟨rfl, hb1⟩
        have Hb1 := Lib.hid (step_call Hb.out hb1)
        have Ho1 := Lib.hid (own_below Ho.out hb1)
        clear hb1
        go_wp2_with fail
        refine (HK.out w1).mono ?_
        rintro e w2 ⟨rfl, rfl⟩
        go_wp2
        go_roundw
        case rel =>
          refine ⟨B ((L t).drop n), a ++ cur.toList, none, by rw [Hx1.out], rfl, ?_, ?_, ?_, ?_, Hb1.out⟩
          · exact Hgo.out
          · rw [show (none : Option (List UInt8)).toList = [] from rfl, List.append_nil]; exact Ho1.out
          · have := Hl.out
            rw [← Hx1.out, Hx3.out, show (none : Option (List UInt8)).toList = [] from rfl, List.append_nil]; omega
          · have := Hl2.out
            rw [← Hx1.out, Hx3.out]; simp; omega
        case measure => simp; omega
      · have Ho := Lib.hid hown
        have Hl := Lib.hid hl1
        have Hl2 : Hid (t.size ≤ s.size) := Lib.hid (by omega)
        clear hown hl1 hl2
        obtain ⟨ib, hib⟩ : ∃ ib, cur.isSome = ib := ⟨_, rfl⟩
        rw [hib]
        clear hib
        go_wp2_with fail
        refine HR.out.mono ?_
        rintro e w1 ⟨rfl, hb1⟩
        have Hb1 := Lib.hid (step_call Hb.out hb1)
        have Ho1 := Lib.hid (own_below Ho.out hb1)
        clear hb1
        go_wp2_with fail
        refine (HK.out w1).mono ?_
        rintro e w2 ⟨rfl, rfl⟩
        go_wp2
        go_roundw
        case rel =>
          refine ⟨B ((L t).drop n), a ++ cur.toList, none, by rw [Hx1.out], rfl, ?_, ?_, ?_, ?_, Hb1.out⟩
          · exact Hgo.out
          · rw [show (none : Option (List UInt8)).toList = [] from rfl, List.append_nil]; exact Ho1.out
          · have := Hl.out
            rw [← Hx1.out, Hx3.out, show (none : Option (List UInt8)).toList = [] from rfl, List.append_nil]; omega
          · have := Hl2.out
            rw [← Hx1.out, Hx3.out]; simp; omega
        case measure => simp; omega
end Go.Proofs.YtpibflpmhhgbkaaDoor
