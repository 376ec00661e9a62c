/- The law DictPrefixes returns true for every list, text and byte. Condition: lengths fit an int. -/
import Derived.Test.YtefnddhondbjbaaLDictFinds
import Derived.Test.YtefnddhondbjbaaByteApp
namespace Go.Proofs.Ytefnddhondbjbaa
open Go.RowKit Go.Wir Go.Dic

theorem pre_trans {a b x : List UInt8} (h : a.isPrefixOf b = true) (h2 : b.isPrefixOf x = true) : a.isPrefixOf x = true := by
  rw [List.isPrefixOf_iff_prefix] at *
  exact h.trans h2
theorem filter_longer (l : List Ent) (a : List UInt8) (x : UInt8) : (l.filter (fun e => a.isPrefixOf e.1)).filter (fun e => (a ++ [x]).isPrefixOf e.1) = l.filter (fun e => (a ++ [x]).isPrefixOf e.1) := by
  rw [List.filter_filter]
  apply List.filter_congr
  intro e _
  cases h : (a ++ [x]).isPrefixOf e.1 with
  | false => simp
  | true =>
    rw [Bool.true_and]
    exact pre_trans (by rw [List.isPrefixOf_iff_prefix]; exact List.prefix_append _ _) h
theorem sorted_filter {l : List Ent} (h : Sorted l) (p : Ent → Bool) : Sorted (l.filter p) := List.Pairwise.filter p h
theorem sorted_next {l : List Ent} (h : Sorted l) {i j : Nat} (hj : j < l.length) (hi : i < j) : Op.bytesLess (l[i]'(by omega)).1 l[j].1 = true := List.pairwise_iff_getElem.1 h i j (by omega) hj hi

set_option maxRecDepth 100000 in
set_option maxHeartbeats 3200000 in
theorem walk_DictPrefixes (v : Value) (l : List Ent) (s : ByteArray) (c0 : Int) (w : World) (hv : Ents w v l) (hz : ∀ e ∈ l, e.1.length ≤ maxLen ∧ e.2.length ≤ maxLen) (hn : l.length ≤ maxLen)
    (hs : s.size ≤ maxLen) (hc0 : (Lit.int .u8 c0).wf = true) :
    Calls Try.prog 5 #[v, .string s, .int .u8 c0] w fun e w' => e = .returned (.bool true) ∧ Below w.heap.size w w' := by
  unfold maxLen at hz hn hs
  have hc0 := bounds_u8 hc0
  have Hz := Lib.hid hz
  have Hv := Lib.hid hv
  clear hz hv
  obtain ⟨cu, hcu⟩ : ∃ u : UInt8, c0 = ((u.toNat : Nat) : Int) := ⟨UInt8.ofNat c0.toNat, by rw [UInt8.toNat_ofNat']; omega⟩
  subst hcu
  cases hok : asOk l with
  | false =>
    go_enter Try.func5, Try.ntmps5
    go_wp2_with fail
    refine (shown13 w).mono ?_
    rintro e w1 ⟨rfl, b1⟩
    have B1 := Lib.hid b1
    clear b1
    go_wp2_with fail
    refine (law_as v l (by omega) Hz.out _ (Hv.out.below B1.out)).mono ?_
    rintro e w2 ⟨b2, h2⟩
    unfold AsPost at h2
    rw [hok, if_neg (by simp)] at h2
    subst h2
    have B2 := Lib.hid (step_call B1.out b2)
    clear b2 hok
    go_wp2_with fail
    refine (dict_Right v l _ (Hv.out.below B2.out) (by omega) Hz.out).mono ?_
    rintro e w3 ⟨rfl, b3⟩
    have B3 := Lib.hid (step_call B2.out b3)
    clear b3
    go_wp2
    go_ret
    exact ⟨rfl, B3.out⟩
  | true =>
    have hl3 := asOk_len hok
    obtain ⟨oa, c, rfl⟩ : ∃ oa c, v = .slice oa l.length c := by
      rcases Hv.out with ⟨a, cap, rfl, h⟩ | ⟨b, off, cap, rfl, _⟩
      · exact ⟨a, cap, by rw [h]; rfl⟩
      · exact ⟨_, _, rfl⟩
    go_enter Try.func5, Try.ntmps5
    go_wp2_with fail
    refine (shown13 w).mono ?_
    rintro e w1 ⟨rfl, b1⟩
    have B1 := Lib.hid b1
    clear b1
    go_wp2_with fail
    refine (law_as _ l (by omega) Hz.out _ (Hv.out.below B1.out)).mono ?_
    rintro e w2 ⟨b2, h2⟩
    unfold AsPost at h2
    rw [hok, if_pos rfl] at h2
    obtain ⟨v', rfl, hv'⟩ := h2
    have B2 := Lib.hid (step_call B1.out b2)
    clear b2 hok hv'
    go_wp2_with fail
    refine (dict_Right _ l _ (Hv.out.below B2.out) (by omega) Hz.out).mono ?_
    rintro e w3 ⟨rfl, b3⟩
    have B3 := Lib.hid (step_call B2.out b3)
    clear b3
    cases hr : right l with
    | false =>
      clear hr
      go_wp2
      go_ret
      exact ⟨rfl, B3.out⟩
    | true =>
      by_cases h2 : 100 < s.size
      · clear hr
        go_wp2
        go_ret
        exact ⟨rfl, B3.out⟩
      have Hpk := Lib.hid (dict_Pack_right _ l _ (Hv.out.below B3.out) hr)
      have Hpre := Lib.hid (dict_Prefix_at l hr hl3)
      have Hsort := Lib.hid (right_sorted hr)
      have Hsm := Lib.hid (right_small hr).1
      clear hr
      go_wp2_with fail
      refine Hpk.out.mono ?_
      rintro e w4 ⟨rfl, b4⟩
      have B4 := Lib.hid (step_call B3.out b4)
      clear b4
      generalize B (bytesL l) = bs at *
      go_wp2_with fail
      refine (Hpre.out s _).mono ?_
      rintro e w5 ⟨b5, va, rfl, hva⟩
      have B5 := Lib.hid (step_call B4.out b5)
      have Va5 := Lib.hid hva
      obtain ⟨oa5, cc5, rfl⟩ : ∃ oa c, va = .slice oa (l.filter (fun e => (L s).isPrefixOf e.1)).length c := by
        rcases hva with ⟨a, cap, rfl, h⟩ | ⟨b, off, cap, rfl, _⟩
        · exact ⟨a, cap, by rw [h]; rfl⟩
        · exact ⟨_, _, rfl⟩
      clear b5 hva
      have hcv := fun (w : World) => run_bytes_of_string (P := Try.prog) w 9 39 5 s Try.underlying9 Try.underlying39 Try.underlying5
      go_wp2_with (at_builtin; go_must (refine wpList_append_byte _ rfl _ _ rfl s w5 (by omega) rfl ?hg ⟨w5.heap.size + 1, 0, none⟩ 1 cu rfl ?hu ?_))
      case hg => exact (heap_alloc_old _ _ (by simp)).trans (heap_alloc_new _ _)
      case hu =>
        show (World.alloc (World.alloc w5 _) _).cell? _ = _
        rw [Lib.cell_of_heap (heap_alloc2_new _ _ _)]; rfl
      intro g' cap' w6 hrow hgrow
      have Bw := (step_new (step_new (Below.refl w5.heap.size w5) _) _).drew.grown hgrow (by simp; try omega) (fun q hq => by
        simp only [Option.some.injEq] at hq
        omega)
      have Va6x := Lib.hid (Va5.out.below Bw)
      have B6 := Lib.hid (step_call B5.out Bw)
      have hconv := hrow.conv cap'
      rw [show (L s ++ [cu]).length = s.size + 1 by rw [List.length_append, length_L, List.length_singleton]] at hconv
      have Hlg := Lib.hid (Hpre.out (B (L s ++ [cu])))
      rw [L_B, ← filter_longer l (L s) cu] at Hlg
      have HsA := Lib.hid (sorted_filter Hsort.out (fun e => (L s).isPrefixOf e.1))
      have HmA : Hid (∀ e ∈ l.filter (fun e => (L s).isPrefixOf e.1), small e ∧ (L s).isPrefixOf e.1 = true) := Lib.hid (fun e he => by
        obtain ⟨h1, h2⟩ := List.mem_filter.1 he
        exact ⟨Hsm.out e h1, h2⟩)
      have hAl : (l.filter (fun e => (L s).isPrefixOf e.1)).length ≤ 300 := Nat.le_trans (List.length_filter_le _ _) hl3
      have hlgz : (B (L s ++ [cu])).size ≤ 200 := by rw [size_B, List.length_append, length_L, List.length_singleton]; omega
      have Hem := Lib.hid (Hpre.out ⟨#[]⟩)
      rw [show (l.filter (fun e => (L ⟨#[]⟩).isPrefixOf e.1)) = l from List.filter_eq_self.2 (fun e _ => by show ([] : List UInt8).isPrefixOf e.1 = true; simp)] at Hem
      generalize l.filter (fun e => (L s).isPrefixOf e.1) = A at *
      generalize hlg : L s ++ [cu] = lg at *
      have HBl := Lib.hid hlg
      clear hlg hrow hgrow
      have Va6 : Hid (Ents w6 (.slice oa5 A.length cc5) A) := Lib.hid (Va6x.out)
      clear Bw
      go_wp2_with fail
      refine (Hlg.out _).mono ?_
      rintro e w7 ⟨b7, vb, rfl, hvb⟩
      have B7 := Lib.hid (step_call B6.out b7)
      have Va7 := Lib.hid (Va6.out.below b7)
      have Vb7 := Lib.hid hvb
      obtain ⟨oa7, cc7, rfl⟩ : ∃ oa c, vb = .slice oa (A.filter (fun e => lg.isPrefixOf e.1)).length c := by
        rcases hvb with ⟨a, cap, rfl, h⟩ | ⟨b, off, cap, rfl, _⟩
        · exact ⟨a, cap, by rw [h]; rfl⟩
        · exact ⟨_, _, rfl⟩
      clear b7 hvb hconv
      generalize hpl : (A.filter (fun e => lg.isPrefixOf e.1)).length = np at *
      have Hpl := Lib.hid hpl
      clear hpl
      go_wp2
      go_loopw [16, 17] (fun k i wr => ∃ (j kk : Nat) (isb : Bool), j ≤ A.length ∧ i = .int .i64 j ∧ k = .int .i64 kk ∧ kk ≤ j ∧ FindRel A lg j kk isb ∧ Below w7.heap.size w7 wr) (fun _ i _ => A.length - (intOf i).toNat)
      case atStart => exact ⟨0, 0, false, by omega, rfl, rfl, by omega, by simp [FindRel], Below.refl _ _⟩
      case round =>
        obtain ⟨j, kk, isb, hj, rfl, rfl, hkj, hrel1, hbel⟩ := hrel
        by_cases hlt : j < A.length
        · obtain ⟨b, off, cap, h0, hbl, hcell⟩ := ents_row Va7.out (by omega)
          simp only [Value.slice.injEq] at h0
          obtain ⟨rfl, _, rfl⟩ := h0
          obtain ⟨c1, c2⟩ := hcell j hlt
          have c1 := cell_below hbel hbl c1
          have c2 := cell_below hbel hbl c2
          have Hprev : Hid (0 < j → ∃ (jp : Nat) (y : List UInt8), jp + 1 = j ∧ wr.cell? ⟨b, off + jp * 2, none⟩ = some (.string (B y)) ∧ Op.bytesLess y A[j].1 = true) := Lib.hid (fun h0 => by
            have hp : j - 1 < A.length := by omega
            exact ⟨j - 1, A[j - 1].1, by omega, cell_below hbel hbl (hcell (j - 1) hp).1, sorted_next HsA.out hlt (by omega)⟩)
          have Hnext := Lib.hid (hrel1.next hlt)
          obtain ⟨hsmj, hpre⟩ := HmA.out A[j] (List.getElem_mem hlt)
          have Hfa := Lib.hid (fun hp => hrel1.cells hlt Vb7.out hp)
          rw [Hpl.out] at Hfa
          have Hbel := Lib.hid hbel
          clear hrel1 hcell
          generalize A[j] = e at *
          obtain ⟨x, y⟩ := e
          unfold small at hsmj
          simp only at c1 c2 hsmj Hnext hpre Hprev
          have hj1 : (j : Int) < (A.length : Int) := by omega
          have hx := size_B x
          have Hbg : Hid (∀ w, Calls Try.prog 18 #[.string (B x), .string s] w fun e w' => e = .returned (.bool true) ∧ w = w') := Lib.hid (by
            intro w
            have := law_begins (B x) s (by omega) (by omega) w
            rw [L_B, hpre] at this
            exact this)
          have Hbg2 : Hid (∀ w, Calls Try.prog 18 #[.string (B x), .string (B lg)] w fun e w' => e = .returned (.bool (lg.isPrefixOf x)) ∧ w = w') := Lib.hid (fun w => law_begins (B x) (B lg) (by omega) (by omega) w)
          have Hcell : Hid (lg.isPrefixOf x = true → ∃ b2 off2 cap2, oa7 = some ⟨b2, off2, none⟩ ∧ kk < np ∧ wr.cell? ⟨b2, off2 + kk * 2, none⟩ = some (.string (B x)) ∧ wr.cell? ⟨b2, off2 + kk * 2 + 1, none⟩ = some (.string (B y)) ∧ cap2 = cc7) := Lib.hid (fun hp => by
            obtain ⟨b2, off2, cap2, h0, hbl2, hk1, c3, c4⟩ := Hfa.out hp
            simp only [Value.slice.injEq] at h0
            exact ⟨b2, off2, cap2, h0.1, hk1, cell_below hbel hbl2 c3, cell_below hbel hbl2 c4, h0.2.2.symm⟩)
          clear Hfa hbel hpre
          by_cases hj0 : 0 < j
          · obtain ⟨jp, yp, hjp, cp, hless⟩ := Hprev.out hj0
            have l1 : Op.bytesLess (B yp).toList (B x).toList = true := by rw [toList_B, toList_B]; exact hless
            have l2 : Op.bytesLess (B x).toList (B yp).toList = false := by rw [toList_B, toList_B]; exact less_asymm _ _ hless
            have l3 : ((B yp).toList == (B x).toList) = false := by
              rw [toList_B, toList_B, beq_eq_false_iff_ne]
              rintro rfl
              rw [less_irrefl] at hless; cases hless
            have hw1 : IntKind.i64.wrap ((j : Int) - 1) = (jp : Int) := by rw [IntWalk.i64_in _ (by omega)]; omega
            have hjp1 : (jp : Int) < (A.length : Int) := by omega
            have hj01 : decide ((0 : Int) < (j : Int)) = true := by rw [decide_eq_true_eq]; omega
            clear hless
            go_wp2_with fail
            refine (Hbg.out _).mono ?_
            rintro e w8 ⟨rfl, rfl⟩
            go_wp2
            go_quiet (fail)
            cases hp : lg.isPrefixOf x with
            | true =>
              obtain ⟨b2, off2, cap2, rfl, hk1, c3, c4, rfl⟩ := Hcell.out hp
              have hk2 : (kk : Int) < (np : Int) := by omega
              rw [hp, if_pos rfl] at Hnext
              rw [hp] at Hbg2
              clear hp
              go_wp2_with fail
              refine (Hbg2.out _).mono ?_
              rintro e w8 ⟨rfl, rfl⟩
              have e1 : ((B x).toList != (B x).toList) = false := by simp
              have e2 : ((B y).toList != (B y).toList) = false := by simp
              have e3 : ((B x).toList == (B x).toList) = true := by simp
              have e4 : ((B y).toList == (B y).toList) = true := by simp
              go_wp2
              go_quiet (fail)
              go_wp2
              go_roundw
              case rel => exact ⟨j + 1, kk + 1, _, by omega, by go_num, by go_num, by omega, Hnext.out, below_drewN Hbel.out _⟩
              case measure => simp [intOf]; omega
            | false =>
              rw [hp, if_neg (by simp), Nat.add_zero] at Hnext
              rw [hp] at Hbg2
              clear hp
              go_wp2_with fail
              refine (Hbg2.out _).mono ?_
              rintro e w8 ⟨rfl, rfl⟩
              go_wp2
              go_roundw
              case rel => exact ⟨j + 1, kk, _, by omega, by go_num, rfl, by omega, Hnext.out, below_drewN Hbel.out _⟩
              case measure => simp [intOf]; omega
          · have hj01 : decide ((0 : Int) < (j : Int)) = false := by rw [decide_eq_false_iff_not]; omega
            go_wp2_with fail
            refine (Hbg.out _).mono ?_
            rintro e w8 ⟨rfl, rfl⟩
            go_wp2
            go_quiet (fail)
            cases hp : lg.isPrefixOf x with
            | true =>
              obtain ⟨b2, off2, cap2, rfl, hk1, c3, c4, rfl⟩ := Hcell.out hp
              have hk2 : (kk : Int) < (np : Int) := by omega
              rw [hp, if_pos rfl] at Hnext
              rw [hp] at Hbg2
              clear hp
              go_wp2_with fail
              refine (Hbg2.out _).mono ?_
              rintro e w8 ⟨rfl, rfl⟩
              have e1 : ((B x).toList != (B x).toList) = false := by simp
              have e2 : ((B y).toList != (B y).toList) = false := by simp
              have e3 : ((B x).toList == (B x).toList) = true := by simp
              have e4 : ((B y).toList == (B y).toList) = true := by simp
              go_wp2
              go_quiet (fail)
              go_wp2
              go_roundw
              case rel => exact ⟨j + 1, kk + 1, _, by omega, by go_num, by go_num, by omega, Hnext.out, below_drewN Hbel.out _⟩
              case measure => simp [intOf]; omega
            | false =>
              rw [hp, if_neg (by simp), Nat.add_zero] at Hnext
              rw [hp] at Hbg2
              clear hp
              go_wp2_with fail
              refine (Hbg2.out _).mono ?_
              rintro e w8 ⟨rfl, rfl⟩
              go_wp2
              go_roundw
              case rel => exact ⟨j + 1, kk, _, by omega, by go_num, rfl, by omega, Hnext.out, below_drewN Hbel.out _⟩
              case measure => simp [intOf]; omega
        · obtain rfl : j = A.length := by omega
          obtain ⟨h1, _⟩ := hrel1.stop
          rw [Hpl.out] at h1
          subst h1
          have hk : ((kk : Int) == (kk : Int)) = true := by simp
          have hk2 : ((l.length : Int) == (l.length : Int)) = true := by simp
          clear hrel1
          go_wp2_with fail
          refine (Hem.out _).mono ?_
          rintro e w8 ⟨b8, ve, rfl, hve⟩
          obtain ⟨oa8, cc8, rfl⟩ : ∃ oa c, ve = .slice oa l.length c := by
            rcases hve with ⟨a, cap, rfl, h⟩ | ⟨b, off, cap, rfl, _⟩
            · exact ⟨a, cap, by rw [h]; rfl⟩
            · exact ⟨_, _, rfl⟩
          have B8 := Lib.hid (step_call B7.out (step_call hbel b8))
          clear hve b8
          go_wp2
          go_ret
          exact ⟨rfl, B8.out⟩
end Go.Proofs.Ytefnddhondbjbaa
