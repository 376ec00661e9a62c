/- Chapter 17: codexref17.Terms. Conditions: a short query that is not too large. -/
import Derived.Test.YtlfhgmclnapmjaaGreatDoorQryWi
namespace Go.Proofs.YtlfhgmclnapmjaaGreatDoor
open Go.RowKit Go.Utf Go.Qry Go.Lib
attribute [local go_sem] Oper.semAt_some

theorem SetOf.step {o o' xs : List Tx} {t : Tx} (h : SetOf o xs) (h1 : o'.Pairwise (· < ·)) (h2 : ∀ x, x ∈ o' ↔ x ∈ o ∨ x = t) (h3 : o'.length ≤ o.length + 1) : SetOf o' (xs ++ [t]) := by
  refine ⟨h1, fun x => ?_, ?_⟩
  · rw [h2, h.2.1]; simp
  · have := h.2.2
    rw [List.length_append, List.length_singleton]; omega
theorem SetOf.is_terms {o : List Tx} {q : Qy} (h : SetOf o (ownT q ++ kidsT q.kids)) : o = termsQ q := by
  rw [terms_kids]
  exact (canon_is h.1 h.2.1).symm
theorem kidsT_snoc (l : List Qy) (b : Nat) (h : b < l.length) : kidsT (l.take (b + 1)) = kidsT (l.take b) ++ termsQ l[b] := by
  unfold kidsT
  rw [List.take_succ_eq_append_getElem h, List.flatMap_append]
  simp
theorem kids_len (q : Qy) (hs : shortB q = true) (b : Nat) : (ownT q ++ kidsT (q.kids.take b)).length ≤ 1000000 * cnt q := by
  have h1 := own_len hs
  have h2 := kidsT_len (q.kids.take b) (fun k hk => short_kid hs (List.mem_of_mem_take hk))
  have h3 := cntL_take q.kids b
  have h4 := cnt_kids q
  rw [List.length_append]
  omega
def TRef (m : Nat) : Prop := ∀ (q : Qy) (vm vs vn : Value) (w : World), QVal w m q vm vs vn → shortB q = true → cnt q ≤ 100000 → Calls Tryz.prog 15 #[qV q vm vs vn] w fun e w' => ∃ v, e = .returned v ∧ Below w.heap.size w w' ∧ w'.ownsRow w.heap.size 9 1 v (termsQ q).length (txtCells (termsQ q))
set_option maxRecDepth 100000 in
set_option maxHeartbeats 6400000 in
theorem ref17_Terms (n : Nat) : TRef n := by
  induction n using Nat.strongRecOn with
  | _ n ih =>
    intro q vm vs vn w h hs hc
    have IH := Lib.hid ih
    have ht := short_text hs
    have HP := Lib.hid (fun (w' : World) => ref17_Phrase q.text (by omega) w')
    have HK := Lib.hid (fun (w' : World) (hb : Below w.heap.size w w') => ref17_kids n q vm vs vn w' (h.below hb) hc)
    have Hlen := Lib.hid (fun b => kids_len q hs b)
    have Hsn := Lib.hid (kidsT_snoc q.kids)
    have Hkd := Lib.hid (show ∀ k ∈ q.kids, shortB k = true ∧ cnt k ≤ 100000 ∧ (termsQ k).length ≤ 1000000 * 100000 from fun k hk => by
      have h1 := cnt_mem hk
      have h3 := cnt_kids q
      have h4 := terms_len (short_kid hs hk)
      exact ⟨short_kid hs hk, by omega, by omega⟩)
    have hpl := phrase_len q.text (by omega)
    have b0 := step_new (Below.refl w.heap.size w) (.cells #[.int .i64 q.kind, .string (B q.text), vm, vs, vn] 24)
    have Hb0 := Lib.hid b0
    obtain ⟨a0, a1, a2, a3, a4⟩ := boxedQ w q vm vs vn 24
    have A0 := Lib.hid a0
    have A1 := Lib.hid a1
    have A2 := Lib.hid a2
    have A3 := Lib.hid a3
    have A4 := Lib.hid a4
    have Hk2 : Hid (q.kind = 2 → ownT q = ((phraseL q.text).take 1).map Prod.fst) := Lib.hid (fun h => by unfold ownT; rw [if_pos h])
    have Hk3 : Hid (q.kind = 3 → ownT q = (phraseL q.text).map Prod.fst) := Lib.hid (fun h => by unfold ownT; rw [if_neg (by omega), if_pos h])
    have Hk0 : Hid (q.kind ≠ 2 → q.kind ≠ 3 → ownT q = []) := Lib.hid (fun h1 h2 => by unfold ownT; rw [if_neg h1, if_neg h2])
    have Hend : Hid (∀ o : List Tx, SetOf o (ownT q ++ kidsT q.kids) → o = termsQ q) := Lib.hid (fun o h => h.is_terms)
    unfold qV at HK
    show Calls Tryz.prog 15 #[.agg #[.int .i64 q.kind, .string (B q.text), vm, vs, vn]] w _
    clear ih h hs b0 ht a0 a1 a2 a3 a4
    generalize hK : q.kind = K at *
    clear hK
    generalize q.kids = ks at *
    generalize termsQ q = tq at *
    rcases (show K = 2 ∨ K = 3 ∨ (K ≠ 2 ∧ K ≠ 3) by omega) with rfl | rfl | ⟨k2, k3⟩
    · have Hown := Lib.hid (Hk2.out rfl)
      go_enter Tryz.func15, Tryz.ntmps15
      have a0 := A0.out
      have a1 := A1.out
      go_wp2_with fail
      refine (HP.out _).mono ?_
      rintro e w2 ⟨v, rfl, hb2, hown⟩
      have B2 := Lib.hid (step_call Hb0.out hb2)
      have A0 := Lib.hid (cell_call hb2 A0.out)
      have A1 := Lib.hid (cell_call hb2 A1.out)
      have A2 := Lib.hid (cell_call hb2 A2.out)
      have A3 := Lib.hid (cell_call hb2 A3.out)
      have A4 := Lib.hid (cell_call hb2 A4.out)
      clear a0 a1 hb2 Hb0 HP
      obtain ⟨oa, oc, e, hcells⟩ := own_toks hown
      subst e
      generalize phraseL q.text = pl at *
      have Hcells := Lib.hid hcells
      clear hown hcells
      go_wp2
      go_loopw [6, 3] (fun x6 x3 wr => ∃ (k : Nat) (o : List Tx), k ≤ min 1 pl.length ∧ x6 = .int .i64 k ∧ SetOf o ((pl.take k).map Prod.fst) ∧ wr.ownsRow w.heap.size 9 1 x3 o.length (txtCells o) ∧ Below w2.heap.size w2 wr) (fun x6 _ _ => min 1 pl.length - (intOf x6).toNat)
      case atStart => exact ⟨0, [], by omega, rfl, SetOf.nil, World.ownsRow_nil _ _ _ _, Below.refl _ _⟩
      case round =>
        obtain ⟨k, o, hk, rfl, hset, hown, hbel⟩ := hrel
        obtain ⟨la, lc, rfl⟩ := own_form hown
        have Hset := Lib.hid hset
        have hol : o.length ≤ 1000000 := by have := hset.2.2; rw [List.length_map, List.length_take] at this; omega
        have a0 := cell_call hbel A0.out
        clear hset
        by_cases h1 : k < min 1 pl.length
        · have h1l : k < pl.length := by omega
          obtain ⟨b, off, rfl, hb, k1, k2⟩ := Hcells.out k h1l
          have k1 := cell_below hbel hb k1
          have hki : (k : Int) < (pl.length : Int) := by omega
          have Hnext : Hid ((pl.take (k + 1)).map Prod.fst = (pl.take k).map Prod.fst ++ [pl[k].1]) := Lib.hid (by rw [List.take_succ_eq_append_getElem h1l, List.map_append]; rfl)
          have hbw := B2.out.trans (hbel.mono B2.out.size)
          have HW := Lib.hid (fun (t : Tx) => ref17_With o t (.slice la o.length lc) w.heap.size wr Hset.out.1 (by omega) hown hbw.size)
          have Hbel := Lib.hid hbel
          generalize pl[k].1 = tt at k1 Hnext
          clear hbel hown k2 hbw
          have hk0 : k = 0 := by omega
          have hk0i : ((k : Int) == 0) = true := by simp [hk0]
          clear hk0
          go_wp2_with fail
          refine (HW.out tt).mono ?_
          rintro e w3 ⟨v3, o3, rfl, hb3, s1, s2, s3, ho3⟩
          have Ho3 := Lib.hid ho3
          have Hset3 := Lib.hid (Hset.out.step s1 s2 s3)
          have HB3 := Lib.hid (step_call Hbel.out hb3)
          clear ho3 s1 s2 s3 hb3 a0 k1
          go_wp2
          go_roundw
          case rel => exact ⟨k + 1, o3, by omega, by go_num, by rw [Hnext.out]; exact Hset3.out, Ho3.out, HB3.out⟩
          case measure => simp [intOf]; omega
        · obtain rfl : k = min 1 pl.length := by omega
          have e1 : (pl.take (min 1 pl.length)).map Prod.fst = (pl.take 1).map Prod.fst := by
            congr 1
            rcases Nat.eq_zero_or_pos pl.length with h | h
            · rw [List.eq_nil_of_length_eq_zero h]; rfl
            · rw [show min 1 pl.length = 1 by omega]
          rw [e1, ← Hown.out] at Hset
          have HsetO := Hset
          have hb3 := B2.out.trans (hbel.mono B2.out.size)
          have B3 := Lib.hid hb3
          have A0 := Lib.hid (cell_call hbel A0.out)
          have A1 := Lib.hid (cell_call hbel A1.out)
          have A2 := Lib.hid (cell_call hbel A2.out)
          have A3 := Lib.hid (cell_call hbel A3.out)
          have A4 := Lib.hid (cell_call hbel A4.out)
          have Hrow := Lib.hid hown
          clear hown hb3 hbel
          have a0 := A0.out
          by_cases hp : pl.length = 0
          · have hp1 : min 1 pl.length = 0 := by omega
            have hki : ¬ ((0 : Int) < (pl.length : Int)) := by omega
            rw [hp1]
            have a1 := A1.out
            have a2 := A2.out
            have a3 := A3.out
            have a4 := A4.out
            go_wp2_with fail
            refine (HK.out _ B3.out).mono ?_
            rintro e w5 ⟨vk, rfl, hqk, hb5⟩
            have B5 := Lib.hid (step_call B3.out hb5)
            have Hrow5 := Lib.hid (own_below Hrow.out hb5)
            obtain ⟨ok, ck, rfl, hlk, hck⟩ := hqk.form
            have Hck := Lib.hid hck
            clear a0 a1 a2 a3 a4 hb5 A0 A1 A2 A3 A4 Hrow B3 HK hqk hck
            go_wp2
            go_loopw [8, 3] (fun x8 x3 wr => ∃ (b : Nat) (o : List Tx), b ≤ ks.length ∧ x8 = .int .i64 b ∧ SetOf o (ownT q ++ kidsT (ks.take b)) ∧ wr.ownsRow w.heap.size 9 1 x3 o.length (txtCells o) ∧ Below w5.heap.size w5 wr) (fun x8 _ _ => ks.length - (intOf x8).toNat)
            case atStart => exact ⟨0, _, by omega, rfl, by rw [List.take_zero]; show SetOf _ (ownT q ++ []); rw [List.append_nil]; exact HsetO.out, Hrow5.out, Below.refl _ _⟩
            case round =>
              obtain ⟨b, o, hb, rfl, hset, hown, hbel⟩ := hrel
              obtain ⟨la, lc, rfl⟩ := own_form hown
              have Hset := Lib.hid hset
              have Ho := Lib.hid hown
              by_cases hlt : b < ks.length
              · obtain ⟨bb, off, k, um, us, un, hnk, rfl, hbb, hcc, c0, c1, c2, c3, c4, hv⟩ := Hck.out b hlt
                have c0 := cell_below hbel hbb c0
                have c1 := cell_below hbel hbb c1
                have c2 := cell_below hbel hbb c2
                have c3 := cell_below hbel hbb c3
                have c4 := cell_below hbel hbb c4
                have hki : (b : Int) < (ks.length : Int) := by omega
                have Hsb := Lib.hid (Hsn.out b hlt)
                obtain ⟨hsk, hck, hlk2⟩ := Hkd.out ks[b] (List.getElem_mem hlt)
                have hacc := Hlen.out b
                have hol := hset.2.2
                have Hv := Lib.hid (hv.below hbel)
                have Hbel := Lib.hid hbel
                clear hset hown hbel hv
                generalize ks[b] = u at *
                have HC := Lib.hid (fun (w' : World) (hb : Below wr.heap.size wr w') => IH.out k (by omega) u _ _ _ w' (Hv.out.below hb) hsk hck)
                unfold qV at HC
                clear hsk hck
                generalize termsQ u = tu at *
                generalize hkt : kidsT (ks.take (b + 1)) = kt1 at *
                have Hkt := Lib.hid hkt
                clear hkt
                generalize kidsT (ks.take b) = kt at *
                go_wp2_with fail
                refine (HC.out _ (Below.refl _ _)).mono ?_
                rintro e w6 ⟨v6, rfl, hb6, ho6⟩
                obtain ⟨oa6, oc6, rfl, hc6⟩ := txt_row (own_row ho6)
                have Hc6 := Lib.hid hc6
                have B6 := Lib.hid (step_call Hbel.out hb6)
                have Ho6 := Lib.hid (own_below Ho.out hb6)
                clear ho6 hb6 hc6 c0 c1 c2 c3 c4
                go_wp2
                go_loopw [10, 3] (fun x10 x3 wr => ∃ (c : Nat) (o2 : List Tx), c ≤ tu.length ∧ x10 = .int .i64 c ∧ SetOf o2 (ownT q ++ kt ++ tu.take c) ∧ wr.ownsRow w.heap.size 9 1 x3 o2.length (txtCells o2) ∧ Below w6.heap.size w6 wr) (fun x10 _ _ => tu.length - (intOf x10).toNat)
                case atStart => exact ⟨0, o, by omega, rfl, by rw [List.take_zero, List.append_nil]; exact Hset.out, Ho6.out, Below.refl _ _⟩
                case round =>
                  obtain ⟨c, o2, hc, rfl, hset2, hown2, hbel2⟩ := hrel
                  obtain ⟨la2, lc2, rfl⟩ := own_form hown2
                  have Hset2 := Lib.hid hset2
                  have hol2 := hset2.2.2
                  rw [List.length_append, List.length_take] at hol2
                  clear hset2
                  by_cases hct : c < tu.length
                  · obtain ⟨b7, f7, rfl, hb7, hcap7, k7⟩ := Hc6.out c hct
                    have k7 := cell_below hbel2 hb7 k7
                    have hci : (c : Int) < (tu.length : Int) := by omega
                    have Hnext : Hid (tu.take (c + 1) = tu.take c ++ [tu[c]]) := Lib.hid (List.take_succ_eq_append_getElem hct)
                    have hbw := B5.out.trans ((B6.out.trans (hbel2.mono B6.out.size)).mono B5.out.size)
                    have HW := Lib.hid (fun (t : Tx) => ref17_With o2 t (.slice la2 o2.length lc2) w.heap.size wr Hset2.out.1 (by omega) hown2 hbw.size)
                    have Hbel2 := Lib.hid hbel2
                    generalize tu[c] = tt at k7 Hnext
                    clear hbel2 hown2 hbw
                    go_wp2_with fail
                    refine (HW.out tt).mono ?_
                    rintro e w8 ⟨v8, o8, rfl, hb8, s1, s2, s3, ho8⟩
                    have Ho8 := Lib.hid ho8
                    have Hset8 := Lib.hid (Hset2.out.step s1 s2 s3)
                    have HB8 := Lib.hid (step_call Hbel2.out hb8)
                    clear ho8 s1 s2 s3 hb8 k7
                    go_wp2
                    go_roundw
                    case rel => exact ⟨c + 1, o8, by omega, by go_num, by rw [Hnext.out, ← List.append_assoc]; exact Hset8.out, Ho8.out, HB8.out⟩
                    case measure => simp [intOf]; omega
                  · obtain rfl : c = tu.length := by omega
                    have HB9 := Lib.hid (step_call B6.out hbel2)
                    have Ho9 := Lib.hid hown2
                    rw [List.take_of_length_le (Nat.le_refl _)] at Hset2
                    clear hbel2 hown2
                    go_wp2
                    go_roundw
                    case rel => exact ⟨b + 1, o2, by omega, by go_num, by rw [Hkt.out, Hsb.out, ← List.append_assoc]; exact Hset2.out, Ho9.out, HB9.out⟩
                    case measure => simp [intOf]; omega
              · obtain rfl : b = ks.length := by omega
                rw [List.take_of_length_le (Nat.le_refl _)] at Hset
                obtain rfl := Hend.out _ Hset.out
                have HB := Lib.hid (step_call B5.out hbel)
                clear hown hbel hset
                go_wp2
                go_ret
                exact ⟨_, rfl, HB.out, Ho.out⟩
          · have hp1 : min 1 pl.length = 1 := by omega
            have hki : ((0 : Int) < (pl.length : Int)) := by omega
            rw [hp1]
            by_cases hp2 : pl.length = 1
            · have hki2 : ¬ ((1 : Int) < (pl.length : Int)) := by omega
              have a1 := A1.out
              have a2 := A2.out
              have a3 := A3.out
              have a4 := A4.out
              go_wp2_with fail
              refine (HK.out _ B3.out).mono ?_
              rintro e w5 ⟨vk, rfl, hqk, hb5⟩
              have B5 := Lib.hid (step_call B3.out hb5)
              have Hrow5 := Lib.hid (own_below Hrow.out hb5)
              obtain ⟨ok, ck, rfl, hlk, hck⟩ := hqk.form
              have Hck := Lib.hid hck
              clear a0 a1 a2 a3 a4 hb5 A0 A1 A2 A3 A4 Hrow B3 HK hqk hck
              go_wp2
              go_loopw [8, 3] (fun x8 x3 wr => ∃ (b : Nat) (o : List Tx), b ≤ ks.length ∧ x8 = .int .i64 b ∧ SetOf o (ownT q ++ kidsT (ks.take b)) ∧ wr.ownsRow w.heap.size 9 1 x3 o.length (txtCells o) ∧ Below w5.heap.size w5 wr) (fun x8 _ _ => ks.length - (intOf x8).toNat)
              case atStart => exact ⟨0, _, by omega, rfl, by rw [List.take_zero]; show SetOf _ (ownT q ++ []); rw [List.append_nil]; exact HsetO.out, Hrow5.out, Below.refl _ _⟩
              case round =>
                obtain ⟨b, o, hb, rfl, hset, hown, hbel⟩ := hrel
                obtain ⟨la, lc, rfl⟩ := own_form hown
                have Hset := Lib.hid hset
                have Ho := Lib.hid hown
                by_cases hlt : b < ks.length
                · obtain ⟨bb, off, k, um, us, un, hnk, rfl, hbb, hcc, c0, c1, c2, c3, c4, hv⟩ := Hck.out b hlt
                  have c0 := cell_below hbel hbb c0
                  have c1 := cell_below hbel hbb c1
                  have c2 := cell_below hbel hbb c2
                  have c3 := cell_below hbel hbb c3
                  have c4 := cell_below hbel hbb c4
                  have hki : (b : Int) < (ks.length : Int) := by omega
                  have Hsb := Lib.hid (Hsn.out b hlt)
                  obtain ⟨hsk, hck, hlk2⟩ := Hkd.out ks[b] (List.getElem_mem hlt)
                  have hacc := Hlen.out b
                  have hol := hset.2.2
                  have Hv := Lib.hid (hv.below hbel)
                  have Hbel := Lib.hid hbel
                  clear hset hown hbel hv
                  generalize ks[b] = u at *
                  have HC := Lib.hid (fun (w' : World) (hb : Below wr.heap.size wr w') => IH.out k (by omega) u _ _ _ w' (Hv.out.below hb) hsk hck)
                  unfold qV at HC
                  clear hsk hck
                  generalize termsQ u = tu at *
                  generalize hkt : kidsT (ks.take (b + 1)) = kt1 at *
                  have Hkt := Lib.hid hkt
                  clear hkt
                  generalize kidsT (ks.take b) = kt at *
                  go_wp2_with fail
                  refine (HC.out _ (Below.refl _ _)).mono ?_
                  rintro e w6 ⟨v6, rfl, hb6, ho6⟩
                  obtain ⟨oa6, oc6, rfl, hc6⟩ := txt_row (own_row ho6)
                  have Hc6 := Lib.hid hc6
                  have B6 := Lib.hid (step_call Hbel.out hb6)
                  have Ho6 := Lib.hid (own_below Ho.out hb6)
                  clear ho6 hb6 hc6 c0 c1 c2 c3 c4
                  go_wp2
                  go_loopw [10, 3] (fun x10 x3 wr => ∃ (c : Nat) (o2 : List Tx), c ≤ tu.length ∧ x10 = .int .i64 c ∧ SetOf o2 (ownT q ++ kt ++ tu.take c) ∧ wr.ownsRow w.heap.size 9 1 x3 o2.length (txtCells o2) ∧ Below w6.heap.size w6 wr) (fun x10 _ _ => tu.length - (intOf x10).toNat)
                  case atStart => exact ⟨0, o, by omega, rfl, by rw [List.take_zero, List.append_nil]; exact Hset.out, Ho6.out, Below.refl _ _⟩
                  case round =>
                    obtain ⟨c, o2, hc, rfl, hset2, hown2, hbel2⟩ := hrel
                    obtain ⟨la2, lc2, rfl⟩ := own_form hown2
                    have Hset2 := Lib.hid hset2
                    have hol2 := hset2.2.2
                    rw [List.length_append, List.length_take] at hol2
                    clear hset2
                    by_cases hct : c < tu.length
                    · obtain ⟨b7, f7, rfl, hb7, hcap7, k7⟩ := Hc6.out c hct
                      have k7 := cell_below hbel2 hb7 k7
                      have hci : (c : Int) < (tu.length : Int) := by omega
                      have Hnext : Hid (tu.take (c + 1) = tu.take c ++ [tu[c]]) := Lib.hid (List.take_succ_eq_append_getElem hct)
                      have hbw := B5.out.trans ((B6.out.trans (hbel2.mono B6.out.size)).mono B5.out.size)
                      have HW := Lib.hid (fun (t : Tx) => ref17_With o2 t (.slice la2 o2.length lc2) w.heap.size wr Hset2.out.1 (by omega) hown2 hbw.size)
                      have Hbel2 := Lib.hid hbel2
                      generalize tu[c] = tt at k7 Hnext
                      clear hbel2 hown2 hbw
                      go_wp2_with fail
                      refine (HW.out tt).mono ?_
                      rintro e w8 ⟨v8, o8, rfl, hb8, s1, s2, s3, ho8⟩
                      have Ho8 := Lib.hid ho8
                      have Hset8 := Lib.hid (Hset2.out.step s1 s2 s3)
                      have HB8 := Lib.hid (step_call Hbel2.out hb8)
                      clear ho8 s1 s2 s3 hb8 k7
                      go_wp2
                      go_roundw
                      case rel => exact ⟨c + 1, o8, by omega, by go_num, by rw [Hnext.out, ← List.append_assoc]; exact Hset8.out, Ho8.out, HB8.out⟩
                      case measure => simp [intOf]; omega
                    · obtain rfl : c = tu.length := by omega
                      have HB9 := Lib.hid (step_call B6.out hbel2)
                      have Ho9 := Lib.hid hown2
                      rw [List.take_of_length_le (Nat.le_refl _)] at Hset2
                      clear hbel2 hown2
                      go_wp2
                      go_roundw
                      case rel => exact ⟨b + 1, o2, by omega, by go_num, by rw [Hkt.out, Hsb.out, ← List.append_assoc]; exact Hset2.out, Ho9.out, HB9.out⟩
                      case measure => simp [intOf]; omega
                · obtain rfl : b = ks.length := by omega
                  rw [List.take_of_length_le (Nat.le_refl _)] at Hset
                  obtain rfl := Hend.out _ Hset.out
                  have HB := Lib.hid (step_call B5.out hbel)
                  clear hown hbel hset
                  go_wp2
                  go_ret
                  exact ⟨_, rfl, HB.out, Ho.out⟩
            · have hki2 : ((1 : Int) < (pl.length : Int)) := by omega
              have a1 := A1.out
              have a2 := A2.out
              have a3 := A3.out
              have a4 := A4.out
              go_wp2_with fail
              refine (HK.out _ B3.out).mono ?_
              rintro e w5 ⟨vk, rfl, hqk, hb5⟩
              have B5 := Lib.hid (step_call B3.out hb5)
              have Hrow5 := Lib.hid (own_below Hrow.out hb5)
              obtain ⟨ok, ck, rfl, hlk, hck⟩ := hqk.form
              have Hck := Lib.hid hck
              clear a0 a1 a2 a3 a4 hb5 A0 A1 A2 A3 A4 Hrow B3 HK hqk hck
              go_wp2
              go_loopw [8, 3] (fun x8 x3 wr => ∃ (b : Nat) (o : List Tx), b ≤ ks.length ∧ x8 = .int .i64 b ∧ SetOf o (ownT q ++ kidsT (ks.take b)) ∧ wr.ownsRow w.heap.size 9 1 x3 o.length (txtCells o) ∧ Below w5.heap.size w5 wr) (fun x8 _ _ => ks.length - (intOf x8).toNat)
              case atStart => exact ⟨0, _, by omega, rfl, by rw [List.take_zero]; show SetOf _ (ownT q ++ []); rw [List.append_nil]; exact HsetO.out, Hrow5.out, Below.refl _ _⟩
              case round =>
                obtain ⟨b, o, hb, rfl, hset, hown, hbel⟩ := hrel
                obtain ⟨la, lc, rfl⟩ := own_form hown
                have Hset := Lib.hid hset
                have Ho := Lib.hid hown
                by_cases hlt : b < ks.length
                · obtain ⟨bb, off, k, um, us, un, hnk, rfl, hbb, hcc, c0, c1, c2, c3, c4, hv⟩ := Hck.out b hlt
                  have c0 := cell_below hbel hbb c0
                  have c1 := cell_below hbel hbb c1
                  have c2 := cell_below hbel hbb c2
                  have c3 := cell_below hbel hbb c3
                  have c4 := cell_below hbel hbb c4
                  have hki : (b : Int) < (ks.length : Int) := by omega
                  have Hsb := Lib.hid (Hsn.out b hlt)
                  obtain ⟨hsk, hck, hlk2⟩ := Hkd.out ks[b] (List.getElem_mem hlt)
                  have hacc := Hlen.out b
                  have hol := hset.2.2
                  have Hv := Lib.hid (hv.below hbel)
                  have Hbel := Lib.hid hbel
                  clear hset hown hbel hv
                  generalize ks[b] = u at *
                  have HC := Lib.hid (fun (w' : World) (hb : Below wr.heap.size wr w') => IH.out k (by omega) u _ _ _ w' (Hv.out.below hb) hsk hck)
                  unfold qV at HC
                  clear hsk hck
                  generalize termsQ u = tu at *
                  generalize hkt : kidsT (ks.take (b + 1)) = kt1 at *
                  have Hkt := Lib.hid hkt
                  clear hkt
                  generalize kidsT (ks.take b) = kt at *
                  go_wp2_with fail
                  refine (HC.out _ (Below.refl _ _)).mono ?_
                  rintro e w6 ⟨v6, rfl, hb6, ho6⟩
                  obtain ⟨oa6, oc6, rfl, hc6⟩ := txt_row (own_row ho6)
                  have Hc6 := Lib.hid hc6
                  have B6 := Lib.hid (step_call Hbel.out hb6)
                  have Ho6 := Lib.hid (own_below Ho.out hb6)
                  clear ho6 hb6 hc6 c0 c1 c2 c3 c4
                  go_wp2
                  go_loopw [10, 3] (fun x10 x3 wr => ∃ (c : Nat) (o2 : List Tx), c ≤ tu.length ∧ x10 = .int .i64 c ∧ SetOf o2 (ownT q ++ kt ++ tu.take c) ∧ wr.ownsRow w.heap.size 9 1 x3 o2.length (txtCells o2) ∧ Below w6.heap.size w6 wr) (fun x10 _ _ => tu.length - (intOf x10).toNat)
                  case atStart => exact ⟨0, o, by omega, rfl, by rw [List.take_zero, List.append_nil]; exact Hset.out, Ho6.out, Below.refl _ _⟩
                  case round =>
                    obtain ⟨c, o2, hc, rfl, hset2, hown2, hbel2⟩ := hrel
                    obtain ⟨la2, lc2, rfl⟩ := own_form hown2
                    have Hset2 := Lib.hid hset2
                    have hol2 := hset2.2.2
                    rw [List.length_append, List.length_take] at hol2
                    clear hset2
                    by_cases hct : c < tu.length
                    · obtain ⟨b7, f7, rfl, hb7, hcap7, k7⟩ := Hc6.out c hct
                      have k7 := cell_below hbel2 hb7 k7
                      have hci : (c : Int) < (tu.length : Int) := by omega
                      have Hnext : Hid (tu.take (c + 1) = tu.take c ++ [tu[c]]) := Lib.hid (List.take_succ_eq_append_getElem hct)
                      have hbw := B5.out.trans ((B6.out.trans (hbel2.mono B6.out.size)).mono B5.out.size)
                      have HW := Lib.hid (fun (t : Tx) => ref17_With o2 t (.slice la2 o2.length lc2) w.heap.size wr Hset2.out.1 (by omega) hown2 hbw.size)
                      have Hbel2 := Lib.hid hbel2
                      generalize tu[c] = tt at k7 Hnext
                      clear hbel2 hown2 hbw
                      go_wp2_with fail
                      refine (HW.out tt).mono ?_
                      rintro e w8 ⟨v8, o8, rfl, hb8, s1, s2, s3, ho8⟩
                      have Ho8 := Lib.hid ho8
                      have Hset8 := Lib.hid (Hset2.out.step s1 s2 s3)
                      have HB8 := Lib.hid (step_call Hbel2.out hb8)
                      clear ho8 s1 s2 s3 hb8 k7
                      go_wp2
                      go_roundw
                      case rel => exact ⟨c + 1, o8, by omega, by go_num, by rw [Hnext.out, ← List.append_assoc]; exact Hset8.out, Ho8.out, HB8.out⟩
                      case measure => simp [intOf]; omega
                    · obtain rfl : c = tu.length := by omega
                      have HB9 := Lib.hid (step_call B6.out hbel2)
                      have Ho9 := Lib.hid hown2
                      rw [List.take_of_length_le (Nat.le_refl _)] at Hset2
                      clear hbel2 hown2
                      go_wp2
                      go_roundw
                      case rel => exact ⟨b + 1, o2, by omega, by go_num, by rw [Hkt.out, Hsb.out, ← List.append_assoc]; exact Hset2.out, Ho9.out, HB9.out⟩
                      case measure => simp [intOf]; omega
                · obtain rfl : b = ks.length := by omega
                  rw [List.take_of_length_le (Nat.le_refl _)] at Hset
                  obtain rfl := Hend.out _ Hset.out
                  have HB := Lib.hid (step_call B5.out hbel)
                  clear hown hbel hset
                  go_wp2
                  go_ret
                  exact ⟨_, rfl, HB.out, Ho.out⟩
    · have Hown := Lib.hid (Hk3.out rfl)
      go_enter Tryz.func15, Tryz.ntmps15
      have a0 := A0.out
      have a1 := A1.out
      go_wp2_with fail
      refine (HP.out _).mono ?_
      rintro e w2 ⟨v, rfl, hb2, hown⟩
      have B2 := Lib.hid (step_call Hb0.out hb2)
      have A0 := Lib.hid (cell_call hb2 A0.out)
      have A1 := Lib.hid (cell_call hb2 A1.out)
      have A2 := Lib.hid (cell_call hb2 A2.out)
      have A3 := Lib.hid (cell_call hb2 A3.out)
      have A4 := Lib.hid (cell_call hb2 A4.out)
      clear a0 a1 hb2 Hb0 HP
      obtain ⟨oa, oc, e, hcells⟩ := own_toks hown
      subst e
      generalize phraseL q.text = pl at *
      have Hcells := Lib.hid hcells
      clear hown hcells
      go_wp2
      go_loopw [6, 3] (fun x6 x3 wr => ∃ (k : Nat) (o : List Tx), k ≤ pl.length ∧ x6 = .int .i64 k ∧ SetOf o ((pl.take k).map Prod.fst) ∧ wr.ownsRow w.heap.size 9 1 x3 o.length (txtCells o) ∧ Below w2.heap.size w2 wr) (fun x6 _ _ => pl.length - (intOf x6).toNat)
      case atStart => exact ⟨0, [], by omega, rfl, SetOf.nil, World.ownsRow_nil _ _ _ _, Below.refl _ _⟩
      case round =>
        obtain ⟨k, o, hk, rfl, hset, hown, hbel⟩ := hrel
        obtain ⟨la, lc, rfl⟩ := own_form hown
        have Hset := Lib.hid hset
        have hol : o.length ≤ 1000000 := by have := hset.2.2; rw [List.length_map, List.length_take] at this; omega
        have a0 := cell_call hbel A0.out
        clear hset
        by_cases h1 : k < pl.length
        · have h1l : k < pl.length := by omega
          obtain ⟨b, off, rfl, hb, k1, k2⟩ := Hcells.out k h1l
          have k1 := cell_below hbel hb k1
          have hki : (k : Int) < (pl.length : Int) := by omega
          have Hnext : Hid ((pl.take (k + 1)).map Prod.fst = (pl.take k).map Prod.fst ++ [pl[k].1]) := Lib.hid (by rw [List.take_succ_eq_append_getElem h1l, List.map_append]; rfl)
          have hbw := B2.out.trans (hbel.mono B2.out.size)
          have HW := Lib.hid (fun (t : Tx) => ref17_With o t (.slice la o.length lc) w.heap.size wr Hset.out.1 (by omega) hown hbw.size)
          have Hbel := Lib.hid hbel
          generalize pl[k].1 = tt at k1 Hnext
          clear hbel hown k2 hbw
          by_cases hk0 : k = 0
          · have hk0i : ((k : Int) == 0) = true := by simp [hk0]
            clear hk0
            go_wp2_with fail
            refine (HW.out tt).mono ?_
            rintro e w3 ⟨v3, o3, rfl, hb3, s1, s2, s3, ho3⟩
            have Ho3 := Lib.hid ho3
            have Hset3 := Lib.hid (Hset.out.step s1 s2 s3)
            have HB3 := Lib.hid (step_call Hbel.out hb3)
            clear ho3 s1 s2 s3 hb3 a0 k1
            go_wp2
            go_roundw
            case rel => exact ⟨k + 1, o3, by omega, by go_num, by rw [Hnext.out]; exact Hset3.out, Ho3.out, HB3.out⟩
            case measure => simp [intOf]; omega
          · have hk0i : ((k : Int) == 0) = false := by rw [beq_eq_false_iff_ne]; omega
            clear hk0
            go_wp2_with fail
            refine (HW.out tt).mono ?_
            rintro e w3 ⟨v3, o3, rfl, hb3, s1, s2, s3, ho3⟩
            have Ho3 := Lib.hid ho3
            have Hset3 := Lib.hid (Hset.out.step s1 s2 s3)
            have HB3 := Lib.hid (step_call Hbel.out hb3)
            clear ho3 s1 s2 s3 hb3 a0 k1
            go_wp2
            go_roundw
            case rel => exact ⟨k + 1, o3, by omega, by go_num, by rw [Hnext.out]; exact Hset3.out, Ho3.out, HB3.out⟩
            case measure => simp [intOf]; omega
        · obtain rfl : k = pl.length := by omega
          rw [List.take_of_length_le (Nat.le_refl _), ← Hown.out] at Hset
          have HsetO := Hset
          have hb3 := B2.out.trans (hbel.mono B2.out.size)
          have B3 := Lib.hid hb3
          have A0 := Lib.hid (cell_call hbel A0.out)
          have A1 := Lib.hid (cell_call hbel A1.out)
          have A2 := Lib.hid (cell_call hbel A2.out)
          have A3 := Lib.hid (cell_call hbel A3.out)
          have A4 := Lib.hid (cell_call hbel A4.out)
          have Hrow := Lib.hid hown
          clear hown hb3 hbel
          have a0 := A0.out
          have a1 := A1.out
          have a2 := A2.out
          have a3 := A3.out
          have a4 := A4.out
          go_wp2_with fail
          refine (HK.out _ B3.out).mono ?_
          rintro e w5 ⟨vk, rfl, hqk, hb5⟩
          have B5 := Lib.hid (step_call B3.out hb5)
          have Hrow5 := Lib.hid (own_below Hrow.out hb5)
          obtain ⟨ok, ck, rfl, hlk, hck⟩ := hqk.form
          have Hck := Lib.hid hck
          clear a0 a1 a2 a3 a4 hb5 A0 A1 A2 A3 A4 Hrow B3 HK hqk hck
          go_wp2
          go_loopw [8, 3] (fun x8 x3 wr => ∃ (b : Nat) (o : List Tx), b ≤ ks.length ∧ x8 = .int .i64 b ∧ SetOf o (ownT q ++ kidsT (ks.take b)) ∧ wr.ownsRow w.heap.size 9 1 x3 o.length (txtCells o) ∧ Below w5.heap.size w5 wr) (fun x8 _ _ => ks.length - (intOf x8).toNat)
          case atStart => exact ⟨0, _, by omega, rfl, by rw [List.take_zero]; show SetOf _ (ownT q ++ []); rw [List.append_nil]; exact HsetO.out, Hrow5.out, Below.refl _ _⟩
          case round =>
            obtain ⟨b, o, hb, rfl, hset, hown, hbel⟩ := hrel
            obtain ⟨la, lc, rfl⟩ := own_form hown
            have Hset := Lib.hid hset
            have Ho := Lib.hid hown
            by_cases hlt : b < ks.length
            · obtain ⟨bb, off, k, um, us, un, hnk, rfl, hbb, hcc, c0, c1, c2, c3, c4, hv⟩ := Hck.out b hlt
              have c0 := cell_below hbel hbb c0
              have c1 := cell_below hbel hbb c1
              have c2 := cell_below hbel hbb c2
              have c3 := cell_below hbel hbb c3
              have c4 := cell_below hbel hbb c4
              have hki : (b : Int) < (ks.length : Int) := by omega
              have Hsb := Lib.hid (Hsn.out b hlt)
              obtain ⟨hsk, hck, hlk2⟩ := Hkd.out ks[b] (List.getElem_mem hlt)
              have hacc := Hlen.out b
              have hol := hset.2.2
              have Hv := Lib.hid (hv.below hbel)
              have Hbel := Lib.hid hbel
              clear hset hown hbel hv
              generalize ks[b] = u at *
              have HC := Lib.hid (fun (w' : World) (hb : Below wr.heap.size wr w') => IH.out k (by omega) u _ _ _ w' (Hv.out.below hb) hsk hck)
              unfold qV at HC
              clear hsk hck
              generalize termsQ u = tu at *
              generalize hkt : kidsT (ks.take (b + 1)) = kt1 at *
              have Hkt := Lib.hid hkt
              clear hkt
              generalize kidsT (ks.take b) = kt at *
              go_wp2_with fail
              refine (HC.out _ (Below.refl _ _)).mono ?_
              rintro e w6 ⟨v6, rfl, hb6, ho6⟩
              obtain ⟨oa6, oc6, rfl, hc6⟩ := txt_row (own_row ho6)
              have Hc6 := Lib.hid hc6
              have B6 := Lib.hid (step_call Hbel.out hb6)
              have Ho6 := Lib.hid (own_below Ho.out hb6)
              clear ho6 hb6 hc6 c0 c1 c2 c3 c4
              go_wp2
              go_loopw [10, 3] (fun x10 x3 wr => ∃ (c : Nat) (o2 : List Tx), c ≤ tu.length ∧ x10 = .int .i64 c ∧ SetOf o2 (ownT q ++ kt ++ tu.take c) ∧ wr.ownsRow w.heap.size 9 1 x3 o2.length (txtCells o2) ∧ Below w6.heap.size w6 wr) (fun x10 _ _ => tu.length - (intOf x10).toNat)
              case atStart => exact ⟨0, o, by omega, rfl, by rw [List.take_zero, List.append_nil]; exact Hset.out, Ho6.out, Below.refl _ _⟩
              case round =>
                obtain ⟨c, o2, hc, rfl, hset2, hown2, hbel2⟩ := hrel
                obtain ⟨la2, lc2, rfl⟩ := own_form hown2
                have Hset2 := Lib.hid hset2
                have hol2 := hset2.2.2
                rw [List.length_append, List.length_take] at hol2
                clear hset2
                by_cases hct : c < tu.length
                · obtain ⟨b7, f7, rfl, hb7, hcap7, k7⟩ := Hc6.out c hct
                  have k7 := cell_below hbel2 hb7 k7
                  have hci : (c : Int) < (tu.length : Int) := by omega
                  have Hnext : Hid (tu.take (c + 1) = tu.take c ++ [tu[c]]) := Lib.hid (List.take_succ_eq_append_getElem hct)
                  have hbw := B5.out.trans ((B6.out.trans (hbel2.mono B6.out.size)).mono B5.out.size)
                  have HW := Lib.hid (fun (t : Tx) => ref17_With o2 t (.slice la2 o2.length lc2) w.heap.size wr Hset2.out.1 (by omega) hown2 hbw.size)
                  have Hbel2 := Lib.hid hbel2
                  generalize tu[c] = tt at k7 Hnext
                  clear hbel2 hown2 hbw
                  go_wp2_with fail
                  refine (HW.out tt).mono ?_
                  rintro e w8 ⟨v8, o8, rfl, hb8, s1, s2, s3, ho8⟩
                  have Ho8 := Lib.hid ho8
                  have Hset8 := Lib.hid (Hset2.out.step s1 s2 s3)
                  have HB8 := Lib.hid (step_call Hbel2.out hb8)
                  clear ho8 s1 s2 s3 hb8 k7
                  go_wp2
                  go_roundw
                  case rel => exact ⟨c + 1, o8, by omega, by go_num, by rw [Hnext.out, ← List.append_assoc]; exact Hset8.out, Ho8.out, HB8.out⟩
                  case measure => simp [intOf]; omega
                · obtain rfl : c = tu.length := by omega
                  have HB9 := Lib.hid (step_call B6.out hbel2)
                  have Ho9 := Lib.hid hown2
                  rw [List.take_of_length_le (Nat.le_refl _)] at Hset2
                  clear hbel2 hown2
                  go_wp2
                  go_roundw
                  case rel => exact ⟨b + 1, o2, by omega, by go_num, by rw [Hkt.out, Hsb.out, ← List.append_assoc]; exact Hset2.out, Ho9.out, HB9.out⟩
                  case measure => simp [intOf]; omega
            · obtain rfl : b = ks.length := by omega
              rw [List.take_of_length_le (Nat.le_refl _)] at Hset
              obtain rfl := Hend.out _ Hset.out
              have HB := Lib.hid (step_call B5.out hbel)
              clear hown hbel hset
              go_wp2
              go_ret
              exact ⟨_, rfl, HB.out, Ho.out⟩
    · have Hown := Lib.hid (Hk0.out k2 k3)
      have q2 : (K == 2) = false := by rw [beq_eq_false_iff_ne]; omega
      have q3 : (K == 3) = false := by rw [beq_eq_false_iff_ne]; omega
      clear k2 k3 HP
      go_enter Tryz.func15, Tryz.ntmps15
      have a0 := A0.out
      have B3 := Hb0
      have HsetO : Hid (SetOf [] (ownT q)) := Lib.hid (by rw [Hown.out]; exact SetOf.nil)
      have Hrow : Hid ((w.alloc (.cells #[.int .i64 K, .string (B q.text), vm, vs, vn] 24)).ownsRow w.heap.size 9 1 (.slice none 0 0) ([] : List Tx).length (txtCells [])) := Lib.hid (World.ownsRow_nil _ _ _ _)
      have a1 := A1.out
      have a2 := A2.out
      have a3 := A3.out
      have a4 := A4.out
      go_wp2_with fail
      refine (HK.out _ B3.out).mono ?_
      rintro e w5 ⟨vk, rfl, hqk, hb5⟩
      have B5 := Lib.hid (step_call B3.out hb5)
      have Hrow5 := Lib.hid (own_below Hrow.out hb5)
      obtain ⟨ok, ck, rfl, hlk, hck⟩ := hqk.form
      have Hck := Lib.hid hck
      clear a0 a1 a2 a3 a4 hb5 A0 A1 A2 A3 A4 Hrow B3 HK hqk hck
      go_wp2
      go_loopw [8, 3] (fun x8 x3 wr => ∃ (b : Nat) (o : List Tx), b ≤ ks.length ∧ x8 = .int .i64 b ∧ SetOf o (ownT q ++ kidsT (ks.take b)) ∧ wr.ownsRow w.heap.size 9 1 x3 o.length (txtCells o) ∧ Below w5.heap.size w5 wr) (fun x8 _ _ => ks.length - (intOf x8).toNat)
      case atStart => exact ⟨0, _, by omega, rfl, by rw [List.take_zero]; show SetOf _ (ownT q ++ []); rw [List.append_nil]; exact HsetO.out, Hrow5.out, Below.refl _ _⟩
      case round =>
        obtain ⟨b, o, hb, rfl, hset, hown, hbel⟩ := hrel
        obtain ⟨la, lc, rfl⟩ := own_form hown
        have Hset := Lib.hid hset
        have Ho := Lib.hid hown
        by_cases hlt : b < ks.length
        · obtain ⟨bb, off, k, um, us, un, hnk, rfl, hbb, hcc, c0, c1, c2, c3, c4, hv⟩ := Hck.out b hlt
          have c0 := cell_below hbel hbb c0
          have c1 := cell_below hbel hbb c1
          have c2 := cell_below hbel hbb c2
          have c3 := cell_below hbel hbb c3
          have c4 := cell_below hbel hbb c4
          have hki : (b : Int) < (ks.length : Int) := by omega
          have Hsb := Lib.hid (Hsn.out b hlt)
          obtain ⟨hsk, hck, hlk2⟩ := Hkd.out ks[b] (List.getElem_mem hlt)
          have hacc := Hlen.out b
          have hol := hset.2.2
          have Hv := Lib.hid (hv.below hbel)
          have Hbel := Lib.hid hbel
          clear hset hown hbel hv
          generalize ks[b] = u at *
          have HC := Lib.hid (fun (w' : World) (hb : Below wr.heap.size wr w') => IH.out k (by omega) u _ _ _ w' (Hv.out.below hb) hsk hck)
          unfold qV at HC
          clear hsk hck
          generalize termsQ u = tu at *
          generalize hkt : kidsT (ks.take (b + 1)) = kt1 at *
          have Hkt := Lib.hid hkt
          clear hkt
          generalize kidsT (ks.take b) = kt at *
          go_wp2_with fail
          refine (HC.out _ (Below.refl _ _)).mono ?_
          rintro e w6 ⟨v6, rfl, hb6, ho6⟩
          obtain ⟨oa6, oc6, rfl, hc6⟩ := txt_row (own_row ho6)
          have Hc6 := Lib.hid hc6
          have B6 := Lib.hid (step_call Hbel.out hb6)
          have Ho6 := Lib.hid (own_below Ho.out hb6)
          clear ho6 hb6 hc6 c0 c1 c2 c3 c4
          go_wp2
          go_loopw [10, 3] (fun x10 x3 wr => ∃ (c : Nat) (o2 : List Tx), c ≤ tu.length ∧ x10 = .int .i64 c ∧ SetOf o2 (ownT q ++ kt ++ tu.take c) ∧ wr.ownsRow w.heap.size 9 1 x3 o2.length (txtCells o2) ∧ Below w6.heap.size w6 wr) (fun x10 _ _ => tu.length - (intOf x10).toNat)
          case atStart => exact ⟨0, o, by omega, rfl, by rw [List.take_zero, List.append_nil]; exact Hset.out, Ho6.out, Below.refl _ _⟩
          case round =>
            obtain ⟨c, o2, hc, rfl, hset2, hown2, hbel2⟩ := hrel
            obtain ⟨la2, lc2, rfl⟩ := own_form hown2
            have Hset2 := Lib.hid hset2
            have hol2 := hset2.2.2
            rw [List.length_append, List.length_take] at hol2
            clear hset2
            by_cases hct : c < tu.length
            · obtain ⟨b7, f7, rfl, hb7, hcap7, k7⟩ := Hc6.out c hct
              have k7 := cell_below hbel2 hb7 k7
              have hci : (c : Int) < (tu.length : Int) := by omega
              have Hnext : Hid (tu.take (c + 1) = tu.take c ++ [tu[c]]) := Lib.hid (List.take_succ_eq_append_getElem hct)
              have hbw := B5.out.trans ((B6.out.trans (hbel2.mono B6.out.size)).mono B5.out.size)
              have HW := Lib.hid (fun (t : Tx) => ref17_With o2 t (.slice la2 o2.length lc2) w.heap.size wr Hset2.out.1 (by omega) hown2 hbw.size)
              have Hbel2 := Lib.hid hbel2
              generalize tu[c] = tt at k7 Hnext
              clear hbel2 hown2 hbw
              go_wp2_with fail
              refine (HW.out tt).mono ?_
              rintro e w8 ⟨v8, o8, rfl, hb8, s1, s2, s3, ho8⟩
              have Ho8 := Lib.hid ho8
              have Hset8 := Lib.hid (Hset2.out.step s1 s2 s3)
              have HB8 := Lib.hid (step_call Hbel2.out hb8)
              clear ho8 s1 s2 s3 hb8 k7
              go_wp2
              go_roundw
              case rel => exact ⟨c + 1, o8, by omega, by go_num, by rw [Hnext.out, ← List.append_assoc]; exact Hset8.out, Ho8.out, HB8.out⟩
              case measure => simp [intOf]; omega
            · obtain rfl : c = tu.length := by omega
              have HB9 := Lib.hid (step_call B6.out hbel2)
              have Ho9 := Lib.hid hown2
              rw [List.take_of_length_le (Nat.le_refl _)] at Hset2
              clear hbel2 hown2
              go_wp2
              go_roundw
              case rel => exact ⟨b + 1, o2, by omega, by go_num, by rw [Hkt.out, Hsb.out, ← List.append_assoc]; exact Hset2.out, Ho9.out, HB9.out⟩
              case measure => simp [intOf]; omega
        · obtain rfl : b = ks.length := by omega
          rw [List.take_of_length_le (Nat.le_refl _)] at Hset
          obtain rfl := Hend.out _ Hset.out
          have HB := Lib.hid (step_call B5.out hbel)
          clear hown hbel hset
          go_wp2
          go_ret
          exact ⟨_, rfl, HB.out, Ho.out⟩
end Go.Proofs.YtlfhgmclnapmjaaGreatDoor
