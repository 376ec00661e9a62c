/- Chapter 17: query.Terms. Conditions: a short query that is not too large; the tables. Chapter 17: slices of queries that a call has made. No conditions. Chapter 17: codexlaw17.shown. Condition: the tables. -/
import Derived.Test.YtlfhgmclnapmjaaGreatDoorQryW
import Derived.Test.YtlfhgmclnapmjaaGreatDoorTokSort
import Derived.Test.YtlfhgmclnapmjaaGreatDoorTokG
import Derived.Test.YtlfhgmclnapmjaaGreatDoorTokSet
namespace Go.Proofs.YtlfhgmclnapmjaaGreatDoor
open Go.RowKit Go.Utf Go.Qry Go.Lib
attribute [local go_sem] Oper.semAt_some

theorem canon_len (xs : List Tx) : (canon xs).length ≤ xs.length := by
  unfold canon
  have := Lib.compact_length_le (xs.mergeSort fun x y => decide (x ≤ y))
  rwa [List.length_mergeSort] at this
theorem own_len {q : Qy} (h : shortB q = true) : (ownT q).length ≤ 1000000 := by
  have h1 := phrase_len q.text (by have := short_text h; omega)
  unfold ownT
  split
  · rw [List.length_map, List.length_take]; omega
  · split
    · rw [List.length_map]; exact h1
    · simp
theorem short_kid {q k : Qy} (h : shortB q = true) (hk : k ∈ q.kids) : shortB k = true := by
  obtain ⟨h1, h2, h3⟩ := short_lists h
  unfold Qy.kids at hk
  rw [List.mem_append, List.mem_append] at hk
  rcases hk with hk | hk | hk
  · exact (shortR_mem h1).2 k hk
  · exact (shortR_mem h2).2 k hk
  · exact (shortR_mem h3).2 k hk
theorem ask_len_aux : ∀ (n : Nat) (q : Qy), cnt q ≤ n → shortB q = true → (askT q).length ≤ 1000000 * cnt q
  | 0, q, h, _ => by have := cnt_pos q; omega
  | n + 1, q, h, hs => by
    rw [askT_kids, cnt_kids, List.length_append]
    rw [cnt_kids] at h
    have key : ∀ l : List Qy, cntL l ≤ n → (∀ k ∈ l, shortB k = true) → (askL l).length ≤ 1000000 * cntL l := by
      intro l
      induction l with
      | nil => intro _ _; simp [askL]
      | cons p l ih =>
        intro hl hk
        rw [cntL] at hl
        rw [askL, cntL, List.length_append]
        have h1 := ask_len_aux n p (by omega) (hk p (by simp))
        have h2 := ih (by omega) (fun k hm => hk k (by simp [hm]))
        omega
    have h1 := key q.kids (by omega) (fun k hk => short_kid hs hk)
    have h2 := own_len hs
    omega
theorem terms_len {q : Qy} (h : shortB q = true) : (termsQ q).length ≤ 1000000 * cnt q :=
  Nat.le_trans (canon_len _) (ask_len_aux _ q (Nat.le_refl _) h)
/-- What Terms has gathered so far. -/
def accT (q : Qy) (a b : Nat) : List Tx := ownT q ++ kidsT (preK q a ++ (curK q a).take b)
theorem accT_start (q : Qy) : accT q 0 0 = ownT q := by simp [accT, preK, kidsT]
theorem accT_next (q : Qy) (a : Nat) (h : a < 3) : accT q (a + 1) 0 = accT q a (curK q a).length := by
  unfold accT
  rw [List.take_zero, List.append_nil, preK_succ q a h, List.take_of_length_le (Nat.le_refl _)]
theorem accT_step (q : Qy) (a b : Nat) (h : b < (curK q a).length) : accT q a (b + 1) = accT q a b ++ termsQ (curK q a)[b] := by
  unfold accT kidsT
  rw [List.take_succ_eq_append_getElem h, ← List.append_assoc, List.flatMap_append, List.append_assoc]
  simp
theorem accT_end (q : Qy) : canon (accT q 3 0) = termsQ q := by
  unfold accT
  rw [List.take_zero, List.append_nil, preK_three, terms_kids]
theorem kidsT_len : ∀ (l : List Qy), (∀ k ∈ l, shortB k = true) → (kidsT l).length ≤ 1000000 * cntL l
  | [], _ => by simp [kidsT]
  | p :: l, h => by
    have h1 := terms_len (h p (by simp))
    have h2 := kidsT_len l (fun k hk => h k (by simp [hk]))
    unfold kidsT at *
    rw [List.flatMap_cons, List.length_append, cntL]
    omega
theorem part_kids (q : Qy) (a b : Nat) (ha : a ≤ 3) : ∃ r, preK q a ++ (curK q a).take b ++ r = q.kids ∨ (a = 3 ∧ preK q a = q.kids) := by
  rcases (show a = 0 ∨ a = 1 ∨ a = 2 ∨ a = 3 by omega) with rfl | rfl | rfl | rfl
  · exact ⟨q.must.drop b ++ (q.should ++ q.nots), .inl (by simp only [preK, curK, List.nil_append]; rw [← List.append_assoc, List.take_append_drop]; rfl)⟩
  · exact ⟨q.should.drop b ++ q.nots, .inl (by simp only [preK, curK]; rw [List.append_assoc, ← List.append_assoc (q.should.take b), List.take_append_drop]; rfl)⟩
  · exact ⟨q.nots.drop b, .inl (by simp only [preK, curK]; rw [List.append_assoc, List.take_append_drop, List.append_assoc]; rfl)⟩
  · exact ⟨[], .inr ⟨rfl, rfl⟩⟩
theorem accT_len (q : Qy) (hs : shortB q = true) (a b : Nat) (ha : a < 3) : (accT q a b).length ≤ 1000000 * cnt q := by
  have h1 := own_len hs
  obtain ⟨r, hr | ⟨h, _⟩⟩ := part_kids q a b (by omega)
  · have h2 := kidsT_len (preK q a ++ (curK q a).take b) (fun k hk => short_kid hs (by rw [← hr]; exact List.mem_append_left _ hk))
    have h3 := cntL_append (preK q a ++ (curK q a).take b) r
    rw [hr] at h3
    have h4 := cnt_kids q
    unfold accT
    rw [List.length_append]
    omega
  · omega
theorem cur_kids (q : Qy) (a : Nat) (h : a < 3) : ∀ k ∈ curK q a, k ∈ q.kids := by
  intro k hk
  rcases (show a = 0 ∨ a = 1 ∨ a = 2 by omega) with rfl | rfl | rfl
  · have hk : k ∈ q.must := hk
    simp [Qy.kids, hk]
  · have hk : k ∈ q.should := hk
    simp [Qy.kids, hk]
  · have hk : k ∈ q.nots := hk
    simp [Qy.kids, hk]
def TMat (m : Nat) : Prop := ∀ (q : Qy) (vm vs vn : Value) (w : World), QVal w m q vm vs vn → shortB q = true → cnt q ≤ 100000 → Tabs w → Calls Tryz.prog 14 #[qV q vm vs vn] w fun e w' => ∃ v, e = .returned v ∧ Below w.heap.size w w' ∧ w'.ownsRow w.heap.size 9 1 v (termsQ q).length (txtCells (termsQ q))
/-- One of a query's three lists, by its number. -/
theorem list_at {w : World} {n : Nat} {q : Qy} {om os on : Option Addr} {cm cs cn : Nat} (h : QVal w n q (.slice om q.must.length cm) (.slice os q.should.length cs) (.slice on q.nots.length cn)) (a : Nat) (ha : a < 3) :
    ∃ oa c, (∀ w : World, (Instr.index 45 (.agg #[.slice om q.must.length cm, .slice os q.should.length cs, .slice on q.nots.length cn]) (.int .i64 (a : Nat))).run Tryz.prog w = .ok (.slice oa (curK q a).length c) w) ∧ QRow w n (.slice oa (curK q a).length c) (curK q a) := by
  obtain ⟨x0, x1, x2⟩ := idx3 om os on q.must.length q.should.length q.nots.length cm cs cn
  rcases (show a = 0 ∨ a = 1 ∨ a = 2 by omega) with rfl | rfl | rfl
  · exact ⟨om, cm, x0, h.must⟩
  · exact ⟨os, cs, x1, h.should⟩
  · exact ⟨on, cn, x2, h.nots⟩
/-- A call's own row of texts as what is appended. -/
theorem own_txts {w : World} {base m : Nat} {v : Value} {l : List Tx} (h : w.ownsRow base 9 1 v m (txtCells l)) (hm : m = l.length) :
    ∃ oa c, v = .slice oa l.length c ∧ (oa = none → l.length = 0 ∧ c = 0) ∧ ∀ ad, oa = some ad → ∀ j u, (txtCells l)[j]? = some u → w.cell? (ad.add j) = some u := by
  subst hm
  rcases h.2 with ⟨rfl, h0⟩ | ⟨g, cap, cur, rfl, _⟩
  · exact ⟨none, 0, by rw [h0], fun _ => ⟨h0, rfl⟩, fun ad h => (by cases h)⟩
  · refine ⟨_, _, rfl, fun h => (by cases h), fun ad e => ?_⟩
    cases e
    exact h.cells (g := g) rfl
set_option maxRecDepth 100000 in
set_option maxHeartbeats 6400000 in
theorem query_Terms (n : Nat) : TMat n := by
  induction n using Nat.strongRecOn with
  | _ n ih =>
    intro q vm vs vn w h hs hc hT
    obtain ⟨i0, hi, hz0, hz1, hz2⟩ := info_parts infoStr
    have IH := Lib.hid ih
    have ht := short_text hs
    have Hq := Lib.hid h
    obtain ⟨om, cm, rfl, -, -⟩ := h.must.form
    obtain ⟨os, cs, rfl, -, -⟩ := h.should.form
    obtain ⟨on, cn, rfl, -, -⟩ := h.nots.form
    have HP := Lib.hid (fun (w' : World) (hb : Below w.heap.size w w') => query_Phrase q.text (by omega) w' (hT.below hb))
    have HL := Lib.hid (fun w' => query_lists q om os on q.must.length q.should.length q.nots.length cm cs cn w')
    have HT := Lib.hid hT
    have Hat := Lib.hid (fun a ha => list_at h a ha)
    have Hst0 := Lib.hid (accT_start q)
    have Hnx := Lib.hid (accT_next q)
    have Hstep := Lib.hid (accT_step q)
    have Hend := Lib.hid (accT_end q)
    have Hlen := Lib.hid (fun a b ha => accT_len q hs a b ha)
    have Hlen3 : Hid ((accT q 3 0).length ≤ 1000000 * cnt q) := Lib.hid (by rw [accT_next q 2 (by omega)]; exact accT_len q hs 2 _ (by omega))
    have Hkd := Lib.hid (show ∀ k ∈ q.kids, shortB k = true ∧ cnt k ≤ 100000 ∧ (termsQ k).length ≤ 1000000 * 100000 from fun k hk => by
      have h1 := cnt_mem hk
      have h3 := cnt_kids q
      have h4 := terms_len (short_kid hs hk)
      exact ⟨short_kid hs hk, by omega, by omega⟩)
    have hpl := phrase_len q.text (by omega)
    have Hcur := Lib.hid (cur_kids q)
    have b0 := step_new (Below.refl w.heap.size w) (.cells #[.int .i64 q.kind, .string (B q.text), .slice om q.must.length cm, .slice os q.should.length cs, .slice on q.nots.length cn] 24)
    have Hb0 := Lib.hid b0
    obtain ⟨a0, a1, a2, a3, a4⟩ := boxedQ w q (.slice om q.must.length cm) (.slice os q.should.length cs) (.slice on q.nots.length cn) 24
    have A0 := Lib.hid a0
    have A1 := Lib.hid a1
    have A2 := Lib.hid a2
    have A3 := Lib.hid a3
    have A4 := Lib.hid a4
    have Hk2 : Hid (q.kind = 2 → ownT q = ((phraseL q.text).take 1).map Prod.fst) := Lib.hid (fun h => by unfold ownT; rw [if_pos h])
    have Hk3 : Hid (q.kind = 3 → ownT q = (phraseL q.text).map Prod.fst) := Lib.hid (fun h => by unfold ownT; rw [if_neg (by omega), if_pos h])
    have Hk0 : Hid (q.kind ≠ 2 → q.kind ≠ 3 → ownT q = []) := Lib.hid (fun h1 h2 => by unfold ownT; rw [if_neg h1, if_neg h2])
    unfold qV at HL
    show Calls Tryz.prog 14 #[.agg #[.int .i64 q.kind, .string (B q.text), .slice om q.must.length cm, .slice os q.should.length cs, .slice on q.nots.length cn]] w _
    clear ih h hs b0 ht hT a0 a1 a2 a3 a4
    generalize hK : q.kind = K at *
    clear hK
    rcases (show K = 2 ∨ K = 3 ∨ (K ≠ 2 ∧ K ≠ 3) by omega) with rfl | rfl | ⟨k2, k3⟩
    · have Hown := Lib.hid (Hk2.out rfl)
      go_enter Tryz.func14, Tryz.ntmps14
      have a0 := A0.out
      have a1 := A1.out
      go_wp2_with fail
      refine (HP.out _ Hb0.out).mono ?_
      rintro e w2 ⟨v, rfl, hb2, hown⟩
      have B2 := Lib.hid (step_call Hb0.out hb2)
      have a0 := cell_call hb2 A0.out
      have A0 := Lib.hid a0
      have A1 := Lib.hid (cell_call hb2 A1.out)
      have A2 := Lib.hid (cell_call hb2 A2.out)
      have A3 := Lib.hid (cell_call hb2 A3.out)
      have A4 := Lib.hid (cell_call hb2 A4.out)
      clear a1 hb2 Hb0 HP
      obtain ⟨oa, oc, rfl⟩ := own_form hown
      have ht := own_toks hown
      obtain ⟨t1, t2, t3⟩ := own_take1 hown
      generalize phraseL q.text = p at *
      by_cases h0 : 0 < p.length
      · obtain ⟨g, rfl⟩ := t3 h0
        obtain ⟨oa', oc', e, hcells⟩ := ht.take 1 h0
        have hl1 : (p.take 1).length = 1 := by rw [List.length_take]; omega
        rw [hl1] at e
        simp only [Value.slice.injEq, true_and] at e
        obtain ⟨rfl, rfl⟩ := e
        generalize p.take 1 = pl at *
        have Hcells := Lib.hid hcells
        have hmin : min 1 p.length = 1 := by omega
        have hmini : min (1 : Int) (p.length : Int) = 1 := by omega
        have hci : 1 ≤ oc := by omega
        clear hown hcells ht t1 t2 t3
        generalize p.length = PP at *
        go_wp2
        clear a0
        go_loopw [31, 3] (fun x31 x3 wr => ∃ k : Nat, k ≤ pl.length ∧ x31 = .int .i64 k ∧ wr.ownsRow w2.heap.size 9 1 x3 k (txtCells ((pl.take k).map Prod.fst)) ∧ Below w2.heap.size w2 wr) (fun x31 _ _ => pl.length - (intOf x31).toNat)
        case atStart => exact ⟨0, by omega, rfl, World.ownsRow_nil _ _ _ _, Below.refl _ _⟩
        case round =>
          obtain ⟨k, hk, rfl, hown, hbel⟩ := hrel
          obtain ⟨la, lc, rfl⟩ := own_form hown
          by_cases h1 : k < pl.length
          · obtain ⟨b, off, e, hb, k1, k2⟩ := Hcells.out k h1
            first | subst e | (simp only [Option.some.injEq, Addr.mk.injEq, and_true] at e; obtain ⟨rfl, rfl⟩ := e)
            have k1 := cell_below hbel hb k1
            have k2 := cell_below hbel hb k2
            try simp only [Nat.zero_add] at k1 k2
            have hki : (k : Int) < (1 : Int) := by omega
            have Hnext : Hid ((pl.take (k + 1)).map Prod.fst = (pl.take k).map Prod.fst ++ [pl[k].1]) := Lib.hid (by rw [List.take_succ_eq_append_getElem h1, List.map_append]; rfl)
            generalize pl[k] = tk at k1 k2 Hnext
            obtain ⟨tt, pz⟩ := tk
            simp only at k1 k2 Hnext
            have Hbel := Lib.hid hbel
            have hsz := hbel.size
            have Ho := Lib.hid ((hown.alloc (.cells #[.string (B tt), .int .i64 (pz : Nat)] 44)).alloc (.cells #[.string (B tt)] 9))
            have hn1 := cell_one_new (wr.alloc (.cells #[.string (B tt), .int .i64 (pz : Nat)] 44)) (.string (B tt)) 9
            rw [World.size_alloc] at hn1
            have Hn1 := Lib.hid hn1
            clear hbel hown hn1
            go_wp2_with (at_builtin; go_must (refine wpList_append_own _ rfl _ _ 34 rfl w2.heap.size 9 i0 (.string ⟨#[]⟩) 1 16 Tryz.underlying34 hi hz0 hz1 hz2 rfl (by decide) _ _ _ rfl Ho.out ⟨wr.heap.size + 1, 0, none⟩ 1 1 [.string (B tt)] rfl rfl ?c1 ?c2 ?c3 ?c4 ?c5 ?_))
            case c1 => exact Hn1.out
            case c2 => simp [Value.oneCell']
            case c3 => unfold maxLen; omega
            case c4 => omega
            case c5 => simp; omega
            intro v' w5 hown' hgrow _
            have Hb5 := Lib.hid (below_own (step_at (step_at Hbel.out (.cells #[.string (B tt), .int .i64 (pz : Nat)] 44) hsz) (.cells #[.string (B tt)] 9) (by simp; omega)) Ho.out hgrow (Nat.le_refl _) (by simp; omega))
            have Ho5 := Lib.hid hown'
            clear hown' hgrow
            go_wp2
            go_roundw
            case rel =>
              refine ⟨k + 1, by omega, by go_num, ?_, Hb5.out⟩
              rw [Hnext.out]
              simpa [txtCells] using Ho5.out
            case measure => simp [intOf]; omega
          · obtain rfl : k = pl.length := by omega
            have hki : ¬ ((pl.length : Nat) : Int) < (1 : Int) := by omega
            rw [List.take_length, ← Hown.out] at hown
            have hown0 : wr.ownsRow w.heap.size 9 1 (.slice la pl.length lc) (accT q 0 0).length (txtCells (accT q 0 0)) := by
              rw [Hst0.out]
              have e : (ownT q).length = pl.length := by rw [Hown.out, List.length_map]
              rw [e]; exact own_base hown B2.out.size
            have hb3 := B2.out.trans (hbel.mono B2.out.size)
            have B3 := Lib.hid hb3
            have A0 := Lib.hid (cell_call hbel A0.out)
            have A1 := Lib.hid (cell_call hbel A1.out)
            have A2 := Lib.hid (cell_call hbel A2.out)
            have A3 := Lib.hid (cell_call hbel A3.out)
            have A4 := Lib.hid (cell_call hbel A4.out)
            have Hrow := Lib.hid hown0
            clear hown hown0 hb3 hbel
            have a0 := A0.out
            have a1 := A1.out
            have a2 := A2.out
            have a3 := A3.out
            have a4 := A4.out
            go_wp2_with fail
            refine (HL.out _).mono ?_
            rintro e w5 ⟨rfl, hb5⟩
            have B5 := Lib.hid (step_call B3.out hb5)
            have Hrow5 := Lib.hid (own_below Hrow.out hb5)
            clear a0 a1 a2 a3 a4 hb5 A0 A1 A2 A3 A4 Hrow B3 HL
            go_wp2
            go_loopw [43, 3] (fun x43 x3 wr => ∃ a : Nat, a ≤ 3 ∧ x43 = .int .i64 a ∧ wr.ownsRow w.heap.size 9 1 x3 (accT q a 0).length (txtCells (accT q a 0)) ∧ Below w.heap.size w wr) (fun x43 _ _ => 3 - (intOf x43).toNat)
            case atStart => exact ⟨0, by omega, rfl, by first | exact Hrow5.out | (have h := Hrow5.out; rw [hl1] at h; exact h), B5.out⟩
            case round =>
              obtain ⟨a, ha, rfl, hown, hbel⟩ := hrel
              have Hbel := Lib.hid hbel
              have Ho := Lib.hid hown
              by_cases ha3 : a < 3
              · obtain ⟨ob, oc2, hix, hrow⟩ := Hat.out a ha3
                have hai : (a : Int) < 3 := by omega
                obtain ⟨ob', oc', e, hlen, hcell⟩ := hrow.form
                simp only [Value.slice.injEq, true_and] at e
                obtain ⟨rfl, rfl⟩ := e
                have Hcell := Lib.hid hcell
                have Hnxa := Lib.hid (Hnx.out a ha3)
                have Hstepa := Lib.hid (Hstep.out a)
                have Hlena := Lib.hid (fun b => Hlen.out a b ha3)
                have Hk := Lib.hid (fun k hk => Hkd.out k (Hcur.out a ha3 k hk))
                clear hown hbel hrow hcell Hnx Hstep Hlen Hkd Hcur Hat Hlen3
                generalize curK q a = cur at *
                go_wp2
                go_loopw [48, 3] (fun x48 x3 wr => ∃ b : Nat, b ≤ cur.length ∧ x48 = .int .i64 b ∧ wr.ownsRow w.heap.size 9 1 x3 (accT q a b).length (txtCells (accT q a b)) ∧ Below w.heap.size w wr) (fun x48 _ _ => cur.length - (intOf x48).toNat)
                case atStart => exact ⟨0, by omega, rfl, Ho.out, Hbel.out⟩
                case round =>
                  obtain ⟨b, hb, rfl, hown, hbel⟩ := hrel
                  obtain ⟨la, lc, rfl⟩ := own_form hown
                  by_cases hlt : b < cur.length
                  · obtain ⟨bb, off, k, um, us, un, hnk, rfl, hbb, hcc, c0, c1, c2, c3, c4, hv⟩ := Hcell.out b hlt
                    have c0 := cell_below hbel hbb c0
                    have c1 := cell_below hbel hbb c1
                    have c2 := cell_below hbel hbb c2
                    have c3 := cell_below hbel hbb c3
                    have c4 := cell_below hbel hbb c4
                    have hki : (b : Int) < (cur.length : Int) := by omega
                    have Hst := Lib.hid (Hstepa.out b hlt)
                    obtain ⟨hsk, hck, hlk⟩ := Hk.out cur[b] (List.getElem_mem hlt)
                    have hacc := Hlena.out b
                    have hv2 := hv.below hbel
                    obtain ⟨pm, dm, rfl, _, _⟩ := hv.must.form
                    obtain ⟨ps, ds, rfl, _, _⟩ := hv.should.form
                    obtain ⟨pn, dn, rfl, _, _⟩ := hv.nots.form
                    have Hv := Lib.hid hv2
                    have HTr := Lib.hid (HT.out.below hbel)
                    have Hbel2 := Lib.hid hbel
                    have hsz := hbel.size
                    have Ho2 := Lib.hid hown
                    clear hbel hv hv2 hown
                    generalize cur[b] = u at *
                    have HC := Lib.hid (fun (w' : World) (hb : Below wr.heap.size wr w') => IH.out k (by omega) u _ _ _ w' (Hv.out.below hb) hsk hck (HTr.out.below hb))
                    unfold qV at HC
                    clear hsk hck
                    generalize termsQ u = tu at *
                    generalize hab : accT q a (b + 1) = ab1 at *
                    have Hab := Lib.hid hab
                    clear hab
                    generalize accT q a b = ab at *
                    go_wp2_with fail
                    refine (HC.out _ (step_new (Below.refl _ _) _)).mono ?_
                    rintro e w6 ⟨v6, rfl, hb6, ho6⟩
                    obtain ⟨oa6, oc6, rfl, hnil6, hnews6⟩ := own_txts ho6 rfl
                    have B6 := Lib.hid (step_call (step_new Hbel2.out _) hb6)
                    have Ho7 := Lib.hid (own_below (Ho2.out.alloc _) hb6)
                    have hsz6 := B6.out.size
                    have Hn6 := Lib.hid hnil6
                    have Hw6 := Lib.hid hnews6
                    clear ho6 hb6 hnil6 hnews6 c0 c1 c2 c3 c4
                    go_wp2_with (at_builtin; go_must (refine wpList_append_any _ rfl _ _ 34 rfl w.heap.size 9 i0 (.string ⟨#[]⟩) 1 16 Tryz.underlying34 hi hz0 hz1 hz2 rfl (by decide) _ _ _ rfl Ho7.out oa6 tu.length oc6 (txtCells tu) rfl (txtCells_len tu) Hn6.out Hw6.out (txtCells_one tu) ?c1 ?c2 ?c3 ?_))
                    case c1 => unfold maxLen; omega
                    case c2 => omega
                    case c3 => omega
                    intro v' w7 hown' hgrow _
                    have Hb7 := Lib.hid (below_own B6.out Ho7.out hgrow (Nat.le_refl _) hsz6)
                    have Ho8 := Lib.hid hown'
                    clear hown' hgrow
                    go_wp2
                    go_roundw
                    case rel =>
                      refine ⟨b + 1, by omega, by go_num, ?_, Hb7.out⟩
                      rw [Hab.out, Hst.out, List.length_append, txtCells_append]; exact Ho8.out
                    case measure => simp [intOf]; omega
                  · obtain rfl : b = cur.length := by omega
                    go_wp2
                    go_roundw
                    case rel => exact ⟨a + 1, by omega, by go_num, by rw [Hnxa.out]; exact hown, hbel⟩
                    case measure => simp [intOf]; omega
              · obtain rfl : a = 3 := by omega
                obtain ⟨la, lc, rfl⟩ := own_form hown
                have HS := Lib.hid (str_sort Ho.out (by have := Hlen3.out; omega) w.heap.size (Nat.le_refl _) hbel.size)
                clear hown hbel
                go_wp2_with fail
                refine HS.out.mono ?_
                rintro e w6 ⟨rfl, ho2, hb2⟩
                have ho3 : w6.ownsRow w.heap.size 9 1 (.slice la (accT q 3 0).length lc) ((accT q 3 0).mergeSort fun x y => decide (x ≤ y)).length (txtCells ((accT q 3 0).mergeSort fun x y => decide (x ≤ y))) := by rw [List.length_mergeSort]; exact ho2
                have HC := Lib.hid (str_compact ho3 (by rw [List.length_mergeSort]; have := Hlen3.out; omega) w.heap.size (Nat.le_refl _))
                have HB2 := Lib.hid (Hbel.out.trans hb2)
                clear ho2 ho3 hb2
                go_wp2_with fail
                refine HC.out.mono ?_
                rintro e w7 ⟨v3, rfl, ho4, hb3⟩
                obtain ⟨la3, lc3, rfl⟩ := own_form ho4
                have HB3 := Lib.hid (HB2.out.trans hb3)
                have Ho4 := Lib.hid ho4
                clear ho4 hb3
                go_wp2
                go_ret
                refine ⟨_, rfl, HB3.out, ?_⟩
                rw [← Hend.out]
                exact Ho4.out
      · have hpe : p = [] := List.eq_nil_of_length_eq_zero (by omega)
        subst hpe
        have Hrow0 : Hid (ownT q = []) := Lib.hid Hown.out
        clear hown ht t2 t3 h0
        cases oa
        case none =>
          obtain ⟨-, rfl⟩ := t1 rfl
          go_wp2
          clear a0
          go_loopw [31, 3] (fun x31 x3 wr => x31 = .int .i64 0 ∧ x3 = .slice none 0 0 ∧ Below w2.heap.size w2 wr) (fun _ _ _ => 0)
          case atStart => exact ⟨rfl, rfl, Below.refl _ _⟩
          case round =>
            obtain ⟨rfl, rfl, hbel⟩ := hrel
            have hb3 := B2.out.trans (hbel.mono B2.out.size)
            have B3 := Lib.hid hb3
            have A0 := Lib.hid (cell_call hbel A0.out)
            have A1 := Lib.hid (cell_call hbel A1.out)
            have A2 := Lib.hid (cell_call hbel A2.out)
            have A3 := Lib.hid (cell_call hbel A3.out)
            have A4 := Lib.hid (cell_call hbel A4.out)
            have Hrow : Hid (wr.ownsRow w.heap.size 9 1 (.slice none 0 0) (accT q 0 0).length (txtCells (accT q 0 0))) := Lib.hid (by rw [Hst0.out, Hrow0.out]; exact World.ownsRow_nil _ _ _ _)
            clear hb3 hbel
            have a0 := A0.out
            have a1 := A1.out
            have a2 := A2.out
            have a3 := A3.out
            have a4 := A4.out
            go_wp2_with fail
            refine (HL.out _).mono ?_
            rintro e w5 ⟨rfl, hb5⟩
            have B5 := Lib.hid (step_call B3.out hb5)
            have Hrow5 := Lib.hid (own_below Hrow.out hb5)
            clear a0 a1 a2 a3 a4 hb5 A0 A1 A2 A3 A4 Hrow B3 HL
            go_wp2
            go_loopw [43, 3] (fun x43 x3 wr => ∃ a : Nat, a ≤ 3 ∧ x43 = .int .i64 a ∧ wr.ownsRow w.heap.size 9 1 x3 (accT q a 0).length (txtCells (accT q a 0)) ∧ Below w.heap.size w wr) (fun x43 _ _ => 3 - (intOf x43).toNat)
            case atStart => exact ⟨0, by omega, rfl, by first | exact Hrow5.out | (have h := Hrow5.out; rw [hl1] at h; exact h), B5.out⟩
            case round =>
              obtain ⟨a, ha, rfl, hown, hbel⟩ := hrel
              have Hbel := Lib.hid hbel
              have Ho := Lib.hid hown
              by_cases ha3 : a < 3
              · obtain ⟨ob, oc2, hix, hrow⟩ := Hat.out a ha3
                have hai : (a : Int) < 3 := by omega
                obtain ⟨ob', oc', e, hlen, hcell⟩ := hrow.form
                simp only [Value.slice.injEq, true_and] at e
                obtain ⟨rfl, rfl⟩ := e
                have Hcell := Lib.hid hcell
                have Hnxa := Lib.hid (Hnx.out a ha3)
                have Hstepa := Lib.hid (Hstep.out a)
                have Hlena := Lib.hid (fun b => Hlen.out a b ha3)
                have Hk := Lib.hid (fun k hk => Hkd.out k (Hcur.out a ha3 k hk))
                clear hown hbel hrow hcell Hnx Hstep Hlen Hkd Hcur Hat Hlen3
                generalize curK q a = cur at *
                go_wp2
                go_loopw [48, 3] (fun x48 x3 wr => ∃ b : Nat, b ≤ cur.length ∧ x48 = .int .i64 b ∧ wr.ownsRow w.heap.size 9 1 x3 (accT q a b).length (txtCells (accT q a b)) ∧ Below w.heap.size w wr) (fun x48 _ _ => cur.length - (intOf x48).toNat)
                case atStart => exact ⟨0, by omega, rfl, Ho.out, Hbel.out⟩
                case round =>
                  obtain ⟨b, hb, rfl, hown, hbel⟩ := hrel
                  obtain ⟨la, lc, rfl⟩ := own_form hown
                  by_cases hlt : b < cur.length
                  · obtain ⟨bb, off, k, um, us, un, hnk, rfl, hbb, hcc, c0, c1, c2, c3, c4, hv⟩ := Hcell.out b hlt
                    have c0 := cell_below hbel hbb c0
                    have c1 := cell_below hbel hbb c1
                    have c2 := cell_below hbel hbb c2
                    have c3 := cell_below hbel hbb c3
                    have c4 := cell_below hbel hbb c4
                    have hki : (b : Int) < (cur.length : Int) := by omega
                    have Hst := Lib.hid (Hstepa.out b hlt)
                    obtain ⟨hsk, hck, hlk⟩ := Hk.out cur[b] (List.getElem_mem hlt)
                    have hacc := Hlena.out b
                    have hv2 := hv.below hbel
                    obtain ⟨pm, dm, rfl, _, _⟩ := hv.must.form
                    obtain ⟨ps, ds, rfl, _, _⟩ := hv.should.form
                    obtain ⟨pn, dn, rfl, _, _⟩ := hv.nots.form
                    have Hv := Lib.hid hv2
                    have HTr := Lib.hid (HT.out.below hbel)
                    have Hbel2 := Lib.hid hbel
                    have hsz := hbel.size
                    have Ho2 := Lib.hid hown
                    clear hbel hv hv2 hown
                    generalize cur[b] = u at *
                    have HC := Lib.hid (fun (w' : World) (hb : Below wr.heap.size wr w') => IH.out k (by omega) u _ _ _ w' (Hv.out.below hb) hsk hck (HTr.out.below hb))
                    unfold qV at HC
                    clear hsk hck
                    generalize termsQ u = tu at *
                    generalize hab : accT q a (b + 1) = ab1 at *
                    have Hab := Lib.hid hab
                    clear hab
                    generalize accT q a b = ab at *
                    go_wp2_with fail
                    refine (HC.out _ (step_new (Below.refl _ _) _)).mono ?_
                    rintro e w6 ⟨v6, rfl, hb6, ho6⟩
                    obtain ⟨oa6, oc6, rfl, hnil6, hnews6⟩ := own_txts ho6 rfl
                    have B6 := Lib.hid (step_call (step_new Hbel2.out _) hb6)
                    have Ho7 := Lib.hid (own_below (Ho2.out.alloc _) hb6)
                    have hsz6 := B6.out.size
                    have Hn6 := Lib.hid hnil6
                    have Hw6 := Lib.hid hnews6
                    clear ho6 hb6 hnil6 hnews6 c0 c1 c2 c3 c4
                    go_wp2_with (at_builtin; go_must (refine wpList_append_any _ rfl _ _ 34 rfl w.heap.size 9 i0 (.string ⟨#[]⟩) 1 16 Tryz.underlying34 hi hz0 hz1 hz2 rfl (by decide) _ _ _ rfl Ho7.out oa6 tu.length oc6 (txtCells tu) rfl (txtCells_len tu) Hn6.out Hw6.out (txtCells_one tu) ?c1 ?c2 ?c3 ?_))
                    case c1 => unfold maxLen; omega
                    case c2 => omega
                    case c3 => omega
                    intro v' w7 hown' hgrow _
                    have Hb7 := Lib.hid (below_own B6.out Ho7.out hgrow (Nat.le_refl _) hsz6)
                    have Ho8 := Lib.hid hown'
                    clear hown' hgrow
                    go_wp2
                    go_roundw
                    case rel =>
                      refine ⟨b + 1, by omega, by go_num, ?_, Hb7.out⟩
                      rw [Hab.out, Hst.out, List.length_append, txtCells_append]; exact Ho8.out
                    case measure => simp [intOf]; omega
                  · obtain rfl : b = cur.length := by omega
                    go_wp2
                    go_roundw
                    case rel => exact ⟨a + 1, by omega, by go_num, by rw [Hnxa.out]; exact hown, hbel⟩
                    case measure => simp [intOf]; omega
              · obtain rfl : a = 3 := by omega
                obtain ⟨la, lc, rfl⟩ := own_form hown
                have HS := Lib.hid (str_sort Ho.out (by have := Hlen3.out; omega) w.heap.size (Nat.le_refl _) hbel.size)
                clear hown hbel
                go_wp2_with fail
                refine HS.out.mono ?_
                rintro e w6 ⟨rfl, ho2, hb2⟩
                have ho3 : w6.ownsRow w.heap.size 9 1 (.slice la (accT q 3 0).length lc) ((accT q 3 0).mergeSort fun x y => decide (x ≤ y)).length (txtCells ((accT q 3 0).mergeSort fun x y => decide (x ≤ y))) := by rw [List.length_mergeSort]; exact ho2
                have HC := Lib.hid (str_compact ho3 (by rw [List.length_mergeSort]; have := Hlen3.out; omega) w.heap.size (Nat.le_refl _))
                have HB2 := Lib.hid (Hbel.out.trans hb2)
                clear ho2 ho3 hb2
                go_wp2_with fail
                refine HC.out.mono ?_
                rintro e w7 ⟨v3, rfl, ho4, hb3⟩
                obtain ⟨la3, lc3, rfl⟩ := own_form ho4
                have HB3 := Lib.hid (HB2.out.trans hb3)
                have Ho4 := Lib.hid ho4
                clear ho4 hb3
                go_wp2
                go_ret
                refine ⟨_, rfl, HB3.out, ?_⟩
                rw [← Hend.out]
                exact Ho4.out
        case some ad =>
          clear t1
          go_wp2
          clear a0
          go_loopw [31, 3] (fun x31 x3 wr => x31 = .int .i64 0 ∧ x3 = .slice none 0 0 ∧ Below w2.heap.size w2 wr) (fun _ _ _ => 0)
          case atStart => exact ⟨rfl, rfl, Below.refl _ _⟩
          case round =>
            obtain ⟨rfl, rfl, hbel⟩ := hrel
            have hb3 := B2.out.trans (hbel.mono B2.out.size)
            have B3 := Lib.hid hb3
            have A0 := Lib.hid (cell_call hbel A0.out)
            have A1 := Lib.hid (cell_call hbel A1.out)
            have A2 := Lib.hid (cell_call hbel A2.out)
            have A3 := Lib.hid (cell_call hbel A3.out)
            have A4 := Lib.hid (cell_call hbel A4.out)
            have Hrow : Hid (wr.ownsRow w.heap.size 9 1 (.slice none 0 0) (accT q 0 0).length (txtCells (accT q 0 0))) := Lib.hid (by rw [Hst0.out, Hrow0.out]; exact World.ownsRow_nil _ _ _ _)
            clear hb3 hbel
            have a0 := A0.out
            have a1 := A1.out
            have a2 := A2.out
            have a3 := A3.out
            have a4 := A4.out
            go_wp2_with fail
            refine (HL.out _).mono ?_
            rintro e w5 ⟨rfl, hb5⟩
            have B5 := Lib.hid (step_call B3.out hb5)
            have Hrow5 := Lib.hid (own_below Hrow.out hb5)
            clear a0 a1 a2 a3 a4 hb5 A0 A1 A2 A3 A4 Hrow B3 HL
            go_wp2
            go_loopw [43, 3] (fun x43 x3 wr => ∃ a : Nat, a ≤ 3 ∧ x43 = .int .i64 a ∧ wr.ownsRow w.heap.size 9 1 x3 (accT q a 0).length (txtCells (accT q a 0)) ∧ Below w.heap.size w wr) (fun x43 _ _ => 3 - (intOf x43).toNat)
            case atStart => exact ⟨0, by omega, rfl, by first | exact Hrow5.out | (have h := Hrow5.out; rw [hl1] at h; exact h), B5.out⟩
            case round =>
              obtain ⟨a, ha, rfl, hown, hbel⟩ := hrel
              have Hbel := Lib.hid hbel
              have Ho := Lib.hid hown
              by_cases ha3 : a < 3
              · obtain ⟨ob, oc2, hix, hrow⟩ := Hat.out a ha3
                have hai : (a : Int) < 3 := by omega
                obtain ⟨ob', oc', e, hlen, hcell⟩ := hrow.form
                simp only [Value.slice.injEq, true_and] at e
                obtain ⟨rfl, rfl⟩ := e
                have Hcell := Lib.hid hcell
                have Hnxa := Lib.hid (Hnx.out a ha3)
                have Hstepa := Lib.hid (Hstep.out a)
                have Hlena := Lib.hid (fun b => Hlen.out a b ha3)
                have Hk := Lib.hid (fun k hk => Hkd.out k (Hcur.out a ha3 k hk))
                clear hown hbel hrow hcell Hnx Hstep Hlen Hkd Hcur Hat Hlen3
                generalize curK q a = cur at *
                go_wp2
                go_loopw [48, 3] (fun x48 x3 wr => ∃ b : Nat, b ≤ cur.length ∧ x48 = .int .i64 b ∧ wr.ownsRow w.heap.size 9 1 x3 (accT q a b).length (txtCells (accT q a b)) ∧ Below w.heap.size w wr) (fun x48 _ _ => cur.length - (intOf x48).toNat)
                case atStart => exact ⟨0, by omega, rfl, Ho.out, Hbel.out⟩
                case round =>
                  obtain ⟨b, hb, rfl, hown, hbel⟩ := hrel
                  obtain ⟨la, lc, rfl⟩ := own_form hown
                  by_cases hlt : b < cur.length
                  · obtain ⟨bb, off, k, um, us, un, hnk, rfl, hbb, hcc, c0, c1, c2, c3, c4, hv⟩ := Hcell.out b hlt
                    have c0 := cell_below hbel hbb c0
                    have c1 := cell_below hbel hbb c1
                    have c2 := cell_below hbel hbb c2
                    have c3 := cell_below hbel hbb c3
                    have c4 := cell_below hbel hbb c4
                    have hki : (b : Int) < (cur.length : Int) := by omega
                    have Hst := Lib.hid (Hstepa.out b hlt)
                    obtain ⟨hsk, hck, hlk⟩ := Hk.out cur[b] (List.getElem_mem hlt)
                    have hacc := Hlena.out b
                    have hv2 := hv.below hbel
                    obtain ⟨pm, dm, rfl, _, _⟩ := hv.must.form
                    obtain ⟨ps, ds, rfl, _, _⟩ := hv.should.form
                    obtain ⟨pn, dn, rfl, _, _⟩ := hv.nots.form
                    have Hv := Lib.hid hv2
                    have HTr := Lib.hid (HT.out.below hbel)
                    have Hbel2 := Lib.hid hbel
                    have hsz := hbel.size
                    have Ho2 := Lib.hid hown
                    clear hbel hv hv2 hown
                    generalize cur[b] = u at *
                    have HC := Lib.hid (fun (w' : World) (hb : Below wr.heap.size wr w') => IH.out k (by omega) u _ _ _ w' (Hv.out.below hb) hsk hck (HTr.out.below hb))
                    unfold qV at HC
                    clear hsk hck
                    generalize termsQ u = tu at *
                    generalize hab : accT q a (b + 1) = ab1 at *
                    have Hab := Lib.hid hab
                    clear hab
                    generalize accT q a b = ab at *
                    go_wp2_with fail
                    refine (HC.out _ (step_new (Below.refl _ _) _)).mono ?_
                    rintro e w6 ⟨v6, rfl, hb6, ho6⟩
                    obtain ⟨oa6, oc6, rfl, hnil6, hnews6⟩ := own_txts ho6 rfl
                    have B6 := Lib.hid (step_call (step_new Hbel2.out _) hb6)
                    have Ho7 := Lib.hid (own_below (Ho2.out.alloc _) hb6)
                    have hsz6 := B6.out.size
                    have Hn6 := Lib.hid hnil6
                    have Hw6 := Lib.hid hnews6
                    clear ho6 hb6 hnil6 hnews6 c0 c1 c2 c3 c4
                    go_wp2_with (at_builtin; go_must (refine wpList_append_any _ rfl _ _ 34 rfl w.heap.size 9 i0 (.string ⟨#[]⟩) 1 16 Tryz.underlying34 hi hz0 hz1 hz2 rfl (by decide) _ _ _ rfl Ho7.out oa6 tu.length oc6 (txtCells tu) rfl (txtCells_len tu) Hn6.out Hw6.out (txtCells_one tu) ?c1 ?c2 ?c3 ?_))
                    case c1 => unfold maxLen; omega
                    case c2 => omega
                    case c3 => omega
                    intro v' w7 hown' hgrow _
                    have Hb7 := Lib.hid (below_own B6.out Ho7.out hgrow (Nat.le_refl _) hsz6)
                    have Ho8 := Lib.hid hown'
                    clear hown' hgrow
                    go_wp2
                    go_roundw
                    case rel =>
                      refine ⟨b + 1, by omega, by go_num, ?_, Hb7.out⟩
                      rw [Hab.out, Hst.out, List.length_append, txtCells_append]; exact Ho8.out
                    case measure => simp [intOf]; omega
                  · obtain rfl : b = cur.length := by omega
                    go_wp2
                    go_roundw
                    case rel => exact ⟨a + 1, by omega, by go_num, by rw [Hnxa.out]; exact hown, hbel⟩
                    case measure => simp [intOf]; omega
              · obtain rfl : a = 3 := by omega
                obtain ⟨la, lc, rfl⟩ := own_form hown
                have HS := Lib.hid (str_sort Ho.out (by have := Hlen3.out; omega) w.heap.size (Nat.le_refl _) hbel.size)
                clear hown hbel
                go_wp2_with fail
                refine HS.out.mono ?_
                rintro e w6 ⟨rfl, ho2, hb2⟩
                have ho3 : w6.ownsRow w.heap.size 9 1 (.slice la (accT q 3 0).length lc) ((accT q 3 0).mergeSort fun x y => decide (x ≤ y)).length (txtCells ((accT q 3 0).mergeSort fun x y => decide (x ≤ y))) := by rw [List.length_mergeSort]; exact ho2
                have HC := Lib.hid (str_compact ho3 (by rw [List.length_mergeSort]; have := Hlen3.out; omega) w.heap.size (Nat.le_refl _))
                have HB2 := Lib.hid (Hbel.out.trans hb2)
                clear ho2 ho3 hb2
                go_wp2_with fail
                refine HC.out.mono ?_
                rintro e w7 ⟨v3, rfl, ho4, hb3⟩
                obtain ⟨la3, lc3, rfl⟩ := own_form ho4
                have HB3 := Lib.hid (HB2.out.trans hb3)
                have Ho4 := Lib.hid ho4
                clear ho4 hb3
                go_wp2
                go_ret
                refine ⟨_, rfl, HB3.out, ?_⟩
                rw [← Hend.out]
                exact Ho4.out

    · have Hown := Lib.hid (Hk3.out rfl)
      go_enter Tryz.func14, Tryz.ntmps14
      have a0 := A0.out
      have a1 := A1.out
      go_wp2_with fail
      refine (HP.out _ Hb0.out).mono ?_
      rintro e w2 ⟨v, rfl, hb2, hown⟩
      have B2 := Lib.hid (step_call Hb0.out hb2)
      have a0 := cell_call hb2 A0.out
      have A0 := Lib.hid a0
      have A1 := Lib.hid (cell_call hb2 A1.out)
      have A2 := Lib.hid (cell_call hb2 A2.out)
      have A3 := Lib.hid (cell_call hb2 A3.out)
      have A4 := Lib.hid (cell_call hb2 A4.out)
      clear a1 hb2 Hb0 HP
      obtain ⟨oa, oc, e, hcells⟩ := own_toks hown
      subst e
      generalize phraseL q.text = pl at *
      have Hcells := Lib.hid hcells
      clear hown hcells
      go_wp2
      clear a0
      go_loopw [31, 3] (fun x31 x3 wr => ∃ k : Nat, k ≤ pl.length ∧ x31 = .int .i64 k ∧ wr.ownsRow w2.heap.size 9 1 x3 k (txtCells ((pl.take k).map Prod.fst)) ∧ Below w2.heap.size w2 wr) (fun x31 _ _ => pl.length - (intOf x31).toNat)
      case atStart => exact ⟨0, by omega, rfl, World.ownsRow_nil _ _ _ _, Below.refl _ _⟩
      case round =>
        obtain ⟨k, hk, rfl, hown, hbel⟩ := hrel
        obtain ⟨la, lc, rfl⟩ := own_form hown
        by_cases h1 : k < pl.length
        · obtain ⟨b, off, e, hb, k1, k2⟩ := Hcells.out k h1
          first | subst e | (simp only [Option.some.injEq, Addr.mk.injEq, and_true] at e; obtain ⟨rfl, rfl⟩ := e)
          have k1 := cell_below hbel hb k1
          have k2 := cell_below hbel hb k2
          try simp only [Nat.zero_add] at k1 k2
          have hki : (k : Int) < (pl.length : Int) := by omega
          have Hnext : Hid ((pl.take (k + 1)).map Prod.fst = (pl.take k).map Prod.fst ++ [pl[k].1]) := Lib.hid (by rw [List.take_succ_eq_append_getElem h1, List.map_append]; rfl)
          generalize pl[k] = tk at k1 k2 Hnext
          obtain ⟨tt, pz⟩ := tk
          simp only at k1 k2 Hnext
          have Hbel := Lib.hid hbel
          have hsz := hbel.size
          have Ho := Lib.hid ((hown.alloc (.cells #[.string (B tt), .int .i64 (pz : Nat)] 44)).alloc (.cells #[.string (B tt)] 9))
          have hn1 := cell_one_new (wr.alloc (.cells #[.string (B tt), .int .i64 (pz : Nat)] 44)) (.string (B tt)) 9
          rw [World.size_alloc] at hn1
          have Hn1 := Lib.hid hn1
          clear hbel hown hn1
          go_wp2_with (at_builtin; go_must (refine wpList_append_own _ rfl _ _ 34 rfl w2.heap.size 9 i0 (.string ⟨#[]⟩) 1 16 Tryz.underlying34 hi hz0 hz1 hz2 rfl (by decide) _ _ _ rfl Ho.out ⟨wr.heap.size + 1, 0, none⟩ 1 1 [.string (B tt)] rfl rfl ?c1 ?c2 ?c3 ?c4 ?c5 ?_))
          case c1 => exact Hn1.out
          case c2 => simp [Value.oneCell']
          case c3 => unfold maxLen; omega
          case c4 => omega
          case c5 => simp; omega
          intro v' w5 hown' hgrow _
          have Hb5 := Lib.hid (below_own (step_at (step_at Hbel.out (.cells #[.string (B tt), .int .i64 (pz : Nat)] 44) hsz) (.cells #[.string (B tt)] 9) (by simp; omega)) Ho.out hgrow (Nat.le_refl _) (by simp; omega))
          have Ho5 := Lib.hid hown'
          clear hown' hgrow
          go_wp2
          go_roundw
          case rel =>
            refine ⟨k + 1, by omega, by go_num, ?_, Hb5.out⟩
            rw [Hnext.out]
            simpa [txtCells] using Ho5.out
          case measure => simp [intOf]; omega
        · obtain rfl : k = pl.length := by omega
          have hki : ¬ ((pl.length : Nat) : Int) < (pl.length : Int) := by omega
          rw [List.take_length, ← Hown.out] at hown
          have hown0 : wr.ownsRow w.heap.size 9 1 (.slice la pl.length lc) (accT q 0 0).length (txtCells (accT q 0 0)) := by
            rw [Hst0.out]
            have e : (ownT q).length = pl.length := by rw [Hown.out, List.length_map]
            rw [e]; exact own_base hown B2.out.size
          have hb3 := B2.out.trans (hbel.mono B2.out.size)
          have B3 := Lib.hid hb3
          have A0 := Lib.hid (cell_call hbel A0.out)
          have A1 := Lib.hid (cell_call hbel A1.out)
          have A2 := Lib.hid (cell_call hbel A2.out)
          have A3 := Lib.hid (cell_call hbel A3.out)
          have A4 := Lib.hid (cell_call hbel A4.out)
          have Hrow := Lib.hid hown0
          clear hown hown0 hb3 hbel
          have a0 := A0.out
          have a1 := A1.out
          have a2 := A2.out
          have a3 := A3.out
          have a4 := A4.out
          go_wp2_with fail
          refine (HL.out _).mono ?_
          rintro e w5 ⟨rfl, hb5⟩
          have B5 := Lib.hid (step_call B3.out hb5)
          have Hrow5 := Lib.hid (own_below Hrow.out hb5)
          clear a0 a1 a2 a3 a4 hb5 A0 A1 A2 A3 A4 Hrow B3 HL
          go_wp2
          go_loopw [43, 3] (fun x43 x3 wr => ∃ a : Nat, a ≤ 3 ∧ x43 = .int .i64 a ∧ wr.ownsRow w.heap.size 9 1 x3 (accT q a 0).length (txtCells (accT q a 0)) ∧ Below w.heap.size w wr) (fun x43 _ _ => 3 - (intOf x43).toNat)
          case atStart => exact ⟨0, by omega, rfl, by first | exact Hrow5.out | (have h := Hrow5.out; rw [hl1] at h; exact h), B5.out⟩
          case round =>
            obtain ⟨a, ha, rfl, hown, hbel⟩ := hrel
            have Hbel := Lib.hid hbel
            have Ho := Lib.hid hown
            by_cases ha3 : a < 3
            · obtain ⟨ob, oc2, hix, hrow⟩ := Hat.out a ha3
              have hai : (a : Int) < 3 := by omega
              obtain ⟨ob', oc', e, hlen, hcell⟩ := hrow.form
              simp only [Value.slice.injEq, true_and] at e
              obtain ⟨rfl, rfl⟩ := e
              have Hcell := Lib.hid hcell
              have Hnxa := Lib.hid (Hnx.out a ha3)
              have Hstepa := Lib.hid (Hstep.out a)
              have Hlena := Lib.hid (fun b => Hlen.out a b ha3)
              have Hk := Lib.hid (fun k hk => Hkd.out k (Hcur.out a ha3 k hk))
              clear hown hbel hrow hcell Hnx Hstep Hlen Hkd Hcur Hat Hlen3
              generalize curK q a = cur at *
              go_wp2
              go_loopw [48, 3] (fun x48 x3 wr => ∃ b : Nat, b ≤ cur.length ∧ x48 = .int .i64 b ∧ wr.ownsRow w.heap.size 9 1 x3 (accT q a b).length (txtCells (accT q a b)) ∧ Below w.heap.size w wr) (fun x48 _ _ => cur.length - (intOf x48).toNat)
              case atStart => exact ⟨0, by omega, rfl, Ho.out, Hbel.out⟩
              case round =>
                obtain ⟨b, hb, rfl, hown, hbel⟩ := hrel
                obtain ⟨la, lc, rfl⟩ := own_form hown
                by_cases hlt : b < cur.length
                · obtain ⟨bb, off, k, um, us, un, hnk, rfl, hbb, hcc, c0, c1, c2, c3, c4, hv⟩ := Hcell.out b hlt
                  have c0 := cell_below hbel hbb c0
                  have c1 := cell_below hbel hbb c1
                  have c2 := cell_below hbel hbb c2
                  have c3 := cell_below hbel hbb c3
                  have c4 := cell_below hbel hbb c4
                  have hki : (b : Int) < (cur.length : Int) := by omega
                  have Hst := Lib.hid (Hstepa.out b hlt)
                  obtain ⟨hsk, hck, hlk⟩ := Hk.out cur[b] (List.getElem_mem hlt)
                  have hacc := Hlena.out b
                  have hv2 := hv.below hbel
                  obtain ⟨pm, dm, rfl, _, _⟩ := hv.must.form
                  obtain ⟨ps, ds, rfl, _, _⟩ := hv.should.form
                  obtain ⟨pn, dn, rfl, _, _⟩ := hv.nots.form
                  have Hv := Lib.hid hv2
                  have HTr := Lib.hid (HT.out.below hbel)
                  have Hbel2 := Lib.hid hbel
                  have hsz := hbel.size
                  have Ho2 := Lib.hid hown
                  clear hbel hv hv2 hown
                  generalize cur[b] = u at *
                  have HC := Lib.hid (fun (w' : World) (hb : Below wr.heap.size wr w') => IH.out k (by omega) u _ _ _ w' (Hv.out.below hb) hsk hck (HTr.out.below hb))
                  unfold qV at HC
                  clear hsk hck
                  generalize termsQ u = tu at *
                  generalize hab : accT q a (b + 1) = ab1 at *
                  have Hab := Lib.hid hab
                  clear hab
                  generalize accT q a b = ab at *
                  go_wp2_with fail
                  refine (HC.out _ (step_new (Below.refl _ _) _)).mono ?_
                  rintro e w6 ⟨v6, rfl, hb6, ho6⟩
                  obtain ⟨oa6, oc6, rfl, hnil6, hnews6⟩ := own_txts ho6 rfl
                  have B6 := Lib.hid (step_call (step_new Hbel2.out _) hb6)
                  have Ho7 := Lib.hid (own_below (Ho2.out.alloc _) hb6)
                  have hsz6 := B6.out.size
                  have Hn6 := Lib.hid hnil6
                  have Hw6 := Lib.hid hnews6
                  clear ho6 hb6 hnil6 hnews6 c0 c1 c2 c3 c4
                  go_wp2_with (at_builtin; go_must (refine wpList_append_any _ rfl _ _ 34 rfl w.heap.size 9 i0 (.string ⟨#[]⟩) 1 16 Tryz.underlying34 hi hz0 hz1 hz2 rfl (by decide) _ _ _ rfl Ho7.out oa6 tu.length oc6 (txtCells tu) rfl (txtCells_len tu) Hn6.out Hw6.out (txtCells_one tu) ?c1 ?c2 ?c3 ?_))
                  case c1 => unfold maxLen; omega
                  case c2 => omega
                  case c3 => omega
                  intro v' w7 hown' hgrow _
                  have Hb7 := Lib.hid (below_own B6.out Ho7.out hgrow (Nat.le_refl _) hsz6)
                  have Ho8 := Lib.hid hown'
                  clear hown' hgrow
                  go_wp2
                  go_roundw
                  case rel =>
                    refine ⟨b + 1, by omega, by go_num, ?_, Hb7.out⟩
                    rw [Hab.out, Hst.out, List.length_append, txtCells_append]; exact Ho8.out
                  case measure => simp [intOf]; omega
                · obtain rfl : b = cur.length := by omega
                  go_wp2
                  go_roundw
                  case rel => exact ⟨a + 1, by omega, by go_num, by rw [Hnxa.out]; exact hown, hbel⟩
                  case measure => simp [intOf]; omega
            · obtain rfl : a = 3 := by omega
              obtain ⟨la, lc, rfl⟩ := own_form hown
              have HS := Lib.hid (str_sort Ho.out (by have := Hlen3.out; omega) w.heap.size (Nat.le_refl _) hbel.size)
              clear hown hbel
              go_wp2_with fail
              refine HS.out.mono ?_
              rintro e w6 ⟨rfl, ho2, hb2⟩
              have ho3 : w6.ownsRow w.heap.size 9 1 (.slice la (accT q 3 0).length lc) ((accT q 3 0).mergeSort fun x y => decide (x ≤ y)).length (txtCells ((accT q 3 0).mergeSort fun x y => decide (x ≤ y))) := by rw [List.length_mergeSort]; exact ho2
              have HC := Lib.hid (str_compact ho3 (by rw [List.length_mergeSort]; have := Hlen3.out; omega) w.heap.size (Nat.le_refl _))
              have HB2 := Lib.hid (Hbel.out.trans hb2)
              clear ho2 ho3 hb2
              go_wp2_with fail
              refine HC.out.mono ?_
              rintro e w7 ⟨v3, rfl, ho4, hb3⟩
              obtain ⟨la3, lc3, rfl⟩ := own_form ho4
              have HB3 := Lib.hid (HB2.out.trans hb3)
              have Ho4 := Lib.hid ho4
              clear ho4 hb3
              go_wp2
              go_ret
              refine ⟨_, rfl, HB3.out, ?_⟩
              rw [← Hend.out]
              exact Ho4.out
    · have Hown := Lib.hid (Hk0.out k2 k3)
      have q2 : (K == 2) = false := by rw [beq_eq_false_iff_ne]; omega
      have q3 : (K == 3) = false := by rw [beq_eq_false_iff_ne]; omega
      clear k2 k3
      go_enter Tryz.func14, Tryz.ntmps14
      have a0 := A0.out
      have a1 := A1.out
      go_wp2_with fail
      refine (HP.out _ Hb0.out).mono ?_
      rintro e w2 ⟨v, rfl, hb2, hown⟩
      have B2 := Lib.hid (step_call Hb0.out hb2)
      have a0 := cell_call hb2 A0.out
      have A0 := Lib.hid a0
      have A1 := Lib.hid (cell_call hb2 A1.out)
      have A2 := Lib.hid (cell_call hb2 A2.out)
      have A3 := Lib.hid (cell_call hb2 A3.out)
      have A4 := Lib.hid (cell_call hb2 A4.out)
      clear a1 hb2 Hb0 HP
      have B3 := B2
      have Hrow : Hid (w2.ownsRow w.heap.size 9 1 (.slice none 0 0) (accT q 0 0).length (txtCells (accT q 0 0))) := Lib.hid (by rw [Hst0.out, Hown.out]; exact World.ownsRow_nil _ _ _ _)
      clear hown a0
      have a0 := A0.out
      have a1 := A1.out
      have a2 := A2.out
      have a3 := A3.out
      have a4 := A4.out
      go_wp2_with fail
      refine (HL.out _).mono ?_
      rintro e w5 ⟨rfl, hb5⟩
      have B5 := Lib.hid (step_call B3.out hb5)
      have Hrow5 := Lib.hid (own_below Hrow.out hb5)
      clear a0 a1 a2 a3 a4 hb5 A0 A1 A2 A3 A4 Hrow B3 HL
      go_wp2
      go_loopw [43, 3] (fun x43 x3 wr => ∃ a : Nat, a ≤ 3 ∧ x43 = .int .i64 a ∧ wr.ownsRow w.heap.size 9 1 x3 (accT q a 0).length (txtCells (accT q a 0)) ∧ Below w.heap.size w wr) (fun x43 _ _ => 3 - (intOf x43).toNat)
      case atStart => exact ⟨0, by omega, rfl, by first | exact Hrow5.out | (have h := Hrow5.out; rw [hl1] at h; exact h), B5.out⟩
      case round =>
        obtain ⟨a, ha, rfl, hown, hbel⟩ := hrel
        have Hbel := Lib.hid hbel
        have Ho := Lib.hid hown
        by_cases ha3 : a < 3
        · obtain ⟨ob, oc2, hix, hrow⟩ := Hat.out a ha3
          have hai : (a : Int) < 3 := by omega
          obtain ⟨ob', oc', e, hlen, hcell⟩ := hrow.form
          simp only [Value.slice.injEq, true_and] at e
          obtain ⟨rfl, rfl⟩ := e
          have Hcell := Lib.hid hcell
          have Hnxa := Lib.hid (Hnx.out a ha3)
          have Hstepa := Lib.hid (Hstep.out a)
          have Hlena := Lib.hid (fun b => Hlen.out a b ha3)
          have Hk := Lib.hid (fun k hk => Hkd.out k (Hcur.out a ha3 k hk))
          clear hown hbel hrow hcell Hnx Hstep Hlen Hkd Hcur Hat Hlen3
          generalize curK q a = cur at *
          go_wp2
          go_loopw [48, 3] (fun x48 x3 wr => ∃ b : Nat, b ≤ cur.length ∧ x48 = .int .i64 b ∧ wr.ownsRow w.heap.size 9 1 x3 (accT q a b).length (txtCells (accT q a b)) ∧ Below w.heap.size w wr) (fun x48 _ _ => cur.length - (intOf x48).toNat)
          case atStart => exact ⟨0, by omega, rfl, Ho.out, Hbel.out⟩
          case round =>
            obtain ⟨b, hb, rfl, hown, hbel⟩ := hrel
            obtain ⟨la, lc, rfl⟩ := own_form hown
            by_cases hlt : b < cur.length
            · obtain ⟨bb, off, k, um, us, un, hnk, rfl, hbb, hcc, c0, c1, c2, c3, c4, hv⟩ := Hcell.out b hlt
              have c0 := cell_below hbel hbb c0
              have c1 := cell_below hbel hbb c1
              have c2 := cell_below hbel hbb c2
              have c3 := cell_below hbel hbb c3
              have c4 := cell_below hbel hbb c4
              have hki : (b : Int) < (cur.length : Int) := by omega
              have Hst := Lib.hid (Hstepa.out b hlt)
              obtain ⟨hsk, hck, hlk⟩ := Hk.out cur[b] (List.getElem_mem hlt)
              have hacc := Hlena.out b
              have hv2 := hv.below hbel
              obtain ⟨pm, dm, rfl, _, _⟩ := hv.must.form
              obtain ⟨ps, ds, rfl, _, _⟩ := hv.should.form
              obtain ⟨pn, dn, rfl, _, _⟩ := hv.nots.form
              have Hv := Lib.hid hv2
              have HTr := Lib.hid (HT.out.below hbel)
              have Hbel2 := Lib.hid hbel
              have hsz := hbel.size
              have Ho2 := Lib.hid hown
              clear hbel hv hv2 hown
              generalize cur[b] = u at *
              have HC := Lib.hid (fun (w' : World) (hb : Below wr.heap.size wr w') => IH.out k (by omega) u _ _ _ w' (Hv.out.below hb) hsk hck (HTr.out.below hb))
              unfold qV at HC
              clear hsk hck
              generalize termsQ u = tu at *
              generalize hab : accT q a (b + 1) = ab1 at *
              have Hab := Lib.hid hab
              clear hab
              generalize accT q a b = ab at *
              go_wp2_with fail
              refine (HC.out _ (step_new (Below.refl _ _) _)).mono ?_
              rintro e w6 ⟨v6, rfl, hb6, ho6⟩
              obtain ⟨oa6, oc6, rfl, hnil6, hnews6⟩ := own_txts ho6 rfl
              have B6 := Lib.hid (step_call (step_new Hbel2.out _) hb6)
              have Ho7 := Lib.hid (own_below (Ho2.out.alloc _) hb6)
              have hsz6 := B6.out.size
              have Hn6 := Lib.hid hnil6
              have Hw6 := Lib.hid hnews6
              clear ho6 hb6 hnil6 hnews6 c0 c1 c2 c3 c4
              go_wp2_with (at_builtin; go_must (refine wpList_append_any _ rfl _ _ 34 rfl w.heap.size 9 i0 (.string ⟨#[]⟩) 1 16 Tryz.underlying34 hi hz0 hz1 hz2 rfl (by decide) _ _ _ rfl Ho7.out oa6 tu.length oc6 (txtCells tu) rfl (txtCells_len tu) Hn6.out Hw6.out (txtCells_one tu) ?c1 ?c2 ?c3 ?_))
              case c1 => unfold maxLen; omega
              case c2 => omega
              case c3 => omega
              intro v' w7 hown' hgrow _
              have Hb7 := Lib.hid (below_own B6.out Ho7.out hgrow (Nat.le_refl _) hsz6)
              have Ho8 := Lib.hid hown'
              clear hown' hgrow
              go_wp2
              go_roundw
              case rel =>
                refine ⟨b + 1, by omega, by go_num, ?_, Hb7.out⟩
                rw [Hab.out, Hst.out, List.length_append, txtCells_append]; exact Ho8.out
              case measure => simp [intOf]; omega
            · obtain rfl : b = cur.length := by omega
              go_wp2
              go_roundw
              case rel => exact ⟨a + 1, by omega, by go_num, by rw [Hnxa.out]; exact hown, hbel⟩
              case measure => simp [intOf]; omega
        · obtain rfl : a = 3 := by omega
          obtain ⟨la, lc, rfl⟩ := own_form hown
          have HS := Lib.hid (str_sort Ho.out (by have := Hlen3.out; omega) w.heap.size (Nat.le_refl _) hbel.size)
          clear hown hbel
          go_wp2_with fail
          refine HS.out.mono ?_
          rintro e w6 ⟨rfl, ho2, hb2⟩
          have ho3 : w6.ownsRow w.heap.size 9 1 (.slice la (accT q 3 0).length lc) ((accT q 3 0).mergeSort fun x y => decide (x ≤ y)).length (txtCells ((accT q 3 0).mergeSort fun x y => decide (x ≤ y))) := by rw [List.length_mergeSort]; exact ho2
          have HC := Lib.hid (str_compact ho3 (by rw [List.length_mergeSort]; have := Hlen3.out; omega) w.heap.size (Nat.le_refl _))
          have HB2 := Lib.hid (Hbel.out.trans hb2)
          clear ho2 ho3 hb2
          go_wp2_with fail
          refine HC.out.mono ?_
          rintro e w7 ⟨v3, rfl, ho4, hb3⟩
          obtain ⟨la3, lc3, rfl⟩ := own_form ho4
          have HB3 := Lib.hid (HB2.out.trans hb3)
          have Ho4 := Lib.hid ho4
          clear ho4 hb3
          go_wp2
          go_ret
          refine ⟨_, rfl, HB3.out, ?_⟩
          rw [← Hend.out]
          exact Ho4.out
end Go.Proofs.YtlfhgmclnapmjaaGreatDoor
namespace Go.Proofs.YtlfhgmclnapmjaaGreatDoor
open Go.RowKit Go.Utf Go.Qry Go.Lib

/-- A slice of queries in a new block. -/
theorem qrow_new (w : World) (n : Nat) (ps : List (Qy × Value × Value × Value)) (t : TypeId) (hlen : ps.length ≤ 9223372036854775807) (h : ∀ p ∈ ps, QVal w n p.1 p.2.1 p.2.2.1 p.2.2.2) :
    QRow (w.alloc (.cells (qCells ps).toArray t)) (n + 1) (.slice (some ⟨w.heap.size, 0, none⟩) ps.length ps.length) (ps.map Prod.fst) := by
  have hb := step_new (Below.refl w.heap.size w) (.cells (qCells ps).toArray t)
  have hh := heap_alloc_new w (.cells (qCells ps).toArray t)
  refine .inr ⟨w.heap.size, 0, ps.length, by simp, by simp, hlen, by simp, fun i hi => ?_⟩
  have hi' : i < ps.length := by simpa using hi
  obtain ⟨e0, e1, e2, e3, e4⟩ := qCells_get ps i hi'
  have key : ∀ k, (w.alloc (.cells (qCells ps).toArray t)).cell? ⟨w.heap.size, 0 + i * 5 + k, none⟩ = (qCells ps)[i * 5 + k]? := fun k => by
    rw [Lib.cell_of_heap hh, Nat.zero_add, List.getElem?_toArray]
  have hv := h ps[i] (List.getElem_mem hi')
  simp only [List.getElem_map]
  exact ⟨hv.fit, _, _, _, (key 0).trans e0, (key 1).trans e1, (key 2).trans e2, (key 3).trans e3, (key 4).trans e4, hv.must.below hb, hv.should.below hb, hv.nots.below hb⟩
theorem qrow_one (w : World) (n : Nat) (q : Qy) (vm vs vn : Value) (t : TypeId) (h : QVal w n q vm vs vn) :
    QRow (w.alloc (.cells #[.int .i64 q.kind, .string (B q.text), vm, vs, vn] t)) (n + 1) (.slice (some ⟨w.heap.size, 0, none⟩) 1 1) [q] :=
  qrow_new w n [(q, vm, vs, vn)] t (by simp) (fun p hp => by rw [List.mem_singleton.1 hp]; exact h)
theorem qrow_two (w : World) (n : Nat) (a b : Qy) (am ah an bm bs bn : Value) (t : TypeId) (ha : QVal w n a am ah an) (hb : QVal w n b bm bs bn) :
    QRow (w.alloc (.cells #[.int .i64 a.kind, .string (B a.text), am, ah, an, .int .i64 b.kind, .string (B b.text), bm, bs, bn] t)) (n + 1) (.slice (some ⟨w.heap.size, 0, none⟩) 2 2) [a, b] :=
  qrow_new w n [(a, am, ah, an), (b, bm, bs, bn)] t (by simp) (fun p hp => by
    rcases List.mem_cons.1 hp with rfl | hp
    · exact ha
    · rw [List.mem_singleton.1 hp]; exact hb)
theorem fit_bool : FitQ (.mk 5 [] [] [] []) := ⟨by show (-9223372036854775808 : Int) ≤ 5; decide, by show (5 : Int) ≤ 9223372036854775807; decide, by show (0 : Nat) ≤ _; omega⟩
theorem fit_bool' (a b c : List Qy) : FitQ (.mk 5 [] a b c) := fit_bool
/-- A QBool of rows. -/
theorem bool_val {w : World} {n : Nat} {a b c : List Qy} {va vb vc : Value} (ha : QRow w n va a) (hb : QRow w n vb b) (hc : QRow w n vc c) : QVal w n (.mk 5 [] a b c) va vb vc := ⟨fit_bool' a b c, ha, hb, hc⟩
theorem bool_form (a b c : List Qy) (va vb vc : Value) : qV (.mk 5 [] a b c) va vb vc = .agg #[.int .i64 5, .string ⟨#[]⟩, va, vb, vc] := rfl
theorem bool_short {a b c : List Qy} (ha : shortR a = true) (hb : shortR b = true) (hc : shortR c = true) : shortB (.mk 5 [] a b c) = true := by
  rw [shortB_eq]
  show (decide (0 ≤ 1000) && (shortR a && (shortR b && shortR c))) = true
  rw [ha, hb, hc]; rfl
theorem shortR_of {l : List Qy} (h1 : l.length ≤ 1200) (h2 : ∀ k ∈ l, shortB k = true) : shortR l = true := by
  unfold shortR
  rw [decide_eq_true h1, List.all_eq_true.2 h2]; rfl
end Go.Proofs.YtlfhgmclnapmjaaGreatDoor
namespace Go.Proofs.YtlfhgmclnapmjaaGreatDoor
open Go.RowKit Go.Utf Go.Qry Go.Lib
attribute [local go_sem] Oper.semAt_some

theorem toks_bound (s : ByteArray) (hs : s.size ≤ 1000000) : ∀ x ∈ tokensL (L s), x.2 ≤ 1000000 := by
  intro x hx
  obtain ⟨i, hi, rfl⟩ := List.mem_iff_getElem.1 hx
  exact token_pos (L s) (by rw [length_L]; exact hs) i hi
theorem bare_val (w : World) (K : Int) (s : ByteArray) (hk : -9223372036854775808 ≤ K ∧ K ≤ 9223372036854775807) (hs : s.size ≤ 9223372036854775807) : QVal w 0 (.mk K (L s) [] [] []) (.slice none 0 0) (.slice none 0 0) (.slice none 0 0) :=
  ⟨⟨hk.1, hk.2, by show (L s).length ≤ _; rw [length_L]; exact hs⟩, QRow.nil w 0, QRow.nil w 0, QRow.nil w 0⟩
theorem bare_short (K : Int) (s : ByteArray) (h : s.size ≤ 1000) : shortB (.mk K (L s) [] [] []) = true := by
  rw [shortB_eq]
  have e : decide ((Qy.mk K (L s) [] [] []).text.length ≤ 1000) = true := decide_eq_true (by show (L s).length ≤ _; rw [length_L]; exact h)
  rw [e]
  rfl
theorem bare_form (K : Int) (s : ByteArray) : qV (.mk K (L s) [] [] []) (.slice none 0 0) (.slice none 0 0) (.slice none 0 0) = .agg #[.int .i64 K, .string s, .slice none 0 0, .slice none 0 0, .slice none 0 0] := by
  unfold qV
  show Value.agg #[.int .i64 K, .string (B (L s)), _, _, _] = _
  rw [B_L]
theorem bare_cnt (K : Int) (t : Tx) : cnt (.mk K t [] [] []) = 1 := by simp [cnt, cntL]
/-- query.Matches of a bare query. -/
theorem mat_at (K : Int) (hk : -9223372036854775808 ≤ K ∧ K ≤ 9223372036854775807) (s : ByteArray) (hs : s.size ≤ 1000) (l : Tks) (vl : Value) (hlb : ∀ x ∈ l, x.2 ≤ 1000000) (hnl : l.length ≤ 1000000) (b : Bool) (hb : matB l (.mk K (L s) [] [] []) = b) (w : World) (hl : Toks w vl l) (hT : Tabs w) :
    Calls Tryz.prog 17 #[.agg #[.int .i64 K, .string s, .slice none 0 0, .slice none 0 0, .slice none 0 0], vl] w fun e w' => e = .returned (.bool b) ∧ Below w.heap.size w w' := by
  subst hb
  have h := query_Matches l vl hlb hnl 0 (.mk K (L s) [] [] []) (.slice none 0 0) (.slice none 0 0) (.slice none 0 0) w (bare_val w K s hk (by omega)) (bare_short K s hs) hl hT
  rwa [bare_form] at h
theorem terms_of (K : Int) (hk : -9223372036854775808 ≤ K ∧ K ≤ 9223372036854775807) (s : ByteArray) (hs : s.size ≤ 1000) (ts : List Tx) (hts : termsQ (.mk K (L s) [] [] []) = ts) (w : World) (hT : Tabs w) :
    Calls Tryz.prog 14 #[.agg #[.int .i64 K, .string s, .slice none 0 0, .slice none 0 0, .slice none 0 0]] w fun e w' => ∃ v, e = .returned v ∧ Below w.heap.size w w' ∧ w'.ownsRow w.heap.size 9 1 v ts.length (txtCells ts) := by
  subst hts
  have h := query_Terms 0 (.mk K (L s) [] [] []) (.slice none 0 0) (.slice none 0 0) (.slice none 0 0) w (bare_val w K s hk (by omega)) (bare_short K s hs) (by rw [bare_cnt]; omega) hT
  rwa [bare_form] at h
theorem fox_bound : ∀ x ∈ foxL, x.2 ≤ 1000000 := by decide
theorem ex_tokens' : tokensL (L ⟨#[97, 32, 113, 117, 105, 99, 107, 32, 114, 101, 100, 32, 102, 111, 120]⟩) = foxL := ex_tokens
theorem toks11_at (s : ByteArray) (hs : s.size ≤ 1000000) (l : Tks) (h : tokensL (L s) = l) (w : World) :
    Calls Tryz.prog 16 #[.string s] w fun e w' => ∃ v, e = .returned v ∧ Below w.heap.size w w' ∧ Toks w' v l := by
  subst h
  exact (ref11_Tokens s hs w).mono fun e w' ⟨v, h1, h2, h3⟩ => ⟨v, h1, h2, own_toks h3⟩
theorem ex_a' : matB foxL (.mk 2 (L ⟨#[70, 111, 120, 33]⟩) [] [] []) = true := ex_a
theorem ex_b' : matB foxL (.mk 3 (L ⟨#[113, 117, 105, 99, 107, 32, 116, 104, 101, 32, 102, 111, 120]⟩) [] [] []) = true := ex_b
theorem ex_c' : matB foxL (.mk 3 (L ⟨#[102, 111, 120, 32, 113, 117, 105, 99, 107]⟩) [] [] []) = false := ex_c
theorem ex_d' : matB foxL (.mk 4 (L ⟨#[81, 85]⟩) [] [] []) = true := ex_d
theorem ex_terms' : termsQ (.mk 3 (L ⟨#[98, 32, 97, 49, 32, 98]⟩) [] [] []) = [[97, 49], [98]] := ex_terms
set_option maxRecDepth 100000 in
set_option maxHeartbeats 3200000 in
theorem law_shown17 (w : World) (hT : Tabs w) : Calls Tryz.prog 4 #[] w fun e w' => e = .returned (.bool true) ∧ Below w.heap.size w w' := by
  have HT := Lib.hid hT
  clear hT
  go_enter Tryz.func4, Tryz.ntmps4
  go_wp2_with fail
  refine (toks11_at _ (by decide +kernel) _ ex_tokens' w).mono ?_
  rintro e w1 ⟨v1, rfl, hb1, ht1⟩
  have Hb1 := Lib.hid hb1
  have Ht1 := Lib.hid ht1
  clear hb1 ht1
  go_wp2_with fail
  with_reducible refine (law_one 2 ⟨#[70, 111, 120, 33]⟩ w1).mono ?_
  rintro e w2 ⟨rfl, hb⟩
  have Hb2 := Lib.hid (step_call Hb1.out hb)
  have Ht2 := Lib.hid (Ht1.out.below hb)
  clear hb
  go_wp2_with fail
  with_reducible refine (mat_at 2 (by omega) ⟨#[70, 111, 120, 33]⟩ (by decide +kernel) foxL v1 fox_bound (by decide) true ex_a' w2 Ht2.out (HT.out.below Hb2.out)).mono ?_
  rintro e w3 ⟨rfl, hb⟩
  have Hb3 := Lib.hid (step_call Hb2.out hb)
  have Ht3 := Lib.hid (Ht2.out.below hb)
  clear hb
  go_wp2_with fail
  with_reducible refine (law_one 3 ⟨#[113, 117, 105, 99, 107, 32, 116, 104, 101, 32, 102, 111, 120]⟩ w3).mono ?_
  rintro e w4 ⟨rfl, hb⟩
  have Hb4 := Lib.hid (step_call Hb3.out hb)
  have Ht4 := Lib.hid (Ht3.out.below hb)
  clear hb
  go_wp2_with fail
  with_reducible refine (mat_at 3 (by omega) ⟨#[113, 117, 105, 99, 107, 32, 116, 104, 101, 32, 102, 111, 120]⟩ (by decide +kernel) foxL v1 fox_bound (by decide) true ex_b' w4 Ht4.out (HT.out.below Hb4.out)).mono ?_
  rintro e w5 ⟨rfl, hb⟩
  have Hb5 := Lib.hid (step_call Hb4.out hb)
  have Ht5 := Lib.hid (Ht4.out.below hb)
  clear hb
  go_wp2_with fail
  with_reducible refine (law_one 3 ⟨#[102, 111, 120, 32, 113, 117, 105, 99, 107]⟩ w5).mono ?_
  rintro e w6 ⟨rfl, hb⟩
  have Hb6 := Lib.hid (step_call Hb5.out hb)
  have Ht6 := Lib.hid (Ht5.out.below hb)
  clear hb
  go_wp2_with fail
  with_reducible refine (mat_at 3 (by omega) ⟨#[102, 111, 120, 32, 113, 117, 105, 99, 107]⟩ (by decide +kernel) foxL v1 fox_bound (by decide) false ex_c' w6 Ht6.out (HT.out.below Hb6.out)).mono ?_
  rintro e w7 ⟨rfl, hb⟩
  have Hb7 := Lib.hid (step_call Hb6.out hb)
  have Ht7 := Lib.hid (Ht6.out.below hb)
  clear hb
  go_wp2_with fail
  with_reducible refine (law_one 4 ⟨#[81, 85]⟩ w7).mono ?_
  rintro e w8 ⟨rfl, hb⟩
  have Hb8 := Lib.hid (step_call Hb7.out hb)
  have Ht8 := Lib.hid (Ht7.out.below hb)
  clear hb
  go_wp2_with fail
  with_reducible refine (mat_at 4 (by omega) ⟨#[81, 85]⟩ (by decide +kernel) foxL v1 fox_bound (by decide) true ex_d' w8 Ht8.out (HT.out.below Hb8.out)).mono ?_
  rintro e w9 ⟨rfl, hb⟩
  have Hb9 := Lib.hid (step_call Hb8.out hb)
  have Ht9 := Lib.hid (Ht8.out.below hb)
  clear hb
  go_wp2_with fail
  with_reducible refine (law_one 1 ⟨#[]⟩ w9).mono ?_
  rintro e w10 ⟨rfl, hb⟩
  have Hb10 := Lib.hid (step_call Hb9.out hb)
  clear hb
  go_wp2_with fail
  have hrow1 : QRow (w10.alloc (.cells #[.int .i64 1, .string ⟨#[]⟩, .slice none 0 0, .slice none 0 0, .slice none 0 0] 24)) 1 (.slice (some ⟨w10.heap.size, 0, none⟩) 1 1) [.mk 1 [] [] [] []] := qrow_one w10 0 (.mk 1 [] [] [] []) (.slice none 0 0) (.slice none 0 0) (.slice none 0 0) 24 (bare_val w10 1 ⟨#[]⟩ (by omega) (by decide))
  have Hrow1 := Lib.hid hrow1
  clear hrow1
  with_reducible refine (law_one 1 ⟨#[]⟩ _).mono ?_
  rintro e w11 ⟨rfl, hb⟩
  have Hrow2 := Lib.hid (Hrow1.out.below hb)
  have Hb11 := Lib.hid (step_call (step_new Hb10.out _) hb)
  clear hb
  go_wp2_with fail
  have hrow3 : QRow (w11.alloc (.cells #[.int .i64 1, .string ⟨#[]⟩, .slice none 0 0, .slice none 0 0, .slice none 0 0] 24)) 1 (.slice (some ⟨w11.heap.size, 0, none⟩) 1 1) [.mk 1 [] [] [] []] := qrow_one w11 0 (.mk 1 [] [] [] []) (.slice none 0 0) (.slice none 0 0) (.slice none 0 0) 24 (bare_val w11 1 ⟨#[]⟩ (by omega) (by decide))
  have hv := bool_val (Hrow2.out.below (step_new (Below.refl _ _) (.cells #[.int .i64 1, .string ⟨#[]⟩, .slice none 0 0, .slice none 0 0, .slice none 0 0] 24))) (QRow.nil _ 1) hrow3
  have HSz := query_Size 1 _ _ _ _ _ hv
  rw [show sizeN (.mk 5 [] [.mk 1 [] [] [] []] [] [.mk 1 [] [] [] []]) = (3, 2) from ex_size, bool_form] at HSz
  have HSz := Lib.hid HSz
  clear hrow3 hv
  refine HSz.out.mono ?_
  rintro e w12 ⟨rfl, hb⟩
  have Hb12 := Lib.hid (step_call (step_new Hb11.out _) hb)
  clear hb HSz
  go_wp2_with fail
  with_reducible refine (law_one 3 ⟨#[98, 32, 97, 49, 32, 98]⟩ w12).mono ?_
  rintro e w13 ⟨rfl, hb⟩
  have Hb13 := Lib.hid (step_call Hb12.out hb)
  clear hb
  go_wp2_with fail
  with_reducible refine (terms_of 3 (by omega) ⟨#[98, 32, 97, 49, 32, 98]⟩ (by decide +kernel) _ ex_terms' w13 (HT.out.below Hb13.out)).mono ?_
  rintro e w14 ⟨v14, rfl, hb, ho⟩
  have Hb14 := Lib.hid (step_call Hb13.out hb)
  have Ht14 := Lib.hid (own_row ho)
  clear hb ho
  go_wp2_with fail
  have hlit2 : Row (w14.alloc (.cells #[.string ⟨#[97, 49]⟩, .string ⟨#[98]⟩] 9)) (.slice (some ⟨w14.heap.size, 0, none⟩) 2 2) (txtV [[97, 49], [98]]) := Row.new w14 (txtV [[97, 49], [98]]) 9
  with_reducible refine (law_sameTexts17 v14 _ _ (by simp) _ (Ht14.out.below (step_new (Below.refl _ _) _)) hlit2).mono ?_
  rintro e w15 ⟨rfl, hb⟩
  have Hb15 := Lib.hid (step_call (step_new Hb14.out _) hb)
  clear hb
  go_wp2
  go_ret
  exact ⟨rfl, Hb15.out⟩
end Go.Proofs.YtlfhgmclnapmjaaGreatDoor
