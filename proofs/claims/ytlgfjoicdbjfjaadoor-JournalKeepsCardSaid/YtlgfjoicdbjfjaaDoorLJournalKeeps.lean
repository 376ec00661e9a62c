/- The law JournalKeeps returns true for every acts, turns and crashes. Condition: numbers and lengths fit an int. -/
import Derived.Test.YtlgfjoicdbjfjaaDoorJrnZ
namespace Go.Proofs.YtlgfjoicdbjfjaaDoor
open Go.RowKit Go.Wir Go.Blk Go.Frm Go.Jrn

theorem WantAt.news {w : World} {base g cap : Nat} {L : List Txt} (h : WantAt w base g cap L) : ∀ j u, (txtCells L)[j]? = some u → w.cell? ((⟨g, 0, none⟩ : Addr).add j) = some u := by
  intro j u hu
  have hj : j < 18 := by
    have h1 := (List.getElem?_eq_some_iff.1 hu).1
    rw [txtCells_length, h.1] at h1
    exact h1
  have h2 := (h.cell j hj).1
  have e : (txtCells L)[j]? = some (.string (B (L[j]'(by rw [h.1]; exact hj)))) := by simp [txtCells, h.1, hj]
  rw [hu] at e
  rw [show (⟨g, 0, none⟩ : Addr).add j = ⟨g, j, none⟩ by unfold Addr.add; split <;> simp_all, h2, ← Option.some.inj e]
theorem own_nilK (w : World) {base : Nat} (hb : base ≤ w.heap.size) : (w.alloc (.cells #[] 9)).ownsRow base 9 1 (.slice (some ⟨w.heap.size, 0, none⟩) 0 0) 0 [] :=
  ⟨by simp, .inr ⟨w.heap.size, 0, #[], rfl, hb, heap_alloc_new w _, Nat.le_refl _, by unfold maxLen; omega, by simp, by simp⟩⟩
theorem row_own {w : World} {v : Value} {vs : List Value} (h : Row w v vs) (h0 : 0 < vs.length) (q : Nat) (hq : v.ownBlock = some q) : q < w.heap.size := by
  rcases h with ⟨_, _, _, hn⟩ | ⟨b1, off1, cap1, rfl, _, hb1, _⟩
  · rw [hn] at h0; simp at h0
  · simp only [Value.ownBlock, Option.some.injEq] at hq
    omega
theorem h6_below {w w' : World} {K b : Nat} {v0 v1 v2 v3 v4 v5 : Value} (hb : Below K w w') (hK : b < K) (h : w.cell? ⟨b, 0, none⟩ = some v0 ∧ w.cell? ⟨b, 1, none⟩ = some v1 ∧ w.cell? ⟨b, 2, none⟩ = some v2 ∧ w.cell? ⟨b, 3, none⟩ = some v3 ∧ w.cell? ⟨b, 4, none⟩ = some v4 ∧ w.cell? ⟨b, 5, none⟩ = some v5) :
    w'.cell? ⟨b, 0, none⟩ = some v0 ∧ w'.cell? ⟨b, 1, none⟩ = some v1 ∧ w'.cell? ⟨b, 2, none⟩ = some v2 ∧ w'.cell? ⟨b, 3, none⟩ = some v3 ∧ w'.cell? ⟨b, 4, none⟩ = some v4 ∧ w'.cell? ⟨b, 5, none⟩ = some v5 :=
  ⟨cell_below hb hK h.1, cell_below hb hK h.2.1, cell_below hb hK h.2.2.1, cell_below hb hK h.2.2.2.1, cell_below hb hK h.2.2.2.2.1, cell_below hb hK h.2.2.2.2.2⟩
theorem s1_keepD {w w' : World} {b : Nat} {v : Value} (h : w.cell? ⟨b, 0, none⟩ = some v) (hb : w'.heap[b]? = w.drew.heap[b]?) : w'.cell? ⟨b, 0, none⟩ = some v := (World.cell?_of_block (a := ⟨b, 0, none⟩) (w := w) hb).trans h
set_option maxRecDepth 100000 in
set_option maxHeartbeats 12800000 in
theorem core_JournalKeeps (v : Value) (l : List Act4) (turn : Int) (a1 : Act4) (vk1 vb1 : Value) (again : Int) (a2 : Act4) (vk2 vb2 : Value) (w : World) (h : Acts4 w v l) (hl : l.length ≤ 9223372036854775807) (hf : ∀ a ∈ l, Fit4 a)
    (ht1 : -9223372036854775808 ≤ turn) (ht2 : turn ≤ 9223372036854775807) (hk1 : Row w vk1 (a1.keep.map Value.bool)) (hf1 : Fit4 a1) (hg1 : -9223372036854775808 ≤ again) (hg2 : again ≤ 9223372036854775807) (hk2 : Row w vk2 (a2.keep.map Value.bool)) (hf2 : Fit4 a2) :
    Calls Tryd.prog 5 #[v, .int .i64 turn, actV a1 vk1 vb1, .int .i64 again, actV a2 vk2 vb2] w fun e w' => e = .returned (.bool true) ∧ Below w.heap.size w w' := by
  have Hsh := Lib.hid (fun w => law_shown4 w)
  have H := Lib.hid h
  have Hf := Lib.hid hf
  obtain ⟨oa, c, rfl⟩ := h.form
  obtain ⟨o1, c1, rfl⟩ := row_len4 hk1
  obtain ⟨o2, c2, rfl⟩ := row_len4 hk2
  have Hk1 := Lib.hid hk1
  have Hk2 := Lib.hid hk2
  rw [List.length_map] at Hk1 Hk2 ⊢
  rw [List.length_map]
  have Hsm := Lib.hid (fun w' (b : Below w.heap.size w w') => law_small4 _ l w' (H.out.below b) hl Hf.out)
  have e1 : actV a1 (.slice o1 a1.keep.length c1) vb1 = .agg #[.int .i64 a1.op, .int .i64 a1.n, .int .i64 a1.pos, .slice o1 a1.keep.length c1, vb1, .string (B a1.data)] := rfl
  have e2 : actV a2 (.slice o2 a2.keep.length c2) vb2 = .agg #[.int .i64 a2.op, .int .i64 a2.n, .int .i64 a2.pos, .slice o2 a2.keep.length c2, vb2, .string (B a2.data)] := rfl
  rw [e1, e2]
  have b1 := step_new (Below.refl w.heap.size w) (.cells #[.int .i64 a1.op, .int .i64 a1.n, .int .i64 a1.pos, .slice o1 a1.keep.length c1, vb1, .string (B a1.data)] 40)
  have b2 := step_new b1 (.cells #[.int .i64 a2.op, .int .i64 a2.n, .int .i64 a2.pos, .slice o2 a2.keep.length c2, vb2, .string (B a2.data)] 40)
  have q1 := boxed6 w a1 (.slice o1 a1.keep.length c1) vb1 40
  have q2 := boxed6 (w.alloc (.cells #[.int .i64 a1.op, .int .i64 a1.n, .int .i64 a1.pos, .slice o1 a1.keep.length c1, vb1, .string (B a1.data)] 40)) a2 (.slice o2 a2.keep.length c2) vb2 40
  have q1' := h6_call (step_new (Below.refl _ _) (.cells #[.int .i64 a2.op, .int .i64 a2.n, .int .i64 a2.pos, .slice o2 a2.keep.length c2, vb2, .string (B a2.data)] 40)) q1
  rw [World.size_alloc] at q2
  have hz : w.heap.size + 2 ≤ ((w.alloc (.cells #[.int .i64 a1.op, .int .i64 a1.n, .int .i64 a1.pos, .slice o1 a1.keep.length c1, vb1, .string (B a1.data)] 40)).alloc (.cells #[.int .i64 a2.op, .int .i64 a2.n, .int .i64 a2.pos, .slice o2 a2.keep.length c2, vb2, .string (B a2.data)] 40)).heap.size := by simp
  have Hz := Lib.hid hz
  have BW := Lib.hid b2
  have X1 := Lib.hid q1'
  have X2 := Lib.hid q2
  clear h hf hk1 hk2 e1 e2 b1 b2 q1 q2 q1' hz
  obtain ⟨f1a, f1b⟩ := hf1.n
  obtain ⟨f1c, f1d⟩ := hf1.pos
  obtain ⟨f2a, f2b⟩ := hf2.n
  obtain ⟨f2c, f2d⟩ := hf2.pos
  have hkl1 := hf1.keep
  have hkl2 := hf2.keep
  clear hf1 hf2
  go_enter Tryd.func5, Tryd.ntmps5
  go_wp2_with fail
  refine (Hsh.out _).mono ?_
  rintro e w1 ⟨rfl, hb⟩
  generalize ((w.alloc (.cells #[.int .i64 a1.op, .int .i64 a1.n, .int .i64 a1.pos, .slice o1 a1.keep.length c1, vb1, .string (B a1.data)] 40)).alloc (.cells #[.int .i64 a2.op, .int .i64 a2.n, .int .i64 a2.pos, .slice o2 a2.keep.length c2, vb2, .string (B a2.data)] 40)) = W at *
  have HB := Lib.hid hb
  have HBg := Lib.hid (law_begin W w1 hb)
  obtain ⟨x0, x1, x2, x3, x4, x5⟩ := h6_call hb X1.out
  obtain ⟨y0, y1, y2, y3, y4, y5⟩ := h6_call hb X2.out
  clear hb
  go_wp2_with fail
  refine (Hsm.out _ (BW.out.trans (HB.out.mono BW.out.size))).mono ?_
  rintro e w2 ⟨rfl, rfl⟩
  by_cases hbad : smallB4 l = false ∨ 200 < a1.keep.length ∨ 200 < a2.keep.length
  · generalize smallB4 l = sm at *
    have k1 : (200 : Int) < (a1.keep.length : Int) ∨ ¬ (200 : Int) < (a1.keep.length : Int) := by omega
    have k2 : (200 : Int) < (a2.keep.length : Int) ∨ ¬ (200 : Int) < (a2.keep.length : Int) := by omega
    have K1 := Lib.hid k1
    have K2 := Lib.hid k2
    have Kb := Lib.hid hbad
    clear hbad k1 k2
    cases sm <;> rcases K1.out with k1 | k1 <;> rcases K2.out with k2 | k2
    all_goals
      first
      | (exfalso; have := Kb.out; simp at this; omega)
      | (go_wp2; go_ret; exact ⟨rfl, BW.out.trans (HB.out.mono BW.out.size)⟩)
  · have hsm : smallB4 l = true := by cases hq : smallB4 l; exact absurd (.inl hq) hbad; rfl
    have hb1 : a1.keep.length ≤ 200 := by omega
    have hb2 : a2.keep.length ≤ 200 := by omega
    have k200a : ¬ (200 : Int) < (a1.keep.length : Int) := by omega
    have k200b : ¬ (200 : Int) < (a2.keep.length : Int) := by omega
    obtain ⟨hl30, hok⟩ := small_ok4 hsm Hf.out
    rw [hsm]
    have Hok := Lib.hid hok
    clear hbad hsm hok
    go_wp2_with fail
    refine HBg.out.mono ?_
    rintro e w3 ⟨g, od, d0, jb, j0, wb, rfl, lw3, hrd, hfu, hpd⟩
    have HPt : Hid (∀ w : World, Calls Tryd.prog 20 #[.int .i64 turn, .int .i64 ((400 : Nat) : Int)] w fun e w' => e = .returned (.int .i64 ((pickJ turn 400 : Nat) : Int)) ∧ w = w') := Lib.hid (fun w => law_pick turn 400 ht1 ht2 (by omega) (by omega) w)
    have HPg : Hid (∀ w : World, Calls Tryd.prog 20 #[.int .i64 again, .int .i64 ((100 : Nat) : Int)] w fun e w' => e = .returned (.int .i64 ((pickJ again 100 : Nat) : Int)) ∧ w = w') := Lib.hid (fun w => law_pick again 100 hg1 hg2 (by omega) (by omega) w)
    have hpt := pickJ_lt turn 400 (by omega)
    have hpg := pickJ_lt again 100 (by omega)
    generalize pickJ turn 400 = pt at *
    generalize pickJ again 100 = pg at *
    obtain ⟨i0, i1, _⟩ := lw3.cells
    have L3 : Hid (LiveW W w3.drew g od d0 jb j0 wb noneR) := Lib.hid (lw3.drew 1).1
    have HFu := Lib.hid (live_Fuse L3.out.jr.live ((pt : Nat) : Int))
    have R4 := Lib.hid (hrd.fuse ((pt : Nat) : Int) (by omega))
    generalize fuseD d0 ((pt : Nat) : Int) = d4 at *
    clear lw3 hrd hfu hpd HBg
    go_wp2_with fail
    go_region_held3 (fun w' => w'.cell? ⟨wb, 0, none⟩ = some (.pointer (some ⟨g, 0, none⟩)))
      (first | with_reducible exact s1_drewJ i0 | with_reducible exact s1_keepD i0 hw4 | with_reducible assumption | fail)
      (first
        | (go_at_call 20; go_must (refine (HPt.out _).mono ?_); rintro e wq ⟨rfl, rfl⟩)
        | (go_at_call 19; go_must (refine HFu.out.mono ?_); rintro e w4 ⟨rfl, l4, k4⟩; have hw4 := k4 wb (.inl (.inr rfl)); have L4 := Lib.hid (LiveW.dev L3.out l4 k4).1)
        | fail)
    clear hw4 k4 l4
    go_wp2
    obtain ⟨si, hsi, hsz0, hsz1, hsz2⟩ := info_parts Tryd.info_strF
    have HFu0 := Lib.hid (fun w => law_full 0 w)
    have HzF : Hid (fullT 0 = zeros) := Lib.hid rfl
    rw [HzF.out] at HFu0
    go_loopw [16, 15] (fun x4 x3 wr => ∃ k : Nat, k ≤ 18 ∧ x4 = .int .i64 (52 + (k : Int)) ∧ wr.ownsRow w4.heap.size 9 1 x3 k (txtCells (List.replicate k zeros)) ∧ Below w4.heap.size w4 wr) (fun x4 _ _ => 70 - (intOf x4).toNat)
    case atStart => exact ⟨0, by omega, rfl, World.ownsRow_nil _ _ _ _, Below.refl _ _⟩
    case round =>
      obtain ⟨k, hk, rfl, hown, hbel⟩ := hrel
      obtain ⟨ax, cx, rfl⟩ := own_form hown
      have hbz := hbel.size
      have Hown := Lib.hid hown
      have Hbel := Lib.hid hbel
      clear hown hbel
      by_cases hlt : k < 18
      · have Hsn : Hid (txtCells (List.replicate (k + 1) zeros) = txtCells (List.replicate k zeros) ++ [.string (B zeros)]) := Lib.hid (by rw [List.replicate_succ']; simp [txtCells])
        have hki : (52 : Int) + (k : Int) < 70 := by omega
        generalize zeros = zz at *
        go_wp2_with fail
        refine (HFu0.out _).mono ?_
        rintro e w5 ⟨rfl, hb5⟩
        have Ho5 := Lib.hid ((own_kept Hown.out hb5).alloc (.cells #[.string (B zz)] 9))
        have Hb5 := Lib.hid (step_new (Hbel.out.trans (hb5.mono Hbel.out.size)) (.cells #[.string (B zz)] 9))
        clear hb5
        go_wp2_with (at_builtin; go_must (refine wpList_append_own _ rfl _ _ 44 rfl w4.heap.size 9 si (.string ⟨#[]⟩) 1 16 Tryd.underlying44 hsi hsz0 hsz1 hsz2 rfl (by decide) _ _ _ rfl Ho5.out ⟨w5.heap.size, 0, none⟩ 1 1 [.string (B zz)] rfl rfl ?c1 ?c2 ?c3 ?c4 ?c5 ?_))
        case c1 => exact cell1_new w5 _ _
        case c2 => simp [Value.oneCell']
        case c3 => unfold maxLen; omega
        case c4 => omega
        case c5 => exact Hb5.out.size
        intro v' w6 hown' hgrow _
        have Hb6 := Lib.hid (Hb5.out.grown hgrow Hb5.out.size (fun q hq => (Ho5.out.lt q hq).1))
        rw [← Hsn.out] at hown'
        have Hown6 := Lib.hid hown'
        clear hown' hgrow
        go_wp2
        go_roundw
        case rel => exact ⟨k + 1, by omega, by go_num, Hown6.out, Hb6.out⟩
        case measure => simp [intOf]; omega
      · obtain rfl : k = 18 := by omega
        have hL18 : homeM (fun _ => zeros) = List.replicate 18 zeros := rfl
        have Hm0 := Lib.hid (homeM_length (fun _ => zeros))
        rw [← hL18] at Hown
        obtain ⟨gm, cm, hvm, hgm1, hgm2, hWm⟩ := WantAt.of_own Hm0.out Hown.out
        simp only [Value.slice.injEq, true_and] at hvm
        obtain ⟨rfl, rfl⟩ := hvm
        have hWm2 := hWm.below (step_new (Below.refl wr.heap.size wr) (.cells #[] 9))
        have Hn0 := Lib.hid (own_nilK wr (Nat.le_refl wr.heap.size))
        have HnW := Lib.hid hWm2.news
        have Hoc : Hid (∀ u ∈ txtCells (homeM (fun _ => zeros)), u.oneCell' = true) := Lib.hid (fun u hu => by
          obtain ⟨t, _, rfl⟩ := List.mem_map.1 hu
          rfl)
        have Hlc : Hid ((txtCells (homeM (fun _ => zeros))).length = 18 * 1) := Lib.hid (by rw [txtCells_length, Hm0.out])
        have Hcz := Lib.hid (hWm.cell 0 (by omega)).2.2.2
        have HWm := Lib.hid hWm
        have Hg1 := Lib.hid hgm1
        have Hg2 := Lib.hid hgm2
        have Hbn := Lib.hid (step_new Hbel.out (.cells #[] 9))
        clear hL18 hWm hWm2 hgm1 hgm2
        generalize hM0 : homeM (fun _ => zeros) = M0 at *
        have HM0 := Lib.hid hM0
        clear hM0
        go_wp2_with (at_builtin; go_must (refine wpList_append_own _ rfl _ _ 44 rfl wr.heap.size 9 si (.string ⟨#[]⟩) 1 16 Tryd.underlying44 hsi hsz0 hsz1 hsz2 rfl (by decide) _ _ _ rfl Hn0.out ⟨gm, 0, none⟩ 18 cx (txtCells M0) rfl Hlc.out HnW.out Hoc.out ?c3 ?c4 ?c5 ?_))
        case c3 => unfold maxLen; omega
        case c4 => omega
        case c5 => simp
        intro v7 w7 hown7 hgrow7 _
        obtain ⟨ga, capa, rfl, hga1, hga2, hWa⟩ := WantAt.of_own Hm0.out hown7
        have hgm7 : w7.heap[gm]? = (wr.alloc (.cells #[] 9)).heap[gm]? := hgrow7.block gm (by have := Hg2.out; simp; omega) (fun e => by simp only [Value.ownBlock, Option.some.injEq] at e; have := Hg2.out; omega)
        have hWm7 := (HWm.out.below (step_new (Below.refl wr.heap.size wr) (.cells #[] 9))).keep hgm7
        have hb7 := Hbn.out.grown hgrow7 Hbn.out.size (fun q hq => by have := (Hn0.out.lt q hq).1; omega)
        have HWa : Hid (WantAt w7 w4.heap.size ga capa M0) := Lib.hid ⟨hWa.1, own_base hWa.2 hbz⟩
        have HWm7 := Lib.hid hWm7
        have HL7 := Lib.hid (LiveW.moreA L4.out (A := fun q => q = gm ∨ q = ga) hb7 (fun q hq => by
          rcases hq with rfl | rfl
          · exact ⟨Hg1.out, (hWm7.cell 0 (by omega)).2.2.1⟩
          · exact ⟨Nat.le_trans hbz hga1, hga2⟩))
        have Hne : Hid (gm ≠ ga) := Lib.hid (by have := Hg2.out; omega)
        clear hown7 hgrow7 hWa hgm7 hWm7 hb7 hga1 hga2
        have L7 : Hid (LiveW W w7 g od d4 jb j0 wb (fun q => q = gm ∨ q = ga)) := Lib.hid (HL7.out.less (fun q hq => .inr hq))
        have Hgw4 := Lib.hid hbz
        clear hlt hk HL7
        go_wp2
        go_loopw [18, 15] (fun x18 x15 wr => ∃ k : Nat, k ≤ l.length ∧ x18 = .int .i64 k ∧ ∃ d j m fs gm cm, x15 = .slice (some ⟨gm, 0, none⟩) 18 cm ∧ Ready 70 m (2 + 2 * k) d j fs ∧ WantAt wr w4.heap.size gm cm (homeM m) ∧ WantAt wr w4.heap.size ga capa (homeM m) ∧ gm ≠ ga ∧ LiveW W wr g od d jb j wb (fun q => q = gm ∨ q = ga)) (fun x18 _ _ => l.length - (intOf x18).toNat)
        case atStart => exact ⟨0, by omega, rfl, d4, j0, _, [], gm, cx, rfl, R4.out, by rw [HM0.out]; exact HWm7.out, by rw [HM0.out]; exact HWa.out, Hne.out, L7.out⟩
        case round =>
          obtain ⟨k, hk, rfl, d, j, m, fs, gm, cm, rfl, hrd, hwm, hwa, hne, hL⟩ := hrel
          obtain ⟨wo, rfl⟩ : ∃ wo : World, wo = wr := ⟨_, rfl⟩
          have Rd := Lib.hid hrd
          have Wm := Lib.hid hwm
          have Wa := Lib.hid hwa
          have Hn := Lib.hid hne
          have L := Lib.hid hL
          obtain ⟨i0, i1, _⟩ := hL.cells
          have Hsz := Lib.hid hL.size
          have Hga := Lib.hid (hwa.cell 0 (by omega)).2.2.1
          clear hwm hwa hne hL
          by_cases hlt : k < l.length
          · obtain ⟨b, off, cap, hv, hb, hcell⟩ := H.out.row (by omega)
            simp only [Value.slice.injEq] at hv
            obtain ⟨rfl, _, rfl⟩ := hv
            obtain ⟨vk, vb, e0, e1, e2, e3, e4, e5, hr, hr2⟩ := ActAt4.below (hcell k hlt) (BW.out.trans (Hsz.out.mono BW.out.size))
            have ha := Hok.out l[k] (List.getElem_mem hlt)
            have HWr := Lib.hid (law_writes l[k] ha vk vb wo hr2)
            have Hcm := Lib.hid (fun (w' : World) (b : Below wo.heap.size wo w') (v : Value) (hv : w'.ownsRow wo.heap.size 47 2 v (writesJ l[k]).length (wrI (writesJ l[k]))) => w_commitV L.out b hrd.ok hrd.toUp.fit (by omega) (by have := hrd.few; omega) (writesJ l[k]) v hv (writesJ_fitW ha) (by have := writesJ_length l[k]; omega))
            obtain ⟨hle, Hst⟩ := hrd.three (l := writesJ l[k]) (by omega)
            have HS := Lib.hid Hst
            have hwl := writesJ_length l[k]
            have hk1 : (k : Int) < (l.length : Int) := by omega
            clear hcell hr hr2 ha hrd Hst
            generalize l[k] = a at *
            generalize writesJ a = x at *
            go_wp2_with fail
            refine HWr.out.mono ?_
            rintro e w8 ⟨vx, rfl, hb8, hown8⟩
            have HC := Lib.hid (Hcm.out w8 hb8 vx hown8)
            obtain ⟨ax, cx, rfl⟩ := own_form hown8
            obtain ⟨i0, i1, _⟩ := (L.out.call hb8).1.cells
            clear hb8 hown8
            go_wp2_with fail
            refine HC.out.mono ?_
            rintro e w9 ⟨rfl, _, own9, k9, l9⟩
            have hwa9 := Wa.out.keep (k9 ga (.inr rfl))
            have hwm9 := Wm.out.keep (k9 gm (.inl rfl))
            have Wa9 := Lib.hid hwa9
            have Wm9 := Lib.hid hwm9
            have L9 := Lib.hid l9
            have O9 := Lib.hid own9
            clear hwa9 hwm9 l9 own9 k9
            rcases HS.out with ⟨q1, q2, fs', q3⟩ | ⟨hg, q1, fs', q3⟩ | ⟨hg, q1, q3⟩
            · generalize (commit d j x).1 = ec at *
              have n0 : ((ec : Int) != 0) = true := by rw [bne_iff_ne]; omega
              have n4 : ((ec : Int) != 4) = true := by rw [bne_iff_ne]; omega
              have Q3 := Lib.hid q3
              clear q1 q2 q3
              go_wp2
              go_roundw
              case rel => exact ⟨k + 1, by omega, by go_num, _, _, m, fs', gm, cm, rfl, by have := Q3.out; rwa [show 2 + 2 * (k + 1) = 2 + 2 * k + 2 by omega], Wm9.out, Wa9.out, Hn.out, L9.out.less (fun q hq => .inl hq)⟩
              case measure => simp [intOf]; omega
            · rw [q1]
              have Q3 := Lib.hid q3
              have G := Lib.hid hg
              clear q1 q3 hg
              go_wp2
              go_loopw [21] (fun x21 wr => ∃ q : Nat, q ≤ x.length ∧ x21 = .int .i64 q ∧ Chg (fun b => b = ga) w9 wr ∧ WantAt wr w4.heap.size ga capa (setsL (homeM m) (x.take q))) (fun x21 _ => x.length - (intOf x21).toNat)
              case atStart => exact ⟨0, by omega, rfl, Chg.refl _ _, by rw [List.take_zero]; exact Wa9.out⟩
              case round =>
                obtain ⟨q, hq, rfl, hch, hwa⟩ := hrel
                by_cases hlt : q < x.length
                · have ho := own_chg O9.out hch (fun z hz e => by have := (O9.out.lt z hz).1; have := Hga.out; omega)
                  obtain ⟨oa', c', hv', hcs⟩ := (own_wrI ho).form
                  simp only [Value.slice.injEq] at hv'
                  obtain ⟨rfl, _, rfl⟩ := hv'
                  obtain ⟨bx, offx, rfl, hbx, u0, u1⟩ := hcs q hlt
                  have hcp : x.length ≤ cx := by
                    rcases ho.2 with ⟨hn, _⟩ | ⟨_, _, _, he, _, _, h1, _⟩
                    · cases hn
                    · simp only [Value.slice.injEq] at he
                      obtain ⟨_, _, rfl⟩ := he
                      exact h1
                  have hp := G.out.2.2 x[q] (List.getElem_mem hlt)
                  have hsn := setsL_snoc (homeM m) (x.take q) x[q]
                  rw [← List.take_succ_eq_append_getElem hlt] at hsn
                  have Hsn := Lib.hid hsn
                  have Hch := Lib.hid hch
                  have Hwa := Lib.hid hwa
                  have hq1 : (q : Int) < (x.length : Int) := by omega
                  have hc1 : (x.length : Int) ≤ (cx : Int) := by omega
                  clear ho hcs hsn hch hwa
                  generalize x[q] = p at *
                  obtain ⟨n, tx⟩ := p
                  simp only at hp u0 u1 Hsn
                  have hn0 : (0 : Int) ≤ n - 52 := by omega
                  have hn1 : n - 52 < (18 : Int) := by omega
                  have hn3 : IntKind.i64.wrap (n - 52) = n - 52 := IntWalk.i64_in _ (by omega)
                  obtain ⟨mv, m0, m1, m3⟩ : ∃ u, wr.cell? ⟨ga, (n - 52).toNat, none⟩ = some u ∧ wr.frozen? ⟨ga, (n - 52).toNat, none⟩ = false ∧ 18 ≤ capa := ⟨_, (Hwa.out.cell (n - 52).toNat (by omega)).1, (Hwa.out.cell (n - 52).toNat (by omega)).2.1, (Hwa.out.cell (n - 52).toNat (by omega)).2.2.2⟩
                  have u0d : wr.drew.cell? ⟨bx, offx + q * 2, none⟩ = some (.int .i64 n) := u0
                  have u1d : wr.drew.cell? ⟨bx, offx + q * 2 + 1, none⟩ = some (.string (B tx)) := u1
                  have m0d : wr.drew.cell? ⟨ga, (n - 52).toNat, none⟩ = some mv := m0
                  have m1d : wr.drew.frozen? ⟨ga, (n - 52).toNat, none⟩ = false := m1
                  have Hset := Lib.hid (Hwa.out.set (n - 52).toNat (by omega) tx)
                  have Hcs := Lib.hid (Hch.out.set ga (n - 52).toNat (.string (B tx)) rfl)
                  clear hp hcp hbx
                  go_wp2
                  go_region
                  go_wp2
                  go_roundw
                  case rel => exact ⟨q + 1, by omega, by go_num, ⟨Hcs.out.os, Hcs.out.tape, Hcs.out.output, Hcs.out.size, Hcs.out.block⟩, by rw [Hsn.out]; exact Hset.out⟩
                  case measure => simp [intOf]; omega
                · obtain rfl : q = x.length := by omega
                  rw [List.take_of_length_le (Nat.le_refl _), ← homeM_upd x m G.out.2.2] at hwa
                  have hgm := hch.block gm (Wm9.out.cell 0 (by omega)).2.2.1 Hn.out
                  have WmT := Lib.hid (Wm9.out.keep hgm)
                  have WaT := Lib.hid hwa
                  have LT0 := Lib.hid ((L9.out.chgR hch (fun b hb => by
                    subst hb
                    exact ⟨.inl (.inr rfl), Nat.le_trans L4.out.size.size (Wa9.out.2.lt b rfl).1⟩)).less (R' := fun q => q = gm ∨ q = ga) (fun q hq => .inl hq))
                  clear hlt hq hch hwa hgm
                  have HnW := Lib.hid (WaT.out.below (step_new (Below.refl wr.heap.size wr) (.cells #[] 9))).news
                  have Hoc : Hid (∀ u ∈ txtCells (homeM (upd m x)), u.oneCell' = true) := Lib.hid (fun u hu => by
                    obtain ⟨t, _, rfl⟩ := List.mem_map.1 hu
                    rfl)
                  have Hml := Lib.hid (homeM_length (upd m x))
                  have Hlc : Hid ((txtCells (homeM (upd m x))).length = 18 * 1) := Lib.hid (by rw [txtCells_length, Hml.out])
                  have Hn0 := Lib.hid (own_nilK wr (Nat.le_refl wr.heap.size))
                  have hb0 := step_new (Below.refl wr.heap.size wr) (.cells #[] 9)
                  have Hb0 := Lib.hid hb0
                  clear hb0
                  generalize hMu : homeM (upd m x) = Mu at *
                  have HMu := Lib.hid hMu
                  clear hMu
                  go_wp2_with (at_builtin; go_must (refine wpList_append_own _ rfl _ _ 44 rfl wr.heap.size 9 si (.string ⟨#[]⟩) 1 16 Tryd.underlying44 hsi hsz0 hsz1 hsz2 rfl (by decide) _ _ _ rfl Hn0.out ⟨ga, 0, none⟩ 18 capa (txtCells Mu) rfl Hlc.out HnW.out Hoc.out ?c3 ?c4 ?c5 ?_))
                  case c3 => unfold maxLen; omega
                  case c4 => omega
                  case c5 => simp
                  intro v10 w10 hown10 hgrow10 _
                  obtain ⟨gb, capb, rfl, hgb1, hgb2, hWb⟩ := WantAt.of_own Hml.out hown10
                  have hb10 := Hb0.out.grown hgrow10 Hb0.out.size (fun q hq => (Hn0.out.lt q hq).1)
                  have HWb : Hid (WantAt w10 w4.heap.size gb capb Mu) := Lib.hid ⟨hWb.1, own_base hWb.2 (by have := (WaT.out.2.lt ga rfl).1; have := (WaT.out.2.lt ga rfl).2; omega)⟩
                  have HWc := Lib.hid (WaT.out.below hb10)
                  have HLn := Lib.hid ((LT0.out.moreA (A := fun q => q = gb) hb10 (fun q hq => by subst hq; exact ⟨hgb1, hgb2⟩)).less (R' := fun q => q = gb ∨ q = ga) (fun q hq => by
                    rcases hq with rfl | rfl
                    · exact .inr rfl
                    · exact .inl (.inr rfl)))
                  have Hnb : Hid (gb ≠ ga) := Lib.hid (by have := (WaT.out.2.lt ga rfl).2; omega)
                  clear hown10 hgrow10 hWb hb10 hgb1 hgb2
                  go_wp2
                  go_roundw
                  case rel => exact ⟨k + 1, by omega, by go_num, _, _, upd m x, fs', gb, capb, rfl, by have := Q3.out; rwa [show 2 + 2 * (k + 1) = 2 + 2 * k + 2 by omega], by rw [HMu.out]; exact HWb.out, by rw [HMu.out]; exact HWc.out, Hnb.out, HLn.out⟩
                  case measure => simp [intOf]; omega
            · rw [q1]
              have Q3 := Lib.hid q3
              have G := Lib.hid hg
              clear q1 q3 hg
              go_wp2
              go_loopw [21] (fun x21 wr => ∃ q : Nat, q ≤ x.length ∧ x21 = .int .i64 q ∧ Chg (fun b => b = ga) w9 wr ∧ WantAt wr w4.heap.size ga capa (setsL (homeM m) (x.take q))) (fun x21 _ => x.length - (intOf x21).toNat)
              case atStart => exact ⟨0, by omega, rfl, Chg.refl _ _, by rw [List.take_zero]; exact Wa9.out⟩
              case round =>
                obtain ⟨q, hq, rfl, hch, hwa⟩ := hrel
                by_cases hlt : q < x.length
                · have ho := own_chg O9.out hch (fun z hz e => by have := (O9.out.lt z hz).1; have := Hga.out; omega)
                  obtain ⟨oa', c', hv', hcs⟩ := (own_wrI ho).form
                  simp only [Value.slice.injEq] at hv'
                  obtain ⟨rfl, _, rfl⟩ := hv'
                  obtain ⟨bx, offx, rfl, hbx, u0, u1⟩ := hcs q hlt
                  have hcp : x.length ≤ cx := by
                    rcases ho.2 with ⟨hn, _⟩ | ⟨_, _, _, he, _, _, h1, _⟩
                    · cases hn
                    · simp only [Value.slice.injEq] at he
                      obtain ⟨_, _, rfl⟩ := he
                      exact h1
                  have hp := G.out.2.2 x[q] (List.getElem_mem hlt)
                  have hsn := setsL_snoc (homeM m) (x.take q) x[q]
                  rw [← List.take_succ_eq_append_getElem hlt] at hsn
                  have Hsn := Lib.hid hsn
                  have Hch := Lib.hid hch
                  have Hwa := Lib.hid hwa
                  have hq1 : (q : Int) < (x.length : Int) := by omega
                  have hc1 : (x.length : Int) ≤ (cx : Int) := by omega
                  clear ho hcs hsn hch hwa
                  generalize x[q] = p at *
                  obtain ⟨n, tx⟩ := p
                  simp only at hp u0 u1 Hsn
                  have hn0 : (0 : Int) ≤ n - 52 := by omega
                  have hn1 : n - 52 < (18 : Int) := by omega
                  have hn3 : IntKind.i64.wrap (n - 52) = n - 52 := IntWalk.i64_in _ (by omega)
                  obtain ⟨mv, m0, m1, m3⟩ : ∃ u, wr.cell? ⟨ga, (n - 52).toNat, none⟩ = some u ∧ wr.frozen? ⟨ga, (n - 52).toNat, none⟩ = false ∧ 18 ≤ capa := ⟨_, (Hwa.out.cell (n - 52).toNat (by omega)).1, (Hwa.out.cell (n - 52).toNat (by omega)).2.1, (Hwa.out.cell (n - 52).toNat (by omega)).2.2.2⟩
                  have u0d : wr.drew.cell? ⟨bx, offx + q * 2, none⟩ = some (.int .i64 n) := u0
                  have u1d : wr.drew.cell? ⟨bx, offx + q * 2 + 1, none⟩ = some (.string (B tx)) := u1
                  have m0d : wr.drew.cell? ⟨ga, (n - 52).toNat, none⟩ = some mv := m0
                  have m1d : wr.drew.frozen? ⟨ga, (n - 52).toNat, none⟩ = false := m1
                  have Hset := Lib.hid (Hwa.out.set (n - 52).toNat (by omega) tx)
                  have Hcs := Lib.hid (Hch.out.set ga (n - 52).toNat (.string (B tx)) rfl)
                  clear hp hcp hbx
                  go_wp2
                  go_region
                  go_wp2
                  go_roundw
                  case rel => exact ⟨q + 1, by omega, by go_num, ⟨Hcs.out.os, Hcs.out.tape, Hcs.out.output, Hcs.out.size, Hcs.out.block⟩, by rw [Hsn.out]; exact Hset.out⟩
                  case measure => simp [intOf]; omega
                · obtain rfl : q = x.length := by omega
                  rw [List.take_of_length_le (Nat.le_refl _), ← homeM_upd x m G.out.2.2] at hwa
                  have hgm := hch.block gm (Wm9.out.cell 0 (by omega)).2.2.1 Hn.out
                  have WmT := Lib.hid (Wm9.out.keep hgm)
                  have WaT := Lib.hid hwa
                  have LT0 := Lib.hid ((L9.out.chgR hch (fun b hb => by
                    subst hb
                    exact ⟨.inl (.inr rfl), Nat.le_trans L4.out.size.size (Wa9.out.2.lt b rfl).1⟩)).less (R' := fun q => q = gm ∨ q = ga) (fun q hq => .inl hq))
                  clear hlt hq hch hwa hgm
                  obtain ⟨wt, rfl⟩ : ∃ wt : World, wt = wr := ⟨_, rfl⟩
                  have KE := Lib.hid (Q3.out.mono (K' := 100) (by omega))
                  have LT := Lib.hid LT0.out.old
                  generalize (commit d j x).2.1 = dT at *
                  generalize (commit d j x).2.2 = jT at *
                  obtain ⟨m1, hm1⟩ : ∃ m1, m1 = m := ⟨_, rfl⟩
                  obtain ⟨m2, hm2⟩ : ∃ m2, m2 = upd m x := ⟨_, rfl⟩
                  rw [← hm2] at WaT KE
                  rw [← hm1] at WmT KE
                  clear hm1 hm2 Q3 LT0
                  obtain ⟨i0, i1, _⟩ := LT.out.cells
                  have ltd := (LT.out.drew 1).1
                  have LTd : Hid (LiveW W wt.drew g od dT jb jT wb (fun k => (k = gm ∨ k = ga) ∨ k < W.heap.size)) := Lib.hid ltd
                  obtain ⟨x0, x1, x2, x3, x4, x5⟩ := h6_below LT.out.size (by have := Hz.out; omega) X1.out
                  have Hbw := Lib.hid (BW.out.trans (LTd.out.size.mono BW.out.size))
                  obtain ⟨k1, k2, k3, kS⟩ := KE.out
                  have HKo := Lib.hid (KEnd.open1 KE.out (by omega) a1.keep a1.pos a1.n ((pg : Nat) : Int) (by omega))
                  have HCr := Lib.hid (live_Crash LTd.out.jr.live k1 (by omega) (.slice o1 a1.keep.length c1) a1.keep a1.pos a1.n (Hk1.out.below Hbw.out) (fun h0 q hq => .inl (Nat.lt_of_lt_of_le (row_own Hk1.out (by simpa using h0) q hq) BW.out.size)) (by omega))
                  clear k1 k2 k3 kS ltd
                  go_wp2
                  go_region_held3 (fun w' => w'.cell? ⟨wb, 0, none⟩ = some (.pointer (some ⟨g, 0, none⟩)) ∧ w'.cell? ⟨w.heap.size, 1, none⟩ = some (.int .i64 a1.n) ∧ w'.cell? ⟨w.heap.size, 2, none⟩ = some (.int .i64 a1.pos) ∧ w'.cell? ⟨w.heap.size, 3, none⟩ = some (.slice o1 a1.keep.length c1))
                    (first | with_reducible exact h4x_drew i0 x1 x2 x3 | with_reducible exact h4x_blk hw2 hx2 (h4x_drew i0 x1 x2 x3) | with_reducible assumption | fail)
                    (first
                      | (go_at_call 22; go_must (refine HCr.out.mono ?_); rintro e w11 ⟨rfl, l11, k11⟩; have L11 := Lib.hid l11; have K11 := Lib.hid k11; have hw2 := k11 wb (.inl (.inr rfl)); have hx2 := k11 w.heap.size (.inl (.inl (.inr (by have := Hz.out; omega)))))
                      | fail)
                  have Wm11 := Lib.hid (WmT.out.keep (K11.out gm (.inl (.inl (.inl (.inl rfl))))))
                  have Wa11 := Lib.hid (WaT.out.keep (K11.out ga (.inl (.inl (.inl (.inr rfl))))))
                  have lw11 := (LiveW.dev LTd.out L11.out K11.out).1
                  obtain ⟨i0, i1, _⟩ := lw11.cells
                  have LW11 : Hid (LiveW W w11.drew g od (crashD dT a1.keep a1.pos a1.n) jb jT wb (fun k => (k = gm ∨ k = ga) ∨ k < W.heap.size)) := Lib.hid (lw11.drew 1).1
                  have HFu := Lib.hid (live_Fuse LW11.out.jr.live ((pg : Nat) : Int))
                  generalize crashD dT a1.keep a1.pos a1.n = dc at *
                  obtain ⟨mm, hmm, k1, k2, k3, k4, k5⟩ := HKo.out
                  have Hmm := Lib.hid hmm
                  have K1 := Lib.hid k1
                  have K2 := Lib.hid k2
                  have K3 := Lib.hid k3
                  have K4 := Lib.hid k4
                  have K5 := Lib.hid k5
                  clear hmm k1 k2 k3 k4 k5 lw11 x0 x1 x2 x3 x4 x5 HKo
                  generalize fuseD dc ((pg : Nat) : Int) = df at *
                  go_wp2
                  go_region_held3 (fun w' => w'.cell? ⟨wb, 0, none⟩ = some (.pointer (some ⟨g, 0, none⟩)))
                    (first | with_reducible exact s1_drewJ i0 | with_reducible exact s1_keepD i0 hw12 | with_reducible assumption | fail)
                    (first
                      | (go_at_call 20; go_must (refine (HPg.out _).mono ?_); rintro e wq ⟨rfl, rfl⟩)
                      | (go_at_call 19; go_must (refine HFu.out.mono ?_); rintro e w12 ⟨rfl, l12, k12⟩; have hw12 := k12 wb (.inl (.inr rfl)); have L12 := Lib.hid (LiveW.dev LW11.out l12 k12).1; have K12 := Lib.hid k12)
                      | fail)
                  have Wm12 := Lib.hid (Wm11.out.keep (K12.out gm (.inl (.inl (.inl (.inl rfl))))))
                  have Wa12 := Lib.hid (Wa11.out.keep (K12.out ga (.inl (.inl (.inl (.inr rfl))))))
                  obtain ⟨i0, i1, _⟩ := L12.out.cells
                  have HOp := Lib.hid (jr_Open L12.out.jr.live K1.out (by rw [K3.out]; omega) (by rw [K2.out]; exact Nat.zero_le _) (by omega) K4.out)
                  have C12 := Lib.hid L12.out.blk
                  clear hw12 k12 l12
                  rcases K5.out with ⟨d', j', q1, q2, q3, q4⟩ | ⟨d', q1, q2, q3, q4, q5⟩
                  · rw [q1] at HOp
                    have okF := Lib.hid q2
                    have peF := Lib.hid q3
                    have hmF := Lib.hid q4
                    have hmm := Lib.hid Hmm.out
                    clear q1 q2 q3 q4
                    go_wp2_with fail
                    refine HOp.out.mono ?_
                    rintro e wF ⟨k13, hpost⟩
                    rw [if_pos rfl] at hpost
                    obtain ⟨ja, jx, hjx, rfl, lj, _⟩ := hpost
                    simp only [Option.some.injEq] at hjx
                    subst hjx
                    have c3 := (k13 wb (.inl (.inr rfl))).trans C12.out
                    have hwmF := Wm12.out.keep (k13 gm (.inl (.inl (.inl (.inl rfl)))))
                    have hwaF := Wa12.out.keep (k13 ga (.inl (.inl (.inl (.inr rfl)))))
                    clear k13
                    have hnr := LT.out.nr
                    have hset := LiveW.jset (LiveC.less lj (R' := fun k => ((k = gm ∨ k = ga) ∨ k < W.heap.size) ∨ k = wb) (fun k hk => .inl hk)) hnr LT.out.lo jb c3
                    have hcw : Chg (fun k => k = wb) wF (wF.setCell ⟨wb, 1, none⟩ (.pointer (some ⟨ja, 0, none⟩))) := (Chg.refl _ wF).set wb 1 _ rfl
                    have hwm := hwmF.keep (hcw.block gm (hwmF.cell 0 (by omega)).2.2.1 (fun e => hnr (.inl (.inl e.symm))))
                    have hwa := hwaF.keep (hcw.block ga (hwaF.cell 0 (by omega)).2.2.1 (fun e => hnr (.inl (.inr e.symm))))
                    have f3' : wF.cell? ⟨wb, 1, none⟩ = some (.pointer (some ⟨jb, 0, none⟩)) := by rw [Lib.cell_of_heap c3]; rfl
                    have f3 : wF.frozen? ⟨wb, 1, none⟩ = false := Lib.frozen_of_heap c3 1
                    have Hset := Lib.hid hset
                    have Hwm := Lib.hid hwm
                    have Hwa := Lib.hid hwa
                    have hh1 := law_home hset okF.out (by rw [peF.out]; exact Nat.zero_le _)
                    rw [hmF.out] at hh1
                    have HH1 := Lib.hid hh1
                    clear lj c3 hnr hset hcw hwm hwa hwmF hwaF hh1
                    go_wp2_with fail
                    refine HH1.out.mono ?_
                    rintro e w14 ⟨vh, rfl, own14, b14⟩
                    obtain ⟨ah, ch, rfl⟩ := own_form own14
                    have hs1 := law_sameTexts4 (.slice ah 18 ch) (.slice (some ⟨gm, 0, none⟩) 18 cm) (homeM mm) (homeM m1) (by rw [homeM_length]; omega) (by rw [homeM_length]; omega) w14 (own_row (by rw [homeM_length]; exact own14)) (Hwm.out.below b14).row
                    have HS1 := Lib.hid hs1
                    have L14 := Lib.hid (Hset.out.call b14).1
                    have A14 := Lib.hid (Hwa.out.below b14)
                    clear own14 b14 hs1
                    go_wp2_with fail
                    refine HS1.out.mono ?_
                    rintro e w15 ⟨rfl, b15⟩
                    have l15 := (L14.out.call b15).1
                    have A15 := Lib.hid (A14.out.below b15)
                    have hh2 := law_home l15 okF.out (by rw [peF.out]; exact Nat.zero_le _)
                    rw [hmF.out] at hh2
                    have HH2 := Lib.hid hh2
                    have L15 := Lib.hid l15
                    clear hh2 l15 b15
                    go_wp2_with fail
                    refine HH2.out.mono ?_
                    rintro e w16 ⟨vh2, rfl, own16, b16⟩
                    obtain ⟨ah2, ch2, rfl⟩ := own_form own16
                    have hs2 := law_sameTexts4 (.slice ah2 18 ch2) (.slice (some ⟨ga, 0, none⟩) 18 capa) (homeM mm) (homeM m2) (by rw [homeM_length]; omega) (by rw [homeM_length]; omega) w16 (own_row (by rw [homeM_length]; exact own16)) (A15.out.below b16).row
                    have HS2 := Lib.hid hs2
                    have L16 := Lib.hid (L15.out.call b16).1
                    clear own16 b16 hs2
                    go_wp2_with fail
                    refine HS2.out.mono ?_
                    rintro e w17 ⟨rfl, b17⟩
                    have S17 := Lib.hid (BW.out.trans ((L16.out.call b17).1.size.mono BW.out.size))
                    have hor : decide (homeM mm = homeM m1) = true ∨ decide (homeM mm = homeM m2) = true := by
                      rcases hmm.out with e | e
                      · exact .inl (decide_eq_true (by rw [e]))
                      · exact .inr (decide_eq_true (by rw [e]))
                    generalize decide (homeM mm = homeM m1) = p1 at *
                    generalize decide (homeM mm = homeM m2) = p2 at *
                    clear b17
                    cases p1 <;> cases p2
                    · exact absurd hor (by simp)
                    all_goals
                      go_wp2
                      go_ret
                      exact ⟨rfl, S17.out⟩
                  · rw [q1] at HOp
                    obtain ⟨d2, j2, r1, r2, r3, r4, r5, r6, r7, r8⟩ := q5 a2.keep a2.pos a2.n
                    have okD := Lib.hid q2
                    have peD := Lib.hid q3
                    have R1 := Lib.hid r1
                    have R2 := Lib.hid r2
                    have R3 := Lib.hid r3
                    have R4' := Lib.hid r4
                    have R5 := Lib.hid r5
                    have okF := Lib.hid r6
                    have peF := Lib.hid r7
                    have hmF := Lib.hid r8
                    have hmm := Lib.hid Hmm.out
                    clear q1 q2 q3 q4 q5 r1 r2 r3 r4 r5 r6 r7 r8
                    go_wp2_with fail
                    refine HOp.out.mono ?_
                    rintro e w13 ⟨k13, hpost⟩
                    rw [if_neg (by omega)] at hpost
                    obtain ⟨rfl, l13⟩ := hpost
                    have L13 := (LiveW.dev L12.out l13 k13).1
                    have Wm13 := Lib.hid (Wm12.out.keep (k13 gm (.inl (.inl (.inl (.inl rfl))))))
                    have Wa13 := Lib.hid (Wa12.out.keep (k13 ga (.inl (.inl (.inl (.inr rfl))))))
                    obtain ⟨i0, i1, _⟩ := L13.cells
                    have LD13 : Hid (LiveW W w13.drew g od d' jb jT wb (fun k => (k = gm ∨ k = ga) ∨ k < W.heap.size)) := Lib.hid (L13.drew 1).1
                    obtain ⟨y0, y1, y2, y3, y4, y5⟩ := h6_below L13.size (by have := Hz.out; omega) X2.out
                    have Hbw2 := Lib.hid (BW.out.trans (LD13.out.size.mono BW.out.size))
                    have HCr2 := Lib.hid (live_Crash LD13.out.jr.live okD.out (by have := peD.out; omega) (.slice o2 a2.keep.length c2) a2.keep a2.pos a2.n (Hk2.out.below Hbw2.out) (fun h0 q hq => .inl (Nat.lt_of_lt_of_le (row_own Hk2.out (by simpa using h0) q hq) BW.out.size)) (by omega))
                    clear k13 l13 L13
                    generalize crashD d' a2.keep a2.pos a2.n = de at *
                    go_wp2
                    go_region_held3 (fun w' => w'.cell? ⟨wb, 0, none⟩ = some (.pointer (some ⟨g, 0, none⟩)) ∧ w'.cell? ⟨w.heap.size + 1, 1, none⟩ = some (.int .i64 a2.n) ∧ w'.cell? ⟨w.heap.size + 1, 2, none⟩ = some (.int .i64 a2.pos) ∧ w'.cell? ⟨w.heap.size + 1, 3, none⟩ = some (.slice o2 a2.keep.length c2))
                      (first | with_reducible exact h4x_drew i0 y1 y2 y3 | with_reducible exact h4x_blk hw2 hx2 (h4x_drew i0 y1 y2 y3) | with_reducible assumption | fail)
                      (first
                        | (go_at_call 22; go_must (refine HCr2.out.mono ?_); rintro e w18 ⟨rfl, l18, k18⟩; have L18 := Lib.hid l18; have K18 := Lib.hid k18; have hw2 := k18 wb (.inl (.inr rfl)); have hx2 := k18 (w.heap.size + 1) (.inl (.inl (.inr (by have := Hz.out; omega)))))
                        | fail)
                    have Wm18 := Lib.hid (Wm13.out.keep (K18.out gm (.inl (.inl (.inl (.inl rfl))))))
                    have Wa18 := Lib.hid (Wa13.out.keep (K18.out ga (.inl (.inl (.inl (.inr rfl))))))
                    have lw18 := (LiveW.dev LD13.out L18.out K18.out).1
                    obtain ⟨i0, i1, _⟩ := lw18.cells
                    have C18 := Lib.hid lw18.blk
                    have HOp2 := Lib.hid (jr_Open lw18.jr.live R1.out (by rw [R3.out]; omega) (by rw [R2.out]; exact Nat.zero_le _) (by omega) R4'.out)
                    rw [R5.out] at HOp2
                    clear hw2 hx2 y0 y1 y2 y3 y4 y5 lw18 l18 k18
                    go_wp2_with fail
                    refine HOp2.out.mono ?_
                    rintro e wF ⟨k19, hpost⟩
                    rw [if_pos rfl] at hpost
                    obtain ⟨ja, jx, hjx, rfl, lj, _⟩ := hpost
                    simp only [Option.some.injEq] at hjx
                    subst hjx
                    have c3 := (k19 wb (.inl (.inr rfl))).trans C18.out
                    have hwmF := Wm18.out.keep (k19 gm (.inl (.inl (.inl (.inl rfl)))))
                    have hwaF := Wa18.out.keep (k19 ga (.inl (.inl (.inl (.inr rfl)))))
                    clear k19
                    have hnr := LT.out.nr
                    have hset := LiveW.jset (LiveC.less lj (R' := fun k => ((k = gm ∨ k = ga) ∨ k < W.heap.size) ∨ k = wb) (fun k hk => .inl hk)) hnr LT.out.lo jb c3
                    have hcw : Chg (fun k => k = wb) wF (wF.setCell ⟨wb, 1, none⟩ (.pointer (some ⟨ja, 0, none⟩))) := (Chg.refl _ wF).set wb 1 _ rfl
                    have hwm := hwmF.keep (hcw.block gm (hwmF.cell 0 (by omega)).2.2.1 (fun e => hnr (.inl (.inl e.symm))))
                    have hwa := hwaF.keep (hcw.block ga (hwaF.cell 0 (by omega)).2.2.1 (fun e => hnr (.inl (.inr e.symm))))
                    have f3' : wF.cell? ⟨wb, 1, none⟩ = some (.pointer (some ⟨jb, 0, none⟩)) := by rw [Lib.cell_of_heap c3]; rfl
                    have f3 : wF.frozen? ⟨wb, 1, none⟩ = false := Lib.frozen_of_heap c3 1
                    have Hset := Lib.hid hset
                    have Hwm := Lib.hid hwm
                    have Hwa := Lib.hid hwa
                    have hh1 := law_home hset okF.out (by rw [peF.out]; exact Nat.zero_le _)
                    rw [hmF.out] at hh1
                    have HH1 := Lib.hid hh1
                    clear lj c3 hnr hset hcw hwm hwa hwmF hwaF hh1
                    go_wp2_with fail
                    refine HH1.out.mono ?_
                    rintro e w14 ⟨vh, rfl, own14, b14⟩
                    obtain ⟨ah, ch, rfl⟩ := own_form own14
                    have hs1 := law_sameTexts4 (.slice ah 18 ch) (.slice (some ⟨gm, 0, none⟩) 18 cm) (homeM mm) (homeM m1) (by rw [homeM_length]; omega) (by rw [homeM_length]; omega) w14 (own_row (by rw [homeM_length]; exact own14)) (Hwm.out.below b14).row
                    have HS1 := Lib.hid hs1
                    have L14 := Lib.hid (Hset.out.call b14).1
                    have A14 := Lib.hid (Hwa.out.below b14)
                    clear own14 b14 hs1
                    go_wp2_with fail
                    refine HS1.out.mono ?_
                    rintro e w15 ⟨rfl, b15⟩
                    have l15 := (L14.out.call b15).1
                    have A15 := Lib.hid (A14.out.below b15)
                    have hh2 := law_home l15 okF.out (by rw [peF.out]; exact Nat.zero_le _)
                    rw [hmF.out] at hh2
                    have HH2 := Lib.hid hh2
                    have L15 := Lib.hid l15
                    clear hh2 l15 b15
                    go_wp2_with fail
                    refine HH2.out.mono ?_
                    rintro e w16 ⟨vh2, rfl, own16, b16⟩
                    obtain ⟨ah2, ch2, rfl⟩ := own_form own16
                    have hs2 := law_sameTexts4 (.slice ah2 18 ch2) (.slice (some ⟨ga, 0, none⟩) 18 capa) (homeM mm) (homeM m2) (by rw [homeM_length]; omega) (by rw [homeM_length]; omega) w16 (own_row (by rw [homeM_length]; exact own16)) (A15.out.below b16).row
                    have HS2 := Lib.hid hs2
                    have L16 := Lib.hid (L15.out.call b16).1
                    clear own16 b16 hs2
                    go_wp2_with fail
                    refine HS2.out.mono ?_
                    rintro e w17 ⟨rfl, b17⟩
                    have S17 := Lib.hid (BW.out.trans ((L16.out.call b17).1.size.mono BW.out.size))
                    have hor : decide (homeM mm = homeM m1) = true ∨ decide (homeM mm = homeM m2) = true := by
                      rcases hmm.out with e | e
                      · exact .inl (decide_eq_true (by rw [e]))
                      · exact .inr (decide_eq_true (by rw [e]))
                    generalize decide (homeM mm = homeM m1) = p1 at *
                    generalize decide (homeM mm = homeM m2) = p2 at *
                    clear b17
                    cases p1 <;> cases p2
                    · exact absurd hor (by simp)
                    all_goals
                      go_wp2
                      go_ret
                      exact ⟨rfl, S17.out⟩
          · obtain rfl : k = l.length := by omega
            obtain ⟨wt, rfl⟩ : ∃ wt : World, wt = wo := ⟨_, rfl⟩
            have KE := Lib.hid ((KEnd.of_ready hrd).mono (K' := 100) (by omega))
            have LT := Lib.hid L.out.old
            have WmT := Lib.hid Wm.out
            have WaT := Lib.hid Wa.out
            obtain ⟨dT, hdT⟩ : ∃ dT, dT = d := ⟨_, rfl⟩
            obtain ⟨jT, hjT⟩ : ∃ jT, jT = j := ⟨_, rfl⟩
            obtain ⟨m1, hm1⟩ : ∃ m1, m1 = m := ⟨_, rfl⟩
            obtain ⟨m2, hm2⟩ : ∃ m2, m2 = m := ⟨_, rfl⟩
            have KE' : Hid (KEnd 100 dT m1 m2) := Lib.hid (by rw [hdT, hm1, hm2]; exact KE.out)
            have WmT' : Hid (WantAt wt w4.heap.size gm cm (homeM m1)) := Lib.hid (by rw [hm1]; exact WmT.out)
            have WaT' : Hid (WantAt wt w4.heap.size ga capa (homeM m2)) := Lib.hid (by rw [hm2]; exact WaT.out)
            rw [← hdT, ← hjT] at LT
            clear KE WmT WaT hdT hjT hm1 hm2 hrd hk Rd Wm Wa L hlt
            have KE := Lib.hid KE'.out
            have WmT := Lib.hid WmT'.out
            have WaT := Lib.hid WaT'.out
            clear KE' WmT' WaT'
            obtain ⟨i0, i1, _⟩ := LT.out.cells
            have ltd := (LT.out.drew 1).1
            have LTd : Hid (LiveW W wt.drew g od dT jb jT wb (fun k => (k = gm ∨ k = ga) ∨ k < W.heap.size)) := Lib.hid ltd
            obtain ⟨x0, x1, x2, x3, x4, x5⟩ := h6_below LT.out.size (by have := Hz.out; omega) X1.out
            have Hbw := Lib.hid (BW.out.trans (LTd.out.size.mono BW.out.size))
            obtain ⟨k1, k2, k3, kS⟩ := KE.out
            have HKo := Lib.hid (KEnd.open1 KE.out (by omega) a1.keep a1.pos a1.n ((pg : Nat) : Int) (by omega))
            have HCr := Lib.hid (live_Crash LTd.out.jr.live k1 (by omega) (.slice o1 a1.keep.length c1) a1.keep a1.pos a1.n (Hk1.out.below Hbw.out) (fun h0 q hq => .inl (Nat.lt_of_lt_of_le (row_own Hk1.out (by simpa using h0) q hq) BW.out.size)) (by omega))
            clear k1 k2 k3 kS ltd
            go_wp2
            go_region_held3 (fun w' => w'.cell? ⟨wb, 0, none⟩ = some (.pointer (some ⟨g, 0, none⟩)) ∧ w'.cell? ⟨w.heap.size, 1, none⟩ = some (.int .i64 a1.n) ∧ w'.cell? ⟨w.heap.size, 2, none⟩ = some (.int .i64 a1.pos) ∧ w'.cell? ⟨w.heap.size, 3, none⟩ = some (.slice o1 a1.keep.length c1))
              (first | with_reducible exact h4x_drew i0 x1 x2 x3 | with_reducible exact h4x_blk hw2 hx2 (h4x_drew i0 x1 x2 x3) | with_reducible assumption | fail)
              (first
                | (go_at_call 22; go_must (refine HCr.out.mono ?_); rintro e w11 ⟨rfl, l11, k11⟩; have L11 := Lib.hid l11; have K11 := Lib.hid k11; have hw2 := k11 wb (.inl (.inr rfl)); have hx2 := k11 w.heap.size (.inl (.inl (.inr (by have := Hz.out; omega)))))
                | fail)
            have Wm11 := Lib.hid (WmT.out.keep (K11.out gm (.inl (.inl (.inl (.inl rfl))))))
            have Wa11 := Lib.hid (WaT.out.keep (K11.out ga (.inl (.inl (.inl (.inr rfl))))))
            have lw11 := (LiveW.dev LTd.out L11.out K11.out).1
            obtain ⟨i0, i1, _⟩ := lw11.cells
            have LW11 : Hid (LiveW W w11.drew g od (crashD dT a1.keep a1.pos a1.n) jb jT wb (fun k => (k = gm ∨ k = ga) ∨ k < W.heap.size)) := Lib.hid (lw11.drew 1).1
            have HFu := Lib.hid (live_Fuse LW11.out.jr.live ((pg : Nat) : Int))
            generalize crashD dT a1.keep a1.pos a1.n = dc at *
            obtain ⟨mm, hmm, k1, k2, k3, k4, k5⟩ := HKo.out
            have Hmm := Lib.hid hmm
            have K1 := Lib.hid k1
            have K2 := Lib.hid k2
            have K3 := Lib.hid k3
            have K4 := Lib.hid k4
            have K5 := Lib.hid k5
            clear hmm k1 k2 k3 k4 k5 lw11 x0 x1 x2 x3 x4 x5 HKo
            generalize fuseD dc ((pg : Nat) : Int) = df at *
            go_wp2
            go_region_held3 (fun w' => w'.cell? ⟨wb, 0, none⟩ = some (.pointer (some ⟨g, 0, none⟩)))
              (first | with_reducible exact s1_drewJ i0 | with_reducible exact s1_keepD i0 hw12 | with_reducible assumption | fail)
              (first
                | (go_at_call 20; go_must (refine (HPg.out _).mono ?_); rintro e wq ⟨rfl, rfl⟩)
                | (go_at_call 19; go_must (refine HFu.out.mono ?_); rintro e w12 ⟨rfl, l12, k12⟩; have hw12 := k12 wb (.inl (.inr rfl)); have L12 := Lib.hid (LiveW.dev LW11.out l12 k12).1; have K12 := Lib.hid k12)
                | fail)
            have Wm12 := Lib.hid (Wm11.out.keep (K12.out gm (.inl (.inl (.inl (.inl rfl))))))
            have Wa12 := Lib.hid (Wa11.out.keep (K12.out ga (.inl (.inl (.inl (.inr rfl))))))
            obtain ⟨i0, i1, _⟩ := L12.out.cells
            have HOp := Lib.hid (jr_Open L12.out.jr.live K1.out (by rw [K3.out]; omega) (by rw [K2.out]; exact Nat.zero_le _) (by omega) K4.out)
            have C12 := Lib.hid L12.out.blk
            clear hw12 k12 l12
            rcases K5.out with ⟨d', j', q1, q2, q3, q4⟩ | ⟨d', q1, q2, q3, q4, q5⟩
            · rw [q1] at HOp
              have okF := Lib.hid q2
              have peF := Lib.hid q3
              have hmF := Lib.hid q4
              have hmm := Lib.hid Hmm.out
              clear q1 q2 q3 q4
              go_wp2_with fail
              refine HOp.out.mono ?_
              rintro e wF ⟨k13, hpost⟩
              rw [if_pos rfl] at hpost
              obtain ⟨ja, jx, hjx, rfl, lj, _⟩ := hpost
              simp only [Option.some.injEq] at hjx
              subst hjx
              have c3 := (k13 wb (.inl (.inr rfl))).trans C12.out
              have hwmF := Wm12.out.keep (k13 gm (.inl (.inl (.inl (.inl rfl)))))
              have hwaF := Wa12.out.keep (k13 ga (.inl (.inl (.inl (.inr rfl)))))
              clear k13
              have hnr := LT.out.nr
              have hset := LiveW.jset (LiveC.less lj (R' := fun k => ((k = gm ∨ k = ga) ∨ k < W.heap.size) ∨ k = wb) (fun k hk => .inl hk)) hnr LT.out.lo jb c3
              have hcw : Chg (fun k => k = wb) wF (wF.setCell ⟨wb, 1, none⟩ (.pointer (some ⟨ja, 0, none⟩))) := (Chg.refl _ wF).set wb 1 _ rfl
              have hwm := hwmF.keep (hcw.block gm (hwmF.cell 0 (by omega)).2.2.1 (fun e => hnr (.inl (.inl e.symm))))
              have hwa := hwaF.keep (hcw.block ga (hwaF.cell 0 (by omega)).2.2.1 (fun e => hnr (.inl (.inr e.symm))))
              have f3' : wF.cell? ⟨wb, 1, none⟩ = some (.pointer (some ⟨jb, 0, none⟩)) := by rw [Lib.cell_of_heap c3]; rfl
              have f3 : wF.frozen? ⟨wb, 1, none⟩ = false := Lib.frozen_of_heap c3 1
              have Hset := Lib.hid hset
              have Hwm := Lib.hid hwm
              have Hwa := Lib.hid hwa
              have hh1 := law_home hset okF.out (by rw [peF.out]; exact Nat.zero_le _)
              rw [hmF.out] at hh1
              have HH1 := Lib.hid hh1
              clear lj c3 hnr hset hcw hwm hwa hwmF hwaF hh1
              go_wp2_with fail
              refine HH1.out.mono ?_
              rintro e w14 ⟨vh, rfl, own14, b14⟩
              obtain ⟨ah, ch, rfl⟩ := own_form own14
              have hs1 := law_sameTexts4 (.slice ah 18 ch) (.slice (some ⟨gm, 0, none⟩) 18 cm) (homeM mm) (homeM m1) (by rw [homeM_length]; omega) (by rw [homeM_length]; omega) w14 (own_row (by rw [homeM_length]; exact own14)) (Hwm.out.below b14).row
              have HS1 := Lib.hid hs1
              have L14 := Lib.hid (Hset.out.call b14).1
              have A14 := Lib.hid (Hwa.out.below b14)
              clear own14 b14 hs1
              go_wp2_with fail
              refine HS1.out.mono ?_
              rintro e w15 ⟨rfl, b15⟩
              have l15 := (L14.out.call b15).1
              have A15 := Lib.hid (A14.out.below b15)
              have hh2 := law_home l15 okF.out (by rw [peF.out]; exact Nat.zero_le _)
              rw [hmF.out] at hh2
              have HH2 := Lib.hid hh2
              have L15 := Lib.hid l15
              clear hh2 l15 b15
              go_wp2_with fail
              refine HH2.out.mono ?_
              rintro e w16 ⟨vh2, rfl, own16, b16⟩
              obtain ⟨ah2, ch2, rfl⟩ := own_form own16
              have hs2 := law_sameTexts4 (.slice ah2 18 ch2) (.slice (some ⟨ga, 0, none⟩) 18 capa) (homeM mm) (homeM m2) (by rw [homeM_length]; omega) (by rw [homeM_length]; omega) w16 (own_row (by rw [homeM_length]; exact own16)) (A15.out.below b16).row
              have HS2 := Lib.hid hs2
              have L16 := Lib.hid (L15.out.call b16).1
              clear own16 b16 hs2
              go_wp2_with fail
              refine HS2.out.mono ?_
              rintro e w17 ⟨rfl, b17⟩
              have S17 := Lib.hid (BW.out.trans ((L16.out.call b17).1.size.mono BW.out.size))
              have hor : decide (homeM mm = homeM m1) = true ∨ decide (homeM mm = homeM m2) = true := by
                rcases hmm.out with e | e
                · exact .inl (decide_eq_true (by rw [e]))
                · exact .inr (decide_eq_true (by rw [e]))
              generalize decide (homeM mm = homeM m1) = p1 at *
              generalize decide (homeM mm = homeM m2) = p2 at *
              clear b17
              cases p1 <;> cases p2
              · exact absurd hor (by simp)
              all_goals
                go_wp2
                go_ret
                exact ⟨rfl, S17.out⟩
            · rw [q1] at HOp
              obtain ⟨d2, j2, r1, r2, r3, r4, r5, r6, r7, r8⟩ := q5 a2.keep a2.pos a2.n
              have okD := Lib.hid q2
              have peD := Lib.hid q3
              have R1 := Lib.hid r1
              have R2 := Lib.hid r2
              have R3 := Lib.hid r3
              have R4' := Lib.hid r4
              have R5 := Lib.hid r5
              have okF := Lib.hid r6
              have peF := Lib.hid r7
              have hmF := Lib.hid r8
              have hmm := Lib.hid Hmm.out
              clear q1 q2 q3 q4 q5 r1 r2 r3 r4 r5 r6 r7 r8
              go_wp2_with fail
              refine HOp.out.mono ?_
              rintro e w13 ⟨k13, hpost⟩
              rw [if_neg (by omega)] at hpost
              obtain ⟨rfl, l13⟩ := hpost
              have L13 := (LiveW.dev L12.out l13 k13).1
              have Wm13 := Lib.hid (Wm12.out.keep (k13 gm (.inl (.inl (.inl (.inl rfl))))))
              have Wa13 := Lib.hid (Wa12.out.keep (k13 ga (.inl (.inl (.inl (.inr rfl))))))
              obtain ⟨i0, i1, _⟩ := L13.cells
              have LD13 : Hid (LiveW W w13.drew g od d' jb jT wb (fun k => (k = gm ∨ k = ga) ∨ k < W.heap.size)) := Lib.hid (L13.drew 1).1
              obtain ⟨y0, y1, y2, y3, y4, y5⟩ := h6_below L13.size (by have := Hz.out; omega) X2.out
              have Hbw2 := Lib.hid (BW.out.trans (LD13.out.size.mono BW.out.size))
              have HCr2 := Lib.hid (live_Crash LD13.out.jr.live okD.out (by have := peD.out; omega) (.slice o2 a2.keep.length c2) a2.keep a2.pos a2.n (Hk2.out.below Hbw2.out) (fun h0 q hq => .inl (Nat.lt_of_lt_of_le (row_own Hk2.out (by simpa using h0) q hq) BW.out.size)) (by omega))
              clear k13 l13 L13
              generalize crashD d' a2.keep a2.pos a2.n = de at *
              go_wp2
              go_region_held3 (fun w' => w'.cell? ⟨wb, 0, none⟩ = some (.pointer (some ⟨g, 0, none⟩)) ∧ w'.cell? ⟨w.heap.size + 1, 1, none⟩ = some (.int .i64 a2.n) ∧ w'.cell? ⟨w.heap.size + 1, 2, none⟩ = some (.int .i64 a2.pos) ∧ w'.cell? ⟨w.heap.size + 1, 3, none⟩ = some (.slice o2 a2.keep.length c2))
                (first | with_reducible exact h4x_drew i0 y1 y2 y3 | with_reducible exact h4x_blk hw2 hx2 (h4x_drew i0 y1 y2 y3) | with_reducible assumption | fail)
                (first
                  | (go_at_call 22; go_must (refine HCr2.out.mono ?_); rintro e w18 ⟨rfl, l18, k18⟩; have L18 := Lib.hid l18; have K18 := Lib.hid k18; have hw2 := k18 wb (.inl (.inr rfl)); have hx2 := k18 (w.heap.size + 1) (.inl (.inl (.inr (by have := Hz.out; omega)))))
                  | fail)
              have Wm18 := Lib.hid (Wm13.out.keep (K18.out gm (.inl (.inl (.inl (.inl rfl))))))
              have Wa18 := Lib.hid (Wa13.out.keep (K18.out ga (.inl (.inl (.inl (.inr rfl))))))
              have lw18 := (LiveW.dev LD13.out L18.out K18.out).1
              obtain ⟨i0, i1, _⟩ := lw18.cells
              have C18 := Lib.hid lw18.blk
              have HOp2 := Lib.hid (jr_Open lw18.jr.live R1.out (by rw [R3.out]; omega) (by rw [R2.out]; exact Nat.zero_le _) (by omega) R4'.out)
              rw [R5.out] at HOp2
              clear hw2 hx2 y0 y1 y2 y3 y4 y5 lw18 l18 k18
              go_wp2_with fail
              refine HOp2.out.mono ?_
              rintro e wF ⟨k19, hpost⟩
              rw [if_pos rfl] at hpost
              obtain ⟨ja, jx, hjx, rfl, lj, _⟩ := hpost
              simp only [Option.some.injEq] at hjx
              subst hjx
              have c3 := (k19 wb (.inl (.inr rfl))).trans C18.out
              have hwmF := Wm18.out.keep (k19 gm (.inl (.inl (.inl (.inl rfl)))))
              have hwaF := Wa18.out.keep (k19 ga (.inl (.inl (.inl (.inr rfl)))))
              clear k19
              have hnr := LT.out.nr
              have hset := LiveW.jset (LiveC.less lj (R' := fun k => ((k = gm ∨ k = ga) ∨ k < W.heap.size) ∨ k = wb) (fun k hk => .inl hk)) hnr LT.out.lo jb c3
              have hcw : Chg (fun k => k = wb) wF (wF.setCell ⟨wb, 1, none⟩ (.pointer (some ⟨ja, 0, none⟩))) := (Chg.refl _ wF).set wb 1 _ rfl
              have hwm := hwmF.keep (hcw.block gm (hwmF.cell 0 (by omega)).2.2.1 (fun e => hnr (.inl (.inl e.symm))))
              have hwa := hwaF.keep (hcw.block ga (hwaF.cell 0 (by omega)).2.2.1 (fun e => hnr (.inl (.inr e.symm))))
              have f3' : wF.cell? ⟨wb, 1, none⟩ = some (.pointer (some ⟨jb, 0, none⟩)) := by rw [Lib.cell_of_heap c3]; rfl
              have f3 : wF.frozen? ⟨wb, 1, none⟩ = false := Lib.frozen_of_heap c3 1
              have Hset := Lib.hid hset
              have Hwm := Lib.hid hwm
              have Hwa := Lib.hid hwa
              have hh1 := law_home hset okF.out (by rw [peF.out]; exact Nat.zero_le _)
              rw [hmF.out] at hh1
              have HH1 := Lib.hid hh1
              clear lj c3 hnr hset hcw hwm hwa hwmF hwaF hh1
              go_wp2_with fail
              refine HH1.out.mono ?_
              rintro e w14 ⟨vh, rfl, own14, b14⟩
              obtain ⟨ah, ch, rfl⟩ := own_form own14
              have hs1 := law_sameTexts4 (.slice ah 18 ch) (.slice (some ⟨gm, 0, none⟩) 18 cm) (homeM mm) (homeM m1) (by rw [homeM_length]; omega) (by rw [homeM_length]; omega) w14 (own_row (by rw [homeM_length]; exact own14)) (Hwm.out.below b14).row
              have HS1 := Lib.hid hs1
              have L14 := Lib.hid (Hset.out.call b14).1
              have A14 := Lib.hid (Hwa.out.below b14)
              clear own14 b14 hs1
              go_wp2_with fail
              refine HS1.out.mono ?_
              rintro e w15 ⟨rfl, b15⟩
              have l15 := (L14.out.call b15).1
              have A15 := Lib.hid (A14.out.below b15)
              have hh2 := law_home l15 okF.out (by rw [peF.out]; exact Nat.zero_le _)
              rw [hmF.out] at hh2
              have HH2 := Lib.hid hh2
              have L15 := Lib.hid l15
              clear hh2 l15 b15
              go_wp2_with fail
              refine HH2.out.mono ?_
              rintro e w16 ⟨vh2, rfl, own16, b16⟩
              obtain ⟨ah2, ch2, rfl⟩ := own_form own16
              have hs2 := law_sameTexts4 (.slice ah2 18 ch2) (.slice (some ⟨ga, 0, none⟩) 18 capa) (homeM mm) (homeM m2) (by rw [homeM_length]; omega) (by rw [homeM_length]; omega) w16 (own_row (by rw [homeM_length]; exact own16)) (A15.out.below b16).row
              have HS2 := Lib.hid hs2
              have L16 := Lib.hid (L15.out.call b16).1
              clear own16 b16 hs2
              go_wp2_with fail
              refine HS2.out.mono ?_
              rintro e w17 ⟨rfl, b17⟩
              have S17 := Lib.hid (BW.out.trans ((L16.out.call b17).1.size.mono BW.out.size))
              have hor : decide (homeM mm = homeM m1) = true ∨ decide (homeM mm = homeM m2) = true := by
                rcases hmm.out with e | e
                · exact .inl (decide_eq_true (by rw [e]))
                · exact .inr (decide_eq_true (by rw [e]))
              generalize decide (homeM mm = homeM m1) = p1 at *
              generalize decide (homeM mm = homeM m2) = p2 at *
              clear b17
              cases p1 <;> cases p2
              · exact absurd hor (by simp)
              all_goals
                go_wp2
                go_ret
                exact ⟨rfl, S17.out⟩
theorem walk_JournalKeeps (v : Value) (l : List Act4) (turn : Int) (a1 : Act4) (vk1 vb1 : Value) (again : Int) (a2 : Act4) (vk2 vb2 : Value) (w : World) (h : Acts4 w v l) (hf : ∀ a ∈ l, Fit4 a) (hl : l.length ≤ maxLen) (ht : (Lit.int .i64 turn).wf = true) (hk1 : Row w vk1 (a1.keep.map Value.bool)) (_ : Row w vb1 (a1.blocks.map (Value.int .i64))) (hf1 : Fit4 a1) (hg : (Lit.int .i64 again).wf = true) (hk2 : Row w vk2 (a2.keep.map Value.bool)) (_ : Row w vb2 (a2.blocks.map (Value.int .i64))) (hf2 : Fit4 a2) :
    Calls Tryd.prog 5 #[v, .int .i64 turn, actV a1 vk1 vb1, .int .i64 again, actV a2 vk2 vb2] w fun e w' => e = .returned (.bool true) ∧ Below w.heap.size w w' := by
  unfold maxLen at hl
  exact core_JournalKeeps v l turn a1 vk1 vb1 again a2 vk2 vb2 w h (by omega) hf (bounds_i64J ht).1 (bounds_i64J ht).2 hk1 hf1 (bounds_i64J hg).1 (bounds_i64J hg).2 hk2 hf2
end Go.Proofs.YtlgfjoicdbjfjaaDoor
