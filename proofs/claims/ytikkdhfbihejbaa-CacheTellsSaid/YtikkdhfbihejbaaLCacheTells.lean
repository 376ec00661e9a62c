/- The law CacheTells returns true for every input. No conditions. -/
import Derived.Test.YtikkdhfbihejbaaCchN
namespace Go.Proofs.Ytikkdhfbihejbaa
open Go.RowKit Go.Cch Go.Lib Go.Shelf
attribute [local go_sem] Oper.semAt_some

theorem drewN_tells {K : Nat} {w w' : World} (h : Below K w w') (n : Nat) : Below K w (w'.drewN n) := ⟨h.os, h.tape, h.output, h.size, h.block⟩
theorem acts_at {w : World} {b off c : Nat} {l : List Cch.Act} (h : Acts6 w (.slice (some ⟨b, off, none⟩) l.length c) l) {k : Nat} (hk : k < l.length) : ActAt6 w b (off + k * 4) l[k] := by
  obtain ⟨b', off', h1, h2⟩ := h.at hk
  simp only [Option.some.injEq, Addr.mk.injEq, and_true] at h1
  rw [h1.1, h1.2]; exact h2
theorem q4_call {w w' : World} {b : Nat} {v0 v1 v2 v3 : Value} (hb : Below w.heap.size w w') (h : w.cell? ⟨b, 0, none⟩ = some v0 ∧ w.cell? ⟨b, 1, none⟩ = some v1 ∧ w.cell? ⟨b, 2, none⟩ = some v2 ∧ w.cell? ⟨b, 3, none⟩ = some v3) :
    w'.cell? ⟨b, 0, none⟩ = some v0 ∧ w'.cell? ⟨b, 1, none⟩ = some v1 ∧ w'.cell? ⟨b, 2, none⟩ = some v2 ∧ w'.cell? ⟨b, 3, none⟩ = some v3 := ⟨cell_call hb h.1, cell_call hb h.2.1, cell_call hb h.2.2.1, cell_call hb h.2.2.2⟩
theorem own_keeps {R : Nat → Prop} {w w' : World} {base : Nat} {e : TypeId} {size : Nat} {v : Value} {n : Nat} {xs : List Value} (h : w.ownsRow base e size v n xs) (hk : Keeps R w w') (hR : ∀ k, v.ownBlock = some k → R k) : w'.ownsRow base e size v n xs := by
  refine ⟨h.1, ?_⟩
  rcases h.2 with hn | ⟨g, cap, cur, rfl, hb, hg, h3⟩
  · exact .inl hn
  · exact .inr ⟨g, cap, cur, rfl, hb, (hk.2 g (hR g rfl)).trans hg, h3⟩
theorem q4_new {w : World} {b : Nat} {v0 v1 v2 v3 : Value} (h : w.cell? ⟨b, 0, none⟩ = some v0 ∧ w.cell? ⟨b, 1, none⟩ = some v1 ∧ w.cell? ⟨b, 2, none⟩ = some v2 ∧ w.cell? ⟨b, 3, none⟩ = some v3) (o : Obj) :
    (w.alloc o).cell? ⟨b, 0, none⟩ = some v0 ∧ (w.alloc o).cell? ⟨b, 1, none⟩ = some v1 ∧ (w.alloc o).cell? ⟨b, 2, none⟩ = some v2 ∧ (w.alloc o).cell? ⟨b, 3, none⟩ = some v3 := ⟨cell_alloc o h.1, cell_alloc o h.2.1, cell_alloc o h.2.2.1, cell_alloc o h.2.2.2⟩
theorem q4_grown {w w' : World} {row : Option Nat} {b : Nat} {v0 v1 v2 v3 : Value} (h : w.cell? ⟨b, 0, none⟩ = some v0 ∧ w.cell? ⟨b, 1, none⟩ = some v1 ∧ w.cell? ⟨b, 2, none⟩ = some v2 ∧ w.cell? ⟨b, 3, none⟩ = some v3) (hg : w.grownBy w' row) (hne : some b ≠ row) :
    w'.cell? ⟨b, 0, none⟩ = some v0 ∧ w'.cell? ⟨b, 1, none⟩ = some v1 ∧ w'.cell? ⟨b, 2, none⟩ = some v2 ∧ w'.cell? ⟨b, 3, none⟩ = some v3 := by
  have hlt : b < w.heap.size := lt_of_cell h.1
  exact ⟨(hg.cell_far ⟨b, 0, none⟩ hlt hne).trans h.1, (hg.cell_far ⟨b, 1, none⟩ hlt hne).trans h.2.1, (hg.cell_far ⟨b, 2, none⟩ hlt hne).trans h.2.2.1, (hg.cell_far ⟨b, 3, none⟩ hlt hne).trans h.2.2.2⟩
theorem q5_call {w w' : World} {b g o : Nat} {v0 v1 v2 v3 u : Value} (hb : Below w.heap.size w w') (h : w.cell? ⟨b, 0, none⟩ = some v0 ∧ w.cell? ⟨b, 1, none⟩ = some v1 ∧ w.cell? ⟨b, 2, none⟩ = some v2 ∧ w.cell? ⟨b, 3, none⟩ = some v3 ∧ w.cell? ⟨g, o, none⟩ = some u) :
    w'.cell? ⟨b, 0, none⟩ = some v0 ∧ w'.cell? ⟨b, 1, none⟩ = some v1 ∧ w'.cell? ⟨b, 2, none⟩ = some v2 ∧ w'.cell? ⟨b, 3, none⟩ = some v3 ∧ w'.cell? ⟨g, o, none⟩ = some u := ⟨cell_call hb h.1, cell_call hb h.2.1, cell_call hb h.2.2.1, cell_call hb h.2.2.2.1, cell_call hb h.2.2.2.2⟩
/-- What an append onto the row leaves of a cache beside it. -/
theorem live_row {w0 wq wx wy w7 : World} {cb N n ba : Nat} {c : Ch} {pv v7 : Value} {xs : List Value} (h : LiveK w0 wq none 0 cb c N (fun k => pv.ownBlock = some k ∨ k = ba)) (hb : Below wq.heap.size wq wx) (hy : Below wx.heap.size wx wy)
    (hg : wy.grownBy w7 pv.ownBlock) (hv : v7.ownBlock = pv.ownBlock ∨ ∃ g, v7.ownBlock = some g ∧ wy.heap.size ≤ g) (hown : w7.ownsRow w0.heap.size 59 2 v7 n xs) (hlow : ∀ k, pv.ownBlock = some k → w0.heap.size ≤ k) (hba : w0.heap.size ≤ ba) : LiveK w0 w7 none 0 cb c N (fun k => v7.ownBlock = some k) := by
  refine ((h.call hb).1.call hy).1.chg ((Chg.refl _ _).grown hg (fun k _ e => .inl e)) (fun k hk => ?_) (fun k hk => ?_)
  · rcases hv with e | ⟨g, e, hgl⟩
    · exact .inl (.inl (by rw [← e]; exact hk))
    · rw [hk] at e; cases e
      exact .inr ⟨hgl, (hown.lt _ hk).2⟩
  · rcases hk with hk | rfl
    · exact hlow k hk
    · exact hba
theorem any_next (D : List Wr) (p : Int) {i : Nat} (hi : i < D.length) : (D.take (i + 1)).any (fun x => decide (x.1 = p)) = ((D.take i).any (fun x => decide (x.1 = p)) || decide (D[i].1 = p)) := by
  rw [List.take_succ_eq_append_getElem hi, List.any_append]; simp
theorem dirty_any {c : Ch} {P : List Wr} (h : Tells c P) {p : Wr} (hp : p ∈ P) : (((dirtyC c).map wrOf)).any (fun x => decide (x.1 = p.1)) = true := by
  obtain ⟨x, hx, e, hd⟩ := h.laid p hp
  rw [List.any_eq_true]
  exact ⟨wrOf x, List.mem_map.2 ⟨x, dirty_mem.2 ⟨hx, hd⟩, rfl⟩, decide_eq_true e⟩
set_option maxRecDepth 100000 in
set_option maxHeartbeats 12800000 in
theorem walk_CacheTells (most : Int) (v : Value) (l : List Cch.Act) (w : World) (hmost : (Lit.int .i64 most).wf = true) (hacts : Acts6 w v l) (hfit : ∀ a ∈ l, Fit6 a) (hlen : l.length ≤ maxLen) :
    Calls Try.prog 7 #[.int .i64 most, v] w fun e w' => e = .returned (.bool true) ∧ Below w.heap.size w w' := by
  have Hacts := Lib.hid hacts
  have Hfit := Lib.hid hfit
  obtain ⟨oa, cp, rfl⟩ := hacts.form
  have hlen' : l.length ≤ 9223372036854775807 := by unfold maxLen at hlen; omega
  clear hacts hfit hlen
  go_enter Try.func7, Try.ntmps7
  go_wp2_with fail
  refine (law_shown6 w).mono ?_
  rintro e w1 ⟨rfl, hb1⟩
  have Hb1 := Lib.hid hb1
  clear hb1
  by_cases hbig : 200 < l.length
  · have hz : (200 : Int) < (l.length : Int) := by omega
    clear hbig
    go_wp2
    go_ret
    exact ⟨rfl, Hb1.out⟩
  have hz : ¬ (200 : Int) < (l.length : Int) := by omega
  obtain ⟨m, hm, hm8⟩ : ∃ m : Nat, pickI most 8 = (m : Int) ∧ m < 8 := by
    have := pick_range most 8 (by omega)
    exact ⟨(pickI most 8).toNat, by omega, by omega⟩
  go_wp2_with fail
  have hP := law_pick most 8 hmost (by omega) (by omega) w1
  rw [hm] at hP
  refine hP.mono ?_
  rintro e w2 ⟨rfl, rfl⟩
  clear hP hm
  go_wp2_with fail
  have hN := live_New (w0 := w) (w := w1) (1 + m) (by omega) (by omega) none 0 trivial (fun _ h => by cases h) Hb1.out
  rw [show ((1 + m : Nat) : Int) = 1 + (m : Int) by omega] at hN
  refine hN.mono ?_
  rintro e w3 ⟨cb, rfl, h, -⟩
  have H3 := Lib.hid (h.less (R' := fun k => (Value.slice none 0 0).ownBlock = some k) (fun k hk => by cases hk))
  have Ht3 := Lib.hid (tells_new (m := 1 + m) (by omega))
  obtain ⟨i0, hi, hz0, hz1, hz2⟩ := info_parts Try.info_wr6
  clear hN h
  go_wp2
  go_loopw [9, 10] (fun pv i wr => ∃ (k N : Nat) (c : Ch) (P : List Wr), k ≤ l.length ∧ i = .int .i64 k ∧ N ≤ 10 + k ∧ P.length ≤ k ∧ c.most = 1 + m ∧ Tells c P ∧ wr.ownsRow w.heap.size 59 2 pv P.length (wrCells P) ∧ LiveK w wr none 0 cb c N (fun k => pv.ownBlock = some k)) (fun _ i _ => l.length - (intOf i).toNat)
  case atStart => exact ⟨0, _, _, [], by omega, rfl, by omega, Nat.le_refl _, rfl, Ht3.out, World.ownsRow_nil _ _ _ _, H3.out⟩
  case round =>
    obtain ⟨k, N, c, P, hk, rfl, hN, hPk, hmost, htl, hown, hlv⟩ := hrel
    have Hlv := Lib.hid hlv
    have Htl := Lib.hid htl
    have Hown := Lib.hid hown
    have Hmost := Lib.hid hmost
    obtain ⟨po, pc, rfl⟩ := own_form hown
    clear hlv htl hown hmost
    by_cases hlt : k < l.length
    · obtain ⟨b, off, rfl, a0, a1, a2, a3⟩ := (Hacts.out.below Hlv.out.below).at hlt
      obtain ⟨f1, f2⟩ := Hfit.out l[k] (List.getElem_mem _)
      generalize l[k] = a at *
      have hkr := kind_range a
      have Hpick : Hid (∀ W, Calls Try.prog 10 #[.int .i64 a.op, .int .i64 10] W fun e w' => e = .returned (.int .i64 a.kind) ∧ W = w') := Lib.hid (fun W => law_pick a.op 10 f1 (by omega) (by omega) W)
      have Hat := Lib.hid (fun W => law_at a f2 W)
      have hbn := step_new (Below.refl wr.heap.size wr) (.cells #[.int .i64 a.op, .int .i64 a.pos, .int .u8 ((a.byte.toNat : Nat) : Int), .bool a.bad] 35)
      have hlv1 := Hlv.out.more hbn (fun k => k = wr.heap.size) (fun k hk => by rw [hk, World.size_alloc]; omega)
      have hown1 := Hown.out.alloc (.cells #[.int .i64 a.op, .int .i64 a.pos, .int .u8 ((a.byte.toNat : Nat) : Int), .bool a.bad] 35)
      obtain ⟨d0, d1, d2, d3⟩ := act_new wr a
      have Hlv1 := Lib.hid hlv1
      have Hown1 := Lib.hid hown1
      have Hdone : Hid (∀ W, LiveK w W none 0 cb c N (fun k => (Value.slice po P.length pc).ownBlock = some k ∨ k = wr.heap.size) → W.ownsRow w.heap.size 59 2 (.slice po P.length pc) P.length (wrCells P) → LiveK w W none 0 cb c N (fun k => (Value.slice po P.length pc).ownBlock = some k) ∧ W.ownsRow w.heap.size 59 2 (.slice po P.length pc) P.length (wrCells P)) := Lib.hid (fun W h h2 => ⟨h.less (fun k hk => .inl hk), h2⟩)
      have Hrlt := Lib.hid (fun k hk => (Hown.out.lt k hk))
      have Hlow := Lib.hid (show w.heap.size ≤ wr.heap.size from Hlv.out.below.size)
      clear hbn hlv1 hown1
      generalize hba : wr.heap.size = ba at *
      have Hba := Lib.hid hba
      go_wp2_with fail
      generalize wr.alloc (.cells #[.int .i64 a.op, .int .i64 a.pos, .int .u8 ((a.byte.toNat : Nat) : Int), .bool a.bad] 35) = wa at *
      refine (Hpick.out _).mono ?_
      rintro e wa' ⟨rfl, rfl⟩
      by_cases h8 : a.kind = 8
      · have e8 : (a.kind == 8) = true := by rw [beq_iff_eq]; exact h8
        have Hd := Lib.hid (Hdone.out _ Hlv1.out Hown1.out)
        clear h8
        go_wp2
        go_roundw
        case rel => exact ⟨k + 1, N, c, P, by omega, by go_num, by omega, by omega, Hmost.out, Htl.out, Hd.out.2, Hd.out.1⟩
        case measure => simp [intOf]; omega
      have e8 : (a.kind == 8) = false := by rw [beq_eq_false_iff_ne]; exact h8
      have Hdo := Lib.hid (live_does Hlv1.out (by omega) a f1 f2)
      unfold actV at Hdo
      have Htn := Lib.hid (tells_does Htl.out a h8)
      have Htold := Lib.hid (fun h => tells_told Htl.out a h)
      have hmost2 : (does c a).2.most = 1 + m := by rw [does_most]; exact Hmost.out
      have Hmost := Lib.hid hmost2
      have Hnx := Lib.hid (show nextP P c a = if a.kind = 9 then [] else if (a.kind = 4 ∨ a.kind = 5) ∧ (does c a).1.2 = 0 then P ++ [(a.block, fullT a.byte)] else P from rfl)
      clear Hdone Htl hmost2 Hlv Hown
      generalize (does c a).1 = ER at *
      generalize (does c a).2 = c' at *
      generalize nextP P c a = P' at *
      go_wp2_with fail
      refine Hdo.out.mono ?_
      rintro e w4 ⟨rfl, h, hk4⟩
      have Hlv4 := Lib.hid h.n0
      have Hown4 := Lib.hid (own_keeps Hown1.out hk4 (fun k hk => .inl hk))
      obtain ⟨d0, d1, d2, d3⟩ := h4_keeps hk4 (.inr rfl) ⟨d0, d1, d2, d3⟩
      clear h hk4 Hdo Hown1 Hlv1
      go_wp2_with fail
      refine (Hpick.out _).mono ?_
      rintro e w4' ⟨rfl, rfl⟩
      rcases (show a.kind = 9 ∨ (a.kind = 4 ∨ a.kind = 5) ∨ a.kind = 6 ∨ a.kind = 7 ∨ a.kind < 4 by omega) with h9 | h45 | h6 | h7 | h3
      · obtain rfl : P' = [] := by rw [Hnx.out, if_pos h9]
        rw [h9] at *
        have Htl2 := Lib.hid Htn.out
        go_wp2_with fail
        refine (live_Blocks Hlv4.out (by omega)).mono ?_
        rintro e z1 ⟨bv, rfl, hr, h, hbz, hkz⟩
        obtain ⟨oab, cpb, rfl⟩ := row_form hr
        rw [List.length_map] at *
        have hle : (c'.l.length : Int) ≤ 1 + (m : Int) := by
          have h1 := h.small.ok.many
          have h2 := Hmost.out
          omega
        have Hl5 := Lib.hid (h.less (R' := fun k => (Value.slice none 0 0).ownBlock = some k) (fun k hk => by cases hk))
        have Hown5 := Lib.hid (World.ownsRow_nil z1 w.heap.size 59 2)
        clear hr h hbz hkz
        go_wp2
        go_roundw
        case rel => exact ⟨k + 1, N + 1, _, [], by omega, by go_num, by omega, by show 0 ≤ k + 1; omega, Hmost.out, Htl2.out, Hown5.out, Hl5.out⟩
        case measure => simp [intOf]; omega
      · by_cases hE : ER.2 = 0
        · obtain rfl : P' = P ++ [(a.block, fullT a.byte)] := by rw [Hnx.out, if_neg (by omega), if_pos ⟨h45, hE⟩]
          have hEb : (ER.2 == 0) = true := by rw [beq_iff_eq]; exact hE
          have Hfull := Lib.hid (fun W => law_full a.byte W)
          have hpl : P.length ≤ 100000 := by omega
          rcases h45 with h45 | h45
          · rw [h45] at *
            have Htl2 := Lib.hid Htn.out
            clear hE
            go_wp2_with fail
            have HqL := Lib.hid Hlv4.out
            go_region_held3 (fun w' => w'.cell? ⟨ba, 0, none⟩ = some (.int .i64 a.op) ∧ w'.cell? ⟨ba, 1, none⟩ = some (.int .i64 a.pos) ∧ w'.cell? ⟨ba, 2, none⟩ = some (.int .u8 ((a.byte.toNat : Nat) : Int)) ∧ w'.cell? ⟨ba, 3, none⟩ = some (.bool a.bad))
              (first | assumption | exact ⟨d0, d1, d2, d3⟩ | exact q4_call hbv (by assumption) | exact q4_new (by assumption) _ | exact q4_grown (by assumption) Hgrow7.out (fun e => by have := (Hrlt.out _ e.symm).2; omega))
              (first
                | (go_at_call 18
                   refine (Hat.out _).mono ?_
                   rintro e wx ⟨rfl, hbv⟩
                   have HBx := Lib.hid (by first | exact step_call HBx.out hbv | exact step_call (drewN_tells (Below.refl w4.heap.size w4) 1) hbv : Below w4.heap.size w4 wx))
                | (go_at_call 23
                   refine (Hfull.out _).mono ?_
                   rintro e wx ⟨rfl, hbv⟩
                   have HBx := Lib.hid (by first | exact step_call HBx.out hbv | exact step_call (drewN_tells (Below.refl w4.heap.size w4) 1) hbv : Below w4.heap.size w4 wx))
                | (refine step_append_any _ (by rfl) _ _ _ (by rfl) w.heap.size 59 i0 _ 2 24 Try.underlying54 hi hz0 hz1 hz2 rfl (by decide) (.slice po P.length pc) P.length (wrCells P) (by rfl) ((own_below Hown4.out HBx.out).alloc _) (some ⟨wx.heap.size, 0, none⟩) 1 1 [.int .i64 a.block, .string (B (fullT a.byte))] (by rfl) (by rfl) (fun h => by cases h) (fun ad e => by cases e; exact cells_new wx wx.heap.size rfl [.int .i64 a.block, .string (B (fullT a.byte))] 59) (by simp [Value.oneCell']) (by unfold maxLen; omega) (by omega) (by have := HBx.out.size; have := HqL.out.below.size; simp; omega) ?_
                   intro v7 w7 hown7 hgrow7 hor7
                   obtain ⟨oa7, cp7, rfl⟩ := own_form hown7
                   have Hown7 := Lib.hid hown7
                   have Hgrow7 := Lib.hid hgrow7
                   have Hor7 := Lib.hid hor7
                   clear hown7 hgrow7 hor7))
            all_goals
              have Hlv7 := Lib.hid (live_row HqL.out HBx.out (step_new (Below.refl _ _) _) Hgrow7.out Hor7.out Hown7.out (fun k hk => (Hrlt.out k hk).1) (by have := Hlow.out; omega))
              have Hown8 : Hid (w7.ownsRow w.heap.size 59 2 (.slice oa7 (P ++ [(a.block, fullT a.byte)]).length cp7) (P ++ [(a.block, fullT a.byte)]).length (wrCells (P ++ [(a.block, fullT a.byte)]))) := Lib.hid (by
                rw [List.length_append, List.length_singleton, wrCells, List.flatMap_append]
                exact Hown7.out)
              have hpl2 : (P ++ [(a.block, fullT a.byte)]).length = P.length + 1 := by simp
              rw [← hpl2] at Hlv7
              have HPl := Lib.hid (show (P ++ [(a.block, fullT a.byte)]).length ≤ k + 1 by omega)
              rw [← hpl2]
              generalize P ++ [(a.block, fullT a.byte)] = P2 at *
              clear hpl2 Hown7 Hgrow7 Hor7
              go_wp2_with fail
              refine (live_Blocks Hlv7.out (by omega)).mono ?_
              rintro e z1 ⟨bv, rfl, hr, h, hbz, hkz⟩
              obtain ⟨oab, cpb, rfl⟩ := row_form hr
              rw [List.length_map] at *
              have hle : (c'.l.length : Int) ≤ 1 + (m : Int) := by
                have h1 := h.small.ok.many
                have h2 := Hmost.out
                omega
              have Hl5 := Lib.hid (h.less (R' := fun k => (Value.slice oa7 P2.length cp7).ownBlock = some k) (fun k hk => .inl hk))
              have Hown5 := Lib.hid (own_keeps Hown8.out hkz (fun k hk => hk))
              clear hr h hbz hkz
              go_wp2
              go_roundw
              case rel => exact ⟨k + 1, N + 1, _, P2, by omega, by go_num, by omega, HPl.out, Hmost.out, Htl2.out, Hown5.out, Hl5.out⟩
              case measure => simp [intOf]; omega
          · rw [h45] at *
            have Htl2 := Lib.hid Htn.out
            clear hE
            go_wp2_with fail
            have HqL := Lib.hid Hlv4.out
            go_region_held3 (fun w' => w'.cell? ⟨ba, 0, none⟩ = some (.int .i64 a.op) ∧ w'.cell? ⟨ba, 1, none⟩ = some (.int .i64 a.pos) ∧ w'.cell? ⟨ba, 2, none⟩ = some (.int .u8 ((a.byte.toNat : Nat) : Int)) ∧ w'.cell? ⟨ba, 3, none⟩ = some (.bool a.bad))
              (first | assumption | exact ⟨d0, d1, d2, d3⟩ | exact q4_call hbv (by assumption) | exact q4_new (by assumption) _ | exact q4_grown (by assumption) Hgrow7.out (fun e => by have := (Hrlt.out _ e.symm).2; omega))
              (first
                | (go_at_call 18
                   refine (Hat.out _).mono ?_
                   rintro e wx ⟨rfl, hbv⟩
                   have HBx := Lib.hid (by first | exact step_call HBx.out hbv | exact step_call (drewN_tells (Below.refl w4.heap.size w4) 1) hbv : Below w4.heap.size w4 wx))
                | (go_at_call 23
                   refine (Hfull.out _).mono ?_
                   rintro e wx ⟨rfl, hbv⟩
                   have HBx := Lib.hid (by first | exact step_call HBx.out hbv | exact step_call (drewN_tells (Below.refl w4.heap.size w4) 1) hbv : Below w4.heap.size w4 wx))
                | (refine step_append_any _ (by rfl) _ _ _ (by rfl) w.heap.size 59 i0 _ 2 24 Try.underlying54 hi hz0 hz1 hz2 rfl (by decide) (.slice po P.length pc) P.length (wrCells P) (by rfl) ((own_below Hown4.out HBx.out).alloc _) (some ⟨wx.heap.size, 0, none⟩) 1 1 [.int .i64 a.block, .string (B (fullT a.byte))] (by rfl) (by rfl) (fun h => by cases h) (fun ad e => by cases e; exact cells_new wx wx.heap.size rfl [.int .i64 a.block, .string (B (fullT a.byte))] 59) (by simp [Value.oneCell']) (by unfold maxLen; omega) (by omega) (by have := HBx.out.size; have := HqL.out.below.size; simp; omega) ?_
                   intro v7 w7 hown7 hgrow7 hor7
                   obtain ⟨oa7, cp7, rfl⟩ := own_form hown7
                   have Hown7 := Lib.hid hown7
                   have Hgrow7 := Lib.hid hgrow7
                   have Hor7 := Lib.hid hor7
                   clear hown7 hgrow7 hor7))
            all_goals
              have Hlv7 := Lib.hid (live_row HqL.out HBx.out (step_new (Below.refl _ _) _) Hgrow7.out Hor7.out Hown7.out (fun k hk => (Hrlt.out k hk).1) (by have := Hlow.out; omega))
              have Hown8 : Hid (w7.ownsRow w.heap.size 59 2 (.slice oa7 (P ++ [(a.block, fullT a.byte)]).length cp7) (P ++ [(a.block, fullT a.byte)]).length (wrCells (P ++ [(a.block, fullT a.byte)]))) := Lib.hid (by
                rw [List.length_append, List.length_singleton, wrCells, List.flatMap_append]
                exact Hown7.out)
              have hpl2 : (P ++ [(a.block, fullT a.byte)]).length = P.length + 1 := by simp
              rw [← hpl2] at Hlv7
              have HPl := Lib.hid (show (P ++ [(a.block, fullT a.byte)]).length ≤ k + 1 by omega)
              rw [← hpl2]
              generalize P ++ [(a.block, fullT a.byte)] = P2 at *
              clear hpl2 Hown7 Hgrow7 Hor7
              go_wp2_with fail
              refine (live_Blocks Hlv7.out (by omega)).mono ?_
              rintro e z1 ⟨bv, rfl, hr, h, hbz, hkz⟩
              obtain ⟨oab, cpb, rfl⟩ := row_form hr
              rw [List.length_map] at *
              have hle : (c'.l.length : Int) ≤ 1 + (m : Int) := by
                have h1 := h.small.ok.many
                have h2 := Hmost.out
                omega
              have Hl5 := Lib.hid (h.less (R' := fun k => (Value.slice oa7 P2.length cp7).ownBlock = some k) (fun k hk => .inl hk))
              have Hown5 := Lib.hid (own_keeps Hown8.out hkz (fun k hk => hk))
              clear hr h hbz hkz
              go_wp2
              go_roundw
              case rel => exact ⟨k + 1, N + 1, _, P2, by omega, by go_num, by omega, HPl.out, Hmost.out, Htl2.out, Hown5.out, Hl5.out⟩
              case measure => simp [intOf]; omega
        · obtain rfl : P' = P := by rw [Hnx.out, if_neg (by omega), if_neg (fun h => hE h.2)]
          have hEb : (ER.2 == 0) = false := by rw [beq_eq_false_iff_ne]; exact hE
          rcases h45 with h45 | h45
          · rw [h45] at *
            have Htl2 := Lib.hid Htn.out
            go_wp2_with fail
            refine (live_Blocks Hlv4.out (by omega)).mono ?_
            rintro e z1 ⟨bv, rfl, hr, h, hbz, hkz⟩
            obtain ⟨oab, cpb, rfl⟩ := row_form hr
            rw [List.length_map] at *
            have hle : (c'.l.length : Int) ≤ 1 + (m : Int) := by
              have h1 := h.small.ok.many
              have h2 := Hmost.out
              omega
            have Hl5 := Lib.hid (h.less (R' := fun k => (Value.slice po P'.length pc).ownBlock = some k) (fun k hk => .inl (.inl hk)))
            have Hown5 := Lib.hid (own_keeps Hown4.out hkz (fun k hk => (.inl hk)))
            clear hr h hbz hkz
            go_wp2
            go_roundw
            case rel => exact ⟨k + 1, N + 1, _, P', by omega, by go_num, by omega, by omega, Hmost.out, Htl2.out, Hown5.out, Hl5.out⟩
            case measure => simp [intOf]; omega
          · rw [h45] at *
            have Htl2 := Lib.hid Htn.out
            go_wp2_with fail
            refine (live_Blocks Hlv4.out (by omega)).mono ?_
            rintro e z1 ⟨bv, rfl, hr, h, hbz, hkz⟩
            obtain ⟨oab, cpb, rfl⟩ := row_form hr
            rw [List.length_map] at *
            have hle : (c'.l.length : Int) ≤ 1 + (m : Int) := by
              have h1 := h.small.ok.many
              have h2 := Hmost.out
              omega
            have Hl5 := Lib.hid (h.less (R' := fun k => (Value.slice po P'.length pc).ownBlock = some k) (fun k hk => .inl (.inl hk)))
            have Hown5 := Lib.hid (own_keeps Hown4.out hkz (fun k hk => (.inl hk)))
            clear hr h hbz hkz
            go_wp2
            go_roundw
            case rel => exact ⟨k + 1, N + 1, _, P', by omega, by go_num, by omega, by omega, Hmost.out, Htl2.out, Hown5.out, Hl5.out⟩
            case measure => simp [intOf]; omega
      · obtain rfl : P' = P := by rw [Hnx.out, if_neg (by omega), if_neg (fun h => by have := h.1; omega)]
        rw [h6] at *
        have Htl2 := Lib.hid Htn.out
        go_wp2_with fail
        refine (live_Blocks Hlv4.out (by omega)).mono ?_
        rintro e z1 ⟨bv, rfl, hr, h, hbz, hkz⟩
        obtain ⟨oab, cpb, rfl⟩ := row_form hr
        rw [List.length_map] at *
        have hle : (c'.l.length : Int) ≤ 1 + (m : Int) := by
          have h1 := h.small.ok.many
          have h2 := Hmost.out
          omega
        have Hl5 := Lib.hid (h.less (R' := fun k => (Value.slice po P'.length pc).ownBlock = some k) (fun k hk => .inl (.inl hk)))
        have Hown5 := Lib.hid (own_keeps Hown4.out hkz (fun k hk => (.inl hk)))
        clear hr h hbz hkz
        go_wp2
        go_roundw
        case rel => exact ⟨k + 1, N + 1, _, P', by omega, by go_num, by omega, by omega, Hmost.out, Htl2.out, Hown5.out, Hl5.out⟩
        case measure => simp [intOf]; omega
      · obtain rfl : P' = P := by rw [Hnx.out, if_neg (by omega), if_neg (fun h => by have := h.1; omega)]
        rw [h7] at *
        have Htl2 := Lib.hid Htn.out
        go_wp2_with fail
        refine (live_Blocks Hlv4.out (by omega)).mono ?_
        rintro e z1 ⟨bv, rfl, hr, h, hbz, hkz⟩
        obtain ⟨oab, cpb, rfl⟩ := row_form hr
        rw [List.length_map] at *
        have hle : (c'.l.length : Int) ≤ 1 + (m : Int) := by
          have h1 := h.small.ok.many
          have h2 := Hmost.out
          omega
        have Hl5 := Lib.hid (h.less (R' := fun k => (Value.slice po P'.length pc).ownBlock = some k) (fun k hk => .inl (.inl hk)))
        have Hown5 := Lib.hid (own_keeps Hown4.out hkz (fun k hk => (.inl hk)))
        clear hr h hbz hkz
        go_wp2
        go_roundw
        case rel => exact ⟨k + 1, N + 1, _, P', by omega, by go_num, by omega, by omega, Hmost.out, Htl2.out, Hown5.out, Hl5.out⟩
        case measure => simp [intOf]; omega
      · obtain rfl : P' = P := by rw [Hnx.out, if_neg (by omega), if_neg (fun h => by have := h.1; omega)]
        have n9 : (a.kind == 9) = false := by rw [beq_eq_false_iff_ne]; omega
        have n4 : (a.kind == 4) = false := by rw [beq_eq_false_iff_ne]; omega
        have n5 : (a.kind == 5) = false := by rw [beq_eq_false_iff_ne]; omega
        have n6 : (a.kind == 6) = false := by rw [beq_eq_false_iff_ne]; omega
        have n7 : (a.kind == 7) = false := by rw [beq_eq_false_iff_ne]; omega
        have Htl2 := Lib.hid Htn.out
        have Htold2 := Lib.hid (Htold.out h3)
        have hkb := block_key a f2
        clear h3
        go_wp2_with fail
        refine (Hat.out _).mono ?_
        rintro e w5 ⟨rfl, hb5⟩
        have Hb5 := Lib.hid hb5
        clear hb5
        go_wp2_with fail
        refine (src_Read a.block hkb w5).mono ?_
        rintro e w6 ⟨rfl, hb6⟩
        have Hlv6 := Lib.hid ((Hlv4.out.call Hb5.out).1.call hb6).1
        have Hown6 := Lib.hid (own_below (own_below Hown4.out Hb5.out) hb6)
        obtain ⟨d0, d1, d2, d3⟩ := q4_call (step_call Hb5.out hb6) ⟨d0, d1, d2, d3⟩
        have D0 := Lib.hid (show w6.cell? ⟨ba, 0, none⟩ = some (.int .i64 a.op) ∧ w6.cell? ⟨ba, 1, none⟩ = some (.int .i64 a.pos) ∧ w6.cell? ⟨ba, 2, none⟩ = some (.int .u8 ((a.byte.toNat : Nat) : Int)) ∧ w6.cell? ⟨ba, 3, none⟩ = some (.bool a.bad) from ⟨d0, d1, d2, d3⟩)
        clear hb6 Hb5 Hown4 Hlv4 d0 d1 d2 d3
        generalize (if srcE a.block = 0 then srcT a.block else []) = S0 at *
        have hfr := own_frow wrC_len Hown6.out
        have Hfr := Lib.hid hfr
        clear hfr
        go_wp2
        go_loopw [14, 16] (fun wv kv wr => ∃ j : Nat, j ≤ P'.length ∧ kv = .int .i64 j ∧ wv = .string (B (wantN (P'.take j) a.block S0)) ∧ Below w6.heap.size w6 wr) (fun _ kv _ => P'.length - (intOf kv).toNat)
        case atStart => exact ⟨0, by omega, rfl, rfl, Below.refl _ _⟩
        case round =>
          obtain ⟨j, hj, rfl, rfl, hbj⟩ := hrel
          have Hbj := Lib.hid hbj
          clear hbj
          by_cases hjl : j < P'.length
          · obtain ⟨g, og, rfl, hgl, hcell⟩ := (Hfr.out.below Hbj.out).at hjl
            have e0 : wr.cell? ⟨g, og + j * 2, none⟩ = some (.int .i64 P'[j].1) := hcell 0 _ rfl
            have e1 : wr.cell? ⟨g, og + j * 2 + 1, none⟩ = some (.string (B P'[j].2)) := hcell 1 _ rfl
            have E1 := Lib.hid e1
            obtain ⟨d0, d1, d2, d3⟩ := q4_call Hbj.out D0.out
            have hnx := want_next P' a.block S0 hjl
            have Hnx2 := Lib.hid hnx
            clear hcell e1 hnx
            generalize P'[j] = p at *
            go_wp2
            go_region_held3 (fun w' => w'.cell? ⟨ba, 0, none⟩ = some (.int .i64 a.op) ∧ w'.cell? ⟨ba, 1, none⟩ = some (.int .i64 a.pos) ∧ w'.cell? ⟨ba, 2, none⟩ = some (.int .u8 ((a.byte.toNat : Nat) : Int)) ∧ w'.cell? ⟨ba, 3, none⟩ = some (.bool a.bad) ∧ w'.cell? ⟨g, og + j * 2, none⟩ = some (.int .i64 p.1))
              (first | assumption | exact ⟨d0, d1, d2, d3, e0⟩ | exact q5_call hbv (by assumption))
              (first
                | (go_at_call 18
                   refine (Hat.out _).mono ?_
                   rintro e wx ⟨rfl, hbv⟩
                   have HBx := Lib.hid (step_call (drewN_tells (Below.refl wr.heap.size wr) 1) hbv)))
            all_goals
              have e1 := cell_call HBx.out E1.out
              have hbx := step_call Hbj.out HBx.out
              have Hbx2 := Lib.hid hbx
              clear hbx
              by_cases hpe : p.1 = a.block
              · have hpb : (p.1 == a.block) = true := by rw [beq_iff_eq]; exact hpe
                have Hnx3 := Lib.hid (Hnx2.out.trans (if_pos hpe))
                clear hpe
                go_wp2
                go_roundw
                case rel => exact ⟨j + 1, by omega, by go_num, by rw [Hnx3.out], Hbx2.out⟩
                case measure => simp [intOf]; omega
              · have hpb : (p.1 == a.block) = false := by rw [beq_eq_false_iff_ne]; exact hpe
                have Hnx3 := Lib.hid (Hnx2.out.trans (if_neg hpe))
                clear hpe
                go_wp2
                go_roundw
                case rel => exact ⟨j + 1, by omega, by go_num, by rw [Hnx3.out], Hbx2.out⟩
                case measure => simp [intOf]; omega
          · obtain rfl : j = P'.length := by omega
            have htk : P'.take P'.length = P' := List.take_length
            rw [htk]
            have Hlv8 := Lib.hid (Hlv6.out.call Hbj.out).1
            have Hown9 := Lib.hid (own_below Hown6.out Hbj.out)
            clear htk Hlv6 Hown6 Hfr D0
            by_cases hE : ER.2 = 0
            · have hEb : (ER.2 == 0) = true := by rw [beq_iff_eq]; exact hE
              have hs := Htold2.out hE
              rw [← hs]
              clear hE hs Htold2
              go_wp2_with fail
              refine (live_Blocks Hlv8.out (by omega)).mono ?_
              rintro e z1 ⟨bv, rfl, hr, h, hbz, hkz⟩
              obtain ⟨oab, cpb, rfl⟩ := row_form hr
              rw [List.length_map] at *
              have hle : (c'.l.length : Int) ≤ 1 + (m : Int) := by
                have h1 := h.small.ok.many
                have h2 := Hmost.out
                omega
              have Hl5 := Lib.hid (h.less (R' := fun k => (Value.slice po P'.length pc).ownBlock = some k) (fun k hk => .inl (.inl hk)))
              have Hown5 := Lib.hid (own_keeps Hown9.out hkz (fun k hk => (.inl hk)))
              clear hr h hbz hkz
              go_wp2
              go_roundw
              case rel => exact ⟨k + 1, N + 1, _, P', by omega, by go_num, by omega, by omega, Hmost.out, Htl2.out, Hown5.out, Hl5.out⟩
              case measure => simp [intOf]; omega
            · have hEb : (ER.2 == 0) = false := by rw [beq_eq_false_iff_ne]; exact hE
              clear hE Htold2
              go_wp2_with fail
              refine (live_Blocks Hlv8.out (by omega)).mono ?_
              rintro e z1 ⟨bv, rfl, hr, h, hbz, hkz⟩
              obtain ⟨oab, cpb, rfl⟩ := row_form hr
              rw [List.length_map] at *
              have hle : (c'.l.length : Int) ≤ 1 + (m : Int) := by
                have h1 := h.small.ok.many
                have h2 := Hmost.out
                omega
              have Hl5 := Lib.hid (h.less (R' := fun k => (Value.slice po P'.length pc).ownBlock = some k) (fun k hk => .inl (.inl hk)))
              have Hown5 := Lib.hid (own_keeps Hown9.out hkz (fun k hk => (.inl hk)))
              clear hr h hbz hkz
              go_wp2
              go_roundw
              case rel => exact ⟨k + 1, N + 1, _, P', by omega, by go_num, by omega, by omega, Hmost.out, Htl2.out, Hown5.out, Hl5.out⟩
              case measure => simp [intOf]; omega
    · obtain rfl : k = l.length := by omega
      have Hany := Lib.hid (fun p (hp : p ∈ P) => dirty_any Htl.out hp)
      go_wp2_with fail
      refine (live_Dirty Hlv.out).mono ?_
      rintro e z1 ⟨dv, rfl, hdr, h, hbz, hkz⟩
      obtain ⟨do', dc, rfl, -, -⟩ := hdr.form
      have Hdr := Lib.hid hdr
      have Hfr := Lib.hid (own_frow wrC_len (own_below Hown.out hbz))
      have Hb9 := Lib.hid h.below
      have hD : ((dirtyC c).map wrOf).length ≤ 1024 := by
        rw [List.length_map, (dirty_perm c).length_eq]
        exact Nat.le_trans (List.length_filter_le _ _) (Nat.le_trans h.small.ok.many h.small.most)
      generalize (dirtyC c).map wrOf = D at *
      clear hdr h hbz hkz Hlv Hown Htl
      go_wp2
      go_loopw [18] (fun kv wr => ∃ j : Nat, j ≤ P.length ∧ kv = .int .i64 j ∧ Below z1.heap.size z1 wr) (fun kv _ => P.length - (intOf kv).toNat)
      case atStart => exact ⟨0, by omega, rfl, Below.refl _ _⟩
      case round =>
        obtain ⟨j, hj, rfl, hbj⟩ := hrel
        have Hbj := Lib.hid hbj
        clear hbj
        by_cases hjl : j < P.length
        · obtain ⟨g, og, rfl, hgl, hcell⟩ := Hfr.out.at hjl
          have E0 := Lib.hid (show z1.cell? ⟨g, og + j * 2, none⟩ = some (.int .i64 P[j].1) from hcell 0 _ rfl)
          have Hany2 := Lib.hid (Hany.out _ (List.getElem_mem hjl))
          clear hcell
          generalize P[j] = p at *
          go_wp2
          go_loopw [19, 20] (fun isv iv wr => ∃ i : Nat, i ≤ D.length ∧ iv = .int .i64 i ∧ isv = .bool ((D.take i).any (fun x => decide (x.1 = p.1))) ∧ Below z1.heap.size z1 wr) (fun _ iv _ => D.length - (intOf iv).toNat)
          case atStart => exact ⟨0, by omega, rfl, rfl, Hbj.out⟩
          case round =>
            obtain ⟨i, hi', rfl, rfl, hbi⟩ := hrel
            have Hbi := Lib.hid hbi
            clear hbi
            by_cases hil : i < D.length
            · obtain ⟨gd, od, rfl, hgd, hcd⟩ := Hdr.out.at hil
              have e0 := cell_call Hbi.out (show z1.cell? ⟨gd, od + i * 2, none⟩ = some (.int .i64 D[i].1) from hcd 0 _ rfl)
              have e1 := cell_call Hbi.out E0.out
              have Hnx := Lib.hid (any_next D p.1 hil)
              have hdd : decide (D[i].1 = p.1) = (D[i].1 == p.1) := by rfl
              clear hcd
              generalize D[i] = q at *
              cases hb0 : (D.take i).any (fun x => decide (x.1 = p.1)) with
              | true =>
                have Hn2 := Lib.hid (show (D.take (i + 1)).any (fun x => decide (x.1 = p.1)) = true by rw [Hnx.out, hb0]; rfl)
                clear hb0 Hnx hdd
                go_wp2
                go_quiet (fail)
                go_wp2
                go_roundw
                case rel => exact ⟨i + 1, by omega, by go_num, by rw [Hn2.out], drewN_tells Hbi.out _⟩
                case measure => simp [intOf]; omega
              | false =>
                have Hn2 := Lib.hid (show (D.take (i + 1)).any (fun x => decide (x.1 = p.1)) = (q.1 == p.1) by rw [Hnx.out, hb0, hdd]; rfl)
                clear hb0 Hnx hdd
                go_wp2
                go_quiet (fail)
                go_wp2
                go_roundw
                case rel => exact ⟨i + 1, by omega, by go_num, by rw [Hn2.out], drewN_tells Hbi.out _⟩
                case measure => simp [intOf]; omega
            · obtain rfl : i = D.length := by omega
              rw [List.take_length, Hany2.out]
              clear Hany2
              go_wp2
              go_roundw
              case rel => exact ⟨j + 1, by omega, by go_num, Hbi.out⟩
              case measure => simp [intOf]; omega
        · obtain rfl : j = P.length := by omega
          go_wp2
          go_ret
          exact ⟨rfl, step_call Hb9.out Hbj.out⟩
end Go.Proofs.Ytikkdhfbihejbaa
