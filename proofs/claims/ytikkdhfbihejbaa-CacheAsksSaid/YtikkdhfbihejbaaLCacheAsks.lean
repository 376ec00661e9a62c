/- The law CacheAsks returns true for every input. No conditions. -/
import Derived.Test.YtikkdhfbihejbaaCchK
namespace Go.Proofs.Ytikkdhfbihejbaa
open Go.RowKit Go.Cch Go.Lib Go.Shelf
attribute [local go_sem] Oper.semAt_some

theorem has_dec (l : List Kd) (i : Int) : decide (i ∈ l.map Kd.pos) = hasL l i := by
  cases h : hasL l i with
  | true =>
    obtain ⟨x, hx, e⟩ := has_iff.1 h
    exact decide_eq_true (List.mem_map.2 ⟨x, hx, e⟩)
  | false => exact decide_eq_false (not_has h)
theorem acts_cells {w : World} {b off c : Nat} {l : List Cch.Act} (h : Acts6 w (.slice (some ⟨b, off, none⟩) l.length c) l) {k : Nat} (hk : k < l.length) : ActAt6 w b (off + k * 4) l[k] := by
  obtain ⟨b', off', h1, h2⟩ := h.at hk
  simp only [Option.some.injEq, Addr.mk.injEq, and_true] at h1
  rw [h1.1, h1.2]; exact h2
theorem o4_call {w w' : World} {b o : Nat} {v0 v1 v2 v3 : Value} (hb : Below w.heap.size w w') (h : w.cell? ⟨b, o, none⟩ = some v0 ∧ w.cell? ⟨b, o + 1, none⟩ = some v1 ∧ w.cell? ⟨b, o + 2, none⟩ = some v2 ∧ w.cell? ⟨b, o + 3, none⟩ = some v3) :
    w'.cell? ⟨b, o, none⟩ = some v0 ∧ w'.cell? ⟨b, o + 1, none⟩ = some v1 ∧ w'.cell? ⟨b, o + 2, none⟩ = some v2 ∧ w'.cell? ⟨b, o + 3, none⟩ = some v3 := ⟨cell_call hb h.1, cell_call hb h.2.1, cell_call hb h.2.2.1, cell_call hb h.2.2.2⟩
theorem live_cnt {w0 w : World} {nb n cb N : Nat} {c : Ch} {R : Nat → Prop} (h : LiveK w0 w (some nb) n cb c N R) : w.cell? ⟨nb, 0, none⟩ = some (.int .i64 ((n : Nat) : Int)) := by
  obtain ⟨_, _, _, _, h, _⟩ := h
  exact Boxed.cell h
set_option maxRecDepth 100000 in
set_option maxHeartbeats 12800000 in
theorem walk_CacheAsks (most : Int) (v : Value) (l : List Cch.Act) (w : World) (hmost : (Lit.int .i64 most).wf = true) (hacts : Acts6 w v l) (hfit : ∀ a ∈ l, Fit6 a) (hlen : l.length ≤ maxLen) :
    Calls Try.prog 4 #[.int .i64 most, v] w fun e w' => e = .returned (.bool true) ∧ Below w.heap.size w w' := by
  have Hacts := Lib.hid hacts
  have Hfit := Lib.hid hfit
  obtain ⟨oa, cp, rfl⟩ := hacts.form
  have hlen' : l.length ≤ 9223372036854775807 := by unfold maxLen at hlen; omega
  clear hacts hfit hlen
  go_enter Try.func4, Try.ntmps4
  go_wp2_with fail
  refine (law_shown6 w).mono ?_
  rintro e w1 ⟨rfl, hb1⟩
  have Hb1 := Lib.hid hb1
  clear hb1
  by_cases hbig : 200 < l.length
  · have hz : (200 : Int) < (l.length : Int) := by omega
    clear hbig
    go_wp2
    go_ret
    exact ⟨rfl, Hb1.out⟩
  have hz : ¬ (200 : Int) < (l.length : Int) := by omega
  obtain ⟨m, hm, hm8⟩ : ∃ m : Nat, pickI most 8 = (m : Int) ∧ m < 8 := by
    have := pick_range most 8 (by omega)
    exact ⟨(pickI most 8).toNat, by omega, by omega⟩
  have hs1 : SrcAt (w1.alloc (.cells #[.int .i64 0] 3)) (some w1.heap.size) 0 := heap_alloc_new w1 _
  have hb2 := step_new Hb1.out (.cells #[.int .i64 0] 3)
  have hf0 := Boxed.frozen hs1
  have hc0 := Boxed.cell hs1
  have hz1 := Hb1.out.size
  have Hs2 := Lib.hid hs1
  have Hb3 := Lib.hid hb2
  clear hs1 hb2
  go_wp2_with fail
  generalize w1.alloc (.cells #[.int .i64 0] 3) = W2 at *
  have hP := law_pick most 8 hmost (by omega) (by omega) W2
  rw [hm] at hP
  refine hP.mono ?_
  rintro e w2 ⟨rfl, rfl⟩
  clear hP hm
  go_wp2_with fail
  have hN := live_New (w0 := w) (w := W2) (1 + m) (by omega) (by omega) (some w1.heap.size) 0 Hs2.out (fun nb h => by cases h; exact hz1) Hb3.out
  rw [show ((1 + m : Nat) : Int) = 1 + (m : Int) by omega] at hN
  refine hN.mono ?_
  rintro e w3 ⟨cb, rfl, h, -⟩
  have H3 := Lib.hid h
  clear hN h
  generalize w1.heap.size = nb at *
  go_wp2
  go_loopw [9] (fun i wr => ∃ (k N n : Nat) (c : Ch), k ≤ l.length ∧ i = .int .i64 k ∧ N ≤ 10 + k ∧ LiveK w wr (some nb) n cb c N (fun _ => False)) (fun i _ => l.length - (intOf i).toNat)
  case atStart => exact ⟨0, _, _, _, by omega, rfl, by omega, H3.out⟩
  case round =>
    obtain ⟨k, N, n, c, hk, rfl, hN, hlv⟩ := hrel
    have Hlv := Lib.hid hlv
    clear hlv
    by_cases hlt : k < l.length
    · obtain ⟨b, off, rfl, a0, a1, a2, a3⟩ := (Hacts.out.below Hlv.out.below).at hlt
      have HAct := Lib.hid (fun W (hb : Below w.heap.size w W) => acts_cells (Hacts.out.below hb) hlt)
      unfold ActAt6 at HAct
      obtain ⟨f1, f2⟩ := Hfit.out l[k] (List.getElem_mem _)
      generalize l[k] = a at *
      have hcn := live_cnt Hlv.out
      have hnn := Hlv.out.n_le
      have hmiss := Hlv.out.small.misses
      have Hat := Lib.hid (fun W => law_at a f2 W)
      have Hpick : Hid (∀ W, Calls Try.prog 10 #[.int .i64 a.op, .int .i64 10] W fun e w' => e = .returned (.int .i64 a.kind) ∧ W = w') := Lib.hid (fun W => law_pick a.op 10 f1 (by omega) (by omega) W)
      have Hdo := Lib.hid (fun W (h : LiveK w W (some nb) n cb c N (fun _ => False)) => live_does h (by omega) a f1 f2)
      unfold actV at Hdo
      have hstep := asks_step c a
      have hask : (askedN c a = 1 ∧ a.kind < 4 ∧ hasL c.l a.block = false) ∨ (askedN c a = 0 ∧ ¬ (a.kind < 4 ∧ hasL c.l a.block = false)) := by
        unfold askedN
        split
        · exact .inl ⟨rfl, by assumption⟩
        · exact .inr ⟨rfl, by assumption⟩
      have Hhas : Hid (∀ (v : Value) (W : World), Row W v ((c.l.map Kd.pos).map (Value.int .i64)) → Calls Try.prog 17 #[v, .int .i64 a.block] W fun e w' => e = .returned (.bool (hasL c.l a.block)) ∧ W = w') := Lib.hid (fun v W hr => by
        have := law_has (c.l.map Kd.pos) a.block v W hr (by rw [List.length_map]; have h1 := Hlv.out.small; have := h1.ok.many; have := h1.most; omega)
        rw [has_dec] at this
        exact this)
      generalize hER : (does c a).1 = ER at *
      generalize hc' : (does c a).2 = c' at *
      generalize askedN c a = AN at *
      generalize a.kind = kd at *
      generalize hasL c.l a.block = kept at *
      generalize a.block = bk at *
      have Hstep := Lib.hid hstep
      have Hask := Lib.hid hask
      clear hstep hask hER hc'
      have d0 := a0
      have d1 := a1
      have d2 := a2
      have d3 := a3
      go_wp2_with fail
      refine (live_Misses Hlv.out).mono ?_
      rintro e y1 ⟨rfl, rfl⟩
      go_wp2
      go_region_held3 (fun w' => w'.cell? ⟨b, off + k * 4, none⟩ = some (.int .i64 a.op) ∧ w'.cell? ⟨b, off + k * 4 + 1, none⟩ = some (.int .i64 a.pos) ∧ w'.cell? ⟨b, off + k * 4 + 2, none⟩ = some (.int .u8 ((a.byte.toNat : Nat) : Int)) ∧ w'.cell? ⟨b, off + k * 4 + 3, none⟩ = some (.bool a.bad))
        (first | assumption | exact ⟨d0, d1, d2, d3⟩ | exact o4_call hbv (by assumption))
        (first
          | (go_at_call 18
             refine (Hat.out _).mono ?_
             rintro e w4 ⟨rfl, hbv⟩
             have HL4 := Lib.hid ((by first | exact HL4.out.call hbv | exact (Hlv.out.call (below_drew _)).1.call hbv : LiveK _ _ _ _ _ _ _ _ ∧ _)).1
             try have HR4 := Lib.hid (HR4.out.below hbv))
          | (go_at_call 15
             refine (live_Blocks (by first | exact HL4.out | exact (Hlv.out.call (below_drew _)).1) (by omega)).mono ?_
             rintro e w4 ⟨bv, rfl, hr, h, hbv, -⟩
             have HL4 := Lib.hid (h.less (fun _ h => .inl h))
             have HR4 := Lib.hid hr)
          | (go_at_call 17
             refine (Hhas.out _ _ HR4.out).mono ?_
             rintro e w5 ⟨rfl, rfl⟩))
      have A5 := HAct.out _ HL4.out.below
      have H5 := Lib.hid HL4.out
      obtain ⟨a0, a1, a2, a3⟩ := A5
      clear d0 d1 d2 d3 Hhas
      go_wp2_with fail
      refine (Hdo.out _ H5.out).mono ?_
      rintro e y3 ⟨rfl, h2, -⟩
      have H2 := Lib.hid h2
      obtain ⟨a0, a1, a2, a3⟩ := HAct.out _ h2.below
      clear h2 Hdo
      go_wp2_with fail
      refine (Hpick.out y3).mono ?_
      rintro e y6 ⟨rfl, rfl⟩
      clear Hpick
      rcases Hask.out with ⟨hA, hk4, hkept⟩ | ⟨hA, hno⟩
      · subst hkept
        by_cases hE : ER.2 = 0
        · have hEb : (ER.2 == 0) = true := by rw [beq_iff_eq]; exact hE
          rw [hA] at H2
          have Hm : Hid (c'.misses = c.misses + 1) := Lib.hid (by rw [Hstep.out, if_pos ⟨hA, hE⟩])
          have hM := live_Misses H2.out
          rw [Hm.out] at hM
          rw [show ((c.misses + 1 : Nat) : Int) = (c.misses : Int) + 1 from rfl] at hM
          have hcn2 : y3.cell? ⟨nb, 0, none⟩ = some (.int .i64 ((n : Int) + 1)) := live_cnt H2.out
          clear hcn
          go_wp2_with fail
          refine hM.mono ?_
          rintro e y4 ⟨rfl, rfl⟩
          clear hM
          go_wp2
          go_roundw
          case rel => exact ⟨k + 1, N + 1, _, _, by omega, by go_num, by omega, H2.out⟩
          case measure => simp [intOf]; omega
        · have hEb : (ER.2 == 0) = false := by rw [beq_eq_false_iff_ne]; exact hE
          rw [hA] at H2
          have Hm : Hid (c'.misses = c.misses + 0) := Lib.hid (by rw [Hstep.out, if_neg (fun h => hE h.2)])
          have hM := live_Misses H2.out
          rw [Hm.out] at hM
          rw [Nat.add_zero] at hM
          have hcn2 : y3.cell? ⟨nb, 0, none⟩ = some (.int .i64 ((n : Int) + 1)) := live_cnt H2.out
          clear hcn
          go_wp2_with fail
          refine hM.mono ?_
          rintro e y4 ⟨rfl, rfl⟩
          clear hM
          go_wp2
          go_roundw
          case rel => exact ⟨k + 1, N + 1, _, _, by omega, by go_num, by omega, H2.out⟩
          case measure => simp [intOf]; omega
      · rw [hA, Nat.add_zero] at H2
        by_cases hk4 : kd < 4
        · have hkt : kept = true := by
            cases kept
            · exact absurd ⟨hk4, rfl⟩ hno
            · rfl
          subst hkt
          have Hm : Hid (c'.misses = c.misses + 0) := Lib.hid (by rw [Hstep.out, if_neg (fun h => by have := h.1; omega)])
          have hM := live_Misses H2.out
          rw [Hm.out] at hM
          rw [Nat.add_zero] at hM
          have hcn2 : y3.cell? ⟨nb, 0, none⟩ = some (.int .i64 ((n : Nat) : Int)) := live_cnt H2.out
          clear hcn
          go_wp2_with fail
          refine hM.mono ?_
          rintro e y4 ⟨rfl, rfl⟩
          clear hM
          go_wp2
          go_roundw
          case rel => exact ⟨k + 1, N + 1, _, _, by omega, by go_num, by omega, H2.out⟩
          case measure => simp [intOf]; omega
        · have hk5 : ¬ kd < 4 := hk4
          have Hm : Hid (c'.misses = c.misses + 0) := Lib.hid (by rw [Hstep.out, if_neg (fun h => by have := h.1; omega)])
          have hM := live_Misses H2.out
          rw [Hm.out] at hM
          rw [Nat.add_zero] at hM
          have hcn2 : y3.cell? ⟨nb, 0, none⟩ = some (.int .i64 ((n : Nat) : Int)) := live_cnt H2.out
          clear hcn
          go_wp2_with fail
          refine hM.mono ?_
          rintro e y4 ⟨rfl, rfl⟩
          clear hM
          go_wp2
          go_roundw
          case rel => exact ⟨k + 1, N + 1, _, _, by omega, by go_num, by omega, H2.out⟩
          case measure => simp [intOf]; omega
    · obtain rfl : k = l.length := by omega
      go_wp2
      go_ret
      exact ⟨rfl, Hlv.out.below⟩
end Go.Proofs.Ytikkdhfbihejbaa
