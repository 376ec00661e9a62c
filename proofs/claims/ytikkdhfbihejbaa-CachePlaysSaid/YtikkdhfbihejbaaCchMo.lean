/- Chapter 6: the law's 'model'. Conditions: the numbers are small. -/
import Derived.Test.YtikkdhfbihejbaaCchDt
import Derived.Test.YtikkdhfbihejbaaCchK
namespace Go.Proofs.Ytikkdhfbihejbaa
open Go.RowKit Go.Cch Go.Lib Go.Shelf
attribute [local go_sem] Oper.semAt_some

theorem mutR_before {w w1 w' : World} {K rb : Nat} {v : Value} {c' : Ch} (b : Below w.heap.size w w1) (h : MutR w1 w' K rb v c') : MutR w w' K rb v c' := by
  obtain ⟨v', h1, h2, h3⟩ := h
  exact ⟨v', h1, fun k hk => (h2 k hk).imp id (fun h => Nat.le_trans b.size h), (Chg.of_below (A := ownR rb v) b).trans h3 (fun _ _ h => h)⟩
theorem h4_mut {w w' : World} {K rb b : Nat} {v : Value} {c' : Ch} {v0 v1 v2 v3 : Value} (hm : MutR w w' K rb v c') (hR : ¬ ownR rb v b) (h : w.cell? ⟨b, 0, none⟩ = some v0 ∧ w.cell? ⟨b, 1, none⟩ = some v1 ∧ w.cell? ⟨b, 2, none⟩ = some v2 ∧ w.cell? ⟨b, 3, none⟩ = some v3) :
    w'.cell? ⟨b, 0, none⟩ = some v0 ∧ w'.cell? ⟨b, 1, none⟩ = some v1 ∧ w'.cell? ⟨b, 2, none⟩ = some v2 ∧ w'.cell? ⟨b, 3, none⟩ = some v3 := by
  obtain ⟨v', -, -, g⟩ := hm
  exact ⟨g.cell hR h.1, g.cell hR h.2.1, g.cell hR h.2.2.1, g.cell hR h.2.2.2⟩
set_option maxRecDepth 100000 in
set_option maxHeartbeats 6400000 in
theorem ref_model {w : World} {K rb : Nat} {v : Value} {c : Ch} (h : RAt w K rb v c) (hc : c.Ok) (hK : K ≤ w.heap.size) (hm : c.most ≤ 1024) (hmi : c.misses ≤ 1000000) (hpins : ∀ x ∈ c.l, x.pins ≤ 1000000) (a : Cch.Act) (ha : keyI a.op) (hp : keyI a.pos) :
    Calls Try.prog 20 #[.pointer (some ⟨rb, 0, none⟩), actV a] w fun e w' => e = .returned (.tuple #[.string (B (does c a).1.1), .int .i64 (does c a).1.2]) ∧ MutR w w' K rb v (does c a).2 := by
  have hb1 := step_new (Below.refl w.heap.size w) (.cells #[.int .i64 a.op, .int .i64 a.pos, .int .u8 ((a.byte.toNat : Nat) : Int), .bool a.bad] 35)
  have h1 := h.below hb1
  have hbox := heap_alloc_new w (.cells #[.int .i64 a.op, .int .i64 a.pos, .int .u8 ((a.byte.toNat : Nat) : Int), .bool a.bad] 35)
  have d0 : (w.alloc (.cells #[.int .i64 a.op, .int .i64 a.pos, .int .u8 ((a.byte.toNat : Nat) : Int), .bool a.bad] 35)).cell? ⟨w.heap.size, 0, none⟩ = some (.int .i64 a.op) := by rw [Lib.cell_of_heap hbox]; rfl
  have d1 : (w.alloc (.cells #[.int .i64 a.op, .int .i64 a.pos, .int .u8 ((a.byte.toNat : Nat) : Int), .bool a.bad] 35)).cell? ⟨w.heap.size, 1, none⟩ = some (.int .i64 a.pos) := by rw [Lib.cell_of_heap hbox]; rfl
  have d2 : (w.alloc (.cells #[.int .i64 a.op, .int .i64 a.pos, .int .u8 ((a.byte.toNat : Nat) : Int), .bool a.bad] 35)).cell? ⟨w.heap.size, 2, none⟩ = some (.int .u8 ((a.byte.toNat : Nat) : Int)) := by rw [Lib.cell_of_heap hbox]; rfl
  have d3 : (w.alloc (.cells #[.int .i64 a.op, .int .i64 a.pos, .int .u8 ((a.byte.toNat : Nat) : Int), .bool a.bad] 35)).cell? ⟨w.heap.size, 3, none⟩ = some (.bool a.bad) := by rw [Lib.cell_of_heap hbox]; rfl
  have Hpick := Lib.hid (fun W => law_pick a.op 10 ha (by omega) (by omega) W)
  have Hat := Lib.hid (fun W => law_at a hp W)
  have Hda := Lib.hid (fun W => law_data a W)
  have hkr := kind_range a
  have hbk := block_key a hp
  have hdl := data_len a
  have HD0 := Lib.hid (Go.Cch.does.eq_1 c a)
  have H1 := Lib.hid h1
  have Hc := Lib.hid hc
  have Hpins := Lib.hid hpins
  have Hb0 := Lib.hid hb1
  have Hno := Lib.hid (show ¬ ownR rb v w.heap.size from fun ho => by have := h.lt ho; omega)
  have hK1 : K ≤ (w.alloc (.cells #[.int .i64 a.op, .int .i64 a.pos, .int .u8 ((a.byte.toNat : Nat) : Int), .bool a.bad] 35)).heap.size := by rw [World.size_alloc]; omega
  unfold actV
  change Hid (∀ W, Calls Try.prog 10 #[.int .i64 a.op, .int .i64 10] W fun e w' => e = .returned (.int .i64 a.kind) ∧ W = w') at Hpick
  generalize does c a = RD at *
  generalize a.kind = k at *
  generalize a.block = bk at *
  generalize a.data = da at *
  have Hbk := Lib.hid hbk
  clear h hb1 h1 hbox ha hp hbk hc hpins
  go_enter Try.func20, Try.ntmps20
  go_wp2_with fail
  generalize w.alloc (.cells #[.int .i64 a.op, .int .i64 a.pos, .int .u8 ((a.byte.toNat : Nat) : Int), .bool a.bad] 35) = W1 at *
  generalize hn0 : w.heap.size = n0 at *
  have Hb1 : Hid (Below w.heap.size w W1) := Lib.hid (by rw [hn0]; exact Hb0.out)
  clear Hb0 hn0
  refine (Hpick.out W1).mono ?_
  rintro e w1 ⟨rfl, rfl⟩
  clear Hpick
  rcases kind_cases k hkr with hk | hk | hk | hk | hk | hk
  · have HD : Hid (RD = (([], (putC c bk da).1), (putC c bk da).2)) := Lib.hid (by rw [HD0.out, if_pos hk])
    have hz : da.length ≤ 100000 := by omega
    have hks : (k == 4) = true ∨ ((k == 4) = false ∧ (k == 5) = true) := by
      rcases hk with hk | hk
      · left; rw [beq_iff_eq]; exact hk
      · right; exact ⟨by rw [beq_eq_false_iff_ne]; omega, by rw [beq_iff_eq]; exact hk⟩
    clear hk hkr
    rcases hks with e4 | ⟨e4, e5⟩
    all_goals
      go_wp2
      go_region_held3 (fun w' => w'.cell? ⟨n0, 0, none⟩ = some (.int .i64 a.op) ∧ w'.cell? ⟨n0, 1, none⟩ = some (.int .i64 a.pos) ∧ w'.cell? ⟨n0, 2, none⟩ = some (.int .u8 ((a.byte.toNat : Nat) : Int)) ∧ w'.cell? ⟨n0, 3, none⟩ = some (.bool a.bad))
        (first | assumption | exact ⟨d0, d1, d2, d3⟩ | exact h4_call hbv (by assumption) | exact h4_mut M5.out Hno.out (by assumption))
        (first
          | (go_at_call 18
             refine (Hat.out _).mono ?_
             rintro e w4 ⟨rfl, hbv⟩
             have HB4 : Hid (Below W1.heap.size W1 w4) := Lib.hid (by first | exact hbv | exact step_call (below_drew _) hbv | exact step_call HB4.out hbv))
          | (go_at_call 31
             refine (Hda.out _).mono ?_
             rintro e w4 ⟨rfl, hbv⟩
             have HB4 : Hid (Below W1.heap.size W1 w4) := Lib.hid (by first | exact hbv | exact step_call (below_drew _) hbv | exact step_call HB4.out hbv))
          | (go_at_call 35
             refine (ref_Put (H1.out.below HB4.out) Hc.out (Nat.le_trans hK1 HB4.out.size) hm bk da hz).mono ?_
             rintro e w5 ⟨rfl, m5⟩
             have M5 := Lib.hid m5
             have M9 := Lib.hid (mutR_before (step_call Hb1.out HB4.out) m5)
             clear m5))
      all_goals
        go_wp2
        go_ret2
        rw [HD.out]
        exact ⟨rfl, M9.out⟩
  · have HD : Hid (RD = (([], (pinC c bk).1), (pinC c bk).2)) := Lib.hid (by rw [HD0.out, if_neg (by omega), if_pos hk])
    have e4 : (k == 4) = false := by rw [beq_eq_false_iff_ne]; omega
    have e5 : (k == 5) = false := by rw [beq_eq_false_iff_ne]; omega
    have e6 : (k == 6) = true := by rw [beq_iff_eq]; omega
    clear hk hkr
    go_wp2_with fail
    refine (Hat.out W1).mono ?_
    rintro e w4 ⟨rfl, hbv⟩
    have L4 := Lib.hid (H1.out.below hbv)
    have B4 := Lib.hid (step_call Hb1.out hbv)
    have hK4 : K ≤ w4.heap.size := Nat.le_trans hK1 hbv.size
    obtain ⟨d0, d1, d2, d3⟩ := h4_call hbv ⟨d0, d1, d2, d3⟩
    clear hbv
    go_wp2_with fail
    refine (ref_Pin L4.out Hc.out hm bk Hpins.out).mono ?_
    rintro e w5 ⟨rfl, m5⟩
    have M9 := Lib.hid (mutR_before B4.out m5)
    clear m5
    go_wp2
    go_ret2
    rw [HD.out]
    exact ⟨rfl, M9.out⟩
  · have HD : Hid (RD = (([], (unpinC c bk).1), (unpinC c bk).2)) := Lib.hid (by rw [HD0.out, if_neg (by omega), if_neg (by omega), if_pos hk])
    have e4 : (k == 4) = false := by rw [beq_eq_false_iff_ne]; omega
    have e5 : (k == 5) = false := by rw [beq_eq_false_iff_ne]; omega
    have e6 : (k == 6) = false := by rw [beq_eq_false_iff_ne]; omega
    have e7 : (k == 7) = true := by rw [beq_iff_eq]; omega
    clear hk hkr
    go_wp2_with fail
    refine (Hat.out W1).mono ?_
    rintro e w4 ⟨rfl, hbv⟩
    have L4 := Lib.hid (H1.out.below hbv)
    have B4 := Lib.hid (step_call Hb1.out hbv)
    have hK4 : K ≤ w4.heap.size := Nat.le_trans hK1 hbv.size
    obtain ⟨d0, d1, d2, d3⟩ := h4_call hbv ⟨d0, d1, d2, d3⟩
    clear hbv
    go_wp2_with fail
    refine (ref_Unpin L4.out Hc.out hm bk Hpins.out).mono ?_
    rintro e w5 ⟨rfl, m5⟩
    have M9 := Lib.hid (mutR_before B4.out m5)
    clear m5
    go_wp2
    go_ret2
    rw [HD.out]
    exact ⟨rfl, M9.out⟩
  · have HD : Hid (RD = (([], 0), cleanC c)) := Lib.hid (by rw [HD0.out, if_neg (by omega), if_neg (by omega), if_neg (by omega), if_pos hk])
    have e4 : (k == 4) = false := by rw [beq_eq_false_iff_ne]; omega
    have e5 : (k == 5) = false := by rw [beq_eq_false_iff_ne]; omega
    have e6 : (k == 6) = false := by rw [beq_eq_false_iff_ne]; omega
    have e7 : (k == 7) = false := by rw [beq_eq_false_iff_ne]; omega
    have e8 : (k == 8) = true := by rw [beq_iff_eq]; omega
    clear hk hkr
    go_wp2_with fail
    refine (ref_Clean H1.out Hc.out hm).mono ?_
    rintro e w5 ⟨rfl, m5⟩
    have M9 := Lib.hid (mutR_before Hb1.out m5)
    clear m5
    go_wp2
    go_ret2
    rw [HD.out]
    exact ⟨rfl, M9.out⟩
  · have HD : Hid (RD = (([], 0), dropC c)) := Lib.hid (by rw [HD0.out, if_neg (by omega), if_neg (by omega), if_neg (by omega), if_neg (by omega), if_pos hk])
    have e4 : (k == 4) = false := by rw [beq_eq_false_iff_ne]; omega
    have e5 : (k == 5) = false := by rw [beq_eq_false_iff_ne]; omega
    have e6 : (k == 6) = false := by rw [beq_eq_false_iff_ne]; omega
    have e7 : (k == 7) = false := by rw [beq_eq_false_iff_ne]; omega
    have e8 : (k == 8) = false := by rw [beq_eq_false_iff_ne]; omega
    have e9 : (k == 9) = true := by rw [beq_iff_eq]; omega
    clear hk hkr
    go_wp2_with fail
    refine (ref_Drop H1.out Hc.out hK1 hm).mono ?_
    rintro e w5 ⟨rfl, m5⟩
    have M9 := Lib.hid (mutR_before Hb1.out m5)
    clear m5
    go_wp2
    go_ret2
    rw [HD.out]
    exact ⟨rfl, M9.out⟩
  · have HD : Hid (RD = getC c bk (if srcE bk = 0 then srcT bk else []) (srcE bk)) := Lib.hid (by rw [HD0.out, if_neg (by omega), if_neg (by omega), if_neg (by omega), if_neg (by omega), if_neg (by omega)])
    have e4 : (k == 4) = false := by rw [beq_eq_false_iff_ne]; omega
    have e5 : (k == 5) = false := by rw [beq_eq_false_iff_ne]; omega
    have e6 : (k == 6) = false := by rw [beq_eq_false_iff_ne]; omega
    have e7 : (k == 7) = false := by rw [beq_eq_false_iff_ne]; omega
    have e8 : (k == 8) = false := by rw [beq_eq_false_iff_ne]; omega
    have e9 : (k == 9) = false := by rw [beq_eq_false_iff_ne]; omega
    clear hk hkr
    go_wp2_with fail
    refine (Hat.out W1).mono ?_
    rintro e w4 ⟨rfl, hbv⟩
    have L4 := Lib.hid (H1.out.below hbv)
    have B4 := Lib.hid (step_call Hb1.out hbv)
    have hK4 : K ≤ w4.heap.size := Nat.le_trans hK1 hbv.size
    obtain ⟨d0, d1, d2, d3⟩ := h4_call hbv ⟨d0, d1, d2, d3⟩
    clear hbv
    go_wp2_with fail
    refine (src_Read bk Hbk.out w4).mono ?_
    rintro e w5 ⟨rfl, hb5⟩
    have L5 := Lib.hid (L4.out.below hb5)
    have B5 := Lib.hid (step_call B4.out hb5)
    have hK5 : K ≤ w5.heap.size := Nat.le_trans hK4 hb5.size
    obtain ⟨d0, d1, d2, d3⟩ := h4_call hb5 ⟨d0, d1, d2, d3⟩
    clear hb5
    generalize (if srcE bk = 0 then srcT bk else []) = S0 at *
    generalize srcE bk = E0 at *
    go_wp2_with fail
    refine (Hat.out w5).mono ?_
    rintro e w6 ⟨rfl, hb6⟩
    have L6 := Lib.hid (L5.out.below hb6)
    have B6 := Lib.hid (step_call B5.out hb6)
    have hK6 : K ≤ w6.heap.size := Nat.le_trans hK5 hb6.size
    clear hb6
    go_wp2_with fail
    refine (ref_Get L6.out Hc.out hK6 hm hmi bk S0 E0).mono ?_
    rintro e w7 ⟨rfl, m7⟩
    have M9 := Lib.hid (mutR_before B6.out m7)
    clear m7
    go_wp2
    go_ret2
    rw [HD.out]
    exact ⟨rfl, M9.out⟩
end Go.Proofs.Ytikkdhfbihejbaa
