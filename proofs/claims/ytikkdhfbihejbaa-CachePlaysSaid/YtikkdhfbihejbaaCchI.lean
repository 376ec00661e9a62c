/- Chapter 6: the law's 'does'. Conditions: the numbers are small. -/
import Derived.Test.YtikkdhfbihejbaaCchH
namespace Go.Proofs.Ytikkdhfbihejbaa
open Go.RowKit Go.Cch Go.Lib Go.Shelf
attribute [local go_sem] Oper.semAt_some

theorem kind_cases (k : Int) (h : 0 ≤ k ∧ k < 10) : (k = 4 ∨ k = 5) ∨ k = 6 ∨ k = 7 ∨ k = 8 ∨ k = 9 ∨ k < 4 := by omega
set_option maxRecDepth 100000 in
set_option maxHeartbeats 6400000 in
theorem live_does {w0 w : World} {o : Option Nat} {n cb N : Nat} {c : Ch} {R : Nat → Prop} (h : LiveK w0 w o n cb c N R) (hN : N < 900000) (a : Cch.Act) (ha : keyI a.op) (hp : keyI a.pos) :
    Calls Try.prog 14 #[.pointer (some ⟨cb, 0, none⟩), actV a] w fun e w' => e = .returned (.tuple #[.string (B (does c a).1.1), .int .i64 (does c a).1.2]) ∧ LiveK w0 w' o (n + askedN c a) cb (does c a).2 (N + 1) R ∧ Keeps R w w' := by
  have hb1 := step_new (Below.refl w.heap.size w) (.cells #[.int .i64 a.op, .int .i64 a.pos, .int .u8 ((a.byte.toNat : Nat) : Int), .bool a.bad] 35)
  have h1 := h.more hb1 (fun k => k = w.heap.size) (fun k hk => by rw [hk, World.size_alloc]; omega)
  have hk1 : Keeps R w (w.alloc (.cells #[.int .i64 a.op, .int .i64 a.pos, .int .u8 ((a.byte.toNat : Nat) : Int), .bool a.bad] 35)) := (h.call hb1).2
  have hbox := heap_alloc_new w (.cells #[.int .i64 a.op, .int .i64 a.pos, .int .u8 ((a.byte.toNat : Nat) : Int), .bool a.bad] 35)
  have d0 : (w.alloc (.cells #[.int .i64 a.op, .int .i64 a.pos, .int .u8 ((a.byte.toNat : Nat) : Int), .bool a.bad] 35)).cell? ⟨w.heap.size, 0, none⟩ = some (.int .i64 a.op) := by rw [Lib.cell_of_heap hbox]; rfl
  have d1 : (w.alloc (.cells #[.int .i64 a.op, .int .i64 a.pos, .int .u8 ((a.byte.toNat : Nat) : Int), .bool a.bad] 35)).cell? ⟨w.heap.size, 1, none⟩ = some (.int .i64 a.pos) := by rw [Lib.cell_of_heap hbox]; rfl
  have d2 : (w.alloc (.cells #[.int .i64 a.op, .int .i64 a.pos, .int .u8 ((a.byte.toNat : Nat) : Int), .bool a.bad] 35)).cell? ⟨w.heap.size, 2, none⟩ = some (.int .u8 ((a.byte.toNat : Nat) : Int)) := by rw [Lib.cell_of_heap hbox]; rfl
  have d3 : (w.alloc (.cells #[.int .i64 a.op, .int .i64 a.pos, .int .u8 ((a.byte.toNat : Nat) : Int), .bool a.bad] 35)).cell? ⟨w.heap.size, 3, none⟩ = some (.bool a.bad) := by rw [Lib.cell_of_heap hbox]; rfl
  have Hpick := Lib.hid (fun W => law_pick a.op 10 ha (by omega) (by omega) W)
  have Hat := Lib.hid (fun W => law_at a hp W)
  have Hda := Lib.hid (fun W => law_data a W)
  have hkr := kind_range a
  have hbk := block_key a hp
  have hdl := data_len a
  have HD0 := Lib.hid (Go.Cch.does.eq_1 c a)
  have Hask := Lib.hid (Go.Cch.askedN.eq_1 c a)
  have H1 := Lib.hid h1
  have K1 := Lib.hid hk1
  have Hlt : w.heap.size < (w.alloc (.cells #[.int .i64 a.op, .int .i64 a.pos, .int .u8 ((a.byte.toNat : Nat) : Int), .bool a.bad] 35)).heap.size := by rw [World.size_alloc]; omega
  unfold actV
  change Hid (∀ W, Calls Try.prog 10 #[.int .i64 a.op, .int .i64 10] W fun e w' => e = .returned (.int .i64 a.kind) ∧ W = w') at Hpick
  generalize does c a = RD at *
  generalize askedN c a = AN at *
  generalize a.kind = k at *
  generalize a.block = bk at *
  generalize a.data = da at *
  have Hbk := Lib.hid hbk
  clear h hb1 h1 hk1 hbox ha hp hbk
  go_enter Try.func14, Try.ntmps14
  go_wp2_with fail
  generalize w.alloc (.cells #[.int .i64 a.op, .int .i64 a.pos, .int .u8 ((a.byte.toNat : Nat) : Int), .bool a.bad] 35) = W1 at *
  generalize w.heap.size = n0 at *
  refine (Hpick.out W1).mono ?_
  rintro e w1 ⟨rfl, rfl⟩
  clear Hpick
  rcases kind_cases k hkr with hk | hk | hk | hk | hk | hk
  · have HA : Hid (AN = 0) := Lib.hid (by rw [Hask.out, if_neg (by omega)])
    have HD : Hid (RD = (([], (putC c bk da).1), (putC c bk da).2)) := Lib.hid (by rw [HD0.out, if_pos hk])
    have hz : da.length ≤ 100000 := by omega
    have hks : (k == 4) = true ∨ ((k == 4) = false ∧ (k == 5) = true) := by
      rcases hk with hk | hk
      · left; rw [beq_iff_eq]; exact hk
      · right; exact ⟨by rw [beq_eq_false_iff_ne]; omega, by rw [beq_iff_eq]; exact hk⟩
    clear hk hkr
    rcases hks with e4 | ⟨e4, e5⟩
    all_goals
      go_wp2
      go_region_held3 (fun w' => w'.cell? ⟨n0, 0, none⟩ = some (.int .i64 a.op) ∧ w'.cell? ⟨n0, 1, none⟩ = some (.int .i64 a.pos) ∧ w'.cell? ⟨n0, 2, none⟩ = some (.int .u8 ((a.byte.toNat : Nat) : Int)) ∧ w'.cell? ⟨n0, 3, none⟩ = some (.bool a.bad))
        (first | assumption | exact ⟨d0, d1, d2, d3⟩ | exact h4_call hbv (by assumption) | exact h4_keeps K9.out (.inr rfl) (by assumption))
        (first
          | (go_at_call 18
             refine (Hat.out _).mono ?_
             rintro e w4 ⟨rfl, hbv⟩
             have HB4 : Hid (Below W1.heap.size W1 w4) := Lib.hid (by first | exact hbv | exact step_call (below_drew _) hbv | exact step_call HB4.out hbv))
          | (go_at_call 31
             refine (Hda.out _).mono ?_
             rintro e w4 ⟨rfl, hbv⟩
             have HB4 : Hid (Below W1.heap.size W1 w4) := Lib.hid (by first | exact hbv | exact step_call (below_drew _) hbv | exact step_call HB4.out hbv))
          | (go_at_call 27
             refine (live_Put (H1.out.call HB4.out).1 hN bk Hbk.out da hz).mono ?_
             rintro e w5 ⟨rfl, h9, k9⟩
             have H9 := Lib.hid h9
             have K9 := Lib.hid k9))
      all_goals
        go_wp2
        go_ret2
        rw [HD.out, HA.out]
        exact ⟨rfl, H9.out.less (fun _ h => .inl h), K1.out.trans ((((H1.out.call HB4.out).2.trans K9.out)).less (fun _ h => .inl h))⟩
  · have HA : Hid (AN = 0) := Lib.hid (by rw [Hask.out, if_neg (by omega)])
    have HD : Hid (RD = (([], (pinC c bk).1), (pinC c bk).2)) := Lib.hid (by rw [HD0.out, if_neg (by omega), if_pos hk])
    have e4 : (k == 4) = false := by rw [beq_eq_false_iff_ne]; omega
    have e5 : (k == 5) = false := by rw [beq_eq_false_iff_ne]; omega
    have e6 : (k == 6) = true := by rw [beq_iff_eq]; omega
    clear hk hkr
    go_wp2_with fail
    refine (Hat.out W1).mono ?_
    rintro e w4 ⟨rfl, hbv⟩
    have L4 := Lib.hid (H1.out.call hbv)
    obtain ⟨d0, d1, d2, d3⟩ := h4_call hbv ⟨d0, d1, d2, d3⟩
    clear hbv
    go_wp2_with fail
    refine (live_Pin L4.out.1 hN bk Hbk.out).mono ?_
    rintro e w5 ⟨rfl, h9, k9⟩
    have H9 := Lib.hid h9
    have K9 := Lib.hid (L4.out.2.trans k9)
    clear h9 k9
    go_wp2
    go_ret2
    rw [HD.out, HA.out]
    exact ⟨rfl, H9.out.less (fun _ h => .inl h), K1.out.trans (K9.out.less (fun _ h => .inl h))⟩
  · have HA : Hid (AN = 0) := Lib.hid (by rw [Hask.out, if_neg (by omega)])
    have HD : Hid (RD = (([], (unpinC c bk).1), (unpinC c bk).2)) := Lib.hid (by rw [HD0.out, if_neg (by omega), if_neg (by omega), if_pos hk])
    have e4 : (k == 4) = false := by rw [beq_eq_false_iff_ne]; omega
    have e5 : (k == 5) = false := by rw [beq_eq_false_iff_ne]; omega
    have e6 : (k == 6) = false := by rw [beq_eq_false_iff_ne]; omega
    have e7 : (k == 7) = true := by rw [beq_iff_eq]; omega
    clear hk hkr
    go_wp2_with fail
    refine (Hat.out W1).mono ?_
    rintro e w4 ⟨rfl, hbv⟩
    have L4 := Lib.hid (H1.out.call hbv)
    obtain ⟨d0, d1, d2, d3⟩ := h4_call hbv ⟨d0, d1, d2, d3⟩
    clear hbv
    go_wp2_with fail
    refine (live_Unpin L4.out.1 hN bk Hbk.out).mono ?_
    rintro e w5 ⟨rfl, h9, k9⟩
    have H9 := Lib.hid h9
    have K9 := Lib.hid (L4.out.2.trans k9)
    clear h9 k9
    go_wp2
    go_ret2
    rw [HD.out, HA.out]
    exact ⟨rfl, H9.out.less (fun _ h => .inl h), K1.out.trans (K9.out.less (fun _ h => .inl h))⟩
  · have HA : Hid (AN = 0) := Lib.hid (by rw [Hask.out, if_neg (by omega)])
    have HD : Hid (RD = (([], 0), cleanC c)) := Lib.hid (by rw [HD0.out, if_neg (by omega), if_neg (by omega), if_neg (by omega), if_pos hk])
    have e4 : (k == 4) = false := by rw [beq_eq_false_iff_ne]; omega
    have e5 : (k == 5) = false := by rw [beq_eq_false_iff_ne]; omega
    have e6 : (k == 6) = false := by rw [beq_eq_false_iff_ne]; omega
    have e7 : (k == 7) = false := by rw [beq_eq_false_iff_ne]; omega
    have e8 : (k == 8) = true := by rw [beq_iff_eq]; omega
    clear hk hkr
    go_wp2_with fail
    refine (live_Clean H1.out).mono ?_
    rintro e w5 ⟨rfl, h9, k9⟩
    have H9 := Lib.hid h9
    have K9 := Lib.hid k9
    clear h9 k9
    go_wp2
    go_ret2
    rw [HD.out, HA.out]
    exact ⟨rfl, H9.out.less (fun _ h => .inl h), K1.out.trans (K9.out.less (fun _ h => .inl h))⟩
  · have HA : Hid (AN = 0) := Lib.hid (by rw [Hask.out, if_neg (by omega)])
    have HD : Hid (RD = (([], 0), dropC c)) := Lib.hid (by rw [HD0.out, if_neg (by omega), if_neg (by omega), if_neg (by omega), if_neg (by omega), if_pos hk])
    have e4 : (k == 4) = false := by rw [beq_eq_false_iff_ne]; omega
    have e5 : (k == 5) = false := by rw [beq_eq_false_iff_ne]; omega
    have e6 : (k == 6) = false := by rw [beq_eq_false_iff_ne]; omega
    have e7 : (k == 7) = false := by rw [beq_eq_false_iff_ne]; omega
    have e8 : (k == 8) = false := by rw [beq_eq_false_iff_ne]; omega
    have e9 : (k == 9) = true := by rw [beq_iff_eq]; omega
    clear hk hkr
    go_wp2_with fail
    refine (live_Drop H1.out).mono ?_
    rintro e w5 ⟨rfl, h9, k9⟩
    have H9 := Lib.hid h9
    have K9 := Lib.hid k9
    clear h9 k9
    go_wp2
    go_ret2
    rw [HD.out, HA.out]
    exact ⟨rfl, H9.out.less (fun _ h => .inl h), K1.out.trans (K9.out.less (fun _ h => .inl h))⟩
  · have HD : Hid (RD = ((askG c bk).1, (askG c bk).2)) := Lib.hid (by rw [HD0.out, if_neg (by omega), if_neg (by omega), if_neg (by omega), if_neg (by omega), if_neg (by omega)]; rfl)
    have HA : Hid (n + AN = if hasL c.l bk then n else n + 1) := Lib.hid (by rw [Hask.out]; cases hh : hasL c.l bk <;> simp [hk])
    have e4 : (k == 4) = false := by rw [beq_eq_false_iff_ne]; omega
    have e5 : (k == 5) = false := by rw [beq_eq_false_iff_ne]; omega
    have e6 : (k == 6) = false := by rw [beq_eq_false_iff_ne]; omega
    have e7 : (k == 7) = false := by rw [beq_eq_false_iff_ne]; omega
    have e8 : (k == 8) = false := by rw [beq_eq_false_iff_ne]; omega
    have e9 : (k == 9) = false := by rw [beq_eq_false_iff_ne]; omega
    clear hk hkr
    go_wp2_with fail
    refine (Hat.out W1).mono ?_
    rintro e w4 ⟨rfl, hbv⟩
    have L4 := Lib.hid (H1.out.call hbv)
    obtain ⟨d0, d1, d2, d3⟩ := h4_call hbv ⟨d0, d1, d2, d3⟩
    clear hbv
    go_wp2_with fail
    refine (live_Get L4.out.1 hN bk Hbk.out).mono ?_
    rintro e w5 ⟨rfl, h9, k9⟩
    have H9 := Lib.hid h9
    have K9 := Lib.hid (L4.out.2.trans k9)
    clear h9 k9
    go_wp2
    go_ret2
    rw [HD.out, HA.out]
    exact ⟨rfl, H9.out.less (fun _ h => .inl h), K1.out.trans (K9.out.less (fun _ h => .inl h))⟩
end Go.Proofs.Ytikkdhfbihejbaa
