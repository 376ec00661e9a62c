/- Chapter 4: Checkpoint. Conditions: numbers fit, a device that may be. -/
import Derived.Test.YtlgfjoicdbjfjaaDoorJrnE
import Derived.BigRegion
namespace Go.Proofs.YtlgfjoicdbjfjaaDoor
open Go.RowKit Go.Wir Go.Blk Go.Frm Go.Jrn

theorem jcs_ck (g : Nat) (j : Jn) (q pn : Nat) (hx : (nextSl j).p = q) (hp : 1 - j.pos = pn) :
    ((((((jcs g j.x (j.pos : Nat) j.next j.used).setIfInBounds 1 (.int .u64 ((j.x.e : Int) + 1))).setIfInBounds 2 (.int .u64 (j.next : Int))).setIfInBounds 3 (.int .i64 (j.x.log : Int))).setIfInBounds 4 (.int .i64 (q : Int))).setIfInBounds 5 (.int .i64 (pn : Int))).setIfInBounds 7 (.int .i64 0) = jcs g (ckJ j).x ((ckJ j).pos : Nat) (ckJ j).next (ckJ j).used := by
  subst hx hp
  unfold jcs ckJ
  simp [nextSl]
theorem s5_drew {w : World} {a b : Nat} {v v0 v1 v2 v3 : Value} (h : w.drew.cell? ⟨a, 5, none⟩ = some v) (h0 : w.cell? ⟨b, 0, none⟩ = some v0) (h1 : w.cell? ⟨b, 1, none⟩ = some v1) (h2 : w.cell? ⟨b, 2, none⟩ = some v2) (h3 : w.cell? ⟨b, 3, none⟩ = some v3) :
    w.drew.drew.cell? ⟨a, 5, none⟩ = some v ∧ w.drew.drew.cell? ⟨b, 0, none⟩ = some v0 ∧ w.drew.drew.cell? ⟨b, 1, none⟩ = some v1 ∧ w.drew.drew.cell? ⟨b, 2, none⟩ = some v2 ∧ w.drew.drew.cell? ⟨b, 3, none⟩ = some v3 := ⟨h, h0, h1, h2, h3⟩
theorem s5_blk {w w' : World} {a b : Nat} {v v0 v1 v2 v3 : Value} (h : w.cell? ⟨a, 5, none⟩ = some v ∧ w.cell? ⟨b, 0, none⟩ = some v0 ∧ w.cell? ⟨b, 1, none⟩ = some v1 ∧ w.cell? ⟨b, 2, none⟩ = some v2 ∧ w.cell? ⟨b, 3, none⟩ = some v3) (ha : w'.heap[a]? = w.heap[a]?) (hb : w'.heap[b]? = w.heap[b]?) :
    w'.cell? ⟨a, 5, none⟩ = some v ∧ w'.cell? ⟨b, 0, none⟩ = some v0 ∧ w'.cell? ⟨b, 1, none⟩ = some v1 ∧ w'.cell? ⟨b, 2, none⟩ = some v2 ∧ w'.cell? ⟨b, 3, none⟩ = some v3 :=
  ⟨(World.cell?_of_block (a := ⟨a, 5, none⟩) ha).trans h.1, (World.cell?_of_block (a := ⟨b, 0, none⟩) hb).trans h.2.1, (World.cell?_of_block (a := ⟨b, 1, none⟩) hb).trans h.2.2.1, (World.cell?_of_block (a := ⟨b, 2, none⟩) hb).trans h.2.2.2.1, (World.cell?_of_block (a := ⟨b, 3, none⟩) hb).trans h.2.2.2.2⟩
theorem s5_new {w : World} {a b : Nat} {v v0 v1 v2 v3 : Value} (h : w.cell? ⟨a, 5, none⟩ = some v ∧ w.cell? ⟨b, 0, none⟩ = some v0 ∧ w.cell? ⟨b, 1, none⟩ = some v1 ∧ w.cell? ⟨b, 2, none⟩ = some v2 ∧ w.cell? ⟨b, 3, none⟩ = some v3) (o : Obj) :
    (w.alloc o).cell? ⟨a, 5, none⟩ = some v ∧ (w.alloc o).cell? ⟨b, 0, none⟩ = some v0 ∧ (w.alloc o).cell? ⟨b, 1, none⟩ = some v1 ∧ (w.alloc o).cell? ⟨b, 2, none⟩ = some v2 ∧ (w.alloc o).cell? ⟨b, 3, none⟩ = some v3 :=
  s5_blk h (heap_alloc_old w o (lt_of_cell h.1)) (heap_alloc_old w o (lt_of_cell h.2.1))
theorem s5_call {w w' : World} {a b : Nat} {v v0 v1 v2 v3 : Value} (h : w.cell? ⟨a, 5, none⟩ = some v ∧ w.cell? ⟨b, 0, none⟩ = some v0 ∧ w.cell? ⟨b, 1, none⟩ = some v1 ∧ w.cell? ⟨b, 2, none⟩ = some v2 ∧ w.cell? ⟨b, 3, none⟩ = some v3) (hb : Below w.heap.size w w') :
    w'.cell? ⟨a, 5, none⟩ = some v ∧ w'.cell? ⟨b, 0, none⟩ = some v0 ∧ w'.cell? ⟨b, 1, none⟩ = some v1 ∧ w'.cell? ⟨b, 2, none⟩ = some v2 ∧ w'.cell? ⟨b, 3, none⟩ = some v3 :=
  s5_blk h (hb.block a (lt_of_cell h.1)) (hb.block b (lt_of_cell h.2.1))
section
variable {w0 w w' : World} {g : Nat} {od : Option Nat} {d : Dv} {jb : Nat} {j : Jn} {R : Nat → Prop}
/-- A write in a new block. -/
theorem wrs_new (w : World) (i : Int) (s : Txt) (t : TypeId) : Wrs (w.alloc (.cells #[.int .i64 i, .string (B s)] t)) (.slice (some ⟨w.heap.size, 0, none⟩) 1 1) [(i, s)] := by
  have hb := heap_alloc_new w (.cells #[.int .i64 i, .string (B s)] t)
  refine .inr ⟨w.heap.size, 0, 1, rfl, by simp, fun k hk => ?_⟩
  have hk0 : k = 0 := by simpa using hk
  subst hk0
  exact ⟨by rw [Lib.cell_of_heap hb]; rfl, by rw [Lib.cell_of_heap hb]; rfl⟩
/-- A write that was built just now is laid. -/
theorem jr_lays1 (h : LiveJ w0 w g od d jb j R) (ok : d.Ok) (i : Int) (s : Txt) (hi : 0 ≤ i) (hi2 : i ≤ 100000) (hs : s.length ≤ 100000) (hp : d.pend.length ≤ 99999) (t : TypeId) :
    Calls Tryd.prog 39 #[.pointer (some ⟨jb, 0, none⟩), .slice (some ⟨w.heap.size, 0, none⟩) 1 1] (w.alloc (.cells #[.int .i64 i, .string (B s)] t)) fun e w' => e = .returned (.int .i64 ((lays d [(i, s)]).1 : Nat)) ∧ LiveJ w0 w' g od (lays d [(i, s)]).2 jb j R ∧ Keeps R w w' := by
  have b := step_new (Below.refl w.heap.size w) (.cells #[.int .i64 i, .string (B s)] t)
  have h1 := LiveC.more h b (.slice (some ⟨w.heap.size, 0, none⟩) 1 1) (fun k hk => by simp only [Value.ownBlock, Option.some.injEq] at hk; subst hk; exact ⟨Nat.le_refl _, by simp⟩)
  obtain ⟨_, k1⟩ := LiveC.call h b
  refine (jr_lays h1 ok _ _ (wrs_new w i s t) (fun k hk => .inr hk) (fun p hp => ?_) (by simp; omega)).mono (fun e w' ⟨a1, a2, a3⟩ => ⟨a1, LiveC.less a2 (fun k hk => .inl hk), k1.trans (a3.less (fun k hk => .inl hk))⟩)
  simp only [List.mem_singleton] at hp
  subst hp
  exact ⟨by show -9223372036854775808 ≤ i; omega, by show i ≤ 9223372036854775807; omega, by show s.length ≤ 9223372036854775807; omega⟩
theorem LiveJ.drew (h : LiveJ w0 w g od d jb j R) (n : Nat) : LiveJ w0 (w.drewN n) g od d jb j R ∧ Keeps R w (w.drewN n) := LiveC.call h ⟨rfl, rfl, rfl, Nat.le_refl _, fun _ _ => rfl⟩
set_option maxRecDepth 100000 in
set_option maxHeartbeats 3200000 in
theorem jr_Checkpoint {K : Nat} (h : LiveJ w0 w g od d jb j R) (ok : d.Ok) (hj : JFit K j) (hK : K ≤ 1000000) (hp : d.pend.length ≤ 10000) :
    Calls Tryd.prog 15 #[.pointer (some ⟨jb, 0, none⟩)] w fun e w' => e = .returned (.int .i64 ((ckpt d j).1 : Nat)) ∧ LiveJ w0 w' g od (ckpt d j).2.1 jb (ckpt d j).2.2 R ∧ Keeps R w w' := by
  have HC : Hid (ckpt d j = if (ckD1 d j).1 = 0 then (if (ckD2 d j).1 = 0 then (0, (ckD2 d j).2, ckJ j) else ((ckD2 d j).1, (ckD2 d j).2, j)) else ((ckD1 d j).1, (ckD1 d j).2, j)) := Lib.hid rfl
  have H := Lib.hid h
  have Hj := Lib.hid hj
  have Hok := Lib.hid ok
  have HP := Lib.hid (jr_place h hj 0 (by omega))
  have hpl : placeN j 0 < 52 := by unfold placeN; rw [hj.log]; omega
  have H1ok := Lib.hid (lays_ok [(((placeN j 0 : Nat) : Int), zeros)] d ok)
  have HD1 : Hid (lays d [(((placeN j 0 : Nat) : Int), zeros)] = ckD1 d j) := Lib.hid rfl
  have HD2 : Hid (lays (ckD1 d j).2 [(((1 - j.pos : Nat) : Int), slotT (nextSl j))] = ckD2 d j) := Lib.hid rfl
  have HN := Lib.hid (noughts)
  clear h hj ok
  rw [HD1.out] at H1ok
  have hJ1 := Hj.out.log
  have hJ2 := Hj.out.pl
  have hJ3 := Hj.out.used
  have hJ4 := Hj.out.pos
  have hJ5 := Hj.out.next
  have hJ6 := Hj.out.e
  have HX : Hid ((nextSl j) = ⟨j.x.e + 1, j.next, j.x.log, (j.x.p + j.used) % j.x.log⟩) := Lib.hid rfl
  have hq : (j.x.p + j.used) % j.x.log < 50 := by rw [hJ1]; omega
  have t1 : ((j.x.p : Int) + (j.used : Int)).tmod (j.x.log : Int) = (((j.x.p + j.used) % j.x.log : Nat) : Int) := by
    rw [Int.tmod_eq_emod_of_nonneg (by omega)]; push_cast; rfl
  have hz : ((j.x.log : Int) == 0) = false := by rw [hJ1]; rfl
  have hz0 : ¬ j.x.log = 0 := by omega
  have Hfit : Hid ((nextSl j).Fit) := Lib.hid (by rw [HX.out]; exact ⟨by show j.x.e + 1 < _; omega, by show j.next < _; omega, by show j.x.log < _; omega, by show (j.x.p + j.used) % j.x.log < _; omega⟩)
  have HT := Lib.hid (slot_text (nextSl j) Hfit.out)
  generalize hsl : slotT (nextSl j) = tx at *
  have htx : tx.length = 256 := by rw [← hsl]; exact slotT_length _
  have Htx := Lib.hid htx
  clear hsl htx
  rw [HX.out] at HT
  unfold slV at HT
  simp only [Int.natCast_add, Int.cast_ofNat_Int] at HT
  have HJ1 := Lib.hid hJ1
  clear hJ1
  go_enter Tryd.func15, Tryd.ntmps15
  go_wp2_with fail
  refine HP.out.mono ?_
  rintro e w1 ⟨rfl, n1, rfl⟩
  obtain ⟨j1, k1⟩ := H.out.drew n1
  have J1 := Lib.hid j1
  have K1 := Lib.hid k1
  clear j1 k1
  go_wp2_with fail
  refine (HN.out _).mono ?_
  rintro e w2 ⟨rfl, hb2⟩
  obtain ⟨j2, k2⟩ := LiveC.call J1.out hb2
  have K2 := Lib.hid (K1.out.trans k2)
  have HL := Lib.hid (jr_lays1 j2 Hok.out ((placeN j 0 : Nat) : Int) zeros (by omega) (by omega) (by rw [zeros_length]; omega) (by omega) 47)
  rw [HD1.out] at HL
  clear hb2 j2 k2
  generalize zeros = zr at *
  go_wp2_with fail
  refine HL.out.mono ?_
  rintro e w3 ⟨rfl, j3, k3⟩
  have J3 := Lib.hid j3
  have K3 := Lib.hid (K2.out.trans k3)
  obtain ⟨⟨c0, c1, c2, c3, c4, c5, c6, c7⟩, f⟩ := LiveJ.cells j3
  have F := Lib.hid f
  clear j3 k3 f
  generalize hd1 : ckD1 d j = D1 at *
  obtain ⟨r1, d1⟩ := D1
  simp only at HC HD2 H1ok J3
  by_cases hE : r1 = 0
  · have hE1 : ((r1 : Int) != 0) = false := by rw [hE]; rfl
    have HC1 : Hid (ckpt d j = if (ckD2 d j).1 = 0 then (0, (ckD2 d j).2, ckJ j) else ((ckD2 d j).1, (ckD2 d j).2, j)) := Lib.hid (by rw [HC.out, if_pos hE])
    clear hE
    generalize (j.x.p + j.used) % j.x.log = q at *
    have a1 := cell_alloc (.cells #[.int .u64 0, .int .u64 0, .int .i64 0, .int .i64 0] 63) c1
    have a3 := cell_alloc (.cells #[.int .u64 0, .int .u64 0, .int .i64 0, .int .i64 0] 63) c3
    have a4 := cell_alloc (.cells #[.int .u64 0, .int .u64 0, .int .i64 0, .int .i64 0] 63) c4
    have a6 := cell_alloc (.cells #[.int .u64 0, .int .u64 0, .int .i64 0, .int .i64 0] 63) c6
    have a7 := cell_alloc (.cells #[.int .u64 0, .int .u64 0, .int .i64 0, .int .i64 0] 63) c7
    clear c2
    go_wp2
    go_upto_region 5 with fail
    go_cut [4] (fun s wx => ∃ wy, s = .pointer (some ⟨w3.heap.size, 0, none⟩) ∧ wx = wy.drew ∧ wy = w3.alloc (.cells #[.int .u64 ((j.x.e : Int) + 1), .int .u64 (j.next : Int), .int .i64 (j.x.log : Int), .int .i64 (q : Int)] 63))
    case first =>
      go_region
      all_goals
        go_wp2
        go_meet
        exact ⟨_, rfl, rfl, rfl⟩
    case rest =>
    obtain ⟨wy, rfl, rfl, hwy⟩ := hcut
    have b4 := step_new (Below.refl w3.heap.size w3) (.cells #[.int .u64 ((j.x.e : Int) + 1), .int .u64 (j.next : Int), .int .i64 (j.x.log : Int), .int .i64 (q : Int)] 63)
    have j4 := LiveC.more J3.out b4 (.slice (some ⟨w3.heap.size, 0, none⟩) 0 0) (fun k hk => by simp only [Value.ownBlock, Option.some.injEq] at hk; subst hk; exact ⟨Nat.le_refl _, by simp⟩)
    have k4 := (LiveC.call J3.out b4).2
    have s4 := heap_alloc_new w3 (.cells #[.int .u64 ((j.x.e : Int) + 1), .int .u64 (j.next : Int), .int .i64 (j.x.log : Int), .int .i64 (q : Int)] 63)
    rw [← hwy] at j4 k4 s4
    obtain ⟨j5, k5⟩ : LiveJ w0 wy.drew g od d1 jb j (fun k => R k ∨ (Value.slice (some ⟨w3.heap.size, 0, none⟩) 0 0).ownBlock = some k) ∧ Keeps (fun k => R k ∨ (Value.slice (some ⟨w3.heap.size, 0, none⟩) 0 0).ownBlock = some k) wy wy.drew := LiveJ.drew j4 1
    have K5 := Lib.hid ((K3.out.trans k4).trans (k5.less (fun k hk => .inl hk)))
    obtain ⟨⟨c0, c1, c2, c3, c4, c5, c6, c7⟩, f⟩ := LiveJ.cells j5
    have J5 := Lib.hid j5
    obtain ⟨s0, s1, s2, s3, _, _, _, _⟩ := cells4 s4
    generalize w3.heap.size = sb at *
    have S4 := Lib.hid s4
    clear b4 j4 k4 k5 j5 s4 f c1 c2 c3 c4 c6 c7 hwy
    generalize hpn : 1 - j.pos = pn at *
    have hp1 : (1 : Int) - (j.pos : Int) = (pn : Int) := by omega
    have wpos : IntKind.i64.wrap ((1 : Int) - (j.pos : Int)) = (pn : Int) := by rw [hp1]; exact IntWalk.i64_in _ (by omega)
    have hpn1 : pn ≤ 1 := by omega
    have Hpn := Lib.hid hpn
    have Q1 := Lib.hid (show (0 : Int) ≤ (pn : Int) by omega)
    have Q2 := Lib.hid (show (pn : Int) ≤ 100000 by omega)
    have Q3 := Lib.hid (show tx.length ≤ 100000 by have := Htx.out; omega)
    have Q4 := Lib.hid (show d1.pend.length ≤ 99999 by have := H1ok.out.2.1; simp only [List.length_cons, List.length_nil] at this; omega)
    clear hpn
    go_upto_region 6 with fail
    go_cut [5] (fun s wx => s = .int .i64 ((ckD2 d j).1 : Nat) ∧ LiveJ w0 wx g od (ckD2 d j).2 jb j (fun k => R k ∨ (Value.slice (some ⟨sb, 0, none⟩) 0 0).ownBlock = some k) ∧ Keeps (fun k => R k ∨ (Value.slice (some ⟨sb, 0, none⟩) 0 0).ownBlock = some k) wy.drew wx)
    case first =>
      clear hp1
      go_region_held3 (fun w' => w'.cell? ⟨jb, 5, none⟩ = some (.int .i64 (j.pos : Nat)) ∧ w'.cell? ⟨sb, 0, none⟩ = some (.int .u64 ((j.x.e : Int) + 1)) ∧ w'.cell? ⟨sb, 1, none⟩ = some (.int .u64 (j.next : Int)) ∧ w'.cell? ⟨sb, 2, none⟩ = some (.int .i64 (j.x.log : Int)) ∧ w'.cell? ⟨sb, 3, none⟩ = some (.int .i64 (q : Int)))
        (first | with_reducible exact s5_drew c5 s0 s1 s2 s3 | with_reducible exact s5_call (by assumption) hb5 | with_reducible exact s5_new (by assumption) _ | with_reducible exact s5_blk (by assumption) hjb6 hsb6 | with_reducible assumption)
        (first
          | (go_at_call 42; (with_reducible refine (HT.out _).mono ?_); rintro e w5 ⟨rfl, hb5⟩; have J6 := Lib.hid (LiveC.call (LiveJ.drew J5.out 1).1 hb5))
          | (go_at_call 39; go_must (refine (jr_lays1 J6.out.1 H1ok.out.1 (pn : Int) tx Q1.out Q2.out Q3.out Q4.out _).mono ?_); rintro e w6 ⟨rfl, h6, k6⟩; have hjb6 := (h6.blk.trans J6.out.1.blk.symm).trans (heap_alloc_old w5 (.cells #[.int .i64 (pn : Nat), .string (B tx)] 47) (LiveC.jlt J6.out.1)).symm; have hsb6 := (k6 sb (.inr rfl)).trans (heap_alloc_old w5 (.cells #[.int .i64 (pn : Nat), .string (B tx)] 47) (LiveC.lt J6.out.1 sb (.inr rfl))).symm; have J7 := Lib.hid h6; have K7 := Lib.hid (((LiveJ.drew J5.out 1).2.trans J6.out.2).trans k6)))
      all_goals go_wp2
      all_goals
        go_meet
        have h7 := J7.out
        rw [HD2.out] at h7 ⊢
        exact ⟨rfl, h7, K7.out⟩
    case rest =>
    obtain ⟨rfl, h6, k6⟩ := hcut
    have H6 := Lib.hid (LiveC.less h6 (R' := R) (fun k hk => .inl hk))
    have K6 := Lib.hid (K5.out.trans (k6.less (fun k hk => .inl hk)))
    have s6 := (k6 sb (.inr rfl)).trans (show wy.drew.heap[sb]? = _ from S4.out)
    obtain ⟨t0, t1', t2, t3, _, _, _, _⟩ := cells4 s6
    obtain ⟨⟨e0, e1, e2, e3, e4, e5, e6, e7⟩, f⟩ := LiveJ.cells h6
    have f1 := f 1
    have f2 := f 2
    have f3 := f 3
    have f4 := f 4
    have f5 := f 5
    have f7 := f 7
    clear c0 c5 s0 s1 s2 s3 h6 k6 s6 f a1 a3 a4 a6 a7
    generalize hd2 : ckD2 d j = D2 at *
    obtain ⟨r2, d2⟩ := D2
    simp only at HC1 H6
    by_cases hE2 : r2 = 0
    · have hE3 : ((r2 : Int) != 0) = false := by rw [hE2]; rfl
      have HC2 : Hid (ckpt d j = (0, d2, ckJ j)) := Lib.hid (by rw [HC1.out, if_pos hE2])
      clear hE2
      have hnl : ¬ sb = jb := fun e => J5.out.nr (.inr (by rw [e]; rfl))
      go_wp2_with fail
      go_region
      all_goals
        go_wp2
        go_ret
        obtain ⟨u1, v1⟩ := LiveC.set H6.out 1 (.int .u64 ((j.x.e : Int) + 1))
        obtain ⟨u2, v2⟩ := LiveC.set u1 2 (.int .u64 (j.next : Int))
        obtain ⟨u3, v3⟩ := LiveC.set u2 3 (.int .i64 (j.x.log : Int))
        obtain ⟨u4, v4⟩ := LiveC.set u3 4 (.int .i64 (q : Int))
        obtain ⟨u5, v5⟩ := LiveC.set u4 5 (.int .i64 (pn : Int))
        obtain ⟨u6, v6⟩ := LiveC.set u5 7 (.int .i64 0)
        have hcs := jcs_ck g j q pn (by rw [HX.out]) Hpn.out
        rw [hcs] at u6
        obtain ⟨u7, v7⟩ := LiveJ.drew (j := ckJ j) u6 1
        exact ⟨by rw [HC2.out]; rfl, by rw [HC2.out]; exact u7, ((((((K6.out.trans v1).trans v2).trans v3).trans v4).trans v5).trans v6).trans v7⟩
    · have HC2 : Hid (ckpt d j = (r2, d2, j)) := Lib.hid (by rw [HC1.out, if_neg hE2])
      have hE3 : ((r2 : Int) != 0) = true := by rw [bne_iff_ne]; omega
      clear hE2
      go_wp2
      go_ret
      exact ⟨by rw [HC2.out]; rfl, by rw [HC2.out]; exact H6.out, K6.out⟩
  · have HC1 : Hid (ckpt d j = (r1, d1, j)) := Lib.hid (by rw [HC.out, if_neg hE])
    have hE1 : ((r1 : Int) != 0) = true := by rw [bne_iff_ne]; omega
    clear hE
    go_wp2
    go_ret
    exact ⟨by rw [HC1.out]; rfl, by rw [HC1.out]; exact J3.out, K3.out⟩
end
end Go.Proofs.YtlgfjoicdbjfjaaDoor
