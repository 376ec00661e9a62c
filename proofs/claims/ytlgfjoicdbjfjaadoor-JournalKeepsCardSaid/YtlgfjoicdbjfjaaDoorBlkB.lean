/- The device's Read. Conditions: a device that may be. -/
import Derived.Test.YtlgfjoicdbjfjaaDoorBlkA
import Derived.RegionTactic
import Derived.ChangeAlike
namespace Go.Proofs.YtlgfjoicdbjfjaaDoor
open Go.RowKit Go.Blk

theorem lastW_step (l : List (Nat × Txt)) (i : Nat) (s : Txt) (q : Nat) (h : q < l.length) : lastW (l.take (q + 1)) i s = if l[q].1 = i then l[q].2 else lastW (l.take q) i s := by
  rw [List.take_succ_eq_append_getElem h, lastW_append]
  rfl
set_option maxRecDepth 100000 in
set_option maxHeartbeats 1600000 in
theorem dev_Read (d : Dv) (i : Int) (g : Nat) (od op : Option Nat) (w : World) (h : DevAt 80 w g od op d) (ok : d.Ok) (hp : d.pend.length ≤ 100000) (h1 : -9223372036854775808 ≤ i) (h2 : i ≤ 9223372036854775807) :
    Calls Tryd.prog 25 #[.pointer (some ⟨g, 0, none⟩), .int .i64 i] w fun e w' => e = .returned (.tuple #[.string (B (readT d i)), .int .i64 (readE d i : Nat)]) ∧ Below w.heap.size w w' := by
  have Hc := Lib.hid (dev_check d i g od op w h ok.n1 h1 h2)
  have H := Lib.hid h
  by_cases hr : readE d i = 0
  · have hcase : d.dead = false ∧ inD d i = true := by
      unfold readE at hr
      revert hr
      cases d.dead <;> cases inD d i <;> simp
    obtain ⟨hd, hin⟩ := hcase
    have hT : Hid (readT d i = lastW d.pend i.toNat (d.disk.getD i.toNat [])) := Lib.hid (by unfold readT; rw [hd, hin]; rfl)
    have hE : Hid (readE d i = 0) := Lib.hid hr
    rw [hr] at Hc
    have hi0 : 0 ≤ i ∧ i < (d.disk.length : Int) := by unfold inD at hin; rw [Bool.and_eq_true, decide_eq_true_eq, decide_eq_true_eq] at hin; exact hin
    obtain ⟨hi0, hi1⟩ := hi0
    obtain ⟨j, rfl⟩ := Int.eq_ofNat_of_zero_le hi0
    have hjl : j < d.disk.length := by omega
    rw [Int.toNat_natCast] at hT
    obtain ⟨vd, vp, hh, hvd, hvp, c0, c1, c2, c3, f0, f1, f2, f3, hod, hob, hop, hpb⟩ := h.cells
    obtain ⟨gd, capd, curd, rfl, hgd, _, _, _, hdc, _⟩ := own_txt hod (by omega)
    have hcj := hdc j hjl
    have hgetj : d.disk.getD j [] = d.disk[j] := by rw [List.getD_eq_getElem?_getD, List.getElem?_eq_getElem hjl]; rfl
    rw [hgetj] at hT
    obtain ⟨ap, cp, rfl⟩ := hvp
    have Hop := Lib.hid hop
    clear h hh hvd hd hin hr hod hob hop hpb hdc c2 c3 f0 f1 f2 f3 hgetj
    generalize d.disk[j] = s0 at *
    generalize hm : d.pend.length = m at *
    have Hm := Lib.hid hm
    clear hm
    go_enter Tryd.func25, Tryd.ntmps25
    go_wp2_with fail
    refine Hc.out.mono ?_
    rintro e w1 ⟨rfl, rfl⟩
    go_wp2
    go_loopw [20] (fun x wr => ∃ k : Nat, k ≤ m ∧ x = .int .i64 k ∧ lastW d.pend j s0 = lastW (d.pend.take (m - k)) j s0 ∧ Below w.heap.size w wr) (fun x _ => m - (intOf x).toNat)
    case atStart => exact ⟨0, by omega, rfl, by rw [Nat.sub_zero, ← Hm.out, List.take_length], Below.refl _ _⟩
    case round =>
      obtain ⟨k, hk, rfl, hl, hbel⟩ := hrel
      have Hl := Lib.hid hl
      clear hl
      have d0 := cell_below hbel (lt_of_cell c0) c0
      have d1 := cell_below hbel (lt_of_cell c1) c1
      by_cases hlt : k < m
      · have hq : m - k = (m - 1 - k) + 1 := by omega
        have hql : m - 1 - k < d.pend.length := by rw [Hm.out]; omega
        have hst := lastW_step d.pend j s0 (m - 1 - k) hql
        rw [← hq, ← Hl.out] at hst
        obtain ⟨gp, cap, hvp, hgp, hpc⟩ := own_wr (show w.ownsRow 0 47 2 (.slice ap m cp) d.pend.length (wrCells d.pend) by rw [Hm.out]; exact Hop.out) (by omega)
        rw [Hm.out] at hvp
        simp only [Value.slice.injEq] at hvp
        obtain ⟨rfl, _, rfl⟩ := hvp
        obtain ⟨e1, e2⟩ := hpc _ hql
        have e1 := cell_below hbel hgp e1
        have e2 := cell_below hbel hgp e2
        have hw1 : IntKind.i64.wrap ((m : Int) - 1) = ((m - 1 : Nat) : Int) := by rw [IntWalk.i64_in _ (by omega)]; omega
        have hw2 : IntKind.i64.wrap (((m - 1 : Nat) : Int) - (k : Int)) = ((m - 1 - k : Nat) : Int) := by rw [IntWalk.i64_in _ (by omega)]; omega
        have Hst := Lib.hid hst
        have Hbel := Lib.hid hbel
        have hq1 : ((m - 1 - k : Nat) : Int) < (m : Int) := by omega
        have Hq := Lib.hid (show k + 1 ≤ m ∧ m - (k + 1) = m - 1 - k by omega)
        clear hst hpc hq hbel
        generalize d.pend[m - 1 - k] = p at *
        obtain ⟨pb, ps⟩ := p
        simp only at e1 e2 Hst
        generalize m - 1 - k = q at *
        generalize m - 1 = m1 at *
        go_wp2
        have e1a := cell_alloc (.cells #[.int .i64 0, .string ⟨#[]⟩] 47) e1
        have e2a := cell_alloc (.cells #[.int .i64 0, .string ⟨#[]⟩] 47) e2
        have d1a := cell_alloc (.cells #[.int .i64 0, .string ⟨#[]⟩] 47) d1
        by_cases hpj : pb = j
        · have hq2 : ((pb : Int) == (j : Int)) = true := by rw [hpj]; simp
          have hfin : Hid (readT d (j : Int) = ps) := Lib.hid (by rw [hT.out, Hst.out, if_pos hpj])
          clear hpj
          go_region
          go_wp2
          go_ret2
          exact ⟨by rw [hfin.out, hE.out]; rfl, below_to_drew (step_new Hbel.out _)⟩
        · have hq2 : ((pb : Int) == (j : Int)) = false := by rw [beq_eq_false_iff_ne]; omega
          have hfin : Hid (lastW d.pend j s0 = lastW (d.pend.take q) j s0) := Lib.hid (by rw [Hst.out, if_neg hpj])
          clear hpj
          go_region
          go_wp2
          go_roundw
          case rel =>
            refine ⟨k + 1, Hq.out.1, by go_num, ?_, below_to_drew (step_new Hbel.out _)⟩
            rw [Hq.out.2]
            exact hfin.out
          case measure => simp [intOf]; omega
      · obtain rfl : k = m := by omega
        have hfin : Hid (readT d (j : Int) = s0) := Lib.hid (by rw [hT.out, Hl.out, Nat.sub_self]; rfl)
        have d2 := cell_below hbel hgd hcj
        go_wp2
        go_ret2
        exact ⟨by rw [hfin.out, hE.out]; rfl, hbel⟩
  · have hT : Hid (readT d i = []) := Lib.hid (by
      unfold readE at hr
      unfold readT
      revert hr
      cases d.dead <;> cases inD d i <;> simp)
    have hq : (((readE d i : Nat) : Int) != 0) = true := by rw [bne_iff_ne]; omega
    clear hr h
    generalize readE d i = en at *
    go_enter Tryd.func25, Tryd.ntmps25
    go_wp2_with fail
    refine Hc.out.mono ?_
    rintro e w1 ⟨rfl, rfl⟩
    go_wp2
    go_ret2
    exact ⟨by rw [hT.out]; rfl, Below.refl _ _⟩
end Go.Proofs.YtlgfjoicdbjfjaaDoor
