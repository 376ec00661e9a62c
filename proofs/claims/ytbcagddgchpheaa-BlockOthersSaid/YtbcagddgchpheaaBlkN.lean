/- The reference's device of chapter 1: turn, Fuse, Read. Conditions: a device that may be. -/
import Derived.Test.YtbcagddgchpheaaBlkE
namespace Go.Proofs.Ytbcagddgchpheaa
open Go.RowKit Go.Blk

set_option maxRecDepth 100000 in
theorem ref_turn (d : Dv) (g : Nat) (od op : Option Nat) (w : World) (h : DevAt 42 w g od op d) (h1 : -1 ≤ d.fuse) (h2 : d.fuse ≤ 9223372036854775807) :
    Calls Try.prog 47 #[.pointer (some ⟨g, 0, none⟩)] w fun e w' => e = .returned (.bool (turnOk d)) ∧ Mut 42 w w' g od op (turnD d) := by
  obtain ⟨vd, vp, hh, _, _, c0, c1, c2, c3, f0, f1, f2, f3, _⟩ := h.cells
  have H := Lib.hid h
  clear h hh
  by_cases h0 : d.fuse = 0
  · have hE : Hid (turnOk d = false ∧ turnD d = { d with dead := true }) := Lib.hid ⟨by unfold turnOk; simp [h0], by unfold turnD; rw [if_pos h0]⟩
    have hq : (d.fuse == 0) = true := by rw [h0]; rfl
    clear h0
    go_enter Try.func47, Try.ntmps47
    go_wp2
    go_ret
    exact ⟨by rw [hE.out.1]; rfl, by rw [hE.out.2]; exact (Mut.refl H.out).setDead true⟩
  · have hq : (d.fuse == 0) = false := by rw [beq_eq_false_iff_ne]; exact h0
    by_cases h3 : 0 < d.fuse
    · have hE : Hid (turnOk d = true ∧ turnD d = { d with fuse := d.fuse - 1 }) := Lib.hid ⟨by unfold turnOk; simp [h0], by
        unfold turnD; rw [if_neg h0]
        congr 1
        rw [if_pos h3]⟩
      clear h0
      go_enter Try.func47, Try.ntmps47
      go_wp2
      go_ret
      exact ⟨by rw [hE.out.1]; rfl, by rw [hE.out.2]; exact (Mut.refl H.out).setFuse _⟩
    · have hE : Hid (turnOk d = true ∧ turnD d = d) := Lib.hid ⟨by unfold turnOk; simp [h0], by
        unfold turnD; rw [if_neg h0, if_neg h3]⟩
      clear h0
      go_enter Try.func47, Try.ntmps47
      go_wp2
      go_ret
      exact ⟨by rw [hE.out.1]; rfl, by rw [hE.out.2]; exact Mut.refl H.out⟩
set_option maxRecDepth 100000 in
theorem ref_Fuse (d : Dv) (n : Int) (g : Nat) (od op : Option Nat) (w : World) (h : DevAt 42 w g od op d) :
    Calls Try.prog 34 #[.pointer (some ⟨g, 0, none⟩), .int .i64 n] w fun e w' => e = .returned (.tuple #[]) ∧ Mut 42 w w' g od op (fuseD d n) := by
  obtain ⟨vd, vp, hh, _, _, c0, c1, c2, c3, f0, f1, f2, f3, _⟩ := h.cells
  have H := Lib.hid h
  clear h hh
  by_cases h3 : n ≤ -1
  · have hE : Hid (fuseD d n = { d with fuse := -1 }) := Lib.hid (by unfold fuseD; congr 1; omega)
    have h4 : ¬ -1 < n := by omega
    go_enter Try.func34, Try.ntmps34
    go_wp2
    all_goals
      first
        | (go_end0
           exact ⟨rfl, by rw [hE.out]; exact (Mut.refl H.out).setFuse _⟩)
        | (obtain rfl : n = -1 := by omega
           go_end0
           exact ⟨rfl, by rw [hE.out]; exact (Mut.refl H.out).setFuse _⟩)
  · have hE : Hid (fuseD d n = { d with fuse := n }) := Lib.hid (by unfold fuseD; congr 1; omega)
    have h4 : -1 < n := by omega
    go_enter Try.func34, Try.ntmps34
    go_wp2
    all_goals
      first
        | (exfalso; omega)
        | (go_end0
           exact ⟨rfl, by rw [hE.out]; exact (Mut.refl H.out).setFuse _⟩)
set_option maxRecDepth 100000 in
set_option maxHeartbeats 1600000 in
theorem ref_Read (d : Dv) (i : Int) (g : Nat) (od op : Option Nat) (w : World) (h : DevAt 42 w g od op d) (ok : d.Ok) (hp : d.pend.length ≤ 100000) (h1 : -9223372036854775808 ≤ i) (h2 : i ≤ 9223372036854775807) :
    Calls Try.prog 32 #[.pointer (some ⟨g, 0, none⟩), .int .i64 i] w fun e w' => e = .returned (.tuple #[.string (B (readT d i)), .int .i64 (readE d i : Nat)]) ∧ Below w.heap.size w w' := by
  have hn1 := ok.n1
  obtain ⟨vd, vp, hh, ⟨ad, cd, rfl⟩, ⟨ap, cp, rfl⟩, c0, c1, c2, c3, f0, f1, f2, f3, hod, hob, hop, hpb⟩ := h.cells
  cases hd : d.dead with
  | true =>
    have hE : Hid (readE d i = 4 ∧ readT d i = []) := Lib.hid (by unfold readE readT; rw [hd]; exact ⟨rfl, rfl⟩)
    rw [hd] at c3
    clear hd h hh hod hob hop hpb
    go_enter Try.func32, Try.ntmps32
    go_wp2
    go_ret2
    exact ⟨by rw [hE.out.1, hE.out.2]; rfl, Below.refl _ _⟩
  | false =>
    rw [hd] at c3
    by_cases hin : inD d i = true
    · have hT : Hid (readT d i = lastW d.pend i.toNat (d.disk.getD i.toNat [])) := Lib.hid (by unfold readT; rw [hd, hin]; rfl)
      have hE : Hid (readE d i = 0) := Lib.hid (by unfold readE; rw [hd, hin]; rfl)
      have hi0 : 0 ≤ i ∧ i < (d.disk.length : Int) := by unfold inD at hin; rw [Bool.and_eq_true, decide_eq_true_eq, decide_eq_true_eq] at hin; exact hin
      obtain ⟨hi0, hi1⟩ := hi0
      obtain ⟨j, rfl⟩ := Int.eq_ofNat_of_zero_le hi0
      have hjl : j < d.disk.length := by omega
      rw [Int.toNat_natCast] at hT
      obtain ⟨gd, capd, curd, hvd, hgd, _, _, _, hdc, _⟩ := own_txt hod (by omega)
      simp only [Value.slice.injEq] at hvd
      obtain ⟨rfl, _, rfl⟩ := hvd
      have hcj := hdc j hjl
      have hgetj : d.disk.getD j [] = d.disk[j] := by rw [List.getD_eq_getElem?_getD, List.getElem?_eq_getElem hjl]; rfl
      rw [hgetj] at hT
      have Hop := Lib.hid hop
      clear h hh hd hin hod hob hop hpb hdc c2 f0 f1 f2 f3 hgetj
      generalize d.disk[j] = s0 at *
      generalize hm : d.pend.length = m at *
      have Hm := Lib.hid hm
      clear hm
      go_enter Try.func32, Try.ntmps32
      go_wp2
      go_loopw [6, 7] (fun s x wr => ∃ k : Nat, k ≤ m ∧ x = .int .i64 k ∧ s = .string (B (lastW (d.pend.take k) j s0)) ∧ Below w.heap.size w wr) (fun _ x _ => m - (intOf x).toNat)
      case atStart => exact ⟨0, by omega, rfl, rfl, Below.refl _ _⟩
      case round =>
        obtain ⟨k, hk, rfl, rfl, hbel⟩ := hrel
        have d1 := cell_below hbel (lt_of_cell c1) c1
        by_cases hlt : k < m
        · have hkl : k < d.pend.length := by rw [Hm.out]; exact hlt
          have hst := lastW_step d.pend j s0 k hkl
          obtain ⟨gp, cap, hvp, hgp, hpc⟩ := own_wr (show w.ownsRow 0 62 2 (.slice ap m cp) d.pend.length (wrCells d.pend) by rw [Hm.out]; exact Hop.out) (by omega)
          rw [Hm.out] at hvp
          simp only [Value.slice.injEq] at hvp
          obtain ⟨rfl, _, rfl⟩ := hvp
          obtain ⟨e1, e2⟩ := hpc _ hkl
          have e1 := cell_below hbel hgp e1
          have e2 := cell_below hbel hgp e2
          have Hst := Lib.hid hst
          have Hbel := Lib.hid hbel
          have hk1 : (k : Int) < (m : Int) := by omega
          clear hst hpc hbel
          generalize d.pend[k] = p at *
          obtain ⟨pb, ps⟩ := p
          simp only at e1 e2 Hst
          generalize lastW (d.pend.take k) j s0 = sk at *
          by_cases hpj : pb = j
          · have hq2 : ((pb : Int) == (j : Int)) = true := by rw [hpj]; simp
            have hfin : Hid (lastW (d.pend.take (k + 1)) j s0 = ps) := Lib.hid (by rw [Hst.out, if_pos hpj])
            clear hpj
            go_wp2
            go_roundw
            case rel => exact ⟨k + 1, by omega, by go_num, by rw [hfin.out], Hbel.out⟩
            case measure => simp [intOf]; omega
          · have hq2 : ((pb : Int) == (j : Int)) = false := by rw [beq_eq_false_iff_ne]; omega
            have hfin : Hid (lastW (d.pend.take (k + 1)) j s0 = sk) := Lib.hid (by rw [Hst.out, if_neg hpj])
            clear hpj
            go_wp2
            go_roundw
            case rel => exact ⟨k + 1, by omega, by go_num, by rw [hfin.out], Hbel.out⟩
            case measure => simp [intOf]; omega
        · obtain rfl : k = m := by omega
          have hfin : Hid (lastW (d.pend.take k) j s0 = readT d (j : Int)) := Lib.hid (by rw [hT.out, ← Hm.out, List.take_length])
          go_wp2
          go_ret2
          exact ⟨by rw [hfin.out, hE.out]; rfl, hbel⟩
    · rw [Bool.not_eq_true] at hin
      have hE : Hid (readE d i = 2 ∧ readT d i = []) := Lib.hid (by unfold readE readT; rw [hd, hin]; exact ⟨rfl, rfl⟩)
      clear h hh hod hob hop hpb hd
      by_cases h0 : i < 0
      · clear hin
        go_enter Try.func32, Try.ntmps32
        go_wp2
        go_ret2
        exact ⟨by rw [hE.out.1, hE.out.2]; rfl, Below.refl _ _⟩
      · have h3 : (d.disk.length : Int) ≤ i := by unfold inD at hin; rw [Bool.and_eq_false_iff, decide_eq_false_iff_not, decide_eq_false_iff_not] at hin; omega
        clear hin
        go_enter Try.func32, Try.ntmps32
        go_wp2
        go_ret2
        exact ⟨by rw [hE.out.1, hE.out.2]; rfl, Below.refl _ _⟩
end Go.Proofs.Ytbcagddgchpheaa
