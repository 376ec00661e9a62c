/- The reference's device of chapter 1: Flush. Conditions: a device that may be. -/
import Derived.Test.YtbcagddgchpheaaBlkN
import Derived.Deep.DeepCutAuto
namespace Go.Proofs.Ytbcagddgchpheaa
open Go.RowKit Go.Blk

set_option maxRecDepth 100000 in
set_option maxHeartbeats 1600000 in
theorem ref_Flush (d : Dv) (g : Nat) (od op : Option Nat) (w : World) (h : DevAt 42 w g od op d) (ok : d.Ok) (hp : d.pend.length ≤ 100000) :
    Calls Try.prog 33 #[.pointer (some ⟨g, 0, none⟩)] w fun e w' => e = .returned (.int .i64 (flushE d : Nat)) ∧ Mut 42 w w' g od op (flushD d) := by
  have Ht := Lib.hid (ref_turn d g od op w h ok.fuse0 ok.fuse1)
  have H := Lib.hid h
  have hn0 := ok.n0
  obtain ⟨vd0, vp0, hh0, _, _, _, _, _, b3, _⟩ := h.cells
  cases hd : d.dead with
  | true =>
    have hE : Hid (flushE d = 4 ∧ flushD d = d) := Lib.hid (by unfold flushE flushD; rw [hd]; exact ⟨rfl, rfl⟩)
    rw [hd] at b3
    clear hd h hh0
    go_enter Try.func33, Try.ntmps33
    go_wp2
    go_ret
    exact ⟨by rw [hE.out.1]; rfl, by rw [hE.out.2]; exact Mut.refl H.out⟩
  | false =>
    rw [hd] at b3
    by_cases h0 : d.fuse = 0
    · have hE : Hid (flushE d = 4 ∧ flushD d = turnD d) := Lib.hid (by unfold flushE flushD turnOk; rw [hd, h0]; exact ⟨rfl, rfl⟩)
      rw [show turnOk d = false by unfold turnOk; simp [h0]] at Ht
      clear hd h0 h hh0
      go_enter Try.func33, Try.ntmps33
      go_wp2_with fail
      refine Ht.out.mono ?_
      rintro e w2 ⟨rfl, m2⟩
      have M2 := Lib.hid m2
      clear m2
      go_wp2
      go_ret
      exact ⟨by rw [hE.out.1]; rfl, by rw [hE.out.2]; exact M2.out⟩
    · have hE : Hid (flushE d = 0 ∧ flushD d = { turnD d with disk := lay d.disk d.pend, pend := [] }) := Lib.hid (by unfold flushE flushD turnOk; rw [hd, decide_eq_true h0]; exact ⟨rfl, rfl⟩)
      rw [show turnOk d = true by unfold turnOk; simp [h0]] at Ht
      obtain ⟨hs1, hs2⟩ := turn_same d
      have Hs1 := Lib.hid hs1
      have Hs2 := Lib.hid hs2
      have Hpb := Lib.hid ok.pend
      clear hd h0 h hs1 hs2 hh0
      generalize turnD d = d1 at *
      go_enter Try.func33, Try.ntmps33
      go_wp2_with fail
      refine Ht.out.mono ?_
      rintro e w2 ⟨rfl, op1, hD1, hop1, hc1⟩
      have HD1 := Lib.hid hD1
      have Hop1 := Lib.hid hop1
      have Hc1 := Lib.hid hc1
      generalize hm : d.pend.length = m at *
      have Hm := Lib.hid hm
      clear hD1 hop1 hc1 hm b3
      go_wp2
      go_loopw [4] (fun x wr => ∃ k : Nat, k ≤ m ∧ x = .int .i64 k ∧ DevAt 42 wr g od op1 { d1 with disk := lay d.disk (d.pend.take k) } ∧ Chg (ownV g od op1) w2 wr) (fun x _ => m - (intOf x).toNat)
      case atStart =>
        refine ⟨0, by omega, rfl, ?_, Chg.refl _ _⟩
        show DevAt _ _ _ _ _ { d1 with disk := d.disk }
        rw [← Hs1.out]
        exact HD1.out
      case round =>
        obtain ⟨k, hk, rfl, hD, hc⟩ := hrel
        have HD := Lib.hid hD
        have HC := Lib.hid hc
        clear hc
        by_cases hlt : k < m
        · have hkl : k < d.pend.length := by rw [Hm.out]; exact hlt
          obtain ⟨⟨pb, ps⟩, hpk⟩ : ∃ p, d.pend[k] = p := ⟨_, rfl⟩
          have hst := lay_step d.pend d.disk k hkl
          have hbb := Hpb.out d.pend[k] (List.getElem_mem hkl)
          rw [hpk] at hst hbb
          simp only at hst hbb
          obtain ⟨hpb1, _⟩ := hbb
          have Hst := Lib.hid hst
          obtain ⟨gp, hgp, hgpl, ⟨capp, c1⟩, hpc⟩ := hD.pendAt (by show 0 < d1.pend.length; rw [Hs2.out]; omega)
          obtain ⟨gd, capd, hgd, c0, hdc, hdf, hgdl⟩ := hD.disk (by show 0 < (lay _ _).length; rw [lay_length]; exact hn0)
          have hpc' := hpc k (by show k < d1.pend.length; rw [Hs2.out]; exact hkl)
          have e0 : ({ d1 with disk := lay d.disk (d.pend.take k) } : Dv).pend[k]'(by show k < d1.pend.length; rw [Hs2.out]; exact hkl) = (pb, ps) := by simp only [Hs2.out]; exact hpk
          rw [e0] at hpc'
          obtain ⟨e1, e2⟩ := hpc'
          have hpl : pb < (lay d.disk (d.pend.take k)).length := by rw [lay_length]; exact hpb1
          obtain ⟨was, hwas⟩ : ∃ z, (lay d.disk (d.pend.take k))[pb] = z := ⟨_, rfl⟩
          have hdc1 := hdc pb hpl
          rw [show ({ d1 with disk := lay d.disk (d.pend.take k) } : Dv).disk[pb]'hpl = was from hwas] at hdc1
          have hdf1 := hdf pb
          have hc0 : wr.cell? ⟨g, 0, none⟩ = some (.slice (some ⟨gd, 0, none⟩) (lay d.disk (d.pend.take k)).length capd) := c0
          rw [lay_length] at hc0
          have hc1 : wr.cell? ⟨g, 1, none⟩ = some (.slice (some ⟨gp, 0, none⟩) d1.pend.length capp) := c1
          rw [Hs2.out, Hm.out] at hc1
          have hset := fun (n : Nat) => (hD.below (below_drewN (Below.refl _ _) n)).setDisk gd hgd pb hpl ps
          have Hset := Lib.hid hset
          have Hset0 := Lib.hid (hD.setDisk gd hgd pb hpl ps)
          have Hown : Hid (ownV g od op1 gd) := Lib.hid (.inr (.inl hgd))
          have hk1 : (k : Int) < (m : Int) := by omega
          have hpb2 : (pb : Int) < (d.disk.length : Int) := by omega
          clear hset hpc hdc hdf c0 c1 hD hgp hgd e0 hpk hwas hst hkl hpl
          have hk0 : (0 : Int) ≤ (k : Int) := by omega
          have hpb0 : (0 : Int) ≤ (pb : Int) := by omega
          go_wp2
          go_region
          go_wp2
          go_roundw
          case rel =>
            refine ⟨k + 1, by omega, by go_num, ?_, ?_⟩
            · rw [Hst.out]; exact (Hset0.out).below (below_drew _)
            · exact (HC.out.set gd pb _ Hown.out).call (below_drew _)
          case measure => simp [intOf]; omega
        · obtain rfl : k = m := by omega
          rw [show d.pend.take k = d.pend by rw [← Hm.out, List.take_length]] at HD
          obtain ⟨vd2, vp2, hh2, _, ⟨_, _, rfl⟩, k0, k1, k2, k3, q0, q1, q2, q3, _⟩ := HD.out.cells
          rw [show ({ d1 with disk := lay d.disk d.pend } : Dv).pend.length = k by rw [← Hm.out, ← Hs2.out]] at k1
          have M := Lib.hid ((show Mut 42 w wr g od op { d1 with disk := lay d.disk d.pend } from ⟨op1, HD.out, Hop1.out, Hc1.out.trans HC.out (fun q hq ha => by
            rcases ha with rfl | ha | ha
            · exact .inl rfl
            · exact .inr (.inl ha)
            · rcases Hop1.out q ha with h5 | h5
              · exact .inr (.inr h5)
              · omega)⟩).setPend (.slice none 0 0) [] (World.ownsRow_nil _ _ _ _) (fun q hq => by simp [Value.ownBlock] at hq))
          clear hh2 hD k0 k2 k3 q0 q2 q3
          go_wp2
          go_ret
          exact ⟨by rw [hE.out.1]; rfl, by rw [hE.out.2]; exact M.out⟩
end Go.Proofs.Ytbcagddgchpheaa
