/- The device's Flush and Crash. Conditions: a device that may be. -/
import Derived.Test.YtlgfjoicdbjfjaaDoorBlkB
namespace Go.Proofs.YtlgfjoicdbjfjaaDoor
open Go.RowKit Go.Blk

theorem DevAt.setDisk {T : TypeId} {w : World} {g : Nat} {od op : Option Nat} {d : Dv} (h : DevAt T w g od op d) (gd : Nat) (hgd : od = some gd) (i : Nat) (hi : i < d.disk.length) (s : Txt) : DevAt T (w.setCell ⟨gd, i, none⟩ (.string (B s))) g od op { d with disk := d.disk.set i s } := by
  obtain ⟨vd, vp, a1, a2, a3, a4, a5, a6, a7, a8⟩ := h
  subst hgd
  have c : Chg (fun k => k = gd) w (w.setCell ⟨gd, i, none⟩ (.string (B s))) := (Chg.refl _ w).set gd i _ rfl
  obtain ⟨gg, cap, cur, rfl, b1, b2, b3, b4, b5, b6⟩ := own_txt a2 (by omega)
  simp only [Value.ownBlock, Option.some.injEq] at a3
  subst a3
  have hne : gg ≠ g := fun e => a6 (by rw [e])
  have hgl : g < w.heap.size := by
    rcases Nat.lt_or_ge g w.heap.size with h' | h'
    · exact h'
    · simp [Array.getElem?_eq_none h'] at a1
  refine ⟨.slice (some ⟨gg, 0, none⟩) d.disk.length cap, vp, (c.block g hgl (fun e => hne e.symm)).trans a1, ?_, rfl, own_chg a4 c (fun k hk e => a8 gg rfl (by rw [← a5, hk, e])), a5, a6, a7, a8⟩
  have := own_txt_set a2 i hi s
  rw [List.length_set] at this
  simpa using this
/-- A device's row of blocks: where it lies. -/
theorem DevAt.disk {T : TypeId} {w : World} {g : Nat} {od op : Option Nat} {d : Dv} (h : DevAt T w g od op d) (h0 : 0 < d.disk.length) : ∃ gd cap, od = some gd ∧ w.cell? ⟨g, 0, none⟩ = some (.slice (some ⟨gd, 0, none⟩) d.disk.length cap) ∧
    (∀ i (hi : i < d.disk.length), w.cell? ⟨gd, i, none⟩ = some (.string (B d.disk[i]))) ∧ (∀ i, w.frozen? ⟨gd, i, none⟩ = false) ∧ gd < w.heap.size := by
  obtain ⟨vd, vp, hh, _, _, c0, _, _, _, _, _, _, _, hod, rfl, _⟩ := h.cells
  obtain ⟨gd, cap, cur, rfl, h1, _, _, _, h2, h3⟩ := own_txt hod h0
  exact ⟨gd, cap, rfl, c0, h2, h3, h1⟩
/-- A device's row of pending writes: its cells. -/
theorem DevAt.pendAt {T : TypeId} {w : World} {g : Nat} {od op : Option Nat} {d : Dv} (h : DevAt T w g od op d) (h0 : 0 < d.pend.length) : ∃ gp, op = some gp ∧ gp < w.heap.size ∧ (∃ cap, w.cell? ⟨g, 1, none⟩ = some (.slice (some ⟨gp, 0, none⟩) d.pend.length cap)) ∧
    ∀ i (hi : i < d.pend.length), w.cell? ⟨gp, i * 2, none⟩ = some (.int .i64 (d.pend[i].1 : Nat)) ∧ w.cell? ⟨gp, i * 2 + 1, none⟩ = some (.string (B d.pend[i].2)) := by
  obtain ⟨vd, vp, hh, _, _, _, c1, _, _, _, _, _, _, _, _, hop, rfl⟩ := h.cells
  obtain ⟨gp, cap, rfl, h1, h2⟩ := own_wr hop h0
  exact ⟨gp, rfl, h1, ⟨cap, c1⟩, h2⟩
theorem lay_step (l : List (Nat × Txt)) (dk : List Txt) (k : Nat) (h : k < l.length) : lay dk (l.take (k + 1)) = (lay dk (l.take k)).set l[k].1 l[k].2 := by
  unfold lay
  rw [List.take_succ_eq_append_getElem h, List.foldl_append]
  rfl
set_option maxRecDepth 100000 in
set_option maxHeartbeats 1600000 in
theorem dev_Flush (d : Dv) (g : Nat) (od op : Option Nat) (w : World) (h : DevAt 80 w g od op d) (ok : d.Ok) (hp : d.pend.length ≤ 100000) :
    Calls Tryd.prog 29 #[.pointer (some ⟨g, 0, none⟩)] w fun e w' => e = .returned (.int .i64 (flushE d : Nat)) ∧ Mut 80 w w' g od op (flushD d) := by
  have Hc := Lib.hid (dev_check d 0 g od op w h ok.n1 (by omega) (by omega))
  have Ht := Lib.hid (dev_turn d g od op w h ok.fuse0 ok.fuse1)
  have H := Lib.hid h
  have hn0 := ok.n0
  cases hd : d.dead with
  | true =>
    have hE : Hid (flushE d = 4 ∧ flushD d = d) := Lib.hid (by unfold flushE flushD; rw [hd]; exact ⟨rfl, rfl⟩)
    rw [show readE d 0 = 4 by unfold readE; rw [hd]; rfl] at Hc
    clear hd h
    go_enter Tryd.func29, Tryd.ntmps29
    go_wp2_with fail
    refine Hc.out.mono ?_
    rintro e w1 ⟨rfl, rfl⟩
    go_wp2
    go_ret
    exact ⟨by rw [hE.out.1]; rfl, by rw [hE.out.2]; exact Mut.refl H.out⟩
  | false =>
    rw [show readE d 0 = 0 by unfold readE inD; rw [hd, decide_eq_true (by omega), decide_eq_true (by omega)]; rfl] at Hc
    by_cases h0 : d.fuse = 0
    · have hE : Hid (flushE d = 4 ∧ flushD d = turnD d) := Lib.hid (by unfold flushE flushD turnOk; rw [hd, h0]; exact ⟨rfl, rfl⟩)
      rw [show turnE d = 4 by unfold turnE; rw [if_pos h0]] at Ht
      clear hd h0 h
      go_enter Tryd.func29, Tryd.ntmps29
      go_wp2_with fail
      refine Hc.out.mono ?_
      rintro e w1 ⟨rfl, rfl⟩
      go_wp2_with fail
      refine Ht.out.mono ?_
      rintro e w2 ⟨rfl, m2⟩
      have M2 := Lib.hid m2
      clear m2
      go_wp2
      go_ret
      exact ⟨by rw [hE.out.1]; rfl, by rw [hE.out.2]; exact M2.out⟩
    · have hE : Hid (flushE d = 0 ∧ flushD d = { turnD d with disk := lay d.disk d.pend, pend := [] }) := Lib.hid (by unfold flushE flushD turnOk; rw [hd, decide_eq_true h0]; exact ⟨rfl, rfl⟩)
      rw [show turnE d = 0 by unfold turnE; rw [if_neg h0]] at Ht
      obtain ⟨hs1, hs2⟩ := turn_same d
      have Hs1 := Lib.hid hs1
      have Hs2 := Lib.hid hs2
      have Hpb := Lib.hid ok.pend
      clear hd h0 h hs1 hs2
      generalize turnD d = d1 at *
      go_enter Tryd.func29, Tryd.ntmps29
      go_wp2_with fail
      refine Hc.out.mono ?_
      rintro e w1 ⟨rfl, rfl⟩
      go_wp2_with fail
      refine Ht.out.mono ?_
      rintro e w2 ⟨rfl, op1, hD1, hop1, hc1⟩
      have HD1 := Lib.hid hD1
      have Hop1 := Lib.hid hop1
      have Hc1 := Lib.hid hc1
      obtain ⟨vd, vp, hh, _, ⟨ap, cp, rfl⟩, c0, c1, _⟩ := hD1.cells
      rw [Hs2.out] at c1
      have Hap : Hid (∀ gp, op1 = some gp → ap = some ⟨gp, 0, none⟩) := Lib.hid (by
        intro gp hgp
        obtain ⟨_, _, _, _, _, _, c1', _, _, _, _, _, _, _, _, hop, hob⟩ := HD1.out.cells
        rw [Hs2.out] at hop
        rw [c1] at c1'
        simp only [Option.some.injEq] at c1'
        subst c1'
        rw [hgp] at hob
        rcases hop.2 with ⟨h7, _⟩ | ⟨gg, cap, _, h7, _⟩
        · rw [h7] at hob; cases hob
        · rw [h7] at hob
          simp only [Value.slice.injEq] at h7
          simp only [Value.ownBlock, Option.some.injEq] at hob
          rw [h7.1, hob])
      generalize hm : d.pend.length = m at *
      have Hm := Lib.hid hm
      clear hD1 hop1 hc1 hh c0 hm
      go_wp2
      go_loopw [22] (fun x wr => ∃ k : Nat, k ≤ m ∧ x = .int .i64 k ∧ DevAt 80 wr g od op1 { d1 with disk := lay d.disk (d.pend.take k) } ∧ Chg (ownV g od op1) w2 wr) (fun x _ => m - (intOf x).toNat)
      case atStart =>
        refine ⟨0, by omega, rfl, ?_, Chg.refl _ _⟩
        show DevAt _ _ _ _ _ { d1 with disk := d.disk }
        rw [← Hs1.out]
        exact HD1.out
      case round =>
        obtain ⟨k, hk, rfl, hD, hc⟩ := hrel
        have HD := Lib.hid hD
        have HC := Lib.hid hc
        clear hc
        by_cases hlt : k < m
        · have hkl : k < d.pend.length := by rw [Hm.out]; exact hlt
          obtain ⟨⟨pb, ps⟩, hpk⟩ : ∃ p, d.pend[k] = p := ⟨_, rfl⟩
          have hst := lay_step d.pend d.disk k hkl
          have hbb := Hpb.out d.pend[k] (List.getElem_mem hkl)
          rw [hpk] at hst hbb
          simp only at hst hbb
          obtain ⟨hpb1, _⟩ := hbb
          have Hst := Lib.hid hst
          obtain ⟨gp, hgp, hgpl, _, hpc⟩ := hD.pendAt (by show 0 < d1.pend.length; rw [Hs2.out]; omega)
          obtain ⟨gd, capd, hgd, c0, hdc, hdf, hgdl⟩ := hD.disk (by show 0 < (lay _ _).length; rw [lay_length]; exact hn0)
          have hap := Hap.out gp hgp
          subst hap
          have hpc' := hpc k (by show k < d1.pend.length; rw [Hs2.out]; exact hkl)
          have e0 : ({ d1 with disk := lay d.disk (d.pend.take k) } : Dv).pend[k]'(by show k < d1.pend.length; rw [Hs2.out]; exact hkl) = (pb, ps) := by simp only [Hs2.out]; exact hpk
          rw [e0] at hpc'
          obtain ⟨e1, e2⟩ := hpc'
          have hll : (lay d.disk (d.pend.take k)).length = d.disk.length := lay_length _ _
          have hpl : pb < ({ d1 with disk := lay d.disk (d.pend.take k) } : Dv).disk.length := by show pb < (lay d.disk (d.pend.take k)).length; rw [hll]; exact hpb1
          have hx := Lib.hid (((hD.setDisk gd hgd pb hpl ps).below (step_new (Below.refl _ _) (.cells #[.int .i64 ((pb : Nat) : Int), .string (B ps)] 47))).below (below_drew _))
          have hdc1 := hdc pb hpl
          have hdf1 := hdf pb
          have hc0 : wr.cell? ⟨g, 0, none⟩ = some (.slice (some ⟨gd, 0, none⟩) (lay d.disk (d.pend.take k)).length capd) := c0
          rw [hll] at hc0
          have Hown : Hid (ownV g od op1 gd) := Lib.hid (.inr (.inl hgd))
          obtain ⟨old, hold⟩ : ∃ o : Value, o = .string (B (({ d1 with disk := lay d.disk (d.pend.take k) } : Dv).disk[pb]'hpl)) := ⟨_, rfl⟩
          rw [← hold] at hdc1
          clear hpc hdc hdf c0 hD e0 hgp hgd hst hpk hold hll
          have hpb3 : (pb : Int) < (d.disk.length : Int) := by omega
          have d0a := cell_alloc (.cells #[.int .i64 (pb : Int), .string (B ps)] 47) hc0
          have d1a := cell_alloc (.cells #[.int .i64 (pb : Int), .string (B ps)] 47) hdc1
          have hza : wr.frozen? ⟨gd, pb, none⟩ = (wr.alloc (.cells #[.int .i64 (pb : Int), .string (B ps)] 47)).frozen? ⟨gd, pb, none⟩ := ((step_new (Below.refl _ wr) (.cells #[.int .i64 (pb : Int), .string (B ps)] 47)).frozen (p := ⟨gd, pb, none⟩) hgdl).symm
          rw [hdf1] at hza
          have f0a := hza.symm
          clear hza
          go_wp2
          go_region
          go_wp2
          go_roundw
          case rel =>
            refine ⟨k + 1, by omega, by go_num, ?_, ?_⟩
            · rw [Hst.out]; exact hx.out
            · exact ((HC.out.set gd pb _ Hown.out).new _).call (below_drew _)
          case measure => simp [intOf]; omega
        · obtain rfl : k = m := by omega
          rw [show d.pend.take k = d.pend by rw [← Hm.out, List.take_length]] at HD
          obtain ⟨vd2, vp2, hh2, _, _, k0, k1, k2, k3, q0, q1, q2, q3, _⟩ := HD.out.cells
          have M := Lib.hid ((show Mut 80 w wr g od op { d1 with disk := lay d.disk d.pend } from ⟨op1, HD.out, Hop1.out, Hc1.out.trans HC.out (fun q hq ha => by
            rcases ha with rfl | ha | ha
            · exact .inl rfl
            · exact .inr (.inl ha)
            · rcases Hop1.out q ha with h5 | h5
              · exact .inr (.inr h5)
              · omega)⟩).setPend (.slice none 0 0) [] (World.ownsRow_nil _ _ _ _) (fun q hq => by simp [Value.ownBlock] at hq))
          clear hh2 hD k0 k2 k3 q0 q2 q3
          go_wp2
          go_ret
          exact ⟨by rw [hE.out.1]; rfl, by rw [hE.out.2]; exact M.out⟩
end Go.Proofs.YtlgfjoicdbjfjaaDoor
