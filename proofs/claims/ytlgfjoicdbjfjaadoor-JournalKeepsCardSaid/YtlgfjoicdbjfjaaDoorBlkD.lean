/- The device's Crash. Conditions: a device that may be. -/
import Derived.Test.YtlgfjoicdbjfjaaDoorBlkC
import Derived.Deep.DeepCutAuto
namespace Go.Proofs.YtlgfjoicdbjfjaaDoor
open Go.RowKit Go.Blk

/-- One write at a crash. -/
def crashS (keep : List Bool) (torn : Int) (c k : Nat) (p : Nat × Txt) (dk : List Txt) : List Txt := if keep.getD k false then dk.set p.1 p.2 else if (k : Int) = torn then dk.set p.1 (p.2.take c ++ (dk.getD p.1 []).drop c) else dk
theorem crashL_cons (keep : List Bool) (torn : Int) (c k : Nat) (p : Nat × Txt) (l : List (Nat × Txt)) (dk : List Txt) : crashL keep torn c k (p :: l) dk = crashL keep torn c (k + 1) l (crashS keep torn c k p dk) := rfl
theorem crashS_length (keep : List Bool) (torn : Int) (c k : Nat) (p : Nat × Txt) (dk : List Txt) : (crashS keep torn c k p dk).length = dk.length := by
  unfold crashS
  split
  · simp
  · split <;> simp
theorem torn_text (c : Nat) (ps was : Txt) : (B ps).extract 0 c ++ (B was).extract c (B was).size = B (ps.take c ++ was.drop c) := by
  rw [extract_take, extract_to_end, B_append, L_B, L_B]
set_option maxRecDepth 100000 in
set_option maxHeartbeats 3200000 in
theorem dev_Crash (d : Dv) (vk : Value) (keep : List Bool) (torn cut : Int) (g : Nat) (od op : Option Nat) (w : World) (h : DevAt 80 w g od op d) (ok : d.Ok) (hp : d.pend.length ≤ 100000) (hkeep : Row w vk (keep.map Value.bool)) (hkd : 0 < keep.length → ∀ q, vk.ownBlock = some q → ¬ ownV g od op q) (hkl : keep.length ≤ 100000) :
    Calls Tryd.prog 22 #[.pointer (some ⟨g, 0, none⟩), vk, .int .i64 torn, .int .i64 cut] w fun e w' => e = .returned (.tuple #[]) ∧ Mut 80 w w' g od op (crashD d keep torn cut) := by
  have H := Lib.hid h
  have hn0 := ok.n0
  have Hok := Lib.hid ok.pend
  have Hok2 := Lib.hid ok.disk
  obtain ⟨c0, hc0⟩ : ∃ c0 : Nat, max cut 0 = (c0 : Int) := ⟨(max cut 0).toNat, by omega⟩
  have hcN : min (c0 : Int) 256 = ((cutN cut : Nat) : Int) := by unfold cutN; omega
  have hcl := cutN_le cut
  have HE : Hid (crashD d keep torn cut = ⟨crashL keep torn (cutN cut) 0 d.pend d.disk, [], -1, false⟩) := Lib.hid rfl
  generalize cutN cut = c at *
  obtain ⟨ak, ck, rfl⟩ : ∃ a cc, vk = .slice a keep.length cc := by
    rcases hkeep with ⟨a, cap, rfl, h0⟩ | ⟨b, off, cap, rfl, _⟩
    · have : keep = [] := by simpa using h0
      subst this; exact ⟨a, cap, rfl⟩
    · exact ⟨_, _, by rw [List.length_map]⟩
  have Hkeep : Hid (∀ k (hk : k < keep.length), ∃ bk offk, ak = some ⟨bk, offk, none⟩ ∧ ¬ ownV g od op bk ∧ w.cell? ⟨bk, offk + k, none⟩ = some (.bool keep[k])) := Lib.hid (by
    intro k hk
    rcases hkeep with ⟨a, cap, h0, h1⟩ | ⟨b, off, cap, h0, _, hb, hcell⟩
    · have : keep = [] := by simpa using h1
      subst this; simp at hk
    · simp only [Value.slice.injEq] at h0
      have := hcell k (by rw [List.length_map]; exact hk)
      rw [List.getElem_map] at this
      refine ⟨b, off, h0.1, hkd (by omega) b (by rw [h0.1]; rfl), this⟩)
  obtain ⟨vd, vp, hh, _, ⟨ap, cp, rfl⟩, k0, k1, _⟩ := h.cells
  have Hap : Hid (∀ gp, op = some gp → ap = some ⟨gp, 0, none⟩) := Lib.hid (by
    intro gp hgp
    obtain ⟨_, _, _, _, _, _, c1', _, _, _, _, _, _, _, _, hop, hob⟩ := H.out.cells
    rw [k1] at c1'
    simp only [Option.some.injEq] at c1'
    subst c1'
    rw [hgp] at hob
    rcases hop.2 with ⟨h7, _⟩ | ⟨gg, cap, _, h7, _⟩
    · rw [h7] at hob; cases hob
    · rw [h7] at hob
      simp only [Value.slice.injEq] at h7
      simp only [Value.ownBlock, Option.some.injEq] at hob
      rw [h7.1, hob])
  generalize hm : d.pend.length = m at *
  have Hm := Lib.hid hm
  clear h hh hkeep hkd hm
  go_enter Tryd.func22, Tryd.ntmps22
  go_upto_region 0 with fail
  go_cut [3] (fun s3 wx => s3 = .int .i64 (c : Int) ∧ w = wx)
  case first =>
    go_wp2
    all_goals
      go_meet
      exact ⟨congrArg (Value.int .i64) (by omega), rfl⟩
  case rest =>
  obtain ⟨rfl, rfl⟩ := hcut
  clear hc0 hcN
  go_wp2
  go_loopw [19] (fun x wr => ∃ (k : Nat) (dk : List Txt), k ≤ m ∧ x = .int .i64 k ∧ crashL keep torn c 0 d.pend d.disk = crashL keep torn c k (d.pend.drop k) dk ∧ dk.length = d.disk.length ∧ (∀ s ∈ dk, s.length = 256) ∧ DevAt 80 wr g od op { d with disk := dk } ∧ Chg (ownV g od op) w wr) (fun x _ => m - (intOf x).toNat)
  case atStart => exact ⟨0, d.disk, by omega, rfl, by rw [List.drop_zero], rfl, Hok2.out, H.out, Chg.refl _ _⟩
  case round =>
    obtain ⟨k, dk, hk, rfl, hcr, hdl, h256, hD, hc⟩ := hrel
    have Hcr := Lib.hid hcr
    have Hdl := Lib.hid hdl
    have H256 := Lib.hid h256
    have HD := Lib.hid hD
    have HC := Lib.hid hc
    clear hcr hdl h256 hc
    by_cases hlt : k < m
    · have hkl2 : k < d.pend.length := by rw [Hm.out]; exact hlt
      obtain ⟨⟨pb, ps⟩, hpk⟩ : ∃ p, d.pend[k] = p := ⟨_, rfl⟩
      have hcr2 := Hcr.out
      rw [List.drop_eq_getElem_cons hkl2, hpk, crashL_cons] at hcr2
      have Hcr2 := Lib.hid hcr2
      have hbb := Hok.out d.pend[k] (List.getElem_mem hkl2)
      rw [hpk] at hbb
      simp only at hbb
      obtain ⟨hpb1, hps⟩ := hbb
      obtain ⟨gp, hgp, hgpl, _, hpc⟩ := hD.pendAt (by show 0 < d.pend.length; omega)
      obtain ⟨gd, capd, hgd, c0', hdc, hdf, hgdl⟩ := hD.disk (by show 0 < dk.length; rw [Hdl.out]; exact hn0)
      have hap := Hap.out gp hgp
      subst hap
      have hpc' := hpc k hkl2
      rw [show ({ d with disk := dk } : Dv).pend[k]'hkl2 = (pb, ps) from hpk] at hpc'
      obtain ⟨e1, e2⟩ := hpc'
      have hpl : pb < dk.length := by rw [Hdl.out]; exact hpb1
      obtain ⟨was, hwas⟩ : ∃ z, dk[pb] = z := ⟨_, rfl⟩
      have hwl : was.length = 256 := by rw [← hwas]; exact H256.out _ (List.getElem_mem hpl)
      have hgw : dk.getD pb [] = was := by rw [List.getD_eq_getElem?_getD, List.getElem?_eq_getElem hpl]; exact hwas
      have hdc1 := hdc pb hpl
      rw [show ({ d with disk := dk } : Dv).disk[pb]'hpl = was from hwas] at hdc1
      have hdf1 := hdf pb
      have hc0' : wr.cell? ⟨g, 0, none⟩ = some (.slice (some ⟨gd, 0, none⟩) dk.length capd) := c0'
      rw [Hdl.out] at hc0'
      have Hset := Lib.hid (fun (s : Txt) (n : Nat) => ((hD.below (step_new (Below.refl _ _) (.cells #[.int .i64 ((pb : Nat) : Int), .string (B ps)] 47))).below (below_drewN (Below.refl _ _) n)).setDisk gd hgd pb hpl s)
      have Hkept := Lib.hid ((hD.below (step_new (Below.refl _ _) (.cells #[.int .i64 ((pb : Nat) : Int), .string (B ps)] 47))))
      have Hown : Hid (ownV g od op gd) := Lib.hid (.inr (.inl hgd))
      have Hgw := Lib.hid hgw
      have Hps := Lib.hid hps
      have Hwl := Lib.hid hwl
      have hpb3 : (pb : Int) < (d.disk.length : Int) := by omega
      have d0a := cell_alloc (.cells #[.int .i64 (pb : Int), .string (B ps)] 47) hc0'
      have d1a := cell_alloc (.cells #[.int .i64 (pb : Int), .string (B ps)] 47) hdc1
      have hza : wr.frozen? ⟨gd, pb, none⟩ = (wr.alloc (.cells #[.int .i64 (pb : Int), .string (B ps)] 47)).frozen? ⟨gd, pb, none⟩ := ((step_new (Below.refl _ wr) (.cells #[.int .i64 (pb : Int), .string (B ps)] 47)).frozen (p := ⟨gd, pb, none⟩) hgdl).symm
      rw [hdf1] at hza
      have f0a := hza.symm
      have hsp := size_B ps
      have hsw := size_B was
      have hc1 : (c : Int) ≤ ((B ps).size : Int) := by omega
      have hc2 : (c : Int) ≤ ((B was).size : Int) := by omega
      have hcat : ¬ 9223372036854775807 < ((B ps).extract 0 c).size + ((B was).extract c (B was).size).size := by rw [ByteArray.size_extract, ByteArray.size_extract]; omega
      clear hpc hdc hdf c0' hD hgp hgd hcr2 hpk hwas hgw hza hps hwl hsp hsw hkl2
      by_cases hkk : k < keep.length
      · obtain ⟨bk, offk, rfl, hbk1, hbk2⟩ := Hkeep.out k hkk
        have hbk3 := cell_alloc (.cells #[.int .i64 (pb : Int), .string (B ps)] 47) (HC.out.cell hbk1 hbk2)
        have hkk1 : (k : Int) < (keep.length : Int) := by omega
        have hgk : keep.getD k false = keep[k] := by rw [List.getD_eq_getElem?_getD, List.getElem?_eq_getElem hkk]; rfl
        cases hkb : keep[k] with
        | true =>
          have Hst : Hid (crashS keep torn c k (pb, ps) dk = dk.set pb ps) := Lib.hid (by unfold crashS; rw [hgk, hkb]; rfl)
          rw [hkb] at hbk3
          clear hkb hgk hbk2 hkk
          go_wp2
          go_quiet (fail)
          go_wp2
          go_region
          go_wp2
          go_roundw
          case rel =>
            refine ⟨k + 1, dk.set pb ps, by omega, by go_num, ?_, by rw [List.length_set]; exact Hdl.out, set_all H256.out _ _ Hps.out, ?_, ?_⟩
            · rw [Hcr2.out, Hst.out]
            · exact Hset.out ps _
            · exact ((HC.out.new _).drewN _).set gd pb _ Hown.out
          case measure => simp [intOf]; omega
        | false =>
          have Hgk : Hid (keep.getD k false = false) := Lib.hid (by rw [hgk, hkb])
          rw [hkb] at hbk3
          clear hkb hgk hbk2 hkk
          by_cases hkt : (k : Int) = torn
          · have Hst : Hid (crashS keep torn c k (pb, ps) dk = dk.set pb (ps.take c ++ was.drop c)) := Lib.hid (by unfold crashS; rw [Hgk.out, if_neg (by simp), if_pos hkt, Hgw.out])
            have hkt1 : ((k : Int) == torn) = true := by rw [hkt]; simp
            have hlen2 : (ps.take c ++ was.drop c).length = 256 := by rw [List.length_append, List.length_take, List.length_drop, Hps.out, Hwl.out]; omega
            have Hlen2 := Lib.hid hlen2
            clear hkt hlen2
            go_wp2
            go_quiet (fail)
            go_wp2
            go_region
            go_wp2
            go_roundw
            case rel =>
              refine ⟨k + 1, dk.set pb (ps.take c ++ was.drop c), by omega, by go_num, ?_, by rw [List.length_set]; exact Hdl.out, set_all H256.out _ _ Hlen2.out, ?_, ?_⟩
              · rw [Hcr2.out, Hst.out]
              · rw [torn_text]
                exact Hset.out _ _
              · exact ((HC.out.new _).drewN _).set gd pb _ Hown.out
            case measure => simp [intOf]; omega
          · have Hst : Hid (crashS keep torn c k (pb, ps) dk = dk) := Lib.hid (by unfold crashS; rw [Hgk.out, if_neg (by simp), if_neg hkt])
            have hkt1 : ((k : Int) == torn) = false := by rw [beq_eq_false_iff_ne]; exact hkt
            clear hkt
            go_wp2
            go_quiet (fail)
            go_wp2
            go_roundw
            case rel =>
              refine ⟨k + 1, dk, by omega, by go_num, ?_, Hdl.out, H256.out, ?_, ?_⟩
              · rw [Hcr2.out, Hst.out]
              · exact Hkept.out.below (below_drewN (Below.refl _ _) _)
              · exact ((HC.out.new _).drewN _)
            case measure => simp [intOf]; omega
      · have Hgk : Hid (keep.getD k false = false) := Lib.hid (by rw [List.getD_eq_getElem?_getD, List.getElem?_eq_none (by omega)]; rfl)
        have hkk2 : (keep.length : Int) ≤ (k : Int) := by omega
        by_cases hkt : (k : Int) = torn
        · have Hst : Hid (crashS keep torn c k (pb, ps) dk = dk.set pb (ps.take c ++ was.drop c)) := Lib.hid (by unfold crashS; rw [Hgk.out, if_neg (by simp), if_pos hkt, Hgw.out])
          have hkt1 : ((k : Int) == torn) = true := by rw [hkt]; simp
          have hlen2 : (ps.take c ++ was.drop c).length = 256 := by rw [List.length_append, List.length_take, List.length_drop, Hps.out, Hwl.out]; omega
          have Hlen2 := Lib.hid hlen2
          clear hkt hlen2
          go_wp2
          go_quiet (fail)
          go_wp2
          go_region
          go_wp2
          go_roundw
          case rel =>
            refine ⟨k + 1, dk.set pb (ps.take c ++ was.drop c), by omega, by go_num, ?_, by rw [List.length_set]; exact Hdl.out, set_all H256.out _ _ Hlen2.out, ?_, ?_⟩
            · rw [Hcr2.out, Hst.out]
            · rw [torn_text]
              exact Hset.out _ _
            · exact ((HC.out.new _).drewN _).set gd pb _ Hown.out
          case measure => simp [intOf]; omega
        · have Hst : Hid (crashS keep torn c k (pb, ps) dk = dk) := Lib.hid (by unfold crashS; rw [Hgk.out, if_neg (by simp), if_neg hkt])
          have hkt1 : ((k : Int) == torn) = false := by rw [beq_eq_false_iff_ne]; exact hkt
          clear hkt
          go_wp2
          go_quiet (fail)
          go_wp2
          go_roundw
          case rel =>
            refine ⟨k + 1, dk, by omega, by go_num, ?_, Hdl.out, H256.out, ?_, ?_⟩
            · rw [Hcr2.out, Hst.out]
            · exact Hkept.out.below (below_drewN (Below.refl _ _) _)
            · exact ((HC.out.new _).drewN _)
          case measure => simp [intOf]; omega
    · obtain rfl : k = m := by omega
      have Hfin : Hid (crashL keep torn c 0 d.pend d.disk = dk) := Lib.hid (by rw [Hcr.out, List.drop_of_length_le (by rw [Hm.out]; omega)]; rfl)
      obtain ⟨vd2, vp2, hh2, _, _, b0, b1, b2, b3, q0, q1, q2, q3, _⟩ := HD.out.cells
      have M := Lib.hid (((show Mut 80 w wr g od op { d with disk := dk } from ⟨op, HD.out, fun q hq => .inl hq, HC.out⟩).setPend (.slice none 0 0) [] (World.ownsRow_nil _ _ _ _) (fun q hq => by simp [Value.ownBlock] at hq)).setFuse (-1) |>.setDead false)
      clear hh2 hD b0
      go_wp2
      go_end0
      exact ⟨rfl, by rw [HE.out, Hfin.out]; exact M.out⟩
end Go.Proofs.YtlgfjoicdbjfjaaDoor
