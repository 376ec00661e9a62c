/- Chapter 4: home, advance, writes, lays. Conditions: numbers fit, a device that may be. -/
import Derived.Test.YtlgfjoicdbjfjaaDoorJrnC
namespace Go.Proofs.YtlgfjoicdbjfjaaDoor
open Go.RowKit Go.Wir Go.Blk Go.Frm Go.Jrn

theorem write_pendJ (d : Dv) (i : Int) (s : Txt) : (writeD d i s).pend.length ≤ d.pend.length + 1 ∧ (writeD d i s).disk = d.disk := by
  unfold writeD
  have e := turn_same d
  split
  · exact ⟨by omega, rfl⟩
  · split
    · split
      · split
        · exact ⟨by show (d.pend ++ [_]).length ≤ _; simp, e.1⟩
        · exact ⟨by rw [e.2]; omega, e.1⟩
      · exact ⟨by omega, rfl⟩
    · exact ⟨by omega, rfl⟩
theorem wrs_ok : ∀ (l : List Wr) (d : Dv), d.Ok → (wrs d l).2.Ok ∧ (wrs d l).2.pend.length ≤ d.pend.length + l.length ∧ (wrs d l).2.disk = d.disk
  | [], d, h => ⟨h, Nat.le_refl _, rfl⟩
  | p :: l, d, h => by
    have hw := write_pendJ d p.1 p.2
    rw [wrs]
    split
    · obtain ⟨i1, i2, i3⟩ := wrs_ok l (writeD d p.1 p.2) (write_ok h _ _)
      exact ⟨i1, by rw [List.length_cons]; omega, i3.trans hw.2⟩
    · exact ⟨write_ok h _ _, by show (writeD d p.1 p.2).pend.length ≤ _; rw [List.length_cons]; omega, hw.2⟩
theorem wrs_step (d : Dv) (l : List Wr) (k : Nat) (h : k < l.length) : wrs d (l.drop k) = if writeE d l[k].1 l[k].2 = 0 then wrs (writeD d l[k].1 l[k].2) (l.drop (k + 1)) else (writeE d l[k].1 l[k].2, writeD d l[k].1 l[k].2) := by
  rw [List.drop_eq_getElem_cons h, wrs]
theorem flush_pendJ (d : Dv) : (flushD d).pend.length ≤ d.pend.length ∧ (flushD d).disk.length = d.disk.length := by
  unfold flushD
  have e := turn_same d
  split
  · exact ⟨Nat.le_refl _, rfl⟩
  · split
    · exact ⟨Nat.zero_le _, lay_length _ _⟩
    · exact ⟨by rw [e.2]; exact Nat.le_refl _, by rw [e.1]⟩
theorem lays_ok (l : List Wr) (d : Dv) (h : d.Ok) : (lays d l).2.Ok ∧ (lays d l).2.pend.length ≤ d.pend.length + l.length ∧ (lays d l).2.disk.length = d.disk.length := by
  obtain ⟨i1, i2, i3⟩ := wrs_ok l d h
  unfold lays
  split
  · have := flush_pendJ (wrs d l).2
    exact ⟨flush_ok i1, Nat.le_trans this.1 i2, by show (flushD (wrs d l).2).disk.length = _; rw [this.2, i3]⟩
  · exact ⟨i1, i2, by rw [i3]⟩
def FitW (l : List Wr) : Prop := ∀ p ∈ l, -9223372036854775808 ≤ p.1 ∧ p.1 ≤ 9223372036854775807 ∧ p.2.length ≤ 9223372036854775807
section
variable {w0 w w' : World} {g : Nat} {od : Option Nat} {d : Dv} {jb : Nat} {j : Jn} {R : Nat → Prop}
set_option maxRecDepth 100000 in
set_option maxHeartbeats 800000 in
theorem jr_home (h : LiveJ w0 w g od d jb j R) (hL : j.x.log ≤ 4096) (i : Int) : Calls Tryd.prog 48 #[.pointer (some ⟨jb, 0, none⟩), .int .i64 i] w fun e w' => e = .returned (.bool (homeB j d.disk.length i)) ∧ w = w' := by
  obtain ⟨⟨c0, _⟩, _⟩ := h.cells
  have HH := Lib.hid (jr_Home h hL)
  have HB := Lib.hid (live_Blocks h.live)
  have HD : Hid (homeB j d.disk.length i = (decide (((2 + j.x.log : Nat) : Int) ≤ i) && decide (i < (d.disk.length : Int)))) := Lib.hid rfl
  clear h
  generalize 2 + j.x.log = hm at *
  by_cases h1 : (hm : Int) ≤ i
  · have e1 : decide ((hm : Int) ≤ i) = true := decide_eq_true h1
    go_enter Tryd.func48, Tryd.ntmps48
    go_wp2_with (first
      | (go_at_call 32; refine HH.out.mono ?_; rintro e w1 ⟨rfl, rfl⟩)
      | (go_at_call 26; refine HB.out.mono ?_; rintro e w1 ⟨rfl, rfl⟩)
      | fail)
    all_goals
      go_ret
      exact ⟨by rw [HD.out, e1]; simp [*], rfl⟩
  · have e1 : decide ((hm : Int) ≤ i) = false := decide_eq_false h1
    go_enter Tryd.func48, Tryd.ntmps48
    go_wp2_with (first
      | (go_at_call 32; refine HH.out.mono ?_; rintro e w1 ⟨rfl, rfl⟩)
      | fail)
    all_goals
      go_ret
      exact ⟨by rw [HD.out, e1]; rfl, rfl⟩
theorem jcs_adv (g : Nat) (x : Sl) (pos : Int) (next used k : Nat) : ((jcs g x pos next used).setIfInBounds 7 (.int .i64 ((used : Int) + ((k : Int) + 1)))).setIfInBounds 6 (.int .u64 ((next : Int) + 1)) = jcs g x pos (next + 1) (used + (k + 1)) := by
  unfold jcs
  simp
set_option maxRecDepth 100000 in
set_option maxHeartbeats 800000 in
theorem jr_advance {K : Nat} (h : LiveJ w0 w g od d jb j R) (hj : JFit K j) (hK : K ≤ 1000000) (k : Nat) (hk : k ≤ 100) : Calls Tryd.prog 40 #[.pointer (some ⟨jb, 0, none⟩), .int .i64 (k : Nat)] w fun e w' => e = .returned (.tuple #[]) ∧ LiveJ w0 w' g od d jb (advJ j k) R ∧ Keeps R w w' := by
  obtain ⟨⟨_, _, _, _, _, _, c6, c7⟩, f⟩ := h.cells
  have f6 := f 6
  have f7 := f 7
  have H := Lib.hid h
  have h1 := hj.used
  have h2 := hj.next
  clear h hj f
  go_enter Tryd.func40, Tryd.ntmps40
  go_wp2
  go_end0
  obtain ⟨s1, k1⟩ := LiveC.set H.out 7 (.int .i64 ((j.used : Int) + ((k : Int) + 1)))
  obtain ⟨s2, k2⟩ := LiveC.set s1 6 (.int .u64 ((j.next : Int) + 1))
  rw [jcs_adv] at s2
  exact ⟨rfl, s2, k1.trans k2⟩
set_option maxRecDepth 100000 in
set_option maxHeartbeats 1600000 in
theorem jr_writes (h : Live w0 w g od d R) (ok : d.Ok) (v : Value) (l : List Wr) (hw : Wrs w v l) (hv : ∀ k, v.ownBlock = some k → R k) (hfit : FitW l) (hp : d.pend.length + l.length ≤ 100000) :
    Calls Tryd.prog 41 #[.pointer (some ⟨g, 0, none⟩), v] w fun e w' => e = .returned (.int .i64 ((wrs d l).1 : Nat)) ∧ Live w0 w' g od (wrs d l).2 R ∧ Keeps R w w' := by
  obtain ⟨oa, c, rfl, _⟩ := hw.form
  have Hw := Lib.hid hw
  have Hv := Lib.hid hv
  have Hfit := Lib.hid hfit
  have H := Lib.hid h
  have Hok := Lib.hid ok
  have hl : l.length ≤ 100000 := by omega
  obtain ⟨r, hr⟩ : ∃ r, wrs d l = r := ⟨_, rfl⟩
  have Hr := Lib.hid hr
  rw [hr]
  clear hw hv hfit h ok hr
  go_enter Tryd.func41, Tryd.ntmps41
  go_wp2
  go_loopw [10] (fun x10 wr => ∃ (k : Nat) (d1 : Dv), k ≤ l.length ∧ x10 = .int .i64 k ∧ r = wrs d1 (l.drop k) ∧ d1.Ok ∧ d1.pend.length + (l.length - k) ≤ 100000 ∧ Live w0 wr g od d1 R ∧ Keeps R w wr) (fun x10 _ => l.length - (intOf x10).toNat)
  case atStart => exact ⟨0, d, by omega, rfl, by rw [List.drop_zero]; exact Hr.out.symm, Hok.out, by omega, H.out, Keeps.refl _ _⟩
  case round =>
    obtain ⟨k, d1, hk, rfl, hst, hok, hpd, hlive, hkeep⟩ := hrel
    by_cases hlt : k < l.length
    · obtain ⟨oa', c', he, hcell⟩ := (Hw.out.keeps Hv.out hkeep).form
      simp only [Value.slice.injEq, true_and] at he
      obtain ⟨rfl, rfl⟩ := he
      obtain ⟨b, off, rfl, hb, c1, c2⟩ := hcell k hlt
      have hff := Hfit.out l[k] (List.getElem_mem hlt)
      have hstep := wrs_step d1 l k hlt
      rw [← hst] at hstep
      have Hstep := Lib.hid hstep
      have Hkeep := Lib.hid hkeep
      have Hok1 := Lib.hid hok
      obtain ⟨hl2, hk2⟩ := hlive.call (step_new (Below.refl _ wr) (.cells #[.int .i64 l[k].1, .string (B l[k].2)] 47))
      have HW := Lib.hid (live_Write hl2 Hok1.out (by omega) l[k].1 (B l[k].2) hff.1 hff.2.1 (by rw [size_B]; exact hff.2.2))
      rw [L_B] at HW
      have Hk2 := Lib.hid hk2
      have Hpd := Lib.hid (write_pendJ d1 l[k].1 l[k].2)
      have hbe := write_ok hok l[k].1 l[k].2
      have Hbe := Lib.hid hbe
      clear hcell hff hstep hst hkeep hok hl2 hk2 hlive hbe
      generalize l[k] = p at *
      go_wp2_with fail
      refine HW.out.mono ?_
      rintro e w1 ⟨rfl, hl3, hk3⟩
      by_cases hE : writeE d1 p.1 p.2 = 0
      · have HR : Hid (r = wrs (writeD d1 p.1 p.2) (l.drop (k + 1))) := Lib.hid (by rw [Hstep.out, if_pos hE])
        have HE := Lib.hid hE
        have Hl3 := Lib.hid hl3
        have Hk3 := Lib.hid hk3
        rw [hE]
        clear hE hl3 hk3
        go_wp2
        go_roundw
        case rel => exact ⟨k + 1, writeD d1 p.1 p.2, by omega, by go_num, HR.out, Hbe.out, by have := Hpd.out.1; omega, Hl3.out, (Hkeep.out.trans Hk2.out).trans Hk3.out⟩
        case measure => simp [intOf]; omega
      · have HR : Hid (r = (writeE d1 p.1 p.2, writeD d1 p.1 p.2)) := Lib.hid (by rw [Hstep.out, if_neg hE])
        have hq : ((writeE d1 p.1 p.2 : Int) != 0) = true := by rw [bne_iff_ne]; omega
        have Hl3 := Lib.hid hl3
        have Hk3 := Lib.hid hk3
        clear hl3 hk3
        go_wp2
        go_ret
        exact ⟨by rw [HR.out]; rfl, by rw [HR.out]; exact Hl3.out, (Hkeep.out.trans Hk2.out).trans Hk3.out⟩
    · obtain rfl : k = l.length := by omega
      have hr0 : r = (0, d1) := by rw [hst, List.drop_length]; rfl
      have HR := Lib.hid hr0
      have Hl := Lib.hid hlive
      have Hk := Lib.hid hkeep
      clear hr0 hst hlive hkeep
      go_wp2
      go_ret
      exact ⟨by rw [HR.out]; rfl, by rw [HR.out]; exact Hl.out, Hk.out⟩
end
end Go.Proofs.YtlgfjoicdbjfjaaDoor
