/- Chapter 4: lays, check. Conditions: numbers fit, a device that may be. -/
import Derived.Test.YtlgfjoicdbjfjaaDoorJrnD
namespace Go.Proofs.YtlgfjoicdbjfjaaDoor
open Go.RowKit Go.Wir Go.Blk Go.Frm Go.Jrn

section
variable {w0 w w' : World} {g : Nat} {od : Option Nat} {d : Dv} {jb : Nat} {j : Jn} {R : Nat → Prop}
set_option maxRecDepth 100000 in
set_option maxHeartbeats 800000 in
theorem jr_lays (h : LiveJ w0 w g od d jb j R) (ok : d.Ok) (v : Value) (l : List Wr) (hw : Wrs w v l) (hv : ∀ k, v.ownBlock = some k → R k) (hfit : FitW l) (hp : d.pend.length + l.length ≤ 100000) :
    Calls Tryd.prog 39 #[.pointer (some ⟨jb, 0, none⟩), v] w fun e w' => e = .returned (.int .i64 ((lays d l).1 : Nat)) ∧ LiveJ w0 w' g od (lays d l).2 jb j R ∧ Keeps R w w' := by
  obtain ⟨⟨c0, _⟩, _⟩ := h.cells
  have HW := Lib.hid (jr_writes h.live ok v l hw (fun k hk => .inl (hv k hk)) hfit hp)
  have H := Lib.hid h
  have HL : Hid (lays d l = if (wrs d l).1 = 0 then (flushE (wrs d l).2, flushD (wrs d l).2) else wrs d l) := Lib.hid rfl
  have Hok := Lib.hid (wrs_ok l d ok)
  clear h ok hw hv hfit
  generalize lays d l = q at *
  generalize wrs d l = r at *
  obtain ⟨r1, r2⟩ := r
  simp only at HW HL Hok
  go_enter Tryd.func39, Tryd.ntmps39
  go_wp2_with fail
  refine HW.out.mono ?_
  rintro e w1 ⟨rfl, hl1, hk1⟩
  obtain ⟨j1, k1⟩ := LiveC.dev H.out hl1 hk1
  obtain ⟨⟨d0, _⟩, _⟩ := LiveJ.cells j1
  have J1 := Lib.hid j1
  have K1 := Lib.hid k1
  clear hl1 hk1 j1 k1 c0
  by_cases hE : r1 = 0
  · subst hE
    have HQ : Hid (q = (flushE r2, flushD r2)) := Lib.hid (by rw [HL.out]; rfl)
    have HF := Lib.hid (live_Flush J1.out.live Hok.out.1 (by have := Hok.out.2.1; omega))
    go_wp2_with fail
    refine HF.out.mono ?_
    rintro e w2 ⟨rfl, hl2, hk2⟩
    obtain ⟨j2, k2⟩ := LiveC.dev J1.out hl2 hk2
    have J2 := Lib.hid j2
    have K2 := Lib.hid k2
    clear hl2 hk2 j2 k2
    go_wp2
    go_ret
    exact ⟨by rw [HQ.out]; rfl, by rw [HQ.out]; exact J2.out, K1.out.trans K2.out⟩
  · have HQ : Hid (q = (r1, r2)) := Lib.hid (by rw [HL.out, if_neg hE])
    have hq : ((r1 : Int) != 0) = true := by rw [bne_iff_ne]; omega
    go_wp2
    go_ret
    exact ⟨by rw [HQ.out]; rfl, by rw [HQ.out]; exact J1.out, K1.out⟩
theorem badH_step (j : Jn) (n : Nat) (l : List Wr) (k : Nat) (h : k < l.length) : badH j n (l.drop k) = if homeB j n l[k].1 then (if l[k].2.length = 256 then badH j n (l.drop (k + 1)) else 3) else 2 := by
  rw [List.drop_eq_getElem_cons h]; rfl
set_option maxRecDepth 100000 in
set_option maxHeartbeats 1600000 in
theorem jr_check (h : LiveJ w0 w g od d jb j R) (hL : j.x.log ≤ 4096) (v : Value) (l : List Wr) (hw : Wrs w v l) (hfit : FitW l) (hn : l.length ≤ 100000) :
    Calls Tryd.prog 34 #[.pointer (some ⟨jb, 0, none⟩), v] w fun e w' => e = .returned (.int .i64 (checkE j d.disk.length l : Nat)) ∧ Below w.heap.size w w' := by
  obtain ⟨oa, c, rfl, _⟩ := hw.form
  have Hw := Lib.hid hw
  have Hfit := Lib.hid hfit
  have H := Lib.hid h
  clear hw hfit h
  by_cases hm : l.length = 0 ∨ 48 < l.length
  · have HE : Hid (checkE j d.disk.length l = 6) := Lib.hid (by unfold checkE; rw [if_pos hm])
    rcases hm with h0 | h0
    · have h1 : ((l.length : Int) == 0) = true := by rw [h0]; rfl
      clear h0
      go_enter Tryd.func34, Tryd.ntmps34
      go_wp2
      go_ret
      exact ⟨by rw [HE.out]; rfl, Below.refl _ _⟩
    · have h1 : ((l.length : Int) == 0) = false := by rw [beq_eq_false_iff_ne]; omega
      go_enter Tryd.func34, Tryd.ntmps34
      go_wp2
      go_ret
      exact ⟨by rw [HE.out]; rfl, Below.refl _ _⟩
  · have HP : Hid (checkE j d.disk.length l = badH j d.disk.length l) := Lib.hid (by unfold checkE; rw [if_neg hm])
    have hl1 : 1 ≤ l.length := by omega
    have hl2 : l.length ≤ 48 := by omega
    have h1 : ((l.length : Int) == 0) = false := by rw [beq_eq_false_iff_ne]; omega
    clear hm
    rw [HP.out]
    generalize hN : d.disk.length = n at *
    have HN := Lib.hid hN
    obtain ⟨r, hr⟩ : ∃ r, badH j n l = r := ⟨_, rfl⟩
    have Hr := Lib.hid hr
    rw [hr]
    clear hr hN
    go_enter Tryd.func34, Tryd.ntmps34
    go_wp2
    go_loopw [17] (fun x17 wr => ∃ k : Nat, k ≤ l.length ∧ x17 = .int .i64 k ∧ r = badH j n (l.drop k) ∧ Below w.heap.size w wr) (fun x17 _ => l.length - (intOf x17).toNat)
    case atStart => exact ⟨0, by omega, rfl, by rw [List.drop_zero]; exact Hr.out.symm, Below.refl _ _⟩
    case round =>
      obtain ⟨k, hk, rfl, hst, hbel⟩ := hrel
      by_cases hlt : k < l.length
      · obtain ⟨oa', c', he, hcell⟩ := (Hw.out.below hbel).form
        simp only [Value.slice.injEq, true_and] at he
        obtain ⟨rfl, rfl⟩ := he
        obtain ⟨b, off, rfl, hb, c1, c2⟩ := hcell k hlt
        have hstep := badH_step j n l k hlt
        rw [← hst] at hstep
        have Hstep := Lib.hid hstep
        have hff := Hfit.out l[k] (List.getElem_mem hlt)
        obtain ⟨hl2', hk2⟩ := LiveC.call H.out hbel
        obtain ⟨hl3, _⟩ := LiveC.call hl2' (step_new (Below.refl _ wr) (.cells #[.int .i64 l[k].1, .string (B l[k].2)] 47))
        have HH := Lib.hid (jr_home hl3 hL l[k].1)
        rw [HN.out] at HH
        have Hbel := Lib.hid (step_new hbel (.cells #[.int .i64 l[k].1, .string (B l[k].2)] 47))
        have hsz := size_B l[k].2
        clear hcell hstep hst hl2' hk2 hl3 hbel
        generalize l[k] = p at *
        obtain ⟨hb1, hb2, hb3⟩ := hff
        go_wp2_with fail
        refine HH.out.mono ?_
        rintro e w1 ⟨rfl, rfl⟩
        generalize homeB j n p.1 = q at *
        cases q
        · have HR : Hid (r = 2) := Lib.hid (by rw [Hstep.out]; rfl)
          go_wp2
          go_ret
          exact ⟨by rw [HR.out]; rfl, Hbel.out⟩
        · by_cases h256 : p.2.length = 256
          · have HR : Hid (r = badH j n (l.drop (k + 1))) := Lib.hid (by rw [Hstep.out, if_pos rfl, if_pos h256])
            have hq : (((B p.2).size : Int) != 256) = false := by rw [hsz, h256]; rfl
            clear h256
            go_wp2
            go_roundw
            case rel => exact ⟨k + 1, by omega, by go_num, HR.out, Hbel.out⟩
            case measure => simp [intOf]; omega
          · have HR : Hid (r = 3) := Lib.hid (by rw [Hstep.out, if_pos rfl, if_neg h256])
            have hq : (((B p.2).size : Int) != 256) = true := by rw [hsz, bne_iff_ne]; omega
            clear h256
            go_wp2
            go_ret
            exact ⟨by rw [HR.out]; rfl, Hbel.out⟩
      · obtain rfl : k = l.length := by omega
        have hr0 : r = 0 := by rw [hst, List.drop_length]; rfl
        have HR := Lib.hid hr0
        have Hb := Lib.hid hbel
        clear hr0 hst hbel
        go_wp2
        go_ret
        exact ⟨by rw [HR.out]; rfl, Hb.out⟩
end
end Go.Proofs.YtlgfjoicdbjfjaaDoor
