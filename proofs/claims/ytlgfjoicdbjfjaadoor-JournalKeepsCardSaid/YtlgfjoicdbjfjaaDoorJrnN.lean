/- Chapter 4's law: a world of a device and its journal; begin, home. Conditions: a device that may be. -/
import Derived.Test.YtlgfjoicdbjfjaaDoorJrnM
import Derived.Test.YtlgfjoicdbjfjaaDoorJrnK
import Derived.Test.YtlgfjoicdbjfjaaDoorJrnL
namespace Go.Proofs.YtlgfjoicdbjfjaaDoor
open Go.RowKit Go.Wir Go.Blk Go.Frm Go.Jrn

/-- A device, its journal, and the law's pair of both. -/
structure LiveW (w0 w : World) (g : Nat) (od : Option Nat) (d : Dv) (jb : Nat) (j : Jn) (wb : Nat) (R : Nat → Prop) : Prop where
  jr : LiveJ w0 w g od d jb j (fun k => R k ∨ k = wb)
  nr : ¬ R wb
  lo : w0.heap.size ≤ wb
  blk : w.heap[wb]? = some (.cells #[.pointer (some ⟨g, 0, none⟩), .pointer (some ⟨jb, 0, none⟩)] 32 (0, 0))
section
variable {w0 w w' : World} {g : Nat} {od : Option Nat} {d d' : Dv} {jb : Nat} {j j' : Jn} {wb : Nat} {R : Nat → Prop}
theorem LiveW.step (h : LiveW w0 w g od d jb j wb R) (hj : LiveJ w0 w' g od d' jb j' (fun k => R k ∨ k = wb)) (k : Keeps (fun k => R k ∨ k = wb) w w') : LiveW w0 w' g od d' jb j' wb R ∧ Keeps R w w' :=
  ⟨⟨hj, h.nr, h.lo, (k wb (.inr rfl)).trans h.blk⟩, k.less (fun _ hq => .inl hq)⟩
theorem LiveW.call (h : LiveW w0 w g od d jb j wb R) (b : Below w.heap.size w w') : LiveW w0 w' g od d jb j wb R ∧ Keeps R w w' := by
  obtain ⟨h1, h2⟩ := LiveC.call h.jr b
  exact h.step h1 h2
theorem LiveW.cells (h : LiveW w0 w g od d jb j wb R) : w.cell? ⟨wb, 0, none⟩ = some (.pointer (some ⟨g, 0, none⟩)) ∧ w.cell? ⟨wb, 1, none⟩ = some (.pointer (some ⟨jb, 0, none⟩)) ∧ w.frozen? ⟨wb, 1, none⟩ = false :=
  ⟨by rw [Lib.cell_of_heap h.blk]; rfl, by rw [Lib.cell_of_heap h.blk]; rfl, Lib.frozen_of_heap h.blk 1⟩
theorem homeL_snoc (d : Dv) (k : Nat) (hk : k < 18) : txtCells ((homeL d).take (k + 1)) = txtCells ((homeL d).take k) ++ [.string (B (readT d ((52 + k : Nat) : Int)))] := by
  rw [List.take_succ_eq_append_getElem (by rw [homeL_length]; exact hk)]
  unfold txtCells
  rw [List.map_append]
  simp [homeL]
set_option maxRecDepth 100000 in
set_option maxHeartbeats 1600000 in
theorem law_home (h : LiveW w0 w g od d jb j wb R) (ok : d.Ok) (hp : d.pend.length ≤ 5000) :
    Calls Tryd.prog 16 #[.pointer (some ⟨wb, 0, none⟩)] w fun e w' => ∃ v, e = .returned v ∧ w'.ownsRow w.heap.size 9 1 v 18 (txtCells (homeL d)) ∧ Below w.heap.size w w' := by
  have H := Lib.hid h
  have Hok := Lib.hid ok
  obtain ⟨i0, hi, hz0, hz1, hz2⟩ := info_parts Tryd.info_strF
  clear h ok
  go_enter Tryd.func16, Tryd.ntmps16
  go_wp2
  go_loopw [4, 3] (fun x4 x3 wr => ∃ k : Nat, k ≤ 18 ∧ x4 = .int .i64 (52 + (k : Int)) ∧ wr.ownsRow w.heap.size 9 1 x3 k (txtCells ((homeL d).take k)) ∧ Below w.heap.size w wr) (fun x4 _ _ => 70 - (intOf x4).toNat)
  case atStart => exact ⟨0, by omega, rfl, World.ownsRow_nil _ _ _ _, Below.refl _ _⟩
  case round =>
    obtain ⟨k, hk, rfl, hown, hbel⟩ := hrel
    obtain ⟨ax, cx, rfl⟩ := own_form hown
    have hbz := hbel.size
    by_cases hlt : k < 18
    · obtain ⟨h1, _⟩ := H.out.call hbel
      obtain ⟨c0, _, _⟩ := h1.cells
      have HRd := Lib.hid (live_ReadB h1.jr.live Hok.out (by omega) (52 + (k : Int)) (by omega) (by omega))
      have hsn := homeL_snoc d k hlt
      simp only [Int.natCast_add, Int.cast_ofNat_Int] at hsn
      have Hsn := Lib.hid hsn
      have Hbel := Lib.hid hbel
      have Hown := Lib.hid hown
      have hki : (52 : Int) + (k : Int) < 70 := by omega
      clear hsn hbel hown h1
      generalize readT d (52 + (k : Int)) = t at *
      go_wp2_with fail
      refine HRd.out.mono ?_
      rintro e w3 ⟨rfl, hb3⟩
      have Ho3 := Lib.hid ((own_kept Hown.out hb3).alloc (.cells #[.string (B t)] 9))
      have Hb5 := Lib.hid (step_new (Hbel.out.trans (hb3.mono Hbel.out.size)) (.cells #[.string (B t)] 9))
      clear hb3
      go_wp2_with (at_builtin; go_must (refine wpList_append_own _ rfl _ _ 44 rfl w.heap.size 9 i0 (.string ⟨#[]⟩) 1 16 Tryd.underlying44 hi hz0 hz1 hz2 rfl (by decide) _ _ _ rfl Ho3.out ⟨w3.heap.size, 0, none⟩ 1 1 [.string (B t)] rfl rfl ?c1 ?c2 ?c3 ?c4 ?c5 ?_))
      case c1 => exact cell1_new w3 _ _
      case c2 => simp [Value.oneCell']
      case c3 => unfold maxLen; omega
      case c4 => omega
      case c5 => exact Hb5.out.size
      intro v' w5 hown' hgrow _
      have Hb6 := Lib.hid (Hb5.out.grown hgrow Hb5.out.size (fun q hq => (Ho3.out.lt q hq).1))
      rw [← Hsn.out] at hown'
      have Hown5 := Lib.hid hown'
      clear hown' hgrow
      go_wp2
      go_roundw
      case rel => exact ⟨k + 1, by omega, by go_num, Hown5.out, Hb6.out⟩
      case measure => simp [intOf]; omega
    · obtain rfl : k = 18 := by omega
      rw [show (homeL d).take 18 = homeL d from List.take_of_length_le (by rw [homeL_length]; omega)] at hown
      have Hown := Lib.hid hown
      have Hbel := Lib.hid hbel
      clear hown hbel
      go_wp2
      go_ret
      exact ⟨_, rfl, Hown.out, Hbel.out⟩
/-- What begin makes. -/
theorem begin_plain : ∃ d1 d' j', formE (newD 70) 50 = (0, d1) ∧ openP d1 = (0, d', some j') ∧ Ready 70 (fun _ => zeros) 2 d' j' [] ∧ d'.pend = [] ∧ d'.fuse = -1 ∧ d1.Ok ∧ d1.disk.length = 70 ∧ d1.pend = [] ∧ ∀ x p, Go.Jrn.choose d1 = some (x, p) → JFit 1 ⟨x, p, x.s, 0⟩ := by
  obtain ⟨d1, h1, h2, h3, h4, h5, hI⟩ := form_spec 70 (by omega) (by omega)
  rcases open_spec hI (by omega) h2 h3 h4 with ⟨d', j', e, r1, r2, _, r4⟩ | ⟨_, _, _, r3⟩
  · refine ⟨d1, d', j', h1, e, r1, r2, r4 h5, h2, hI.len, h4, fun x p hx => ?_⟩
    have hc := choose_spec hI (by omega) h3 h4
    rw [hc] at hx
    simp only [Option.some.injEq, Prod.mk.injEq] at hx
    obtain ⟨rfl, rfl⟩ := hx
    exact ⟨rfl, by simp, by simp, by simp, by simp, by simp⟩
  · exact absurd h5 r3
end
end Go.Proofs.YtlgfjoicdbjfjaaDoor
