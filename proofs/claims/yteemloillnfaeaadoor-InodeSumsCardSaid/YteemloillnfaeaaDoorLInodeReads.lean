/- The law InodeReads returns true for every text, directory and two numbers. Conditions: what the files hold fits an int; so do the lengths and the numbers. -/
import Derived.Test.YteemloillnfaeaaDoorInoT
import Derived.Test.YteemloillnfaeaaDoorOpenFiles
import Derived.Test.YteemloillnfaeaaDoorLInodeBack
namespace Go.Proofs.YteemloillnfaeaaDoor
open Go.RowKit Go.Wir Go.Ino

def byteI (c : Int) : UInt8 := UInt8.ofNat (c % 256).toNat
theorem byteI_val (c : Int) : ((byteI c).toNat : Int) = c % 256 := by
  unfold byteI
  have := Int.emod_nonneg c (show (256 : Int) ≠ 0 by omega)
  have := Int.emod_lt_of_pos c (show (0 : Int) < 256 by omega)
  simp; omega
/-- What both make of the same bytes; same() of it is true. -/
def UnpS (w : World) (r : Except Int (List Fil)) (e : Ending) (w' : World) : Prop := ∃ v en, e = .returned (.tuple #[v, .int .i64 en]) ∧ (en = 0 ∨ en = 7 ∨ en = 8) ∧ Files w' v (match r with | .ok l => l | .error _ => []) ∧ (en = match r with | .ok _ => 0 | .error n => n) ∧ Below w.heap.size w w'
theorem UnpR.same {w : World} {s : Tx} {e : Ending} {w' : World} (h : UnpR w (unpL s) e w') : UnpS w (unpL s) e w' := by
  cases hu : unpL s with
  | ok l =>
    rw [hu] at h
    obtain ⟨⟨v, rfl, hf⟩, hb⟩ := h
    exact ⟨v, 0, rfl, .inl rfl, hf, rfl, hb⟩
  | error n =>
    rw [hu] at h
    obtain ⟨rfl, hb⟩ := h
    exact ⟨_, n, rfl, .inr (unp_err hu), Files.nil _, rfl, hb⟩
def okL (r : Except Int (List Fil)) : List Fil := match r with | .ok l => l | .error _ => []
def okE (r : Except Int (List Fil)) : Int := match r with | .ok _ => 0 | .error n => n
theorem okL_fit (s : Tx) : (okL (unpL s)).length ≤ 64 ∧ ∀ f ∈ okL (unpL s), FitF f := by
  cases hu : unpL s with
  | ok l =>
    obtain ⟨_, _, hr⟩ := pack_unp hu
    exact ⟨(right_few hr).1, right_fit hr⟩
  | error n => exact ⟨Nat.zero_le _, fun _ h => by cases h⟩
theorem inode_UnpackS (s : Tx) (hs : s.length ≤ 100000) (w : World) : Calls Tryd.prog 14 #[.string (B s)] w fun e w' => (∃ v, e = .returned (.tuple #[v, .int .i64 (okE (unpL s))]) ∧ Files w' v (okL (unpL s))) ∧ Below w.heap.size w w' :=
  (inode_Unpack s hs w).mono fun e w' h => by
    obtain ⟨v, en, rfl, _, hf, he, hb⟩ := h.same
    refine ⟨⟨v, ?_, hf⟩, hb⟩
    rw [he]; rfl
theorem ref8_UnpackS (s : Tx) (hs : s.length ≤ 100000) (w : World) : Calls Tryd.prog 15 #[.string (B s)] w fun e w' => (∃ v, e = .returned (.tuple #[v, .int .i64 (okE (unpL s))]) ∧ Files w' v (okL (unpL s))) ∧ Below w.heap.size w w' :=
  (ref8_Unpack s hs w).mono fun e w' h => by
    obtain ⟨v, en, rfl, _, hf, he, hb⟩ := h.same
    refine ⟨⟨v, ?_, hf⟩, hb⟩
    rw [he]; rfl
set_option maxRecDepth 100000 in
set_option maxHeartbeats 3200000 in
theorem walk_InodeReads (s : ByteArray) (v : Value) (l : List Fil) (av tv : Int) (w : World) (h3 : s.size ≤ maxLen) (hv : Files w v l) (hfit : ∀ f ∈ l, FitF f) (hn : l.length ≤ maxLen) (ha : (Lit.int .i64 av).wf = true) (ht : (Lit.int .i64 tv).wf = true) :
    Calls Tryd.prog 4 #[.string s, v, .int .i64 av, .int .i64 tv] w fun e w' => e = .returned (.bool true) ∧ Below w.heap.size w w' := by
  unfold maxLen at hn h3
  have ha := wf_bounds ha
  have ht := wf_bounds ht
  obtain ⟨t, rfl⟩ : ∃ t, s = B t := ⟨L s, (B_L s).symm⟩
  have Hfit := Lib.hid hfit
  have Hv := Lib.hid hv
  clear hfit hv
  obtain ⟨ab, hab⟩ : ∃ ab, asB l = ab := ⟨_, rfl⟩
  have Hab := Lib.hid hab
  clear hab
  go_enter Tryd.func4, Tryd.ntmps4
  go_wp2_with fail
  refine (law_shown w).mono ?_
  rintro e w1 ⟨rfl, b1⟩
  go_wp2_with fail
  refine (law_as v l (by omega) Hfit.out _ (Hv.out.below b1)).mono ?_
  rintro e w2 ⟨b2, v2, rfl, hy, hno⟩
  rw [Hab.out] at hy hno ⊢
  have B2 := Lib.hid (step_call b1 b2)
  have Hy := Lib.hid hy
  clear b1 b2 hy hno
  cases ab
  · go_wp2
    go_ret
    exact ⟨rfl, B2.out⟩
  have V2 := Lib.hid (Hy.out rfl)
  have hst := size_B t
  by_cases hbig : ((B t).size : Int) > 5000
  · clear hst
    go_wp2
    go_ret
    exact ⟨rfl, B2.out⟩
  have htl : t.length ≤ 5000 := by omega
  clear hst
  have HU1 := Lib.hid (fun w0 => inode_UnpackS t (by omega) w0)
  have HU2 := Lib.hid (fun w0 => ref8_UnpackS t (by omega) w0)
  obtain ⟨ho1, ho2⟩ := okL_fit t
  have Ho2 := Lib.hid ho2
  generalize okL (unpL t) = lu at *
  generalize okE (unpL t) = eu at *
  have q1 : (eu != eu) = false := by simp
  go_wp2_with fail
  refine (HU1.out _).mono ?_
  rintro e w3 ⟨⟨v3, rfl, hf3⟩, hb3⟩
  go_wp2_with fail
  refine (HU2.out _).mono ?_
  rintro e w4 ⟨⟨v4, rfl, hf4⟩, hb4⟩
  have HS := Lib.hid (law_same v3 v4 lu (by omega) Ho2.out w4 (hf3.below hb4) hf4)
  have B4 := Lib.hid (step_call (step_call B2.out hb3) hb4)
  have V4 := Lib.hid ((V2.out.below hb3).below hb4)
  clear hf3 hf4 hb3 hb4
  go_wp2_with (first | (go_at_call 16; refine HS.out.mono ?_; rintro e w5 ⟨rfl, hb5⟩) | fail)
  have B5 := Lib.hid (step_call B4.out hb5)
  have V5 := Lib.hid (V4.out.below hb5)
  clear hb5
  obtain ⟨pe, hpe⟩ : ∃ pe, packE l = pe := ⟨_, rfl⟩
  have Hpe := Lib.hid hpe
  refine (ref8_Pack v2 l (by omega) Hfit.out _ V5.out).mono ?_
  rintro e w6 ⟨rfl, hb6⟩
  rw [hpe]
  have B6 := Lib.hid (step_call B5.out hb6)
  clear hb6 hpe q1
  by_cases hx : pe = 0
  rotate_left
  · have q1 : (pe != 0) = true := by rw [bne_iff_ne]; exact hx
    clear hx
    generalize packT l = pt at *
    go_wp2
    go_ret
    exact ⟨rfl, B6.out⟩
  subst hx
  obtain ⟨-, hpl⟩ := unp_pack Hpe.out
  obtain ⟨x, hxp⟩ : ∃ x, packT l = x := ⟨_, rfl⟩
  rw [hxp] at hpl ⊢
  have hxs := size_B x
  rw [hpl] at hxs
  have hcv := fun (w : World) => run_bytes_of_string (P := Tryd.prog) w 9 37 5 (B x) Tryd.underlying9 Tryd.underlying37 Tryd.underlying5
  have Hpk := Lib.hid (fun w0 => law_pick av 3072 (by omega) (by omega) (by omega) (by omega) w0)
  have hml := pickN_lt av 3072 (by omega)
  generalize pickN av 3072 = m at *
  have Hxl := Lib.hid hpl
  clear hxp hpl
  go_wp2_with fail
  refine (Hpk.out _).mono ?_
  rintro e w7 ⟨rfl, rfl⟩
  have hbv := byteI_val tv
  have hrow := BRow.of_string w6 (B x)
  rw [hxs, L_B] at hrow
  have hml2 : m < x.length := by rw [Hxl.out]; exact hml
  have hc5 : ((w6.alloc (.cells (bytesRow (B x) (grownCap w6 3072 0 5)) 5 ((bytesRow (B x) (grownCap w6 3072 0 5)).size, (bytesRow (B x) (grownCap w6 3072 0 5)).size + 1))).drew).cell? ⟨w6.heap.size, m, none⟩ = some (.int .u8 ((x[m].toNat : Nat) : Int)) := hrow.cell m hml2
  have hf5 : ((w6.alloc (.cells (bytesRow (B x) (grownCap w6 3072 0 5)) 5 ((bytesRow (B x) (grownCap w6 3072 0 5)).size, (bytesRow (B x) (grownCap w6 3072 0 5)).size + 1))).drew).frozen? ⟨w6.heap.size, m, none⟩ = false := hrow.frozen m hml2
  have Hrow := Lib.hid (hrow.set m hml2 (byteI tv))
  rw [hbv] at Hrow
  have hmi : (m : Int) < 3072 := by omega
  have Hbv := Lib.hid hbv
  clear hrow hbv
  obtain ⟨W8, hW8⟩ : ∃ W8, ((w6.alloc (.cells (bytesRow (B x) (grownCap w6 3072 0 5)) 5 ((bytesRow (B x) (grownCap w6 3072 0 5)).size, (bytesRow (B x) (grownCap w6 3072 0 5)).size + 1))).setCell ⟨w6.heap.size, m, none⟩ (.int .u8 (tv % 256))).drew = W8 := ⟨_, rfl⟩
  have hr8 : BRow W8 w6.heap.size (x.set m (byteI tv)) := by rw [← hW8]; exact Hrow.out
  have hb8 : Below w6.heap.size w6 W8 := by rw [← hW8]; exact (((Below.refl _ _).alloc (Nat.le_refl _) _).setCell (Nat.le_refl _) _).drew
  have hls : (x.set m (byteI tv)).length = 3072 := by rw [List.length_set, Hxl.out]
  have hcb := hr8.conv (grownCap w6 3072 0 5)
  rw [hls] at hcb
  have Hr8 := Lib.hid hr8
  have HB8 := Lib.hid (step_call B6.out hb8)
  have HU3 := Lib.hid (fun w0 => inode_UnpackS (x.set m (byteI tv)) (by omega) w0)
  have HU4 := Lib.hid (fun w0 => ref8_UnpackS (x.set m (byteI tv)) (by omega) w0)
  obtain ⟨ho3, ho4⟩ := okL_fit (x.set m (byteI tv))
  have Ho4 := Lib.hid ho4
  have Hls := Lib.hid hls
  clear hr8 hb8 ho4 hls ho2
  generalize x.set m (byteI tv) = y at *
  generalize okL (unpL y) = ly at *
  generalize okE (unpL y) = ey at *
  have q5 : (ey == ey) = true := by simp
  go_wp2_with fail
  refine (HU3.out _).mono ?_
  rintro e w9 ⟨⟨v9, rfl, hf9⟩, hb9⟩
  have hr9 := Hr8.out.below hb9
  have hcb9 := hr9.conv (grownCap w6 3072 0 5)
  rw [Hls.out] at hcb9
  have B9 := Lib.hid (step_call HB8.out hb9)
  have hF9 := Lib.hid hf9
  clear hr9 hb9 hf9 hcb hc5 hf5 hW8
  go_wp2_with fail
  refine (HU4.out _).mono ?_
  rintro e w10 ⟨⟨v10, rfl, hf10⟩, hb10⟩
  have HS2 := Lib.hid (law_same v9 v10 ly (by omega) Ho4.out w10 (hF9.out.below hb10) hf10)
  have B10 := Lib.hid (step_call B9.out hb10)
  clear hf10 hb10 hcb9
  go_wp2_with (first | (go_at_call 16; refine HS2.out.mono ?_; rintro e w11 ⟨rfl, hb11⟩) | fail)
  go_ret
  exact ⟨rfl, step_call B10.out hb11⟩
end Go.Proofs.YteemloillnfaeaaDoor
