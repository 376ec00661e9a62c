/- The law InodeSums returns true for every directory and number. Conditions: what the files hold fits an int; so do the list's length and the number. -/
import Derived.Test.YteemloillnfaeaaDoorLInodeReads
import Derived.Test.YteemloillnfaeaaDoorInoSums
namespace Go.Proofs.YteemloillnfaeaaDoor
open Go.RowKit Go.Wir Go.Ino

theorem flip_val (c : UInt8) (m : Nat) (hm : m < 8) : ∃ u : UInt8, bits .xor .u8 ((c.toNat : Nat) : Int) (IntKind.u8.wrap (2 ^ min (IntKind.u64.wrap (m : Int)).toNat 8)) = ((u.toNat : Nat) : Int) ∧ u ≠ c := by
  have h1 : (IntKind.u64.wrap (m : Int)).toNat = m := by rw [IntKind.wrap_u64]; omega
  rw [h1, Nat.min_eq_left (by omega)]
  have hp : (2 : Nat) ^ m < 256 := by
    have := Nat.pow_lt_pow_right (a := 2) (by omega) hm
    simpa using this
  have h2 : IntKind.u8.wrap ((2 : Int) ^ m) = ((2 ^ m : Nat) : Int) := by
    have e : ((2 : Int) ^ m) = ((2 ^ m : Nat) : Int) := by simp
    rw [e]
    generalize (2 : Nat) ^ m = p at hp
    rw [IntKind.wrap_u8]; omega
  have hc := c.toNat_lt
  have hx : c.toNat ^^^ 2 ^ m < 256 := Nat.xor_lt_two_pow (n := 8) hc hp
  have key : ∀ n, n < 256 → (UInt8.ofNat n).toNat = n := fun n h => by simp; omega
  refine ⟨UInt8.ofNat (c.toNat ^^^ 2 ^ m), ?_, fun e => ?_⟩
  · rw [h2, u8_xor_nat _ _ hc hp, key _ hx]
  · have h3 := congrArg UInt8.toNat e
    have h4 : (UInt8.ofNat (c.toNat ^^^ 2 ^ m)).toNat = c.toNat ^^^ 2 ^ m := key _ hx
    rw [h4] at h3
    have h5 : c.toNat ^^^ (c.toNat ^^^ 2 ^ m) = c.toNat ^^^ c.toNat := by rw [h3]
    rw [← Nat.xor_assoc, Nat.xor_self, Nat.zero_xor] at h5
    have := Nat.two_pow_pos m
    omega
def NzUp (x : Tx) (j : Nat) : Prop := ∀ p, j ≤ p → x.getD p 0 = 0
set_option maxRecDepth 100000 in
set_option maxHeartbeats 3200000 in
theorem walk_InodeSums (v : Value) (l : List Fil) (bit : Int) (w : World) (hv : Files w v l) (hfit : ∀ f ∈ l, FitF f) (hn : l.length ≤ maxLen) (hbt : (Lit.int .i64 bit).wf = true) :
    Calls Tryd.prog 7 #[v, .int .i64 bit] w fun e w' => e = .returned (.bool true) ∧ Below w.heap.size w w' := by
  unfold maxLen at hn
  have hbt := wf_bounds hbt
  have Hfit := Lib.hid hfit
  have Hv := Lib.hid hv
  clear hfit hv
  obtain ⟨ab, hab⟩ : ∃ ab, asB l = ab := ⟨_, rfl⟩
  have Hab := Lib.hid hab
  clear hab
  go_enter Tryd.func7, Tryd.ntmps7
  go_wp2_with fail
  refine (law_shown w).mono ?_
  rintro e w1 ⟨rfl, b1⟩
  go_wp2_with fail
  refine (law_as v l (by omega) Hfit.out _ (Hv.out.below b1)).mono ?_
  rintro e w2 ⟨b2, v2, rfl, hy, hno⟩
  rw [Hab.out] at hy hno ⊢
  have B2 := Lib.hid (step_call b1 b2)
  have Hy := Lib.hid hy
  clear b1 b2 hy hno
  cases ab
  · go_wp2
    go_ret
    exact ⟨rfl, B2.out⟩
  have V2 := Lib.hid (Hy.out rfl)
  obtain ⟨pe, hpe⟩ : ∃ pe, packE l = pe := ⟨_, rfl⟩
  have Hpe := Lib.hid hpe
  have hpc := packE_cases l
  rw [hpe] at hpc
  have hemp := fun (h : pe ≠ 0) => (show packT l = [] by unfold packT; rw [Hpe.out, if_neg h])
  have Hemp := Lib.hid hemp
  clear hemp
  go_wp2_with fail
  refine (inode_Pack v l (by omega) Hfit.out _ (Hv.out.below B2.out)).mono ?_
  rintro e w3 ⟨rfl, hb3⟩
  rw [hpe]
  have B3 := Lib.hid (step_call B2.out hb3)
  have V3 := Lib.hid (V2.out.below hb3)
  clear hb3 hpe
  by_cases hx : pe = 0
  rotate_left
  · rw [Hemp.out hx, show B ([] : Tx) = ⟨#[]⟩ from rfl]
    rcases (show pe = 1 ∨ pe = 5 by omega) with rfl | rfl
    all_goals
      go_wp2
      go_ret
      exact ⟨rfl, B3.out⟩
  subst hx
  obtain ⟨-, hpl⟩ := unp_pack Hpe.out
  have HSL := Lib.hid (fun (k : Nat) hk (h8 : 8 ≤ k) (u : UInt8) hu => sums_law Hpe.out (k := k) hk h8 (v := u) hu)
  have HP8 := Lib.hid (fun w0 h => ref8_Pack v2 l (by omega) Hfit.out w0 h)
  rw [Hpe.out] at HP8
  obtain ⟨x, hxp⟩ : ∃ x, packT l = x := ⟨_, rfl⟩
  rw [hxp] at hpl HSL HP8 ⊢
  have hxs := size_B x
  rw [hpl] at hxs
  have Hxl := Lib.hid hpl
  clear hxp hpl hpc
  go_wp2_with fail
  refine (HP8.out _ V3.out).mono ?_
  rintro e w4 ⟨rfl, hb4⟩
  have B4 := Lib.hid (step_call B3.out hb4)
  clear hb4
  go_wp2
  go_loop [12] (fun i => ∃ j : Nat, i = .int .i64 j ∧ j ≤ 3072 ∧ NzUp x j) (fun i => (RowKit.intOf i).toNat)
  case atStart => exact ⟨3072, rfl, Nat.le_refl _, fun p hp => by rw [List.getD, List.getElem?_eq_none (by rw [Hxl.out]; exact hp)]; rfl⟩
  case round =>
    obtain ⟨j, rfl, hj, hz⟩ := hrel
    have Hz := Lib.hid hz
    clear hz
    have q1 : ((B x).toList != (B x).toList) = false := by simp
    have q2 : ((B x).toList == (B x).toList) = true := by simp
    by_cases hj0 : j = 0
    · subst hj0
      go_wp2
      go_ret
      exact ⟨rfl, B4.out⟩
    obtain ⟨q, rfl⟩ : ∃ q, j = q + 1 := ⟨j - 1, by omega⟩
    have hqx : q < (B x).size := by omega
    have hqx2 : q < x.length := by rw [Hxl.out]; omega
    have hget : ((B x)[q]'hqx) = x[q] := by have := get_L (B x) q hqx; simpa [L_B] using this
    have hgd : x.getD q 0 = x[q] := by simp [List.getD, hqx2]
    have z1 : IntKind.i64.wrap ((q : Int) + 1 - 1) = (q : Int) := by rw [show (q : Int) + 1 - 1 = (q : Int) by omega]; exact IntWalk.i64_in _ (by omega)
    have z2 : IntKind.i64.wrap (q : Int) = (q : Int) := IntWalk.i64_in _ (by omega)
    have z3 : (0 : Int) < (q : Int) + 1 := by omega
    have z4 : (q : Int) < ((B x).size : Int) := by omega
    have z5 : (0 : Int) ≤ (q : Int) := by omega
    obtain ⟨c, hc⟩ : ∃ c : Int, (((B x)[q]'hqx).toNat : Int) = c := ⟨_, rfl⟩
    have hc0 : c = 0 ↔ x[q] = 0 := by
      rw [← hc, hget]
      constructor
      · intro h; exact UInt8.toNat_inj.1 (by simp; omega)
      · intro h; rw [h]; rfl
    by_cases hzz : x[q] = 0
    · have hce : (c == 0) = true := by rw [hc0.2 hzz]; rfl
      have Hn : Hid (NzUp x q) := Lib.hid (fun p hp => by
        by_cases e : p = q
        · subst e; rw [hgd]; exact hzz
        · exact Hz.out p (by omega))
      clear hzz hc0 hget hgd
      go_wp2
      go_round
      case rel => exact ⟨q, by go_num, by omega, Hn.out⟩
      case measure => first | omega | (simp [RowKit.intOf])
    · have hce : (c == 0) = false := by rw [beq_eq_false_iff_ne]; exact fun h => hzz (hc0.1 h)
      have HLN : Hid (LastNz x q) := Lib.hid ⟨by rw [hgd]; exact hzz, fun p hp => Hz.out p (by omega)⟩
      have Hgd := Lib.hid hgd
      clear hzz hc0 hget hgd
      by_cases h9 : q + 1 < 9
      · have k9 : (q : Int) + 1 < 9 := by omega
        go_wp2
        go_ret
        exact ⟨rfl, B4.out⟩
      have k9 : ¬ (q : Int) + 1 < 9 := by omega
      have hcv := fun (w : World) => run_bytes_of_string (P := Tryd.prog) w 9 37 5 (B x) Tryd.underlying9 Tryd.underlying37 Tryd.underlying5
      have Hpk := Lib.hid (fun w0 => law_pick bit 8 (by omega) (by omega) (by omega) (by omega) w0)
      have hml := pickN_lt bit 8 (by omega)
      generalize pickN bit 8 = m at *
      have hrow : BRow ((w4.alloc (.cells (bytesRow (B x) (grownCap w4 3072 0 5)) 5 ((bytesRow (B x) (grownCap w4 3072 0 5)).size, (bytesRow (B x) (grownCap w4 3072 0 5)).size + 1))).drew) w4.heap.size x := by
        have := BRow.of_string w4 (B x)
        rw [hxs, L_B] at this
        exact this
      have hc5 : ((w4.alloc (.cells (bytesRow (B x) (grownCap w4 3072 0 5)) 5 ((bytesRow (B x) (grownCap w4 3072 0 5)).size, (bytesRow (B x) (grownCap w4 3072 0 5)).size + 1))).drew).cell? ⟨w4.heap.size, q, none⟩ = some (.int .u8 ((x[q].toNat : Nat) : Int)) := hrow.cell q hqx2
      have hf5 : ((w4.alloc (.cells (bytesRow (B x) (grownCap w4 3072 0 5)) 5 ((bytesRow (B x) (grownCap w4 3072 0 5)).size, (bytesRow (B x) (grownCap w4 3072 0 5)).size + 1))).drew).frozen? ⟨w4.heap.size, q, none⟩ = false := hrow.frozen q hqx2
      have hq72 : (q : Int) < 3072 := by omega
      have Hrow := Lib.hid hrow
      clear hrow
      have hb5 : Below w4.heap.size w4 ((w4.alloc (.cells (bytesRow (B x) (grownCap w4 3072 0 5)) 5 ((bytesRow (B x) (grownCap w4 3072 0 5)).size, (bytesRow (B x) (grownCap w4 3072 0 5)).size + 1))).drew) := ((Below.refl _ _).alloc (Nat.le_refl _) _).drew
      have hgz : w4.heap.size < ((w4.alloc (.cells (bytesRow (B x) (grownCap w4 3072 0 5)) 5 ((bytesRow (B x) (grownCap w4 3072 0 5)).size, (bytesRow (B x) (grownCap w4 3072 0 5)).size + 1))).drew).heap.size := Hrow.out.lt
      go_wp2
      generalize ((w4.alloc (.cells (bytesRow (B x) (grownCap w4 3072 0 5)) 5 ((bytesRow (B x) (grownCap w4 3072 0 5)).size, (bytesRow (B x) (grownCap w4 3072 0 5)).size + 1))).drew) = W5 at *
      have hxb := (x[q]).toNat_lt
      obtain ⟨cc, hcc⟩ : ∃ cc : Int, ((x[q].toNat : Nat) : Int) = cc := ⟨_, rfl⟩
      have Hcc := Lib.hid hcc
      rw [hcc] at hc5
      have hcc1 : 0 ≤ cc ∧ cc < 256 := by omega
      clear hcc
      go_region_with (go_at_call 17; refine (Hpk.out _).mono ?_; rintro e w5 ⟨rfl, rfl⟩)
      all_goals
        obtain ⟨u, hu, hne⟩ := flip_val x[q] m hml
        rw [Hcc.out] at hu
        rw [hu]
        obtain ⟨W8, hW8⟩ : ∃ W8, (W5.setCell ⟨w4.heap.size, q, none⟩ (.int .u8 ((u.toNat : Nat) : Int))).drew = W8 := ⟨_, rfl⟩
        have hr8 : BRow W8 w4.heap.size (x.set q u) := by rw [← hW8]; exact Hrow.out.set q hqx2 u
        have hb8 : Below w4.heap.size w4 W8 := by rw [← hW8]; exact (hb5.setCell (Nat.le_refl _) _).drew
        have hls : (x.set q u).length = 3072 := by rw [List.length_set, Hxl.out]
        have hcb := hr8.conv (grownCap w4 3072 0 5)
        rw [hls] at hcb
        have HB8 := Lib.hid (step_call B4.out hb8)
        have HU3 := Lib.hid (fun w0 => inode_UnpackS (x.set q u) (by omega) w0)
        have hno := HSL.out q HLN.out (by omega) u (by rw [Hgd.out]; exact hne)
        have he3 : (okE (unpL (x.set q u)) != 0) = true := by
          rw [bne_iff_ne]
          cases hq : unpL (x.set q u) with
          | ok l' => exact absurd hq (hno l')
          | error n => have := unp_err hq; show n ≠ 0; omega
        clear hr8 hb8 hls hno hu hne hc5 hf5 hb5
        generalize x.set q u = y at *
        generalize okL (unpL y) = ly at *
        generalize okE (unpL y) = ey at *
        rw [hW8]
        clear hW8
        go_wp2_with fail
        refine (HU3.out _).mono ?_
        rintro e w9 ⟨⟨v9, rfl, hf9⟩, hb9⟩
        clear hcb hf9
        go_wp2
        go_ret
        exact ⟨rfl, step_call HB8.out hb9⟩
end Go.Proofs.YteemloillnfaeaaDoor
