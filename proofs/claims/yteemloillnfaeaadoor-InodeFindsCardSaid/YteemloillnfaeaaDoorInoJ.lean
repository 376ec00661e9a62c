/- Chapter 8: a directory is packed, or refused: inode.Pack, codexref8.Pack. Conditions: what the files hold fits an int; so does the list's length. -/
import Derived.Test.YteemloillnfaeaaDoorInoE
import Derived.Test.YteemloillnfaeaaDoorInoI
import Derived.Test.YteemloillnfaeaaDoorRep
import Derived.Test.YteemloillnfaeaaDoorWireCrc
import Derived.Test.YteemloillnfaeaaDoorRef2Crc
import Derived.Test.YteemloillnfaeaaDoorFixed
import Derived.Test.YteemloillnfaeaaDoorByteRow
namespace Go.Proofs.YteemloillnfaeaaDoor
open Go.RowKit Go.Wir Go.Ino Go.Shelf

theorem repeat_zeroI : ∀ c, Lib.repeatL [0] c = List.replicate c (0 : UInt8)
  | 0 => rfl
  | c + 1 => by rw [Lib.repeatL, repeat_zeroI c]; rfl
set_option maxRecDepth 100000 in
theorem rep0 (w : World) : Calls Tryd.prog 27 #[.string ⟨#[0]⟩, .int .i64 0] w fun e w' => e = .returned (.string ⟨#[]⟩) ∧ w = w' := by
  go_enter Tryd.func27, Tryd.ntmps27
  go_wp2
  go_ret
  exact ⟨rfl, rfl⟩
set_option maxRecDepth 100000 in
theorem rep1 (w : World) : Calls Tryd.prog 27 #[.string ⟨#[0]⟩, .int .i64 1] w fun e w' => e = .returned (.string ⟨#[0]⟩) ∧ w = w' := by
  go_enter Tryd.func27, Tryd.ntmps27
  go_wp2
  go_ret
  exact ⟨rfl, rfl⟩
theorem repI (n : Nat) (h1 : n ≤ 100000) (w : World) : Calls Tryd.prog 27 #[.string ⟨#[0]⟩, .int .i64 (n : Nat)] w fun e w' => e = .returned (.string (B (List.replicate n 0))) ∧ Below w.heap.size w w' := by
  by_cases h0 : 2 ≤ n
  · have := Any.strings_Repeat_main rren_105 rren_extra ⟨#[0]⟩ n w h0 (by omega) (by rw [show (⟨#[0]⟩ : ByteArray).size = 1 from rfl]; omega) (by decide)
    rw [show (⟨#[0]⟩ : ByteArray).data.toList = [0] from rfl, repeat_zeroI] at this
    exact this
  · rcases (show n = 0 ∨ n = 1 by omega) with rfl | rfl
    · refine (rep0 w).mono ?_
      rintro e w' ⟨rfl, rfl⟩
      exact ⟨rfl, Below.refl _ _⟩
    · refine (rep1 w).mono ?_
      rintro e w' ⟨rfl, rfl⟩
      exact ⟨rfl, Below.refl _ _⟩
theorem wire_Crc1 (v : Value) (t : Tx) (ht : t.length ≤ 1000000) (w : World) (h : Row w v [.string (B t)]) :
    Calls Tryd.prog 25 #[v] w fun e w' => e = .returned (.int .u32 ((crc t : Nat) : Int)) ∧ Below w.heap.size w w' := by
  have := wire_Crc v [B t] w h (by simp) (fun s hs => by simp only [List.mem_singleton] at hs; subst hs; rw [size_B]; omega)
  rw [show partsL [B t] = t by simp [partsL, L_B]] at this
  exact this
theorem BRow.of_makeI {w : World} {base g n : Nat} (h : w.ownsRow base 5 1 (.slice (some ⟨g, 0, none⟩) n n) n (madeCells #[Value.int .u8 0] n).toList) : BRow w g (List.replicate n 0) := by
  rcases h.2 with ⟨h0, _⟩ | ⟨g', cap, cur, h0, hg, hh, h1, h2, h3, h4⟩
  · cases h0
  · simp only [Value.slice.injEq, Option.some.injEq, Addr.mk.injEq, and_true, true_and] at h0
    obtain ⟨rfl, rfl⟩ := h0
    refine ⟨cur, 0, 0, hh, by simp; omega, fun i hi => ?_, fun i _ h => by omega⟩
    simp at hi
    have : cur.toList[i]? = (madeCells #[Value.int .u8 0] n).toList[i]? := by rw [← h4, List.getElem?_take, Nat.mul_one, if_pos hi]
    rw [← Array.getElem?_toList, this]
    simp [madeCells, hi, Nat.mod_one]
theorem packE_no {l : List Fil} (h : rightB l 0 4096 = false) : packE l = 1 ∧ packT l = [] := by
  have e : packE l = 1 := by unfold packE; rw [if_neg (by rw [h]; simp)]
  exact ⟨e, by unfold packT; rw [e, if_neg (by decide)]⟩
theorem packE_long {l : List Fil} (h : rightB l 0 4096 = true) (h2 : 3072 < (wholeL l).length) : packE l = 5 ∧ packT l = [] := by
  have e : packE l = 5 := by unfold packE; rw [if_pos h, if_neg (by omega)]
  exact ⟨e, by unfold packT; rw [e, if_neg (by decide)]⟩
theorem packE_yes {l : List Fil} (h : rightB l 0 4096 = true) (h2 : (wholeL l).length ≤ 3072) : packE l = 0 ∧ packT l = wholeL l ++ List.replicate (3072 - (wholeL l).length) 0 := by
  have e : packE l = 0 := by unfold packE; rw [if_pos h, if_pos h2]
  exact ⟨e, by unfold packT; rw [if_pos e]⟩
theorem right_few {l : List Fil} {a b : Int} (h : rightB l a b = true) : l.length ≤ 64 ∧ ∀ f ∈ l, FewF 24 f := by
  obtain ⟨h1, h2⟩ := right_small h
  exact ⟨h1, fun f hf => ⟨(h2 f hf).2.2, (h2 f hf).1⟩⟩
theorem whole_len {l : List Fil} (h1 : l.length ≤ 64) (h2 : ∀ f ∈ l, FewF 24 f) : (bytesL l).length ≤ 25614 ∧ (wholeL l).length = (bytesL l).length + 4 := by
  have := upL_len l.length h2 h1
  rw [upL_end] at this
  exact ⟨this, by unfold wholeL; rw [List.length_append, fixedL_length]⟩
set_option maxRecDepth 100000 in
set_option maxHeartbeats 1600000 in
theorem inode_Pack (v : Value) (l : List Fil) (hn : l.length ≤ 9223372036854775807) (hfit : ∀ f ∈ l, FitF f) (w : World) (hv : Files w v l) :
    Calls Tryd.prog 12 #[v] w fun e w' => e = .returned (.tuple #[.string (B (packT l)), .int .i64 (packE l)]) ∧ Below w.heap.size w w' := by
  have HR := Lib.hid (inode_Right v l 0 4096 (by omega) (by omega) hn hfit w hv)
  obtain ⟨rb, hrb⟩ : ∃ rb, rightB l 0 4096 = rb := ⟨_, rfl⟩
  rw [hrb] at HR
  have Hv := Lib.hid hv
  clear hfit hv
  cases rb
  · obtain ⟨hE, hT⟩ := packE_no hrb
    have HE := Lib.hid hE
    have HT := Lib.hid hT
    clear hE hT hrb
    go_enter Tryd.func12, Tryd.ntmps12
    go_wp2_with (go_at_call 18; refine HR.out.mono ?_; rintro e w1 ⟨rfl, hb1⟩)
    go_ret2
    exact ⟨by rw [HE.out, HT.out]; rfl, hb1⟩
  · obtain ⟨h64, hfew⟩ := right_few hrb
    obtain ⟨hw1, hw2⟩ := whole_len h64 hfew
    have HB := Lib.hid (fun w0 (h : Files w0 v l) => ino_bytes v l h64 hfew w0 h)
    have Hrb := Lib.hid hrb
    have HW : Hid (B (bytesL l) ++ B (fixedL (crc (bytesL l))) = B (wholeL l)) := Lib.hid (by rw [B_append]; rfl)
    have HX := Lib.hid (fun v0 w0 h => wire_Crc1 v0 (bytesL l) (by omega) w0 h)
    have hc1 := crc_lt (bytesL l)
    generalize hcr : crc (bytesL l) = cr at *
    have HF := Lib.hid (fun w0 => wire_Fixed (cr : Int) (by omega) (by omega) w0)
    rw [show ((cr : Int)).toNat = cr by omega] at HF
    have hfx : (B (fixedL cr)).size = 4 := by rw [size_B]; rfl
    have hby : (B (bytesL l)).size ≤ 25614 := by rw [size_B]; exact hw1
    have hwh : (B (wholeL l)).size = (wholeL l).length := size_B _
    have r1 : ¬ 9223372036854775807 < (B (bytesL l)).size + (B (fixedL cr)).size := by omega
    clear hcr hrb hfew
    by_cases hlong : 3072 < (wholeL l).length
    · obtain ⟨hE, hT⟩ := packE_long Hrb.out hlong
      have HE := Lib.hid hE
      have HT := Lib.hid hT
      have k1 : ((B (bytesL l)).size : Int) + ((B (fixedL cr)).size : Int) > 3072 := by have := size_B (bytesL l); omega
      clear hE hT
      go_enter Tryd.func12, Tryd.ntmps12
      go_wp2_with (first
        | (go_at_call 18; refine HR.out.mono ?_; rintro e w1 ⟨rfl, hb1⟩)
        | (go_at_call 26; refine (HB.out _ (Hv.out.below hb1)).mono ?_; rintro e w2 ⟨rfl, hb2⟩)
        | (go_at_call 25; refine (HX.out _ _ (by first | exact row1i _ _ (by simp) _ _ | exact (row1i _ _ (by simp) _ _).below (below_drew _))).mono ?_; rintro e w3 ⟨rfl, hb3⟩)
        | (go_at_call 24; refine (HF.out _).mono ?_; rintro e w4 ⟨rfl, hb4⟩)
        | fail)
      go_ret2
      exact ⟨by rw [HE.out, HT.out]; rfl, step_call (step_alloc (step_call hb1 hb2) hb3) hb4⟩
    · obtain ⟨hE, hT⟩ := packE_yes Hrb.out (by omega)
      have HE := Lib.hid hE
      have HT := Lib.hid hT
      have k1 : ¬ ((B (bytesL l)).size : Int) + ((B (fixedL cr)).size : Int) > 3072 := by have := size_B (bytesL l); omega
      obtain ⟨N, hN⟩ : ∃ N, N = 3072 - (wholeL l).length := ⟨_, rfl⟩
      have zz : (3072 : Int) - (((B (bytesL l)).size : Int) + 4) = (N : Int) := by have := size_B (bytesL l); omega
      have HP := Lib.hid (fun w0 => repI N (by omega) w0)
      have hrs : (B (List.replicate N 0)).size ≤ 3072 := by rw [size_B, List.length_replicate]; omega
      have r2 : ¬ 9223372036854775807 < (B (bytesL l)).size + (B (fixedL cr)).size + (B (List.replicate N 0)).size := by omega
      have r3 : ¬ 9223372036854775807 < (B (bytesL l)).size + 4 + (B (List.replicate N 0)).size := by omega
      have HZ : Hid (B (bytesL l) ++ B (fixedL cr) ++ B (List.replicate N 0) = B (packT l)) := Lib.hid (by rw [HW.out, HT.out, B_append, hN])
      clear hE hT hN hwh hw2 hlong
      go_enter Tryd.func12, Tryd.ntmps12
      go_wp2_with (first
        | (go_at_call 18; refine HR.out.mono ?_; rintro e w1 ⟨rfl, hb1⟩)
        | (go_at_call 26; refine (HB.out _ (Hv.out.below hb1)).mono ?_; rintro e w2 ⟨rfl, hb2⟩)
        | (go_at_call 25; refine (HX.out _ _ (by first | exact row1i _ _ (by simp) _ _ | exact (row1i _ _ (by simp) _ _).below (below_drew _))).mono ?_; rintro e w3 ⟨rfl, hb3⟩)
        | (go_at_call 24; refine (HF.out _).mono ?_; rintro e w4 ⟨rfl, hb4⟩)
        | (go_at_call 27; refine (HP.out _).mono ?_; rintro e w5 ⟨rfl, hb5⟩)
        | fail)
      go_ret2
      exact ⟨by rw [HE.out, ← HZ.out]; rfl, step_call (step_call (step_alloc (step_call hb1 hb2) hb3) hb4) (by first | exact hb5 | exact step_call (below_drew _) hb5)⟩
set_option maxRecDepth 100000 in
set_option maxHeartbeats 1600000 in
theorem ref8_Pack (v : Value) (l : List Fil) (hn : l.length ≤ 9223372036854775807) (hfit : ∀ f ∈ l, FitF f) (w : World) (hv : Files w v l) :
    Calls Tryd.prog 13 #[v] w fun e w' => e = .returned (.tuple #[.string (B (packT l)), .int .i64 (packE l)]) ∧ Below w.heap.size w w' := by
  have HR := Lib.hid (ref8_Right v l 0 4096 (by omega) (by omega) hn hfit w hv)
  obtain ⟨rb, hrb⟩ : ∃ rb, rightB l 0 4096 = rb := ⟨_, rfl⟩
  rw [hrb] at HR
  have Hv := Lib.hid hv
  obtain ⟨j0, hj, hy0, hy1, hy2⟩ := info_parts (show (Tryd.prog.info? 5).map (fun i => (i.zero, i.size, i.bytes)) = some (some (.int .u8 0), 1, 1) by kernel_rfl)
  clear hfit hv
  cases rb
  · obtain ⟨hE, hT⟩ := packE_no hrb
    have HE := Lib.hid hE
    have HT := Lib.hid hT
    clear hE hT hrb
    go_enter Tryd.func13, Tryd.ntmps13
    go_wp2_with (go_at_call 21; refine HR.out.mono ?_; rintro e w1 ⟨rfl, hb1⟩)
    go_ret2
    exact ⟨by rw [HE.out, HT.out]; rfl, hb1⟩
  · obtain ⟨h64, hfew⟩ := right_few hrb
    obtain ⟨hw1, hw2⟩ := whole_len h64 hfew
    have HB := Lib.hid (fun w0 (h : Files w0 v l) => ref8_bytes v l h64 hfew w0 h)
    have Hrb := Lib.hid hrb
    have HW : Hid (B (bytesL l) ++ B (fixedL (crc (bytesL l))) = B (wholeL l)) := Lib.hid (by rw [B_append]; rfl)
    have HX := Lib.hid (fun w0 => ref2_Crc (B (bytesL l)) (by rw [size_B]; omega) w0)
    rw [L_B] at HX
    have hc1 := crc_lt (bytesL l)
    generalize hcr : crc (bytesL l) = cr at *
    have HF := Lib.hid (fun w0 => ref2_Fixed (cr : Int) (by omega) (by omega) w0)
    rw [show ((cr : Int)).toNat = cr by omega] at HF
    have hfx : (B (fixedL cr)).size = 4 := by rw [size_B]; rfl
    have hby : (B (bytesL l)).size ≤ 25614 := by rw [size_B]; exact hw1
    have r1 : ¬ 9223372036854775807 < (B (bytesL l)).size + (B (fixedL cr)).size := by omega
    clear hcr hrb hfew
    by_cases hlong : 3072 < (wholeL l).length
    · obtain ⟨hE, hT⟩ := packE_long Hrb.out hlong
      have HE := Lib.hid hE
      have HT := Lib.hid hT
      have k1 : ((B (bytesL l)).size : Int) + ((B (fixedL cr)).size : Int) > 3072 := by have := size_B (bytesL l); omega
      clear hE hT
      go_enter Tryd.func13, Tryd.ntmps13
      go_wp2_with (first
        | (go_at_call 21; refine HR.out.mono ?_; rintro e w1 ⟨rfl, hb1⟩)
        | (go_at_call 28; refine (HB.out _ (Hv.out.below hb1)).mono ?_; rintro e w2 ⟨rfl, hb2⟩)
        | (go_at_call 30; refine (HX.out _).mono ?_; rintro e w3 ⟨rfl, hb3⟩)
        | (go_at_call 29; refine (HF.out _).mono ?_; rintro e w4 ⟨rfl, hb4⟩)
        | fail)
      go_ret2
      exact ⟨by rw [HE.out, HT.out]; rfl, step_call (step_call (step_call hb1 hb2) hb3) hb4⟩
    · obtain ⟨hE, hT⟩ := packE_yes Hrb.out (by omega)
      have HE := Lib.hid hE
      have HT := Lib.hid hT
      have k1 : ¬ ((B (bytesL l)).size : Int) + ((B (fixedL cr)).size : Int) > 3072 := by have := size_B (bytesL l); omega
      obtain ⟨N, hN⟩ : ∃ N, N = 3072 - (wholeL l).length := ⟨_, rfl⟩
      have zz : (3072 : Int) - (((B (bytesL l)).size : Int) + 4) = (N : Int) := by have := size_B (bytesL l); omega
      have HN2 := Lib.hid zz
      have hN3 : N ≤ 3072 := by omega
      have hrs : (B (List.replicate N 0)).size ≤ 3072 := by rw [size_B, List.length_replicate]; omega
      have r2 : ¬ 9223372036854775807 < (B (bytesL l)).size + (B (fixedL cr)).size + (B (List.replicate N 0)).size := by omega
      have r3 : ¬ 9223372036854775807 < (B (bytesL l)).size + 4 + (B (List.replicate N 0)).size := by omega
      have HZ : Hid (B (bytesL l) ++ B (fixedL cr) ++ B (List.replicate N 0) = B (packT l)) := Lib.hid (by rw [HW.out, HT.out, B_append, hN])
      clear hE hT hN hw2 hlong zz
      go_enter Tryd.func13, Tryd.ntmps13
      go_wp2_with (first
        | (go_at_call 21; refine HR.out.mono ?_; rintro e w1 ⟨rfl, hb1⟩)
        | (go_at_call 28; refine (HB.out _ (Hv.out.below hb1)).mono ?_; rintro e w2 ⟨rfl, hb2⟩)
        | (go_at_call 30; refine (HX.out _).mono ?_; rintro e w3 ⟨rfl, hb3⟩)
        | fail)
      refine (HF.out _).mono ?_
      rintro e w4 ⟨rfl, hb4⟩
      have HBW := Lib.hid (step_call (step_call (step_call hb1 hb2) hb3) hb4)
      clear hb1 hb2 hb3 hb4
      go_wp2_with (at_make; go_must (refine wpList_make_full w4 rfl _ _ 37 rfl 0 5 j0 (.int .u8 0) 1 Tryd.underlying37 hj hy0 hy1 _ _ _ _ N rfl rfl HN2.out HN2.out ?b2 ?b3 (Nat.zero_le _) ?_))
      case b2 => rw [hy2]; omega
      case b3 => unfold maxLen; omega
      intro w6 hown hgrow
      have hrow : BRow w6 w4.heap.size (List.replicate N 0) := BRow.of_makeI hown
      have hb6 : Below w4.heap.size w4 w6 := (Below.refl _ w4).grown hgrow (Nat.le_refl _) (fun k h => by cases h)
      have hconv := hrow.conv N
      rw [List.length_replicate] at hconv
      have Hb6 := Lib.hid (step_call HBW.out hb6)
      clear hown hgrow hrow hb6
      go_wp2
      go_ret2
      exact ⟨by rw [HE.out, ← HZ.out]; rfl, Hb6.out⟩
end Go.Proofs.YteemloillnfaeaaDoor
