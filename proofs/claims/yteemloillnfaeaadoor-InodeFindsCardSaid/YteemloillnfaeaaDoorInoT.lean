/- Chapter 8's examples hold: codexlaw8.shown. No conditions. -/
import Derived.Test.YteemloillnfaeaaDoorInoS
namespace Go.Proofs.YteemloillnfaeaaDoor
open Go.RowKit Go.Wir Go.Ino
attribute [local go_sem] Oper.semAt_some

def oneL : List Fil := [⟨[97], false, 300, [(64, 2)]⟩]
def twoL : List Fil := [⟨[97], false, 513, [(64, 2)]⟩]
theorem one_1 : rightB oneL 64 128 = true := by decide +kernel
theorem one_2 : rightB oneL 65 128 = false := by decide +kernel
theorem two_1 : rightB twoL 64 128 = false := by decide +kernel
theorem nil_E : packE [] = 0 := by
  have h1 : rightB [] 0 4096 = true := by decide +kernel
  exact (packE_yes h1 (by have := (whole_len (l := []) (by simp) (fun f h => by cases h)).2; rw [this]; decide +kernel)).1
theorem nil_T : packT [] = ([67, 68, 88, 73, 0] ++ fixedL (crc [67, 68, 88, 73, 0])) ++ List.replicate 3063 0 := by
  have h1 : rightB [] 0 4096 = true := by decide +kernel
  have h2 : bytesL [] = [67, 68, 88, 73, 0] := by decide +kernel
  have h3 : (wholeL []).length = 9 := by rw [(whole_len (l := []) (by simp) (fun f h => by cases h)).2, h2]; rfl
  rw [(packE_yes h1 (by omega)).2, h3]
  unfold wholeL
  rw [h2]
theorem file_new (w : World) (b : Nat) (hb : b = w.heap.size) (z : Int) (t1 t2 : TypeId) : Files ((w.alloc (.cells #[.int .i64 64, .int .i64 2] t1)).alloc (.cells #[.string (B [97]), .bool false, .int .i64 z, .slice (some ⟨b, 0, none⟩) 1 1] t2)) (.slice (some ⟨b + 1, 0, none⟩) 1 1) [⟨[97], false, z, [(64, 2)]⟩] := by
  subst hb
  have e : (w.alloc (.cells #[.int .i64 64, .int .i64 2] t1)).heap.size = w.heap.size + 1 := World.size_alloc _ _
  have h1 := heap_alloc_new w (.cells #[.int .i64 64, .int .i64 2] t1)
  have h2 := heap_alloc_new (w.alloc (.cells #[.int .i64 64, .int .i64 2] t1)) (.cells #[.string (B [97]), .bool false, .int .i64 z, .slice (some ⟨w.heap.size, 0, none⟩) 1 1] t2)
  rw [e] at h2
  have hx : Exts (w.alloc (.cells #[.int .i64 64, .int .i64 2] t1)) (.slice (some ⟨w.heap.size, 0, none⟩) 1 1) [(64, 2)] := by
    refine ⟨_, 1, rfl, fun h => (by cases h), fun i hi => ⟨w.heap.size, 0, rfl, by omega, ?_, ?_⟩⟩
    · obtain rfl : i = 0 := by simp at hi; omega
      rw [Lib.cell_of_heap h1]; rfl
    · obtain rfl : i = 0 := by simp at hi; omega
      rw [Lib.cell_of_heap h1]; rfl
  refine ⟨_, 1, rfl, fun h => (by cases h), fun i hi => ⟨w.heap.size + 1, 0, .slice (some ⟨w.heap.size, 0, none⟩) 1 1, rfl, by simp, ?_, ?_, ?_, ?_, ?_⟩⟩
  all_goals obtain rfl : i = 0 := by simp at hi; omega
  · rw [Lib.cell_of_heap h2]; rfl
  · rw [Lib.cell_of_heap h2]; rfl
  · rw [Lib.cell_of_heap h2]; rfl
  · rw [Lib.cell_of_heap h2]; rfl
  · exact hx.below (step_new (Below.refl _ _) _)
theorem fit_one {z : Int} (h0 : 0 ≤ z) (h1 : z ≤ 1000) : ∀ f ∈ ([⟨[97], false, z, [(64, 2)]⟩] : List Fil), FitF f := by
  intro f hf
  simp at hf
  subst hf
  exact ⟨by simp, by simp only; omega, by simp only; omega, by simp, fun x hx => by simp at hx; subst hx; simp⟩
set_option maxRecDepth 100000 in
set_option maxHeartbeats 3200000 in
theorem law_shown (w : World) : Calls Tryd.prog 10 #[] w fun e w' => e = .returned (.bool true) ∧ Below w.heap.size w w' := by
  have HP := Lib.hid (fun w0 => inode_Pack (.slice none 0 0) [] (by simp) (fun f h => by cases h) w0 (Files.nil w0))
  rw [nil_E] at HP
  obtain ⟨hu, hlen⟩ := unp_pack nil_E
  have HU := Lib.hid (fun w0 => inode_Unpack (packT []) (by rw [hlen]; omega) w0)
  rw [hu] at HU
  have hs1 : (((B (packT [])).size : Int) == 3072) = true := by rw [size_B, hlen]; rfl
  have hs2 : 9 ≤ (B (packT [])).size := by rw [size_B, hlen]; omega
  have hs3 : (9 : Int) ≤ ((B (packT [])).size : Int) := by omega
  have hs4 : (B (packT [])).size = 3072 := by rw [size_B, hlen]
  have HX := Lib.hid (fun v0 w0 h => wire_Crc1 v0 [67, 68, 88, 73, 0] (by simp) w0 h)
  have hT := nil_T
  have hc1 := crc_lt [67, 68, 88, 73, 0]
  obtain ⟨cr, hcr⟩ : ∃ cr, crc [67, 68, 88, 73, 0] = cr := ⟨_, rfl⟩
  rw [hcr] at HX hT hc1
  have HF := Lib.hid (fun w0 => wire_Fixed (cr : Int) (by omega) (by omega) w0)
  rw [show ((cr : Int)).toNat = cr by omega] at HF
  have hfz : (B (fixedL cr)).size = 4 := by rw [size_B]; rfl
  have he1 : (B (packT [])).extract 0 9 = (⟨#[67, 68, 88, 73, 0]⟩ : ByteArray) ++ B (fixedL cr) := by
    rw [extract_take, L_B, hT, List.take_append_of_le_length (by rw [List.length_append, fixedL_length]; simp), List.take_of_length_le (by rw [List.length_append, fixedL_length]; simp), ← B_append]; rfl
  have he : (((⟨#[67, 68, 88, 73, 0]⟩ : ByteArray) ++ B (fixedL cr)).toList == ((⟨#[67, 68, 88, 73, 0]⟩ : ByteArray) ++ B (fixedL cr)).toList) = true := by simp
  have r1 : ¬ 9223372036854775807 < 5 + (B (fixedL cr)).size := by omega
  generalize B (packT []) = S at *
  generalize B (fixedL cr) = Y at *
  clear hu hlen hT hcr
  have HN1 : Hid (∀ w0, Calls Tryd.prog 19 #[.string ⟨#[97, 46, 49, 45, 95]⟩] w0 fun e w' => e = .returned (.bool true) ∧ Below w0.heap.size w0 w') := Lib.hid (fun w0 => by
    have := inode_Name ⟨#[97, 46, 49, 45, 95]⟩ (by decide) w0
    rw [show nameB (L ⟨#[97, 46, 49, 45, 95]⟩) = true by decide +kernel] at this; exact this)
  have HN2 : Hid (∀ w0, Calls Tryd.prog 19 #[.string ⟨#[65]⟩] w0 fun e w' => e = .returned (.bool false) ∧ Below w0.heap.size w0 w') := Lib.hid (fun w0 => by
    have := inode_Name ⟨#[65]⟩ (by decide) w0
    rw [show nameB (L ⟨#[65]⟩) = false by decide +kernel] at this; exact this)
  have HN3 : Hid (∀ w0, Calls Tryd.prog 19 #[.string ⟨#[]⟩] w0 fun e w' => e = .returned (.bool false) ∧ Below w0.heap.size w0 w') := Lib.hid (fun w0 => by
    have := inode_Name ⟨#[]⟩ (by decide) w0
    rw [show nameB (L ⟨#[]⟩) = false by decide +kernel] at this; exact this)
  go_enter Tryd.func10, Tryd.ntmps10
  go_wp2_with (first
    | (go_at_call 12; refine (HP.out _).mono ?_; rintro e w1 ⟨rfl, hb1⟩)
    | (go_at_call 25; refine (HX.out _ _ (by first | exact row1i _ _ (by simp) _ _ | exact (row1i _ _ (by simp) _ _).below (below_drew _))).mono ?_; rintro e w2 ⟨rfl, hb2⟩)
    | (go_at_call 24; refine (HF.out _).mono ?_; rintro e w3 ⟨rfl, hb3⟩)
    | (go_at_call 14; refine (HU.out _).mono ?_; rintro e w4 ⟨⟨v, rfl, hfv⟩, hb4⟩; obtain ⟨vo, vc, rfl, -⟩ := hfv.form)
    | fail)
  have hA1 := file_new w3 w3.heap.size rfl 300 46 44
  have hA2 := file_new ((w3.alloc (.cells #[.int .i64 64, .int .i64 2] 46)).alloc (.cells #[.string (B [97]), .bool false, .int .i64 300, .slice (some ⟨w3.heap.size, 0, none⟩) 1 1] 44)) (w3.heap.size + 1 + 1) (by simp) 513 46 44
  have hF1 : Files w4 (.slice (some ⟨w3.heap.size + 1, 0, none⟩) 1 1) oneL := (hA1.below (step_new (step_new (Below.refl _ _) _) _)).below hb4
  have hF2 : Files w4 (.slice (some ⟨w3.heap.size + 1 + 1 + 1, 0, none⟩) 1 1) twoL := hA2.below hb4
  have HR1 := Lib.hid (fun w0 (h : Below w4.heap.size w4 w0) => inode_Right _ oneL 64 128 (by omega) (by omega) (by simp [oneL]) (fit_one (by omega) (by omega)) w0 (hF1.below h))
  have HR2 := Lib.hid (fun w0 (h : Below w4.heap.size w4 w0) => inode_Right _ oneL 65 128 (by omega) (by omega) (by simp [oneL]) (fit_one (by omega) (by omega)) w0 (hF1.below h))
  have HR3 := Lib.hid (fun w0 (h : Below w4.heap.size w4 w0) => inode_Right _ twoL 64 128 (by omega) (by omega) (by simp [twoL]) (fit_one (by omega) (by omega)) w0 (hF2.below h))
  rw [one_1] at HR1
  rw [one_2] at HR2
  rw [two_1] at HR3
  have HBall : Hid (Below w.heap.size w w4) := Lib.hid (by
    have h1 := step_call (step_alloc (Below.refl _ w |>.trans hb1) hb2) hb3
    exact step_call (step_new (step_new (step_new (step_new h1 _) _) _) _) hb4)
  have hbc : Below w4.heap.size w4 w4 := Below.refl _ _
  clear hA1 hA2 hF1 hF2 hfv hb1 hb2 hb3 hb4
  refine (HN1.out _).mono ?_
  rintro e w5 ⟨rfl, hb⟩
  have hbc := step_call hbc hb
  go_wp2_with (first
    | (go_at_call 19; with_reducible refine (HN2.out _).mono ?_; rintro e w6 ⟨rfl, hb⟩; have hbc : Below w4.heap.size w4 w6 := step_call hbc hb)
    | (go_at_call 19; with_reducible refine (HN3.out _).mono ?_; rintro e w7 ⟨rfl, hb⟩; have hbc : Below w4.heap.size w4 w7 := step_call hbc hb)
    | (go_at_call 18; with_reducible refine (HR1.out _ hbc).mono ?_; rintro e w8 ⟨rfl, hb⟩; have hbc : Below w4.heap.size w4 w8 := step_call hbc hb)
    | (go_at_call 18; with_reducible refine (HR2.out _ hbc).mono ?_; rintro e w9 ⟨rfl, hb⟩; have hbc : Below w4.heap.size w4 w9 := step_call hbc hb)
    | (go_at_call 18; with_reducible refine (HR3.out _ hbc).mono ?_; rintro e w10 ⟨rfl, hb⟩; have hbc : Below w4.heap.size w4 w10 := step_call hbc hb)
    | fail)
  go_ret
  exact ⟨rfl, step_call HBall.out hbc⟩
end Go.Proofs.YteemloillnfaeaaDoor
