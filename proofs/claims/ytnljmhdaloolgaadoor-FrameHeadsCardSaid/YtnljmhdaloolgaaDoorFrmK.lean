/- Chapter 3: the law's own examples: shown. No conditions. -/
import Derived.Test.YtnljmhdaloolgaaDoorFrmJ
import Derived.KernelRfl
namespace Go.Proofs.YtnljmhdaloolgaaDoor
open Go.RowKit Go.Wir Go.Blk Go.Frm

def exW : List Wr := [(7, fullT 97)]
theorem ex_fine : Fine exW := by
  intro p hp
  unfold exW at hp
  rw [List.mem_singleton] at hp
  subst hp
  exact ⟨by simp, List.length_replicate ..⟩
theorem ex_pack : packT 1 exW = [headT 1 [7] [fullT 97], fullT 97] := packT_fine 1 (by simp [exW]) (by simp [exW]) ex_fine
theorem ex_len : (headT 1 [7] [fullT 97]).length = 256 := headT_length _ _ _ (by simp)
theorem ex_read : readL (headT 1 [7] [fullT 97]) = some (1, [7]) := readL_head 1 [7] [fullT 97] (by omega) (by simp) (by simp) (by simp)
theorem crc_rep (b : UInt8) (c v n : Nat) (h : crcFrom c (List.replicate 8 b) = v) : crcFrom c (List.replicate (8 + n) b) = crcFrom v (List.replicate n b) := by
  rw [← h, ← crcFrom_append, List.replicate_append_replicate]
theorem crc_97 : crcFrom 0 (List.replicate 256 97) = 3186340609 :=
  (crc_rep 97 0 3668336431 248 (by decide +kernel)).trans
  ((crc_rep 97 3668336431 594355072 240 (by decide +kernel)).trans
  ((crc_rep 97 594355072 1170452644 232 (by decide +kernel)).trans
  ((crc_rep 97 1170452644 3552264922 224 (by decide +kernel)).trans
  ((crc_rep 97 3552264922 548910996 216 (by decide +kernel)).trans
  ((crc_rep 97 548910996 1387305155 208 (by decide +kernel)).trans
  ((crc_rep 97 1387305155 2863769726 200 (by decide +kernel)).trans
  ((crc_rep 97 2863769726 4231595619 192 (by decide +kernel)).trans
  ((crc_rep 97 4231595619 1235428980 184 (by decide +kernel)).trans
  ((crc_rep 97 1235428980 2495255963 176 (by decide +kernel)).trans
  ((crc_rep 97 2495255963 2322276304 168 (by decide +kernel)).trans
  ((crc_rep 97 2322276304 3561525950 160 (by decide +kernel)).trans
  ((crc_rep 97 3561525950 4277382455 152 (by decide +kernel)).trans
  ((crc_rep 97 4277382455 399520366 144 (by decide +kernel)).trans
  ((crc_rep 97 399520366 3771010656 136 (by decide +kernel)).trans
  ((crc_rep 97 3771010656 864275473 128 (by decide +kernel)).trans
  ((crc_rep 97 864275473 531578693 120 (by decide +kernel)).trans
  ((crc_rep 97 531578693 4010468725 112 (by decide +kernel)).trans
  ((crc_rep 97 4010468725 1687239171 104 (by decide +kernel)).trans
  ((crc_rep 97 1687239171 3803363003 96 (by decide +kernel)).trans
  ((crc_rep 97 3803363003 394905989 88 (by decide +kernel)).trans
  ((crc_rep 97 394905989 1938227275 80 (by decide +kernel)).trans
  ((crc_rep 97 1938227275 328613867 72 (by decide +kernel)).trans
  ((crc_rep 97 328613867 3058215855 64 (by decide +kernel)).trans
  ((crc_rep 97 3058215855 2431342638 56 (by decide +kernel)).trans
  ((crc_rep 97 2431342638 2347058378 48 (by decide +kernel)).trans
  ((crc_rep 97 2347058378 20667912 40 (by decide +kernel)).trans
  ((crc_rep 97 20667912 695470254 32 (by decide +kernel)).trans
  ((crc_rep 97 695470254 183297620 24 (by decide +kernel)).trans
  ((crc_rep 97 183297620 1082978918 16 (by decide +kernel)).trans
  ((crc_rep 97 1082978918 239227145 8 (by decide +kernel)).trans
  ((crc_rep 97 239227145 3186340609 0 (by decide +kernel)).trans
  (rfl))))))))))))))))))))))))))))))))
theorem crc_98 : crcFrom 0 (List.replicate 256 98) = 134722723 :=
  (crc_rep 98 0 102914529 248 (by decide +kernel)).trans
  ((crc_rep 98 102914529 976323047 240 (by decide +kernel)).trans
  ((crc_rep 98 976323047 2246172912 232 (by decide +kernel)).trans
  ((crc_rep 98 2246172912 1593252985 224 (by decide +kernel)).trans
  ((crc_rep 98 1593252985 2599910891 216 (by decide +kernel)).trans
  ((crc_rep 98 2599910891 3322332973 208 (by decide +kernel)).trans
  ((crc_rep 98 3322332973 3722932485 200 (by decide +kernel)).trans
  ((crc_rep 98 3722932485 2130255048 192 (by decide +kernel)).trans
  ((crc_rep 98 2130255048 2069947814 184 (by decide +kernel)).trans
  ((crc_rep 98 2069947814 3178160350 176 (by decide +kernel)).trans
  ((crc_rep 98 3178160350 3434887511 168 (by decide +kernel)).trans
  ((crc_rep 98 3434887511 634885483 160 (by decide +kernel)).trans
  ((crc_rep 98 634885483 810102900 152 (by decide +kernel)).trans
  ((crc_rep 98 810102900 254640379 144 (by decide +kernel)).trans
  ((crc_rep 98 254640379 358038070 136 (by decide +kernel)).trans
  ((crc_rep 98 358038070 4028160442 128 (by decide +kernel)).trans
  ((crc_rep 98 4028160442 3640526259 120 (by decide +kernel)).trans
  ((crc_rep 98 3640526259 2592009203 112 (by decide +kernel)).trans
  ((crc_rep 98 2592009203 3707759525 104 (by decide +kernel)).trans
  ((crc_rep 98 3707759525 1307147120 96 (by decide +kernel)).trans
  ((crc_rep 98 1307147120 3577059858 88 (by decide +kernel)).trans
  ((crc_rep 98 3577059858 1722163442 80 (by decide +kernel)).trans
  ((crc_rep 98 1722163442 2917532500 72 (by decide +kernel)).trans
  ((crc_rep 98 2917532500 2920029688 64 (by decide +kernel)).trans
  ((crc_rep 98 2920029688 2490387100 56 (by decide +kernel)).trans
  ((crc_rep 98 2490387100 2983353977 48 (by decide +kernel)).trans
  ((crc_rep 98 2983353977 3028737328 40 (by decide +kernel)).trans
  ((crc_rep 98 3028737328 1683304712 32 (by decide +kernel)).trans
  ((crc_rep 98 1683304712 3944916091 24 (by decide +kernel)).trans
  ((crc_rep 98 3944916091 1369207209 16 (by decide +kernel)).trans
  ((crc_rep 98 1369207209 2531806874 8 (by decide +kernel)).trans
  ((crc_rep 98 2531806874 134722723 0 (by decide +kernel)).trans
  (rfl))))))))))))))))))))))))))))))))
theorem crcFrom_from (c : Nat) (l : Txt) : crcFrom c l = crcBits (8 * l.length) c ^^^ crcFrom 0 l := by
  rw [crcFrom_le, crcFrom_le, crcBits_xor, Nat.zero_xor]
theorem crc_diff (b a z : Txt) (hl : a.length = z.length) (h : crcFrom 0 a ≠ crcFrom 0 z) : crc (b ++ a) ≠ crc (b ++ z) := by
  intro h5
  have e := congrArg (· ^^^ 4294967295) h5
  simp only [crc, Nat.xor_assoc, Nat.xor_self, Nat.xor_zero] at e
  rw [crcFrom_append, crcFrom_append, crcFrom_from _ a, crcFrom_from _ z, hl] at e
  exact h (xor_left_cancel e)
theorem full_length (c : UInt8) : (fullT c).length = 256 := List.length_replicate ..
theorem ex_ne : crcFrom 0 (fullT 98) ≠ crcFrom 0 (fullT 97) := by
  unfold fullT
  rw [crc_97, crc_98]
  decide
theorem ex_crc : crc (bodyT 1 [7] ++ [fullT 98].flatten) ≠ crc (bodyT 1 [7] ++ [fullT 97].flatten) := by
  rw [List.flatten_singleton, List.flatten_singleton]
  exact crc_diff _ _ _ (by rw [full_length, full_length]) ex_ne
theorem unpL_cons (h : Txt) (l : List Txt) (seq : Nat) (at' : List Nat) (hr : readL h = some (seq, at')) : unpL (h :: l) = if l.length < at'.length then .error 7 else if (l.take at'.length).all (fun s => decide (s.length = 256)) then (if (h.drop 248).take 4 = sumT (h.take 248) (l.take at'.length) then .ok (seq, at'.zip (l.take at'.length)) else .error 8) else .error 7 := by
  simp only [unpL]
  rw [hr]
theorem ex_bad : unpL [headT 1 [7] [fullT 97], fullT 98] = .error 8 := by
  rw [unpL_cons _ _ _ _ ex_read, if_neg (by simp), if_pos (by simp [full_length]), if_neg]
  rw [headT_take _ _ _ (by simp), headT_sum _ _ _ (by simp)]
  intro h
  exact ex_crc (fixedL_inj _ _ (crc_lt _) (crc_lt _) h).symm
theorem ex_short : unpL [headT 1 [7] [fullT 97]] = .error 7 := by
  simp only [unpL]
  rw [ex_read]
  rfl
theorem ex_good : unpL [headT 1 [7] [fullT 97], fullT 97] = .ok (1, [(7, fullT 97)]) := by
  have := unpL_pack 1 exW [] (by omega) (by simp [exW]) (by simp [exW]) ex_fine
  rw [ex_pack] at this
  exact this
set_option maxRecDepth 100000 in
set_option maxHeartbeats 3200000 in
theorem law_shown (w : World) : Calls Tryd.prog 9 #[] w fun e w' => e = .returned (.bool true) ∧ Below w.heap.size w w' := by
  have Hfull := Lib.hid (fun c w => law_full c w)
  have Hpack := Lib.hid (fun v w (h : Wrs w v exW) => frame_Pack 1 exW v (by omega) (by simp [exW]) (by intro p hp; unfold exW at hp; rw [List.mem_singleton] at hp; subst hp; rw [show ((7 : Int), fullT 97).2 = fullT 97 from rfl, full_length]; simp) w h)
  have Hpack0 := Lib.hid (fun w => frame_Pack 1 [] (.slice none 0 0) (by omega) (by simp) (by simp) w (.inl ⟨none, 0, rfl, rfl⟩))
  unfold PackPost at Hpack Hpack0
  rw [show packE exW = 0 from packE_zero.2 ⟨by simp [exW], by simp [exW], ex_fine⟩, ex_pack] at Hpack
  rw [show packE [] = 6 from rfl] at Hpack0
  have HeW : Hid (exW = [(7, fullT 97)]) := Lib.hid rfl
  have Hlen := Lib.hid ex_len
  have Hhead := Lib.hid (fun w => frame_Head (headT 1 [7] [fullT 97]) (by rw [ex_len]; omega) w)
  have Hun1 := Lib.hid (fun v w (h : Row w v (txtV [headT 1 [7] [fullT 97], fullT 97])) => frame_Unpack _ v (by simp) (by intro s hs; simp at hs; rcases hs with rfl | rfl <;> simp [ex_len, full_length]) w h)
  have Hun2 := Lib.hid (fun v w (h : Row w v (txtV [headT 1 [7] [fullT 97]])) => frame_Unpack _ v (by simp) (by intro s hs; simp at hs; subst hs; simp [ex_len]) w h)
  have Hun3 := Lib.hid (fun v w (h : Row w v (txtV [headT 1 [7] [fullT 97], fullT 98])) => frame_Unpack _ v (by simp) (by intro s hs; simp at hs; rcases hs with rfl | rfl <;> simp [ex_len, full_length]) w h)
  have Hsame := Lib.hid (fun va vb w (ha : Wrs w va exW) (hb : Wrs w vb exW) => law_sameWrites va vb exW (by simp [exW]) w ha hb)
  unfold UnpPost at Hun1 Hun2 Hun3
  rw [ex_good] at Hun1
  rw [ex_short] at Hun2
  rw [ex_bad] at Hun3
  rw [show headV (headT 1 [7] [fullT 97]) = (1, 1, true) by unfold headV; rw [ex_read]; rfl] at Hhead
  simp only at Hun1 Hun2 Hun3 Hhead
  have HAl := Lib.hid (full_length 97)
  have HBl := Lib.hid (full_length 98)
  generalize headT 1 [7] [fullT 97] = H at *
  have HfA := Lib.hid (Hfull.out 97)
  have HfB := Lib.hid (Hfull.out 98)
  clear Hfull
  generalize fullT 97 = A at *
  generalize fullT 98 = Z at *
  have hHz := size_B H
  rw [Hlen.out] at hHz
  go_enter Tryd.func9, Tryd.ntmps9
  go_wp2_with fail
  refine (HfA.out _).mono ?_
  rintro e w1 ⟨rfl, hb1⟩
  have Hb1 := Lib.hid hb1
  clear hb1
  have Hww := Lib.hid (show Wrs (w1.alloc (.cells #[.int .i64 7, .string (B A)] 45)) (.slice (some ⟨w1.heap.size, 0, none⟩) 1 1) exW from .inr ⟨w1.heap.size, 0, 1, by rw [HeW.out]; rfl, by simp, fun i hi => by
    rw [HeW.out] at hi
    obtain rfl : i = 0 := by simpa using hi
    simp only [HeW.out]
    exact ⟨by rw [Lib.cell_of_heap (heap_alloc_new w1 _)]; rfl, by rw [Lib.cell_of_heap (heap_alloc_new w1 _)]; rfl⟩⟩)
  go_wp2_with fail
  refine (Hpack.out _ _ Hww.out).mono ?_
  rintro e w2 ⟨hb2, v2, rfl, hown2⟩
  have Hww2 := Lib.hid (Hww.out.below hb2)
  have Hb2 := Lib.hid (step_call (step_new Hb1.out (.cells #[.int .i64 7, .string (B A)] 45)) hb2)
  obtain ⟨g, cap, cur, rfl, hg, hcap, _, _, hcell, _⟩ := own_txt hown2 (by simp)
  have d0 := hcell 0 (by simp)
  have d1 := hcell 1 (by simp)
  rw [List.getElem_cons_zero] at d0
  rw [List.getElem_cons_succ, List.getElem_cons_zero] at d1
  have hcap2 : (2 : Int) ≤ (cap : Int) := by simp at hcap; omega
  have Hrow2 := Lib.hid (own_row hown2)
  have e1 : ((B A).toList == (B A).toList) = true := by simp
  clear hb2 hown2 hcell hcap
  go_wp2_with fail
  go_region_held3 (fun w' => w'.cell? ⟨g, 0, none⟩ = some (.string (B H)) ∧ w'.cell? ⟨g, 1, none⟩ = some (.string (B A)))
    (first | exact h2c_call (by assumption) hb9 | exact ⟨d0, d1⟩ | assumption)
    ((go_at_call 21; refine (HfA.out _).mono ?_; rintro e w3 ⟨rfl, hb9⟩; have Hb3 : Hid (Below w2.heap.size w2 w3) := Lib.hid (by first | exact hb9 | exact step_call (below_drew _) hb9)))
  have d0 : w3.cell? ⟨g, 0, none⟩ = some (.string (B H)) := (show w3.cell? ⟨g, 0, none⟩ = some (.string (B H)) ∧ w3.cell? ⟨g, 1, none⟩ = some (.string (B A)) by assumption).1
  have hg3 : g < w3.heap.size := Nat.lt_of_lt_of_le hg Hb3.out.size
  have Hrow3 := Lib.hid (Hrow2.out.below Hb3.out)
  have Hb3' := Lib.hid (step_call Hb2.out Hb3.out)
  have Hww3 := Lib.hid (Hww2.out.below Hb3.out)
  clear hb9 d1 e1
  go_wp2_with fail
  refine (Hhead.out _).mono ?_
  rintro e w4 ⟨rfl, hb4⟩
  have Hrow4 := Lib.hid (Hrow3.out.below hb4)
  have Hww4 := Lib.hid (Hww3.out.below hb4)
  have Hb4 := Lib.hid (step_call Hb3'.out hb4)
  have d0 := cell_call hb4 d0
  have hg4 : g < w4.heap.size := Nat.lt_of_lt_of_le hg3 hb4.size
  clear hb4
  go_wp2_with fail
  refine (Hun1.out _ _ Hrow4.out).mono ?_
  rintro e w5 ⟨hb5, v5, rfl, hown5⟩
  have Hx5 := Lib.hid (own_wrs hown5)
  have Hww5 := Lib.hid (Hww4.out.below hb5)
  have Hb5 := Lib.hid (step_call Hb4.out hb5)
  have d0 := cell_call hb5 d0
  have hg5 : g < w5.heap.size := Nat.lt_of_lt_of_le hg4 hb5.size
  clear hb5 hown5
  have Hrow5 := Lib.hid (show Row w5 (.slice (some ⟨g, 0, none⟩) 1 cap) (txtV [H]) from .inr ⟨g, 0, cap, rfl, by simp [txtV]; omega, hg5, fun i hi => by
    obtain rfl : i = 0 := by simpa [txtV] using hi
    exact d0⟩)
  go_wp2_with fail
  refine (Hun2.out _ _ Hrow5.out).mono ?_
  rintro e w6 ⟨hb6, rfl⟩
  have Hx6 := Lib.hid (Hx5.out.below hb6)
  have Hww6 := Lib.hid (Hww5.out.below hb6)
  have Hb6 := Lib.hid (step_call Hb5.out hb6)
  have d0 := cell_call hb6 d0
  clear hb6
  go_wp2_with fail
  go_region_held3 (fun w' => w'.cell? ⟨g, 0, none⟩ = some (.string (B H)))
    (first | exact cell_call hb9 (by assumption) | assumption | go_keep)
    (first
      | (go_at_call 21; refine (HfB.out _).mono ?_; rintro e w7 ⟨rfl, hb9⟩; have Hb7 : Hid (Below w6.heap.size w6 w7) := Lib.hid (by first | exact hb9 | exact step_call (below_drew _) hb9))
      | (go_at_call 17; refine (Hun3.out _ _ (Row.new w7 [.string (B H), .string (B Z)] 9)).mono ?_; rintro e w8 ⟨hb9, rfl⟩; have Hb8 : Hid (Below w6.heap.size w6 w8) := Lib.hid (step_call (step_new Hb7.out _) hb9)))
  have Hx8 := Lib.hid (Hx6.out.below Hb8.out)
  have Hww8 := Lib.hid (Hww6.out.below Hb8.out)
  have Hb8' := Lib.hid (step_call Hb6.out Hb8.out)
  go_wp2_with fail
  refine (Hpack0.out _).mono ?_
  rintro e w10 ⟨hb10, v10, rfl, _⟩
  have Hx10 := Lib.hid (Hx8.out.below hb10)
  have Hww10 := Lib.hid (Hww8.out.below hb10)
  have Hb10 := Lib.hid (step_call Hb8'.out hb10)
  clear hb10
  go_wp2_with fail
  refine (Hsame.out _ _ _ (by rw [HeW.out]; exact Hx10.out) Hww10.out).mono ?_
  rintro e w11 ⟨rfl, hb11⟩
  have Hb11 := Lib.hid (step_call Hb10.out hb11)
  clear hb11
  go_wp2
  go_ret
  exact ⟨rfl, Hb11.out⟩
end Go.Proofs.YtnljmhdaloolgaaDoor
