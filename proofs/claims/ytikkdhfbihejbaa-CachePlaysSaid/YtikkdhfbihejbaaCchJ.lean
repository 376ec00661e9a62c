/- Chapter 6's examples: shown. No conditions. -/
import Derived.Test.YtikkdhfbihejbaaCchI
namespace Go.Cch
def chS (l : List Kd) (m : Nat) : Ch := ⟨l, 2, m⟩
theorem g1 : askG (newC 2) 1 = ((srcT 1, 0), ⟨[⟨1, srcT 1, false, 0⟩], 2, 1⟩) := by rfl
theorem g2 : askG (⟨[⟨1, srcT 1, false, 0⟩], 2, 1⟩ : Ch) 2 = ((srcT 2, 0), ⟨[⟨2, srcT 2, false, 0⟩, ⟨1, srcT 1, false, 0⟩], 2, 2⟩) := by rfl
theorem g3 : askG (⟨[⟨2, srcT 2, false, 0⟩, ⟨1, srcT 1, false, 0⟩], 2, 2⟩ : Ch) 1 = ((srcT 1, 0), ⟨[⟨1, srcT 1, false, 0⟩, ⟨2, srcT 2, false, 0⟩], 2, 2⟩) := by rfl
theorem g4 : askG (⟨[⟨1, srcT 1, false, 0⟩, ⟨2, srcT 2, false, 0⟩], 2, 2⟩ : Ch) 3 = ((srcT 3, 0), ⟨[⟨3, srcT 3, false, 0⟩, ⟨1, srcT 1, false, 0⟩], 2, 3⟩) := by rfl
theorem g5 : pinC (⟨[⟨3, srcT 3, false, 0⟩, ⟨1, srcT 1, false, 0⟩], 2, 3⟩ : Ch) 1 = (0, ⟨[⟨3, srcT 3, false, 0⟩, ⟨1, srcT 1, false, 1⟩], 2, 3⟩) := by rfl
theorem g6 : putC (⟨[⟨3, srcT 3, false, 0⟩, ⟨1, srcT 1, false, 1⟩], 2, 3⟩ : Ch) 3 (fullT 120) = (0, ⟨[⟨3, fullT 120, true, 0⟩, ⟨1, srcT 1, false, 1⟩], 2, 3⟩) := by
  unfold putC
  rw [if_pos (by unfold fullT; rw [List.length_replicate])]
  rfl
theorem g7 : askG (⟨[⟨3, fullT 120, true, 0⟩, ⟨1, srcT 1, false, 1⟩], 2, 3⟩ : Ch) 4 = (([], 14), ⟨[⟨3, fullT 120, true, 0⟩, ⟨1, srcT 1, false, 1⟩], 2, 3⟩) := by rfl
theorem g8 : cleanC (⟨[⟨3, fullT 120, true, 0⟩, ⟨1, srcT 1, false, 1⟩], 2, 3⟩ : Ch) = ⟨[⟨3, fullT 120, false, 0⟩, ⟨1, srcT 1, false, 1⟩], 2, 3⟩ := by rfl
theorem g9 : askG (⟨[⟨3, fullT 120, false, 0⟩, ⟨1, srcT 1, false, 1⟩], 2, 3⟩ : Ch) 4 = ((srcT 4, 0), ⟨[⟨4, srcT 4, false, 0⟩, ⟨1, srcT 1, false, 1⟩], 2, 4⟩) := by rfl
theorem g10 : unpinC (⟨[⟨4, srcT 4, false, 0⟩, ⟨1, srcT 1, false, 1⟩], 2, 4⟩ : Ch) 4 = (14, ⟨[⟨4, srcT 4, false, 0⟩, ⟨1, srcT 1, false, 1⟩], 2, 4⟩) := by rfl
theorem g11 : unpinC (⟨[⟨4, srcT 4, false, 0⟩, ⟨1, srcT 1, false, 1⟩], 2, 4⟩ : Ch) 9 = (10, ⟨[⟨4, srcT 4, false, 0⟩, ⟨1, srcT 1, false, 1⟩], 2, 4⟩) := by rfl
end Go.Cch
namespace Go.Proofs.Ytikkdhfbihejbaa
open Go.RowKit Go.Cch Go.Lib Go.Shelf
attribute [local go_sem] Oper.semAt_some

theorem LiveK.n0 {w0 w : World} {n cb N : Nat} {c : Ch} {R : Nat → Prop} (h : LiveK w0 w none n cb c N R) : LiveK w0 w none 0 cb c N R := by
  obtain ⟨mb, clk, M, a1, a2, a3, a4, a5, a6, a7, a8, a9⟩ := h
  exact ⟨mb, clk, M, a1, trivial, a3, a4, a5, a6, a7, a8, Nat.zero_le _⟩
theorem row_two {w : World} {v : Value} {a b : Int} (h : Row w v ([a, b].map (Value.int .i64))) : ∃ bb off cap, v = .slice (some ⟨bb, off, none⟩) 2 cap ∧ w.cell? ⟨bb, off, none⟩ = some (.int .i64 a) ∧ w.cell? ⟨bb, off + 1, none⟩ = some (.int .i64 b) := by
  rcases h with ⟨_, _, _, h⟩ | ⟨bb, off, cap, rfl, _, _, h4⟩
  · cases h
  · exact ⟨bb, off, cap, rfl, h4 0 (by simp), h4 1 (by simp)⟩
set_option maxRecDepth 100000 in
set_option maxHeartbeats 6400000 in
theorem law_shown6 (w : World) : Calls Try.prog 9 #[] w fun e w' => e = .returned (.bool true) ∧ Below w.heap.size w w' := by
  go_enter Try.func9, Try.ntmps9
  go_wp2_with fail
  refine (live_New (w0 := w) 2 (by omega) (by omega) none 0 trivial (fun _ h => by cases h) (Below.refl _ _)).mono ?_
  rintro e w1 ⟨cb, rfl, h, -⟩
  have H1 := Lib.hid h
  clear h
  go_wp2_with fail
  refine (cch_New_bad w1 _ 0 (.inl (by omega))).mono ?_
  rintro e w2 ⟨rfl, rfl⟩
  go_wp2_with fail
  have hT := live_Get H1.out (by omega) 1 (keyI_of (by omega) (by omega))
  rw [g1] at hT
  refine hT.mono ?_
  rintro e x2 ⟨rfl, h, hk⟩
  have H2 := Lib.hid h.n0
  clear hT h hk
  go_wp2_with fail
  have hT := live_Get H2.out (by omega) 2 (keyI_of (by omega) (by omega))
  rw [g2] at hT
  refine hT.mono ?_
  rintro e x3 ⟨rfl, h, hk⟩
  have H3 := Lib.hid h.n0
  clear hT h hk
  go_wp2_with fail
  have hT := live_Get H3.out (by omega) 1 (keyI_of (by omega) (by omega))
  rw [g3] at hT
  refine hT.mono ?_
  rintro e x4 ⟨rfl, h, hk⟩
  have H4 := Lib.hid h.n0
  clear hT h hk
  go_wp2_with fail
  have hT := live_Get H4.out (by omega) 3 (keyI_of (by omega) (by omega))
  rw [g4] at hT
  refine hT.mono ?_
  rintro e x5 ⟨rfl, h, hk⟩
  have H5 := Lib.hid h.n0
  clear hT h hk
  go_wp2_with fail
  refine (live_Blocks H5.out (by omega)).mono ?_
  rintro e x6 ⟨v, rfl, hr, h, -, -⟩
  obtain ⟨bb5, off5, cap5, rfl, r0, r1⟩ := row_two hr
  have H6 := Lib.hid h
  clear hr h
  go_wp2_with fail
  refine (law_full 3 _).mono ?_
  rintro e y1 ⟨rfl, hb⟩
  replace r0 := cell_call hb r0
  replace r1 := cell_call hb r1
  have H7 := Lib.hid (H6.out.call hb).1
  have hs3 : srcT 3 = fullT 3 := rfl
  rw [hs3]
  clear hb hs3
  go_wp2_with fail
  refine (live_Misses H7.out).mono ?_
  rintro e y2 ⟨rfl, rfl⟩
  go_wp2_with fail
  have hT := live_Pin H7.out (by omega) 1 (keyI_of (by omega) (by omega))
  rw [g5] at hT
  refine hT.mono ?_
  rintro e x8 ⟨rfl, h, hk⟩
  have H8 := Lib.hid h
  clear hT h hk
  go_wp2_with fail
  refine (law_full 120 _).mono ?_
  rintro e y3 ⟨rfl, hb⟩
  have H9 := Lib.hid (H8.out.call hb).1
  clear hb
  go_wp2_with fail
  have hT := live_Put H9.out (by omega) 3 (keyI_of (by omega) (by omega)) (fullT 120) (by unfold fullT; rw [List.length_replicate]; omega)
  rw [g6] at hT
  refine hT.mono ?_
  rintro e x10 ⟨rfl, h, hk⟩
  have H10 := Lib.hid h
  clear hT h hk
  go_wp2_with fail
  have hT := live_Get H10.out (by omega) 4 (keyI_of (by omega) (by omega))
  rw [g7] at hT
  refine hT.mono ?_
  rintro e x11 ⟨rfl, h, hk⟩
  have H11 := Lib.hid h.n0
  clear hT h hk
  go_wp2_with fail
  have hT := live_Clean H11.out
  rw [g8] at hT
  refine hT.mono ?_
  rintro e x12 ⟨rfl, h, hk⟩
  have H12 := Lib.hid h
  clear hT h hk
  go_wp2_with fail
  have hT := live_Get H12.out (by omega) 4 (keyI_of (by omega) (by omega))
  rw [g9] at hT
  refine hT.mono ?_
  rintro e x13 ⟨rfl, h, hk⟩
  have H13 := Lib.hid h.n0
  clear hT h hk
  go_wp2_with fail
  refine (live_Blocks H13.out (by omega)).mono ?_
  rintro e x14 ⟨v, rfl, hr, h, -, -⟩
  obtain ⟨bb13, off13, cap13, rfl, r0, r1⟩ := row_two hr
  have H14 := Lib.hid h
  clear hr h
  go_wp2_with fail
  have hT := live_Unpin H14.out (by omega) 4 (keyI_of (by omega) (by omega))
  rw [g10] at hT
  refine hT.mono ?_
  rintro e x15 ⟨rfl, h, hk⟩
  have H15 := Lib.hid h
  clear hT h hk
  go_wp2_with fail
  have hT := live_Unpin H15.out (by omega) 9 (keyI_of (by omega) (by omega))
  rw [g11] at hT
  refine hT.mono ?_
  rintro e x16 ⟨rfl, h, hk⟩
  have H16 := Lib.hid h
  clear hT h hk
  go_wp2
  go_ret
  exact ⟨rfl, H16.out.below⟩
end Go.Proofs.Ytikkdhfbihejbaa
