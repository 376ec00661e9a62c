/- Chapter 4: a slot's text. Conditions: its numbers fit. -/
import Derived.Test.YtlgfjoicdbjfjaaDoorJrnMem
import Derived.Test.YtlgfjoicdbjfjaaDoorFrmD
import Derived.Test.YtlgfjoicdbjfjaaDoorJrnG
namespace Go.Proofs.YtlgfjoicdbjfjaaDoor
open Go.RowKit Go.Wir Go.Blk Go.Frm Go.Jrn

def slV (x : Sl) : Value := .agg #[.int .u64 (x.e : Nat), .int .u64 (x.s : Nat), .int .i64 (x.log : Nat), .int .i64 (x.p : Nat)]
def preS (x : Sl) : Nat → Txt
  | 0 => magicS
  | 1 => magicS ++ fixedL (x.e % 4294967296) ++ fixedL (x.e / 4294967296)
  | _ => magicS ++ fixedL (x.e % 4294967296) ++ fixedL (x.e / 4294967296) ++ fixedL (x.s % 4294967296) ++ fixedL (x.s / 4294967296)
theorem noughts (w : World) : Calls Tryd.prog 37 #[] w fun e w' => e = .returned (.string (B zeros)) ∧ Below w.heap.size w w' := by
  have H := Lib.hid (fun w => rep256 w)
  go_enter Tryd.func37, Tryd.ntmps37
  go_wp2_with fail
  refine (H.out _).mono ?_
  rintro e w1 ⟨rfl, hb⟩
  go_wp2
  go_ret
  exact ⟨rfl, hb⟩
set_option maxRecDepth 100000 in
set_option maxHeartbeats 1600000 in
theorem slot_text (x : Sl) (hx : x.Fit) (w : World) :
    Calls Tryd.prog 42 #[slV x] w fun e w' => e = .returned (.string (B (slotT x))) ∧ Below w.heap.size w w' := by
  obtain ⟨h1, h2, h3, h4⟩ := hx
  have HS : Hid (slotT x = (preS x 2 ++ (fixedL x.log ++ fixedL x.p) ++ List.replicate 100 0) ++ (preS x 2 ++ (fixedL x.log ++ fixedL x.p) ++ List.replicate 100 0)) := Lib.hid (by unfold slotT halfT preS; simp only [List.append_assoc])
  have HP1 : Hid (preS x 1 = preS x 0 ++ (fixedL (x.e % 4294967296) ++ fixedL (x.e / 4294967296))) := Lib.hid (by unfold preS; simp only [List.append_assoc])
  have HP2 : Hid (preS x 2 = preS x 1 ++ (fixedL (x.s % 4294967296) ++ fixedL (x.s / 4294967296))) := Lib.hid (by unfold preS; simp only [List.append_assoc])
  have HP0 : Hid (B (preS x 0) = ⟨#[67, 68, 88, 83]⟩) := Lib.hid rfl
  have HL2 : Hid ((preS x 2).length = 20) := Lib.hid rfl
  unfold slV
  obtain ⟨E, hE⟩ : ∃ s : Int, s = (x.e : Int) := ⟨_, rfl⟩
  obtain ⟨S, hS⟩ : ∃ s : Int, s = (x.s : Int) := ⟨_, rfl⟩
  rw [← hE, ← hS]
  have hE0 : 0 ≤ E := by omega
  have hS0 : 0 ≤ S := by omega
  have hE3 : E / 4294967296 < 4294967296 := by omega
  have hS3 : S / 4294967296 < 4294967296 := by omega
  have e1 : (E % 4294967296).toNat = x.e % 4294967296 := by omega
  have e2 : (E / 4294967296).toNat = x.e / 4294967296 := by omega
  have s1 : (S % 4294967296).toNat = x.s % 4294967296 := by omega
  have s2 : (S / 4294967296).toNat = x.s / 4294967296 := by omega
  have F1 := Lib.hid (fun w => wire_Fixed (E % 4294967296) (by omega) (by omega) w)
  have F2 := Lib.hid (fun w => wire_Fixed (E / 4294967296) (by omega) hE3 w)
  have F3 := Lib.hid (fun w => wire_Fixed (S % 4294967296) (by omega) (by omega) w)
  have F4 := Lib.hid (fun w => wire_Fixed (S / 4294967296) (by omega) hS3 w)
  have F5 := Lib.hid (fun w => wire_Fixed (x.log : Int) (by omega) (by omega) w)
  have F6 := Lib.hid (fun w => wire_Fixed (x.p : Int) (by omega) (by omega) w)
  rw [e1] at F1
  rw [e2] at F2
  rw [s1] at F3
  rw [s2] at F4
  rw [Int.toNat_natCast] at F5 F6
  have Hrep := Lib.hid (fun w => repF 100 (by omega) (by omega) w)
  have hf4 : ∀ n, (B (fixedL n)).size = 4 := fun n => by rw [size_B]; rfl
  have HF4 := Lib.hid hf4
  have HS1 := Lib.hid (Nat.le_of_eq (hf4 (x.e % 4294967296)))
  have HS2 := Lib.hid (Nat.le_of_eq (hf4 (x.e / 4294967296)))
  have HS3 := Lib.hid (Nat.le_of_eq (hf4 (x.s % 4294967296)))
  have HS4 := Lib.hid (Nat.le_of_eq (hf4 (x.s / 4294967296)))
  clear hE hS h1 h2 e1 e2 s1 s2 hf4
  generalize fixedL (x.e % 4294967296) = f1 at *
  generalize fixedL (x.e / 4294967296) = f2 at *
  generalize fixedL (x.s % 4294967296) = f3 at *
  generalize fixedL (x.s / 4294967296) = f4 at *
  go_enter Tryd.func42, Tryd.ntmps42
  have hb0 : Below w.heap.size w ((w.alloc (.cells #[.int .u64 E, .int .u64 S, .int .i64 (x.log : Nat), .int .i64 (x.p : Nat)] 63)).alloc (.cells #[.int .u64 E, .int .u64 S] 28)) := step_new (step_new (Below.refl _ _) _) _
  have hq0 : ((w.alloc (.cells #[.int .u64 E, .int .u64 S, .int .i64 (x.log : Nat), .int .i64 (x.p : Nat)] 63)).alloc (.cells #[.int .u64 E, .int .u64 S] 28)).heap[w.heap.size]? = some (.cells #[.int .u64 E, .int .u64 S, .int .i64 (x.log : Nat), .int .i64 (x.p : Nat)] 63 (0, 0)) := (heap_alloc_old _ _ (by simp)).trans (heap_alloc_new _ _)
  have hq1 : ((w.alloc (.cells #[.int .u64 E, .int .u64 S, .int .i64 (x.log : Nat), .int .i64 (x.p : Nat)] 63)).alloc (.cells #[.int .u64 E, .int .u64 S] 28)).heap[w.heap.size + 1]? = some (.cells #[.int .u64 E, .int .u64 S] 28 (0, 0)) := by
    have := heap_alloc_new (w.alloc (.cells #[.int .u64 E, .int .u64 S, .int .i64 (x.log : Nat), .int .i64 (x.p : Nat)] 63)) (.cells #[.int .u64 E, .int .u64 S] 28)
    rwa [World.size_alloc] at this
  go_wp2
  generalize (w.alloc (.cells #[.int .u64 E, .int .u64 S, .int .i64 (x.log : Nat), .int .i64 (x.p : Nat)] 63)).alloc (.cells #[.int .u64 E, .int .u64 S] 28) = W at *
  have c2 : W.cell? ⟨w.heap.size, 2, none⟩ = some (.int .i64 (x.log : Nat)) := by rw [Lib.cell_of_heap hq0]; rfl
  have c3 : W.cell? ⟨w.heap.size, 3, none⟩ = some (.int .i64 (x.p : Nat)) := by rw [Lib.cell_of_heap hq0]; rfl
  have d0 : W.cell? ⟨w.heap.size + 1, 0, none⟩ = some (.int .u64 E) := by rw [Lib.cell_of_heap hq1]; rfl
  have d1 : W.cell? ⟨w.heap.size + 1, 1, none⟩ = some (.int .u64 S) := by rw [Lib.cell_of_heap hq1]; rfl
  have C2 := Lib.hid c2
  have C3 := Lib.hid c3
  have D0 := Lib.hid d0
  have D1 := Lib.hid d1
  have Hb0 := Lib.hid hb0
  clear c2 c3 d0 d1 hq0 hq1 hb0
  go_loopw [12, 3] (fun x12 x3 wr => ∃ k : Nat, k ≤ 2 ∧ x12 = .int .i64 k ∧ x3 = .string (B (preS x k)) ∧ Below W.heap.size W wr) (fun x12 _ _ => 2 - (intOf x12).toNat)
  case atStart => exact ⟨0, by omega, rfl, by rw [HP0.out], Below.refl _ _⟩
  case round =>
    obtain ⟨k, hk, rfl, rfl, hbel⟩ := hrel
    have Hbel := Lib.hid hbel
    rcases (show k = 0 ∨ k = 1 ∨ k = 2 by omega) with rfl | rfl | rfl
    · have d0 := cell_call hbel D0.out
      have hc1 : ¬ 9223372036854775807 < (B f1).size + (B f2).size := by have := HS1.out; have := HS2.out; omega
      have hc2 : ¬ 9223372036854775807 < (B (preS x 0)).size + (B f1 ++ B f2).size := by rw [ByteArray.size_append, size_B, show (preS x 0).length = 4 from rfl]; have := HS1.out; have := HS2.out; omega
      clear hbel
      generalize preS x 0 = p0 at *
      go_wp2_with fail
      refine (F1.out _).mono ?_
      rintro e w1 ⟨rfl, hb1⟩
      have Hb1 := Lib.hid hb1
      clear hb1
      go_wp2_with fail
      refine (F2.out _).mono ?_
      rintro e w2 ⟨rfl, hb2⟩
      have Hb2 := Lib.hid (step_call Hb1.out hb2)
      clear hb2
      go_wp2
      go_roundw
      case rel => exact ⟨1, by omega, rfl, by rw [HP1.out, B_append, B_append], step_call Hbel.out Hb2.out⟩
      case measure => simp [intOf]
    · have d1 := cell_call hbel D1.out
      have hc1 : ¬ 9223372036854775807 < (B f3).size + (B f4).size := by have := HS3.out; have := HS4.out; omega
      have hc2 : ¬ 9223372036854775807 < (B (preS x 1)).size + (B f3 ++ B f4).size := by rw [ByteArray.size_append, size_B, show (preS x 1).length = 12 from rfl]; have := HS3.out; have := HS4.out; omega
      clear hbel
      generalize preS x 1 = p0 at *
      go_wp2_with fail
      refine (F3.out _).mono ?_
      rintro e w1 ⟨rfl, hb1⟩
      have Hb1 := Lib.hid hb1
      clear hb1
      go_wp2_with fail
      refine (F4.out _).mono ?_
      rintro e w2 ⟨rfl, hb2⟩
      have Hb2 := Lib.hid (step_call Hb1.out hb2)
      clear hb2
      go_wp2
      go_roundw
      case rel => exact ⟨2, by omega, rfl, by rw [HP2.out, B_append, B_append], step_call Hbel.out Hb2.out⟩
      case measure => simp [intOf]
    · have c2 := cell_call hbel C2.out
      have c3 := cell_call hbel C3.out
      have hc1 : ¬ 9223372036854775807 < (B (fixedL x.log)).size + (B (fixedL x.p)).size := by have := HF4.out x.log; have := HF4.out x.p; omega
      have hz2 : (B (preS x 2)).size = 20 := by rw [size_B]; rfl
      have hc2 : ¬ 9223372036854775807 < (B (preS x 2)).size + (B (fixedL x.log) ++ B (fixedL x.p)).size := by rw [ByteArray.size_append, hz2]; have := HF4.out x.log; have := HF4.out x.p; omega
      have hc3 : ¬ 9223372036854775807 < (B (preS x 2)).size + ((B (fixedL x.log)).size + (B (fixedL x.p)).size) := by rw [hz2]; have := HF4.out x.log; have := HF4.out x.p; omega
      have hT : B (preS x 2) ++ (B (fixedL x.log) ++ B (fixedL x.p)) = B (preS x 2 ++ (fixedL x.log ++ fixedL x.p)) := by rw [B_append, B_append]
      have HT := Lib.hid hT
      have hTl : (preS x 2 ++ (fixedL x.log ++ fixedL x.p)).length = 28 := by rw [List.length_append, List.length_append, HL2.out]; rfl
      have hTs := size_B (preS x 2 ++ (fixedL x.log ++ fixedL x.p))
      rw [hTl] at hTs
      have HTs := Lib.hid hTs
      have hw5 : IntKind.u32.wrap (x.log : Int) = (x.log : Int) := IntWalk.u32_in _ (by omega)
      have hw6 : IntKind.u32.wrap (x.p : Int) = (x.p : Int) := IntWalk.u32_in _ (by omega)
      clear hbel hz2 hT hTl hTs
      generalize preS x 2 = p0 at *
      generalize fixedL x.log = g5 at *
      generalize fixedL x.p = g6 at *
      go_wp2
      go_region_held3 (fun w' => w'.cell? ⟨w.heap.size, 2, none⟩ = some (.int .i64 (x.log : Nat)) ∧ w'.cell? ⟨w.heap.size, 3, none⟩ = some (.int .i64 (x.p : Nat)))
        (first | exact h2c_call (by assumption) hb9 | exact ⟨c2, c3⟩ | assumption)
        (first
          | (go_at_call 49; (with_reducible refine (F5.out _).mono ?_); rintro e w9 ⟨rfl, hb9⟩; have HB9 : Hid (Below wr.heap.size wr w9) := Lib.hid (by first | exact hb9 | exact step_call (below_drew _) hb9))
          | (go_at_call 49; (with_reducible refine (F6.out _).mono ?_); rintro e w10 ⟨rfl, hb9⟩; have HB10 : Hid (Below wr.heap.size wr w10) := Lib.hid (step_call HB9.out hb9)))
      all_goals
        rw [HT.out]
        have hTs := HTs.out
        generalize p0 ++ (g5 ++ g6) = t at *
        go_wp2_with fail
        refine (Hrep.out _).mono ?_
        rintro e w11 ⟨rfl, hb11⟩
        have Hb11 := Lib.hid (step_call Hbel.out (step_call HB10.out hb11))
        have hzz : (B (List.replicate 100 (0 : UInt8))).size = 100 := by rw [size_B, List.length_replicate]
        have hc5 : ¬ 9223372036854775807 < (B t).size + (B (List.replicate 100 (0 : UInt8))).size := by omega
        have hc6 : ¬ 9223372036854775807 < (B t ++ B (List.replicate 100 (0 : UInt8))).size + (B t ++ B (List.replicate 100 (0 : UInt8))).size := by rw [ByteArray.size_append]; omega
        have hc7 : ¬ 9223372036854775807 < ((B t).size + (B (List.replicate 100 (0 : UInt8))).size) + ((B t).size + (B (List.replicate 100 (0 : UInt8))).size) := by omega
        clear hb11 hTs hzz
        generalize List.replicate 100 (0 : UInt8) = z at *
        go_wp2
        go_ret
        exact ⟨by rw [HS.out, B_append, B_append]; rfl, Hb0.out.trans (Hb11.out.mono Hb0.out.size)⟩
end Go.Proofs.YtlgfjoicdbjfjaaDoor
