/- Chapter 13's examples, as the laws' head asks them: true. No conditions. -/
import Derived.Test.YtefnddhondbjbaaDictAs
import Derived.Test.YtefnddhondbjbaaDictPackW
namespace Go.Proofs.Ytefnddhondbjbaa
open Go.RowKit Go.Wir Go.Dic

def sh : List Ent := [([97, 98], [49]), ([97, 98, 99], [50])]
def shB : ByteArray := ⟨#[2, 2, 97, 98, 11, 0, 2, 97, 98, 1, 49, 2, 1, 99, 1, 50]⟩
theorem sh_right : right sh = true := by decide +kernel
theorem sh_bytes : B (bytesL sh) = shB := congrArg B (show bytesL sh = [2, 2, 97, 98, 11, 0, 2, 97, 98, 1, 49, 2, 1, 99, 1, 50] by decide +kernel)
theorem sh_Pack (v : Value) (w : World) (h : Ents w v sh) : Calls Try.prog 11 #[v] w fun e w' => e = .returned (.tuple #[.string shB, .int .i64 0]) ∧ Below w.heap.size w w' := by
  have := dict_Pack v sh w h (by decide) (by decide)
  rw [show packL sh = bytesL sh by unfold packL; rw [sh_right]; rfl, show packE sh = 0 by unfold packE; rw [sh_right]; rfl, sh_bytes] at this
  exact this
theorem sh_Get1 (w : World) : Calls Try.prog 19 #[.string shB, .string ⟨#[97, 98, 99]⟩] w fun e w' => e = .returned (.tuple #[.string ⟨#[50]⟩, .bool true]) ∧ Below w.heap.size w w' := by
  have := dict_Get_at sh sh_right (by decide) ⟨#[97, 98, 99]⟩ w
  rw [sh_bytes, show findE sh (L ⟨#[97, 98, 99]⟩) = some [50] by decide +kernel] at this
  exact this
theorem sh_Get2 (w : World) : Calls Try.prog 19 #[.string shB, .string ⟨#[97]⟩] w fun e w' => e = .returned (.tuple #[.string ⟨#[]⟩, .bool false]) ∧ Below w.heap.size w w' := by
  have := dict_Get_at sh sh_right (by decide) ⟨#[97]⟩ w
  rw [sh_bytes, show findE sh (L ⟨#[97]⟩) = none by decide +kernel] at this
  exact this
theorem sh_Prefix (w : World) : Calls Try.prog 17 #[.string shB, .string ⟨#[97, 98, 99]⟩] w fun e w' => Below w.heap.size w w' ∧ ∃ b off cap, e = .returned (.slice (some ⟨b, off, none⟩) 1 cap) ∧ w'.cell? ⟨b, off, none⟩ = some (.string ⟨#[97, 98, 99]⟩) ∧ w'.cell? ⟨b, off + 1, none⟩ = some (.string ⟨#[50]⟩) := by
  have := dict_Prefix_at sh sh_right (by decide) ⟨#[97, 98, 99]⟩ w
  rw [sh_bytes, show sh.filter (fun e => (L ⟨#[97, 98, 99]⟩).isPrefixOf e.1) = [([97, 98, 99], [50])] by decide +kernel] at this
  refine this.mono ?_
  rintro e w' ⟨hb, v, rfl, hv⟩
  obtain ⟨b, off, cap, rfl, _, hc⟩ := ents_row hv (by decide)
  have h0 := hc 0 (by decide)
  rw [Nat.zero_mul, Nat.add_zero] at h0
  exact ⟨hb, b, off, cap, rfl, h0.1, h0.2⟩
theorem ents_new2 (w : World) (b : Nat) (hb : b = w.heap.size) (e1 e2 : Ent) (t : TypeId) : Ents (w.alloc (.cells #[.string (B e1.1), .string (B e1.2), .string (B e2.1), .string (B e2.2)] t)) (.slice (some ⟨b, 0, none⟩) 2 2) [e1, e2] := by
  subst hb
  have hh := heap_alloc_new w (.cells #[.string (B e1.1), .string (B e1.2), .string (B e2.1), .string (B e2.2)] t)
  obtain ⟨c0, c1, c2, c3, _⟩ := cells4 hh
  refine .inr ⟨w.heap.size, 0, 2, rfl, Nat.le_refl _, by simp, fun i hi => ?_⟩
  match i, hi with
  | 0, _ => exact ⟨c0, c1⟩
  | 1, _ => exact ⟨c2, c3⟩

set_option maxRecDepth 100000 in
set_option maxHeartbeats 1600000 in
theorem shown13 (w : World) :
    Calls Try.prog 9 #[] w fun e w' => e = .returned (.bool true) ∧ Below w.heap.size w w' := by
  have e1 : (shB.toList == ([2, 2, 97, 98, 11, 0, 2, 97, 98, 1, 49, 2, 1, 99, 1, 50] : List UInt8)) = true := by rw [toList_L]; decide +kernel
  have Hs : Hid (∀ w : World, Ents (w.alloc (.cells #[.string ⟨#[97, 98]⟩, .string ⟨#[49]⟩, .string ⟨#[97, 98, 99]⟩, .string ⟨#[50]⟩] 35)) (.slice (some ⟨w.heap.size, 0, none⟩) 2 2) sh) := Lib.hid (fun w => ents_new2 w _ rfl ([97, 98], [49]) ([97, 98, 99], [50]) _)
  go_enter Try.func9, Try.ntmps9
  go_wp2_with fail
  refine (sh_Pack _ _ (Hs.out _)).mono ?_
  rintro e w1 ⟨rfl, b1⟩
  have B1 := Lib.hid (step_alloc (Below.refl _ w) b1)
  clear b1
  go_wp2_with fail
  refine (sh_Get1 _).mono ?_
  rintro e w2 ⟨rfl, b2⟩
  have B2 := Lib.hid (step_call B1.out b2)
  clear b2
  go_wp2_with fail
  refine (sh_Get2 _).mono ?_
  rintro e w3 ⟨rfl, b3⟩
  have B3 := Lib.hid (step_call B2.out b3)
  clear b3
  go_wp2_with fail
  refine (sh_Prefix _).mono ?_
  rintro e w4 ⟨b4, b, off, cap, rfl, c1, c2⟩
  have B4 := Lib.hid (step_call B3.out b4)
  clear b4
  go_wp2
  go_ret
  exact ⟨rfl, B4.out⟩
end Go.Proofs.Ytefnddhondbjbaa
