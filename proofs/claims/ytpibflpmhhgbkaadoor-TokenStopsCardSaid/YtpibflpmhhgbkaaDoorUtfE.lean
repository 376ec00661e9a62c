/- Chapter 10: the reference's letter and Kind. No conditions. -/
import Derived.Test.YtpibflpmhhgbkaaDoorUtfD
namespace Go.Proofs.YtpibflpmhhgbkaaDoor
open Go.RowKit Go.Utf

theorem ret_bool {a b : Bool} (h : a = b) : Ending.returned (.bool a) = .returned (.bool b) := by rw [h]
theorem in_two (r a b : Int) (w : World) : Calls Tryd.prog 32 #[.int .i64 r, .int .i64 a, .int .i64 b] w fun e w' => w = w' ∧ ((e = .returned (.bool true) ∧ InH r a b true) ∨ (e = .returned (.bool false) ∧ InH r a b false)) := by
  refine (ref10_in r a b w).mono ?_
  rintro e w' ⟨rfl, rfl⟩
  refine ⟨rfl, ?_⟩
  unfold InH
  cases inB r a b
  · exact .inr ⟨rfl, rfl⟩
  · exact .inl ⟨rfl, rfl⟩
set_option maxRecDepth 100000 in
set_option maxHeartbeats 6400000 in
theorem ref10_letter (r : Int) (w : World) : Calls Tryd.prog 31 #[.int .i64 r] w fun e w' => e = .returned (.bool (letterB r)) ∧ w = w' := by
  obtain ⟨v, hv⟩ : ∃ v, letterB r = v := ⟨_, rfl⟩
  rw [hv]
  have Hv := Lib.hid hv
  clear hv
  obtain ⟨b170, e170⟩ : ∃ b, (r == 170) = b := ⟨_, rfl⟩
  obtain ⟨b181, e181⟩ : ∃ b, (r == 181) = b := ⟨_, rfl⟩
  obtain ⟨b186, e186⟩ : ∃ b, (r == 186) = b := ⟨_, rfl⟩
  obtain ⟨b215, e215⟩ : ∃ b, (r != 215) = b := ⟨_, rfl⟩
  obtain ⟨b247, e247⟩ : ∃ b, (r != 247) = b := ⟨_, rfl⟩
  obtain ⟨b885, e885⟩ : ∃ b, (r != 885) = b := ⟨_, rfl⟩
  obtain ⟨b894, e894⟩ : ∃ b, (r != 894) = b := ⟨_, rfl⟩
  obtain ⟨b888, e888⟩ : ∃ b, (r != 888) = b := ⟨_, rfl⟩
  obtain ⟨b889, e889⟩ : ∃ b, (r != 889) = b := ⟨_, rfl⟩
  obtain ⟨b903, e903⟩ : ∃ b, (r != 903) = b := ⟨_, rfl⟩
  obtain ⟨b907, e907⟩ : ∃ b, (r != 907) = b := ⟨_, rfl⟩
  obtain ⟨b909, e909⟩ : ∃ b, (r != 909) = b := ⟨_, rfl⟩
  obtain ⟨b930, e930⟩ : ∃ b, (r != 930) = b := ⟨_, rfl⟩
  obtain ⟨b1014, e1014⟩ : ∃ b, (r != 1014) = b := ⟨_, rfl⟩
  go_enter Tryd.func31, Tryd.ntmps31
  go_wp2_with (go_at_call 32; refine (in_two r _ _ _).mono ?_; rintro e w1 ⟨rfl, ⟨rfl, h⟩ | ⟨rfl, h⟩⟩)
  all_goals
    go_ret
    refine ⟨ret_bool ?_, rfl⟩
    rw [← Hv.out]
    clear Hv
    try simp only [InH] at *
    simp only [letterB, e170, e181, e186, e215, e247, e885, e894, e888, e889, e903, e907, e909, e930, e1014]
    clear e170 e181 e186 e215 e247 e885 e894 e888 e889 e903 e907 e909 e930 e1014
    simp [*]
set_option maxRecDepth 100000 in
set_option maxHeartbeats 6400000 in
theorem ref10_Kind (r : Int) (w : World) : Calls Tryd.prog 18 #[.int .i64 r] w fun e w' => e = .returned (.int .i64 (kindN r)) ∧ w = w' := by
  obtain ⟨v, hv⟩ : ∃ v, kindN r = v := ⟨_, rfl⟩
  rw [hv]
  have Hv := Lib.hid hv
  clear hv
  obtain ⟨bl, hl⟩ : ∃ b, letterB r = b := ⟨_, rfl⟩
  have Hlet := Lib.hid (ref10_letter r w)
  rw [hl] at Hlet
  have Hl := Lib.hid hl
  clear hl
  obtain ⟨b32, e32⟩ : ∃ b, (r == 32) = b := ⟨_, rfl⟩
  obtain ⟨b133, e133⟩ : ∃ b, (r == 133) = b := ⟨_, rfl⟩
  obtain ⟨b160, e160⟩ : ∃ b, (r == 160) = b := ⟨_, rfl⟩
  obtain ⟨b8232, e8232⟩ : ∃ b, (r == 8232) = b := ⟨_, rfl⟩
  obtain ⟨b8233, e8233⟩ : ∃ b, (r == 8233) = b := ⟨_, rfl⟩
  obtain ⟨b12288, e12288⟩ : ∃ b, (r == 12288) = b := ⟨_, rfl⟩
  cases bl
  all_goals
    go_enter Tryd.func18, Tryd.ntmps18
    go_wp2_with (first
      | (go_at_call 31; refine Hlet.out.mono ?_; rintro e w1 ⟨rfl, rfl⟩)
      | (go_at_call 32; refine (in_two r _ _ _).mono ?_; rintro e w1 ⟨rfl, ⟨rfl, h⟩ | ⟨rfl, h⟩⟩))
    all_goals
      go_ret
      refine ⟨ret_i64 ?_, rfl⟩
      rw [← Hv.out]
      have hl := Hl.out
      clear Hv Hl
      try simp only [InH] at *
      simp_all [kindN]
end Go.Proofs.YtpibflpmhhgbkaaDoor
