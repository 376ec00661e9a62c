/- Chapter 8: names: inode.Name, codexref8.Name. Condition: the text's size. -/
import Derived.Test.YteemloillnfaeaaDoorInoLay
import Derived.Test.YteemloillnfaeaaDoorInoTrim
import Derived.Test.YteemloillnfaeaaDoorInoMem
namespace Go.Proofs.YteemloillnfaeaaDoor
open Go.RowKit Go.Ino Go.Lib Go.Shelf

theorem trim_at (s : ByteArray) (hs : s.size ≤ 9223372036854775807) (w : World) :
    Calls Tryd.prog 34 #[.string s, .string ⟨#[97, 98, 99, 100, 101, 102, 103, 104, 105, 106, 107, 108, 109, 110, 111, 112, 113, 114, 115, 116, 117, 118, 119, 120, 121, 122, 48, 49, 50, 51, 52, 53, 54, 55, 56, 57, 46, 45, 95]⟩] w fun e w' => e = .returned (.string (B (trimS (L s) nameS))) ∧ Below w.heap.size w w' :=
  Any.strings_Trim_laid tren_160 (by kernel_rfl) s ⟨nameS.toArray⟩ w hs (by decide) (ascii_of_all (by decide))
set_option maxRecDepth 100000 in
set_option maxHeartbeats 1600000 in
theorem inode_Name (s : ByteArray) (hs : s.size ≤ 9223372036854775807) (w : World) :
    Calls Tryd.prog 19 #[.string s] w fun e w' => e = .returned (.bool (nameB (L s))) ∧ Below w.heap.size w w' := by
  rw [nameB_trim, length_L]
  by_cases h0 : L s = []
  · have h1 : s.toList.isEmpty = true := by rw [toList_L, h0]; rfl
    have h2 : s.toList = [] := by rw [toList_L, h0]
    have e : ((!(L s == [])) && (decide (s.size ≤ 24) && (trimS (L s) nameS == []))) = false := by rw [h0]; rfl
    rw [e]
    clear h0 e
    go_enter Tryd.func19, Tryd.ntmps19
    go_wp2
    go_ret
    exact ⟨rfl, Below.refl _ _⟩
  · have h1 : s.toList.isEmpty = false := by
      rw [toList_L]
      cases hL : L s with
      | nil => exact absurd hL h0
      | cons => rfl
    have e0 : (L s == []) = false := beq_eq_false_iff_ne.2 h0
    rw [e0]
    by_cases h24 : s.size ≤ 24
    · have k24 : (s.size : Int) ≤ 24 := by omega
      rw [decide_eq_true h24]
      have HT := Lib.hid (trim_at s hs w)
      clear h0 e0 h24
      generalize trimS (L s) nameS = t at HT ⊢
      obtain ⟨b, hb⟩ : ∃ b, (t == []) = b := ⟨_, rfl⟩
      have hb2 : (B t).toList.isEmpty = b := by rw [toList_B, ← hb]; cases t <;> rfl
      rw [hb]
      clear hb
      go_enter Tryd.func19, Tryd.ntmps19
      go_wp2_with (go_at_call 34; refine HT.out.mono ?_; rintro e w1 ⟨rfl, hb1⟩)
      go_ret
      exact ⟨by simp, hb1⟩
    · have k24 : ¬ (s.size : Int) ≤ 24 := by omega
      rw [decide_eq_false h24]
      clear h0 e0 h24
      go_enter Tryd.func19, Tryd.ntmps19
      go_wp2
      go_ret
      exact ⟨by simp, Below.refl _ _⟩
theorem charB_cases (c : UInt8) : charB c = (decide (97 ≤ (c.toNat : Int)) && decide ((c.toNat : Int) ≤ 122) || (decide (48 ≤ (c.toNat : Int)) && decide ((c.toNat : Int) ≤ 57) || ((c.toNat : Int) == 46 || ((c.toNat : Int) == 45 || (c.toNat : Int) == 95)))) := by
  unfold charB
  have e : ∀ k : Nat, ((c.toNat : Int) == (k : Int)) = (c.toNat == k) := fun k => by rw [Bool.eq_iff_iff, beq_iff_eq, beq_iff_eq]; omega
  have e1 := e 46; have e2 := e 45; have e3 := e 95
  have e4 : (decide (97 ≤ (c.toNat : Int)) && decide ((c.toNat : Int) ≤ 122)) = decide (97 ≤ c.toNat ∧ c.toNat ≤ 122) := by rw [Bool.eq_iff_iff, Bool.and_eq_true, decide_eq_true_eq, decide_eq_true_eq, decide_eq_true_eq]; omega
  have e5 : (decide (48 ≤ (c.toNat : Int)) && decide ((c.toNat : Int) ≤ 57)) = decide (48 ≤ c.toNat ∧ c.toNat ≤ 57) := by rw [Bool.eq_iff_iff, Bool.and_eq_true, decide_eq_true_eq, decide_eq_true_eq, decide_eq_true_eq]; omega
  rw [e4, e5, show ((46 : Int)) = ((46 : Nat) : Int) from rfl, show ((45 : Int)) = ((45 : Nat) : Int) from rfl, show ((95 : Int)) = ((95 : Nat) : Int) from rfl, e1, e2, e3]
set_option maxRecDepth 100000 in
set_option maxHeartbeats 3200000 in
theorem ref8_Name (s : ByteArray) (hs : s.size ≤ 9223372036854775807) (w : World) :
    Calls Tryd.prog 20 #[.string s] w fun e w' => e = .returned (.bool (nameB (L s))) ∧ w = w' := by
  have HN := Lib.hid (show nameB (L s) = (decide (1 ≤ s.size) && decide (s.size ≤ 24) && (L s).all charB) by unfold nameB; rw [length_L])
  go_enter Tryd.func20, Tryd.ntmps20
  go_wp2
  go_loop [3] (fun i => ∃ k : Nat, k ≤ s.size ∧ i = .int .i64 k ∧ ((L s).take k).all charB = true) (fun i => s.size - (RowKit.intOf i).toNat)
  case atStart => exact ⟨0, by omega, rfl, rfl⟩
  case round =>
    obtain ⟨k, hk, rfl, hal⟩ := hrel
    have Hal := Lib.hid hal
    clear hal
    by_cases hlt : k < s.size
    · have hkl : k < (L s).length := by rw [length_L]; exact hlt
      have hget : (L s)[k] = s[k]'hlt := (get_L s k hlt).symm
      have hall : Hid (((L s).take (k + 1)).all charB = charB (s[k]'hlt)) := Lib.hid (by
        rw [List.take_succ_eq_append_getElem hkl, List.all_append, Hal.out, hget]; simp)
      have Hbad : Hid (charB (s[k]'hlt) = false → nameB (L s) = false) := Lib.hid (fun h => by
        rw [HN.out]
        have : (L s).all charB = false := by
          rw [← Bool.not_eq_true, List.all_eq_true]
          intro h2
          have := h2 (L s)[k] (List.getElem_mem hkl)
          rw [hget, h] at this; cases this
        rw [this]; simp)
      have Hc := Lib.hid (charB_cases (s[k]'hlt))
      have h256 := (s[k]'hlt).toNat_lt
      have hki : (k : Int) < (s.size : Int) := by omega
      clear hget hkl
      obtain ⟨x, hx⟩ : ∃ x : Int, ((s[k]'hlt).toNat : Int) = x := ⟨_, rfl⟩
      rw [hx] at Hc
      obtain ⟨y, hy⟩ : ∃ y, charB (s[k]'hlt) = y := ⟨_, rfl⟩
      rw [hy] at Hc hall Hbad
      have Hy := Lib.hid hy
      clear hy
      have hcs : (x < 45 ∨ x = 45 ∨ x = 46 ∨ x = 47 ∨ (48 ≤ x ∧ x ≤ 57) ∨ (58 ≤ x ∧ x ≤ 94) ∨ x = 95 ∨ x = 96 ∨ (97 ≤ x ∧ x ≤ 122) ∨ 122 < x) := by omega
      rcases hcs with h | rfl | rfl | rfl | ⟨h, h'⟩ | ⟨h, h'⟩ | rfl | rfl | ⟨h, h'⟩ | h
      · have l1 : x < 97 := by omega
        have l2 : x < 48 := by omega
        have n46 : (x != 46) = true := by rw [bne_iff_ne]; omega
        have n45 : (x != 45) = true := by rw [bne_iff_ne]; omega
        have n95 : (x != 95) = true := by rw [bne_iff_ne]; omega
        have hf : Hid (nameB (L s) = false) := Lib.hid (Hbad.out (by rw [Hc.out]; first | rfl | (simp; omega)))
        go_wp2
        go_ret
        exact ⟨by rw [hf.out]; rfl, rfl⟩
      · skip
        have hg : Hid (((L s).take (k + 1)).all charB = true) := Lib.hid (by rw [hall.out, Hc.out]; first | rfl | (simp; omega))
        go_wp2
        go_round
        case rel => exact ⟨k + 1, by omega, by go_num, hg.out⟩
        case measure => simp [RowKit.intOf]; omega
      · skip
        have hg : Hid (((L s).take (k + 1)).all charB = true) := Lib.hid (by rw [hall.out, Hc.out]; first | rfl | (simp; omega))
        go_wp2
        go_round
        case rel => exact ⟨k + 1, by omega, by go_num, hg.out⟩
        case measure => simp [RowKit.intOf]; omega
      · skip
        have hf : Hid (nameB (L s) = false) := Lib.hid (Hbad.out (by rw [Hc.out]; first | rfl | (simp; omega)))
        go_wp2
        go_ret
        exact ⟨by rw [hf.out]; rfl, rfl⟩
      · have l1 : x < 97 := by omega
        have l2 : ¬ x < 48 := by omega
        have l3 : ¬ x > 57 := by omega
        have hg : Hid (((L s).take (k + 1)).all charB = true) := Lib.hid (by rw [hall.out, Hc.out]; first | rfl | (simp; omega))
        go_wp2
        go_round
        case rel => exact ⟨k + 1, by omega, by go_num, hg.out⟩
        case measure => simp [RowKit.intOf]; omega
      · have l1 : x < 97 := by omega
        have l2 : ¬ x < 48 := by omega
        have l3 : x > 57 := by omega
        have n46 : (x != 46) = true := by rw [bne_iff_ne]; omega
        have n45 : (x != 45) = true := by rw [bne_iff_ne]; omega
        have n95 : (x != 95) = true := by rw [bne_iff_ne]; omega
        have hf : Hid (nameB (L s) = false) := Lib.hid (Hbad.out (by rw [Hc.out]; first | rfl | (simp; omega)))
        go_wp2
        go_ret
        exact ⟨by rw [hf.out]; rfl, rfl⟩
      · skip
        have hg : Hid (((L s).take (k + 1)).all charB = true) := Lib.hid (by rw [hall.out, Hc.out]; first | rfl | (simp; omega))
        go_wp2
        go_round
        case rel => exact ⟨k + 1, by omega, by go_num, hg.out⟩
        case measure => simp [RowKit.intOf]; omega
      · skip
        have hf : Hid (nameB (L s) = false) := Lib.hid (Hbad.out (by rw [Hc.out]; first | rfl | (simp; omega)))
        go_wp2
        go_ret
        exact ⟨by rw [hf.out]; rfl, rfl⟩
      · have l1 : ¬ x < 97 := by omega
        have l2 : ¬ x > 122 := by omega
        have hg : Hid (((L s).take (k + 1)).all charB = true) := Lib.hid (by rw [hall.out, Hc.out]; first | rfl | (simp; omega))
        go_wp2
        go_round
        case rel => exact ⟨k + 1, by omega, by go_num, hg.out⟩
        case measure => simp [RowKit.intOf]; omega
      · have l1 : ¬ x < 97 := by omega
        have l2 : x > 122 := by omega
        have l3 : ¬ x < 48 := by omega
        have l4 : x > 57 := by omega
        have n46 : (x != 46) = true := by rw [bne_iff_ne]; omega
        have n45 : (x != 45) = true := by rw [bne_iff_ne]; omega
        have n95 : (x != 95) = true := by rw [bne_iff_ne]; omega
        have hf : Hid (nameB (L s) = false) := Lib.hid (Hbad.out (by rw [Hc.out]; first | rfl | (simp; omega)))
        go_wp2
        go_ret
        exact ⟨by rw [hf.out]; rfl, rfl⟩
    · obtain rfl : k = s.size := by omega
      have hf : Hid ((L s).all charB = true) := Lib.hid (by have := Hal.out; rwa [show s.size = (L s).length from (length_L s).symm, List.take_length] at this)
      by_cases h1 : 1 ≤ s.size
      · by_cases h24 : s.size ≤ 24
        · have k1 : (1 : Int) ≤ (s.size : Int) := by omega
          have k2 : (s.size : Int) ≤ 24 := by omega
          have hr : Hid (nameB (L s) = true) := Lib.hid (by rw [HN.out, hf.out, decide_eq_true h1, decide_eq_true h24]; rfl)
          go_wp2
          go_ret
          exact ⟨by rw [hr.out]; simp, rfl⟩
        · have k1 : (1 : Int) ≤ (s.size : Int) := by omega
          have k2 : ¬ (s.size : Int) ≤ 24 := by omega
          have hr : Hid (nameB (L s) = false) := Lib.hid (by rw [HN.out, decide_eq_false h24]; simp)
          go_wp2
          go_ret
          exact ⟨by rw [hr.out]; simp, rfl⟩
      · have k1 : ¬ (1 : Int) ≤ (s.size : Int) := by omega
        have hr : Hid (nameB (L s) = false) := Lib.hid (by rw [HN.out, decide_eq_false h1]; simp)
        go_wp2
        go_ret
        exact ⟨by rw [hr.out]; simp, rfl⟩
end Go.Proofs.YteemloillnfaeaaDoor
