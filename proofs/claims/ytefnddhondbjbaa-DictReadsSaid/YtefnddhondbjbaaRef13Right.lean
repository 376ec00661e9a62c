/- The reference's Right: whether a list is right, as the plain function has it. Conditions: lengths fit an int. -/
import Derived.Test.YtefnddhondbjbaaDictRight
namespace Go.Proofs.Ytefnddhondbjbaa
open Go.RowKit Go.Wir Go.Dic

set_option maxRecDepth 100000 in
set_option maxHeartbeats 800000 in
theorem ref13_Right_row (es : List Ent) (b off cap : Nat) (hn : es.length ≤ 9223372036854775807) (hz : ∀ e ∈ es, e.1.length ≤ 9223372036854775807 ∧ e.2.length ≤ 9223372036854775807) (w : World) (hb : b < w.heap.size)
    (hcell : ∀ i (h : i < es.length), w.cell? ⟨b, off + i * 2, none⟩ = some (.string (B es[i].1)) ∧ w.cell? ⟨b, off + i * 2 + 1, none⟩ = some (.string (B es[i].2))) :
    Calls Try.prog 14 #[.slice (some ⟨b, off, none⟩) es.length cap] w fun e w' => e = .returned (.bool (right es)) ∧ Below w.heap.size w w' := by
  have Hcell := Lib.hid hcell
  have Hz := Lib.hid hz
  clear hcell hz
  go_enter Try.func14, Try.ntmps14
  go_wp2
  go_loopw [3] (fun i wr => ∃ (k : Nat) (p : List UInt8), k ≤ es.length ∧ i = .int .i64 k ∧ rises [] es = rises p (es.drop k) ∧ (k = 0 → p = []) ∧ (∀ j, k = j + 1 → ∃ h : j < es.length, p = es[j].1 ∧ p ≠ []) ∧ Below w.heap.size w wr) (fun i _ => es.length - (intOf i).toNat)
  case atStart => exact ⟨0, [], by omega, rfl, rfl, fun _ => rfl, fun j h => by omega, Below.refl _ _⟩
  case round =>
    obtain ⟨k, p, hk, rfl, hr, hp0, hp1, hbel⟩ := hrel
    have Hr := Lib.hid hr
    have Hp0 := Lib.hid hp0
    have Hp1 := Lib.hid hp1
    clear hr hp0 hp1
    by_cases hlt : k < es.length
    · obtain ⟨c1, c2⟩ := Hcell.out k hlt
      have c1 := cell_below hbel hb c1
      have c2 := cell_below hbel hb c2
      have Hd : Hid (es.drop k = es[k] :: es.drop (k + 1)) := Lib.hid (List.drop_eq_getElem_cons hlt)
      have hze := Hz.out es[k] (List.getElem_mem hlt)
      have He : Hid (∀ (t v : List UInt8), es[k] = (t, v) → ∃ h : k < es.length, t = es[k].1) := Lib.hid (fun t v h => ⟨hlt, by rw [h]⟩)
      generalize heq : es[k] = e at *
      have Heq := Lib.hid heq
      clear heq
      obtain ⟨t, v⟩ := e
      simp only at c1 c2 hze
      have hst := size_B t
      have hsv := size_B v
      obtain ⟨hz1, hz2⟩ := hze
      have Hbel := Lib.hid hbel
      have k1 : (k : Int) < es.length := by omega
      by_cases h0 : t.length < 1
      · have hf : Hid (right es = false) := Lib.hid (by
          unfold right; rw [Hr.out, Hd.out]
          have ht : t = [] := List.length_eq_zero_iff.1 (by omega)
          subst ht
          have : leB [] p = true := by rw [leB_not]; cases p <;> simp [Op.bytesLess]
          simp [rises, this])
        have g1 : decide ((t.length : Int) < 1) = true := by simp; omega
        go_wp2
        go_quiet (fail)
        go_wp2
        go_ret
        exact ⟨by rw [hf.out]; rfl, below_drewN hbel _⟩
      have g1 : decide ((t.length : Int) < 1) = false := by simp; omega
      by_cases h40 : 40 < t.length
      · have hf : Hid (right es = false) := Lib.hid (by unfold right; rw [Hr.out, Hd.out]; simp [rises, h40])
        have g2 : decide (40 < (t.length : Int)) = true := by simp; omega
        go_wp2
        go_quiet (fail)
        go_wp2
        go_ret
        exact ⟨by rw [hf.out]; rfl, below_drewN hbel _⟩
      have g2 : decide (40 < (t.length : Int)) = false := by simp; omega
      by_cases h4 : 4194304 < v.length
      · have hf : Hid (right es = false) := Lib.hid (by unfold right; rw [Hr.out, Hd.out]; simp [rises, h4])
        have g3 : decide (4194304 < (v.length : Int)) = true := by simp; omega
        go_wp2
        go_quiet (fail)
        go_wp2
        go_ret
        exact ⟨by rw [hf.out]; rfl, below_drewN hbel _⟩
      have g3 : decide (4194304 < (v.length : Int)) = false := by simp; omega
      have Hne : Hid (t ≠ []) := Lib.hid (fun e => h0 (by rw [e]; simp))
      have Hnx : Hid (∀ j, k + 1 = j + 1 → ∃ h : j < es.length, t = es[j].1 ∧ t ≠ []) := Lib.hid (fun j hj => by
        obtain rfl : j = k := by omega
        exact ⟨hlt, by rw [Heq.out], Hne.out⟩)
      by_cases hk0 : k = 0
      · have hnx : Hid (right es = (rises t (es.drop 1) && decide (es.length ≤ 1048576))) := Lib.hid (by
          unfold right; rw [Hr.out, Hd.out, Hp0.out hk0]
          have : leB t [] = false := by rw [Bool.eq_false_iff]; intro h; exact Hne.out ((leB_nil t).1 h)
          simp [rises, this, h40, h4, hk0])
        have hris : Hid (rises [] es = rises t (es.drop (k + 1))) := Lib.hid (by
          rw [Hr.out, Hd.out, Hp0.out hk0]
          have : leB t [] = false := by rw [Bool.eq_false_iff]; intro h; exact Hne.out ((leB_nil t).1 h)
          simp [rises, this, h40, h4])
        have g4 : decide ((0 : Int) < (k : Int)) = false := by simp; omega
        have g5 : decide (0 < k) = false := by simp; omega
        clear hk0
        go_wp2
        go_quiet (fail)
        go_wp2
        go_roundw
        case rel => exact ⟨k + 1, t, by omega, by go_num, hris.out, fun h => by omega, Hnx.out, below_drewN Hbel.out _⟩
        case measure => simp [intOf]; omega
      · obtain ⟨j, rfl⟩ : ∃ j, k = j + 1 := ⟨k - 1, by omega⟩
        obtain ⟨hj, hpj, hpn⟩ := Hp1.out j rfl
        obtain ⟨d1, _⟩ := Hcell.out j hj
        have d1 := cell_below hbel hb d1
        rw [← hpj] at d1
        have Hpj := Lib.hid hpj
        clear hpj hk0
        have g4 : decide ((0 : Int) < (j : Int) + 1) = true := decide_eq_true (by omega)
        have q1 : IntKind.i64.wrap ((j : Int) + 1 - 1) = (j : Int) := by rw [show (j : Int) + 1 - 1 = (j : Int) by omega]; exact IntWalk.i64_in _ (by omega)
        have q2 : (j : Int) < es.length := by omega
        by_cases hle : leB t p = true
        · have hf : Hid (right es = false) := Lib.hid (by unfold right; rw [Hr.out, Hd.out]; simp [rises, hle])
          have hl : Op.bytesLess (B p).toList (B t).toList = false := by rw [toList_B, toList_B]; rw [leB_not] at hle; simpa using hle
          clear hle
          go_wp2
          go_quiet (fail)
          go_wp2
          go_ret
          exact ⟨by rw [hf.out]; rfl, below_drewN hbel _⟩
        · have hris : Hid (rises [] es = rises t (es.drop (j + 1 + 1))) := Lib.hid (by rw [Hr.out, Hd.out]; simp [rises, hle, h40, h4])
          have hl : Op.bytesLess (B p).toList (B t).toList = true := by rw [toList_B, toList_B]; rw [leB_not] at hle; simpa using hle
          clear hle
          go_wp2
          go_quiet (fail)
          go_wp2
          go_roundw
          case rel => exact ⟨j + 1 + 1, t, by omega, by go_num, hris.out, fun h => by omega, Hnx.out, below_drewN Hbel.out _⟩
          case measure => simp [intOf]; omega
    · obtain rfl : k = es.length := by omega
      have ht : Hid (right es = decide (es.length ≤ 1048576)) := Lib.hid (by unfold right; rw [Hr.out, List.drop_length]; simp [rises])
      go_wp2
      go_ret
      exact ⟨by rw [ht.out]; simp; omega, hbel⟩

theorem ref13_Right_nil (a : Option Addr) (cap : Nat) (w : World) :
    Calls Try.prog 14 #[.slice a 0 cap] w fun e w' => e = .returned (.bool true) ∧ Below w.heap.size w w' := by
  go_enter Try.func14, Try.ntmps14
  go_wp2
  go_loop [3] (fun i => i = .int .i64 0) (fun _ => 0)
  case atStart => rfl
  case round =>
    subst hrel
    go_wp2
    go_ret
    exact ⟨rfl, Below.refl _ _⟩
theorem ref13_Right (v : Value) (es : List Ent) (w : World) (h : Ents w v es) (hn : es.length ≤ 9223372036854775807) (hz : ∀ e ∈ es, e.1.length ≤ 9223372036854775807 ∧ e.2.length ≤ 9223372036854775807) :
    Calls Try.prog 14 #[v] w fun e w' => e = .returned (.bool (right es)) ∧ Below w.heap.size w w' := by
  rcases h with ⟨a, cap, rfl, rfl⟩ | ⟨b, off, cap, rfl, _, hb, hc⟩
  · exact ref13_Right_nil a cap w
  · exact ref13_Right_row es b off cap hn hz w hb hc
end Go.Proofs.Ytefnddhondbjbaa
