/- Chapter 11: the words that are left out: token.Stop, codexref11.Stop. No conditions. -/
import Derived.Test.YtpibflpmhhgbkaaDoorTokWords

namespace Go.Proofs.YtpibflpmhhgbkaaDoor
open Go.RowKit Go.Utf Go.Lib
attribute [local go_sem] Oper.semAt_some

theorem stop_bools (s : ByteArray) : stopB (L s) = ((s.toList == [97]) || (s.toList == [97, 110]) || (s.toList == [97, 110, 100]) || (s.toList == [97, 114, 101]) || (s.toList == [97, 115]) || (s.toList == [97, 116]) || (s.toList == [98, 101]) || (s.toList == [98, 121]) || (s.toList == [102, 111, 114]) || (s.toList == [105, 110]) || (s.toList == [105, 115]) || (s.toList == [105, 116]) || (s.toList == [111, 102]) || (s.toList == [111, 110]) || (s.toList == [111, 114]) || (s.toList == [116, 104, 101]) || (s.toList == [116, 111]) || (s.toList == [119, 105, 116, 104])) := by
  rw [toList_L]
  unfold stopB stopT
  simp only [List.contains_cons, List.contains_nil, Bool.or_false, Bool.or_assoc]
set_option maxRecDepth 100000 in
set_option maxHeartbeats 3200000 in
theorem token_Stop (s : ByteArray) (w : World) : Calls Tryd.prog 15 #[.string s] w fun e w' => e = .returned (.bool (stopB (L s))) ∧ w' = w := by
  rw [stop_bools]
  go_enter Tryd.func15, Tryd.ntmps15
  go_wp2
  all_goals first
    | (exfalso; simp_all; done)
    | (go_ret; exact ⟨by simp [*], rfl⟩)
set_option maxRecDepth 100000 in
set_option maxHeartbeats 3200000 in
theorem ref11_Stop (s : ByteArray) (w : World) : Calls Tryd.prog 16 #[.string s] w fun e w' => e = .returned (.bool (stopB (L s))) ∧ Below w.heap.size w w' := by
  go_enter Tryd.func16, Tryd.ntmps16
  go_wp2
  have hrow : ∀ k (h : k < 18), (w.alloc (.cells (stopT.map fun t => Value.string (B t)).toArray 9)).cell? ⟨w.heap.size, k, none⟩ = some (.string (B (stopT[k]'h))) := by
    intro k h
    have hb : (w.alloc (.cells (stopT.map fun t => Value.string (B t)).toArray 9)).heap[w.heap.size]? = some (.cells (stopT.map fun t => Value.string (B t)).toArray 9 (0, 0)) := heap_alloc_new w _
    have hk : k < stopT.length := h
    simp only [World.cell?, hb]
    simp [hk]
    rfl
  have hg : (w.alloc (.cells (stopT.map fun t => Value.string (B t)).toArray 9)) = (w.alloc (.cells (stopT.map fun t => Value.string (B t)).toArray 9)) := rfl
  have hbel : Below w.heap.size w (w.alloc (.cells (stopT.map fun t => Value.string (B t)).toArray 9)) := step_new (Below.refl _ _) _
  change Code.wp _ _ _ _ (w.alloc (.cells (stopT.map fun t => Value.string (B t)).toArray 9))
  generalize w.alloc (.cells (stopT.map fun t => Value.string (B t)).toArray 9) = w1 at hrow hbel ⊢
  have Hrow := Lib.hid hrow
  have Hbel := Lib.hid hbel
  clear hrow hbel hg
  go_loopw [4] (fun i wr => ∃ k : Nat, k ≤ 18 ∧ i = .int .i64 k ∧ (stopT.take k).contains (L s) = false ∧ wr = w1) (fun i _ => 18 - (intOf i).toNat)
  case atStart => exact ⟨0, by omega, rfl, rfl, rfl⟩
  case round =>
    obtain ⟨k, hk, rfl, ht, rfl⟩ := hrel
    have Ht := Lib.hid ht
    clear ht
    by_cases h1 : k < 18
    · have hc := Hrow.out k h1
      have hn : (stopT.take (k + 1)).contains (L s) = ((stopT.take k).contains (L s) || (L s == stopT[k]'h1)) := by
        rw [List.take_succ_eq_append_getElem h1, Bool.eq_iff_iff]; simp
      rw [Ht.out, Bool.false_or] at hn
      generalize stopT[k]'h1 = t at hc hn
      obtain ⟨b, hb⟩ : ∃ b, (L s == t) = b := ⟨_, rfl⟩
      rw [hb] at hn
      have e1 : ((B t).toList == s.toList) = b := by rw [toList_B, toList_L, ← hb]; exact Bool.beq_comm
      have Hn := Lib.hid hn
      clear hn hb
      cases b
      · go_wp2
        go_roundw
        case rel => exact ⟨k + 1, by omega, by go_num, Hn.out, trivial⟩
        case measure => simp [intOf]; omega
      · have Hst := Lib.hid (show stopB (L s) = true by
          have h := Hn.out
          rw [List.contains_iff_mem] at h
          exact List.contains_iff_mem.2 (List.mem_of_mem_take h))
        go_wp2
        go_ret
        exact ⟨by rw [Hst.out]; rfl, Hbel.out⟩
    · have hk' : k = 18 := by omega
      subst hk'
      go_wp2
      go_ret
      refine ⟨?_, Hbel.out⟩
      have : stopB (L s) = false := Ht.out
      rw [this]; rfl
end Go.Proofs.YtpibflpmhhgbkaaDoor
