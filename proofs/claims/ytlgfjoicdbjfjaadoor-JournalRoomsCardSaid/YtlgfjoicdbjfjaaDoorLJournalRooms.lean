/- The law JournalRooms returns true for every acts. Condition: numbers and lengths fit an int. -/
import Derived.Test.YtlgfjoicdbjfjaaDoorJrnV
import Derived.Test.YtlgfjoicdbjfjaaDoorJrnU
namespace Go.Proofs.YtlgfjoicdbjfjaaDoor
open Go.RowKit Go.Wir Go.Blk Go.Frm Go.Jrn

set_option maxRecDepth 100000 in
set_option maxHeartbeats 6400000 in
theorem core_JournalRooms (v : Value) (l : List Act4) (w : World) (h : Acts4 w v l) (hl : l.length ≤ 9223372036854775807) (hf : ∀ a ∈ l, Fit4 a) :
    Calls Tryd.prog 3 #[v] w fun e w' => e = .returned (.bool true) ∧ Below w.heap.size w w' := by
  have Hsh := Lib.hid (law_shown4 w)
  have H := Lib.hid h
  have Hf := Lib.hid hf
  obtain ⟨oa, c, rfl⟩ := h.form
  clear h hf
  have Hsm := Lib.hid (fun w' (b : Below w.heap.size w w') => law_small4 _ l w' (H.out.below b) hl Hf.out)
  cases hsm : smallB4 l with
  | false =>
    rw [hsm] at Hsm
    clear hsm
    go_enter Tryd.func3, Tryd.ntmps3
    go_wp2_with fail
    refine Hsh.out.mono ?_
    rintro e w1 ⟨rfl, hb⟩
    have HB := Lib.hid hb
    clear hb
    go_wp2_with fail
    refine (Hsm.out _ HB.out).mono ?_
    rintro e w2 ⟨rfl, rfl⟩
    go_wp2
    go_ret
    exact ⟨rfl, HB.out⟩
  | true =>
    obtain ⟨hl30, hok⟩ := small_ok4 hsm Hf.out
    rw [hsm] at Hsm
    have Hok := Lib.hid hok
    clear hsm hok
    go_enter Tryd.func3, Tryd.ntmps3
    go_wp2_with fail
    refine Hsh.out.mono ?_
    rintro e w1 ⟨rfl, hb⟩
    have HB := Lib.hid hb
    have HBg := Lib.hid (law_begin w w1 hb)
    clear hb
    go_wp2_with fail
    refine (Hsm.out _ HB.out).mono ?_
    rintro e w2 ⟨rfl, rfl⟩
    go_wp2_with fail
    refine HBg.out.mono ?_
    rintro e w3 ⟨g, od, d0, jb, j0, wb, rfl, lw3, hrd, hfu, hpd⟩
    have L3 := Lib.hid lw3
    have W3 := Lib.hid (⟨⟨[], hrd⟩, hfu⟩ : Works 2 (fun _ => zeros) d0 j0)
    clear lw3 hrd hfu hpd HBg Hsm HB
    go_wp2
    go_loopw [7] (fun i wr => ∃ k : Nat, k ≤ l.length ∧ i = .int .i64 k ∧ ∃ d j m, Works (2 + 2 * k) m d j ∧ LiveW w wr g od d jb j wb noneR) (fun i _ => l.length - (intOf i).toNat)
    case atStart => exact ⟨0, by omega, rfl, d0, j0, _, W3.out, L3.out⟩
    case round =>
      obtain ⟨k, hk, rfl, d, j, m, hW, hL⟩ := hrel
      obtain ⟨hdo, hjf, hpe, hdl, _⟩ := hW.facts
      have W4 := Lib.hid hW
      have L4 := Lib.hid hL
      have Do := Lib.hid hdo
      have Jf := Lib.hid hjf
      obtain ⟨c0, c1, _⟩ := hL.cells
      have hnx := hjf.next
      have hus := hjf.used
      clear hW hdo hjf
      by_cases hlt : k < l.length
      · obtain ⟨b, off, cap, hv, hb, hcell⟩ := H.out.row (by omega)
        simp only [Value.slice.injEq] at hv
        obtain ⟨rfl, _, rfl⟩ := hv
        obtain ⟨vk, vb, e0, e1, e2, e3, e4, e5, hr, hr2⟩ := ActAt4.below (hcell k hlt) hL.jr.size
        have ha := Hok.out l[k] (List.getElem_mem hlt)
        have HWr := Lib.hid (fun (w' : World) (b : Below wr.heap.size wr w') => law_writes l[k] ha vk vb w' (hr2.below b))
        have Hcm := Lib.hid (fun (w' : World) (b : Below wr.heap.size wr w') (v : Value) (hv : w'.ownsRow wr.heap.size 47 2 v (writesJ l[k]).length (wrI (writesJ l[k]))) => w_commitV hL b Do.out Jf.out (by omega) (by omega) (writesJ l[k]) v hv (writesJ_fitW ha) (by have := writesJ_length l[k]; omega))
        have Hst := Lib.hid (W4.out.commit (l := writesJ l[k]) (by omega))
        have HSq := Lib.hid (jr_Seq hL.jr)
        have HUs := Lib.hid (jr_Used hL.jr)
        have hwl := writesJ_length l[k]
        have hk1 : (k : Int) < (l.length : Int) := by omega
        have Hcd := Lib.hid (commit_codes d j (writesJ l[k]) W4.out (by omega))
        clear hcell hr hr2 ha hL
        generalize l[k] = a at *
        generalize writesJ a = x at *
        go_wp2_with (first
          | (go_at_call 11; refine HSq.out.mono ?_; rintro e wq ⟨rfl, rfl⟩)
          | (go_at_call 12; refine HUs.out.mono ?_; rintro e wq ⟨rfl, rfl⟩)
          | fail)
        refine (HWr.out _ (Below.refl _ _)).mono ?_
        rintro e w5 ⟨vx, rfl, hb5, hown5⟩
        have HC := Lib.hid (Hcm.out w5 hb5 vx hown5)
        obtain ⟨ax, cx, rfl⟩ := own_form hown5
        obtain ⟨f0, f1, _⟩ := (L4.out.call hb5).1.cells
        clear hb5 hown5
        go_wp2_with fail
        refine HC.out.mono ?_
        rintro e w6 ⟨rfl, l6, _, _, _⟩
        rcases Hst.out with ⟨q1, q2, q3, _⟩ | ⟨_, q1, q2, q3, q4⟩
        · rw [q2, q3] at l6
          obtain ⟨i0, i1, _⟩ := l6.cells
          generalize (commit d j x).1 = ec at *
          have hne : ((ec : Int) != 0) = true := by simp; omega
          have L6 := Lib.hid l6
          have HSq6 := Lib.hid (jr_Seq l6.jr)
          have HUs6 := Lib.hid (jr_Used l6.jr)
          have e1 : ((j.next : Int) != (j.next : Int)) = false := by simp
          have e2 : ((j.used : Int) != (j.used : Int)) = false := by simp
          clear l6 q1 q2 q3
          go_wp2_with (first
            | (go_at_call 11; refine HSq6.out.mono ?_; rintro e wq ⟨rfl, rfl⟩)
            | (go_at_call 12; refine HUs6.out.mono ?_; rintro e wq ⟨rfl, rfl⟩)
            | fail)
          go_roundw
          case rel => exact ⟨k + 1, by omega, by go_num, d, j, m, W4.out.mono (by omega), L6.out⟩
          case measure => simp [intOf]; omega
        · rw [q1]
          generalize (commit d j x).2.1 = d' at *
          generalize (commit d j x).2.2 = j' at *
          have L6 := Lib.hid l6
          have W6 := Lib.hid q2
          obtain ⟨i0, i1, _⟩ := l6.cells
          have HSq6 := Lib.hid (jr_Seq l6.jr)
          have HUs6 := Lib.hid (jr_Used l6.jr)
          have hus6 := q2.facts.2.1.used
          rw [q3] at HSq6
          have HQ := Lib.hid q4
          generalize hu : j'.used = u' at *
          have hx1 : 0 ≤ x.length := Nat.zero_le _
          clear l6 q1 q2 q3 q4 hu
          have e1 : (((j.next + 1 : Nat) : Int) != (j.next : Int) + 1) = false := by simp
          have e2 : ¬ (50 : Int) < (u' : Int) := by omega
          rcases HQ.out with hq | hq
          · have e3 : ((u' : Int) != (j.used : Int) + (1 + (x.length : Int))) = false := by simp; omega
            clear hq
            go_wp2_with (first
              | (go_at_call 11; refine HSq6.out.mono ?_; rintro e wq ⟨rfl, rfl⟩)
              | (go_at_call 12; refine HUs6.out.mono ?_; rintro e wq ⟨rfl, rfl⟩)
              | fail)
            go_roundw
            case rel => exact ⟨k + 1, by omega, by go_num, d', j', _, W6.out.mono (by omega), L6.out⟩
            case measure => simp [intOf]; omega
          · have e3 : ((u' : Int) != 1 + (x.length : Int)) = false := by simp; omega
            clear hq
            go_wp2_with (first
              | (go_at_call 11; refine HSq6.out.mono ?_; rintro e wq ⟨rfl, rfl⟩)
              | (go_at_call 12; refine HUs6.out.mono ?_; rintro e wq ⟨rfl, rfl⟩)
              | fail)
            all_goals
              go_roundw
              case rel => exact ⟨k + 1, by omega, by go_num, d', j', _, W6.out.mono (by omega), L6.out⟩
              case measure => simp [intOf]; omega
      · obtain rfl : k = l.length := by omega
        have HCk := Lib.hid (jr_Checkpoint hL.jr Do.out Jf.out (by omega) (by omega))
        obtain ⟨hc1, hc2⟩ := W4.out.ckpt (by omega)
        rw [hc1] at HCk
        have Hc2 := Lib.hid hc2
        clear hL hc1 hc2
        go_wp2_with fail
        refine HCk.out.mono ?_
        rintro e w6 ⟨rfl, l6, k6⟩
        obtain ⟨l7, _⟩ := L4.out.step l6 k6
        obtain ⟨i0, i1, _⟩ := l7.cells
        have HUs6 := Lib.hid (jr_Used l7.jr)
        rw [Hc2.out] at HUs6
        have Hsz := Lib.hid (LiveC.size l7.jr)
        clear l6 k6 l7
        go_wp2_with (first
          | (go_at_call 12; refine HUs6.out.mono ?_; rintro e wq ⟨rfl, rfl⟩)
          | fail)
        go_ret
        exact ⟨rfl, Hsz.out⟩
theorem walk_JournalRooms (v : Value) (l : List Act4) (w : World) (h : Acts4 w v l) (hf : ∀ a ∈ l, Fit4 a) (hl : l.length ≤ maxLen) :
    Calls Tryd.prog 3 #[v] w fun e w' => e = .returned (.bool true) ∧ Below w.heap.size w w' :=
  core_JournalRooms v l w h (by unfold maxLen at hl; omega) hf
end Go.Proofs.YtlgfjoicdbjfjaaDoor
