/- The law BlockFlushes returns true for every number and acts. Condition: numbers and lengths fit an int. -/
import Derived.Test.YtbcagddgchpheaaBlkT
namespace Go.Proofs.Ytbcagddgchpheaa
open Go.RowKit Go.Blk

set_option maxRecDepth 100000 in
set_option maxHeartbeats 1600000 in
theorem core_BlockFlushes (n : Int) (v : Value) (l : List Act) (w : World) (hn1 : -9223372036854775808 ≤ n) (hn2 : n ≤ 9223372036854775807) (h : Acts w v l) (hl : l.length ≤ 9223372036854775807) (hf : ∀ a ∈ l, Fit a) :
    Calls Try.prog 6 #[.int .i64 n, v] w fun e w' => e = .returned (.bool true) ∧ Below w.heap.size w w' := by
  have Hsh := Lib.hid (law_shown w)
  have H := Lib.hid h
  have Hf := Lib.hid hf
  obtain ⟨oa, c, rfl⟩ := h.form
  clear h hf
  have Hsm := Lib.hid (fun w' (b : Below w.heap.size w w') => law_small _ l w' (H.out.below b) hl Hf.out)
  cases hsm : smallB l with
  | false =>
    rw [hsm] at Hsm
    have Hs := Lib.hid hsm
    clear hsm
    go_enter Try.func6, Try.ntmps6
    go_wp2_with fail
    refine Hsh.out.mono ?_
    rintro e w1 ⟨rfl, hb⟩
    have HB := Lib.hid hb
    clear hb
    go_wp2_with fail
    refine (Hsm.out _ HB.out).mono ?_
    rintro e w2 ⟨rfl, rfl⟩
    go_wp2
    go_ret
    exact ⟨rfl, HB.out⟩
  | true =>
    obtain ⟨hl60, hok⟩ := small_ok hsm Hf.out
    rw [hsm] at Hsm
    have Hok := Lib.hid hok
    clear hsm hok
    go_enter Try.func6, Try.ntmps6
    go_wp2_with fail
    refine Hsh.out.mono ?_
    rintro e w1 ⟨rfl, hb⟩
    have HB := Lib.hid hb
    clear hb
    go_wp2_with fail
    refine (Hsm.out _ HB.out).mono ?_
    rintro e w2 ⟨rfl, rfl⟩
    have Hmk := Lib.hid (live_made (w0 := w) n _ l HB.out hn1 hn2 (H.out.below HB.out) hl60 Hok.out)
    go_wp2_with fail
    refine Hmk.out.mono ?_
    rintro e w3 ⟨g, od, rfl, hV⟩
    obtain ⟨hD, hP⟩ := made_facts n l hl60 Hok.out
    generalize doesAll (newD (1 + pickN n 12)) l = D at *
    have HV := Lib.hid hV
    have HD := Lib.hid hD
    clear hV hD
    go_wp2_with fail
    refine (live_Flush HV.out HD.out (by omega)).mono ?_
    rintro e w4 ⟨rfl, hV, _⟩
    have HV := Lib.hid hV
    clear hV
    have HF := Lib.hid (flush_ok HD.out)
    by_cases h0 : flushE D = 0
    · have hg := flush_good h0
      generalize flushD D = F at *
      rw [h0]
      have HG := Lib.hid hg
      clear hg h0
      have hlen : F.disk.length ≤ 4096 := HF.out.n1
      go_wp2_with fail
      refine (live_Disk HV.out (by omega)).mono ?_
      rintro e w5 ⟨vd, rfl, hd, hV, _⟩
      have HV5 := Lib.hid hV
      obtain ⟨bd, cd, curd, hvd, _⟩ := own_txt hd HF.out.n0
      subst hvd
      have Hd5 := Lib.hid hd
      clear hV hd
      go_wp2_with fail
      refine (live_Pending HV5.out (by rw [HG.out.2]; simp)).mono ?_
      rintro e w6 ⟨vp, rfl, hp, hV, hk⟩
      have HV6 := Lib.hid (hV.less (R' := fun k => noneR k ∨ (Value.slice (some ⟨bd, 0, none⟩) F.disk.length cd).ownBlock = some k) (fun k h => .inl h))
      have Hd6 := Lib.hid (own_keeps Hd5.out (fun k h => .inr h) hk)
      rw [HG.out.2] at hp
      obtain ⟨ap, cp, rfl⟩ : ∃ a c, vp = .slice a 0 c := by
        rcases hp.2 with ⟨rfl, _⟩ | ⟨g', cap', cur', rfl, _⟩
        · exact ⟨_, _, rfl⟩
        · exact ⟨_, _, rfl⟩
      clear hV hk hp
      have hne : ((F.disk.length : Int) != (F.disk.length : Int)) = false := by simp
      go_wp2_with (go_at_call 21; refine (live_Blocks HV6.out).mono ?_; rintro e w7 ⟨rfl, rfl⟩)
      clear hne
      go_loopw [10] (fun x wr => ∃ k : Nat, k ≤ F.disk.length ∧ x = .int .i64 k ∧ Live w wr g od F (fun k => noneR k ∨ (Value.slice (some ⟨bd, 0, none⟩) F.disk.length cd).ownBlock = some k) ∧ wr.ownsRow w4.heap.size 9 1 (.slice (some ⟨bd, 0, none⟩) F.disk.length cd) F.disk.length (txtCells F.disk)) (fun x _ => F.disk.length - (intOf x).toNat)
      case atStart => exact ⟨0, by omega, rfl, HV6.out, Hd6.out⟩
      case round =>
        obtain ⟨k, hk, rfl, hV, hd⟩ := hrel
        have HV := Lib.hid hV
        have Hd := Lib.hid hd
        by_cases hlt : k < F.disk.length
        · have Hr := Lib.hid (live_Read hV HF.out (by rw [HG.out.2]; simp) (k : Int) (by omega) (by omega))
          rw [(read_clean HG.out.1 HG.out.2 k hlt).1, (read_clean HG.out.1 HG.out.2 k hlt).2] at Hr
          have h256 := disk256 HF.out k hlt
          have hxz := size_B F.disk[k]
          rw [h256] at hxz
          have hk1 : (k : Int) < (F.disk.length : Int) := by omega
          have Hcell : Hid (∀ wx : World, wx.ownsRow w4.heap.size 9 1 (.slice (some ⟨bd, 0, none⟩) F.disk.length cd) F.disk.length (txtCells F.disk) → wx.cell? ⟨bd, k, none⟩ = some (.string (B F.disk[k]))) := Lib.hid (fun wx h => by
            obtain ⟨g', cap', cur', e, _, _, _, _, hc, _⟩ := own_txt h HF.out.n0
            simp only [Value.slice.injEq, Option.some.injEq, Addr.mk.injEq, and_true, true_and] at e
            rw [e.1]
            exact hc k hlt)
          clear hV hd h256
          generalize F.disk[k] = x at *
          go_wp2_with fail
          refine Hr.out.mono ?_
          rintro e w8 ⟨rfl, hV8, hk8⟩
          have HV8 := Lib.hid hV8
          have hd8 := own_keeps Hd.out (fun q h => .inr h) hk8
          have Hd8 := Lib.hid hd8
          have c0 := Hcell.out _ hd8
          clear hV8 hk8 hd8
          go_wp2
          go_roundw
          case rel => exact ⟨k + 1, by omega, by go_num, HV8.out, Hd8.out⟩
          case measure => simp [intOf]; omega
        · obtain rfl : k = F.disk.length := by omega
          have Hsz := Lib.hid hV.size
          clear hV hd
          go_wp2
          go_ret
          exact ⟨rfl, Hsz.out⟩
    · have hg := flush_bad h0
      generalize flushD D = F at *
      rw [hg.1]
      have HG := Lib.hid hg.2
      clear hg h0
      go_wp2_with fail
      refine (live_Dead HV.out).mono ?_
      rintro e w5 ⟨rfl, rfl⟩
      rw [HG.out]
      go_wp2
      go_ret
      exact ⟨rfl, HV.out.size⟩
theorem walk_BlockFlushes (n : Int) (v : Value) (l : List Act) (w : World) (hn : (Lit.int .i64 n).wf = true) (h : Acts w v l) (hf : ∀ a ∈ l, Fit a) (hl : l.length ≤ maxLen) :
    Calls Try.prog 6 #[.int .i64 n, v] w fun e w' => e = .returned (.bool true) ∧ Below w.heap.size w w' := by
  unfold maxLen at hl
  exact core_BlockFlushes n v l w (bounds_i64 hn).1 (bounds_i64 hn).2 h (by omega) hf
end Go.Proofs.Ytbcagddgchpheaa
