/- The law BlockFuses returns true for every numbers and acts. Condition: numbers and lengths fit an int. -/
import Derived.Test.YtbcagddgchpheaaBlkT
namespace Go.Proofs.Ytbcagddgchpheaa
open Go.RowKit Go.Blk

/-- So many turns are left; the power is gone only where none is. -/
def FInv (d : Dv) (m most : Nat) : Prop := d.fuse = (most : Int) - (m : Int) ∧ m ≤ most ∧ (d.dead = true → m = most)
def countM (d : Dv) (a : Act) (m : Nat) : Nat := if doesE d a = 0 ∧ pickN a.op 8 ≠ 4 then m + 1 else m
theorem turn_inv {d : Dv} {m most : Nat} (h : FInv d m most) (h0 : d.fuse ≠ 0) : FInv (turnD d) (m + 1) most := by
  obtain ⟨h1, h2, h3⟩ := h
  unfold turnD
  rw [if_neg h0]
  refine ⟨?_, by omega, fun hd => ?_⟩
  · show (if 0 < d.fuse then d.fuse - 1 else d.fuse) = _
    rw [if_pos (by omega)]; omega
  · have := h3 hd; omega
theorem turn_dead {d : Dv} {m most : Nat} (h : FInv d m most) (h0 : d.fuse = 0) : FInv (turnD d) m most ∧ m = most := by
  obtain ⟨h1, h2, h3⟩ := h
  unfold turnD
  rw [if_pos h0]
  exact ⟨⟨h1, h2, fun _ => by omega⟩, by omega⟩
theorem fuse_step {d : Dv} {m most : Nat} (h : FInv d m most) (a : Act) (h5 : pickN a.op 8 ≤ 5) : FInv (doesD d a) (countM d a m) most ∧ (doesE d a = 4 → countM d a m = most) := by
  unfold countM doesE doesD
  by_cases h4 : pickN a.op 8 = 4
  · rw [if_pos h4, if_pos h4, if_neg (by omega)]
    refine ⟨h, fun he => h.2.2 ?_⟩
    unfold readE at he
    by_cases hd : d.dead = true
    · exact hd
    · rw [if_neg hd] at he
      split at he <;> omega
  · rw [if_neg h4, if_neg h4]
    by_cases h6 : pickN a.op 8 = 5
    · rw [if_pos h6, if_pos h6]
      unfold flushE flushD
      by_cases hd : d.dead = true
      · rw [if_pos hd, if_pos hd, if_neg (by omega)]
        exact ⟨h, fun _ => h.2.2 hd⟩
      · rw [if_neg hd, if_neg hd]
        by_cases h0 : d.fuse = 0
        · rw [show turnOk d = false by unfold turnOk; simp [h0]]
          rw [show (if false = true then (0 : Nat) else 4) = 4 from rfl, if_neg (show ¬ false = true by decide), if_neg (by omega)]
          have := turn_dead h h0
          exact ⟨this.1, fun _ => this.2⟩
        · rw [show turnOk d = true by unfold turnOk; simp [h0]]
          rw [show (if true = true then (0 : Nat) else 4) = 0 from rfl, if_pos (show true = true from rfl), if_pos ⟨rfl, h4⟩]
          have := turn_inv h h0
          exact ⟨⟨this.1, this.2.1, this.2.2⟩, fun he => by omega⟩
    · have n6 : pickN a.op 8 ≠ 6 := by omega
      have n7 : pickN a.op 8 ≠ 7 := by omega
      rw [if_neg h6, if_neg h6, if_neg n6, if_neg n6, if_neg n7, if_neg n7]
      unfold writeE writeD
      by_cases hd : d.dead = true
      · rw [if_pos hd, if_pos hd, if_neg (by omega)]
        exact ⟨h, fun _ => h.2.2 hd⟩
      · rw [if_neg hd, if_neg hd]
        by_cases hin : inD d a.pos = true
        · rw [if_pos hin, if_pos hin]
          by_cases hl : (dataT a).length = 256
          · rw [if_pos hl, if_pos hl]
            by_cases h0 : d.fuse = 0
            · rw [show turnOk d = false by unfold turnOk; simp [h0]]
              rw [show (if false = true then (0 : Nat) else 4) = 4 from rfl, if_neg (show ¬ false = true by decide), if_neg (by omega)]
              have := turn_dead h h0
              exact ⟨this.1, fun _ => this.2⟩
            · rw [show turnOk d = true by unfold turnOk; simp [h0]]
              rw [show (if true = true then (0 : Nat) else 4) = 0 from rfl, if_pos (show true = true from rfl), if_pos ⟨rfl, h4⟩]
              have := turn_inv h h0
              exact ⟨⟨this.1, this.2.1, this.2.2⟩, fun he => by omega⟩
          · rw [if_neg hl, if_neg hl, if_neg (by omega)]
            exact ⟨h, fun he => by omega⟩
        · rw [if_neg hin, if_neg hin, if_neg (by omega)]
          exact ⟨h, fun he => by omega⟩
set_option maxRecDepth 100000 in
set_option maxHeartbeats 3200000 in
theorem core_BlockFuses (n : Int) (v : Value) (l : List Act) (turns : Int) (w : World) (hn1 : -9223372036854775808 ≤ n) (hn2 : n ≤ 9223372036854775807) (ht1 : -9223372036854775808 ≤ turns) (ht2 : turns ≤ 9223372036854775807) (h : Acts w v l) (hl : l.length ≤ 9223372036854775807) (hf : ∀ a ∈ l, Fit a) :
    Calls Try.prog 7 #[.int .i64 n, v, .int .i64 turns] w fun e w' => e = .returned (.bool true) ∧ Below w.heap.size w w' := by
  have Hsh := Lib.hid (law_shown w)
  have H := Lib.hid h
  have Hf := Lib.hid hf
  obtain ⟨oa, c, rfl⟩ := h.form
  clear h hf
  have Hsm := Lib.hid (fun w' (b : Below w.heap.size w w') => law_small _ l w' (H.out.below b) hl Hf.out)
  cases hsm : smallB l with
  | false =>
    rw [hsm] at Hsm
    clear hsm
    go_enter Try.func7, Try.ntmps7
    go_wp2_with fail
    refine Hsh.out.mono ?_
    rintro e w1 ⟨rfl, hb⟩
    have HB := Lib.hid hb
    clear hb
    go_wp2_with fail
    refine (Hsm.out _ HB.out).mono ?_
    rintro e w2 ⟨rfl, rfl⟩
    go_wp2
    go_ret
    exact ⟨rfl, HB.out⟩
  | true =>
    obtain ⟨hl60, hok⟩ := small_ok hsm Hf.out
    rw [hsm] at Hsm
    have Hok := Lib.hid hok
    have hpk := pickN_lt n 12 (by omega)
    have hpm := pickN_lt turns 30 (by omega)
    have Hp1 := Lib.hid (fun w => law_pick n 12 hn1 hn2 (by omega) (by omega) w)
    have Hp2 := Lib.hid (fun w => law_pick turns 30 ht1 ht2 (by omega) (by omega) w)
    clear hsm hok
    generalize pickN n 12 = nn at *
    generalize pickN turns 30 = most at *
    go_enter Try.func7, Try.ntmps7
    go_wp2_with fail
    refine Hsh.out.mono ?_
    rintro e w1 ⟨rfl, hb⟩
    have HB := Lib.hid hb
    clear hb
    go_wp2_with fail
    refine (Hsm.out _ HB.out).mono ?_
    rintro e w2 ⟨rfl, rfl⟩
    go_wp2_with fail
    refine (Hp1.out _).mono ?_
    rintro e w2 ⟨rfl, rfl⟩
    have Hnew := Lib.hid (live_New (w0 := w) (w := w1) (1 + nn) (by omega) (by omega) HB.out)
    go_wp2_with fail
    try rw [show (1 : Int) + (nn : Int) = ((1 + nn : Nat) : Int) by omega]
    refine Hnew.out.mono ?_
    rintro e w3 ⟨g, od, rfl, hV⟩
    have HV := Lib.hid hV
    clear hV
    have HD0 := Lib.hid (newD_ok (1 + nn) (by omega) (by omega))
    have HP0 : Hid ((newD (1 + nn)).pend.length = 0 ∧ (newD (1 + nn)).dead = false) := Lib.hid ⟨rfl, rfl⟩
    generalize newD (1 + nn) = D0 at *
    go_wp2_with fail
    refine (Hp2.out _).mono ?_
    rintro e w4 ⟨rfl, rfl⟩
    go_wp2_with fail
    refine (live_Fuse HV.out (most : Int)).mono ?_
    rintro e w5 ⟨rfl, hV, _⟩
    have HV := Lib.hid hV
    have HI0 : Hid (FInv (fuseD D0 most) 0 most) := Lib.hid ⟨by show max (most : Int) (-1) = _; omega, by omega, fun hd => by rw [show (fuseD D0 most).dead = D0.dead from rfl, HP0.out.2] at hd; cases hd⟩
    have HD1 := Lib.hid (fuse_ok HD0.out (most : Int) (by omega))
    have HP1 : Hid ((fuseD D0 most).pend.length = 0) := Lib.hid HP0.out.1
    clear hV
    generalize fuseD D0 most = D1 at *
    go_wp2
    go_loopw [12, 13] (fun x12 x13 wr => ∃ (k m : Nat) (D : Dv), k ≤ l.length ∧ x13 = .int .i64 k ∧ x12 = .int .i64 m ∧ Live w wr g od D noneR ∧ D.Ok ∧ D.pend.length ≤ k ∧ FInv D m most) (fun _ x13 _ => l.length - (intOf x13).toNat)
    case atStart => exact ⟨0, 0, D1, by omega, rfl, rfl, HV.out, HD1.out, by rw [HP1.out]; omega, HI0.out⟩
    case round =>
      obtain ⟨k, m, D, hk, rfl, rfl, hV, hD, hp, hI⟩ := hrel
      have HV := Lib.hid hV
      have HD := Lib.hid hD
      have HI := Lib.hid hI
      have hbel := hV.size
      have hmm : m ≤ most := hI.2.1
      by_cases hlt : k < l.length
      · obtain ⟨b, off, cap, hv, hb, hcell⟩ := H.out.row (by omega)
        simp only [Value.slice.injEq] at hv
        obtain ⟨rfl, _, rfl⟩ := hv
        have hact := hcell k hlt
        have ha := Hok.out l[k] (List.getElem_mem hlt)
        obtain ⟨vk, c0, c1, c2, c3, c4, hr⟩ := hact
        have c0 := cell_below hbel hb c0
        have c1 := cell_below hbel hb c1
        have c2 := cell_below hbel hb c2
        have c3 := cell_below hbel hb c3
        have c4 := cell_below hbel hb c4
        generalize l[k] = a at *
        have hrl := hr.below hbel
        have hkd : 0 < a.keep.length → ∀ q, vk.ownBlock = some q → q < w.heap.size ∨ noneR q := by
          intro h0 q hq
          rcases hr with ⟨_, _, _, h1⟩ | ⟨b2, off2, cap2, rfl, _, hb2, _⟩
          · have := congrArg List.length h1; rw [List.length_map, List.length_nil] at this; omega
          · simp only [Value.ownBlock, Option.some.injEq] at hq
            left; omega
        have Hdoes := Lib.hid (live_does hV hD (by omega) a vk ha hrl hkd)
        have Hpk := Lib.hid (fun w => law_pick a.op 8 ha.op0 ha.op1 (by omega) (by omega) w)
        have Hst := Lib.hid (fun h5 => fuse_step hI a h5)
        have Hdo := Lib.hid (doesD_ok hD a ha.n1)
        have hdp := does_pend D a
        have HC : Hid (countM D a m = if doesE D a = 0 ∧ pickN a.op 8 ≠ 4 then m + 1 else m) := Lib.hid rfl
        have hk1 : (k : Int) < (l.length : Int) := by omega
        clear hcell hr hrl hkd hV hD hI hbel ha
        generalize countM D a m = m2 at *
        generalize doesE D a = er at *
        generalize doesD D a = D2 at *
        generalize pickN a.op 8 = po at *
        go_wp2_with fail
        refine (Hpk.out _).mono ?_
        rintro e w6 ⟨rfl, rfl⟩
        by_cases h5 : 5 < po
        · go_wp2
          go_roundw
          case rel => exact ⟨k + 1, m, D, by omega, by go_num, rfl, HV.out, HD.out, by omega, HI.out⟩
          case measure => simp [intOf]; omega
        · obtain ⟨hi2, hi3⟩ := Hst.out (by omega)
          have HI2 := Lib.hid hi2
          have hm2 : m2 ≤ most := hi2.2.1
          have hq5 : ¬ (5 : Int) < (po : Int) := by omega
          clear hi2
          by_cases hc : er = 0 ∧ po ≠ 4
          · have hmv := HC.out
            rw [if_pos hc] at hmv
            obtain ⟨rfl, hc4⟩ := hc
            have q1 : ((po : Int) != 4) = true := by rw [bne_iff_ne]; omega
            clear hi3
            go_wp2_with fail
            refine Hdoes.out.mono ?_
            rintro e w7 ⟨rfl, hV7, _⟩
            have HV7 := Lib.hid hV7
            have Hmv := Lib.hid hmv
            clear hV7 hmv hc4
            go_wp2
            go_roundw
            case rel => exact ⟨k + 1, m2, D2, by omega, by go_num, by rw [Hmv.out]; go_num, HV7.out, Hdo.out, by omega, HI2.out⟩
            case measure => simp [intOf]; omega
          · have hmv := HC.out
            rw [if_neg hc] at hmv
            subst hmv
            by_cases he4 : er = 4
            · subst he4
              have hmo : m2 = most := hi3 rfl
              have q3 : ((m2 : Int) != (most : Int)) = false := by rw [hmo]; simp
              clear hi3 hc hmo
              go_wp2_with fail
              refine Hdoes.out.mono ?_
              rintro e w7 ⟨rfl, hV7, _⟩
              have HV7 := Lib.hid hV7
              clear hV7
              go_wp2
              go_roundw
              case rel => exact ⟨k + 1, m2, D2, by omega, by go_num, rfl, HV7.out, Hdo.out, by omega, HI2.out⟩
              case measure => simp [intOf]; omega
            · have q2 : ((er : Int) == 4) = false := by rw [beq_eq_false_iff_ne]; omega
              by_cases he0 : er = 0
              · subst he0
                obtain rfl : po = 4 := by omega
                clear hi3 hc he4
                go_wp2_with fail
                refine Hdoes.out.mono ?_
                rintro e w7 ⟨rfl, hV7, _⟩
                have HV7 := Lib.hid hV7
                clear hV7
                go_wp2
                go_roundw
                case rel => exact ⟨k + 1, m2, D2, by omega, by go_num, rfl, HV7.out, Hdo.out, by omega, HI2.out⟩
                case measure => simp [intOf]; omega
              · have q1 : ((er : Int) == 0) = false := by rw [beq_eq_false_iff_ne]; omega
                clear hi3 hc he4 he0
                go_wp2_with fail
                refine Hdoes.out.mono ?_
                rintro e w7 ⟨rfl, hV7, _⟩
                have HV7 := Lib.hid hV7
                clear hV7
                go_wp2
                go_roundw
                case rel => exact ⟨k + 1, m2, D2, by omega, by go_num, rfl, HV7.out, Hdo.out, by omega, HI2.out⟩
                case measure => simp [intOf]; omega
      · obtain rfl : k = l.length := by omega
        have Hdead := Lib.hid (live_Dead hV)
        have Hsz := Lib.hid hbel
        have hmi : (m : Int) ≤ (most : Int) := by omega
        cases hdd : D.dead with
        | false =>
          rw [hdd] at Hdead
          clear hV hD hI hbel hdd
          go_wp2_with fail
          refine Hdead.out.mono ?_
          rintro e w6 ⟨rfl, rfl⟩
          go_wp2
          go_ret
          exact ⟨rfl, Hsz.out⟩
        | true =>
          have hmo : m = most := hI.2.2 hdd
          have q3 : ((m : Int) == (most : Int)) = true := by rw [hmo]; simp
          rw [hdd] at Hdead
          clear hV hD hI hbel hdd hmo
          go_wp2_with fail
          refine Hdead.out.mono ?_
          rintro e w6 ⟨rfl, rfl⟩
          go_wp2
          go_ret
          exact ⟨rfl, Hsz.out⟩
theorem walk_BlockFuses (n : Int) (v : Value) (l : List Act) (turns : Int) (w : World) (hn : (Lit.int .i64 n).wf = true) (h : Acts w v l) (hf : ∀ a ∈ l, Fit a) (hl : l.length ≤ maxLen) (ht : (Lit.int .i64 turns).wf = true) :
    Calls Try.prog 7 #[.int .i64 n, v, .int .i64 turns] w fun e w' => e = .returned (.bool true) ∧ Below w.heap.size w w' := by
  unfold maxLen at hl
  exact core_BlockFuses n v l turns w (bounds_i64 hn).1 (bounds_i64 hn).2 (bounds_i64 ht).1 (bounds_i64 ht).2 h (by omega) hf
end Go.Proofs.Ytbcagddgchpheaa
