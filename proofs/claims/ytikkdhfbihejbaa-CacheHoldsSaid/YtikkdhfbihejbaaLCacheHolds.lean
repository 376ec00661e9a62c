/- The law CacheHolds returns true for every input. No conditions. -/
import Derived.Test.YtikkdhfbihejbaaCchK
namespace Go.Proofs.Ytikkdhfbihejbaa
open Go.RowKit Go.Cch Go.Lib Go.Shelf
attribute [local go_sem] Oper.semAt_some

theorem ask_new (m : Nat) (h : 1 ≤ m) (n : Int) (h1 : 0 ≤ n) (h2 : n < 12) : askG (newC m) n = ((srcT n, 0), ⟨[⟨n, srcT n, false, 0⟩], m, 1⟩) := by
  have hs : srcE n = 0 := by unfold srcE; rw [if_pos (by omega)]
  have hr : roomL (newC m) = some [] := by unfold roomL newC; rw [if_pos (by simp; omega)]
  unfold askG getC
  rw [hs, hr]
  rfl
theorem has_pos {l : List Kd} {n : Int} (h : hasL l n = true) : n ∈ l.map Kd.pos := by
  obtain ⟨x, hx, e⟩ := has_iff.1 h
  exact List.mem_map.2 ⟨x, hx, e⟩
set_option maxRecDepth 100000 in
set_option maxHeartbeats 12800000 in
theorem walk_CacheHolds (most : Int) (v : Value) (l : List Cch.Act) (block : Int) (w : World) (hmost : (Lit.int .i64 most).wf = true) (hacts : Acts6 w v l) (hfit : ∀ a ∈ l, Fit6 a) (hlen : l.length ≤ maxLen) (hblock : (Lit.int .i64 block).wf = true) :
    Calls Try.prog 3 #[.int .i64 most, v, .int .i64 block] w fun e w' => e = .returned (.bool true) ∧ Below w.heap.size w w' := by
  have Hacts := Lib.hid hacts
  have Hfit := Lib.hid hfit
  obtain ⟨oa, cp, rfl⟩ := hacts.form
  have hlen' : l.length ≤ 9223372036854775807 := by unfold maxLen at hlen; omega
  clear hacts hfit hlen
  go_enter Try.func3, Try.ntmps3
  go_wp2_with fail
  refine (law_shown6 w).mono ?_
  rintro e w1 ⟨rfl, hb1⟩
  have Hb1 := Lib.hid hb1
  clear hb1
  by_cases hbig : 200 < l.length
  · have hz : (200 : Int) < (l.length : Int) := by omega
    clear hbig
    go_wp2
    go_ret
    exact ⟨rfl, Hb1.out⟩
  have hz : ¬ (200 : Int) < (l.length : Int) := by omega
  obtain ⟨m, hm, hm8⟩ : ∃ m : Nat, pickI most 8 = (m : Int) ∧ m < 8 := by
    have := pick_range most 8 (by omega)
    exact ⟨(pickI most 8).toNat, by omega, by omega⟩
  go_wp2_with fail
  have hP := law_pick most 8 hmost (by omega) (by omega) w1
  rw [hm] at hP
  refine hP.mono ?_
  rintro e w2 ⟨rfl, rfl⟩
  clear hP hm
  go_wp2_with fail
  have hN := live_New (w0 := w) (w := w1) (2 + m) (by omega) (by omega) none 0 trivial (fun _ h => by cases h) Hb1.out
  rw [show ((2 + m : Nat) : Int) = 2 + (m : Int) by omega] at hN
  refine hN.mono ?_
  rintro e w3 ⟨cb, rfl, h, -⟩
  have H3 := Lib.hid h
  clear hN h
  obtain ⟨n, hn, hn1, hn2⟩ : ∃ n : Int, pickI block 12 = n ∧ 0 ≤ n ∧ n < 12 := ⟨_, rfl, pick_range block 12 (by omega)⟩
  have hkn : keyI n := keyI_of (by omega) (by omega)
  go_wp2_with fail
  have hP := law_pick block 12 hblock (by omega) (by omega) w3
  rw [hn] at hP
  refine hP.mono ?_
  rintro e w4 ⟨rfl, rfl⟩
  clear hP hn
  go_wp2_with fail
  have hG := live_Get H3.out (by omega) n hkn
  rw [ask_new (2 + m) (by omega) n hn1 hn2] at hG
  refine hG.mono ?_
  rintro e w5 ⟨rfl, h, -⟩
  have H5 := Lib.hid h.n0
  clear hG h
  have hph := pin_held (c := ⟨[⟨n, srcT n, false, 0⟩], 2 + m, 1⟩) (n := n) (has_iff.2 ⟨_, List.mem_cons_self, rfl⟩)
  go_wp2_with fail
  have hG := live_Pin H5.out (by omega) n hkn
  rw [hph.1] at hG
  refine hG.mono ?_
  rintro e w6 ⟨rfl, h, -⟩
  have H6 := Lib.hid h
  have Hheld := Lib.hid hph.2
  clear hG h hph
  go_wp2
  go_loopw [14] (fun i wr => ∃ (k N : Nat) (c : Ch), k ≤ l.length ∧ i = .int .i64 k ∧ N ≤ 10 + k ∧ Held c n ∧ LiveK w wr none 0 cb c N (fun _ => False)) (fun i _ => l.length - (intOf i).toNat)
  case atStart => exact ⟨0, _, _, by omega, rfl, by omega, Hheld.out, H6.out⟩
  case round =>
    obtain ⟨k, N, c, hk, rfl, hN, hh, hlv⟩ := hrel
    have Hh := Lib.hid hh
    have Hlv := Lib.hid hlv
    clear hh hlv
    by_cases hlt : k < l.length
    · obtain ⟨b, off, rfl, a0, a1, a2, a3⟩ := (Hacts.out.below Hlv.out.below).at hlt
      obtain ⟨f1, f2⟩ := Hfit.out l[k] (List.getElem_mem _)
      generalize l[k] = a at *
      have hkr := kind_range a
      have hPk : Calls Try.prog 10 #[.int .i64 a.op, .int .i64 10] wr fun e w' => e = .returned (.int .i64 a.kind) ∧ wr = w' := law_pick a.op 10 f1 (by omega) (by omega) wr
      have HPk := Lib.hid hPk
      have Hst := Lib.hid (fun h7 h9 => held_step Hlv.out.small.ok a h7 h9 Hh.out)
      have Hdo := Lib.hid (live_does Hlv.out (by omega) a f1 f2)
      unfold actV at Hdo
      clear hPk
      generalize a.kind = kd at *
      go_wp2_with fail
      refine HPk.out.mono ?_
      rintro e y1 ⟨rfl, rfl⟩
      by_cases h7 : kd = 7
      · have e7 : (kd == 7) = true := by rw [beq_iff_eq]; exact h7
        clear h7
        go_wp2
        go_roundw
        case rel => exact ⟨k + 1, N, c, by omega, by go_num, by omega, Hh.out, Hlv.out⟩
        case measure => simp [intOf]; omega
      have e7 : (kd == 7) = false := by rw [beq_eq_false_iff_ne]; exact h7
      by_cases h9 : kd = 9
      · have e9 : (kd == 9) = true := by rw [beq_iff_eq]; exact h9
        clear h7 h9
        go_wp2
        go_roundw
        case rel => exact ⟨k + 1, N, c, by omega, by go_num, by omega, Hh.out, Hlv.out⟩
        case measure => simp [intOf]; omega
      have e9 : (kd == 9) = false := by rw [beq_eq_false_iff_ne]; exact h9
      have Hst2 := Lib.hid (Hst.out h7 h9)
      clear h7 h9 Hst
      go_wp2_with fail
      refine Hdo.out.mono ?_
      rintro e y2 ⟨rfl, h2, -⟩
      have H2 := Lib.hid h2.n0
      clear h2
      go_wp2
      go_roundw
      case rel => exact ⟨k + 1, N + 1, _, by omega, by go_num, by omega, Hst2.out, H2.out⟩
      case measure => simp [intOf]; omega
    · obtain rfl : k = l.length := by omega
      have hmem := has_pos (held_has Hh.out)
      have Hmem := Lib.hid hmem
      clear hmem
      go_wp2_with fail
      refine (live_Blocks Hlv.out (by omega)).mono ?_
      rintro e z1 ⟨bv, rfl, hr, h, -, -⟩
      obtain ⟨oab, cpb, rfl⟩ := row_form hr
      rw [List.length_map] at *
      have hcl : (c.l.map Kd.pos).length = c.l.length := by simp
      have hc1 := h.small
      have hcs : c.l.length ≤ 1024 := Nat.le_trans hc1.ok.many hc1.most
      have Hb := Lib.hid h.below
      generalize c.l.map Kd.pos = ps at *
      rw [← hcl] at hcs
      have Hr := Lib.hid hr
      clear hr h hc1 hcl
      go_wp2
      go_loop [17] (fun i => ∃ k : Nat, k ≤ ps.length ∧ i = .int .i64 k ∧ ∀ j (hj : j < ps.length), j < k → ps[j] ≠ n) (fun i => ps.length - (intOf i).toNat)
      case atStart => exact ⟨0, by omega, rfl, fun j _ h => by omega⟩
      case round =>
        obtain ⟨k, hk2, rfl, hne⟩ := hrel
        have Hne := Lib.hid hne
        clear hne
        by_cases hlt2 : k < ps.length
        · obtain ⟨b2, off2, rfl, hc⟩ := row_cells Hr.out hlt2
          by_cases he : ps[k] = n
          · rw [he] at hc
            clear he
            go_wp2
            go_ret
            exact ⟨rfl, Hb.out⟩
          · have he2 : (ps[k] == n) = false := by rw [beq_eq_false_iff_ne]; exact he
            have Hne2 : Hid (∀ j (hj : j < ps.length), j < k + 1 → ps[j] ≠ n) := Lib.hid (fun j hj hjk => by
              by_cases hjk2 : j = k
              · subst hjk2; exact he
              · exact Hne.out j hj (by omega))
            clear he
            go_wp2
            go_round
            case rel => exact ⟨k + 1, by omega, by go_num, Hne2.out⟩
            case measure => simp [intOf]; omega
        · exfalso
          obtain ⟨j, hj, e⟩ := List.mem_iff_getElem.1 Hmem.out
          exact Hne.out j hj (by omega) e
end Go.Proofs.Ytikkdhfbihejbaa
