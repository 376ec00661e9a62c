/- The law CacheLast returns true for every input. No conditions. -/
import Derived.Test.YtikkdhfbihejbaaCchK
namespace Go.Proofs.Ytikkdhfbihejbaa
open Go.RowKit Go.Cch Go.Lib Go.Shelf
attribute [local go_sem] Oper.semAt_some

theorem drewN_last {K : Nat} {w w' : World} (h : Below K w w') (n : Nat) : Below K w (w'.drewN n) := ⟨h.os, h.tape, h.output, h.size, h.block⟩
abbrev notI (n : Int) (P : List Int) : List Int := P.filter fun j => decide (j ≠ n)
theorem nx_step {P : List Int} {k : Nat} {n a : Int} {r : List Int} (h : (a :: r).Sublist (notI n (P.drop k))) (hk : k < P.length) (hs : P[k] = n ∨ P[k] ≠ a) : (a :: r).Sublist (notI n (P.drop (k + 1))) := by
  rw [List.drop_eq_getElem_cons hk] at h
  unfold notI at h ⊢
  rcases hs with hs | hs
  · rw [List.filter_cons_of_neg (by simpa using hs)] at h
    exact h
  · by_cases hn : P[k] = n
    · rw [List.filter_cons_of_neg (by simpa using hn)] at h
      exact h
    · rw [List.filter_cons_of_pos (by simpa using hn)] at h
      cases h with
      | cons _ h => exact h
      | cons_cons _ _ => exact absurd rfl hs
theorem nx_found {P : List Int} {k : Nat} {n a : Int} {r : List Int} (h : (a :: r).Sublist (notI n (P.drop k))) (hk : k < P.length) (h1 : P[k] ≠ n) (h2 : P[k] = a) : r.Sublist (notI n (P.drop (k + 1))) := by
  rw [List.drop_eq_getElem_cons hk] at h
  unfold notI at h ⊢
  rw [List.filter_cons_of_pos (by simpa using h1), h2] at h
  exact List.Sublist.of_cons_cons h
theorem nx_end {P : List Int} {k : Nat} {n a : Int} {r : List Int} (h : (a :: r).Sublist (notI n (P.drop k))) : k < P.length := by
  by_cases hk : k < P.length
  · exact hk
  · rw [List.drop_eq_nil_of_le (by omega)] at h
    unfold notI at h
    simp at h
theorem cur_of {r : List Int} {i : Nat} (h : i < r.length) : r.drop i = r[i] :: r.drop (i + 1) := List.drop_eq_getElem_cons h
set_option maxRecDepth 100000 in
set_option maxHeartbeats 12800000 in
theorem walk_CacheLast (most : Int) (v : Value) (l : List Cch.Act) (block : Int) (w : World) (hmost : (Lit.int .i64 most).wf = true) (hacts : Acts6 w v l) (hfit : ∀ a ∈ l, Fit6 a) (hlen : l.length ≤ maxLen) (hblock : (Lit.int .i64 block).wf = true) :
    Calls Try.prog 5 #[.int .i64 most, v, .int .i64 block] w fun e w' => e = .returned (.bool true) ∧ Below w.heap.size w w' := by
  have Hacts := Lib.hid hacts
  have Hfit := Lib.hid hfit
  obtain ⟨oa, cp, rfl⟩ := hacts.form
  have hlen' : l.length ≤ 9223372036854775807 := by unfold maxLen at hlen; omega
  clear hacts hfit hlen
  go_enter Try.func5, Try.ntmps5
  go_wp2_with fail
  refine (law_shown6 w).mono ?_
  rintro e w1 ⟨rfl, hb1⟩
  have Hb1 := Lib.hid hb1
  clear hb1
  by_cases hbig : 200 < l.length
  · have hz : (200 : Int) < (l.length : Int) := by omega
    clear hbig
    go_wp2
    go_ret
    exact ⟨rfl, Hb1.out⟩
  have hz : ¬ (200 : Int) < (l.length : Int) := by omega
  obtain ⟨m, hm, hm8⟩ : ∃ m : Nat, pickI most 8 = (m : Int) ∧ m < 8 := by
    have := pick_range most 8 (by omega)
    exact ⟨(pickI most 8).toNat, by omega, by omega⟩
  go_wp2_with fail
  have hP := law_pick most 8 hmost (by omega) (by omega) w1
  rw [hm] at hP
  refine hP.mono ?_
  rintro e w2 ⟨rfl, rfl⟩
  clear hP hm
  go_wp2_with fail
  have hN := live_New (w0 := w) (w := w1) (1 + m) (by omega) (by omega) none 0 trivial (fun _ h => by cases h) Hb1.out
  rw [show ((1 + m : Nat) : Int) = 1 + (m : Int) by omega] at hN
  refine hN.mono ?_
  rintro e w3 ⟨cb, rfl, h, -⟩
  have H3 := Lib.hid h
  clear hN h
  go_wp2
  go_loopw [10] (fun i wr => ∃ (k N : Nat) (c : Ch), k ≤ l.length ∧ i = .int .i64 k ∧ N ≤ 10 + k ∧ LiveK w wr none 0 cb c N (fun _ => False)) (fun i _ => l.length - (intOf i).toNat)
  case atStart => exact ⟨0, _, _, by omega, rfl, by omega, H3.out⟩
  case round =>
    obtain ⟨k, N, c, hk, rfl, hN, hlv⟩ := hrel
    have Hlv := Lib.hid hlv
    clear hlv
    by_cases hlt : k < l.length
    · obtain ⟨b, off, rfl, a0, a1, a2, a3⟩ := (Hacts.out.below Hlv.out.below).at hlt
      obtain ⟨f1, f2⟩ := Hfit.out l[k] (List.getElem_mem _)
      generalize l[k] = a at *
      have Hdo := Lib.hid (live_does Hlv.out (by omega) a f1 f2)
      unfold actV at Hdo
      go_wp2_with fail
      refine Hdo.out.mono ?_
      rintro e y2 ⟨rfl, h2, -⟩
      have H2 := Lib.hid h2.n0
      clear h2
      go_wp2
      go_roundw
      case rel => exact ⟨k + 1, N + 1, _, by omega, by go_num, by omega, H2.out⟩
      case measure => simp [intOf]; omega
    · obtain rfl : k = l.length := by omega
      obtain ⟨n, hn, hn1, hn2⟩ : ∃ n : Int, pickI block 12 = n ∧ 0 ≤ n ∧ n < 12 := ⟨_, rfl, pick_range block 12 (by omega)⟩
      have hkn : keyI n := keyI_of (by omega) (by omega)
      go_wp2_with fail
      refine (live_Blocks Hlv.out (by omega)).mono ?_
      rintro e z1 ⟨bv, rfl, hr, h, -, -⟩
      have H1 := Lib.hid h
      have Hr := Lib.hid hr
      clear h hr
      go_wp2_with fail
      have hP := law_pick block 12 hblock (by omega) (by omega) z1
      rw [hn] at hP
      refine hP.mono ?_
      rintro e z2 ⟨rfl, rfl⟩
      clear hP hn
      have hlast : ((askG c n).1.2 ≠ 0 ∧ (askG c n).2 = c) ∨ ((askG c n).1.2 = 0 ∧ ∃ r, posL (askG c n).2 = n :: r ∧ r.Sublist (notI n (posL c))) := last_get Hlv.out.small.ok n (if srcE n = 0 then srcT n else []) (srcE n)
      have hcs : c.l.length ≤ 1024 := Nat.le_trans Hlv.out.small.ok.many Hlv.out.small.most
      have hG := live_Get H1.out (by omega) n hkn
      generalize hER : (askG c n).1 = ER at *
      generalize hc' : (askG c n).2 = c' at *
      have Hlast := Lib.hid hlast
      clear hlast hER hc'
      go_wp2_with fail
      refine hG.mono ?_
      rintro e z3 ⟨rfl, h, hk1⟩
      have H4 := Lib.hid h.n0
      have Hr3 := Lib.hid (hk1.row Hr.out (fun k hk => .inr hk))
      clear hG h hk1
      go_wp2_with fail
      refine (live_Blocks H4.out (by omega)).mono ?_
      rintro e z4 ⟨bv2, rfl, hr2, h, -, hk2⟩
      have hc1s := h.small
      have hcs1 : c'.l.length ≤ 1024 := Nat.le_trans hc1s.ok.many hc1s.most
      have Hr4 := Lib.hid (hk2.row Hr3.out (fun k hk => .inr hk))
      have Hr5 := Lib.hid hr2
      have Hb := Lib.hid h.below
      clear h hr2 hk2 hc1s Hr Hr3
      obtain ⟨oa1, cp1, rfl⟩ := row_form Hr4.out
      obtain ⟨oa2, cp2, rfl⟩ := row_form Hr5.out
      rw [List.length_map] at *
      unfold posL at Hlast
      have hl1 : (c.l.map Kd.pos).length = c.l.length := by simp
      have hl2 : (c'.l.map Kd.pos).length = c'.l.length := by simp
      generalize hps : c.l.map Kd.pos = ps at *
      generalize hqs : c'.l.map Kd.pos = qs at *
      have hsame : Hid (ER.2 ≠ 0 → qs = ps) := Lib.hid (fun h => by
        rcases Hlast.out with ⟨_, h2⟩ | ⟨h2, _⟩
        · rw [← hqs, ← hps, h2]
        · exact absurd h2 h)
      have htold : Hid (ER.2 = 0 → ∃ r, qs = n :: r ∧ r.Sublist (notI n ps)) := Lib.hid (fun h => by
        rcases Hlast.out with ⟨h2, _⟩ | ⟨_, h2⟩
        · exact absurd h h2
        · exact h2)
      rw [← hl1] at hcs
      rw [← hl2] at hcs1
      clear hl1 hl2 hps hqs Hlast H1 H3 H4 Hlv
      by_cases hE : ER.2 = 0
      · obtain ⟨r, rfl, hsub⟩ := htold.out hE
        have hEb : (ER.2 == 0) = true := by rw [beq_iff_eq]; exact hE
        have Hsub := Lib.hid hsub
        obtain ⟨bq, oq, rfl, hq0⟩ := row_cells Hr5.out (show 0 < (n :: r).length by simp)
        have hq0' : z4.cell? ⟨bq, oq, none⟩ = some (.int .i64 n) := hq0
        have hlen0 : ((n :: r).length : Int) ≠ 0 := by simp; omega
        have hlenb : (((n :: r).length : Int) == 0) = false := by rw [beq_eq_false_iff_ne]; exact hlen0
        have hlr : (n :: r).length = r.length + 1 := rfl
        clear hsub hq0 hsame htold hE
        generalize hqs : n :: r = qs at *
        have Hqs := Lib.hid (show ∀ j (h : j < r.length), ∃ h2 : j + 1 < qs.length, qs[j + 1] = r[j] from fun j h => by subst hqs; exact ⟨by simp; omega, rfl⟩)
        clear hqs
        go_wp2
        go_loopw [16, 17] (fun kv iv wr => ∃ (k i : Nat), iv = .int .i64 i ∧ 1 ≤ i ∧ i ≤ qs.length ∧ kv = .int .i64 k ∧ k ≤ ps.length ∧ (r.drop (i - 1)).Sublist (notI n (ps.drop k)) ∧ Below z4.heap.size z4 wr) (fun _ iv _ => qs.length - (intOf iv).toNat)
        case atStart => exact ⟨0, 1, rfl, by omega, by omega, rfl, by omega, Hsub.out, Below.refl _ _⟩
        case round =>
          obtain ⟨k, i, rfl, hi1, hi2, rfl, hk, hsub, hbz⟩ := hrel
          have Hbz := Lib.hid hbz
          have Hsub2 := Lib.hid hsub
          clear hsub hbz
          by_cases hi3 : i < qs.length
          · obtain ⟨hi4, hqi⟩ := Hqs.out (i - 1) (by omega)
            obtain ⟨bq', oq', he, hqc⟩ := row_cells Hr5.out hi3
            simp only [Option.some.injEq, Addr.mk.injEq, and_true] at he
            obtain ⟨rfl, rfl⟩ := he
            have hqc' : z4.cell? ⟨bq, oq + i, none⟩ = some (.int .i64 r[i - 1]) := by
              rw [hqc]
              have : qs[i] = r[i - 1] := by rw [← hqi]; congr 1; omega
              rw [this]
            have Hqc := Lib.hid hqc'
            have Hcur := Lib.hid (show (r[i - 1] :: r.drop i).Sublist (notI n (ps.drop k)) by
              have := Hsub2.out
              rw [cur_of (show i - 1 < r.length by omega)] at this
              rwa [show i - 1 + 1 = i by omega] at this)
            clear hqc hqc' hqi Hsub2
            generalize r[i - 1] = a at *
            go_wp2
            go_loopw [16] (fun kv wr => ∃ k : Nat, kv = .int .i64 k ∧ k ≤ ps.length ∧ (a :: r.drop i).Sublist (notI n (ps.drop k)) ∧ Below z4.heap.size z4 wr) (fun kv _ => ps.length - (intOf kv).toNat)
            case atStart => exact ⟨k, rfl, hk, Hcur.out, Hbz.out⟩
            case round =>
              clear hk
              obtain ⟨k, rfl, hk, hcur, hbz⟩ := hrel
              have hkl := nx_end hcur
              have Hcur2 := Lib.hid hcur
              have Hbz2 := Lib.hid hbz
              obtain ⟨bp, op, rfl, hpc⟩ := row_cells Hr4.out hkl
              have hpc := cell_call hbz hpc
              have hqc := cell_call hbz Hqc.out
              have hkd : decide ((k : Int) < (ps.length : Int)) = true := by simp; omega
              have hkd2 : (k : Int) < (ps.length : Int) := by omega
              clear hcur hbz
              have Hdr := Lib.hid (fun q => drewN_last Hbz2.out q)
              by_cases h1 : ps[k] = n
              · have Hnx := Lib.hid (nx_step Hcur2.out hkl (.inl h1))
                have h1b : (ps[k] == n) = true := by rw [beq_iff_eq]; exact h1
                clear h1
                generalize ps[k] = p at *
                go_wp2
                go_quiet (fail)
                go_wp2
                go_roundw
                case rel => exact ⟨k + 1, by go_num, by omega, Hnx.out, drewN_last Hbz2.out _⟩
                case measure => simp [intOf]; omega
              · have h1b : (ps[k] == n) = false := by rw [beq_eq_false_iff_ne]; exact h1
                by_cases h2 : ps[k] = a
                · have Hnx := Lib.hid (nx_found Hcur2.out hkl h1 h2)
                  have h2b : (ps[k] != a) = false := by simp [h2]
                  clear h1 h2
                  have hke : ((k : Int) == (ps.length : Int)) = false := by rw [beq_eq_false_iff_ne]; omega
                  generalize ps[k] = p at *
                  go_wp2
                  go_quiet (fail)
                  go_wp2
                  go_roundw
                  case rel => exact ⟨k + 1, i + 1, by go_num, by omega, by omega, by go_num, by omega, Hnx.out, drewN_last Hbz2.out _⟩
                  case measure => simp [intOf]; omega
                · have Hnx := Lib.hid (nx_step Hcur2.out hkl (.inr h2))
                  have h2b : (ps[k] != a) = true := by simp [h2]
                  clear h1 h2
                  generalize ps[k] = p at *
                  go_wp2
                  go_quiet (fail)
                  go_wp2
                  go_roundw
                  case rel => exact ⟨k + 1, by go_num, by omega, Hnx.out, drewN_last Hbz2.out _⟩
                  case measure => simp [intOf]; omega
          · obtain rfl : i = qs.length := by omega
            go_wp2
            go_ret
            exact ⟨rfl, step_call Hb.out Hbz.out⟩
      · obtain rfl := hsame.out hE
        have hEb : (ER.2 == 0) = false := by rw [beq_eq_false_iff_ne]; exact hE
        clear hE
        go_wp2
        go_ret
        exact ⟨rfl, Hb.out⟩
end Go.Proofs.Ytikkdhfbihejbaa
