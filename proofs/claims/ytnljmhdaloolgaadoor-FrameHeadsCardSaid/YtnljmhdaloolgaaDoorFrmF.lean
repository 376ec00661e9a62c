/- Chapter 3: the reference's blocks and Head. Conditions: lengths. -/
import Derived.Test.YtnljmhdaloolgaaDoorFrmC
import Derived.Test.YtnljmhdaloolgaaDoorFrmE
namespace Go.Proofs.YtnljmhdaloolgaaDoor
open Go.RowKit Go.Wir Go.Blk Go.Frm

/-- What the reference's blocks answers: nothing where it is none. -/
def RefPost (s : Txt) (base : Nat) (e : Ending) (w' : World) : Prop := match readL s with
  | none => e = .returned (.tuple #[.int .u64 0, .slice none 0 0, .bool false])
  | some (seq, at') => ∃ v, e = .returned (.tuple #[.int .u64 (seq : Nat), v, .bool true]) ∧ w'.ownsRow base 3 1 v at'.length (numCells at')
theorem RefPost.no {s : Txt} {base : Nat} {w' : World} (h : readB s = false) : RefPost s base (.returned (.tuple #[.int .u64 0, .slice none 0 0, .bool false])) w' := by
  unfold RefPost readL; rw [h]; rfl
theorem magic_eq (s : Txt) : (((B s).extract 0 4).toList == ([67, 68, 88, 84] : List UInt8)) = decide (s.take 4 = magicT) := by
  rw [extract_take, L_B, toList_B, Bool.eq_iff_iff, beq_iff_eq, decide_eq_true_eq]; rfl
theorem end_eq (s : Txt) : (((B s).extract 252 (B s).size).toList == ([67, 68, 88, 69] : List UInt8)) = decide (s.drop 252 = endT) := by
  rw [extract_to_end, L_B, toList_B, Bool.eq_iff_iff, beq_iff_eq, decide_eq_true_eq]; rfl
theorem allZero_drop (t : Txt) (i : Nat) (h : i < t.length) : allZero (t.drop i) = (t[i] == 0 && allZero (t.drop (i + 1))) := by
  rw [List.drop_eq_getElem_cons h]; rfl
set_option maxRecDepth 100000 in
set_option maxHeartbeats 1600000 in
theorem ref3_blocks (s : Txt) (_ : s.length ≤ 9223372036854775807) (w : World) :
    Calls Tryd.prog 38 #[.string (B s)] w fun e w' => Below w.heap.size w w' ∧ RefPost s w.heap.size e w' := by
  by_cases hl : s.length = 256
  · have hsz : (B s).size = 256 := by rw [size_B]; exact hl
    have hne : (((B s).size : Int) != 256) = false := by rw [hsz]; rfl
    have hm := magic_eq s
    have he := end_eq s
    rw [hsz] at he
    have Hl := Lib.hid hl
    by_cases hp : s.take 4 = magicT
    · rw [decide_eq_true hp] at hm
      by_cases hq : s.drop 252 = endT
      · rw [decide_eq_true hq] at he
        have Hform : Hid (formB s = true) := Lib.hid (by unfold formB; rw [decide_eq_true Hl.out, decide_eq_true hp, decide_eq_true hq]; rfl)
        have hTF : Hid (∀ i w, i + 4 ≤ 256 → Calls Tryd.prog 47 #[.string (B (s.drop i))] w fun e w' => e = .returned (.tuple #[.int .u32 (numAt s i : Nat), .string (B (s.drop (i + 4))), .bool true]) ∧ Below w.heap.size w w') :=
          Lib.hid (fun i w hi => ref2_ToFixed_at s i (by rw [Hl.out]; omega) (by rw [Hl.out]; exact hi) w)
        have Hseq : Hid (seqAt s = numAt s 4 + 4294967296 * numAt s 8) := Lib.hid rfl
        have Hlo := Lib.hid (numAt_lt s 4)
        have Hhi := Lib.hid (numAt_lt s 8)
        have HB := Lib.hid (show readB s = (decide (1 ≤ numAt s 12 ∧ numAt s 12 ≤ 48) && ((numsAt s (numAt s 12)).all (fun b => decide (b < 4096)) && allZero (restT s (numAt s 12)))) by unfold readB; rw [Hform.out]; rfl)
        have HR : Hid (∀ n, restT s n = (s.take 248).drop (16 + 4 * n)) := Lib.hid (fun _ => rfl)
        have HL : Hid (readL s = if readB s then some (seqAt s, numsAt s (numAt s 12)) else none) := Lib.hid rfl
        have Hx : Hid (∀ i, (B s).extract i 256 = B (s.drop i)) := Lib.hid (fun i => by
          have := extract_to_end (B s) i
          rw [hsz, L_B] at this
          exact this)
        clear hp hq hl
        generalize hN4 : numAt s 4 = n4 at *
        have HN4 := Lib.hid hN4
        clear hN4
        generalize hN8 : numAt s 8 = n8 at *
        have HN8 := Lib.hid hN8
        clear hN8
        generalize hN12 : numAt s 12 = n at *
        have HN12 := Lib.hid hN12
        clear hN12
        go_enter Tryd.func38, Tryd.ntmps38
        go_wp2_with fail
        rw [Hx.out]
        refine (hTF.out 4 _ (by omega)).mono ?_
        rw [HN4.out]
        rintro e w3 ⟨rfl, hb3⟩
        have Hb3 := Lib.hid hb3
        clear hb3
        go_wp2_with fail
        rw [Hx.out]
        refine (hTF.out 8 _ (by omega)).mono ?_
        rw [HN8.out]
        rintro e w4 ⟨rfl, hb4⟩
        have Hb4 := Lib.hid (step_call Hb3.out hb4)
        clear hb4
        go_wp2_with fail
        rw [Hx.out]
        refine (hTF.out 12 _ (by omega)).mono ?_
        rw [HN12.out]
        rintro e w5 ⟨rfl, hb5⟩
        have Hb5 := Lib.hid (step_call Hb4.out hb5)
        clear hb5
        by_cases hn : 1 ≤ n ∧ n ≤ 48
        · obtain ⟨hn1, hn2⟩ := hn
          have Hn := Lib.hid (show 1 ≤ n ∧ n ≤ 48 from ⟨hn1, hn2⟩)
          obtain ⟨i0, hi, hz0, hz1, hz2⟩ := info_parts Tryd.info_intF
          go_wp2
          go_loopw [14, 15] (fun x14 x15 wr => ∃ k : Nat, k ≤ n ∧ x15 = .int .i64 k ∧ wr.ownsRow w.heap.size 3 1 x14 k (numCells (numsAt s k)) ∧ (numsAt s k).all (fun b => decide (b < 4096)) = true ∧ Below w.heap.size w wr) (fun _ x15 _ => n - (intOf x15).toNat)
          case atStart => exact ⟨0, by omega, rfl, World.ownsRow_nil _ _ _ _, rfl, Hb5.out⟩
          case round =>
            obtain ⟨k, hk, rfl, hown, hall, hbel⟩ := hrel
            have Hall := Lib.hid hall
            have Hbel := Lib.hid hbel
            have hbz := hbel.size
            obtain ⟨ax, cx, rfl⟩ := own_form hown
            have Hown := Lib.hid hown
            clear hall hbel hown
            by_cases hlt : k < n
            · have Htf := Lib.hid (hTF.out (16 + 4 * k) wr (by omega))
              have Hnb := Lib.hid (numAt_lt s (16 + 4 * k))
              have Hsucc := Lib.hid (numsAt_succ s k)
              have Hbig : Hid (4096 ≤ numAt s (16 + 4 * k) → (numsAt s n).all (fun b => decide (b < 4096)) = false) := Lib.hid (fun h => by
                rw [← Bool.not_eq_true, List.all_eq_true]
                intro hh
                have := hh (numAt s (16 + 4 * k)) (List.mem_map.2 ⟨k, by simpa using hlt, rfl⟩)
                have := of_decide_eq_true this
                omega)
              have hk1 : (k : Int) < (n : Int) := by omega
              have hk2 : (16 : Int) + 4 * (k : Int) ≤ 256 := by omega
              generalize numAt s (16 + 4 * k) = b at *
              go_wp2_with fail
              rw [Hx.out]
              refine Htf.out.mono ?_
              rintro e w6 ⟨rfl, hb6⟩
              have Hb6 := Lib.hid hb6
              have hb6s := hb6.size
              clear hb6
              by_cases hbb : b < 4096
              · have hbi : (b : Int) < 4096 := by omega
                have Hown6 := Lib.hid ((own_kept Hown.out Hb6.out).alloc (.cells #[.int .i64 (b : Int)] 3))
                have hcat : Hid (numCells (numsAt s k) ++ [.int .i64 (b : Int)] = numCells (numsAt s (k + 1))) := Lib.hid (by rw [Hsucc.out]; simp [numCells])
                have hall1 : Hid ((numsAt s (k + 1)).all (fun b => decide (b < 4096)) = true) := Lib.hid (by rw [Hsucc.out, List.all_append, Hall.out]; simpa using hbb)
                have hnews := Lib.hid (cell1_new w6 (.int .i64 (b : Int)) 3)
                go_wp2_with (at_builtin; go_must (refine wpList_append_where _ rfl _ _ 57 rfl w.heap.size 3 i0 (.int .i64 0) 1 8 Tryd.underlying57 hi hz0 hz1 hz2 rfl (by decide) _ _ _ rfl Hown6.out ⟨w6.heap.size, 0, none⟩ 1 1 [.int .i64 (b : Int)] rfl rfl ?c1 ?c2 ?c3 ?c4 ?c5 ?_))
                case c1 => exact hnews.out
                case c2 => simp [Value.oneCell']
                case c3 => unfold maxLen; omega
                case c4 => omega
                case c5 => simp; omega
                intro v' w7 hown7 hgrow7 _
                have hb7 : Below w.heap.size w w7 := (step_new (step_call Hbel.out Hb6.out) _).grown hgrow7 (by simp; omega) (fun q hq => (Hown.out.lt q hq).1)
                rw [hcat.out] at hown7
                have Hown7 := Lib.hid hown7
                have Hb7 := Lib.hid hb7
                clear hown7 hb7 hgrow7
                go_wp2
                go_roundw
                case rel => exact ⟨k + 1, by omega, by go_num, Hown7.out, hall1.out, Hb7.out⟩
                case measure => simp [intOf]; omega
              · have Hno : Hid (readB s = false) := Lib.hid (by rw [HB.out, Hbig.out (by omega)]; simp)
                have hbi : (4096 : Int) ≤ (b : Int) := by omega
                go_wp2
                go_ret3
                exact ⟨step_call Hbel.out Hb6.out, RefPost.no Hno.out⟩
            · obtain rfl : k = n := by omega
              have HB2 : Hid (readB s = allZero ((s.take 248).drop (16 + 4 * k))) := Lib.hid (by rw [HB.out, Hall.out, decide_eq_true Hn.out, HR.out]; rfl)
              have Hlen := Lib.hid (numsAt_length s k)
              have Htk := Lib.hid (show (s.take 248).length = 248 by rw [List.length_take, Hl.out]; rfl)
              have hlo := Hlo.out
              have hhi := Hhi.out
              obtain ⟨m, hm0⟩ : ∃ m, m = 16 + 4 * k := ⟨_, rfl⟩
              have Hm0 := Lib.hid hm0
              have hm1 : (16 : Int) + 4 * (k : Int) = (m : Int) := by omega
              have Hm1 := Lib.hid hm1
              have hm2 : m ≤ 248 := by omega
              clear hm0 hm1
              go_wp2_with fail
              try rw [Hm1.out]
              go_loop [19] (fun x19 => ∃ j : Nat, m ≤ j ∧ j ≤ 248 ∧ x19 = .int .i64 j ∧ allZero ((s.take 248).drop m) = allZero ((s.take 248).drop j)) (fun x19 => 248 - (intOf x19).toNat)
              case atStart => exact ⟨m, Nat.le_refl _, hm2, rfl, rfl⟩
              case round =>
                obtain ⟨j, hj1, hj2, rfl, hz⟩ := hrel
                have Hz := Lib.hid hz
                clear hz
                by_cases hj : j < 248
                · have hjs : j < (B s).size := by omega
                  have hjs2 : (j : Int) < ((B s).size : Int) := by omega
                  have Hst := Lib.hid (allZero_drop (s.take 248) j (by rw [Htk.out]; exact hj))
                  have hg : (s.take 248)[j]'(by rw [Htk.out]; exact hj) = (B s)[j]'hjs := by
                    rw [get_L]; simp [L_B]
                  rw [hg] at Hst
                  by_cases h0 : (B s)[j]'hjs = 0
                  · have h2 : ((((B s)[j]'hjs).toNat : Int) == 0) = true := by rw [h0]; rfl
                    have Hz1 : Hid (allZero ((s.take 248).drop m) = allZero ((s.take 248).drop (j + 1))) := Lib.hid (by rw [Hz.out, Hst.out, h0]; rfl)
                    clear h0 hg
                    go_wp2
                    go_round
                    case rel => exact ⟨j + 1, by omega, by omega, by go_num, Hz1.out⟩
                    case measure => simp [intOf]; omega
                  · have h2 : ((((B s)[j]'hjs).toNat : Int) == 0) = false := by
                      rw [beq_eq_false_iff_ne]
                      intro h
                      exact h0 (UInt8.toNat_inj.1 (by rw [show (0 : UInt8).toNat = 0 from rfl]; omega))
                    have Hno : Hid (readB s = false) := Lib.hid (by
                      rw [HB2.out, ← Hm0.out, Hz.out, Hst.out, Bool.and_eq_false_iff]
                      exact .inl (by simpa using h0))
                    clear h0 hg
                    go_wp2
                    go_ret3
                    exact ⟨Hbel.out, RefPost.no Hno.out⟩
                · obtain rfl : j = 248 := by omega
                  have Hfin : Hid (readL s = some (seqAt s, numsAt s k)) := Lib.hid (by rw [HL.out, HB2.out, ← Hm0.out, Hz.out, List.drop_of_length_le (by rw [Htk.out]; omega)]; rfl)
                  have hsq : ((n8 : Int) * 4294967296 + (n4 : Int)) = ((seqAt s : Nat) : Int) := by rw [Hseq.out]; omega
                  have Hsq := Lib.hid hsq
                  clear hsq
                  go_wp2
                  rw [Hsq.out]
                  go_ret3
                  refine ⟨Hbel.out, ?_⟩
                  unfold RefPost
                  rw [Hfin.out]
                  exact ⟨_, rfl, by rw [Hlen.out]; exact Hown.out⟩
        · have Hno : Hid (readB s = false) := Lib.hid (by rw [HB.out, decide_eq_false hn]; rfl)
          by_cases h1 : n < 1
          · clear hn
            go_wp2
            go_ret3
            exact ⟨Hb5.out, RefPost.no Hno.out⟩
          · have h2 : 48 < n := by omega
            clear hn
            go_wp2
            go_ret3
            exact ⟨Hb5.out, RefPost.no Hno.out⟩
      · have Hno : Hid (readB s = false) := Lib.hid (by unfold readB formB; rw [decide_eq_false hq]; simp)
        rw [decide_eq_false hq] at he
        clear hp hq hl
        go_enter Tryd.func38, Tryd.ntmps38
        go_wp2
        go_ret3
        exact ⟨Below.refl _ _, RefPost.no Hno.out⟩
    · have Hno : Hid (readB s = false) := Lib.hid (by unfold readB formB; rw [decide_eq_false hp]; simp)
      rw [decide_eq_false hp] at hm
      clear hp hl he
      go_enter Tryd.func38, Tryd.ntmps38
      go_wp2
      go_ret3
      exact ⟨Below.refl _ _, RefPost.no Hno.out⟩
  · have hne : (((B s).size : Int) != 256) = true := by rw [size_B, bne_iff_ne]; omega
    have Hno : Hid (readB s = false) := Lib.hid (by unfold readB formB; rw [decide_eq_false hl]; rfl)
    clear hl
    go_enter Tryd.func38, Tryd.ntmps38
    go_wp2
    go_ret3
    exact ⟨Below.refl _ _, RefPost.no Hno.out⟩
set_option maxRecDepth 100000 in
set_option maxHeartbeats 400000 in
theorem ref3_Head (s : Txt) (hs : s.length ≤ 9223372036854775807) (w : World) :
    Calls Tryd.prog 29 #[.string (B s)] w fun e w' => e = .returned (.tuple #[.int .u64 ((headV s).1 : Nat), .int .i64 ((headV s).2.1 : Nat), .bool (headV s).2.2]) ∧ Below w.heap.size w w' := by
  have Hr := Lib.hid (ref3_blocks s hs w)
  have HV : Hid (headV s = match readL s with | none => (0, 0, false) | some (q, l) => (q, l.length, true)) := Lib.hid rfl
  unfold RefPost at Hr
  generalize headV s = hv at *
  cases hc : readL s with
  | none =>
    rw [hc] at Hr HV
    simp only at Hr HV
    clear hc
    go_enter Tryd.func29, Tryd.ntmps29
    go_wp2_with fail
    refine Hr.out.mono ?_
    rintro e w1 ⟨hb1, rfl⟩
    go_wp2
    go_ret3
    exact ⟨by rw [HV.out]; rfl, hb1⟩
  | some q =>
    obtain ⟨seq, at'⟩ := q
    rw [hc] at Hr HV
    simp only at Hr HV
    clear hc
    go_enter Tryd.func29, Tryd.ntmps29
    go_wp2_with fail
    refine Hr.out.mono ?_
    rintro e w1 ⟨hb1, v, rfl, hown⟩
    obtain ⟨a, c, rfl⟩ := own_form hown
    have Hb1 := Lib.hid hb1
    clear hown hb1
    go_wp2
    go_ret3
    exact ⟨by rw [HV.out]; rfl, Hb1.out⟩
end Go.Proofs.YtnljmhdaloolgaaDoor
