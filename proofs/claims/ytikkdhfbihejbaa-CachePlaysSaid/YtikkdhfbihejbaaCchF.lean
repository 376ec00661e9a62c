/- The law's own helpers of chapter 6: pick, full, at, data, the two sources, has. Conditions: numbers fit an int. -/
import Derived.Test.YtikkdhfbihejbaaCchD
import Derived.Test.YtikkdhfbihejbaaByteRow
namespace Go.Proofs.Ytikkdhfbihejbaa
open Go.RowKit Go.Cch Go.Lib
attribute [local go_sem] Oper.semAt_some

theorem pickI_fit (c n : Int) (_ : keyI c) (hn : 0 < n) (_ : n ≤ 1000) : 0 ≤ pickI c n ∧ pickI c n < n := pick_range c n hn
set_option maxRecDepth 100000 in
theorem law_pick (c n : Int) (hc : keyI c) (hn : 0 < n) (hn2 : n ≤ 1000) (w : World) :
    Calls Try.prog 10 #[.int .i64 c, .int .i64 n] w fun e w' => e = .returned (.int .i64 (pickI c n)) ∧ w = w' := by
  obtain ⟨h1, h2⟩ := hc.low
  have hR : Hid (pickI c n = (if c < 0 then -(c + 1) else c).tmod n) := Lib.hid rfl
  have hr := pick_range c n hn
  have hn0 : (n == 0) = false := by rw [beq_eq_false_iff_ne]; omega
  generalize pickI c n = r at *
  by_cases hc : c < 0
  · go_enter Try.func10, Try.ntmps10
    go_wp2
    go_ret
    exact ⟨ret_i64 (by rw [hR.out, if_pos hc, Int.neg_tmod]), rfl⟩
  · go_enter Try.func10, Try.ntmps10
    go_wp2
    go_ret
    exact ⟨ret_i64 (by rw [hR.out, if_neg (by omega), Int.tmod_eq_emod_of_nonneg (by omega)]), rfl⟩
theorem repl_set8 (a b : UInt8) (n k : Nat) (h : k < n) : (List.replicate k a ++ List.replicate (n - k) b).set k a = List.replicate (k + 1) a ++ List.replicate (n - (k + 1)) b := by
  apply List.ext_getElem
  · simp; omega
  · intro i h1 h2
    rw [List.getElem_set]
    simp only [List.getElem_append, List.length_replicate, List.getElem_replicate]
    split
    · rename_i e; subst e; simp
    · rename_i e
      by_cases h3 : i < k
      · simp [h3, show i < k + 1 by omega]
      · simp [h3, show ¬ i < k + 1 by omega]
theorem BRow.of_make {w : World} {base g n : Nat} (h : w.ownsRow base 5 1 (.slice (some ⟨g, 0, none⟩) n n) n (madeCells #[Value.int .u8 0] n).toList) : BRow w g (List.replicate n 0) := by
  rcases h.2 with ⟨h0, _⟩ | ⟨g', cap, cur, h0, hg, hh, h1, h2, h3, h4⟩
  · cases h0
  · simp only [Value.slice.injEq, Option.some.injEq, Addr.mk.injEq, and_true, true_and] at h0
    obtain ⟨rfl, rfl⟩ := h0
    refine ⟨cur, 0, 0, hh, by simp; omega, fun i hi => ?_, fun i _ h => by omega⟩
    simp at hi
    have : cur.toList[i]? = (madeCells #[Value.int .u8 0] n).toList[i]? := by rw [← h4, List.getElem?_take, Nat.mul_one, if_pos hi]
    rw [← Array.getElem?_toList, this]
    simp [madeCells, hi, Nat.mod_one]
theorem Try.info_u8b : (Try.prog.info? 5).map (fun i => (i.zero, i.size, i.bytes)) = some (some (.int .u8 0), 1, 1) := by kernel_rfl
set_option maxRecDepth 100000 in
set_option maxHeartbeats 800000 in
theorem law_full (c : UInt8) (w : World) : Calls Try.prog 23 #[.int .u8 ((c.toNat : Nat) : Int)] w fun e w' => e = .returned (.string (B (fullT c))) ∧ Below w.heap.size w w' := by
  obtain ⟨i0, hi, hz0, hz1, hz2⟩ := info_parts Try.info_u8b
  go_enter Try.func23, Try.ntmps23
  go_wp2_with (at_make; go_must (refine wpList_make_full w rfl _ _ 79 rfl 0 5 i0 (.int .u8 0) 1 Try.underlying79 hi hz0 hz1 _ _ _ _ 256 rfl rfl rfl rfl ?b2 ?b3 (Nat.zero_le _) ?_))
  case b2 => rw [hz2]; omega
  case b3 => unfold maxLen; omega
  intro w1 hown hgrow
  have hrow : BRow w1 w.heap.size (List.replicate 256 0) := BRow.of_make hown
  have hb1 : Below w.heap.size w w1 := (Below.refl _ w).grown hgrow (Nat.le_refl _) (fun k h => by cases h)
  clear hown hgrow
  have Hrow := Lib.hid hrow
  have Hb1 := Lib.hid hb1
  generalize hgb : w.heap.size = gb at *
  have Hgb := Lib.hid hgb
  clear hrow hb1 hgb
  go_wp2
  go_loopw [4] (fun x wr => ∃ k : Nat, k ≤ 256 ∧ x = .int .i64 k ∧ BRow wr gb (List.replicate k c ++ List.replicate (256 - k) 0) ∧ Below gb w wr) (fun x _ => 256 - (intOf x).toNat)
  case atStart => exact ⟨0, by omega, rfl, Hrow.out, Hb1.out⟩
  case round =>
    obtain ⟨k, hk, rfl, hr, hbel⟩ := hrel
    have hlen : (List.replicate k c ++ List.replicate (256 - k) (0 : UInt8)).length = 256 := by rw [List.length_append, List.length_replicate, List.length_replicate]; omega
    by_cases hlt : k < 256
    · have hkl : k < (List.replicate k c ++ List.replicate (256 - k) (0 : UInt8)).length := by omega
      obtain ⟨old, hold⟩ : ∃ v, wr.cell? ⟨gb, k, none⟩ = some v := ⟨_, hr.cell k hkl⟩
      have hfz := hr.frozen k hkl
      have hset := hr.set k hkl c
      rw [repl_set8 c 0 256 k hlt] at hset
      have Hset := Lib.hid hset
      have hbs := Lib.hid (hbel.setCell (p := ⟨gb, k, none⟩) (Nat.le_refl gb) (.int .u8 ((c.toNat : Nat) : Int)))
      clear hset hlen hr hkl
      go_wp2
      go_roundw
      case rel => exact ⟨k + 1, by omega, by go_num, Hset.out, hbs.out⟩
      case measure => simp [intOf]; omega
    · obtain rfl : k = 256 := by omega
      have hconv := hr.conv 256
      rw [hlen] at hconv
      have hfin : Hid (List.replicate 256 c ++ List.replicate (256 - 256) (0 : UInt8) = fullT c) := Lib.hid (by rw [Nat.sub_self, List.replicate_zero, List.append_nil]; rfl)
      rw [hfin.out] at hconv
      have Hbel := Lib.hid hbel
      clear hr hlen hbel
      go_wp2
      go_ret
      exact ⟨rfl, by rw [Hgb.out]; exact Hbel.out⟩
set_option maxRecDepth 100000 in
theorem law_at (a : Cch.Act) (h : keyI a.pos) (w : World) : Calls Try.prog 18 #[.agg #[.int .i64 a.op, .int .i64 a.pos, .int .u8 ((a.byte.toNat : Nat) : Int), .bool a.bad]] w fun e w' => e = .returned (.int .i64 a.block) ∧ Below w.heap.size w w' := by
  have hc1 : (w.alloc (.cells #[.int .i64 a.op, .int .i64 a.pos, .int .u8 ((a.byte.toNat : Nat) : Int), .bool a.bad] 35)).cell? ⟨w.heap.size, 1, none⟩ = some (.int .i64 a.pos) := by rw [Lib.cell_of_heap (heap_alloc_new w _)]; rfl
  have hb := step_new (Below.refl w.heap.size w) (.cells #[.int .i64 a.op, .int .i64 a.pos, .int .u8 ((a.byte.toNat : Nat) : Int), .bool a.bad] 35)
  have Hb := Lib.hid hb
  have hR : Hid (a.block = if a.pos.tmod 37 = 0 then a.pos else pickI a.pos 12) := Lib.hid rfl
  have hP := Lib.hid (law_pick a.pos 12 h (by omega) (by omega) (w.alloc (.cells #[.int .i64 a.op, .int .i64 a.pos, .int .u8 ((a.byte.toNat : Nat) : Int), .bool a.bad] 35)))
  have hlo := h.low
  clear hb
  by_cases h0 : a.pos.tmod 37 = 0
  · have h37 : (a.pos.tmod 37 == 0) = true := by rw [beq_iff_eq]; exact h0
    have hR2 : Hid (a.block = a.pos) := Lib.hid (by rw [hR.out, if_pos h0])
    clear h0
    go_enter Try.func18, Try.ntmps18
    go_wp2
    go_ret
    exact ⟨by rw [hR2.out]; rfl, Hb.out⟩
  · have h37 : (a.pos.tmod 37 == 0) = false := by rw [beq_eq_false_iff_ne]; exact h0
    have hR2 : Hid (a.block = pickI a.pos 12) := Lib.hid (by rw [hR.out, if_neg h0])
    clear h0
    go_enter Try.func18, Try.ntmps18
    go_wp2_with fail
    refine hP.out.mono ?_
    rintro e w2 ⟨rfl, rfl⟩
    go_wp2
    go_ret
    exact ⟨by rw [hR2.out]; rfl, Hb.out⟩
set_option maxRecDepth 100000 in
theorem law_data (a : Cch.Act) (w : World) : Calls Try.prog 31 #[.agg #[.int .i64 a.op, .int .i64 a.pos, .int .u8 ((a.byte.toNat : Nat) : Int), .bool a.bad]] w fun e w' => e = .returned (.string (B a.data)) ∧ Below w.heap.size w w' := by
  obtain ⟨op, pos, byte, bad⟩ := a
  cases bad
  case true =>
    have hc2 : (w.alloc (.cells #[.int .i64 op, .int .i64 pos, .int .u8 ((byte.toNat : Nat) : Int), .bool true] 35)).cell? ⟨w.heap.size, 2, none⟩ = some (.int .u8 ((byte.toNat : Nat) : Int)) := by rw [Lib.cell_of_heap (heap_alloc_new w _)]; rfl
    have hc3 : (w.alloc (.cells #[.int .i64 op, .int .i64 pos, .int .u8 ((byte.toNat : Nat) : Int), .bool true] 35)).cell? ⟨w.heap.size, 3, none⟩ = some (.bool true) := by rw [Lib.cell_of_heap (heap_alloc_new w _)]; rfl
    have Hb := Lib.hid (step_new (Below.refl w.heap.size w) (.cells #[.int .i64 op, .int .i64 pos, .int .u8 ((byte.toNat : Nat) : Int), .bool true] 35))
    show Calls Try.prog 31 _ w fun e w' => e = .returned (.string (B [120])) ∧ Below w.heap.size w w'
    go_enter Try.func31, Try.ntmps31
    go_wp2
    go_ret
    exact ⟨rfl, Hb.out⟩
  case false =>
    have hc2 : (w.alloc (.cells #[.int .i64 op, .int .i64 pos, .int .u8 ((byte.toNat : Nat) : Int), .bool false] 35)).cell? ⟨w.heap.size, 2, none⟩ = some (.int .u8 ((byte.toNat : Nat) : Int)) := by rw [Lib.cell_of_heap (heap_alloc_new w _)]; rfl
    have hc3 : (w.alloc (.cells #[.int .i64 op, .int .i64 pos, .int .u8 ((byte.toNat : Nat) : Int), .bool false] 35)).cell? ⟨w.heap.size, 3, none⟩ = some (.bool false) := by rw [Lib.cell_of_heap (heap_alloc_new w _)]; rfl
    have Hb := Lib.hid (step_new (Below.refl w.heap.size w) (.cells #[.int .i64 op, .int .i64 pos, .int .u8 ((byte.toNat : Nat) : Int), .bool false] 35))
    have hP := Lib.hid (law_full byte (w.alloc (.cells #[.int .i64 op, .int .i64 pos, .int .u8 ((byte.toNat : Nat) : Int), .bool false] 35)))
    show Calls Try.prog 31 _ w fun e w' => e = .returned (.string (B (fullT byte))) ∧ Below w.heap.size w w'
    go_enter Try.func31, Try.ntmps31
    go_wp2_with fail
    refine hP.out.mono ?_
    rintro e w2 ⟨rfl, hb2⟩
    have Hb2 := Lib.hid (step_call Hb.out hb2)
    clear hb2
    go_wp2
    go_ret
    exact ⟨rfl, Hb2.out⟩
set_option maxRecDepth 100000 in
theorem src_Read (i : Int) (h : keyI i) (w : World) : Calls Try.prog 24 #[.agg #[], .int .i64 i] w fun e w' => e = .returned (.tuple #[.string (B (if srcE i = 0 then srcT i else [])), .int .i64 (srcE i)]) ∧ Below w.heap.size w w' := by
  have hlo := h.low
  have Hb := Lib.hid (step_new (Below.refl w.heap.size w) (.cells #[] 30))
  by_cases h1 : i < 0
  · have hR : Hid (srcE i = 2) := Lib.hid (by unfold srcE; rw [if_neg (by omega)])
    rw [hR.out, if_neg (by decide)]
    go_enter Try.func24, Try.ntmps24
    go_wp2
    go_ret2
    exact ⟨rfl, Hb.out⟩
  · by_cases h2 : 200 ≤ i
    · have hR : Hid (srcE i = 2) := Lib.hid (by unfold srcE; rw [if_neg (by omega)])
      rw [hR.out, if_neg (by decide)]
      go_enter Try.func24, Try.ntmps24
      go_wp2
      go_ret2
      exact ⟨rfl, Hb.out⟩
    · have hR : Hid (srcE i = 0) := Lib.hid (by unfold srcE; rw [if_pos (by omega)])
      rw [hR.out, if_pos rfl]
      have hby : ((i.toNat.toUInt8.toNat : Nat) : Int) = i := by simp; omega
      have hF := law_full i.toNat.toUInt8 (w.alloc (.cells #[] 30))
      rw [hby] at hF
      have HF := Lib.hid hF
      have hwr : IntKind.u8.wrap i = i := by simp [IntKind.wrap, IntKind.bits, IntKind.signed]; omega
      have hT : Hid (srcT i = fullT i.toNat.toUInt8) := Lib.hid rfl
      clear hF hby
      go_enter Try.func24, Try.ntmps24
      go_wp2_with fail
      refine HF.out.mono ?_
      rintro e w2 ⟨rfl, hb2⟩
      have Hb2 := Lib.hid (step_call Hb.out hb2)
      clear hb2
      go_wp2
      go_ret2
      exact ⟨by rw [hT.out]; rfl, Hb2.out⟩
set_option maxRecDepth 100000 in
theorem law_has (l : List Int) (n : Int) (v : Value) (w : World) (hr : Row w v (l.map (Value.int .i64))) (hl : l.length ≤ 100000) : Calls Try.prog 17 #[v, .int .i64 n] w fun e w' => e = .returned (.bool (decide (n ∈ l))) ∧ w = w' := by
  obtain ⟨oa, cp, rfl⟩ := row_form hr
  rw [List.length_map] at *
  have Hr := Lib.hid hr
  clear hr
  go_enter Try.func17, Try.ntmps17
  go_wp2
  go_loop [5] (fun i => ∃ k : Nat, k ≤ l.length ∧ i = .int .i64 k ∧ ∀ j (hj : j < l.length), j < k → l[j] ≠ n) (fun i => l.length - (intOf i).toNat)
  case atStart => exact ⟨0, by omega, rfl, fun j _ h => by omega⟩
  case round =>
    obtain ⟨k, hk, rfl, hne⟩ := hrel
    have Hne := Lib.hid hne
    clear hne
    by_cases hlt : k < l.length
    · obtain ⟨b, off, rfl, hc⟩ := row_cells Hr.out hlt
      by_cases he : l[k] = n
      · have hR : Hid (decide (n ∈ l) = true) := Lib.hid (decide_eq_true (by rw [← he]; exact List.getElem_mem _))
        rw [he] at hc
        clear he
        go_wp2
        go_ret
        exact ⟨by rw [hR.out]; rfl, rfl⟩
      · have he2 : (l[k] == n) = false := by rw [beq_eq_false_iff_ne]; exact he
        have Hne2 : Hid (∀ j (hj : j < l.length), j < k + 1 → l[j] ≠ n) := Lib.hid (fun j hj hjk => by
          by_cases hjk2 : j = k
          · subst hjk2; exact he
          · exact Hne.out j hj (by omega))
        clear he
        go_wp2
        go_round
        case rel => exact ⟨k + 1, by omega, by go_num, Hne2.out⟩
        case measure => simp [intOf]; omega
    · have hR : Hid (decide (n ∈ l) = false) := Lib.hid (decide_eq_false (fun hm => by
        obtain ⟨j, hj, e⟩ := List.mem_iff_getElem.1 hm
        exact Hne.out j hj (by omega) e))
      obtain rfl : k = l.length := by omega
      go_wp2
      go_ret
      exact ⟨by rw [hR.out]; rfl, rfl⟩
end Go.Proofs.Ytikkdhfbihejbaa
