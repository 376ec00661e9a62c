/- The law DictValues returns true for every list, place and value. Condition: lengths and numbers fit an int. -/
import Derived.Test.YtefnddhondbjbaaLDictFinds
namespace Go.Proofs.Ytefnddhondbjbaa
open Go.RowKit Go.Wir Go.Dic

/-- A list with another value at one place. -/
def setV : List Ent → Nat → List UInt8 → List Ent
  | [], _, _ => []
  | e :: l, 0, v => (e.1, v) :: l
  | e :: l, k + 1, v => e :: setV l k v
theorem setV_length : ∀ (l : List Ent) (k : Nat) (v : List UInt8), (setV l k v).length = l.length
  | [], _, _ => rfl
  | _ :: _, 0, _ => rfl
  | _ :: l, k + 1, v => by simp [setV, setV_length l k v]
theorem setV_get : ∀ (l : List Ent) (k : Nat) (v : List UInt8) (i : Nat) (h : i < l.length), (setV l k v)[i]'(by rw [setV_length]; exact h) = (l[i].1, if i = k then v else l[i].2)
  | [], _, _, _, h => by simp at h
  | e :: l, 0, v, i, h => by cases i <;> simp [setV]
  | e :: l, k + 1, v, i, h => by
    cases i with
    | zero => simp [setV]
    | succ i =>
      simp only [setV, List.getElem_cons_succ]
      rw [setV_get l k v i (by simpa using h)]
      simp
theorem setV_rises : ∀ (l : List Ent) (k : Nat) (v p : List UInt8), v.length ≤ 4194304 → rises p l = true → rises p (setV l k v) = true
  | [], _, _, _, _, _ => rfl
  | e :: l, 0, v, p, hv, h => by
    simp only [setV, rises] at *
    split at h
    · cases h
    · rename_i h1
      rw [if_neg h1]
      split at h
      · cases h
      · rename_i h2
        rw [if_neg h2]
        split at h
        · cases h
        · rw [if_neg (by omega)]; exact h
  | e :: l, k + 1, v, p, hv, h => by
    simp only [setV, rises] at *
    split at h
    · cases h
    · rename_i h1
      rw [if_neg h1]
      split at h
      · cases h
      · rename_i h2
        rw [if_neg h2]
        split at h
        · cases h
        · rename_i h3
          rw [if_neg h3]; exact setV_rises l k v _ hv h
theorem setV_right {l : List Ent} (h : right l = true) (k : Nat) (v : List UInt8) (hv : v.length ≤ 4194304) : right (setV l k v) = true := by
  unfold right at *
  rw [Bool.and_eq_true] at *
  exact ⟨setV_rises l k v [] hv h.1, by rw [setV_length]; exact h.2⟩
theorem own_empty (w : World) (t : TypeId) (size base : Nat) (hb : base ≤ w.heap.size) : (w.alloc (.cells #[] t)).ownsRow base t size (.slice (some ⟨w.heap.size, 0, none⟩) 0 0) 0 [] :=
  ⟨by simp, .inr ⟨w.heap.size, 0, #[], rfl, hb, heap_alloc_new w _, by omega, by unfold maxLen; omega, by simp, by simp⟩⟩
/-- A store of a value into a row of the call's own. -/
theorem own_store {w : World} {base g cap : Nat} {T : TypeId} {l : List Ent} {k : Nat} {v : List UInt8} (h : w.ownsRow base T 2 (.slice (some ⟨g, 0, none⟩) l.length cap) l.length (entCells l)) (hk : k < l.length) :
    Ents (w.setCell ⟨g, k * 2 + 1, none⟩ (.string (B v))) (.slice (some ⟨g, 0, none⟩) l.length cap) (setV l k v) ∧ w.cell? ⟨g, k * 2 + 1, none⟩ = some (.string (B l[k].2)) ∧ w.frozen? ⟨g, k * 2 + 1, none⟩ = false := by
  rcases h.2 with ⟨h0, _⟩ | ⟨g', cap', cur, h0, hg, hh, h1, h2, h3, h4⟩
  · cases h0
  simp only [Value.slice.injEq, Option.some.injEq, Addr.mk.injEq, and_true, true_and] at h0
  obtain ⟨rfl, rfl⟩ := h0
  have hcur : ∀ i (hi : i < l.length), cur[i * 2]? = some (.string (B l[i].1)) ∧ cur[i * 2 + 1]? = some (.string (B l[i].2)) := by
    intro i hi
    obtain ⟨e1, e2⟩ := entCells_get l i hi
    have k1 : cur[i * 2]? = (entCells l)[i * 2]? := by rw [← h4, List.getElem?_take, if_pos (by omega), Array.getElem?_toList]
    have k2 : cur[i * 2 + 1]? = (entCells l)[i * 2 + 1]? := by rw [← h4, List.getElem?_take, if_pos (by omega), Array.getElem?_toList]
    exact ⟨by rw [k1, e1], by rw [k2, e2]⟩
  have hb : (w.setCell ⟨g, k * 2 + 1, none⟩ (.string (B v))).heap[g]? = some (.cells (cur.setIfInBounds (k * 2 + 1) (.string (B v))) T (0, 0)) := by
    simp [World.setCell, Array.getElem?_modify, hh]
  have hgl : g < w.heap.size := by
    rcases Nat.lt_or_ge g w.heap.size with h' | h'
    · exact h'
    · simp [Array.getElem?_eq_none h'] at hh
  refine ⟨.inr ⟨g, 0, cap, by rw [setV_length], by rw [setV_length]; exact h1, by simpa [World.setCell] using hgl, fun i hi => ?_⟩, ?_, Lib.frozen_of_heap hh _⟩
  · rw [setV_length] at hi
    rw [setV_get l k v i hi]
    obtain ⟨c1, c2⟩ := hcur i hi
    constructor
    · rw [Lib.cell_of_heap hb, Nat.zero_add, Array.getElem?_setIfInBounds, if_neg (by omega), c1]
    · rw [Lib.cell_of_heap hb, Nat.zero_add, Array.getElem?_setIfInBounds]
      by_cases e : i = k
      · subst e
        rw [if_pos rfl, if_pos (by omega)]; simp
      · rw [if_neg (by omega), c2]; simp [e]
  · rw [Lib.cell_of_heap hh]; exact (hcur k hk).2

set_option maxRecDepth 100000 in
set_option maxHeartbeats 3200000 in
theorem walk_DictValues (v : Value) (l : List Ent) (at0 : Int) (s : ByteArray) (w : World) (hv : Ents w v l) (hz : ∀ e ∈ l, e.1.length ≤ maxLen ∧ e.2.length ≤ maxLen) (hn : l.length ≤ maxLen)
    (hat : (Lit.int .i64 at0).wf = true) (hs : s.size ≤ maxLen) :
    Calls Try.prog 6 #[v, .int .i64 at0, .string s] w fun e w' => e = .returned (.bool true) ∧ Below w.heap.size w w' := by
  unfold maxLen at hz hn hs
  have hat := bounds_i64 hat
  have Hz := Lib.hid hz
  have Hv := Lib.hid hv
  clear hz hv
  obtain ⟨i0, hi, hz0, hz1, hz2⟩ := info_parts Try.info_ent
  cases hok : asOk l with
  | false =>
    go_enter Try.func6, Try.ntmps6
    go_wp2_with fail
    refine (shown13 w).mono ?_
    rintro e w1 ⟨rfl, b1⟩
    have B1 := Lib.hid b1
    clear b1
    go_wp2_with fail
    refine (law_as v l (by omega) Hz.out _ (Hv.out.below B1.out)).mono ?_
    rintro e w2 ⟨b2, h2⟩
    unfold AsPost at h2
    rw [hok, if_neg (by simp)] at h2
    subst h2
    have B2 := Lib.hid (step_call B1.out b2)
    clear b2 hok
    go_wp2_with fail
    refine (dict_Right v l _ (Hv.out.below B2.out) (by omega) Hz.out).mono ?_
    rintro e w3 ⟨rfl, b3⟩
    have B3 := Lib.hid (step_call B2.out b3)
    clear b3
    go_wp2
    go_ret
    exact ⟨rfl, B3.out⟩
  | true =>
    have hl3 := asOk_len hok
    obtain ⟨oa, c, rfl⟩ : ∃ oa c, v = .slice oa l.length c := by
      rcases Hv.out with ⟨a, cap, rfl, h⟩ | ⟨b, off, cap, rfl, _⟩
      · exact ⟨a, cap, by rw [h]; rfl⟩
      · exact ⟨_, _, rfl⟩
    go_enter Try.func6, Try.ntmps6
    go_wp2_with fail
    refine (shown13 w).mono ?_
    rintro e w1 ⟨rfl, b1⟩
    have B1 := Lib.hid b1
    clear b1
    go_wp2_with fail
    refine (law_as _ l (by omega) Hz.out _ (Hv.out.below B1.out)).mono ?_
    rintro e w2 ⟨b2, h2⟩
    unfold AsPost at h2
    rw [hok, if_pos rfl] at h2
    obtain ⟨v', rfl, hv'⟩ := h2
    have B2 := Lib.hid (step_call B1.out b2)
    clear b2 hok hv'
    go_wp2_with fail
    refine (dict_Right _ l _ (Hv.out.below B2.out) (by omega) Hz.out).mono ?_
    rintro e w3 ⟨rfl, b3⟩
    have B3 := Lib.hid (step_call B2.out b3)
    clear b3
    cases hr : right l with
    | false =>
      clear hr
      go_wp2
      go_ret
      exact ⟨rfl, B3.out⟩
    | true =>
      have Hr := Lib.hid hr
      clear hr
      by_cases h0 : 0 < l.length
      · have hl0 : ((l.length : Int) == 0) = false := by rw [beq_eq_false_iff_ne]; omega
        by_cases h2 : 1000 < s.size
        · go_wp2
          go_ret
          exact ⟨rfl, B3.out⟩
        have hk := pickN_lt at0 l.length h0
        go_wp2_with fail
        refine (law_pick at0 l.length hat.1 hat.2 h0 (by omega) _).mono ?_
        rintro e w4 ⟨rfl, rfl⟩
        generalize pickN at0 l.length = k at *
        have hown := own_empty w3 35 2 w3.heap.size (Nat.le_refl _)
        have Hv4 := Lib.hid ((Hv.out.below B3.out).below (step_new (Below.refl _ w3) (.cells #[] 35)))
        obtain ⟨b, off, cap, h5, hb, hcell⟩ := ents_row Hv.out h0
        simp only [Value.slice.injEq] at h5
        obtain ⟨rfl, _, rfl⟩ := h5
        clear hcell
        go_wp2_with (at_builtin; go_must (refine wpList_append_where _ rfl _ _ 22 rfl w3.heap.size 35 i0 (.agg #[.string ⟨#[]⟩, .string ⟨#[]⟩]) 2 32 Try.underlying22 hi hz0 hz1 hz2 rfl (by decide) _ _ _ rfl hown ⟨b, off, none⟩ l.length c (entCells l) rfl (entCells_length l) (ents_news Hv4.out _ rfl) (entCells_one l) ?c3 ?c4 ?c5 ?_))
        case c3 => unfold maxLen; omega
        case c4 => omega
        case c5 => simp
        intro v' w6 hown' hgrow _
        try rw [Nat.zero_add] at hown'
        try rw [List.nil_append] at hown'
        have B6 := Lib.hid ((step_new B3.out (.cells #[] 35)).grown hgrow (by have := B3.out.size; simp; omega) (fun q hq => by
          simp only [Value.ownBlock, Option.some.injEq] at hq
          have := B3.out.size
          omega))
        obtain ⟨g, cap6, rfl, hg6⟩ : ∃ g cap, v' = .slice (some ⟨g, 0, none⟩) l.length cap ∧ w3.heap.size ≤ g := by
          rcases hown'.2 with ⟨_, h7⟩ | ⟨g, cap, _, h7, h8, _⟩
          · omega
          · exact ⟨g, cap, h7, h8⟩
        obtain ⟨hst, c6, f6⟩ := own_store (v := L s) hown' hk
        rw [B_L] at hst
        have Hst := Lib.hid hst
        have hg7 : w.heap.size ≤ g := by have := B3.out.size; omega
        have B7 := Lib.hid (B6.out.setCell (p := ⟨g, k * 2 + 1, none⟩) hg7 (.string s))
        have hk1 : (k : Int) < (l.length : Int) := by omega
        have hsr := setV_right Hr.out k (L s) (by rw [length_L]; omega)
        have Hsr := Lib.hid hsr
        have Hsl := Lib.hid (setV_length l k (L s))
        have Hget := Lib.hid (setV_get l k (L s))
        have Hpk := Lib.hid (dict_Pack_right _ _ _ Hst.out hsr)
        have Hg := Lib.hid (dict_Get_at (setV l k (L s)) hsr (by rw [setV_length]; exact hl3))
        clear hown' hgrow hown hst hsr
        go_wp2_with fail
        refine Hpk.out.mono ?_
        rintro e w8 ⟨rfl, b8⟩
        have B8 := Lib.hid (step_call B7.out b8)
        clear b8 c6 f6
        generalize B (bytesL (setV l k (L s))) = bs at *
        go_wp2
        go_loopw [15] (fun i wr => ∃ j : Nat, j ≤ l.length ∧ i = .int .i64 j ∧ Below w.heap.size w wr) (fun i _ => l.length - (intOf i).toNat)
        case atStart => exact ⟨0, by omega, rfl, B8.out⟩
        case round =>
          obtain ⟨j, hj, rfl, hbel⟩ := hrel
          by_cases hlt : j < l.length
          · obtain ⟨b', off', cap', h5, hb', hcell⟩ := ents_row Hv.out h0
            simp only [Value.slice.injEq, Option.some.injEq, Addr.mk.injEq, and_true, true_and] at h5
            obtain ⟨⟨rfl, rfl⟩, rfl⟩ := h5
            obtain ⟨d1, d2⟩ := hcell j hlt
            have d1 := cell_below hbel hb d1
            have d2 := cell_below hbel hb d2
            have hgj := Hget.out j hlt
            have hmem : (setV l k (L s))[j]'(by rw [setV_length]; exact hlt) ∈ setV l k (L s) := List.getElem_mem _
            have hf := find_sorted (right_sorted Hsr.out) hmem
            rw [hgj] at hf
            simp only at hf
            have Hc : Hid (∀ w, Calls Try.prog 19 #[.string bs, .string (B l[j].1)] w fun e w' => e = .returned (.tuple #[.string (B (if j = k then L s else l[j].2)), .bool true]) ∧ Below w.heap.size w w') := Lib.hid (fun w' => by
              have := Hg.out (B l[j].1) w'
              rw [L_B, hf] at this
              exact this)
            have Hbel := Lib.hid hbel
            clear hgj hmem hf hcell hbel
            generalize l[j] = e at *
            obtain ⟨x, y⟩ := e
            simp only at d1 d2 Hc
            have hj1 : (j : Int) < (l.length : Int) := by omega
            by_cases hjk : j = k
            · rw [if_pos hjk, B_L] at Hc
              have q1 : ((j : Int) != (k : Int)) = false := by rw [hjk]; simp
              have q2 : ((j : Int) == (k : Int)) = true := by rw [hjk]; simp
              have q3 : (s.toList != s.toList) = false := by simp
              clear hjk
              go_wp2_with fail
              refine (Hc.out _).mono ?_
              rintro e w9 ⟨rfl, b9⟩
              have B9 := Lib.hid (step_call Hbel.out b9)
              clear b9 d1 d2
              go_wp2
              go_roundw
              case rel => exact ⟨j + 1, by omega, by go_num, B9.out⟩
              case measure => simp [intOf]; omega
            · rw [if_neg hjk] at Hc
              have q1 : ((j : Int) != (k : Int)) = true := by rw [bne_iff_ne]; omega
              have q2 : ((j : Int) == (k : Int)) = false := by rw [beq_eq_false_iff_ne]; omega
              have q3 : ((B y).toList != (B y).toList) = false := by simp
              clear hjk
              go_wp2_with fail
              refine (Hc.out _).mono ?_
              rintro e w9 ⟨rfl, b9⟩
              have B9 := Lib.hid (step_call Hbel.out b9)
              have d2 := cell_below b9 (lt_of_cell d2) d2
              clear b9 d1
              go_wp2
              go_roundw
              case rel => exact ⟨j + 1, by omega, by go_num, B9.out⟩
              case measure => simp [intOf]; omega
          · obtain rfl : j = l.length := by omega
            go_wp2
            go_ret
            exact ⟨rfl, hbel⟩
      · obtain rfl : l = [] := List.eq_nil_of_length_eq_zero (by omega)
        go_wp2
        go_ret
        exact ⟨rfl, B3.out⟩
end Go.Proofs.Ytefnddhondbjbaa
