/- Chapter 6: codexref6's Drop, New. Condition: at most 1024 blocks may be kept. -/
import Derived.Test.YtikkdhfbihejbaaCchY
namespace Go.Proofs.Ytikkdhfbihejbaa
open Go.RowKit Go.Cch
attribute [local go_sem] Oper.semAt_some

def keepK (x : Kd) : Bool := !x.dirty
set_option maxRecDepth 100000 in
set_option maxHeartbeats 1600000 in
theorem ref_Drop {w : World} {K rb : Nat} {v : Value} {c : Ch} (h : RAt w K rb v c) (hc : c.Ok) (hK : K ≤ w.heap.size) (hm : c.most ≤ 1024) :
    Calls Try.prog 39 #[.pointer (some ⟨rb, 0, none⟩)] w fun x w' => x = .returned (.tuple #[]) ∧ MutR w w' K rb v (dropC c) := by
  obtain ⟨i0, hi, hz0, hz1, hz2⟩ := info_parts Try.info_kd6
  have hl : c.l.length ≤ 100000 := Nat.le_trans hc.many (by omega)
  have hrb := h.lt (.inl rfl)
  obtain ⟨oa, cp, rfl⟩ := h.form
  have H := Lib.hid h
  clear h hc
  go_enter Try.func39, Try.ntmps39
  go_wp2
  go_loopw [2, 3] (fun ov z wr => ∃ k : Nat, k ≤ c.l.length ∧ z = .int .i64 k ∧ wr.ownsRow w.heap.size 57 4 ov ((c.l.take k).filter keepK).length (kdCells ((c.l.take k).filter keepK)) ∧ Below w.heap.size w wr) (fun _ z _ => c.l.length - (intOf z).toNat)
  case atStart => exact ⟨0, by omega, rfl, World.ownsRow_nil _ _ _ _, Below.refl _ _⟩
  case round =>
    obtain ⟨k, hk, rfl, hown, hb⟩ := hrel
    have hr := H.out.below hb
    obtain ⟨c0, -, -, f0, -⟩ := hr.cells
    have Hown := Lib.hid hown
    have Hb := Lib.hid hb
    have hsz := hb.size
    have hfl : ((c.l.take k).filter keepK).length ≤ 100000 := Nat.le_trans (List.length_filter_le _ _) (by rw [List.length_take]; omega)
    by_cases hlt : k < c.l.length
    · obtain ⟨g, rfl, -, e0, e1, e2, e3⟩ := hr.at hlt
      have hnx : (c.l.take (k + 1)).filter keepK = (c.l.take k).filter keepK ++ (if keepK c.l[k] then [c.l[k]] else []) := by
        rw [List.take_succ_eq_append_getElem hlt, List.filter_append]
        congr 1
        simp only [List.filter_cons, List.filter_nil]
      have Hnx := Lib.hid hnx
      clear hr hown hb hnx
      generalize c.l[k] = y at *
      cases hd : y.dirty with
      | true =>
        have hn2 : (c.l.take (k + 1)).filter keepK = (c.l.take k).filter keepK := by rw [Hnx.out]; unfold keepK; rw [hd]; simp
        have Hn2 := Lib.hid hn2
        rw [hd] at e2
        clear hn2 Hnx hd
        go_wp2
        go_roundw
        case rel => exact ⟨k + 1, by omega, by go_num, by rw [Hn2.out]; exact Hown.out, Hb.out⟩
        case measure => simp [intOf]; omega
      | false =>
        have hn2 : (c.l.take (k + 1)).filter keepK = (c.l.take k).filter keepK ++ [y] := by rw [Hnx.out]; unfold keepK; rw [hd]; simp
        have Hn2 := Lib.hid hn2
        rw [hd] at e2
        obtain ⟨oo, oc, rfl⟩ := own_form Hown.out
        have Ho := Lib.hid (Hown.out.alloc (.cells #[.int .i64 y.pos, .string (B y.data), .bool false, .int .i64 ((y.pins : Nat) : Int)] 57))
        have hwl : kdCells ((c.l.take k).filter keepK) ++ [.int .i64 y.pos, .string (B y.data), .bool false, .int .i64 ((y.pins : Nat) : Int)] = kdCells ((c.l.take k).filter keepK ++ [y]) := by
          rw [kdCells, kdCells, List.flatMap_append]; simp [kdC, hd]
        have Hwl := Lib.hid hwl
        clear hn2 Hnx hd hwl
        go_wp2_with (at_builtin; go_must (refine wpList_append_own _ rfl _ _ 51 rfl w.heap.size 57 i0 _ 4 40 Try.underlying51 hi hz0 hz1 hz2 rfl (by decide) _ _ _ rfl Ho.out ⟨wr.heap.size, 0, none⟩ 1 1 [.int .i64 y.pos, .string (B y.data), .bool false, .int .i64 ((y.pins : Nat) : Int)] rfl rfl ?c1 ?c2 ?c3 ?c4 ?c5 ?_))
        case c1 => exact cells_new wr wr.heap.size rfl [.int .i64 y.pos, .string (B y.data), .bool false, .int .i64 ((y.pins : Nat) : Int)] 57
        case c2 => simp [Value.oneCell']
        case c3 => unfold maxLen; omega
        case c4 => omega
        case c5 => simp; omega
        intro v' w5 hown' hgrow _
        have hb5 : Below w.heap.size w w5 := (step_new Hb.out _).grown hgrow (by simp; omega) (fun j hj => (Ho.out.lt j hj).1)
        have Hown5 := Lib.hid hown'
        have Hb5 := Lib.hid hb5
        clear hown' hb5 hgrow
        go_wp2
        go_roundw
        case rel => exact ⟨k + 1, by omega, by go_num, by rw [Hn2.out, List.length_append, List.length_singleton, ← Hwl.out]; exact Hown5.out, Hb5.out⟩
        case measure => simp [intOf]; omega
    · obtain rfl : k = c.l.length := by omega
      rw [List.take_length] at Hown
      have Hr := Lib.hid hr
      clear hr hown hb
      obtain ⟨oo, oc, rfl⟩ := own_form Hown.out
      have Hend : Hid (MutR w (wr.setCell ⟨rb, 0, none⟩ (.slice oo (c.l.filter keepK).length oc)) K rb (.slice oa c.l.length cp) (dropC c)) := Lib.hid (mut_of_store (v7 := .slice oo (c.l.filter keepK).length oc) H.out hK (by rw [heap_set_same Hr.out.blk]; rfl)
        (own_chg (A := fun k => k = rb) Hown.out ((Chg.refl _ wr).set _ _ _ (fun _ => rfl)) (fun k hk e => by have := (Hown.out.lt k hk).1; omega))
        ((Chg.of_below (A := fun k => k = rb) Hb.out).set _ _ _ (fun _ => rfl)))
      go_wp2
      go_end0
      exact ⟨rfl, Hend.out⟩
theorem wf64 {n : Int} (h : (Lit.int .i64 n).wf = true) : -9223372036854775808 ≤ n ∧ n ≤ 9223372036854775807 := keyI.low h
set_option maxRecDepth 100000 in
theorem ref_New (n : Int) (w : World) :
    Calls Try.prog 19 #[.int .i64 n] w fun x w' => x = .returned (.tuple #[.pointer (some ⟨w.heap.size, 0, none⟩), .bool (decide (1 ≤ n ∧ n ≤ 1024))]) ∧ w' = w.alloc (.cells #[.slice none 0 0, .int .i64 n, .int .i64 0] 53) := by
  by_cases h1 : (1 : Int) ≤ n
  · by_cases h2 : n ≤ 1024
    · rw [decide_eq_true ⟨h1, h2⟩]
      go_enter Try.func19, Try.ntmps19
      go_wp2
      go_ret2
      exact ⟨rfl, rfl⟩
    · rw [decide_eq_false (fun h => h2 h.2)]
      go_enter Try.func19, Try.ntmps19
      go_wp2
      go_ret2
      exact ⟨rfl, rfl⟩
  · rw [decide_eq_false (fun h => h1 h.1)]
    go_enter Try.func19, Try.ntmps19
    go_wp2
    go_ret2
    exact ⟨rfl, rfl⟩
theorem new_rat (w : World) (m : Nat) (K : Nat) (hK : K ≤ w.heap.size) : RAt (w.alloc (.cells #[.slice none 0 0, .int .i64 ((m : Nat) : Int), .int .i64 0] 53)) K w.heap.size (.slice none 0 0) (newC m) :=
  ⟨heap_alloc_new w _, World.ownsRow_nil _ _ _ _, (fun h => by cases h), hK⟩
end Go.Proofs.Ytikkdhfbihejbaa
