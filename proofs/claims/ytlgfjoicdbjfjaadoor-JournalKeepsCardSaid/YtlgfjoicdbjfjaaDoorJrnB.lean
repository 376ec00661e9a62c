/- Chapter 4: a block read as a slot. Conditions: it has 256 bytes. -/
import Derived.Test.YtlgfjoicdbjfjaaDoorJrnA
namespace Go.Proofs.YtlgfjoicdbjfjaaDoor
open Go.RowKit Go.Wir Go.Blk Go.Frm Go.Jrn

theorem results2_row {P : Program} {fn : Func} {p u : Tmp} {ty : TypeId} (h : fn.results = #[.cell p ty, .tmp u]) (tmps : Array Value) (w : World) (g : Nat) (t : TypeId) (cs : Array Value) (fr : Nat × Nat) (d : TypeDesc)
    (hp : tmps.getD p undef = .pointer (some ⟨g, 0, none⟩)) (hg : w.heap[g]? = some (.cells cs t fr))
    (hu : P.underlying ty = some d) (hd : (match d with | .struct _ | .array _ _ => true | _ => false) = true) (hi : (P.info? ty).map (·.size) = some cs.size) :
    (results fn tmps).run P w = .ok (.tuple #[.agg cs, tmps.getD u undef]) w := by
  rw [results_cell_tmp h, hp]
  simp [asAddr, run_loadVar_row w g t ty cs fr d hg hu hd hi]
theorem cells4 {w : World} {g : Nat} {x0 x1 x2 x3 : Value} {ty : TypeId} (h : w.heap[g]? = some (.cells #[x0, x1, x2, x3] ty (0, 0))) :
    w.cell? ⟨g, 0, none⟩ = some x0 ∧ w.cell? ⟨g, 1, none⟩ = some x1 ∧ w.cell? ⟨g, 2, none⟩ = some x2 ∧ w.cell? ⟨g, 3, none⟩ = some x3 ∧ w.frozen? ⟨g, 0, none⟩ = false ∧ w.frozen? ⟨g, 1, none⟩ = false ∧ w.frozen? ⟨g, 2, none⟩ = false ∧ w.frozen? ⟨g, 3, none⟩ = false :=
  ⟨by rw [Lib.cell_of_heap h]; rfl, by rw [Lib.cell_of_heap h]; rfl, by rw [Lib.cell_of_heap h]; rfl, by rw [Lib.cell_of_heap h]; rfl, Lib.frozen_of_heap h 0, Lib.frozen_of_heap h 1, Lib.frozen_of_heap h 2, Lib.frozen_of_heap h 3⟩
theorem set4 {w : World} {g : Nat} {x0 x1 x2 x3 : Value} {ty : TypeId} (v0 v1 v2 v3 : Value) (h : w.heap[g]? = some (.cells #[x0, x1, x2, x3] ty (0, 0))) :
    ((((w.setCell ⟨g, 0, none⟩ v0).setCell ⟨g, 1, none⟩ v1).setCell ⟨g, 2, none⟩ v2).setCell ⟨g, 3, none⟩ v3).heap[g]? = some (.cells #[v0, v1, v2, v3] ty (0, 0)) := by simp [World.setCell, Array.getElem?_modify, h]
theorem below_set {K : Nat} {W w : World} (h : Below K W w) (g k : Nat) (v : Value) (hg : K ≤ g) : Below K W (w.setCell ⟨g, k, none⟩ v) := h.setCell (p := ⟨g, k, none⟩) hg v
theorem h4c_call {w w' : World} {b : Nat} {v0 v1 v2 v3 : Value} (h : w.cell? ⟨b, 0, none⟩ = some v0 ∧ w.cell? ⟨b, 1, none⟩ = some v1 ∧ w.cell? ⟨b, 2, none⟩ = some v2 ∧ w.cell? ⟨b, 3, none⟩ = some v3) (hb : Below w.heap.size w w') :
    w'.cell? ⟨b, 0, none⟩ = some v0 ∧ w'.cell? ⟨b, 1, none⟩ = some v1 ∧ w'.cell? ⟨b, 2, none⟩ = some v2 ∧ w'.cell? ⟨b, 3, none⟩ = some v3 := ⟨cell_call hb h.1, cell_call hb h.2.1, cell_call hb h.2.2.1, cell_call hb h.2.2.2⟩
theorem blk_draw {w w' : World} {b : Nat} {o : Obj} (hb : Below w.drew.heap.size w.drew w') (h : w.heap[b]? = some o) : w'.heap[b]? = some o := (hb.block b (Array.getElem?_eq_some_iff.1 h).1).trans h
theorem below_draw {w w1 w2 : World} (h : Below w.heap.size w w1) (hb : Below w1.drew.heap.size w1.drew w2) : Below w.heap.size w w2 := step_call (below_to_drew h) hb
theorem h4c_set {w : World} {b g : Nat} {v0 v1 v2 v3 : Value} (h : w.cell? ⟨b, 0, none⟩ = some v0 ∧ w.cell? ⟨b, 1, none⟩ = some v1 ∧ w.cell? ⟨b, 2, none⟩ = some v2 ∧ w.cell? ⟨b, 3, none⟩ = some v3) (hne : g ≠ b) (k : Nat) (v : Value) :
    (w.setCell ⟨g, k, none⟩ v).cell? ⟨b, 0, none⟩ = some v0 ∧ (w.setCell ⟨g, k, none⟩ v).cell? ⟨b, 1, none⟩ = some v1 ∧ (w.setCell ⟨g, k, none⟩ v).cell? ⟨b, 2, none⟩ = some v2 ∧ (w.setCell ⟨g, k, none⟩ v).cell? ⟨b, 3, none⟩ = some v3 := by
  have hb := Below.heap_setCell w ⟨g, k, none⟩ v b hne.symm
  exact ⟨(World.cell?_of_block (a := ⟨b, 0, none⟩) hb).trans h.1, (World.cell?_of_block (a := ⟨b, 1, none⟩) hb).trans h.2.1, (World.cell?_of_block (a := ⟨b, 2, none⟩) hb).trans h.2.2.1, (World.cell?_of_block (a := ⟨b, 3, none⟩) hb).trans h.2.2.2⟩
theorem h4c_drew {w : World} {b : Nat} {v0 v1 v2 v3 : Value} (h0 : w.cell? ⟨b, 0, none⟩ = some v0) (h1 : w.cell? ⟨b, 1, none⟩ = some v1) (h2 : w.cell? ⟨b, 2, none⟩ = some v2) (h3 : w.cell? ⟨b, 3, none⟩ = some v3) :
    w.drew.cell? ⟨b, 0, none⟩ = some v0 ∧ w.drew.cell? ⟨b, 1, none⟩ = some v1 ∧ w.drew.cell? ⟨b, 2, none⟩ = some v2 ∧ w.drew.cell? ⟨b, 3, none⟩ = some v3 := ⟨h0, h1, h2, h3⟩
def vcs (t : Txt) (k : Nat) : Array Value := ((List.range 6).map fun i => Value.int .u64 ((if i < k then numAt t (4 + 4 * i) else 0 : Nat) : Int)).toArray
theorem vcs_size (t : Txt) (k : Nat) : (vcs t k).size = 6 := by simp [vcs]
theorem vcs_get (t : Txt) (k i : Nat) (h : i < 6) : (vcs t k)[i]? = some (.int .u64 ((if i < k then numAt t (4 + 4 * i) else 0 : Nat) : Int)) := by
  unfold vcs
  rw [List.getElem?_toArray, List.getElem?_map, List.getElem?_range h]; rfl
theorem vcs_set (t : Txt) (k : Nat) (h : k < 6) : (vcs t k).setIfInBounds k (.int .u64 ((numAt t (4 + 4 * k) : Nat) : Int)) = vcs t (k + 1) := by
  apply Array.ext_getElem?
  intro i
  rw [Array.getElem?_setIfInBounds, vcs_size]
  by_cases hi : i < 6
  · rw [vcs_get t (k + 1) i hi]
    by_cases e : k = i
    · subst e; rw [if_pos rfl, if_pos h, if_pos (by omega)]
    · rw [if_neg e, vcs_get t k i hi]
      by_cases h2 : i < k
      · rw [if_pos h2, if_pos (by omega)]
      · rw [if_neg h2, if_neg (by omega)]
  · have h1 : (vcs t k)[i]? = none := Array.getElem?_eq_none (by rw [vcs_size]; omega)
    have h2 : (vcs t (k + 1))[i]? = none := Array.getElem?_eq_none (by rw [vcs_size]; omega)
    rw [h1, h2]
    split
    · rename_i e; subst e; exact absurd h hi
    · rfl
set_option maxRecDepth 100000 in
set_option maxHeartbeats 6400000 in
theorem journal_toSlot (t : Txt) (n : Nat) (ht : t.length = 256) (hn : n ≤ 4096) (w : World) :
    Calls Tryd.prog 43 #[.string (B t), .int .i64 (n : Nat)] w fun e w' => ∃ x : Sl, e = .returned (.tuple #[slV x, .bool (okB t n)]) ∧ (okB t n = true → x = slotOf t) ∧ Below w.heap.size w w' := by
  have Htl := Lib.hid (show t.length ≤ 1000000 by omega)
  have hsz : (B t).size = 256 := by rw [size_B, ht]
  have hcut2 : (B t).extract 4 (B t).size = B (t.drop 4) := by rw [extract_to_end, L_B]
  have Hcut2 := Lib.hid hcut2
  have hs4 : (4 : Int) ≤ ((B t).size : Int) := by omega
  have Hsz := Lib.hid hsz
  have HF := Lib.hid (fun k (hk : k < 6) w => wire_ToFixed_at t (4 + 4 * k) (by omega) (by omega) w)
  clear hcut2 hsz
  have hb0 : Below w.heap.size w ((w.alloc (.cells #[.int .u64 0, .int .u64 0, .int .i64 0, .int .i64 0] 63)).alloc (.cells (vcs t 0) 94)) := step_new (step_new (Below.refl _ _) _) _
  have hq0 : ((w.alloc (.cells #[.int .u64 0, .int .u64 0, .int .i64 0, .int .i64 0] 63)).alloc (.cells (vcs t 0) 94)).heap[w.heap.size]? = some (.cells #[.int .u64 0, .int .u64 0, .int .i64 0, .int .i64 0] 63 (0, 0)) := (heap_alloc_old _ _ (by simp)).trans (heap_alloc_new _ _)
  have hq1 : ((w.alloc (.cells #[.int .u64 0, .int .u64 0, .int .i64 0, .int .i64 0] 63)).alloc (.cells (vcs t 0) 94)).heap[w.heap.size + 1]? = some (.cells (vcs t 0) 94 (0, 0)) := by
    have := heap_alloc_new (w.alloc (.cells #[.int .u64 0, .int .u64 0, .int .i64 0, .int .i64 0] 63)) (.cells (vcs t 0) 94)
    rwa [World.size_alloc] at this
  have Hq0 := Lib.hid hq0
  have Hq1 := Lib.hid hq1
  have Hb0 := Lib.hid hb0
  clear hb0 hq0 hq1
  go_enter Tryd.func43, Tryd.ntmps43
  go_wp2
  rw [Hcut2.out]
  have ev : vcs t 0 = #[.int .u64 0, .int .u64 0, .int .u64 0, .int .u64 0, .int .u64 0, .int .u64 0] := rfl
  rw [← ev]
  generalize (w.alloc (.cells #[.int .u64 0, .int .u64 0, .int .i64 0, .int .i64 0] 63)).alloc (.cells (vcs t 0) 94) = W at Hb0 Hq0 Hq1 ⊢
  go_loopw [15, 7] (fun x15 x7 wr => ∃ k : Nat, k ≤ 6 ∧ x15 = .int .i64 k ∧ x7 = .string (B (t.drop (4 + 4 * k))) ∧ wr.heap[w.heap.size]? = some (.cells #[.int .u64 0, .int .u64 0, .int .i64 0, .int .i64 0] 63 (0, 0)) ∧ wr.heap[w.heap.size + 1]? = some (.cells (vcs t k) 94 (0, 0)) ∧ Below w.heap.size w wr) (fun x15 _ _ => 6 - (intOf x15).toNat)
  case atStart => exact ⟨0, by omega, rfl, rfl, Hq0.out, Hq1.out, Hb0.out⟩
  case round =>
    obtain ⟨k, hk, rfl, rfl, hq0, hq1, hbel⟩ := hrel
    by_cases hlt : k < 6
    · have HF' := Lib.hid (HF.out k hlt)
      have Hset := Lib.hid (vcs_set t k hlt)
      have Hbel := Lib.hid hbel
      have hlt0 : w.heap.size < wr.heap.size := Array.getElem?_eq_some_iff.1 hq0 |>.1
      have hlt1 : w.heap.size + 1 < wr.heap.size := Array.getElem?_eq_some_iff.1 hq1 |>.1
      have hk1 : (0 : Int) ≤ (k : Int) := by omega
      have hk2 : (k : Int) < 6 := by omega
      have Hq0' := Lib.hid hq0
      have Hq1' := Lib.hid hq1
      have Hlt1 := Lib.hid hlt1
      clear hbel hq0 hq1 hlt1
      go_wp2_with fail
      refine (HF'.out _).mono ?_
      rintro e w1 ⟨rfl, hb1⟩
      have hr1 := (hb1.block (w.heap.size + 1) Hlt1.out).trans Hq1'.out
      have hr0 := (hb1.block w.heap.size hlt0).trans Hq0'.out
      have hc : w1.cell? ⟨w.heap.size + 1, k, none⟩ = some (.int .u64 0) := by
        rw [Lib.cell_of_heap hr1, vcs_get t k k hlt, if_neg (by omega)]; rfl
      have hf : w1.frozen? ⟨w.heap.size + 1, k, none⟩ = false := Lib.frozen_of_heap hr1 k
      have Hr1 := Lib.hid (show (w1.setCell ⟨w.heap.size + 1, k, none⟩ (.int .u64 ((numAt t (4 + 4 * k) : Nat) : Int))).heap[w.heap.size + 1]? = some (.cells (vcs t (k + 1)) 94 (0, 0)) by
        rw [← Hset.out]; simp [World.setCell, Array.getElem?_modify, hr1])
      have Hr0 := Lib.hid (show (w1.setCell ⟨w.heap.size + 1, k, none⟩ (.int .u64 ((numAt t (4 + 4 * k) : Nat) : Int))).heap[w.heap.size]? = some (.cells #[.int .u64 0, .int .u64 0, .int .i64 0, .int .i64 0] 63 (0, 0)) by
        rw [← hr0]; exact Below.heap_setCell _ _ _ _ (by simp))
      have Hb1 := Lib.hid (((Hbel.out.trans (hb1.mono Hbel.out.size)).setCell (p := ⟨w.heap.size + 1, k, none⟩) (Nat.le_succ _) (.int .u64 ((numAt t (4 + 4 * k) : Nat) : Int))))
      have hnum := numAt_lt t (4 + 4 * k)
      have Hdrop := Lib.hid (show 4 + 4 * k + 4 = 4 + 4 * (k + 1) by omega)
      clear hb1 hr1 hr0
      generalize numAt t (4 + 4 * k) = q at *
      go_wp2
      go_roundw
      case rel => exact ⟨k + 1, by omega, by go_num, by rw [Hdrop.out], Hr0.out, Hr1.out, Hb1.out⟩
      case measure => simp [intOf]; omega
    · obtain rfl : k = 6 := by omega
      have c : ∀ i (h : i < 6), wr.cell? ⟨w.heap.size + 1, i, none⟩ = some (.int .u64 ((numAt t (4 + 4 * i) : Nat) : Int)) := fun i h => by
        rw [Lib.cell_of_heap hq1, vcs_get t 6 i h, if_pos h]
      have c0 := c 0 (by omega)
      have c1 := c 1 (by omega)
      have c2 := c 2 (by omega)
      have c3 := c 3 (by omega)
      have c4 := c 4 (by omega)
      have c5 := c 5 (by omega)
      have n0 := numAt_lt t 4
      have n1 := numAt_lt t 8
      have n2 := numAt_lt t 12
      have n3 := numAt_lt t 16
      have n4 := numAt_lt t 20
      have n5 := numAt_lt t 24
      simp only [Nat.mul_zero, Nat.add_zero, Nat.reduceMul, Nat.reduceAdd] at c0 c1 c2 c3 c4 c5
      have HO : Hid (okB t n = (decide (50 ≤ numAt t 20) && (decide (numAt t 20 + 3 ≤ n) && (decide (numAt t 24 < numAt t 20) && decide (slotT (slotOf t) = t))))) := Lib.hid rfl
      have HS : Hid (slotOf t = ⟨numAt t 4 + 4294967296 * numAt t 8, numAt t 12 + 4294967296 * numAt t 16, numAt t 20, numAt t 24⟩) := Lib.hid rfl
      have Hbel := Lib.hid hbel
      have Hq0' := Lib.hid hq0
      clear c hq0 hq1 hbel
      have o1 := or64 (numAt t 8) (numAt t 4) n1 n0
      have o2 := or64 (numAt t 16) (numAt t 12) n3 n2
      generalize numAt t 4 = a0 at *
      generalize numAt t 8 = a1 at *
      generalize numAt t 12 = a2 at *
      generalize numAt t 16 = a3 at *
      generalize numAt t 20 = a4 at *
      generalize numAt t 24 = a5 at *
      obtain ⟨E, hE⟩ : ∃ E : Nat, (E : Int) = (a0 : Int) + 4294967296 * (a1 : Int) := ⟨a0 + 4294967296 * a1, by omega⟩
      obtain ⟨S, hS⟩ : ∃ S : Nat, (S : Int) = (a2 : Int) + 4294967296 * (a3 : Int) := ⟨a2 + 4294967296 * a3, by omega⟩
      have HX : Hid (slotOf t = ⟨E, S, a4, a5⟩) := Lib.hid (by rw [HS.out]; congr 1 <;> omega)
      have Hfit : Hid ((⟨E, S, a4, a5⟩ : Sl).Fit) := Lib.hid ⟨by simp only; omega, by simp only; omega, n4, n5⟩
      have HtX := Lib.hid (fun w => slot_text ⟨E, S, a4, a5⟩ Hfit.out w)
      unfold slV at HtX
      simp only at HtX
      go_wp2
      rw [← hE, ← hS]
      have g0 := (heap_alloc_old wr (.cells #[.int .u64 (E : Int), .int .u64 (S : Int), .int .i64 (a4 : Int), .int .i64 (a5 : Int)] 63) (show w.heap.size < wr.heap.size from (Array.getElem?_eq_some_iff.1 Hq0'.out).1)).trans Hq0'.out
      have g1 := heap_alloc_new wr (.cells #[.int .u64 (E : Int), .int .u64 (S : Int), .int .i64 (a4 : Int), .int .i64 (a5 : Int)] 63)
      have Hb2 := Lib.hid (step_new Hbel.out (.cells #[.int .u64 (E : Int), .int .u64 (S : Int), .int .i64 (a4 : Int), .int .i64 (a5 : Int)] 63))
      have hlt2 : w.heap.size < (wr.alloc (.cells #[.int .u64 (E : Int), .int .u64 (S : Int), .int .i64 (a4 : Int), .int .i64 (a5 : Int)] 63)).heap.size := (Array.getElem?_eq_some_iff.1 g0).1
      generalize wr.alloc (.cells #[.int .u64 (E : Int), .int .u64 (S : Int), .int .i64 (a4 : Int), .int .i64 (a5 : Int)] 63) = W2 at *
      have Hne := Lib.hid (show w.heap.size ≠ wr.heap.size from fun e => by have := (Array.getElem?_eq_some_iff.1 Hq0'.out).1; omega)
      generalize wr.heap.size = sb at *
      clear hE hS o1 o2 c0 c1 c2 c3 c4 c5 HS
      obtain ⟨r0, r1, r2, r3, f0, f1, f2, f3⟩ := cells4 g0
      obtain ⟨s0, s1, s2, s3, _, _, _, _⟩ := cells4 g1
      have Hg0 := Lib.hid g0
      have Hg1 := Lib.hid g1
      have Hlt2 := Lib.hid hlt2
      clear g0 g1 hlt2
      by_cases q1 : 50 ≤ a4
      · by_cases q2 : a4 + 3 ≤ n
        · by_cases q3 : a5 < a4
          · have d1 : decide ((50 : Int) ≤ (a4 : Int)) = true := decide_eq_true (by omega)
            have d2 : decide ((a4 : Int) ≤ (n : Int) - 2 - 1) = true := decide_eq_true (by omega)
            have d3 : decide ((a5 : Int) < (a4 : Int)) = true := decide_eq_true (by omega)
            have d4 : decide (a5 < a4) = true := decide_eq_true q3
            have w1 : IntKind.i64.wrap ((n : Int) - 2) = (n : Int) - 2 := IntWalk.i64_in _ (by omega)
            have w2 : IntKind.i64.wrap ((n : Int) - 2 - 1) = (n : Int) - 2 - 1 := IntWalk.i64_in _ (by clear w1; omega)
            obtain ⟨b, hbq⟩ : ∃ b, ((B (slotT ⟨E, S, a4, a5⟩)).toList == (B t).toList) = b := ⟨_, rfl⟩
            have HN : Hid (okB t n = b) := Lib.hid (by
              rw [HO.out, decide_eq_true q1, decide_eq_true q2, decide_eq_true q3, Bool.true_and, Bool.true_and, Bool.true_and, ← hbq, HX.out, toList_B, toList_B, Bool.eq_iff_iff]
              simp)
            generalize slotT ⟨E, S, a4, a5⟩ = tx at *
            go_region_held3 (fun w' => w'.cell? ⟨sb, 0, none⟩ = some (.int .u64 (E : Int)) ∧ w'.cell? ⟨sb, 1, none⟩ = some (.int .u64 (S : Int)) ∧ w'.cell? ⟨sb, 2, none⟩ = some (.int .i64 (a4 : Int)) ∧ w'.cell? ⟨sb, 3, none⟩ = some (.int .i64 (a5 : Int)))
              (first | with_reducible exact h4c_call (by assumption) hb5 | with_reducible exact h4c_drew s0 s1 s2 s3 | with_reducible assumption | with_reducible exact h4c_set (h4c_set (h4c_set (h4c_set (by assumption) Hne.out _ _) Hne.out _ _) Hne.out _ _) Hne.out _ _)
              ((go_at_call 42; (with_reducible refine (HtX.out _).mono ?_); rintro e w5 ⟨rfl, hb5⟩; have Hb5 := Lib.hid (below_draw Hb2.out hb5); have Hg5 := Lib.hid (blk_draw hb5 Hg0.out); obtain ⟨r0', r1', r2', r3', f0', f1', f2', f3'⟩ := cells4 Hg5.out))
            all_goals
              clear w1 w2
              go_wp2
              refine bodyPost_ret_by (results2_row rfl _ _ w.heap.size _ _ _ _ (by rfl) (set4 _ _ _ _ Hg5.out) Tryd.underlying63 rfl (by kernel_rfl)) rfl ⟨⟨E, S, a4, a5⟩, ?_, ?_, ?_⟩
              · rw [HN.out]; rfl
              · intro _; exact HX.out.symm
              · exact below_set (below_set (below_set (below_set Hb5.out _ _ _ (Nat.le_refl _)) _ _ _ (Nat.le_refl _)) _ _ _ (Nat.le_refl _)) _ _ _ (Nat.le_refl _)
          · have HN : Hid (okB t n = false) := Lib.hid (by rw [HO.out, decide_eq_false q3, Bool.false_and, Bool.and_false, Bool.and_false])
            have d1 : decide ((50 : Int) ≤ (a4 : Int)) = true := decide_eq_true (by omega)
            have d2 : decide ((a4 : Int) ≤ (n : Int) - 2 - 1) = true := decide_eq_true (by omega)
            have d3 : decide ((a5 : Int) < (a4 : Int)) = false := decide_eq_false (by omega)
            have d4 : decide (a5 < a4) = false := decide_eq_false q3
            go_region
            all_goals
              go_wp2
              refine bodyPost_ret_by (results2_row rfl _ _ w.heap.size _ _ _ _ (by rfl) (set4 _ _ _ _ Hg0.out) Tryd.underlying63 rfl (by kernel_rfl)) rfl ⟨⟨E, S, a4, a5⟩, ?_, ?_, ?_⟩
              · rw [HN.out]; rfl
              · rw [HN.out]; intro h; cases h
              · exact below_to_drew (below_set (below_set (below_set (below_set Hb2.out _ _ _ (Nat.le_refl _)) _ _ _ (Nat.le_refl _)) _ _ _ (Nat.le_refl _)) _ _ _ (Nat.le_refl _))
        · have HN : Hid (okB t n = false) := Lib.hid (by rw [HO.out, decide_eq_false q2, Bool.false_and, Bool.and_false])
          have d1 : decide ((50 : Int) ≤ (a4 : Int)) = true := decide_eq_true (by omega)
          have d2 : decide ((a4 : Int) ≤ (n : Int) - 2 - 1) = false := decide_eq_false (by omega)
          go_region
          all_goals
            go_wp2
            refine bodyPost_ret_by (results2_row rfl _ _ w.heap.size _ _ _ _ (by rfl) (set4 _ _ _ _ Hg0.out) Tryd.underlying63 rfl (by kernel_rfl)) rfl ⟨⟨E, S, a4, a5⟩, ?_, ?_, ?_⟩
            · rw [HN.out]; rfl
            · rw [HN.out]; intro h; cases h
            · exact below_to_drew (below_set (below_set (below_set (below_set Hb2.out _ _ _ (Nat.le_refl _)) _ _ _ (Nat.le_refl _)) _ _ _ (Nat.le_refl _)) _ _ _ (Nat.le_refl _))
      · have HN : Hid (okB t n = false) := Lib.hid (by rw [HO.out, decide_eq_false q1, Bool.false_and])
        have d1 : decide ((50 : Int) ≤ (a4 : Int)) = false := decide_eq_false (by omega)
        go_region
        all_goals
          go_wp2
          refine bodyPost_ret_by (results2_row rfl _ _ w.heap.size _ _ _ _ (by rfl) (set4 _ _ _ _ Hg0.out) Tryd.underlying63 rfl (by kernel_rfl)) rfl ⟨⟨E, S, a4, a5⟩, ?_, ?_, ?_⟩
          · rw [HN.out]; rfl
          · rw [HN.out]; intro h; cases h
          · exact below_to_drew (below_set (below_set (below_set (below_set Hb2.out _ _ _ (Nat.le_refl _)) _ _ _ (Nat.le_refl _)) _ _ _ (Nat.le_refl _)) _ _ _ (Nat.le_refl _))
end Go.Proofs.YtlgfjoicdbjfjaaDoor
