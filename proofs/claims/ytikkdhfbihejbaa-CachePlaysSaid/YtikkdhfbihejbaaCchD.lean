/- Chapter 6: slices.Backward's iterator, and the cache's room. Conditions: the numbers are small. -/
import Derived.Test.YtikkdhfbihejbaaCchC
import Derived.Test.YtikkdhfbihejbaaRangeSeq
import Derived.RangeFuncLeaves
import Derived.RangeFuncBox
import Derived.Shelf.Abstract
import Derived.OwnWalkIn
import Derived.TacticsInMore
import Derived.LoopNIn
import Derived.LoopIn
namespace Go.Proofs.Ytikkdhfbihejbaa
open Go.RowKit Go.Cch Go.Shelf Go.Lib
attribute [local go_sem] Oper.semAt_some

theorem row_form {w : World} {v : Value} {vs : List Value} (h : Row w v vs) : ∃ oa c, v = .slice oa vs.length c := by
  rcases h with ⟨a, cap, rfl, h⟩ | ⟨b, off, cap, rfl, _⟩
  · exact ⟨a, cap, by rw [h]; rfl⟩
  · exact ⟨_, _, rfl⟩
theorem row_cells {w : World} {oa : Option Addr} {c : Nat} {l : List Int} (h : Row w (.slice oa l.length c) (l.map (Value.int .i64))) {k : Nat} (hk : k < l.length) : ∃ b off, oa = some ⟨b, off, none⟩ ∧ w.cell? ⟨b, off + k, none⟩ = some (.int .i64 l[k]) := by
  rcases h with ⟨a, cap, _, h⟩ | ⟨b, off, cap, h1, _, _, h4⟩
  · rw [List.map_eq_nil_iff] at h; subst h; simp at hk
  · simp only [Value.slice.injEq] at h1
    refine ⟨b, off, h1.1, ?_⟩
    have := h4 k (by simpa using hk)
    rw [this]; simp
theorem row_keep {w w' : World} {v : Value} {vs : List Value} (h : Row w v vs) (hs : w.heap.size ≤ w'.heap.size) (hk : ∀ k, v.ownBlock = some k → w'.heap[k]? = w.heap[k]?) : Row w' v vs := by
  rcases h with h | ⟨b, off, cap, rfl, h2, h3, h4⟩
  · exact .inl h
  · refine .inr ⟨b, off, cap, rfl, h2, by omega, fun i hi => ?_⟩
    rw [← h4 i hi]
    exact World.cell?_of_block (a := ⟨b, off + i, none⟩) (hk b rfl)
def pairI (x : Int × Nat) : Array Value := #[.int .i64 ((x.2 : Nat) : Int), .int .i64 x.1]
/-- What a round leaves as it was: the slice's box, its elements. -/
def KpB (bx : Nat) (v : Value) (W W' : World) : Prop := W.heap.size ≤ W'.heap.size ∧ W'.heap[bx]? = W.heap[bx]? ∧ ∀ k, v.ownBlock = some k → W'.heap[k]? = W.heap[k]?
theorem kpb_t {bx : Nat} {v : Value} {A B C : World} (h : KpB bx v A B) (k : KpB bx v B C) : KpB bx v A C := ⟨Nat.le_trans h.1 k.1, k.2.1.trans h.2.1, fun j hj => (k.2.2 j hj).trans (h.2.2 j hj)⟩
theorem zip_drop (l : List Int) (k : Nat) (hk : k < l.length) : (l.zipIdx.drop k).reverse = (l.zipIdx.drop (k + 1)).reverse ++ [(l[k], k)] := by
  have h1 : k < l.zipIdx.length := by simpa using hk
  rw [List.drop_eq_getElem_cons h1, List.reverse_cons]
  simp
theorem zip_pre (l : List Int) (k : Nat) : (l.zipIdx.drop k).reverse <+: l.zipIdx.reverse := List.reverse_prefix.2 (List.drop_suffix _ _)
set_option maxRecDepth 100000 in
set_option maxHeartbeats 3200000 in
theorem back_gives (n : Nat) (hn : 1 ≤ n) (bx : Nat) (v : Value) (l : List Int) (hl : l.length ≤ 100000) (w : World) (hbx : w.heap[bx]? = some (.cells #[v] 37 (0, 0))) (hr : Row w v (l.map (Value.int .i64))) :
    Gives2 3 Fence.wide n Try.prog 53 #[.pointer (some ⟨bx, 0, none⟩)] pairI (KpB bx v) l.zipIdx.reverse w := by
  intro l' J Jx W hW hsz hJ hJx hY h0
  have hbW : W.heap[bx]? = some (.cells #[v] 37 (0, 0)) := (hW.block bx (Array.getElem?_eq_some_iff.1 hbx).1).trans hbx
  have hrW := hr.below hW
  obtain ⟨oa, cp, rfl⟩ := row_form hr
  rw [List.length_map] at *
  have HY := Lib.hid hY
  have H0 := Lib.hid h0
  have hcell := Boxed.cell hbW
  have HbW := Lib.hid hbW
  have HrW := Lib.hid hrW
  clear hbx hr hJ hJx hY h0 hW hbW hrW
  refine callsIn_of_wp Try.func53 rfl trivial ?_ rfl
  simp only [Try.ntmps53, List.size_toArray, List.length_cons, List.length_nil, Nat.reduceAdd, Nat.reduceSub, Array.replicate_succ, Array.replicate_zero, List.push_toArray, List.append_toArray, List.nil_append, List.cons_append]
  gi_wp2
  clear hcell
  gi_loopw [3] (fun i wr => ∃ k : Nat, k ≤ l.length ∧ i = .int .i64 ((k : Int) - 1) ∧ J (l.zipIdx.drop k).reverse wr ∧ wr.heap[bx]? = some (.cells #[.slice oa l.length cp] 37 (0, 0)) ∧ Row wr (.slice oa l.length cp) (l.map (Value.int .i64))) (fun i _ => (intOf i + 1).toNat)
  case atStart =>
    refine ⟨l.length, Nat.le_refl _, rfl, ?_, HbW.out, HrW.out⟩
    rw [List.drop_of_length_le (by simp)]
    exact H0.out
  case round =>
    obtain ⟨k, hk, rfl, hj, hb, hrow⟩ := hrel
    cases k with
    | zero =>
      clear hb hrow
      rw [List.drop_zero] at hj
      have Hj := Lib.hid hj
      clear hj
      have hz : ¬ (0 : Int) ≤ -1 := by omega
      rw [show (((0 : Nat) : Int) - 1) = -1 from rfl]
      gi_wp2
      go_end0
      exact ⟨⟨_, rfl⟩, .inl Hj.out⟩
    | succ k =>
      obtain ⟨b, off, rfl, hc⟩ := row_cells hrow (show k < l.length by omega)
      have hcell := Boxed.cell hb
      have hstep := zip_drop l k (by omega)
      have hpre : (l.zipIdx.drop (k + 1)).reverse ++ [(l[k], k)] <+: l.zipIdx.reverse := by rw [← hstep]; exact zip_pre l k
      have hYx := HY.out _ (l[k], k) wr hj hpre
      unfold pairI at hYx
      obtain ⟨fn, tmps, assign, body, hy, hRd⟩ := hYx
      dsimp only at hy
      have Hb := Lib.hid hb
      have Hrow := Lib.hid hrow
      have Hpre := Lib.hid hpre
      have Hstep := Lib.hid hstep
      have hk1 : ((k + 1 : Nat) : Int) - 1 = (k : Int) := by omega
      rw [hk1] at *
      have hk2 : (0 : Int) ≤ (k : Int) := by omega
      have hk3 : (k : Int) < (l.length : Int) := by omega
      clear hb hrow hpre hstep hj hk1
      generalize hx : l[k] = x at *
      gi_wp2
      refine hRd.mono ?_
      rintro e W3 (⟨rfl, hJ3, hk3⟩ | ⟨rfl, hJx3, -⟩)
      · gi_wp2
        go_roundw
        case rel => exact ⟨k, by omega, by go_num, by rw [Hstep.out]; exact hJ3, hk3.2.1.trans Hb.out, row_keep Hrow.out hk3.1 hk3.2.2⟩
        case measure => simp [intOf]
      · gi_wp2
        refine bodyPost_ret (results_none rfl _ _ _) rfl ?_
        exact ⟨⟨_, rfl⟩, .inr ⟨_, Hpre.out, hJx3⟩⟩
theorem kpb_b {bx : Nat} {v : Value} {w : World} (hbx : bx < w.heap.size) (hv : ∀ k, v.ownBlock = some k → k < w.heap.size) (W : World) (o o' : Obj) (_ : W.heap[w.heap.size + 1]? = some o) (_ : o.isCells = false) (_ : o.isWalk = false) : KpB bx v W (W.putObj (w.heap.size + 1) o') :=
  ⟨by simp, World.putObj_heap_other (by omega), fun k hk => World.putObj_heap_other (by have := hv k hk; omega)⟩
theorem told_back {l : List Int} {pre : List (Int × Nat)} {x : Int × Nat} (h : pre ++ [x] <+: l.zipIdx.reverse) : ∃ (k : Nat) (hk : k < l.length), x = (l[k], k) ∧ pre = (l.zipIdx.drop (k + 1)).reverse := by
  obtain ⟨t, ht⟩ := h
  have h1 : l.zipIdx = t.reverse ++ (x :: pre.reverse) := by
    have := congrArg List.reverse ht
    simp only [List.reverse_append, List.reverse_reverse, List.reverse_cons, List.reverse_nil, List.nil_append] at this
    rw [← this]; simp
  have hlen : l.length = t.length + (pre.length + 1) := by
    have := congrArg List.length h1
    simpa using this
  have hk : t.length < l.length := by omega
  refine ⟨t.length, hk, ?_, ?_⟩
  · have h2 : l.zipIdx[t.length]? = some x := by rw [h1, List.getElem?_append_right (by simp)]; simp
    rw [List.getElem?_eq_getElem (by simpa using hk)] at h2
    simp only [List.getElem_zipIdx, Option.some.injEq] at h2
    rw [← h2]; simp
  · rw [h1, List.drop_append]
    simp
theorem zip_fst (l : List Int) (k : Nat) : ((l.zipIdx.drop k).reverse).map Prod.fst = (l.drop k).reverse := by
  rw [List.map_reverse, List.map_drop]
  simp
theorem rev_find {l : List Kd} {k : Nat} (hk : k < l.length) (h1 : ∀ y ∈ l.drop (k + 1), y.free = false) (h2 : l[k].free = true) : l.reverse.find? Kd.free = some l[k] := by
  have e : l = l.take k ++ (l[k] :: l.drop (k + 1)) := by rw [← List.drop_eq_getElem_cons hk, List.take_append_drop]
  have : l.reverse = (l.drop (k + 1)).reverse ++ (l[k] :: (l.take k).reverse) := by
    have := congrArg List.reverse e
    simp only [List.reverse_append, List.reverse_cons, List.append_assoc, List.singleton_append] at this
    exact this
  rw [this, List.find?_append, List.find?_eq_none.2 (fun y hy => by rw [h1 y (List.mem_reverse.1 hy)]; simp)]
  simp [h2]
theorem box_under {W W' : World} {b : Nat} {t : TypeId} {v : Value} (h : Boxed W b t v) (hb : Below W.heap.size W W') : Boxed W' b t v := (hb.block b h.lt).trans h
theorem box_else {W : World} {b k : Nat} {t : TypeId} {v u : Value} (h : Boxed W b t v) (hne : b ≠ k) : Boxed (W.setCell ⟨k, 0, none⟩ u) b t v := (Below.heap_setCell _ _ _ _ hne).trans h
theorem box_set {W : World} {b : Nat} {t : TypeId} {v : Value} (h : Boxed W b t v) (u : Value) : Boxed (W.setCell ⟨b, 0, none⟩ u) b t u := heap_set_same h u
theorem slices_Backward (a : Option Addr) (n c : Nat) (w : World) : Calls Try.prog 44 #[.slice a n c] w fun e w' => e = .returned (.func (.func 53) #[] #[.pointer (some ⟨w.heap.size, 0, none⟩)]) ∧ w' = w.alloc (.cells #[.slice a n c] 37) := by
  go_enter Try.func44, Try.ntmps44
  go_wp2
  go_ret
  exact ⟨rfl, rfl⟩
/-- What room leaves. -/
def RoomP (w w' : World) (src : Value) (cb mb clk : Nat) (c : Ch) (M : List Ent) : Prop := ∃ M', CAt w' src cb mb clk { c with l := (roomL c).getD c.l } M' ∧ (∀ e ∈ M', e ∈ M) ∧ Chg (fun k => k = mb) w w'
def roomE (c : Ch) : Int := if (roomL c).isSome then 0 else 14
theorem len_at {w : World} {src : Value} {cb mb clk : Nat} {c : Ch} {M : List Ent} (h : CAt w src cb mb clk c M) (ty : TypeId) : (Builtin.len_ #[64] ty #[.map (some mb)]).run Try.prog w = .ok (.int .i64 (M.length : Nat)) w := by
  obtain ⟨D, h1, h2, _⟩ := h.map
  have := h1.len Try.underlying64 ty
  rw [h2] at this
  exact this
set_option maxRecDepth 100000 in
set_option maxHeartbeats 3200000 in
theorem cch_room {w : World} {src : Value} {cb mb clk : Nat} {c : Ch} {M : List Ent} (h : CAt w src cb mb clk c M) (hclk : clk < 1000000) (hm : c.most ≤ 1024) :
    Calls Try.prog 29 #[.pointer (some ⟨cb, 0, none⟩)] w fun e w' => e = .returned (.int .i64 (roomE c)) ∧ RoomP w w' src cb mb clk c M := by
  have hlen := h.len
  have hmost := h.most
  have hb1 := step_new (step_new (Below.refl w.heap.size w) (.cells #[.pointer (some ⟨cb, 0, none⟩)] 25)) (.cells #[.int .i64 0] 26)
  have hc1 := h.below hb1
  obtain ⟨-, c1, -, -, c4⟩ := cells_of hc1.blk
  have hln := len_at (hc1.below (below_drew _)) 3
  have hB1 : Boxed ((w.alloc (.cells #[.pointer (some ⟨cb, 0, none⟩)] 25)).alloc (.cells #[.int .i64 0] 26)) w.heap.size 25 (.pointer (some ⟨cb, 0, none⟩)) := (Boxed.new w _ _).alloc _
  have hE1 : Boxed ((w.alloc (.cells #[.pointer (some ⟨cb, 0, none⟩)] 25)).alloc (.cells #[.int .i64 0] 26)) (w.heap.size + 1) 26 (.int .i64 0) := by
    have := Boxed.new (w.alloc (.cells #[.pointer (some ⟨cb, 0, none⟩)] 25)) 26 (.int .i64 0)
    rwa [World.size_alloc] at this
  have hz1 : ((w.alloc (.cells #[.pointer (some ⟨cb, 0, none⟩)] 25)).alloc (.cells #[.int .i64 0] 26)).heap.size = w.heap.size + 1 + 1 := by simp
  refine (callsIn_wide (n := 6)).1 ?_
  refine callsIn_of_wp_marks Try.func29 rfl trivial ?_ rfl
  simp only [Try.ntmps29, List.size_toArray, List.length_cons, List.length_nil, Nat.reduceAdd, Nat.reduceSub, Array.replicate_succ, Array.replicate_zero, List.push_toArray, List.append_toArray, List.nil_append, List.cons_append]
  refine wpIn_wide.2 ?_
  go_wp2
  have cB1 := hB1.cell
  have cE1 := hE1.cell
  have fE1 := hE1.frozen
  have H := Lib.hid h
  have Hb1 := Lib.hid hb1
  have Hc1 := Lib.hid hc1
  generalize (w.alloc (.cells #[.pointer (some ⟨cb, 0, none⟩)] 25)).alloc (.cells #[.int .i64 0] 26) = W1 at *
  have Hz1 := Lib.hid hz1
  clear h hb1 hc1 hz1
  by_cases hlt : (M.length : Int) < (c.most : Int)
  · have hE : Hid (roomL c = some c.l) := Lib.hid (by unfold roomL; rw [if_pos (by omega)])
    have Hf : Hid (RoomP w (W1.drew.setCell ⟨w.heap.size + 1, 0, none⟩ (.int .i64 0)) src cb mb clk c M) := Lib.hid (by
      have hch : Chg (fun k => k = mb) w (W1.drew.setCell ⟨w.heap.size + 1, 0, none⟩ (.int .i64 0)) := (((Chg.of_below Hb1.out).drewN 1).set _ _ _ (fun h => by omega))
      refine ⟨M, ?_, fun e he => he, hch⟩
      rw [hE.out]
      exact H.out.keep ((((Chg.of_below (A := fun _ => False) Hb1.out).drewN 1).set _ _ _ (fun h => by omega))) (fun _ _ h => h))
    have hc5 := (box_set hE1 (.int .i64 0)).cell
    go_region
    clear hB1 hE1
    go_wp2
    refine ⟨.int .i64 0, by simp [results, Try.f29, go_sem, hc5], ?_⟩
    exact ⟨by unfold roomE; rw [hE.out]; rfl, Hf.out⟩
  · have hR : Hid (roomL c = (c.l.reverse.find? Kd.free).map fun x => less c.l x.pos) := Lib.hid (by unfold roomL; rw [if_neg (by omega)])
    have Hblk := Lib.hid (cch_Blocks (Hc1.out.below (below_drew W1)) hclk hm)
    go_region
    go_wp2_with fail
    refine Hblk.out.mono ?_
    rintro e w2 ⟨v, rfl, hrow, hfr, hb2⟩
    have hbw2 : Below W1.heap.size W1 w2 := step_call (below_drew W1) hb2
    obtain ⟨oa, cp, rfl⟩ := row_form hrow
    simp only [List.length_map] at hrow hfr ⊢
    have hz : W1.heap.size ≤ w2.heap.size := hbw2.size
    have hbx3 := Boxed.new w2 37 (.slice oa c.l.length cp)
    have hb3 : Below W1.heap.size W1 (w2.alloc (.cells #[.slice oa c.l.length cp] 37)) := step_new hbw2 _
    have hrow3 := hrow.below (step_new (Below.refl _ w2) (.cells #[.slice oa c.l.length cp] 37))
    have hz3 : (w2.alloc (.cells #[.slice oa c.l.length cp] 37)).heap.size = w2.heap.size + 1 := World.size_alloc _ _
    have hfr3 : ∀ k, (Value.slice oa c.l.length cp).ownBlock = some k → W1.heap.size ≤ k ∧ k < w2.heap.size := fun k hk => by
      exact ⟨(hfr k hk).1, (hfr k hk).2⟩
    go_wp2_with fail
    refine (slices_Backward oa c.l.length cp w2).mono ?_
    rintro e w3 ⟨rfl, rfl⟩
    have Hrow3 := Lib.hid hrow3
    have Hfr3 := Lib.hid hfr3
    have Hbx3 := Lib.hid hbx3
    have Hb3 := Lib.hid hb3
    have Hz3 := Lib.hid hz3
    clear hrow hfr hb2 hbw2 hbx3 hb3 hrow3 hz3 hfr3
    generalize w2.alloc (.cells #[.slice oa c.l.length cp] 37) = W3 at *
    have hc3 := Hc1.out.below Hb3.out
    have Hc3 := Lib.hid hc3
    have HB3 := Lib.hid (box_under hB1 Hb3.out)
    have HE3 := Lib.hid (box_under hE1 Hb3.out)
    have hzz1 := Hz1.out
    have hzz3 := Hz3.out
    clear hc3 hB1 hE1
    go_wp2_with fail
    refine wpIn_wide.1 (wpIn_rangeSeq2 (n := 6) rfl (by omega) (gf := 53) (lb := #[.pointer (some ⟨w2.heap.size, 0, none⟩)]) ?hg trivial (enters_of Try.func53 (by kernel_rfl) rfl)
      (back_gives _ (by omega) w2.heap.size (.slice oa c.l.length cp) (c.l.map Kd.pos) (by rw [List.length_map]; omega) W3 Hbx3.out Hrow3.out) kpb_t (kpb_b (by omega) (fun k hk => by have := Hfr3.out k hk; omega)) (fun _ => rfl)
      (fun pre W => Below W3.heap.size W3 W ∧ ∀ p ∈ pre, ∀ e ∈ M, e.x.pos = p.1 → e.x.free = false)
      (fun cd _ W => cd = .ret ∧ ∃ e ∈ M, roomL c = some (less c.l e.x.pos) ∧ CAt W src cb mb clk { c with l := less c.l e.x.pos } (entLess M e.x.pos) ∧ Boxed W (w.heap.size + 1) 26 (.int .i64 0) ∧ Chg (fun k => k = mb ∨ k = w.heap.size + 1) W3 W) ?hI ?hIx ?h0 ?act ?assign ?body ?done ?stop)
    case hg => rfl
    case hI =>
      rintro pre A C row ⟨h1, h2⟩ hg hr
      exact ⟨h1.grown hg h1.size (fun k e => (hr k e).1), h2⟩
    case hIx =>
      rintro cd pre A C row ⟨h0, e, hem, h1, h2, h3, h4⟩ hg hr
      have hch : Chg (fun k => W3.heap.size ≤ k) A C := (Chg.refl _ A).grown hg (fun k _ e => (hr k e).1)
      refine ⟨h0, e, hem, h1, h2.keep hch (fun k hk => ?_), (hg.block _ h3.lt (fun e => by have := (hr _ e.symm).1; omega)).trans h3, h4.grown hg (fun k hk e => by have := (hr k e).1; omega)⟩
      have : ownC cb mb M k := by
        rcases hk with hk | hk | ⟨d, hd, hk⟩
        · exact .inl hk
        · exact .inr (.inl hk)
        · exact .inr (.inr ⟨d, less_sub hd, hk⟩)
      have := Hc3.out.lt this
      omega
    case h0 => exact ⟨Below.refl _ _, fun p hp => by cases hp⟩
    case assign =>
      intro l' x W K hK
      dsimp only [pairI]
      gi_wp2
      exact hK
    case body =>
      rintro l' pre x W ⟨h1, h2⟩ hpre
      obtain ⟨k, hk, rfl, hp⟩ := told_back hpre
      rw [List.length_map] at hk
      have hcW := Hc3.out.below h1
      obtain ⟨e, hem, hex⟩ : ∃ e ∈ M, e.x = c.l[k] := by
        have : c.l[k] ∈ entL M := by rw [H.out.list]; exact List.getElem_mem _
        obtain ⟨e, he, h⟩ := List.mem_map.1 this
        exact ⟨e, he, h⟩
      have hxe : (c.l.map Kd.pos)[k]'(by rw [List.length_map]; exact hk) = e.x.pos := by rw [hex]; simp
      rw [hxe] at *
      have lk := look_at hcW hem
      have cBx := (box_under HB3.out h1).cell
      obtain ⟨-, -, -, -, c4W⟩ := cells_of hcW.blk
      obtain ⟨-, d1, d2, -⟩ := cells_ent (hcW.ents e hem)
      have Hnot : Hid (e.x.free = false → ∀ p ∈ pre ++ [(e.x.pos, k)], ∀ d ∈ M, d.x.pos = p.1 → d.x.free = false) := Lib.hid (fun hfr p hp d hd hdp => by
        rcases List.mem_append.1 hp with hp | hp
        · exact h2 p hp d hd hdp
        · rw [List.mem_singleton] at hp
          subst hp
          rw [H.out.self hem hd hdp]; exact hfr)
      have Hroom : Hid (e.x.free = true → roomL c = some (less c.l e.x.pos)) := Lib.hid (fun hfr => by
        rw [hR.out, rev_find hk (fun y hy => ?_) (by rw [← hex]; exact hfr), ← hex]
        · rfl
        · obtain ⟨d, hd, hdy⟩ : ∃ d ∈ M, d.x = y := by
            have : y ∈ entL M := by rw [H.out.list]; exact List.mem_of_mem_drop hy
            obtain ⟨d, hd, h⟩ := List.mem_map.1 this
            exact ⟨d, hd, h⟩
          have hy1 : y.pos ∈ pre.map Prod.fst := by
            rw [hp, zip_fst, List.mem_reverse, ← List.map_drop]
            exact List.mem_map.2 ⟨y, hy, rfl⟩
          obtain ⟨q, hq, hq1⟩ := List.mem_map.1 hy1
          rw [← hdy]
          exact h2 q hq d hd (by rw [hdy, hq1]))
      have H1 := Lib.hid h1
      have HcW := Lib.hid hcW
      have Hkey := Lib.hid (H.out.keys e hem)
      clear h1 h2 hpre hp hcW hxe hex
      by_cases hd : e.x.dirty = true
      · rw [hd] at d1
        have hfr : e.x.free = false := not_free_dirty hd
        clear hd
        gi_wp2
        exact ⟨KeepsFrom.refl _ _, ⟨Nat.le_refl _, rfl, fun _ _ => rfl⟩, H1.out, Hnot.out hfr⟩
      · have hd : e.x.dirty = false := by simpa using hd
        rw [hd] at d1
        by_cases hp0 : e.x.pins = 0
        · rw [hp0] at d2
          have hfr : e.x.free = true := by unfold Kd.free; rw [hd, hp0]; rfl
          have Hfr := Lib.hid (Hroom.out hfr)
          have hmW := Lib.hid HcW.out.map
          have hmlt := H.out.map.lt
          have hzW := H1.out.size
          clear hd hp0 hfr
          obtain ⟨w4, hrun, hm4, ht4⟩ := hmW.out.del Try.underlying3 Try.underlying64 Hkey.out 0
          have hEW := box_under HE3.out H1.out
          have hE4 : Boxed w4 (w.heap.size + 1) 26 (.int .i64 0) := (ht4.grown.block _ hEW.lt (by intro h2; have h3 := Option.some.inj h2; omega)).trans hEW
          have cE4 := hE4.cell
          have fE4 := hE4.frozen
          have hf : (entF M e.x.pos).isSome = true := by unfold entF; rw [H.out.at hem]; rfl
          rw [hf, if_pos rfl] at hm4
          have HE4 := Lib.hid hE4
          have Hm4 := Lib.hid hm4
          have Ht4 := Lib.hid ht4
          clear hEW hE4 hm4 ht4 hf hmW
          gi_wp2
          have hg4 := Ht4.out.grown
          refine ⟨(KeepsFrom.of_grownBy hg4 (fun j e2 => by cases e2; omega)).trans (KeepsFrom.of_grownBy (grownBy_set _ _ _ _) (fun j e2 => by cases e2; omega)), ⟨?_, ?_, fun j hj => ?_⟩, rfl, e, hem, Hfr.out, ?_, ?_, ?_⟩
          · exact Nat.le_trans hg4.size (grownBy_set _ _ _ _).size
          · rw [heap_set_other (by omega)]
            exact hg4.block _ (by omega) (by intro h2; have h3 := Option.some.inj h2; omega)
          · have := Hfr3.out j hj
            rw [heap_set_other (by omega)]
            exact hg4.block _ (by omega) (by intro h2; have h3 := Option.some.inj h2; omega)
          · refine HcW.out.less hem (ptrMap_heap Hm4.out (heap_set_other (by omega) _)) (fun j hj hne => ?_)
            have hjw := H.out.lt hj
            rw [heap_set_other (by omega)]
            exact hg4.block _ (by omega) (by intro h2; exact hne (Option.some.inj h2))
          · exact box_set HE4.out _
          · exact (((Chg.of_below H1.out).grown hg4 (fun j _ e2 => .inl (Option.some.inj e2).symm)).set _ _ _ (fun _ => .inr rfl))
        · have hpz : ((e.x.pins : Int) == 0) = false := by rw [beq_eq_false_iff_ne]; omega
          have hfr : e.x.free = false := by unfold Kd.free; rw [decide_eq_false hp0, Bool.and_false]
          clear hd hp0
          gi_wp2
          exact ⟨KeepsFrom.refl _ _, ⟨Nat.le_refl _, rfl, fun _ _ => rfl⟩, H1.out, Hnot.out hfr⟩
    case done =>
      rintro D W hD ⟨h1, h2⟩ hK
      have hnone : Hid (roomL c = none) := Lib.hid (by
        rw [hR.out, List.find?_eq_none.2 (fun y hy => ?_)]
        · rfl
        · rw [List.mem_reverse] at hy
          obtain ⟨i, hi, rfl⟩ := List.mem_iff_getElem.1 hy
          obtain ⟨d, hd, hdy⟩ : ∃ d ∈ M, d.x = c.l[i] := by
            have : c.l[i] ∈ entL M := by rw [H.out.list]; exact hy
            obtain ⟨d, hd, h⟩ := List.mem_map.1 this
            exact ⟨d, hd, h⟩
          have hmem : (c.l[i].pos, i) ∈ (c.l.map Kd.pos).zipIdx.reverse := by
            rw [List.mem_reverse, List.mem_iff_getElem]
            exact ⟨i, by simpa using hi, by simp⟩
          have := h2 _ hmem d hd (by rw [hdy])
          rw [← hdy, this]; simp)
      have hzW := h1.size
      have hEW := box_under HE3.out h1
      have cE := hEW.cell
      have fE := hEW.frozen
      have hK' := Lib.hid ((KeepsOthers.setCell W ⟨w.heap.size + 1, 0, none⟩ (.int .i64 14)).same D _ hK rfl)
      have hc5 := Lib.hid (cell_kept (box_set hEW (.int .i64 14)).cell (grownBy_putObj' _ D (.deferred none)) (fun r e => by cases e; exact ⟨_, hK'.out, rfl⟩))
      have hbW : Below w.heap.size w W := (Hb1.out.trans (Hb3.out.mono (by omega))).trans (h1.mono (by omega))
      have hb5 := Lib.hid ((hbW.setCell (p := ⟨w.heap.size + 1, 0, none⟩) (by simp) (.int .i64 14)).trans (belowK_b (w := w) (Nat.le_refl _) _ D _ (.deferred none) (by omega) hK'.out rfl rfl))
      clear hK h1 h2 hEW hbW
      go_wp2
      refine ⟨by simp, .inl ⟨_, _, rfl, run_takeDeferred hK'.out, ?_⟩⟩
      have hc6 := hc5.out
      refine ⟨.int .i64 14, by simp [results, Try.f29, go_sem, hc6], by unfold roomE; rw [hnone.out]; rfl, M, ?_, fun _ h => h, Chg.of_below hb5.out⟩
      rw [hnone.out]
      exact H.out.below hb5.out
    case stop =>
      rintro D cd pre W hD hpre ⟨rfl, e, hem, h1, h2, h3, h4⟩ hK
      have hzW := h4.size
      have hc5 := Lib.hid (cell_kept h3.cell (grownBy_putObj' _ D (.deferred none)) (fun r e => by cases e; exact ⟨_, hK, rfl⟩))
      have hmlt := H.out.map.lt
      have hbw3 : Below w.heap.size w W3 := Hb1.out.trans (Hb3.out.mono (by omega))
      have hch : Chg (fun k => k = mb) w (W.putObj D (.deferred none)) := ((Chg.of_below hbw3).trans h4 (fun k hk h => by rcases h with h | h; exact h; omega)).grown (grownBy_putObj' W D (.deferred none)) (fun k hk e2 => by cases e2; omega)
      have hcat : CAt (W.putObj D (.deferred none)) src cb mb clk { c with l := less c.l e.x.pos } (entLess M e.x.pos) := by
        have hch2 : Chg (fun k => W3.heap.size ≤ k) W (W.putObj D (.deferred none)) := (Chg.refl _ W).grown (grownBy_putObj' W D (.deferred none)) (fun k _ e2 => by cases e2; omega)
        refine h2.keep hch2 (fun k hk => ?_)
        have : ownC cb mb M k := by
          rcases hk with hk | hk | ⟨d, hd, hk⟩
          · exact .inl hk
          · exact .inr (.inl hk)
          · exact .inr (.inr ⟨d, less_sub hd, hk⟩)
        have := Hc3.out.lt this
        omega
      have Hch := Lib.hid hch
      have Hcat := Lib.hid hcat
      have HK := Lib.hid hK
      have H1 := Lib.hid h1
      clear hK hch hcat h1 h2 h3 h4 hbw3 hpre
      gi_wp2
      refine ⟨by simp, .inl ⟨_, _, rfl, run_takeDeferred HK.out, ?_⟩⟩
      have hc6 := hc5.out
      refine ⟨.int .i64 0, by simp [results, Try.f29, go_sem, hc6], by unfold roomE; rw [H1.out]; rfl, entLess M e.x.pos, ?_, fun _ h => less_sub h, Hch.out⟩
      rw [H1.out]
      exact Hcat.out
end Go.Proofs.Ytikkdhfbihejbaa
