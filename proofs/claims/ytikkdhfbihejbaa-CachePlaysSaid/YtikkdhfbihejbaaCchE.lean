/- Chapter 6: the cache's dirty blocks, in the order of their numbers. Condition: at most 1024 blocks are kept. -/
import Derived.Test.YtikkdhfbihejbaaCchD
import Derived.Test.YtikkdhfbihejbaaCchR
namespace Go.Proofs.Ytikkdhfbihejbaa
open Go.RowKit Go.Cch Go.Shelf Go.Sort Go.Maps
attribute [local go_sem] Oper.semAt_some

theorem sorts6 (m : Nat) : AnyZI.SortsIn Try.prog sotren Fence.wide m :=
  ⟨fun blk off cap ss W hH hblk hsz => callsIn_wide.2 (AnyM.slices_Sort_int ssoren_5 blk off cap ss W hH hblk hsz),
   fun p cap W => callsIn_wide.2 (AnyM.slices_Sort_int_none ssoren_5 p cap W)⟩
theorem own_ints {w : World} {base : Nat} {v : Value} {l : List Int} (h : w.ownsRow base 3 1 v l.length (l.map encZ)) : Row w v (l.map (Value.int .i64)) := by
  rcases h.2 with ⟨rfl, h0⟩ | ⟨g, cap, cur, rfl, hg, hh, h1, h2, h3, h4⟩
  · exact .inl ⟨none, 0, rfl, by simp [List.eq_nil_of_length_eq_zero h0]⟩
  · refine .inr ⟨g, 0, cap, by simp, by simpa using h1, (h.lt g rfl).2, fun i hi => ?_⟩
    have hi' : i < l.length := by simpa using hi
    rw [Lib.cell_of_heap hh, Nat.zero_add]
    have : cur.toList[i]? = (l.map encZ)[i]? := by rw [← h4, List.getElem?_take, Nat.mul_one, if_pos hi']
    rw [← Array.getElem?_toList, this]
    simp [encZ, hi']
set_option maxRecDepth 100000 in
theorem slices_Sorted {w : World} {src : Value} {cb mb clk : Nat} {c : Ch} {M : List Ent} (h : CAt w src cb mb clk c M) (hm : c.most ≤ 1024) (bm : Nat) (hbm : w.cell? ⟨bm, 0, none⟩ = some (.map (some mb))) :
    Calls Try.prog 41 #[.func (.func 47) #[] #[.pointer (some ⟨bm, 0, none⟩)]] w fun e w' => ∃ (v : Value) (ss : List Int), e = .returned v ∧ ss.Perm (c.l.map Kd.pos) ∧ ss.Pairwise (· ≤ ·) ∧ Row w' v (ss.map (Value.int .i64)) ∧ Below w.heap.size w w' := by
  have hlen := h.most
  have hS := (callsIn_wide (n := 5)).1 (AnyZI.sorted_in { sotren_6 with } Fence.wide 5 trivial trivial trivial trivial rfl (by omega) (sorts6 _) (enters_of Try.func52 (by kernel_rfl) rfl) 47 #[.pointer (some ⟨bm, 0, none⟩)] trivial (enters_of Try.func47 (by kernel_rfl) rfl) _ M.length (by unfold maxLen; omega) (by omega) w (keys_seq h bm hbm _ (by omega)))
  refine hS.mono ?_
  rintro e w' ⟨v, ss, rfl, hp, hr, -, hb⟩
  rw [h.list] at hp
  refine ⟨v, ss.mergeSort (fun x y => decide (x ≤ y)), rfl, (List.mergeSort_perm _ _).trans hp, ?_, own_ints (base := w.heap.size) ?_, hb⟩
  · refine (List.pairwise_mergeSort (le := fun x y : Int => decide (x ≤ y)) (fun a b d h1 h2 => by simp at *; omega) (fun a b => by simp; omega) ss).imp ?_
    intro a b h; simpa using h
  · rw [List.length_mergeSort]; exact hr
theorem dirtyOf_len (l : List Kd) (ss : List Int) : (dirtyOf l ss).length ≤ ss.length := List.length_filterMap_le _ _
set_option maxRecDepth 100000 in
set_option maxHeartbeats 3200000 in
theorem cch_Dirty {w : World} {src : Value} {cb mb clk : Nat} {c : Ch} {M : List Ent} (h : CAt w src cb mb clk c M) (hm : c.most ≤ 1024) :
    Calls Try.prog 21 #[.pointer (some ⟨cb, 0, none⟩)] w fun e w' => ∃ v, e = .returned v ∧ w'.ownsRow w.heap.size 59 2 v (dirtyC c).length (wrCells ((dirtyC c).map wrOf)) ∧ Below w.heap.size w w' := by
  obtain ⟨i0, hi, hz0, hz1, hz2⟩ := info_parts Try.info_wr6
  have hcl := h.len
  have hmo := h.most
  have Hc := Lib.hid h
  obtain ⟨-, -, -, -, c4⟩ := cells_of h.blk
  clear h
  go_enter Try.func21, Try.ntmps21
  go_wp2_with fail
  refine (maps_Keys mb w).mono ?_
  rintro e w1 ⟨rfl, hw1⟩
  have hb1 : Below w.heap.size w w1 := by rw [hw1]; exact step_new (Below.refl _ _) _
  have hbm : w1.cell? ⟨w.heap.size, 0, none⟩ = some (.map (some mb)) := by rw [hw1, Lib.cell_of_heap (heap_alloc_new w _)]; rfl
  have hS := Lib.hid (slices_Sorted (Hc.out.below hb1) hm w.heap.size hbm)
  have Hb1 := Lib.hid hb1
  clear hw1 hbm hb1
  go_wp2_with fail
  refine hS.out.mono ?_
  rintro e w2 ⟨v, ss, rfl, hp, hs, hr, hb2⟩
  have hsl : ss.length = c.l.length := by rw [hp.length_eq, List.length_map]
  have hb := step_call Hb1.out hb2
  have hdone := dirty_sorted Hc.out.ok.apart hp hs
  have hin : ∀ i ∈ ss, ∃ e ∈ M, e.x.pos = i := fun i hi => by
    have := hp.subset hi
    rw [← Hc.out.list] at this
    obtain ⟨x, hx, rfl⟩ := List.mem_map.1 this
    obtain ⟨e, he, rfl⟩ := List.mem_map.1 hx
    exact ⟨e, he, rfl⟩
  obtain ⟨oa, cp, rfl⟩ := row_form hr
  rw [List.length_map] at *
  have Hin := Lib.hid hin
  have Hdone := Lib.hid hdone
  have Hr := Lib.hid hr
  have Hb := Lib.hid hb
  clear hS hp hs hr hb2 hb hdone hin Hb1
  go_wp2
  go_loopw [14, 5, 6, 3] (fun iv _ _ ov wr => ∃ k : Nat, k ≤ ss.length ∧ iv = .int .i64 k ∧ wr.ownsRow w2.heap.size 59 2 ov (dirtyOf c.l (ss.take k)).length (wrCells ((dirtyOf c.l (ss.take k)).map wrOf)) ∧ Below w2.heap.size w2 wr) (fun iv _ _ _ _ => ss.length - (intOf iv).toNat)
  case atStart => exact ⟨0, by omega, rfl, World.ownsRow_nil _ _ _ _, Below.refl _ _⟩
  case round =>
    obtain ⟨k, hk, rfl, hown, hbr⟩ := hrel
    have Hown := Lib.hid hown
    have Hbr := Lib.hid hbr
    clear hown hbr
    by_cases hlt : k < ss.length
    · obtain ⟨b, off, rfl, hcell⟩ := row_cells Hr.out hlt
      have hcell := cell_call Hbr.out hcell
      obtain ⟨e, he, hep⟩ := Hin.out ss[k] (List.getElem_mem _)
      have hbw : Below w.heap.size w wr := step_call Hb.out Hbr.out
      have hca := Hc.out.below hbw
      have hlook := look_at hca he
      obtain ⟨e0, e1, -, -⟩ := cells_ent (hca.ents e he)
      obtain ⟨-, -, -, -, c4⟩ := cells_of hca.blk
      have hf : findL c.l ss[k] = some e.x := by
        rw [← hep]
        exact find_self Hc.out.ok.apart (by rw [← Hc.out.list]; exact List.mem_map.2 ⟨e, he, rfl⟩)
      have hnext : dirtyOf c.l (ss.take (k + 1)) = dirtyOf c.l (ss.take k) ++ (if e.x.dirty then [e.x] else []) := by
        rw [List.take_succ_eq_append_getElem hlt, dirtyOf_snoc, hf]
        congr 1
        show (Option.filter Kd.dirty (some e.x)).toList = _
        simp only [Option.filter]
        cases e.x.dirty <;> rfl
      have hol : (dirtyOf c.l (ss.take k)).length ≤ k := Nat.le_trans (dirtyOf_len _ _) (by rw [List.length_take]; omega)
      rw [hep] at hlook
      have Hnext := Lib.hid hnext
      have Hbw := Lib.hid hbw
      have hsz := Hbr.out.size
      have hp2 : e.x.pos = ss[k] := hep
      clear hf hnext hca hbw hep
      cases hd : e.x.dirty
      · rw [hd] at e1
        have hn2 : dirtyOf c.l (ss.take (k + 1)) = dirtyOf c.l (ss.take k) := by rw [Hnext.out, hd]; simp
        have Hn2 := Lib.hid hn2
        clear hd Hnext hn2
        go_wp2
        go_roundw
        case rel => exact ⟨k + 1, by omega, by go_num, by rw [Hn2.out]; exact Hown.out, Hbr.out⟩
        case measure => simp [intOf]; omega
      · rw [hd] at e1
        have hn2 : dirtyOf c.l (ss.take (k + 1)) = dirtyOf c.l (ss.take k) ++ [e.x] := by rw [Hnext.out, hd]; simp
        have Hn2 := Lib.hid hn2
        obtain ⟨oo, oc, rfl⟩ := own_form Hown.out
        have Ho := Lib.hid (Hown.out.alloc (.cells #[.int .i64 ss[k], .string (B e.x.data)] 59))
        have hwl : (wrCells ((dirtyOf c.l (ss.take k)).map wrOf)) ++ [.int .i64 ss[k], .string (B e.x.data)] = wrCells ((dirtyOf c.l (ss.take k) ++ [e.x]).map wrOf) := by
          rw [List.map_append, wrCells, wrCells, List.flatMap_append, ← hp2]; rfl
        have Hwl := Lib.hid hwl
        clear hd Hnext hn2 hwl
        generalize ss[k] = ps at *
        go_wp2_with (at_builtin; go_must (refine wpList_append_own _ rfl _ _ 54 rfl w2.heap.size 59 i0 (.agg #[.int .i64 0, .string ⟨#[]⟩]) 2 24 Try.underlying54 hi hz0 hz1 hz2 rfl (by decide) _ _ _ rfl Ho.out ⟨wr.heap.size, 0, none⟩ 1 1 [.int .i64 ps, .string (B e.x.data)] rfl rfl ?c1 ?c2 ?c3 ?c4 ?c5 ?_))
        case c1 => exact cells_new wr wr.heap.size rfl [.int .i64 ps, .string (B e.x.data)] 59
        case c2 => simp [Value.oneCell']
        case c3 => unfold maxLen; omega
        case c4 => omega
        case c5 => simp; omega
        intro v' w5 hown' hgrow _
        have hb5 : Below w2.heap.size w2 w5 := (step_new Hbr.out _).grown hgrow (by simp; omega) (fun j hj => (Ho.out.lt j hj).1)
        go_wp2
        go_roundw
        case rel => exact ⟨k + 1, by omega, by go_num, by rw [Hn2.out, List.length_append, List.length_singleton, ← Hwl.out]; exact hown', hb5⟩
        case measure => simp [intOf]; omega
    · obtain rfl : k = ss.length := by omega
      have hdn := Hdone.out
      rw [List.take_length] at Hown
      rw [hdn] at Hown
      go_wp2
      go_ret
      exact ⟨_, rfl, own_base Hown.out Hb.out.size, step_call Hb.out Hbr.out⟩
end Go.Proofs.Ytikkdhfbihejbaa
