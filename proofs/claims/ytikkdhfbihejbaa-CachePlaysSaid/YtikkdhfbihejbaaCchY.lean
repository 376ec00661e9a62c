/- Chapter 6: codexref6's Pin, Unpin, Clean, Drop, New. Conditions: at most 100000 blocks; the numbers of pins are small. -/
import Derived.Test.YtikkdhfbihejbaaCchX
namespace Go.Cch
theorem map_set {l : List Kd} (hn : (l.map Kd.pos).Nodup) {k : Nat} (hk : k < l.length) {i : Int} (hp : l[k].pos = i) (g : Kd → Kd) : l.map (fun x => if x.is i then g x else x) = l.set k (g l[k]) := by
  apply List.ext_getElem
  · simp
  · intro j h1 h2
    have hj : j < l.length := by simpa using h1
    rw [List.getElem_map, List.getElem_set]
    by_cases e : k = j
    · subst e
      rw [if_pos rfl, if_pos (is_iff.2 hp)]
    · rw [if_neg e, if_neg]
      rw [is_iff]
      intro hj2
      rcases Nat.lt_or_gt_of_ne e with h | h
      · have := List.pairwise_iff_getElem.1 hn k j (by simpa using hk) (by simpa using hj) h
        rw [List.getElem_map, List.getElem_map, hp, hj2] at this
        exact this rfl
      · have := List.pairwise_iff_getElem.1 hn j k (by simpa using hj) (by simpa using hk) h
        rw [List.getElem_map, List.getElem_map, hp, hj2] at this
        exact this rfl
end Go.Cch
namespace Go.Proofs.Ytikkdhfbihejbaa
open Go.RowKit Go.Cch
attribute [local go_sem] Oper.semAt_some

theorem flat_set {α : Type} {f : α → List Value} {s : Nat} (hf : ∀ x, (f x).length = s) (l : List α) (k : Nat) (hk : k < l.length) (j : Nat) (hj : j < s) (y : α) (u : Value) (hy : f y = (f l[k]).set j u) : (l.flatMap f).set (k * s + j) u = (l.set k y).flatMap f := by
  induction l generalizing k with
  | nil => simp at hk
  | cons x l ih =>
    cases k with
    | zero =>
      rw [List.set_cons_zero, List.flatMap_cons, List.flatMap_cons, Nat.zero_mul, Nat.zero_add, List.set_append_left _ _ (by rw [hf]; exact hj), hy]
      rfl
    | succ k =>
      rw [List.set_cons_succ, List.flatMap_cons, List.flatMap_cons, List.set_append_right _ _ (by rw [hf, Nat.add_mul]; omega), hf, show (k + 1) * s + j - s = k * s + j by rw [Nat.add_mul]; omega, ih k (by simpa using hk) hy]
theorem RAt.put {w : World} {K rb g n cp : Nat} {c : Ch} (h : RAt w K rb (.slice (some ⟨g, 0, none⟩) n cp) c) {k : Nat} (hk : k < c.l.length) (j : Nat) (hj : j < 4) (y : Kd) (u : Value) (hy : kdC y = (kdC c.l[k]).set j u) :
    RAt (w.setCell ⟨g, k * 4 + j, none⟩ u) K rb (.slice (some ⟨g, 0, none⟩) n cp) { c with l := c.l.set k y } := by
  have hne : g ≠ rb := fun e => h.ne (by rw [e]; rfl)
  refine ⟨(heap_set_other hne.symm _).trans h.blk, ?_, h.ne, h.low⟩
  refine ⟨by show (kdCells (c.l.set k y)).length = (c.l.set k y).length * 4; rw [kdCells, flat_len kdC_len], ?_⟩
  rcases h.row.2 with ⟨h0, _⟩ | ⟨g', cap, cur, h1, hb, hh, h2, h3, h4, h5⟩
  · simp at h0
  · simp only [Value.slice.injEq, Option.some.injEq, Addr.mk.injEq, and_true] at h1
    obtain ⟨rfl, rfl, rfl⟩ := h1
    refine .inr ⟨g, cp, _, by rw [List.length_set], hb, heap_set_same hh u, by rw [List.length_set]; exact h2, h3, by rw [Array.size_setIfInBounds]; exact h4, ?_⟩
    rw [List.length_set, Array.toList_setIfInBounds, List.take_set, h5]
    exact flat_set kdC_len c.l k hk j hj y u hy
theorem RAt.frz {w : World} {K rb g n cp : Nat} {c : Ch} (h : RAt w K rb (.slice (some ⟨g, 0, none⟩) n cp) c) (m : Nat) : w.frozen? ⟨g, m, none⟩ = false := by
  rcases h.row.2 with ⟨h0, _⟩ | ⟨g', cap, cur, h1, hb, hh, h2, h3, h4, h5⟩
  · simp at h0
  · simp only [Value.slice.injEq, Option.some.injEq, Addr.mk.injEq, and_true] at h1
    obtain ⟨rfl, rfl, rfl⟩ := h1
    exact Lib.frozen_of_heap hh m
set_option maxRecDepth 100000 in
set_option maxHeartbeats 1600000 in
theorem ref_Pin {w : World} {K rb : Nat} {v : Value} {c : Ch} (h : RAt w K rb v c) (hc : c.Ok) (hm : c.most ≤ 1024) (i : Int) (hp : ∀ x ∈ c.l, x.pins ≤ 1000000) :
    Calls Try.prog 36 #[.pointer (some ⟨rb, 0, none⟩), .int .i64 i] w fun x w' => x = .returned (.int .i64 (pinC c i).1) ∧ MutR w w' K rb v (pinC c i).2 := by
  have hl : c.l.length ≤ 100000 := Nat.le_trans hc.many (by omega)
  have hfd := ref_find h i hl
  obtain ⟨c0, -, -, -, -⟩ := h.cells
  obtain ⟨oa, cp, rfl⟩ := h.form
  have H := Lib.hid h
  have Hc := Lib.hid hc
  have Hp := Lib.hid hp
  obtain ⟨G, HG⟩ : ∃ G, Hid (G = pinC c i) := ⟨_, Lib.hid rfl⟩
  rw [← HG.out]
  clear h hc hp
  go_enter Try.func36, Try.ntmps36
  go_wp2_with fail
  refine hfd.mono ?_
  rintro x w1 ⟨rfl, z, rfl, hz⟩
  rcases found_cases Hc.out.apart hz with ⟨k, hk, rfl, hpos, hf⟩ | ⟨rfl, hf⟩
  · have hG : G = (0, { c with l := c.l.set k { c.l[k] with pins := c.l[k].pins + 1 } }) := by
      rw [HG.out]
      unfold pinC
      rw [if_pos (has_iff.2 ⟨_, List.getElem_mem hk, hpos⟩), map_set Hc.out.apart hk hpos (fun x => { x with pins := x.pins + 1 })]
    have HG2 := Lib.hid hG
    obtain ⟨g, rfl, -, -, -, -, e3⟩ := H.out.at hk
    have f3 := H.out.frz (k * 4 + 3)
    have hpk := Hp.out _ (List.getElem_mem hk)
    have Hend := Lib.hid (H.out.put hk 3 (by omega) { c.l[k] with pins := c.l[k].pins + 1 } (.int .i64 ((c.l[k].pins : Int) + 1)) rfl)
    have hkp : ¬ (k : Int) < 0 := by omega
    clear hfd hz hf hG HG hpos
    generalize c.l[k] = y at *
    go_wp2
    go_ret
    exact ⟨by rw [HG2.out]; rfl, by rw [HG2.out]; exact mutR_same Hend.out ((Chg.refl _ _).set _ _ _ (fun _ => .inr rfl))⟩
  · have hG : G = (10, c) := by
      rw [HG.out]
      unfold pinC
      rw [find_none.1 hf]
      rfl
    have HG2 := Lib.hid hG
    clear hfd hz hf hG HG
    go_wp2
    go_ret
    exact ⟨by rw [HG2.out]; rfl, by rw [HG2.out]; exact mutR_same H.out (Chg.refl _ _)⟩
set_option maxRecDepth 100000 in
set_option maxHeartbeats 1600000 in
theorem ref_Unpin {w : World} {K rb : Nat} {v : Value} {c : Ch} (h : RAt w K rb v c) (hc : c.Ok) (hm : c.most ≤ 1024) (i : Int) (hp : ∀ x ∈ c.l, x.pins ≤ 1000000) :
    Calls Try.prog 37 #[.pointer (some ⟨rb, 0, none⟩), .int .i64 i] w fun x w' => x = .returned (.int .i64 (unpinC c i).1) ∧ MutR w w' K rb v (unpinC c i).2 := by
  have hl : c.l.length ≤ 100000 := Nat.le_trans hc.many (by omega)
  have hfd := ref_find h i hl
  obtain ⟨c0, -, -, -, -⟩ := h.cells
  obtain ⟨oa, cp, rfl⟩ := h.form
  have H := Lib.hid h
  have Hc := Lib.hid hc
  have Hp := Lib.hid hp
  obtain ⟨G, HG⟩ : ∃ G, Hid (G = unpinC c i) := ⟨_, Lib.hid rfl⟩
  rw [← HG.out]
  clear h hc hp
  go_enter Try.func37, Try.ntmps37
  go_wp2_with fail
  refine hfd.mono ?_
  rintro x w1 ⟨rfl, z, rfl, hz⟩
  rcases found_cases Hc.out.apart hz with ⟨k, hk, rfl, hpos, hf⟩ | ⟨rfl, hf⟩
  · have hG : G = if c.l[k].pins = 0 then (14, c) else (0, { c with l := c.l.set k { c.l[k] with pins := c.l[k].pins - 1 } }) := by
      rw [HG.out]
      unfold unpinC
      rw [hf]
      show (if c.l[k].pins = 0 then (14, c) else (0, { c with l := c.l.map fun x => if x.is i then { x with pins := x.pins - 1 } else x })) = _
      rw [map_set Hc.out.apart hk hpos (fun x => { x with pins := x.pins - 1 })]
    have HG2 := Lib.hid hG
    obtain ⟨g, rfl, -, -, -, -, e3⟩ := H.out.at hk
    have f3 := H.out.frz (k * 4 + 3)
    have hpk := Hp.out _ (List.getElem_mem hk)
    have hkp : ¬ (k : Int) < 0 := by omega
    by_cases h0 : c.l[k].pins = 0
    · rw [h0] at e3
      have HG3 := Lib.hid (HG2.out.trans (if_pos h0))
      clear hfd hz hf hG HG HG2 hpos h0 hpk
      generalize c.l[k] = y at *
      go_wp2
      go_ret
      exact ⟨by rw [HG3.out]; rfl, by rw [HG3.out]; exact mutR_same H.out (Chg.refl _ _)⟩
    · have HG3 := Lib.hid (HG2.out.trans (if_neg h0))
      have Hend := Lib.hid (H.out.put hk 3 (by omega) { c.l[k] with pins := c.l[k].pins - 1 } (.int .i64 ((c.l[k].pins : Int) - 1)) (by unfold kdC; rw [show (((c.l[k].pins - 1 : Nat)) : Int) = (c.l[k].pins : Int) - 1 by omega]; rfl))
      have hpb : (((c.l[k].pins : Nat) : Int) == 0) = false := by rw [beq_eq_false_iff_ne]; omega
      clear hfd hz hf hG HG HG2 hpos h0
      generalize c.l[k] = y at *
      go_wp2
      go_ret
      exact ⟨by rw [HG3.out]; rfl, by rw [HG3.out]; exact mutR_same Hend.out ((Chg.refl _ _).set _ _ _ (fun _ => .inr rfl))⟩
  · have hG : G = (10, c) := by
      rw [HG.out]
      unfold unpinC
      rw [hf]
    have HG2 := Lib.hid hG
    clear hfd hz hf hG HG
    go_wp2
    go_ret
    exact ⟨by rw [HG2.out]; rfl, by rw [HG2.out]; exact mutR_same H.out (Chg.refl _ _)⟩
def cleanK (x : Kd) : Kd := { x with dirty := false }
theorem clean_step (l : List Kd) (k : Nat) (hk : k < l.length) : ((l.take k).map cleanK ++ l.drop k).set k (cleanK l[k]) = (l.take (k + 1)).map cleanK ++ l.drop (k + 1) := by
  rw [List.set_append_right _ _ (by simp; omega), List.length_map, List.length_take, Nat.min_eq_left (by omega), Nat.sub_self, List.drop_eq_getElem_cons hk, List.set_cons_zero, List.take_succ_eq_append_getElem hk, List.map_append]
  simp
set_option maxRecDepth 100000 in
set_option maxHeartbeats 1600000 in
theorem ref_Clean {w : World} {K rb : Nat} {v : Value} {c : Ch} (h : RAt w K rb v c) (hc : c.Ok) (hm : c.most ≤ 1024) :
    Calls Try.prog 38 #[.pointer (some ⟨rb, 0, none⟩)] w fun x w' => x = .returned (.tuple #[]) ∧ MutR w w' K rb v (cleanC c) := by
  have hl : c.l.length ≤ 100000 := Nat.le_trans hc.many (by omega)
  obtain ⟨oa, cp, rfl⟩ := h.form
  have H := Lib.hid h
  clear h hc
  go_enter Try.func38, Try.ntmps38
  go_wp2
  go_loopw [2] (fun z wr => ∃ k : Nat, k ≤ c.l.length ∧ z = .int .i64 k ∧ RAt wr K rb (.slice oa c.l.length cp) { c with l := (c.l.take k).map cleanK ++ c.l.drop k } ∧ Chg (ownR rb (.slice oa c.l.length cp)) w wr) (fun z _ => c.l.length - (intOf z).toNat)
  case atStart => exact ⟨0, by omega, rfl, by simpa using H.out, Chg.refl _ _⟩
  case round =>
    obtain ⟨k, hk, rfl, hr, hg⟩ := hrel
    obtain ⟨c0, -, -, -, -⟩ := hr.cells
    have Hr := Lib.hid hr
    have Hg := Lib.hid hg
    clear hr hg
    by_cases hlt : k < c.l.length
    · have hk2 : k < ((c.l.take k).map cleanK ++ c.l.drop k).length := by simp; omega
      have hget : ((c.l.take k).map cleanK ++ c.l.drop k)[k] = c.l[k] := by
        rw [List.getElem_append_right (by simp; omega), List.getElem_drop]
        congr 1
        simp; omega
      obtain ⟨g, rfl, -, e0, e1, e2, e3⟩ := Hr.out.at hk2
      have f2 := Hr.out.frz (k * 4 + 2)
      have Hnx := Lib.hid (Hr.out.put hk2 2 (by omega) (cleanK c.l[k]) (.bool false) (by simp only [hget]; rfl))
      simp only [clean_step c.l k hlt] at Hnx
      simp only [hget] at e2
      have Hg2 := Lib.hid (Hg.out.set g (k * 4 + 2) (.bool false) (fun _ => .inr rfl))
      clear e0 e1 e3 hget hk2
      generalize c.l[k] = y at *
      go_wp2
      go_roundw
      case rel => exact ⟨k + 1, by omega, by go_num, Hnx.out, Hg2.out⟩
      case measure => simp [intOf]; omega
    · obtain rfl : k = c.l.length := by omega
      have hend : { c with l := (c.l.take c.l.length).map cleanK ++ c.l.drop c.l.length } = cleanC c := by
        unfold cleanC
        rw [List.take_length, List.drop_length, List.append_nil]
        rfl
      rw [hend] at Hr
      clear hend
      go_wp2
      go_end0
      exact ⟨rfl, mutR_same Hr.out Hg.out⟩
end Go.Proofs.Ytikkdhfbihejbaa
