/- (part).entries: a block's entries read. Conditions: the block is not longer than 2^40 bytes, at most 2^20 entries. -/
import Derived.Test.YtefnddhondbjbaaDictEntry
import Derived.Test.YtefnddhondbjbaaOwnBytes
namespace Go.Proofs.Ytefnddhondbjbaa
open Go.RowKit Go.Wir Go.Dic

theorem textGR (s : ByteArray) : (textG s).length + (textR s).length ≤ s.size := by
  unfold textG textR
  rcases h : toTextL (L s) with _ | ⟨t, r⟩
  · simp
  · have h1 := toTextL_some h
    have h2 := congrArg List.length h1.1
    rw [List.length_append, length_L] at h2
    have : t.length ≤ (textL t).length := by unfold textL; rw [List.length_append]; omega
    show t.length + r.length ≤ _; omega
theorem ent_le (s last : ByteArray) : (entG s last).1.length + (entR s last).length ≤ last.size + s.size ∧ (entG s last).2.length ≤ s.size := by
  have h1 := numR_le s last.size
  have h2 := textGR (B (numR s last.size))
  have h3 := textGR (B (textR (B (numR s last.size))))
  rw [size_B] at h2 h3
  have h4 : ((L last).take (numG s last.size)).length ≤ last.size := by rw [List.length_take, length_L]; omega
  unfold entG entR
  rw [List.length_append]
  exact ⟨by omega, by show (textG _).length ≤ _; omega⟩
/-- Entries read one by one. -/
def entsL : Nat → List UInt8 → List UInt8 → Option (List Ent × List UInt8)
  | 0, _, s => some ([], s)
  | m + 1, last, s => if entOk (B s) (B last) then (entsL m (entG (B s) (B last)).1 (entR (B s) (B last))).map (fun x => (entG (B s) (B last) :: x.1, x.2)) else none
theorem own_keep {w w' : World} {base : Nat} {e : TypeId} {size : Nat} {v : Value} {n : Nat} {xs : List Value} (h : w.ownsRow base e size v n xs) (hb : Below w.heap.size w w') : w'.ownsRow base e size v n xs :=
  h.kept (row := none) ⟨hb.os, hb.tape, hb.output, hb.size, fun k hk _ => hb.block k hk⟩ (by cases h : v.ownBlock with
    | none => exact .inl rfl
    | some k => exact .inr (by simp))
theorem cell2_new (w : World) (b : Nat) (hb : b = w.heap.size) (x y : Value) (t : TypeId) : ∀ (j : Nat) u, [x, y][j]? = some u → (w.alloc (.cells #[x, y] t)).cell? ((⟨b, 0, none⟩ : Addr).add j) = some u := by
  subst hb
  intro j u hu
  have hh := heap_alloc_new w (.cells #[x, y] t)
  match j, hu with
  | 0, hu => simp at hu; subst hu; rw [show ((⟨w.heap.size, 0, none⟩ : Addr).add 0) = ⟨w.heap.size, 0, none⟩ from rfl, Lib.cell_of_heap hh]; rfl
  | 1, hu => simp at hu; subst hu; rw [show ((⟨w.heap.size, 0, none⟩ : Addr).add 1) = ⟨w.heap.size, 1, none⟩ from rfl, Lib.cell_of_heap hh]; rfl
  | j + 2, hu => simp at hu
theorem own_set {w : World} {base : Nat} {e : TypeId} {size : Nat} {v : Value} {n : Nat} {xs : List Value} (h : w.ownsRow base e size v n xs) (g k : Nat) (u : Value) (hg : g < base) : (w.setCell ⟨g, k, none⟩ u).ownsRow base e size v n xs :=
  h.kept (row := some g) ⟨rfl, rfl, rfl, by simp [World.setCell], fun j _ hj => Below.heap_setCell _ _ _ _ (fun e => hj (by simp [e]))⟩ (.inr (fun e => by have := (h.lt g e).1; omega))
def entCells (es : List Ent) : List Value := es.flatMap fun e => [.string (B e.1), .string (B e.2)]
theorem entCells_length (es : List Ent) : (entCells es).length = es.length * 2 := by
  unfold entCells
  induction es with
  | nil => rfl
  | cons e es ih => simp only [List.flatMap_cons, List.length_append, ih, List.length_cons, List.length_nil]; omega
theorem entCells_get (es : List Ent) (i : Nat) (h : i < es.length) : (entCells es)[i * 2]? = some (.string (B es[i].1)) ∧ (entCells es)[i * 2 + 1]? = some (.string (B es[i].2)) := by
  unfold entCells
  induction es generalizing i with
  | nil => simp at h
  | cons e es ih =>
    cases i with
    | zero => simp
    | succ i =>
      have := ih i (by simpa using h)
      simp only [List.flatMap_cons, List.getElem_cons_succ]
      rw [show (i + 1) * 2 = i * 2 + 2 by omega]
      simpa using this
theorem ents_of_own {w : World} {base : Nat} {v : Value} {es : List Ent} (h : w.ownsRow base 35 2 v es.length (entCells es)) : Ents w v es := by
  rcases h.2 with ⟨rfl, h0⟩ | ⟨g, cap, cur, rfl, hg, hh, h1, h2, h3, h4⟩
  · exact .inl ⟨none, 0, rfl, List.length_eq_zero_iff.1 h0⟩
  · refine .inr ⟨g, 0, cap, rfl, h1, ?_, fun i hi => ?_⟩
    · rcases Nat.lt_or_ge g w.heap.size with h' | h'
      · exact h'
      · simp [Array.getElem?_eq_none h'] at hh
    · obtain ⟨e1, e2⟩ := entCells_get es i hi
      have k1 : cur[i * 2]? = (entCells es)[i * 2]? := by rw [← h4, List.getElem?_take, if_pos (by omega), Array.getElem?_toList]
      have k2 : cur[i * 2 + 1]? = (entCells es)[i * 2 + 1]? := by rw [← h4, List.getElem?_take, if_pos (by omega), Array.getElem?_toList]
      constructor
      · rw [Lib.cell_of_heap hh, Nat.zero_add, k1, e1]
      · rw [Lib.cell_of_heap hh, Nat.zero_add, k2, e2]
theorem Try.info_ent : (Try.prog.info? 35).map (fun i => (i.zero, i.size, i.bytes)) = some (some (.agg #[.string ⟨#[]⟩, .string ⟨#[]⟩]), 2, 32) := by kernel_rfl

/-- What entries answers. -/
def EntsPost (K : Nat) (R : Option (List Ent × List UInt8)) (e : Ending) (w' : World) : Prop := match R with
  | some x => ∃ v, e = .returned (.agg #[v, .string (B x.2), .bool true]) ∧ Ents w' v x.1 ∧ (∀ k, v.ownBlock = some k → K ≤ k) ∧ (v = .slice none 0 0 ∨ ∃ k, v.ownBlock = some k)
  | none => e = .returned (.agg #[.slice none 0 0, .string ⟨#[]⟩, .bool false])
set_option maxRecDepth 100000 in
set_option maxHeartbeats 1600000 in
theorem part_entries (f s : ByteArray) (m : Nat) (hm : m ≤ 1048576) (hs : s.size ≤ 549755813888) (w : World) :
    Calls Try.prog 32 #[.agg #[.string f, .string s, .int .i64 (m : Nat)]] w fun e w' => Below w.heap.size w w' ∧ EntsPost w.heap.size (entsL m [] (L s)) e w' := by
  obtain ⟨i0, hi, hz0, hz1, hz2⟩ := info_parts Try.info_ent
  go_enter Try.func32, Try.ntmps32
  go_wp2
  have hz1w : ((w.alloc (.cells #[.string f, .string s, .int .i64 (m : Nat)] 70)).alloc (.cells #[.slice none 0 0, .string ⟨#[]⟩, .bool false] 72)).heap.size = w.heap.size + 1 + 1 := by simp
  have hres : ((w.alloc (.cells #[.string f, .string s, .int .i64 (m : Nat)] 70)).alloc (.cells #[.slice none 0 0, .string ⟨#[]⟩, .bool false] 72)).heap[w.heap.size + 1]? = some (.cells #[.slice none 0 0, .string ⟨#[]⟩, .bool false] 72 (0, 0)) := heap_alloc2_new w _ _
  have hbw := step_new (step_new (Below.refl w.heap.size w) (.cells #[.string f, .string s, .int .i64 (m : Nat)] 70)) (.cells #[.slice none 0 0, .string ⟨#[]⟩, .bool false] 72)
  generalize ((w.alloc (.cells #[.string f, .string s, .int .i64 (m : Nat)] 70)).alloc (.cells #[.slice none 0 0, .string ⟨#[]⟩, .bool false] 72)) = W1 at *
  have Hz1w := Lib.hid hz1w
  have Hres := Lib.hid hres
  have Hbw := Lib.hid hbw
  clear hz1w hres hbw
  generalize hR : entsL m [] (L s) = R
  have HR := Lib.hid hR
  clear hR
  go_loopw [3, 4, 5, 11] (fun l x y i wr => ∃ (k : Nat) (q last : List UInt8) (pre : List Ent), k ≤ m ∧ i = .int .i64 k ∧ x = .string (B q) ∧ y = .string (B last) ∧ pre.length = k ∧ last.length + q.length ≤ s.size ∧
    wr.ownsRow W1.heap.size 35 2 l k (entCells pre) ∧ entsL m [] (L s) = (entsL (m - k) last q).map (fun z => (pre ++ z.1, z.2)) ∧ Below W1.heap.size W1 wr) (fun _ _ _ i _ => m - (intOf i).toNat)
  case atStart =>
    refine ⟨0, L s, [], [], by omega, rfl, by rw [B_L], rfl, rfl, by rw [length_L]; simp, World.ownsRow_nil _ _ _ _, ?_, Below.refl _ _⟩
    simp
  case round =>
    obtain ⟨k, q, last, pre, hk, rfl, rfl, rfl, hpl, hsz, hown, hrun, hbel⟩ := hrel
    have hB1 := size_B q
    have hB2 := size_B last
    by_cases hlt : k < m
    · obtain ⟨j, hj⟩ : ∃ j, m - k = j + 1 := ⟨m - k - 1, by omega⟩
      have hel := ent_le (B q) (B last)
      have Hc := Lib.hid (dict_entry (B q) (B last) (by omega) (by omega))
      rw [hj] at hrun
      simp only [entsL] at hrun
      have Hrun := Lib.hid hrun
      have Hown := Lib.hid hown
      have Hbel := Lib.hid hbel
      clear hrun hown hbel hB1 hB2
      have hel2 : (entG (B q) (B last)).1.length + (entR (B q) (B last)).length ≤ s.size := by have := hel.1; rw [size_B, size_B] at this; omega
      clear hel
      cases hok : entOk (B q) (B last) with
      | true =>
        have Hok := Lib.hid hok
        rw [hok] at Hc
        clear hok
        generalize hE : entG (B q) (B last) = E at *
        generalize hr : entR (B q) (B last) = r at *
        have HE := Lib.hid hE
        have Hr := Lib.hid hr
        clear hE hr
        obtain ⟨t, v⟩ := E
        simp only at Hc hel2
        go_wp2_with fail
        refine (Hc.out _).mono ?_
        rintro e w1 ⟨rfl, hb1⟩
        have Hb1 := Lib.hid (step_call Hbel.out hb1)
        have hown1 := own_keep Hown.out hb1
        have hsw := Hb1.out.size
        have hi0 := Lib.hid (cell2_new (w1.alloc (.cells #[.string (B t), .string (B v), .string (B r), .bool true] 91)) (w1.heap.size + 1) (by simp) (.string (B t)) (.string (B v)) 35)
        have hown2 := (hown1.alloc (.cells #[.string (B t), .string (B v), .string (B r), .bool true] 91)).alloc (.cells #[.string (B t), .string (B v)] 35)
        have Hl := Lib.hid hown1.lt
        clear hown1
        go_wp2_with (at_builtin; go_must (refine wpList_append_own _ rfl _ _ 22 rfl W1.heap.size 35 i0 (.agg #[.string ⟨#[]⟩, .string ⟨#[]⟩]) 2 32 Try.underlying22 hi hz0 hz1 hz2 rfl (by decide) _ _ _ rfl hown2 ⟨w1.heap.size + 1, 0, none⟩ 1 1 [.string (B t), .string (B v)] rfl rfl ?c1 ?c2 ?c3 ?c4 ?c5 ?_))
        case c1 => exact hi0.out
        case c2 => simp [Value.oneCell']
        case c3 => unfold maxLen; omega
        case c4 => omega
        case c5 => simp; omega
        intro v' w2 hown' hgrow _
        have hrowne : (Value.ownBlock u3) ≠ some w1.heap.size := fun h => by have := (Hl.out _ h).2; omega
        have hge := hgrow.block w1.heap.size (by simp; omega) (fun h => hrowne h.symm)
        have he := cells4 (hge.trans (heap_alloc2_old w1 _ _))
        obtain ⟨e0, _, e2, _, _, _, _, _⟩ := he
        have Hb2 := Lib.hid ((step_new (step_new Hb1.out (.cells #[.string (B t), .string (B v), .string (B r), .bool true] 91)) (.cells #[.string (B t), .string (B v)] 35)).grown hgrow (by simp; omega) (own_ge hown2))
        have hrow : Hid (w2.ownsRow W1.heap.size 35 2 v' (k + 1) (entCells (pre ++ [(t, v)]))) := Lib.hid (by
          rw [show entCells (pre ++ [(t, v)]) = entCells pre ++ [.string (B t), .string (B v)] by simp [entCells]]
          exact hown')
        have Hrun2 : Hid (entsL m [] (L s) = (entsL j t r).map (fun z => ((pre ++ [(t, v)]) ++ z.1, z.2))) := Lib.hid (by
          rw [Hrun.out, if_pos Hok.out]
          cases entsL j t r with
          | none => rfl
          | some z => simp)
        clear hown' hgrow hge hrowne hown2
        go_wp2
        go_region
        go_wp2
        go_roundw
        case rel =>
          refine ⟨k + 1, r, t, pre ++ [(t, v)], by omega, by go_num, rfl, rfl, by simp [hpl], hel2, hrow.out, ?_, below_to_drew Hb2.out⟩
          rw [show m - (k + 1) = j by omega]
          exact Hrun2.out
        case measure => simp [intOf]; omega
      | false =>
        obtain rfl : R = none := by rw [← HR.out, Hrun.out]; simp [hok]
        rw [hok] at Hc
        clear hok
        generalize hE : entG (B q) (B last) = E at *
        generalize hr : entR (B q) (B last) = r at *
        clear hE hr
        obtain ⟨t, v⟩ := E
        simp only at Hc
        go_wp2_with fail
        refine (Hc.out _).mono ?_
        rintro e w1 ⟨rfl, hb1⟩
        have Hb1 := Lib.hid (step_call Hbel.out hb1)
        have hw1 := Hz1w.out
        have hg := (Hb1.out.block (w.heap.size + 1) (by omega)).trans Hres.out
        have hs1 := Hb1.out.size
        have hg2 := (heap_alloc_old w1 (.cells #[.string (B t), .string (B v), .string (B r), .bool false] 91) (show w.heap.size + 1 < w1.heap.size by omega)).trans hg
        have Hg2 := Lib.hid hg2
        obtain ⟨c0, c1, c2, f0, f1, f2⟩ := cells3 hg2
        clear hb1 hg hg2
        have Hb3 := Lib.hid (step_new ((Hbw.out).trans (Hb1.out.mono (by omega))) (.cells #[.string (B t), .string (B v), .string (B r), .bool false] 91))
        go_wp2
        refine bodyPost_ret_by (results_cell_row rfl _ _ (w.heap.size + 1) _ _ _ _ (by rfl) (set3 _ _ _ Hg2.out) Try.underlying72 rfl (by kernel_rfl)) rfl ⟨?_, by rw [HR.out]; rfl⟩
        exact below_set (below_set (below_set Hb3.out _ _ _ (by omega)) _ _ _ (by omega)) _ _ _ (by omega)
    · obtain rfl : k = m := by omega
      obtain rfl : R = some (pre, q) := by rw [← HR.out, hrun, Nat.sub_self]; simp [entsL]
      have hshape : Hid (∃ ao cap, u3 = .slice ao k cap) := Lib.hid (by
        rcases hown.2 with ⟨rfl, rfl⟩ | ⟨g, cap, cur, rfl, _⟩
        · exact ⟨none, 0, rfl⟩
        · exact ⟨_, _, rfl⟩)
      have Hown : Hid (wr.ownsRow W1.heap.size 35 2 u3 pre.length (entCells pre)) := Lib.hid (by rw [hpl]; exact hown)
      have Hbel := Lib.hid hbel
      have hw1 := Hz1w.out
      have hg := (Hbel.out.block (w.heap.size + 1) (by omega)).trans Hres.out
      have Hg := Lib.hid hg
      obtain ⟨c0, c1, c2, f0, f1, f2⟩ := cells3 hg
      clear hg hrun hown hbel
      have Hb3 := Lib.hid ((Hbw.out).trans (Hbel.out.mono (by omega)))
      obtain ⟨ao, cap, rfl⟩ := hshape.out
      go_wp2
      refine bodyPost_ret_by (results_cell_row rfl _ _ (w.heap.size + 1) _ _ _ _ (by rfl) (set3 _ _ _ Hg.out) Try.underlying72 rfl (by kernel_rfl)) rfl ⟨?_, ?_⟩
      · exact below_set (below_set (below_set Hb3.out _ _ _ (by omega)) _ _ _ (by omega)) _ _ _ (by omega)
      · rw [HR.out]
        have hown5 := own_set (own_set (own_set Hown.out (w.heap.size + 1) 0 (.slice ao k cap) (by omega)) (w.heap.size + 1) 1 (.string (B q)) (by omega)) (w.heap.size + 1) 2 (.bool true) (by omega)
        exact ⟨_, rfl, ents_of_own hown5, fun k hk => by have := (hown5.lt k hk).1; omega, by
          rcases hown5.2 with ⟨h, _⟩ | ⟨g, _, _, h, _⟩
          · exact .inl h
          · exact .inr ⟨g, by rw [h]; rfl⟩⟩
end Go.Proofs.Ytefnddhondbjbaa
