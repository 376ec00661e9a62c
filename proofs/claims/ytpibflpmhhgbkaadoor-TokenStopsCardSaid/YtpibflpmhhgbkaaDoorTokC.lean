/- Chapter 11: token.Tokens. Conditions: the tables; the text is at most 10^6 bytes. -/
import Derived.Test.YtpibflpmhhgbkaaDoorTokA
import Derived.Test.YtpibflpmhhgbkaaDoorTokB
import Derived.Test.YtpibflpmhhgbkaaDoorUtfK
import Derived.Test.YtpibflpmhhgbkaaDoorTokRows
import Derived.OwnWalkIn
namespace Go.Utf
open Go.Lib
theorem joinC_cons' (c : Int × List UInt8) (cs : List (Int × List UInt8)) : joinC (c :: cs) = c.2 ++ joinC cs := rfl
theorem runG_room (p : Int × List UInt8 → Bool) (xs : List (Int × List UInt8)) : (((runG p xs).1.map fun g => (joinC g).length).sum) + (joinC (runG p xs).2).length ≤ (joinC xs).length := by
  have key : ∀ (xs : List (Int × List UInt8)) (r : List (List (Int × List UInt8)) × List (Int × List UInt8)), (((xs.foldl (stG p) r).1.map fun g => (joinC g).length).sum) + (joinC (xs.foldl (stG p) r).2).length ≤ ((r.1.map fun g => (joinC g).length).sum) + (joinC r.2).length + (joinC xs).length := by
    intro xs
    induction xs with
    | nil => intro r; simp [joinC]
    | cons x xs ih =>
      intro r
      rw [List.foldl_cons, joinC_cons', List.length_append]
      refine Nat.le_trans (ih _) ?_
      unfold stG
      split
      · simp only [joinC_append, List.length_append]
        have : (joinC [x]).length = x.2.length := by simp [joinC]
        omega
      · have : ((flushG r).map fun g => (joinC g).length).sum ≤ (r.1.map fun g => (joinC g).length).sum + (joinC r.2).length := by
          unfold flushG
          split
          · omega
          · simp
        have e0 : (joinC ([] : List (Int × List UInt8))).length = 0 := rfl
        dsimp only
        omega
  have := key xs ([], [])
  simpa [runG, joinC] using this
theorem words_room (l : List UInt8) : ((wordsL l).map List.length).sum ≤ l.length := by
  have h := runG_room isW (chunks l)
  rw [chunks_join] at h
  have h2 : ((wordsL l).map List.length).sum = ((groups isW (chunks l)).map fun g => (joinC g).length).sum := by
    unfold wordsL; rw [List.map_map]; rfl
  rw [h2]
  unfold groups flushG
  split
  · omega
  · simp; omega
theorem mem_sum {a : Nat} {l : List Nat} (h : a ∈ l) : a ≤ l.sum := by
  induction l with
  | nil => simp at h
  | cons b l ih =>
    rw [List.sum_cons]
    rcases List.mem_cons.1 h with rfl | h
    · omega
    · have := ih h; omega
theorem words_le {l w : List UInt8} (h : w ∈ wordsL l) : w.length ≤ l.length := Nat.le_trans (mem_sum (List.mem_map.2 ⟨w, h, rfl⟩)) (words_room l)
theorem words_count (l : List UInt8) : (wordsL l).length ≤ l.length := by
  have h := words_room l
  have h2 : ∀ ws : List (List UInt8), (∀ w ∈ ws, w ≠ []) → ws.length ≤ (ws.map List.length).sum := by
    intro ws
    induction ws with
    | nil => intro _; simp
    | cons w ws ih =>
      intro hw
      have := ih fun v hv => hw v (by simp [hv])
      have := List.length_pos_iff.2 (hw w (by simp))
      simp; omega
  have := h2 (wordsL l) fun w hw => (words_word hw).2
  omega
end Go.Utf
namespace Go.Proofs.YtpibflpmhhgbkaaDoor
open Go.RowKit Go.Utf
open Go.Lib Go.Shelf
attribute [local go_sem] Oper.semAt_some

theorem box_else {W : World} {b k : Nat} {t : TypeId} {v u : Value} (h : Boxed W b t v) (hne : b ≠ k) : Boxed (W.setCell ⟨k, 0, none⟩ u) b t v := (Below.heap_setCell _ _ _ _ hne).trans h
theorem kpk_app {X : Nat → Prop} {e : TypeId} {n₀ base size n : Nat} {v : Value} {xs : List Value} {A C : World} (ho : A.ownsRow base e size v n xs) (hg : A.grownBy C v.ownBlock) (hn : n₀ ≤ A.heap.size) (hb : n₀ ≤ base) : KpK X e n₀ A C := by
  refine ⟨(Below.refl n₀ A).grown hg hn fun j ej => ?_, fun k o _ hk hno => ?_⟩
  · rcases ho.2 with ⟨rfl, _⟩ | ⟨g, cap, cur, rfl, h1, _, _⟩
    · simp [Value.ownBlock] at ej
    · obtain rfl : g = j := by simpa [Value.ownBlock] using ej
      omega
  · refine (hg.block k (Array.getElem?_eq_some_iff.1 hk).1 fun ej => ?_).trans hk
    rcases ho.2 with ⟨rfl, _⟩ | ⟨g, cap, cur, rfl, _, h2, _⟩
    · simp [Value.ownBlock] at ej
    · obtain rfl : k = g := by simpa [Value.ownBlock] using ej
      rw [h2] at hk; cases hk; exact hno _ _ rfl
theorem infoTok : (Tryd.prog.info? 32).map (fun i => (i.zero, i.size, i.bytes)) = some (some (.agg #[.string ⟨#[]⟩, .int .i64 0]), 2, 24) := by kernel_rfl
set_option maxRecDepth 100000 in
set_option maxHeartbeats 6400000 in
theorem token_Tokens (s : ByteArray) (hs : s.size ≤ 1000000) (w : World) (hT : Tabs w) :
    Calls Tryd.prog 10 #[.string s] w fun e w' => ∃ v, e = .returned v ∧ Below w.heap.size w w' ∧ w'.ownsRow w.heap.size 32 2 v (tokensL (L s)).length (tokCells (tokensL (L s))) := by
  have HT := Lib.hid hT
  clear hT
  obtain ⟨i0, hi, hz0, hz1, hz2⟩ := info_parts infoTok
  refine (callsIn_wide (n := 8)).1 ?_
  refine callsIn_of_wp_marks Tryd.func10 rfl trivial ?_ rfl
  simp only [Tryd.ntmps10, List.size_toArray, List.length_cons, List.length_nil, Nat.reduceAdd, Nat.reduceSub, Array.replicate_succ, Array.replicate_zero, List.push_toArray, List.append_toArray, List.nil_append, List.cons_append]
  refine wpIn_wide.2 ?_
  have hA1 : Boxed ((w.alloc (.cells #[.slice none 0 0] 24)).alloc (.cells #[.int .i64 0] 3)) w.heap.size 24 (.slice none 0 0) := (Boxed.new w _ _).alloc _
  have hP1 : Boxed ((w.alloc (.cells #[.slice none 0 0] 24)).alloc (.cells #[.int .i64 0] 3)) (w.heap.size + 1) 3 (.int .i64 0) := by
    have := Boxed.new (w.alloc (.cells #[.slice none 0 0] 24)) 3 (.int .i64 0)
    rwa [World.size_alloc] at this
  have hb1 : Below w.heap.size w ((w.alloc (.cells #[.slice none 0 0] 24)).alloc (.cells #[.int .i64 0] 3)) := step_new (step_new (Below.refl _ _) _) _
  have hz1' : ((w.alloc (.cells #[.slice none 0 0] 24)).alloc (.cells #[.int .i64 0] 3)).heap.size = w.heap.size + 1 + 1 := by simp
  go_wp2_with fail
  generalize (w.alloc (.cells #[.slice none 0 0] 24)).alloc (.cells #[.int .i64 0] 3) = W1 at hA1 hP1 hb1 hz1' ⊢
  refine (tok_words s W1).mono ?_
  rintro e' w2 ⟨rfl, rfl⟩
  rw [hz1']
  have hA2 := hA1.alloc (.cells #[.string s] 9)
  have hP2 := hP1.alloc (.cells #[.string s] 9)
  have hb2 := step_new hb1 (.cells #[.string s] 9)
  have hR2 := Boxed.new W1 9 (.string s)
  have hz2' : (W1.alloc (.cells #[.string s] 9)).heap.size = w.heap.size + 1 + 1 + 1 := by rw [World.size_alloc, hz1']
  rw [hz1'] at hR2
  generalize W1.alloc (.cells #[.string s] 9) = W2 at *
  clear hA1 hP1 hb1 hz1'
  go_wp2_with fail
  refine wpIn_wide.1 (wpIn_rangeSeq2 (n := 8) rfl (by omega) (gf := 35) (lb := #[.pointer (some ⟨w.heap.size + 1 + 1, 0, none⟩)]) ?hg trivial (enters_of Tryd.func35 (by kernel_rfl) rfl)
    (words1_gives _ (by omega) (w.heap.size + 1 + 1) s hs w HT.out W2 hb2 (0, 0) hR2 (fun k => k = w.heap.size + 1 + 1 ∨ W2.heap.size + 2 ≤ k) 32 (.inl rfl) (fun k hk => .inr hk) (by decide) (by decide) (by decide)) kpk_t (kpk_b (by omega) (by omega)) (fun _ => rfl)
    (fun pre W' => ∃ v, Boxed W' w.heap.size 24 v ∧ W'.ownsRow w.heap.size 32 2 v (toksFrom 0 pre).length (tokCells (toksFrom 0 pre)) ∧ Boxed W' (w.heap.size + 1) 3 (.int .i64 (pre.length : Nat)) ∧ Below w.heap.size w W')
    (fun _ _ _ => False) ?hI ?hIx ?h0 ?act ?assign ?body ?done ?stop)
  case hg => rfl
  case hI =>
    rintro pre A C row ⟨v, h1, h2, h3, h4⟩ hg hr
    refine ⟨v, box_turn h1 (by omega : w.heap.size < W2.heap.size) hg (fun r e => (hr r e).1), h2.kept hg ?_, box_turn h3 (by omega : w.heap.size + 1 < W2.heap.size) hg (fun r e => (hr r e).1), h4.grown hg h4.size (fun k e => by have := (hr k e).1; omega)⟩
    rcases h2.2 with ⟨rfl, _⟩ | ⟨g, cap, cur, rfl, _, hgb, _⟩
    · exact .inl rfl
    · refine .inr fun e' => ?_
      obtain ⟨_, o, ho, hc⟩ := hr g (by simpa [Value.ownBlock] using e'.symm)
      rw [hgb] at ho; cases ho; exact hc _ _ rfl
  case hIx => intro c pre A C row h; exact h.elim
  case h0 => exact ⟨_, hA2, World.ownsRow_nil _ _ _ _, hP2, hb2⟩
  case assign =>
    intro l' x W' K hK
    dsimp only [txV]
    gi_wp2
    exact hK
  case body =>
    rintro l' pre x W' ⟨v, h1, h2, h3, h4⟩ hpre
    obtain ⟨va, vc, rfl⟩ := own_form h2
    have hxw : x ∈ wordsL (L s) := hpre.subset (by simp)
    have hxl := words_le hxw
    have hcnt := words_count (L s)
    have hpl := hpre.length_le
    rw [length_L] at hxl hcnt
    rw [List.length_append, List.length_singleton] at hpl
    have HF := Lib.hid (utf_Folded (B x) (by rw [size_B]; omega) W' (HT.out.below h4))
    rw [L_B] at HF
    have htl := toks_length 0 pre
    have hnext := toks_append 0 pre [x]
    simp only [toksFrom, List.append_nil, Nat.zero_add] at hnext
    generalize foldL x = t at HF hnext
    gi_wp2_with fail
    refine ⟨trivial, ?_⟩
    refine (CallsIn.inRound l' (callsIn_wide.2 HF.out)).mono ?_
    rintro e' W3 ⟨rfl, hb3⟩
    have q1 := box_under h1 hb3
    have q3 := box_under h3 hb3
    have q2 := own_below h2 hb3
    have q4 := h4.trans (hb3.mono h4.size)
    have Hk3 := Lib.hid (kpk_below (X := fun k => w.heap.size + 1 + 1 ≤ k) (e := 32) h4.size hb3)
    have hq : w.heap.size ≤ W3.heap.size := q4.size
    have c1 := q1.cell
    have c3 := q3.cell
    have f1 := q1.frozen
    have f3 := q3.frozen
    have hpl1 : (pre ++ [x]).length = pre.length + 1 := by simp
    have Hpl1 := Lib.hid hpl1
    have Hfin : Hid (∀ W5 v5, KpK (fun k => w.heap.size + 1 + 1 ≤ k) 32 w.heap.size W' W5 → Boxed W5 w.heap.size 24 v5 → W5.ownsRow w.heap.size 32 2 v5 (toksFrom 0 (pre ++ [x])).length (tokCells (toksFrom 0 (pre ++ [x]))) → Boxed W5 (w.heap.size + 1) 3 (.int .i64 ((pre.length : Int) + 1)) →
        KeepsFrom W2.heap.size W' W5 ∧ KpK (fun k => k = w.heap.size + 1 + 1 ∨ W2.heap.size + 2 ≤ k) 32 w.heap.size W' W5 ∧ ∃ v, Boxed W5 w.heap.size 24 v ∧ W5.ownsRow w.heap.size 32 2 v (toksFrom 0 (pre ++ [x])).length (tokCells (toksFrom 0 (pre ++ [x]))) ∧ Boxed W5 (w.heap.size + 1) 3 (.int .i64 ((pre ++ [x]).length : Nat)) ∧ Below w.heap.size w W5) := Lib.hid (by
      intro W5 v5 hk hb ho hp
      refine ⟨kpk_keeps hk (fun k h => by omega), kpk_sub hk (fun k h => by omega), v5, hb, ho, ?_, h4.trans hk.1⟩
      rw [hpl1]; exact hp)
    clear hb3 h1 h2 h3 h4 hpl1
    have Hnext := Lib.hid hnext
    clear hnext hpre hxw
    by_cases hlen : t.length ≤ 40
    · have hl40 : ((B t).size : Int) ≤ 40 := by rw [size_B]; omega
      have HS := Lib.hid (token_Stop (B t) W3)
      rw [L_B] at HS
      have hgd : goodB t = !stopB t := by unfold goodB; rw [decide_eq_true hlen, Bool.true_and]
      rw [hgd] at Hnext
      generalize stopB t = sb at HS Hnext
      gi_wp2_with fail
      refine ⟨trivial, ?_⟩
      refine (CallsIn.inRound l' (callsIn_wide.2 HS.out)).mono ?_
      rintro e' W4 ⟨rfl, rfl⟩
      cases sb
      · have Ho := Lib.hid (q2.alloc (.cells #[.string (B t), .int .i64 (pre.length : Nat)] 32))
        gi_wp2_with (gi_at_builtin; go_must (refine wpListIn_append_own _ rfl _ _ 24 rfl w.heap.size 32 i0 (.agg #[.string ⟨#[]⟩, .int .i64 0]) 2 24 Tryd.underlying24 hi hz0 hz1 hz2 rfl (by decide) _ _ _ rfl Ho.out ⟨W4.heap.size, 0, none⟩ 1 1 [.string (B t), .int .i64 (pre.length : Nat)] rfl rfl ?c1 ?c2 ?c3 ?c4 ?c5 ?_))
        case c1 => exact (cell2_new W4 W4.heap.size rfl (.string (B t)) (.int .i64 (pre.length : Nat)) 32)
        case c2 => simp [Value.oneCell']
        case c3 => unfold maxLen; omega
        case c4 => omega
        case c5 => simp; omega
        intro v' w5 hown' hgrow _
        obtain ⟨r1, r2, r3, r4, r5⟩ := Boxed.appended q1 (by decide) q2 hq (Nat.le_refl _) hown' hgrow
        have s3 : Boxed w5 (w.heap.size + 1) 3 (.int .i64 (pre.length : Nat)) := (q3.alloc _).kept hgrow (q3.not_row (by decide) q2)
        have Hk5 := Lib.hid (kpk_set (kpk_set (kpk_t Hk3.out (kpk_t (kpk_below hq (step_new (Below.refl _ W4) (.cells #[.string (B t), .int .i64 (pre.length : Nat)] 32))) (kpk_app Ho.out hgrow (by simp; omega) (Nat.le_refl _)))) (Nat.le_refl _) (by omega) v') (Nat.le_succ _) (by omega) (.int .i64 ((pre.length : Int) + 1)))
        have s1 := Lib.hid (box_else r2 (by omega : w.heap.size ≠ w.heap.size + 1) (u := .int .i64 ((pre.length : Int) + 1)))
        have s4 := Lib.hid ((box_else s3 (by omega : w.heap.size + 1 ≠ w.heap.size) (u := v')).set (.int .i64 ((pre.length : Int) + 1)))
        have s2 := Lib.hid (r3.kept (grownBy_setCell' _ (w.heap.size + 1) (.int .i64 ((pre.length : Int) + 1))) (.inr ((box_else s3 (by omega : w.heap.size + 1 ≠ w.heap.size) (u := v')).not_row (by decide) r3).symm))
        obtain ⟨g, cap, rfl⟩ := ownsRow_succ hown'
        have d1 := r1.cell
        have e1 := r1.frozen
        have d3 := s3.cell
        have e3 := s3.frozen
        clear hown' hgrow r1 r2 r3 r4 r5 s3 q1 q2 q3 q4
        gi_wp2
        refine Hfin.out _ _ Hk5.out s1.out ?_ s4.out
        rw [Hnext.out]
        simp only [Bool.not_false, if_true]
        rw [List.length_append, List.length_singleton, tokCells_append]
        exact s2.out
      · gi_wp2
        refine Hfin.out _ _ (kpk_set Hk3.out (Nat.le_succ _) (by omega) _) (box_else q1 (by omega)) ?_ (q3.set _)
        rw [Hnext.out]
        simp only [Bool.not_true, Bool.false_eq_true, if_false, List.append_nil]
        exact q2.kept (grownBy_setCell' _ _ _) (.inr (q3.not_row (by decide) q2).symm)
    · have hl40 : ¬ ((B t).size : Int) ≤ 40 := by rw [size_B]; omega
      have hgd : goodB t = false := by unfold goodB; rw [decide_eq_false hlen, Bool.false_and]
      rw [hgd] at Hnext
      gi_wp2_with fail
      refine ⟨trivial, ?_⟩
      gi_wp2
      refine Hfin.out _ _ (kpk_set Hk3.out (Nat.le_succ _) (by omega) _) (box_else q1 (by omega)) ?_ (q3.set _)
      rw [Hnext.out]
      simp only [Bool.false_eq_true, if_false, List.append_nil]
      exact q2.kept (grownBy_setCell' _ _ _) (.inr (q3.not_row (by decide) q2).symm)
  case done =>
    rintro D W' hD ⟨v, h1, h2, h3, h4⟩ hK
    obtain ⟨va, vc, rfl⟩ := own_form h2
    have c1 := h1.cell
    go_wp2
    refine ⟨by simp, .inl ⟨_, _, rfl, run_takeDeferred hK, ?_⟩⟩
    exact ⟨_, by simp [results, Tryd.f10, go_sem], _, rfl, h4.trans (belowK_b (w := w) (Nat.le_refl _) _ D _ (.deferred none) (by omega) hK rfl rfl), ownsRow_putObj h2 _ hK rfl⟩
  case stop =>
    intro D c pre W' _ _ h _
    exact h.elim
end Go.Proofs.YtpibflpmhhgbkaaDoor
