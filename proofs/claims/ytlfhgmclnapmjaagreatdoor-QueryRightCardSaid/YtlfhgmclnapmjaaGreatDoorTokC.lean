/- Chapter 11: the words that are left out: token.Stop, codexref11.Stop. No conditions. Chapter 11: token.Tokens. Conditions: the tables; the text is at most 10^6 bytes. Chapter 11: token.Terms. Conditions: the tables; the text is at most 10^6 bytes. Chapter 11: codexref11.words. Condition: the text is at most 10^6 bytes. Chapter 11: codexref11.Tokens. Condition: the text is at most 10^6 bytes. Chapter 11: codexlaw11's comparisons: two slices of the same are found the same. No conditions. Facts of tokens that the laws share; rows of tokens as what is appended. No conditions. -/
import Derived.Test.YtlfhgmclnapmjaaGreatDoorTokPlain
import Derived.Test.YtlfhgmclnapmjaaGreatDoorTokA
import Derived.Test.YtlfhgmclnapmjaaGreatDoorUtfK
import Derived.Test.YtlfhgmclnapmjaaGreatDoorTokRows
import Derived.OwnWalkIn
import Derived.Test.YtlfhgmclnapmjaaGreatDoorTokSort
import Derived.Test.YtlfhgmclnapmjaaGreatDoorUtfF
import Derived.Test.YtlfhgmclnapmjaaGreatDoorTokSet
import Derived.Test.YtlfhgmclnapmjaaGreatDoorStepAny
import Derived.Sort.Walk0
namespace Go.Proofs.YtlfhgmclnapmjaaGreatDoor
open Go.RowKit Go.Utf Go.Lib
attribute [local go_sem] Oper.semAt_some

theorem stop_bools (s : ByteArray) : stopB (L s) = ((s.toList == [97]) || (s.toList == [97, 110]) || (s.toList == [97, 110, 100]) || (s.toList == [97, 114, 101]) || (s.toList == [97, 115]) || (s.toList == [97, 116]) || (s.toList == [98, 101]) || (s.toList == [98, 121]) || (s.toList == [102, 111, 114]) || (s.toList == [105, 110]) || (s.toList == [105, 115]) || (s.toList == [105, 116]) || (s.toList == [111, 102]) || (s.toList == [111, 110]) || (s.toList == [111, 114]) || (s.toList == [116, 104, 101]) || (s.toList == [116, 111]) || (s.toList == [119, 105, 116, 104])) := by
  rw [toList_L]
  unfold stopB stopT
  simp only [List.contains_cons, List.contains_nil, Bool.or_false, Bool.or_assoc]
set_option maxRecDepth 100000 in
set_option maxHeartbeats 3200000 in
theorem token_Stop (s : ByteArray) (w : World) : Calls Tryz.prog 46 #[.string s] w fun e w' => e = .returned (.bool (stopB (L s))) ∧ w' = w := by
  rw [stop_bools]
  go_enter Tryz.func46, Tryz.ntmps46
  go_wp2
  all_goals first
    | (exfalso; simp_all; done)
    | (go_ret; exact ⟨by simp [*], rfl⟩)
set_option maxRecDepth 100000 in
set_option maxHeartbeats 3200000 in
theorem ref11_Stop (s : ByteArray) (w : World) : Calls Tryz.prog 33 #[.string s] w fun e w' => e = .returned (.bool (stopB (L s))) ∧ Below w.heap.size w w' := by
  go_enter Tryz.func33, Tryz.ntmps33
  go_wp2
  have hrow : ∀ k (h : k < 18), (w.alloc (.cells (stopT.map fun t => Value.string (B t)).toArray 9)).cell? ⟨w.heap.size, k, none⟩ = some (.string (B (stopT[k]'h))) := by
    intro k h
    have hb : (w.alloc (.cells (stopT.map fun t => Value.string (B t)).toArray 9)).heap[w.heap.size]? = some (.cells (stopT.map fun t => Value.string (B t)).toArray 9 (0, 0)) := heap_alloc_new w _
    have hk : k < stopT.length := h
    simp only [World.cell?, hb]
    simp [hk]
    rfl
  have hg : (w.alloc (.cells (stopT.map fun t => Value.string (B t)).toArray 9)) = (w.alloc (.cells (stopT.map fun t => Value.string (B t)).toArray 9)) := rfl
  have hbel : Below w.heap.size w (w.alloc (.cells (stopT.map fun t => Value.string (B t)).toArray 9)) := step_new (Below.refl _ _) _
  change Code.wp _ _ _ _ (w.alloc (.cells (stopT.map fun t => Value.string (B t)).toArray 9))
  generalize w.alloc (.cells (stopT.map fun t => Value.string (B t)).toArray 9) = w1 at hrow hbel ⊢
  have Hrow := Lib.hid hrow
  have Hbel := Lib.hid hbel
  clear hrow hbel hg
  go_loopw [4] (fun i wr => ∃ k : Nat, k ≤ 18 ∧ i = .int .i64 k ∧ (stopT.take k).contains (L s) = false ∧ wr = w1) (fun i _ => 18 - (intOf i).toNat)
  case atStart => exact ⟨0, by omega, rfl, rfl, rfl⟩
  case round =>
    obtain ⟨k, hk, rfl, ht, rfl⟩ := hrel
    have Ht := Lib.hid ht
    clear ht
    by_cases h1 : k < 18
    · have hc := Hrow.out k h1
      have hn : (stopT.take (k + 1)).contains (L s) = ((stopT.take k).contains (L s) || (L s == stopT[k]'h1)) := by
        rw [List.take_succ_eq_append_getElem h1, Bool.eq_iff_iff]; simp
      rw [Ht.out, Bool.false_or] at hn
      generalize stopT[k]'h1 = t at hc hn
      obtain ⟨b, hb⟩ : ∃ b, (L s == t) = b := ⟨_, rfl⟩
      rw [hb] at hn
      have e1 : ((B t).toList == s.toList) = b := by rw [toList_B, toList_L, ← hb]; exact Bool.beq_comm
      have Hn := Lib.hid hn
      clear hn hb
      cases b
      · go_wp2
        go_roundw
        case rel => exact ⟨k + 1, by omega, by go_num, Hn.out, trivial⟩
        case measure => simp [intOf]; omega
      · have Hst := Lib.hid (show stopB (L s) = true by
          have h := Hn.out
          rw [List.contains_iff_mem] at h
          exact List.contains_iff_mem.2 (List.mem_of_mem_take h))
        go_wp2
        go_ret
        exact ⟨by rw [Hst.out]; rfl, Hbel.out⟩
    · have hk' : k = 18 := by omega
      subst hk'
      go_wp2
      go_ret
      refine ⟨?_, Hbel.out⟩
      have : stopB (L s) = false := Ht.out
      rw [this]; rfl
end Go.Proofs.YtlfhgmclnapmjaaGreatDoor
namespace Go.Utf
open Go.Lib
theorem joinC_cons' (c : Int × List UInt8) (cs : List (Int × List UInt8)) : joinC (c :: cs) = c.2 ++ joinC cs := rfl
theorem runG_room (p : Int × List UInt8 → Bool) (xs : List (Int × List UInt8)) : (((runG p xs).1.map fun g => (joinC g).length).sum) + (joinC (runG p xs).2).length ≤ (joinC xs).length := by
  have key : ∀ (xs : List (Int × List UInt8)) (r : List (List (Int × List UInt8)) × List (Int × List UInt8)), (((xs.foldl (stG p) r).1.map fun g => (joinC g).length).sum) + (joinC (xs.foldl (stG p) r).2).length ≤ ((r.1.map fun g => (joinC g).length).sum) + (joinC r.2).length + (joinC xs).length := by
    intro xs
    induction xs with
    | nil => intro r; simp [joinC]
    | cons x xs ih =>
      intro r
      rw [List.foldl_cons, joinC_cons', List.length_append]
      refine Nat.le_trans (ih _) ?_
      unfold stG
      split
      · simp only [joinC_append, List.length_append]
        have : (joinC [x]).length = x.2.length := by simp [joinC]
        omega
      · have : ((flushG r).map fun g => (joinC g).length).sum ≤ (r.1.map fun g => (joinC g).length).sum + (joinC r.2).length := by
          unfold flushG
          split
          · omega
          · simp
        have e0 : (joinC ([] : List (Int × List UInt8))).length = 0 := rfl
        dsimp only
        omega
  have := key xs ([], [])
  simpa [runG, joinC] using this
theorem words_room (l : List UInt8) : ((wordsL l).map List.length).sum ≤ l.length := by
  have h := runG_room isW (chunks l)
  rw [chunks_join] at h
  have h2 : ((wordsL l).map List.length).sum = ((groups isW (chunks l)).map fun g => (joinC g).length).sum := by
    unfold wordsL; rw [List.map_map]; rfl
  rw [h2]
  unfold groups flushG
  split
  · omega
  · simp; omega
theorem mem_sum {a : Nat} {l : List Nat} (h : a ∈ l) : a ≤ l.sum := by
  induction l with
  | nil => simp at h
  | cons b l ih =>
    rw [List.sum_cons]
    rcases List.mem_cons.1 h with rfl | h
    · omega
    · have := ih h; omega
theorem words_le {l w : List UInt8} (h : w ∈ wordsL l) : w.length ≤ l.length := Nat.le_trans (mem_sum (List.mem_map.2 ⟨w, h, rfl⟩)) (words_room l)
theorem words_count (l : List UInt8) : (wordsL l).length ≤ l.length := by
  have h := words_room l
  have h2 : ∀ ws : List (List UInt8), (∀ w ∈ ws, w ≠ []) → ws.length ≤ (ws.map List.length).sum := by
    intro ws
    induction ws with
    | nil => intro _; simp
    | cons w ws ih =>
      intro hw
      have := ih fun v hv => hw v (by simp [hv])
      have := List.length_pos_iff.2 (hw w (by simp))
      simp; omega
  have := h2 (wordsL l) fun w hw => (words_word hw).2
  omega
end Go.Utf
namespace Go.Proofs.YtlfhgmclnapmjaaGreatDoor
open Go.RowKit Go.Utf
open Go.Lib Go.Shelf
attribute [local go_sem] Oper.semAt_some

theorem box_else {W : World} {b k : Nat} {t : TypeId} {v u : Value} (h : Boxed W b t v) (hne : b ≠ k) : Boxed (W.setCell ⟨k, 0, none⟩ u) b t v := (Below.heap_setCell _ _ _ _ hne).trans h
theorem kpk_app {X : Nat → Prop} {e : TypeId} {n₀ base size n : Nat} {v : Value} {xs : List Value} {A C : World} (ho : A.ownsRow base e size v n xs) (hg : A.grownBy C v.ownBlock) (hn : n₀ ≤ A.heap.size) (hb : n₀ ≤ base) : KpK X e n₀ A C := by
  refine ⟨(Below.refl n₀ A).grown hg hn fun j ej => ?_, fun k o _ hk hno => ?_⟩
  · rcases ho.2 with ⟨rfl, _⟩ | ⟨g, cap, cur, rfl, h1, _, _⟩
    · simp [Value.ownBlock] at ej
    · obtain rfl : g = j := by simpa [Value.ownBlock] using ej
      omega
  · refine (hg.block k (Array.getElem?_eq_some_iff.1 hk).1 fun ej => ?_).trans hk
    rcases ho.2 with ⟨rfl, _⟩ | ⟨g, cap, cur, rfl, _, h2, _⟩
    · simp [Value.ownBlock] at ej
    · obtain rfl : k = g := by simpa [Value.ownBlock] using ej
      rw [h2] at hk; cases hk; exact hno _ _ rfl
theorem infoTok : (Tryz.prog.info? 44).map (fun i => (i.zero, i.size, i.bytes)) = some (some (.agg #[.string ⟨#[]⟩, .int .i64 0]), 2, 24) := by kernel_rfl
set_option maxRecDepth 100000 in
set_option maxHeartbeats 6400000 in
theorem token_Tokens (s : ByteArray) (hs : s.size ≤ 1000000) (w : World) (hT : Tabs w) :
    Calls Tryz.prog 25 #[.string s] w fun e w' => ∃ v, e = .returned v ∧ Below w.heap.size w w' ∧ w'.ownsRow w.heap.size 44 2 v (tokensL (L s)).length (tokCells (tokensL (L s))) := by
  have HT := Lib.hid hT
  clear hT
  obtain ⟨i0, hi, hz0, hz1, hz2⟩ := info_parts infoTok
  refine (callsIn_wide (n := 8)).1 ?_
  refine callsIn_of_wp_marks Tryz.func25 rfl trivial ?_ rfl
  simp only [Tryz.ntmps25, List.size_toArray, List.length_cons, List.length_nil, Nat.reduceAdd, Nat.reduceSub, Array.replicate_succ, Array.replicate_zero, List.push_toArray, List.append_toArray, List.nil_append, List.cons_append]
  refine wpIn_wide.2 ?_
  have hA1 : Boxed ((w.alloc (.cells #[.slice none 0 0] 29)).alloc (.cells #[.int .i64 0] 3)) w.heap.size 29 (.slice none 0 0) := (Boxed.new w _ _).alloc _
  have hP1 : Boxed ((w.alloc (.cells #[.slice none 0 0] 29)).alloc (.cells #[.int .i64 0] 3)) (w.heap.size + 1) 3 (.int .i64 0) := by
    have := Boxed.new (w.alloc (.cells #[.slice none 0 0] 29)) 3 (.int .i64 0)
    rwa [World.size_alloc] at this
  have hb1 : Below w.heap.size w ((w.alloc (.cells #[.slice none 0 0] 29)).alloc (.cells #[.int .i64 0] 3)) := step_new (step_new (Below.refl _ _) _) _
  have hz1' : ((w.alloc (.cells #[.slice none 0 0] 29)).alloc (.cells #[.int .i64 0] 3)).heap.size = w.heap.size + 1 + 1 := by simp
  go_wp2_with fail
  generalize (w.alloc (.cells #[.slice none 0 0] 29)).alloc (.cells #[.int .i64 0] 3) = W1 at hA1 hP1 hb1 hz1' ⊢
  refine (tok_words s W1).mono ?_
  rintro e' w2 ⟨rfl, rfl⟩
  rw [hz1']
  have hA2 := hA1.alloc (.cells #[.string s] 9)
  have hP2 := hP1.alloc (.cells #[.string s] 9)
  have hb2 := step_new hb1 (.cells #[.string s] 9)
  have hR2 := Boxed.new W1 9 (.string s)
  have hz2' : (W1.alloc (.cells #[.string s] 9)).heap.size = w.heap.size + 1 + 1 + 1 := by rw [World.size_alloc, hz1']
  rw [hz1'] at hR2
  generalize W1.alloc (.cells #[.string s] 9) = W2 at *
  clear hA1 hP1 hb1 hz1'
  go_wp2_with fail
  refine wpIn_wide.1 (wpIn_rangeSeq2 (n := 8) rfl (by omega) (gf := 67) (lb := #[.pointer (some ⟨w.heap.size + 1 + 1, 0, none⟩)]) ?hg trivial (enters_of Tryz.func67 (by kernel_rfl) rfl)
    (words1_gives _ (by omega) (w.heap.size + 1 + 1) s hs w HT.out W2 hb2 (0, 0) hR2 (fun k => k = w.heap.size + 1 + 1 ∨ W2.heap.size + 2 ≤ k) 44 (.inl rfl) (fun k hk => .inr hk) (by decide) (by decide) (by decide)) kpk_t (kpk_b (by omega) (by omega)) (fun _ => rfl)
    (fun pre W' => ∃ v, Boxed W' w.heap.size 29 v ∧ W'.ownsRow w.heap.size 44 2 v (toksFrom 0 pre).length (tokCells (toksFrom 0 pre)) ∧ Boxed W' (w.heap.size + 1) 3 (.int .i64 (pre.length : Nat)) ∧ Below w.heap.size w W')
    (fun _ _ _ => False) ?hI ?hIx ?h0 ?act ?assign ?body ?done ?stop)
  case hg => rfl
  case hI =>
    rintro pre A C row ⟨v, h1, h2, h3, h4⟩ hg hr
    refine ⟨v, box_turn h1 (by omega : w.heap.size < W2.heap.size) hg (fun r e => (hr r e).1), h2.kept hg ?_, box_turn h3 (by omega : w.heap.size + 1 < W2.heap.size) hg (fun r e => (hr r e).1), h4.grown hg h4.size (fun k e => by have := (hr k e).1; omega)⟩
    rcases h2.2 with ⟨rfl, _⟩ | ⟨g, cap, cur, rfl, _, hgb, _⟩
    · exact .inl rfl
    · refine .inr fun e' => ?_
      obtain ⟨_, o, ho, hc⟩ := hr g (by simpa [Value.ownBlock] using e'.symm)
      rw [hgb] at ho; cases ho; exact hc _ _ rfl
  case hIx => intro c pre A C row h; exact h.elim
  case h0 => exact ⟨_, hA2, World.ownsRow_nil _ _ _ _, hP2, hb2⟩
  case assign =>
    intro l' x W' K hK
    dsimp only [txV]
    gi_wp2
    exact hK
  case body =>
    rintro l' pre x W' ⟨v, h1, h2, h3, h4⟩ hpre
    obtain ⟨va, vc, rfl⟩ := own_form h2
    have hxw : x ∈ wordsL (L s) := hpre.subset (by simp)
    have hxl := words_le hxw
    have hcnt := words_count (L s)
    have hpl := hpre.length_le
    rw [length_L] at hxl hcnt
    rw [List.length_append, List.length_singleton] at hpl
    have HF := Lib.hid (utf_Folded (B x) (by rw [size_B]; omega) W' (HT.out.below h4))
    rw [L_B] at HF
    have htl := toks_length 0 pre
    have hnext := toks_append 0 pre [x]
    simp only [toksFrom, List.append_nil, Nat.zero_add] at hnext
    generalize foldL x = t at HF hnext
    gi_wp2_with fail
    refine ⟨trivial, ?_⟩
    refine (CallsIn.inRound l' (callsIn_wide.2 HF.out)).mono ?_
    rintro e' W3 ⟨rfl, hb3⟩
    have q1 := box_under h1 hb3
    have q3 := box_under h3 hb3
    have q2 := own_below h2 hb3
    have q4 := h4.trans (hb3.mono h4.size)
    have Hk3 := Lib.hid (kpk_below (X := fun k => w.heap.size + 1 + 1 ≤ k) (e := 44) h4.size hb3)
    have hq : w.heap.size ≤ W3.heap.size := q4.size
    have c1 := q1.cell
    have c3 := q3.cell
    have f1 := q1.frozen
    have f3 := q3.frozen
    have hpl1 : (pre ++ [x]).length = pre.length + 1 := by simp
    have Hpl1 := Lib.hid hpl1
    have Hfin : Hid (∀ W5 v5, KpK (fun k => w.heap.size + 1 + 1 ≤ k) 44 w.heap.size W' W5 → Boxed W5 w.heap.size 29 v5 → W5.ownsRow w.heap.size 44 2 v5 (toksFrom 0 (pre ++ [x])).length (tokCells (toksFrom 0 (pre ++ [x]))) → Boxed W5 (w.heap.size + 1) 3 (.int .i64 ((pre.length : Int) + 1)) →
        KeepsFrom W2.heap.size W' W5 ∧ KpK (fun k => k = w.heap.size + 1 + 1 ∨ W2.heap.size + 2 ≤ k) 44 w.heap.size W' W5 ∧ ∃ v, Boxed W5 w.heap.size 29 v ∧ W5.ownsRow w.heap.size 44 2 v (toksFrom 0 (pre ++ [x])).length (tokCells (toksFrom 0 (pre ++ [x]))) ∧ Boxed W5 (w.heap.size + 1) 3 (.int .i64 ((pre ++ [x]).length : Nat)) ∧ Below w.heap.size w W5) := Lib.hid (by
      intro W5 v5 hk hb ho hp
      refine ⟨kpk_keeps hk (fun k h => by omega), kpk_sub hk (fun k h => by omega), v5, hb, ho, ?_, h4.trans hk.1⟩
      rw [hpl1]; exact hp)
    clear hb3 h1 h2 h3 h4 hpl1
    have Hnext := Lib.hid hnext
    clear hnext hpre hxw
    by_cases hlen : t.length ≤ 40
    · have hl40 : ((B t).size : Int) ≤ 40 := by rw [size_B]; omega
      have HS := Lib.hid (token_Stop (B t) W3)
      rw [L_B] at HS
      have hgd : goodB t = !stopB t := by unfold goodB; rw [decide_eq_true hlen, Bool.true_and]
      rw [hgd] at Hnext
      generalize stopB t = sb at HS Hnext
      gi_wp2_with fail
      refine ⟨trivial, ?_⟩
      refine (CallsIn.inRound l' (callsIn_wide.2 HS.out)).mono ?_
      rintro e' W4 ⟨rfl, rfl⟩
      cases sb
      · have Ho := Lib.hid (q2.alloc (.cells #[.string (B t), .int .i64 (pre.length : Nat)] 44))
        gi_wp2_with (gi_at_builtin; go_must (refine wpListIn_append_own _ rfl _ _ 29 rfl w.heap.size 44 i0 (.agg #[.string ⟨#[]⟩, .int .i64 0]) 2 24 Tryz.underlying29 hi hz0 hz1 hz2 rfl (by decide) _ _ _ rfl Ho.out ⟨W4.heap.size, 0, none⟩ 1 1 [.string (B t), .int .i64 (pre.length : Nat)] rfl rfl ?c1 ?c2 ?c3 ?c4 ?c5 ?_))
        case c1 => exact (cell2_new W4 W4.heap.size rfl (.string (B t)) (.int .i64 (pre.length : Nat)) 44)
        case c2 => simp [Value.oneCell']
        case c3 => unfold maxLen; omega
        case c4 => omega
        case c5 => simp; omega
        intro v' w5 hown' hgrow _
        obtain ⟨r1, r2, r3, r4, r5⟩ := Boxed.appended q1 (by decide) q2 hq (Nat.le_refl _) hown' hgrow
        have s3 : Boxed w5 (w.heap.size + 1) 3 (.int .i64 (pre.length : Nat)) := (q3.alloc _).kept hgrow (q3.not_row (by decide) q2)
        have Hk5 := Lib.hid (kpk_set (kpk_set (kpk_t Hk3.out (kpk_t (kpk_below hq (step_new (Below.refl _ W4) (.cells #[.string (B t), .int .i64 (pre.length : Nat)] 44))) (kpk_app Ho.out hgrow (by simp; omega) (Nat.le_refl _)))) (Nat.le_refl _) (by omega) v') (Nat.le_succ _) (by omega) (.int .i64 ((pre.length : Int) + 1)))
        have s1 := Lib.hid (box_else r2 (by omega : w.heap.size ≠ w.heap.size + 1) (u := .int .i64 ((pre.length : Int) + 1)))
        have s4 := Lib.hid ((box_else s3 (by omega : w.heap.size + 1 ≠ w.heap.size) (u := v')).set (.int .i64 ((pre.length : Int) + 1)))
        have s2 := Lib.hid (r3.kept (grownBy_setCell' _ (w.heap.size + 1) (.int .i64 ((pre.length : Int) + 1))) (.inr ((box_else s3 (by omega : w.heap.size + 1 ≠ w.heap.size) (u := v')).not_row (by decide) r3).symm))
        obtain ⟨g, cap, rfl⟩ := ownsRow_succ hown'
        have d1 := r1.cell
        have e1 := r1.frozen
        have d3 := s3.cell
        have e3 := s3.frozen
        clear hown' hgrow r1 r2 r3 r4 r5 s3 q1 q2 q3 q4
        gi_wp2
        refine Hfin.out _ _ Hk5.out s1.out ?_ s4.out
        rw [Hnext.out]
        simp only [Bool.not_false, if_true]
        rw [List.length_append, List.length_singleton, tokCells_append]
        exact s2.out
      · gi_wp2
        refine Hfin.out _ _ (kpk_set Hk3.out (Nat.le_succ _) (by omega) _) (box_else q1 (by omega)) ?_ (q3.set _)
        rw [Hnext.out]
        simp only [Bool.not_true, Bool.false_eq_true, if_false, List.append_nil]
        exact q2.kept (grownBy_setCell' _ _ _) (.inr (q3.not_row (by decide) q2).symm)
    · have hl40 : ¬ ((B t).size : Int) ≤ 40 := by rw [size_B]; omega
      have hgd : goodB t = false := by unfold goodB; rw [decide_eq_false hlen, Bool.false_and]
      rw [hgd] at Hnext
      gi_wp2_with fail
      refine ⟨trivial, ?_⟩
      gi_wp2
      refine Hfin.out _ _ (kpk_set Hk3.out (Nat.le_succ _) (by omega) _) (box_else q1 (by omega)) ?_ (q3.set _)
      rw [Hnext.out]
      simp only [Bool.false_eq_true, if_false, List.append_nil]
      exact q2.kept (grownBy_setCell' _ _ _) (.inr (q3.not_row (by decide) q2).symm)
  case done =>
    rintro D W' hD ⟨v, h1, h2, h3, h4⟩ hK
    obtain ⟨va, vc, rfl⟩ := own_form h2
    have c1 := h1.cell
    go_wp2
    refine ⟨by simp, .inl ⟨_, _, rfl, run_takeDeferred hK, ?_⟩⟩
    exact ⟨_, by simp [results, Tryz.f25, go_sem], _, rfl, h4.trans (belowK_b (w := w) (Nat.le_refl _) _ D _ (.deferred none) (by omega) hK rfl rfl), ownsRow_putObj h2 _ hK rfl⟩
  case stop =>
    intro D c pre W' _ _ h _
    exact h.elim
end Go.Proofs.YtlfhgmclnapmjaaGreatDoor
namespace Go.Proofs.YtlfhgmclnapmjaaGreatDoor
open Go.RowKit Go.Utf Go.Lib Go.Shelf
attribute [local go_sem] Oper.semAt_some

def termsL (l : List UInt8) : List (List UInt8) := Lib.compact (((tokensL l).map Prod.fst).mergeSort fun x y => decide (x ≤ y))
theorem tokens_count (s : ByteArray) (hs : s.size ≤ 1000000) : (tokensL (L s)).length ≤ 1000000 := by
  have h1 := toks_length 0 (wordsL (L s))
  have h2 := words_count (L s)
  rw [length_L] at h2
  unfold tokensL; omega
theorem below_own {K base size n : Nat} {W A C : World} {e : TypeId} {v : Value} {xs : List Value} (h : Below K W A) (ho : A.ownsRow base e size v n xs) (hg : A.grownBy C v.ownBlock) (hn : K ≤ base) (hK : K ≤ A.heap.size) : Below K W C := by
  refine h.grown hg hK fun j ej => ?_
  rcases ho.2 with ⟨rfl, _⟩ | ⟨g, cap, cur, rfl, h1, _, _⟩
  · simp [Value.ownBlock] at ej
  · obtain rfl : g = j := by simpa [Value.ownBlock] using ej
    omega
theorem step_at {K : Nat} {W A : World} (h : Below K W A) (o : Obj) (hK : K ≤ A.heap.size) : Below K W (A.alloc o) := h.alloc hK o
theorem infoStr : (Tryz.prog.info? 9).map (fun i => (i.zero, i.size, i.bytes)) = some (some (.string ⟨#[]⟩), 1, 16) := by kernel_rfl
end Go.Proofs.YtlfhgmclnapmjaaGreatDoor
namespace Go.Utf
open Go.Lib
/-- Words, piece by piece: those that are done, and the one under way. -/
def goW : List (Int × List UInt8) → List (List UInt8) → Option (List UInt8) → List (List UInt8)
  | [], a, cur => a ++ cur.toList
  | c :: cs, a, cur => if isW c then goW cs a (some (cur.getD [] ++ c.2)) else goW cs (a ++ cur.toList) none
theorem goW_fold (cs : List (Int × List UInt8)) : ∀ R : List (List (Int × List UInt8)) × List (Int × List UInt8), goW cs (R.1.map joinC) (if R.2 = [] then none else some (joinC R.2)) = (flushG (cs.foldl (stG isW) R)).map joinC := by
  induction cs with
  | nil =>
    intro R
    unfold goW
    rw [List.foldl_nil]
    unfold flushG
    by_cases h0 : R.2 = []
    · rw [if_pos h0, if_pos h0]; simp
    · rw [if_neg h0, if_neg h0]; simp
  | cons c cs ih =>
    intro R
    rw [List.foldl_cons]
    unfold goW
    by_cases h : isW c = true
    · rw [if_pos h, ← ih]
      have e : stG isW R c = (R.1, R.2 ++ [c]) := by simp [stG, h]
      rw [e]
      dsimp only
      rw [if_neg (by simp : ¬ (R.2 ++ [c] = []))]
      congr 2
      rw [joinC_append]
      have e1 : joinC [c] = c.2 := by simp [joinC]
      rw [e1]
      by_cases h0 : R.2 = []
      · rw [if_pos h0, h0]; rfl
      · rw [if_neg h0]; rfl
    · rw [if_neg h, ← ih]
      have e : stG isW R c = (flushG R, []) := by simp [stG, h]
      rw [e]
      dsimp only
      rw [if_pos rfl]
      congr 1
      unfold flushG
      by_cases h0 : R.2 = []
      · rw [if_pos h0, if_pos h0]; simp
      · rw [if_neg h0, if_neg h0]; simp
theorem words_go (l : List UInt8) : goW (chunks l) [] none = wordsL l := goW_fold (chunks l) ([], [])
end Go.Utf
namespace Go.Proofs.YtlfhgmclnapmjaaGreatDoor
open Go.RowKit Go.Utf Go.Lib
attribute [local go_sem] Oper.semAt_some

theorem own_last {w : World} {base g cap : Nat} {a : List (List UInt8)} {x : List UInt8} (h : w.ownsRow base 9 1 (.slice (some ⟨g, 0, none⟩) (a.length + 1) cap) (a.length + 1) (txtCells (a ++ [x]))) :
    w.cell? ⟨g, a.length, none⟩ = some (.string (B x)) ∧ w.frozen? ⟨g, a.length, none⟩ = false ∧ base ≤ g ∧ a.length + 1 ≤ cap ∧ cap ≤ maxLen := by
  rcases h.2 with ⟨h0, _⟩ | ⟨g', cap', cur, h0, hg, hh, h1, h2, h3, h4⟩
  · cases h0
  cases h0
  refine ⟨?_, Lib.frozen_of_heap hh _, hg, h1, h2⟩
  rw [Lib.cell_of_heap hh]
  have : cur.toList[a.length]? = (txtCells (a ++ [x]))[a.length]? := by rw [← h4, List.getElem?_take, if_pos (by omega)]
  rw [← Array.getElem?_toList, this]
  simp [txtCells]
theorem own_last_set {w : World} {base g cap : Nat} {a : List (List UInt8)} {x : List UInt8} (h : w.ownsRow base 9 1 (.slice (some ⟨g, 0, none⟩) (a.length + 1) cap) (a.length + 1) (txtCells (a ++ [x]))) (y : List UInt8) :
    (w.setCell ⟨g, a.length, none⟩ (.string (B y))).ownsRow base 9 1 (.slice (some ⟨g, 0, none⟩) (a.length + 1) cap) (a.length + 1) (txtCells (a ++ [y])) := by
  rcases h.2 with ⟨h0, _⟩ | ⟨g', cap', cur, h0, hg, hh, h1, h2, h3, h4⟩
  · cases h0
  cases h0
  refine ⟨by simp [txtCells], .inr ⟨g, cap, cur.setIfInBounds a.length (.string (B y)), rfl, hg, by simp [World.setCell, Array.getElem?_modify, hh], h1, h2, by simpa using h3, ?_⟩⟩
  rw [Array.toList_setIfInBounds, List.take_set, h4]
  simp [txtCells]
set_option maxRecDepth 100000 in
set_option maxHeartbeats 6400000 in
theorem ref11_words (s : ByteArray) (hs : s.size ≤ 1000000) (w : World) :
    Calls Tryz.prog 31 #[.string s] w fun e w' => ∃ v, e = .returned v ∧ Below w.heap.size w w' ∧ w'.ownsRow w.heap.size 9 1 v (wordsL (L s)).length (txtCells (wordsL (L s))) := by
  obtain ⟨i0, hi, hz0, hz1, hz2⟩ := info_parts infoStr
  go_enter Tryz.func31, Tryz.ntmps31
  go_wp2
  go_loopw [0, 3, 4] (fun sv ov iv wr => ∃ (t : ByteArray) (a : List (List UInt8)) (cur : Option (List UInt8)), sv = .string t ∧ iv = .bool cur.isSome ∧ goW (chunks (L t)) a cur = wordsL (L s) ∧ wr.ownsRow w.heap.size 9 1 ov (a ++ cur.toList).length (txtCells (a ++ cur.toList)) ∧ (a ++ cur.toList).length + t.size ≤ s.size ∧ (cur.getD []).length + t.size ≤ s.size ∧ Below w.heap.size w wr) (fun sv _ _ _ => match sv with | .string t => t.size | _ => 0)
  case atStart => exact ⟨s, [], none, rfl, rfl, words_go _, World.ownsRow_nil _ _ _ _, by simp, by simp, Below.refl _ _⟩
  case round =>
    obtain ⟨t, a, cur, rfl, rfl, hgo, hown, hl1, hl2, hb⟩ := hrel
    have Hb := Lib.hid hb
    have hbz := hb.size
    by_cases h0 : t.size = 0
    · have hz : ¬ (0 : Int) < (t.size : Int) := by omega
      have hnil : L t = [] := List.eq_nil_of_length_eq_zero (by rw [length_L]; exact h0)
      rw [hnil, chunks_nil] at hgo
      unfold goW at hgo
      rw [hgo] at hown
      obtain ⟨la, lc, rfl⟩ := own_form hown
      have Ho := Lib.hid hown
      clear h0 hown hl1 hgo
      go_wp2
      go_ret
      exact ⟨_, rfl, Hb.out, Ho.out⟩
    · have hz : (0 : Int) < (t.size : Int) := by omega
      have hne : L t ≠ [] := by
        intro e
        have := congrArg List.length e
        rw [length_L, List.length_nil] at this; omega
      have hpos := readL_pos hne
      have hle := readL_le hne
      rw [length_L] at hle
      rw [chunks_cons hne] at hgo
      have HR := Lib.hid (ref10_Rune t (by omega) wr)
      unfold ReadV at HR
      obtain ⟨x, hx⟩ : ∃ x, readL (L t) = x := ⟨_, rfl⟩
      rw [hx] at HR hgo hpos hle
      obtain ⟨r, n⟩ := x
      simp only at HR hgo hpos hle
      have hn : (n : Int) ≤ (t.size : Int) := by omega
      have hx1 : t.extract n t.size = B ((L t).drop n) := extract_to_end t n
      have hx2 : t.extract 0 n = B ((L t).take n) := extract_take t n
      have hx3 : (t.extract n t.size).size = t.size - n := by simp
      have hx4 : ((L t).take n).length = n := by rw [List.length_take, length_L]; omega
      have hkd : isW (r, (L t).take n) = (decide (0 ≤ r) && (kindN r == 1 || kindN r == 2)) := rfl
      unfold goW at hgo
      obtain ⟨b, hbe⟩ : ∃ b, isW (r, (L t).take n) = b := ⟨_, rfl⟩
      rw [hbe] at hgo hkd
      have HK := Lib.hid (fun w => ref10_Kind r w)
      generalize kindN r = kd at hkd HK
      have Hgo := Lib.hid hgo
      have hcs : (0 ≤ r ∧ (kd == 1) = true ∧ b = true) ∨ (0 ≤ r ∧ (kd == 1) = false ∧ (kd == 2) = true ∧ b = true) ∨ (r < 0 ∧ b = false) ∨ (0 ≤ r ∧ (kd == 1) = false ∧ (kd == 2) = false ∧ b = false) := by
        by_cases h0 : 0 ≤ r
        · rw [decide_eq_true h0, Bool.true_and] at hkd
          cases e1 : (kd == 1) <;> cases e2 : (kd == 2) <;> simp_all
        · rw [decide_eq_false h0, Bool.false_and] at hkd
          exact .inr (.inr (.inl ⟨by omega, hkd⟩))
      have Hx1 := Lib.hid hx1
      have Hx2 := Lib.hid hx2
      have Hx3 := Lib.hid hx3
      generalize (L t).take n = y at hx4 Hx2 Hgo
      have Hx4 := Lib.hid hx4
      clear hx hne h0 hgo hkd hbe hx1 hx2 hx3 hx4 hb
      rcases hcs with ⟨k1, k2, rfl⟩ | ⟨k1, k2, k3, rfl⟩ | ⟨k1, rfl⟩ | ⟨k1, k2, k3, rfl⟩
      · cases cur with
        | none =>
          rw [show (none : Option (List UInt8)).toList = [] from rfl, List.append_nil] at hown
          have Ho := Lib.hid hown
          have hl1' : a.length + t.size ≤ s.size := by simpa using hl1
          have Hgo' := Hgo.out
          rw [if_pos rfl] at Hgo'
          have Hgo2 : Hid (goW (chunks ((L t).drop n)) a (some y) = wordsL (L s)) := Lib.hid Hgo'
          clear hown hl1 hl2 Hgo Hgo'
          go_wp2_with fail
          refine HR.out.mono ?_
          rintro e w1 ⟨rfl, hb1⟩
          have Hb1 := Lib.hid (step_call Hb.out hb1)
          have Ho1 := Lib.hid (own_below Ho.out hb1)
          clear hb1
          go_wp2_with fail
          refine (HK.out w1).mono ?_
          rintro e w2 ⟨rfl, rfl⟩
          have hsz1 := Hb1.out.size
          have Hoa := Lib.hid (Ho1.out.alloc (.cells #[.string ⟨#[]⟩] 9))
          have Hn1 := Lib.hid (cell_one_new w1 (.string ⟨#[]⟩) 9)
          obtain ⟨la, lc, rfl⟩ := own_form Ho1.out
          go_wp2_with (at_builtin; go_must (refine wpList_append_own _ rfl _ _ 34 rfl w.heap.size 9 i0 (.string ⟨#[]⟩) 1 16 Tryz.underlying34 hi hz0 hz1 hz2 rfl (by decide) _ _ _ rfl Hoa.out ⟨w1.heap.size, 0, none⟩ 1 1 [.string ⟨#[]⟩] rfl rfl ?c1 ?c2 ?c3 ?c4 ?c5 ?_))
          case c1 => exact Hn1.out
          case c2 => simp [Value.oneCell']
          case c3 => unfold maxLen; omega
          case c4 => omega
          case c5 => simp; omega
          intro v' w5 hown' hgrow _
          have HBW := Lib.hid (below_own (step_at Hb1.out (.cells #[.string ⟨#[]⟩] 9) hsz1) Hoa.out hgrow (Nat.le_refl _) (by simp; omega))
          obtain ⟨g, cap, rfl⟩ := ownsRow_succ hown'
          have OW : w5.ownsRow w.heap.size 9 1 (.slice (some ⟨g, 0, none⟩) (a.length + 1) cap) (a.length + 1) (txtCells (a ++ [[]])) := by
            have e : txtCells (a ++ [[]]) = txtCells a ++ [Value.string ⟨#[]⟩] := by simp [txtCells, B]
            rw [e]; exact hown'
          clear hown' hgrow
          obtain ⟨W0, hW0⟩ : ∃ W0 : List UInt8, W0 = [] := ⟨_, rfl⟩
          rw [← hW0] at OW
          have HW0 := Lib.hid hW0
          have Hroom : Hid (W0.length + t.size ≤ s.size) := Lib.hid (by rw [hW0]; simp; omega)
          have HgoW : Hid (goW (chunks ((L t).drop n)) a (some (W0 ++ y)) = wordsL (L s)) := Lib.hid (by rw [hW0]; exact Hgo2.out)
          clear hW0
          obtain ⟨d1, f1, dg, dc, dm⟩ := own_last OW
          have hadd : B W0 ++ t.extract 0 n = B (W0 ++ y) := by rw [Hx2.out, B_append]
          have Hset := Lib.hid (own_last_set OW (W0 ++ y))
          have Hbs := Lib.hid (HBW.out.setCell (p := ⟨g, a.length, none⟩) dg (.string (B (W0 ++ y))))
          have hx2 := Hx2.out
          have hz1' : (B W0).size = W0.length := size_B _
          have hz2' : (B y).size = n := by rw [size_B]; exact Hx4.out
          have hroom := Hroom.out
          have hal : a.length ≤ 1000000 := by omega
          rw [hx2] at hadd
          have Hadd := Lib.hid hadd
          clear OW dg hadd
          go_wp2
          go_region
          go_wp2
          go_roundw
          case rel =>
            refine ⟨B ((L t).drop n), a, some (W0 ++ y), by rw [Hx1.out], rfl, HgoW.out, ?_, ?_, ?_, ?_⟩
            · rw [show (some (W0 ++ y)).toList = [W0 ++ y] from rfl, List.length_append, List.length_singleton, Hadd.out]; exact Hset.out
            · rw [← Hx1.out, Hx3.out, show (some (W0 ++ y)).toList = [W0 ++ y] from rfl, List.length_append, List.length_singleton]; omega
            · have := Hx4.out
              rw [← Hx1.out, Hx3.out, show (some (W0 ++ y)).getD [] = W0 ++ y from rfl, List.length_append]; omega
            · rw [Hadd.out]; exact below_to_drew Hbs.out
          case measure => simp; omega
        | some W0 =>
          have hl1' : a.length + 1 + t.size ≤ s.size := by simpa using hl1
          have hl2' : W0.length + t.size ≤ s.size := by simpa using hl2
          have Hroom : Hid (W0.length + t.size ≤ s.size) := Lib.hid hl2'
          have Hgo' := Hgo.out
          rw [if_pos rfl] at Hgo'
          have HgoW : Hid (goW (chunks ((L t).drop n)) a (some (W0 ++ y)) = wordsL (L s)) := Lib.hid Hgo'
          rw [show (some W0).toList = [W0] from rfl, List.length_append, List.length_singleton] at hown
          obtain ⟨g, cap, rfl⟩ := ownsRow_succ hown
          have Ho := Lib.hid hown
          clear hown hl1 hl2 hl2' Hgo Hgo'
          go_wp2_with fail
          refine HR.out.mono ?_
          rintro e w1 ⟨rfl, hb1⟩
          have Hb1 := Lib.hid (step_call Hb.out hb1)
          have Ho1 := Lib.hid (own_below Ho.out hb1)
          clear hb1
          go_wp2_with fail
          refine (HK.out w1).mono ?_
          rintro e w2 ⟨rfl, rfl⟩
          have HBW := Hb1
          have OW := Ho1.out
          obtain ⟨d1, f1, dg, dc, dm⟩ := own_last OW
          have hadd : B W0 ++ t.extract 0 n = B (W0 ++ y) := by rw [Hx2.out, B_append]
          have Hset := Lib.hid (own_last_set OW (W0 ++ y))
          have Hbs := Lib.hid (HBW.out.setCell (p := ⟨g, a.length, none⟩) dg (.string (B (W0 ++ y))))
          have hx2 := Hx2.out
          have hz1' : (B W0).size = W0.length := size_B _
          have hz2' : (B y).size = n := by rw [size_B]; exact Hx4.out
          have hroom := Hroom.out
          have hal : a.length ≤ 1000000 := by omega
          rw [hx2] at hadd
          have Hadd := Lib.hid hadd
          clear OW dg hadd
          go_wp2
          go_region
          go_wp2
          go_roundw
          case rel =>
            refine ⟨B ((L t).drop n), a, some (W0 ++ y), by rw [Hx1.out], rfl, HgoW.out, ?_, ?_, ?_, ?_⟩
            · rw [show (some (W0 ++ y)).toList = [W0 ++ y] from rfl, List.length_append, List.length_singleton, Hadd.out]; exact Hset.out
            · rw [← Hx1.out, Hx3.out, show (some (W0 ++ y)).toList = [W0 ++ y] from rfl, List.length_append, List.length_singleton]; omega
            · have := Hx4.out
              rw [← Hx1.out, Hx3.out, show (some (W0 ++ y)).getD [] = W0 ++ y from rfl, List.length_append]; omega
            · rw [Hadd.out]; exact below_to_drew Hbs.out
          case measure => simp; omega
      · cases cur with
        | none =>
          rw [show (none : Option (List UInt8)).toList = [] from rfl, List.append_nil] at hown
          have Ho := Lib.hid hown
          have hl1' : a.length + t.size ≤ s.size := by simpa using hl1
          have Hgo' := Hgo.out
          rw [if_pos rfl] at Hgo'
          have Hgo2 : Hid (goW (chunks ((L t).drop n)) a (some y) = wordsL (L s)) := Lib.hid Hgo'
          clear hown hl1 hl2 Hgo Hgo'
          go_wp2_with fail
          refine HR.out.mono ?_
          rintro e w1 ⟨rfl, hb1⟩
          have Hb1 := Lib.hid (step_call Hb.out hb1)
          have Ho1 := Lib.hid (own_below Ho.out hb1)
          clear hb1
          go_wp2_with fail
          refine (HK.out w1).mono ?_
          rintro e w2 ⟨rfl, rfl⟩
          have hsz1 := Hb1.out.size
          have Hoa := Lib.hid (Ho1.out.alloc (.cells #[.string ⟨#[]⟩] 9))
          have Hn1 := Lib.hid (cell_one_new w1 (.string ⟨#[]⟩) 9)
          obtain ⟨la, lc, rfl⟩ := own_form Ho1.out
          go_wp2_with (at_builtin; go_must (refine wpList_append_own _ rfl _ _ 34 rfl w.heap.size 9 i0 (.string ⟨#[]⟩) 1 16 Tryz.underlying34 hi hz0 hz1 hz2 rfl (by decide) _ _ _ rfl Hoa.out ⟨w1.heap.size, 0, none⟩ 1 1 [.string ⟨#[]⟩] rfl rfl ?c1 ?c2 ?c3 ?c4 ?c5 ?_))
          case c1 => exact Hn1.out
          case c2 => simp [Value.oneCell']
          case c3 => unfold maxLen; omega
          case c4 => omega
          case c5 => simp; omega
          intro v' w5 hown' hgrow _
          have HBW := Lib.hid (below_own (step_at Hb1.out (.cells #[.string ⟨#[]⟩] 9) hsz1) Hoa.out hgrow (Nat.le_refl _) (by simp; omega))
          obtain ⟨g, cap, rfl⟩ := ownsRow_succ hown'
          have OW : w5.ownsRow w.heap.size 9 1 (.slice (some ⟨g, 0, none⟩) (a.length + 1) cap) (a.length + 1) (txtCells (a ++ [[]])) := by
            have e : txtCells (a ++ [[]]) = txtCells a ++ [Value.string ⟨#[]⟩] := by simp [txtCells, B]
            rw [e]; exact hown'
          clear hown' hgrow
          obtain ⟨W0, hW0⟩ : ∃ W0 : List UInt8, W0 = [] := ⟨_, rfl⟩
          rw [← hW0] at OW
          have HW0 := Lib.hid hW0
          have Hroom : Hid (W0.length + t.size ≤ s.size) := Lib.hid (by rw [hW0]; simp; omega)
          have HgoW : Hid (goW (chunks ((L t).drop n)) a (some (W0 ++ y)) = wordsL (L s)) := Lib.hid (by rw [hW0]; exact Hgo2.out)
          clear hW0
          obtain ⟨d1, f1, dg, dc, dm⟩ := own_last OW
          have hadd : B W0 ++ t.extract 0 n = B (W0 ++ y) := by rw [Hx2.out, B_append]
          have Hset := Lib.hid (own_last_set OW (W0 ++ y))
          have Hbs := Lib.hid (HBW.out.setCell (p := ⟨g, a.length, none⟩) dg (.string (B (W0 ++ y))))
          have hx2 := Hx2.out
          have hz1' : (B W0).size = W0.length := size_B _
          have hz2' : (B y).size = n := by rw [size_B]; exact Hx4.out
          have hroom := Hroom.out
          have hal : a.length ≤ 1000000 := by omega
          rw [hx2] at hadd
          have Hadd := Lib.hid hadd
          clear OW dg hadd
          go_wp2
          go_region
          go_wp2
          go_roundw
          case rel =>
            refine ⟨B ((L t).drop n), a, some (W0 ++ y), by rw [Hx1.out], rfl, HgoW.out, ?_, ?_, ?_, ?_⟩
            · rw [show (some (W0 ++ y)).toList = [W0 ++ y] from rfl, List.length_append, List.length_singleton, Hadd.out]; exact Hset.out
            · rw [← Hx1.out, Hx3.out, show (some (W0 ++ y)).toList = [W0 ++ y] from rfl, List.length_append, List.length_singleton]; omega
            · have := Hx4.out
              rw [← Hx1.out, Hx3.out, show (some (W0 ++ y)).getD [] = W0 ++ y from rfl, List.length_append]; omega
            · rw [Hadd.out]; exact below_to_drew Hbs.out
          case measure => simp; omega
        | some W0 =>
          have hl1' : a.length + 1 + t.size ≤ s.size := by simpa using hl1
          have hl2' : W0.length + t.size ≤ s.size := by simpa using hl2
          have Hroom : Hid (W0.length + t.size ≤ s.size) := Lib.hid hl2'
          have Hgo' := Hgo.out
          rw [if_pos rfl] at Hgo'
          have HgoW : Hid (goW (chunks ((L t).drop n)) a (some (W0 ++ y)) = wordsL (L s)) := Lib.hid Hgo'
          rw [show (some W0).toList = [W0] from rfl, List.length_append, List.length_singleton] at hown
          obtain ⟨g, cap, rfl⟩ := ownsRow_succ hown
          have Ho := Lib.hid hown
          clear hown hl1 hl2 hl2' Hgo Hgo'
          go_wp2_with fail
          refine HR.out.mono ?_
          rintro e w1 ⟨rfl, hb1⟩
          have Hb1 := Lib.hid (step_call Hb.out hb1)
          have Ho1 := Lib.hid (own_below Ho.out hb1)
          clear hb1
          go_wp2_with fail
          refine (HK.out w1).mono ?_
          rintro e w2 ⟨rfl, rfl⟩
          have HBW := Hb1
          have OW := Ho1.out
          obtain ⟨d1, f1, dg, dc, dm⟩ := own_last OW
          have hadd : B W0 ++ t.extract 0 n = B (W0 ++ y) := by rw [Hx2.out, B_append]
          have Hset := Lib.hid (own_last_set OW (W0 ++ y))
          have Hbs := Lib.hid (HBW.out.setCell (p := ⟨g, a.length, none⟩) dg (.string (B (W0 ++ y))))
          have hx2 := Hx2.out
          have hz1' : (B W0).size = W0.length := size_B _
          have hz2' : (B y).size = n := by rw [size_B]; exact Hx4.out
          have hroom := Hroom.out
          have hal : a.length ≤ 1000000 := by omega
          rw [hx2] at hadd
          have Hadd := Lib.hid hadd
          clear OW dg hadd
          go_wp2
          go_region
          go_wp2
          go_roundw
          case rel =>
            refine ⟨B ((L t).drop n), a, some (W0 ++ y), by rw [Hx1.out], rfl, HgoW.out, ?_, ?_, ?_, ?_⟩
            · rw [show (some (W0 ++ y)).toList = [W0 ++ y] from rfl, List.length_append, List.length_singleton, Hadd.out]; exact Hset.out
            · rw [← Hx1.out, Hx3.out, show (some (W0 ++ y)).toList = [W0 ++ y] from rfl, List.length_append, List.length_singleton]; omega
            · have := Hx4.out
              rw [← Hx1.out, Hx3.out, show (some (W0 ++ y)).getD [] = W0 ++ y from rfl, List.length_append]; omega
            · rw [Hadd.out]; exact below_to_drew Hbs.out
          case measure => simp; omega
      · have Ho := Lib.hid hown
        have Hl := Lib.hid hl1
        have Hl2 : Hid (t.size ≤ s.size) := Lib.hid (by omega)
        clear hown hl1 hl2
        obtain ⟨ib, hib⟩ : ∃ ib, cur.isSome = ib := ⟨_, rfl⟩
        rw [hib]
        clear hib
        go_wp2_with fail
        refine HR.out.mono ?_
        rintro e w1 ⟨rfl, hb1⟩
        have Hb1 := Lib.hid (step_call Hb.out hb1)
        have Ho1 := Lib.hid (own_below Ho.out hb1)
        clear hb1
        go_wp2_with fail
        refine (HK.out w1).mono ?_
        rintro e w2 ⟨rfl, rfl⟩
        go_wp2
        go_roundw
        case rel =>
          refine ⟨B ((L t).drop n), a ++ cur.toList, none, by rw [Hx1.out], rfl, ?_, ?_, ?_, ?_, Hb1.out⟩
          · exact Hgo.out
          · rw [show (none : Option (List UInt8)).toList = [] from rfl, List.append_nil]; exact Ho1.out
          · have := Hl.out
            rw [← Hx1.out, Hx3.out, show (none : Option (List UInt8)).toList = [] from rfl, List.append_nil]; omega
          · have := Hl2.out
            rw [← Hx1.out, Hx3.out]; simp; omega
        case measure => simp; omega
      · have Ho := Lib.hid hown
        have Hl := Lib.hid hl1
        have Hl2 : Hid (t.size ≤ s.size) := Lib.hid (by omega)
        clear hown hl1 hl2
        obtain ⟨ib, hib⟩ : ∃ ib, cur.isSome = ib := ⟨_, rfl⟩
        rw [hib]
        clear hib
        go_wp2_with fail
        refine HR.out.mono ?_
        rintro e w1 ⟨rfl, hb1⟩
        have Hb1 := Lib.hid (step_call Hb.out hb1)
        have Ho1 := Lib.hid (own_below Ho.out hb1)
        clear hb1
        go_wp2_with fail
        refine (HK.out w1).mono ?_
        rintro e w2 ⟨rfl, rfl⟩
        go_wp2
        go_roundw
        case rel =>
          refine ⟨B ((L t).drop n), a ++ cur.toList, none, by rw [Hx1.out], rfl, ?_, ?_, ?_, ?_, Hb1.out⟩
          · exact Hgo.out
          · rw [show (none : Option (List UInt8)).toList = [] from rfl, List.append_nil]; exact Ho1.out
          · have := Hl.out
            rw [← Hx1.out, Hx3.out, show (none : Option (List UInt8)).toList = [] from rfl, List.append_nil]; omega
          · have := Hl2.out
            rw [← Hx1.out, Hx3.out]; simp; omega
        case measure => simp; omega
end Go.Proofs.YtlfhgmclnapmjaaGreatDoor
namespace Go.Proofs.YtlfhgmclnapmjaaGreatDoor
open Go.RowKit Go.Utf Go.Lib
attribute [local go_sem] Oper.semAt_some

set_option maxRecDepth 100000 in
set_option maxHeartbeats 6400000 in
theorem ref11_Tokens (s : ByteArray) (hs : s.size ≤ 1000000) (w : World) :
    Calls Tryz.prog 16 #[.string s] w fun e w' => ∃ v, e = .returned v ∧ Below w.heap.size w w' ∧ w'.ownsRow w.heap.size 44 2 v (tokensL (L s)).length (tokCells (tokensL (L s))) := by
  obtain ⟨i0, hi, hz0, hz1, hz2⟩ := info_parts infoTok
  have HW := Lib.hid (ref11_words s hs w)
  have hcnt := words_count (L s)
  rw [length_L] at hcnt
  have hroom : ∀ x ∈ wordsL (L s), x.length ≤ 1000000 := fun x hx => by have := words_le hx; rw [length_L] at this; omega
  have Htok : Hid (tokensL (L s) = toksFrom 0 (wordsL (L s))) := Lib.hid rfl
  generalize tokensL (L s) = ts at Htok ⊢
  generalize wordsL (L s) = ws at HW hcnt hroom Htok
  have Hroom := Lib.hid hroom
  clear hroom
  go_enter Tryz.func16, Tryz.ntmps16
  go_wp2_with fail
  refine HW.out.mono ?_
  rintro e w1 ⟨v, rfl, hb1, hown⟩
  have hrow := own_row hown
  obtain ⟨oa, oc, rfl, hcells⟩ := txt_row hrow
  have Hcells := Lib.hid hcells
  have Hb1 := Lib.hid hb1
  have Hsz := Lib.hid hb1.size
  clear hcells hown hb1 hrow
  go_wp2
  go_loopw [3, 5] (fun l i wr => ∃ k : Nat, k ≤ ws.length ∧ i = .int .i64 k ∧ wr.ownsRow w1.heap.size 44 2 l (toksFrom 0 (ws.take k)).length (tokCells (toksFrom 0 (ws.take k))) ∧ Below w1.heap.size w1 wr) (fun _ i _ => ws.length - (intOf i).toNat)
  case atStart => exact ⟨0, by omega, rfl, World.ownsRow_nil _ _ _ _, Below.refl _ _⟩
  case round =>
    obtain ⟨k, hk, rfl, hown, hbel⟩ := hrel
    obtain ⟨la, lc, rfl⟩ := own_form hown
    by_cases h1 : k < ws.length
    · obtain ⟨b, off, rfl, hb, _, k1⟩ := Hcells.out k h1
      have k1 := cell_below hbel hb k1
      have hx : ws[k].length ≤ 1000000 := Hroom.out _ (List.getElem_mem h1)
      have hnext := toks_append 0 (ws.take k) [ws[k]]
      rw [← List.take_succ_eq_append_getElem h1] at hnext
      simp only [toksFrom, List.append_nil, Nat.zero_add, List.length_take] at hnext
      rw [Nat.min_eq_left (Nat.le_of_lt h1)] at hnext
      have htl := toks_length 0 (ws.take k)
      rw [List.length_take, Nat.min_eq_left (Nat.le_of_lt h1)] at htl
      generalize ws[k] = x at k1 hx hnext
      have HF := Lib.hid (ref10_Folded (B x) (by rw [size_B]; omega) wr)
      rw [L_B] at HF
      generalize foldL x = t at HF hnext
      have HS := Lib.hid (fun w => ref11_Stop (B t) w)
      rw [L_B] at HS
      have hgd : goodB t = (decide (t.length ≤ 40) && !stopB t) := rfl
      rw [hgd] at hnext
      generalize stopB t = sb at HS hnext
      have Hnext := Lib.hid hnext
      have Ho := Lib.hid hown
      have Hbel := Lib.hid hbel
      have hsz := hbel.size
      clear hnext hgd hown hbel
      obtain ⟨tn, htn⟩ : ∃ tn, toksFrom 0 (ws.take (k + 1)) = tn := ⟨_, rfl⟩
      rw [htn] at Hnext
      have Htn := Lib.hid htn
      clear htn
      generalize toksFrom 0 (ws.take k) = tk at Ho Hnext htl
      go_wp2_with fail
      refine HF.out.mono ?_
      rintro e w2 ⟨rfl, hb2⟩
      have Hb2 := Lib.hid (hb2.mono hsz)
      have Ho2 := Lib.hid (own_below Ho.out hb2)
      clear hb2
      go_wp2_with fail
      refine (HS.out w2).mono ?_
      rintro e w3 ⟨rfl, hb3⟩
      have HB3 := Lib.hid ((Hbel.out.trans Hb2.out).trans (hb3.mono (Hbel.out.trans Hb2.out).size))
      have Ho3 := Lib.hid (own_below Ho2.out hb3)
      have hsz3 := HB3.out.size
      clear hb3
      have hszB : (B t).size = t.length := size_B t
      cases sb
      · by_cases hlen : t.length ≤ 40
        · have hl40 : ((B t).size : Int) ≤ 40 := by omega
          have Hn2 : Hid (tn = tk ++ [(t, k)]) := Lib.hid (by rw [Hnext.out, decide_eq_true hlen]; rfl)
          have Ho4 := Lib.hid (Ho3.out.alloc (.cells #[.string (B t), .int .i64 (k : Nat)] 44))
          go_wp2_with (at_builtin; go_must (refine wpList_append_own _ rfl _ _ 29 rfl w1.heap.size 44 i0 (.agg #[.string ⟨#[]⟩, .int .i64 0]) 2 24 Tryz.underlying29 hi hz0 hz1 hz2 rfl (by decide) _ _ _ rfl Ho4.out ⟨w3.heap.size, 0, none⟩ 1 1 [.string (B t), .int .i64 (k : Nat)] rfl rfl ?c1 ?c2 ?c3 ?c4 ?c5 ?_))
          case c1 => exact (cell2_new w3 w3.heap.size rfl (.string (B t)) (.int .i64 (k : Nat)) 44)
          case c2 => simp [Value.oneCell']
          case c3 => unfold maxLen; omega
          case c4 => omega
          case c5 => simp; omega
          intro v' w5 hown' hgrow _
          have Hb5 := Lib.hid (below_own (step_at HB3.out (.cells #[.string (B t), .int .i64 (k : Nat)] 44) hsz3) Ho4.out hgrow (Nat.le_refl _) (by simp; omega))
          have Ho5 := Lib.hid hown'
          clear hown' hgrow
          go_wp2
          go_roundw
          case rel =>
            refine ⟨k + 1, by omega, by go_num, ?_, Hb5.out⟩
            rw [Htn.out, Hn2.out, List.length_append, List.length_singleton, tokCells_append]; exact Ho5.out
          case measure => simp [intOf]; omega
        · have hl40 : ¬ ((B t).size : Int) ≤ 40 := by omega
          have Hn2 : Hid (tn = tk) := Lib.hid (by rw [Hnext.out, decide_eq_false hlen]; simp)
          go_wp2
          go_roundw
          case rel =>
            refine ⟨k + 1, by omega, by go_num, ?_, HB3.out⟩
            rw [Htn.out, Hn2.out]; exact Ho3.out
          case measure => simp [intOf]; omega
      · have Hn2 : Hid (tn = tk) := Lib.hid (by rw [Hnext.out]; simp)
        go_wp2
        go_roundw
        case rel =>
          refine ⟨k + 1, by omega, by go_num, ?_, HB3.out⟩
          rw [Htn.out, Hn2.out]; exact Ho3.out
        case measure => simp [intOf]; omega
    · have hk' : k = ws.length := by omega
      subst hk'
      rw [List.take_length] at hown ⊢
      have HB := Lib.hid (Hb1.out.trans (hbel.mono Hsz.out))
      have Ho := Lib.hid hown
      clear hown hbel
      go_wp2
      go_ret
      refine ⟨_, rfl, HB.out, ?_⟩
      rw [Htok.out]
      exact own_base Ho.out Hsz.out
end Go.Proofs.YtlfhgmclnapmjaaGreatDoor
namespace Go.Proofs.YtlfhgmclnapmjaaGreatDoor
open Go.RowKit Go.Utf Go.Lib
attribute [local go_sem] Oper.semAt_some

theorem below_to_drewN {K : Nat} {w w' : World} (h : Below K w w') (n : Nat) : Below K w (w'.drewN n) := ⟨h.os, h.tape, h.output, h.size, h.block⟩
theorem toks_new (w : World) (l : List (List UInt8 × Nat)) (t : TypeId) : Toks (w.alloc (.cells (tokCells l).toArray t)) (.slice (some ⟨w.heap.size, 0, none⟩) l.length l.length) l := by
  refine ⟨_, _, rfl, fun i hi => ⟨w.heap.size, 0, rfl, by simp, ?_, ?_⟩⟩
  all_goals
    have hb : (w.alloc (.cells (tokCells l).toArray t)).heap[w.heap.size]? = some (.cells (tokCells l).toArray t (0, 0)) := heap_alloc_new w _
    have hg := tokCells_get l i hi
    rw [Lib.cell_of_heap hb, Nat.zero_add, List.getElem?_toArray]
  · exact hg.1
  · exact hg.2
theorem terms_is {l : List UInt8} {ts : List Tx} (h1 : ts.Pairwise (· < ·)) (h2 : ∀ x, x ∈ ts ↔ x ∈ (tokensL l).map Prod.fst) : termsL l = ts := by
  obtain ⟨k1, k2⟩ := set_of ((tokensL l).map Prod.fst)
  exact rising_same k1 h1 (fun x => (k2 x).trans (h2 x).symm)
theorem terms_ex : termsL [98, 32, 97, 49, 32, 66, 32, 122, 122] = [[97, 49], [98], [122, 122]] := by
  refine terms_is (by decide +kernel) (fun x => ?_)
  rw [tok_ex2]
  simp only [List.map_cons, List.map_nil, List.mem_cons, List.not_mem_nil, or_false]
  constructor
  · rintro (h | h | h)
    · exact .inr (.inl h)
    · exact .inl h
    · exact .inr (.inr (.inr h))
  · rintro (h | h | h | h)
    · exact .inr (.inl h)
    · exact .inl h
    · exact .inr (.inl h)
    · exact .inr (.inr h)
theorem tok_ex1' : tokensL (L ⟨#[84, 104, 101, 32, 113, 117, 105, 99, 107, 44, 32, 98, 114, 111, 119, 110, 45, 102, 111, 120, 32, 116, 104, 101, 32, 50, 110, 100]⟩) = [([113, 117, 105, 99, 107], 1), ([98, 114, 111, 119, 110], 2), ([102, 111, 120], 3), ([50, 110, 100], 5)] := tok_ex1
theorem terms_ex' : termsL (L ⟨#[98, 32, 97, 49, 32, 66, 32, 122, 122]⟩) = [[97, 49], [98], [122, 122]] := terms_ex
theorem tokens_at (s : ByteArray) (hs : s.size ≤ 1000000) (l : List (List UInt8 × Nat)) (h : tokensL (L s) = l) (w : World) (hT : Tabs w) :
    Calls Tryz.prog 25 #[.string s] w fun e w' => ∃ v, e = .returned v ∧ Below w.heap.size w w' ∧ Toks w' v l := by
  subst h
  exact (token_Tokens s hs w hT).mono fun e w' ⟨v, h1, h2, h3⟩ => ⟨v, h1, h2, own_toks h3⟩
theorem stop_at (s : ByteArray) (b : Bool) (h : stopB (L s) = b) (w : World) : Calls Tryz.prog 46 #[.string s] w fun e w' => e = .returned (.bool b) ∧ w' = w := by
  subst h
  exact token_Stop s w
end Go.Proofs.YtlfhgmclnapmjaaGreatDoor
namespace Go.Proofs.YtlfhgmclnapmjaaGreatDoor
open Go.RowKit Go.Utf Go.Lib

theorem less_B (x t : Tx) : Op.bytesLess (B x).toList (B t).toList = decide (x < t) := by rw [toList_B, toList_B, Go.Proofs.bytesLess_eq]
theorem by_hole3 {α β γ : Type} {H : α → β → γ → Prop} {G : Prop} (h : ∃ Z : α → β → γ → Prop, (∀ a b c, H a b c → Z a b c) ∧ ((∀ a b c, H a b c → Z a b c) → G)) : G := let ⟨_, h1, h2⟩ := h; h2 h1
theorem tok_facts {l : List UInt8} {ts : List (List UInt8 × Nat)} (h : tokensL l = ts) :
    (∀ i j (hij : i < j) (hj : j < ts.length), (ts[i]'(Nat.lt_trans hij hj)).2 < ts[j].2) ∧ (∀ i (hi : i < ts.length), i ≤ ts[i].2) ∧ (∀ i (hi : i < ts.length), ts[i].1.length ≤ 40 ∧ ts[i].2 < l.length) ∧ ∀ x ∈ ts, tokensL x.1 = [(x.1, 0)] := by
  have hr : ∀ i j (hij : i < j) (hj : j < ts.length), (ts[i]'(Nat.lt_trans hij hj)).2 < ts[j].2 := by
    intro i j hij hj
    have hp : ts.Pairwise fun a b => a.2 < b.2 := by rw [← h]; exact toks_rise 0 (wordsL l)
    exact List.pairwise_iff_getElem.1 hp i j (Nat.lt_trans hij hj) hj hij
  refine ⟨hr, ?_, ?_, ?_⟩
  · intro i
    induction i with
    | zero => intro _; omega
    | succ i ih =>
      intro hi
      have h1 := hr i (i + 1) (by omega) hi
      have := ih (by omega)
      omega
  · intro i hi
    have hm : ts[i] ∈ toksFrom 0 (wordsL l) := by
      have h2 : toksFrom 0 (wordsL l) = ts := h
      rw [h2]
      exact List.getElem_mem hi
    obtain ⟨h1, _, _, h2⟩ := toks_mem hm
    unfold goodB at h1
    rw [Bool.and_eq_true, decide_eq_true_eq] at h1
    have := words_count l
    exact ⟨h1.1, by omega⟩
  · intro x hx
    rw [← h] at hx
    exact tokens_term hx
theorem Toks.grown {w w' : World} {oa : Option Addr} {c : Nat} {l : List (List UInt8 × Nat)} {row : Option Nat} (h : Toks w (.slice oa l.length c) l) (hg : w.grownBy w' row) (hne : ∀ a, oa = some a → some a.block ≠ row) : Toks w' (.slice oa l.length c) l := by
  obtain ⟨oa', c', h1, h2⟩ := h
  simp only [Value.slice.injEq, true_and] at h1
  obtain ⟨rfl, rfl⟩ := h1
  refine ⟨oa, c, rfl, fun i hi => ?_⟩
  obtain ⟨b, off, e, hb, k1, k2⟩ := h2 i hi
  have hn := hne _ e
  exact ⟨b, off, e, Nat.lt_of_lt_of_le hb hg.size, (hg.cell_far ⟨b, off + i * 2, none⟩ hb hn).trans k1, (hg.cell_far ⟨b, off + i * 2 + 1, none⟩ hb hn).trans k2⟩
def FarV (v : Value) (oa : Option Addr) : Prop := ∀ a, oa = some a → some a.block ≠ v.ownBlock
theorem own_toks' {w : World} {base n : Nat} {v : Value} {l : List (List UInt8 × Nat)} (h : w.ownsRow base 44 2 v n (tokCells l)) (hn : n = l.length) : Toks w v l := by
  subst hn; exact own_toks h
theorem tokCells_one (l : List (List UInt8 × Nat)) : ∀ u ∈ tokCells l, u.oneCell' = true := by
  intro u hu
  unfold tokCells at hu
  obtain ⟨x, _, hx⟩ := List.mem_flatMap.1 hu
  simp at hx
  rcases hx with rfl | rfl <;> simp [Value.oneCell']
theorem tokCells_length (l : List (List UInt8 × Nat)) : (tokCells l).length = l.length * 2 := by
  unfold tokCells
  induction l with
  | nil => rfl
  | cons x l ih => simp [ih]; omega
/-- A call's own row of tokens as what is appended. -/
theorem own_news {w : World} {base : Nat} {v : Value} {l : List (List UInt8 × Nat)} (h : w.ownsRow base 44 2 v l.length (tokCells l)) :
    ∃ oa c, v = .slice oa l.length c ∧ (oa = none → l.length = 0 ∧ c = 0) ∧ ∀ ad, oa = some ad → ∀ j u, (tokCells l)[j]? = some u → w.cell? (ad.add j) = some u := by
  rcases h.2 with ⟨rfl, h0⟩ | ⟨g, cap, cur, rfl, _⟩
  · exact ⟨none, 0, by rw [h0], fun _ => ⟨h0, rfl⟩, fun ad h => (by cases h)⟩
  · refine ⟨_, _, rfl, fun h => (by cases h), fun ad e => ?_⟩
    cases e
    exact h.cells (g := g) rfl
theorem own_news' {w : World} {base : Nat} {oa : Option Addr} {c : Nat} {l : List (List UInt8 × Nat)} (h : w.ownsRow base 44 2 (.slice oa l.length c) l.length (tokCells l)) :
    (oa = none → l.length = 0 ∧ c = 0) ∧ ∀ ad, oa = some ad → ∀ j u, (tokCells l)[j]? = some u → w.cell? (ad.add j) = some u := by
  obtain ⟨oa', c', e, h1, h2⟩ := own_news h
  simp only [Value.slice.injEq, true_and] at e
  obtain ⟨rfl, rfl⟩ := e
  exact ⟨h1, h2⟩
theorem terms_count (l : List UInt8) : (termsL l).length ≤ (tokensL l).length := by
  have := Lib.compact_length_le (((tokensL l).map Prod.fst).mergeSort fun x y => decide (x ≤ y))
  unfold termsL
  rw [List.length_mergeSort, List.length_map] at this
  exact this
theorem terms_none {st : List UInt8} (h : tokensL st = []) : termsL (L (B st)) = [] := by
  rw [L_B]
  refine terms_is List.Pairwise.nil (fun x => ?_)
  rw [h]; simp
end Go.Proofs.YtlfhgmclnapmjaaGreatDoor
