/- Chapter 10: Folded. Conditions: the tables; the text is at most 10^9 bytes. Where the pieces of a text stand, plain. No conditions. Chapter 10: the reference's Valid and Folded. Condition: the text is at most 10^9 bytes. Chapter 10's examples hold. Condition: the tables. -/
import Derived.Test.YtlfhgmclnapmjaaGreatDoorUtfJ
import Derived.Test.YtlfhgmclnapmjaaGreatDoorUtfA
import Derived.Test.YtlfhgmclnapmjaaGreatDoorBuilder
import Derived.RangeFuncBox
import Derived.RangeFuncCalls
import Derived.Test.YtlfhgmclnapmjaaGreatDoorOwnBytes
import Derived.Lib.AppendStr
import Derived.OwnWalk
import Derived.Test.YtlfhgmclnapmjaaGreatDoorUtfF
namespace Go.Utf
open Go.Lib
/-- What a piece is folded to, by where it begins. -/
def outX (l : List UInt8) (x : Nat × Int) : List UInt8 := if x.2 < 0 then [l[x.1]?.getD 0] else runeT (foldN x.2)
def outP (l : List UInt8) (xs : List (Nat × Int)) : List UInt8 := xs.flatMap (outX l)
theorem outP_snoc (l : List UInt8) (xs : List (Nat × Int)) (x : Nat × Int) : outP l (xs ++ [x]) = outP l xs ++ outX l x := by simp [outP]
theorem outX_length (l : List UInt8) (x : Nat × Int) : (outX l x).length ≤ 4 := by
  unfold outX; split
  · simp
  · exact (runeT_length _).2
theorem outP_length (l : List UInt8) (xs : List (Nat × Int)) : (outP l xs).length ≤ 4 * xs.length := by
  induction xs with
  | nil => simp [outP]
  | cons x xs ih => unfold outP at *; rw [List.flatMap_cons, List.length_append, List.length_cons]; have := outX_length l x; omega
theorem idxC_length (i : Nat) (cs : List (Int × List UInt8)) : (idxC i cs).length = cs.length := by
  induction cs generalizing i with
  | nil => rfl
  | cons c cs ih => simp [idxC, ih]
theorem piece_length {c : Int × List UInt8} (h : Piece c) : 1 ≤ c.2.length ∧ c.2.length ≤ 4 := by
  rcases h with ⟨_, b, h⟩ | ⟨_, h⟩
  · rw [h]; simp
  · rw [h]; exact runeT_length _
theorem chunks_length (l : List UInt8) : (chunks l).length ≤ l.length := by
  have h := chunks_pieces l
  have hj := chunks_join l
  have : ∀ cs : List (Int × List UInt8), (∀ c ∈ cs, Piece c) → cs.length ≤ (joinC cs).length := by
    intro cs
    induction cs with
    | nil => intro _; simp
    | cons c cs ih =>
      intro h
      rw [joinC_cons, List.length_append, List.length_cons]
      have := piece_length (h c (by simp))
      have := ih fun x hx => h x (by simp [hx])
      omega
  have := this _ h
  rwa [hj] at this
/-- A piece that is told is one of the text's: where it begins there is a byte; what is told is a rune, or -1. -/
theorem idxC_mem {l : List UInt8} {x : Nat × Int} : ∀ (cs : List (Int × List UInt8)) (pre : List UInt8), (∀ c ∈ cs, Piece c) → x ∈ idxC pre.length cs → l = pre ++ joinC cs → x.1 < l.length ∧ (x.2 = -1 ∨ isB x.2 = true) := by
  intro cs
  induction cs with
  | nil => intro pre _ h; simp [idxC] at h
  | cons c cs ih =>
    intro pre hp h hl
    have hc := hp c (by simp)
    have h1 := piece_length hc
    rw [joinC_cons] at hl
    rcases List.mem_cons.1 h with e | h
    · subst e
      refine ⟨by rw [hl]; simp only [List.length_append]; omega, ?_⟩
      rcases hc with ⟨h, _⟩ | ⟨h, _⟩
      · exact .inl h
      · exact .inr h
    · refine ih (pre ++ c.2) (fun x hx => hp x (by simp [hx])) (by rw [List.length_append]; exact h) (by rw [hl, List.append_assoc])
theorem runes_mem {l : List UInt8} {x : Nat × Int} (h : x ∈ idxC 0 (chunks l)) : x.1 < l.length ∧ (x.2 = -1 ∨ isB x.2 = true) :=
  idxC_mem (chunks l) [] (chunks_pieces l) h (by rw [chunks_join]; rfl)
theorem out_all {l : List UInt8} : ∀ (cs : List (Int × List UInt8)) (pre : List UInt8), (∀ c ∈ cs, Piece c) → l = pre ++ joinC cs → outP l (idxC pre.length cs) = joinC (cs.map foldC) := by
  intro cs
  induction cs with
  | nil => intro pre _ _; rfl
  | cons c cs ih =>
    intro pre hp hl
    rw [joinC_cons] at hl
    have hc := hp c (by simp)
    have := ih (pre ++ c.2) (fun x hx => hp x (by simp [hx])) (by rw [hl, List.append_assoc])
    rw [List.length_append] at this
    show outX l (pre.length, c.1) ++ outP l (idxC (pre.length + c.2.length) cs) = (foldC c).2 ++ joinC (cs.map foldC)
    rw [this]
    congr 1
    unfold outX
    rcases hc with ⟨h, b, hb⟩ | ⟨h, hb⟩
    · rw [foldC_neg c (by omega), if_pos (by simp only; omega), hb, hl, hb]
      simp
    · rw [isB_iff] at h
      rw [foldC_nn c (by omega), if_neg (by simp only; omega)]
theorem outP_runes (l : List UInt8) : outP l (idxC 0 (chunks l)) = foldL l :=
  out_all (chunks l) [] (chunks_pieces l) (by rw [chunks_join]; rfl)
end Go.Utf
namespace Go.Proofs.YtlfhgmclnapmjaaGreatDoor
open Go.RowKit Go.Utf Go.Lib Go.Shelf
attribute [local go_sem] Oper.semAt_some

/-- A builder stands where a block that is no cells turns. -/
theorem builder_turn {T e : TypeId} {B b : Nat} {bs : List Value} {w w' : World} {row : Option Nat} (h : Lib.IsBuilderF T e B b bs w) (hg : w.grownBy w' row) (hr : ∀ r, row = some r → ∃ o : Obj, w.heap[r]? = some o ∧ o.isCells = false) : Lib.IsBuilderF T e B b bs w' := by
  have : ∀ p, Lib.BuilderAtF T e B b p bs w → Lib.BuilderAtF T e B b p bs w' := by
    rintro p ⟨hB, v, h1, h2, h3⟩
    refine ⟨hB, v, (grownBy_keeps_cells hg hr h1 rfl).trans h1, ⟨h2.1, ?_⟩, h3⟩
    rcases h2.2 with hn | ⟨g, cap, cur, fz, rfl, hbg, hgg, rest⟩
    · exact .inl hn
    · exact .inr ⟨g, cap, cur, fz, rfl, hbg, (grownBy_keeps_cells hg hr hgg rfl).trans hgg, rest⟩
  exact h.elim (fun h => .inl (this _ h)) (fun h => .inr (this _ h))
theorem kpr_t {box n₀ : Nat} {A B C : World} (h : KpR box n₀ A B) (k : KpR box n₀ B C) : KpR box n₀ A C := ⟨h.1.trans k.1, h.2.1.trans k.2.1, k.2.2.trans h.2.2⟩
theorem kpr_b {box n₀ : Nat} {w : World} (hn : n₀ ≤ w.heap.size) (hbox : box < w.heap.size) (W : World) (l : Nat) (o o' : Obj) (hl : w.heap.size ≤ l) (h : W.heap[l]? = some o) (hc : o.isCells = false) (hw : o.isWalk = false) : KpR box n₀ W (W.putObj l o') :=
  ⟨walksK_b W l o o' hl h hc hw, belowK_b hn W l o o' hl h hc hw, World.putObj_heap_other (by omega)⟩
theorem kept_others {e : TypeId} {b : Nat} {W W' : World} (h : Lib.OthersKept e (some b) W W') (hs : W.heap.size ≤ W'.heap.size) (hb : ∃ o : Obj, W.heap[b]? = some o ∧ o.isCells = true) : KeepsOthers W W' :=
  ⟨hs, fun k o hk hc => h k o hk (fun e1 => by
    obtain ⟨o', ho', hc'⟩ := hb
    rw [Option.some.inj e1, ho'] at hk
    cases hk; rw [hc] at hc'; cases hc') (fun c fz e1 => by rw [e1] at hc; cases hc)⟩
theorem builder_obj {T e : TypeId} {B b : Nat} {bs : List Value} {w : World} (h : Lib.IsBuilderF T e B b bs w) : ∃ o : Obj, w.heap[b]? = some o ∧ o.isCells = true := by
  rcases h with ⟨_, v, h, _⟩ | ⟨_, v, h, _⟩ <;> exact ⟨_, h, rfl⟩
theorem box_others {e t : TypeId} {b k : Nat} {v : Value} {W W' : World} (h : Lib.OthersKept e (some b) W W') (hk : Boxed W k t v) (hne : k ≠ b) (ht : t ≠ e) : Boxed W' k t v :=
  h k _ hk (fun e1 => hne (Option.some.inj e1)) (fun c fz e1 => by
    simp only [Obj.cells.injEq] at e1
    exact ht e1.2.1)
theorem byte_cell (x : UInt8) (l : List UInt8) : Lib.byteCells l ++ [Value.int .u8 (x.toNat : Int)] = Lib.byteCells (l ++ [x]) := by
  rw [Lib.byteCells_append]; rfl
theorem rune_cells {v : Int} (l : List UInt8) : Lib.byteCells l ++ Lib.runeCells v = Lib.byteCells (l ++ runeT v) := by
  rw [Lib.byteCells_append]
  congr 1
  exact (byteCells_encodeRune v).symm
theorem runeT_i32 {v : Int} (h : isB v = true) : -2147483648 ≤ v ∧ v ≤ 2147483647 := by rw [isB_iff] at h; omega
set_option maxRecDepth 100000 in
set_option maxHeartbeats 3200000 in
theorem utf_Folded (s : ByteArray) (hs : s.size ≤ 1000000000) (w : World) (hT : Tabs w) :
    Calls Tryz.prog 36 #[.string s] w fun e w' => e = .returned (.string (B (foldL (L s)))) ∧ Below w.heap.size w w' := by
  refine (callsIn_wide (n := 6)).1 ?_
  refine callsIn_of_wp_marks Tryz.func36 rfl trivial ?_ rfl
  simp only [Tryz.ntmps36, List.size_toArray, List.length_cons, List.length_nil, Nat.reduceAdd, Nat.reduceSub, Array.replicate_succ, Array.replicate_zero, List.push_toArray, List.append_toArray, List.nil_append, List.cons_append]
  gi_wp2_with fail
  refine ⟨trivial, ?_⟩
  refine (callsIn_wide.2 (utf_Runes s _)).mono ?_
  rintro e w1 ⟨rfl, rfl⟩
  gi_wp2_with fail
  have hbox1 : Boxed (w.alloc (.cells #[.string s] 9)) w.heap.size 9 (.string s) := Boxed.new _ _ _
  have hboxA : Boxed (((w.alloc (.cells #[.string s] 9)).alloc (.cells #[.pointer none, .slice none 0 0] 71)).alloc (.cells #[.string s] 9)) w.heap.size 9 (.string s) := (hbox1.alloc _).alloc _
  have hboxB : Boxed (((w.alloc (.cells #[.string s] 9)).alloc (.cells #[.pointer none, .slice none 0 0] 71)).alloc (.cells #[.string s] 9)) (w.heap.size + 1 + 1) 9 (.string s) := by
    have := Boxed.new ((w.alloc (.cells #[.string s] 9)).alloc (.cells #[.pointer none, .slice none 0 0] 71)) 9 (.string s)
    rwa [World.size_alloc, World.size_alloc] at this
  have hbld : Lib.IsBuilderF 71 5 (w.heap.size + 1) (w.heap.size + 1) [] (((w.alloc (.cells #[.string s] 9)).alloc (.cells #[.pointer none, .slice none 0 0] 71)).alloc (.cells #[.string s] 9)) := by
    refine .inl ⟨Nat.le_refl _, .slice none 0 0, ?_, World.ownsRowF_nil _ _ _ _, by simp [Value.ownBlock]⟩
    have h1 := heap_alloc_new (w.alloc (.cells #[.string s] 9)) (.cells #[.pointer none, .slice none 0 0] 71)
    rw [World.size_alloc] at h1
    exact (Below.heap_alloc _ _ _ (by simp)).trans h1
  have hbel : Below w.heap.size w (((w.alloc (.cells #[.string s] 9)).alloc (.cells #[.pointer none, .slice none 0 0] 71)).alloc (.cells #[.string s] 9)) := ((step_new (Below.refl w.heap.size w) _).alloc (by simp) _).alloc (by simp; omega) _
  obtain ⟨W0, hW0⟩ : ∃ W0, ((w.alloc (.cells #[.string s] 9)).alloc (.cells #[.pointer none, .slice none 0 0] 71)).alloc (.cells #[.string s] 9) = W0 := ⟨_, rfl⟩
  have hz : W0.heap.size = w.heap.size + 3 := by rw [← hW0]; simp
  rw [hW0] at hboxA hboxB hbld hbel ⊢
  clear hW0 hbox1
  refine wpIn_rangeSeq rfl (by omega) (gf := 84) (lb := #[.pointer (some ⟨w.heap.size + 1 + 1, 0, none⟩)]) ?hg trivial (enters_of Tryz.func84 (by kernel_rfl) rfl)
    (runes1_gives _ (by omega) (w.heap.size + 1 + 1) s (by omega) w hT W0 hbel (0, 0) hboxB) kpr_t (kpr_b (by omega) (by omega)) (Below.refl _ _) (fun _ => rfl)
    (fun pre W => Lib.IsBuilderF 71 5 (w.heap.size + 1) (w.heap.size + 1) (Lib.byteCells (outP (L s) pre)) W ∧ Boxed W w.heap.size 9 (.string s) ∧ Boxed W (w.heap.size + 1 + 1) 9 (.string s) ∧ Below w.heap.size w W)
    (fun _ _ _ => False) ?hI (fun _ _ _ _ _ hs _ _ => hs) ⟨hbld, hboxA, hboxB, hbel⟩ ?act ?assign ?body ?done ?stop
  case hg => rfl
  case hI =>
    rintro pre A C row ⟨h1, h2, h3, h4⟩ hg hr
    have hr' : ∀ r, row = some r → ∃ o : Obj, A.heap[r]? = some o ∧ o.isCells = false := fun r e => (hr r e).2
    exact ⟨builder_turn h1 hg hr', (grownBy_keeps_cells hg hr' h2 rfl).trans h2, (grownBy_keeps_cells hg hr' h3 rfl).trans h3, h4.grown hg h4.size (fun k e => by have := (hr k e).1; omega)⟩
  case assign =>
    intro l x W K hK
    dsimp only [pairV]
    gi_wp2
    exact hK
  case body =>
    rintro l pre x W ⟨hb, hA, hB, hbw⟩ hpre
    have hx := runes_mem (l := L s) (x := x) (hpre.subset (by simp))
    rw [length_L] at hx
    obtain ⟨hx1, hx2⟩ := hx
    have hlen : (outP (L s) pre).length ≤ 4000000000 := by
      have h1 := outP_length (L s) pre
      have h2 := hpre.length_le
      have h3 := chunks_length (L s)
      rw [length_L] at h3
      rw [List.length_append, idxC_length] at h2
      omega
    have hcA := hA.cell
    have hbs := hB.lt
    by_cases h0 : x.2 < 0
    · have hxi : (x.1 : Int) < (s.size : Int) := by omega
      have Hout : Hid (outX (L s) x = [s[x.1]]) := Lib.hid (by
        unfold outX; rw [if_pos h0]
        congr 1
        rw [List.getElem?_eq_getElem (by rw [length_L]; exact hx1), get_L s x.1 hx1]; rfl)
      have Hb := Lib.hid hb
      clear hb hpre hx2
      gi_wp2_with fail
      refine ⟨trivial, ?_⟩
      refine (CallsIn.inRound l (callsIn_wide.2 (b_writeByte (w.heap.size + 1) (w.heap.size + 1) _ _ W Hb.out (by rw [Lib.byteCells_length]; omega) (by omega)))).mono ?_
      rintro e W3 ⟨rfl, hb3, hbl, hok⟩
      gi_wp2
      have hko := kept_others hok hbl.size (builder_obj Hb.out)
      exact ⟨hko, ⟨hko.walks, hbl.mono (by omega), (box_others hok hB (by omega) (by decide)).trans hB.symm⟩, .inr (by rw [outP_snoc, Hout.out, ← byte_cell]; exact hb3), box_others hok hA (by omega) (by decide), box_others hok hB (by omega) (by decide), hbw.trans (hbl.mono (by omega))⟩
    · have h0' : 0 ≤ x.2 := by omega
      clear h0
      have hfi : isB x.2 = true := by
        rcases hx2 with h | h
        · omega
        · exact h
      have hff := fold_is hfi
      have Hout : Hid (outX (L s) x = runeT (foldN x.2)) := Lib.hid (by unfold outX; rw [if_neg (by omega)])
      have hfx : fixN (foldN x.2) = foldN x.2 := by unfold fixN; rw [if_pos hff]
      have Hb := Lib.hid hb
      obtain ⟨v, hv⟩ : ∃ v, foldN x.2 = v := ⟨_, rfl⟩
      have HF := Lib.hid (utf_Fold x.2 W)
      have HR := Lib.hid (fun w => utf_runeOf (foldN x.2) w)
      rw [hfx] at HR
      rw [hv] at HF HR hff Hout
      obtain ⟨q1, q2⟩ := runeT_i32 hff
      clear hb hpre hx2 hfi hff hfx hv
      gi_wp2_with fail
      refine ⟨trivial, ?_⟩
      refine (CallsIn.inRound l (callsIn_wide.2 HF.out)).mono ?_
      rintro e W2 ⟨rfl, hb2⟩
      have Hb2 := Lib.hid hb2
      clear hb2
      gi_wp2_with fail
      refine ⟨trivial, ?_⟩
      refine (CallsIn.inRound l (callsIn_wide.2 (HR.out W2))).mono ?_
      rintro e W2' ⟨rfl, rfl⟩
      gi_wp2_with fail
      refine ⟨trivial, ?_⟩
      refine (CallsIn.inRound l (callsIn_wide.2 (b_writeRune (w.heap.size + 1) (w.heap.size + 1) _ _ q1 q2 W2 (builder_below Hb.out Hb2.out) (by rw [Lib.byteCells_length]; omega) (by have := Hb2.out.size; omega)))).mono ?_
      rintro e W3 ⟨rfl, hb3, hbl, hok⟩
      gi_wp2
      have hk2 : KeepsOthers W W2 := ⟨Hb2.out.size, fun k o hk _ => (Hb2.out.block k (Array.getElem?_eq_some_iff.1 hk).1).trans hk⟩
      have hA2 : Boxed W2 w.heap.size 9 (.string s) := (Hb2.out.block _ hA.lt).trans hA
      have hB2 : Boxed W2 (w.heap.size + 1 + 1) 9 (.string s) := (Hb2.out.block _ hB.lt).trans hB
      have hko := hk2.trans (kept_others hok hbl.size (builder_obj (builder_below Hb.out Hb2.out)))
      have hbl2 : Below w.heap.size W W3 := (Hb2.out.mono (by omega)).trans (hbl.mono (by omega))
      exact ⟨hko, ⟨hko.walks, hbl2, (box_others hok hB2 (by omega) (by decide)).trans hB.symm⟩, .inr (by rw [outP_snoc, Hout.out, ← rune_cells]; exact hb3), box_others hok hA2 (by omega) (by decide), box_others hok hB2 (by omega) (by decide), hbw.trans hbl2⟩
  case done =>
    rintro D W hD ⟨hb, hA, hB, hbw⟩ hK
    rw [outP_runes] at hb
    have Hb := Lib.hid hb
    have HK := Lib.hid hK
    have hbs := hB.lt
    clear hb hK
    gi_wp2_with fail
    refine ⟨trivial, ?_⟩
    refine (callsIn_wide.2 (b_string (w.heap.size + 1) (w.heap.size + 1) _ W Hb.out (by omega))).mono ?_
    rintro e W3 ⟨rfl, hb3, hbl, hok⟩
    have hK3 := (kept_others hok hbl.size (builder_obj Hb.out)).same D _ HK.out rfl
    have Hbl := Lib.hid (hbw.trans (hbl.mono (by omega)))
    clear hbl hok hb3
    gi_wp2
    have hDw : w.heap.size ≤ D := by omega
    refine ⟨by simp, .inl ⟨_, _, rfl, run_takeDeferred hK3, ?_⟩⟩
    exact ⟨_, results_tmp rfl _ _ _, rfl, Hbl.out.trans (belowK_b (w := w) (Nat.le_refl _) W3 D _ _ hDw hK3 rfl rfl)⟩
  case stop =>
    intro D c pre W _ _ h _
    exact h.elim
end Go.Proofs.YtlfhgmclnapmjaaGreatDoor
namespace Go.Utf
open Go.Lib
/-- Where the k-th piece begins. -/
def atC (l : List UInt8) (k : Nat) : Nat := (joinC ((chunks l).take k)).length
theorem atC_zero (l : List UInt8) : atC l 0 = 0 := by unfold atC; rw [List.take_zero]; rfl
theorem drop_atC (l : List UInt8) (k : Nat) : l.drop (atC l k) = joinC ((chunks l).drop k) := by
  have h := drop_join ((chunks l).take k) ((chunks l).drop k)
  rw [List.take_append_drop, chunks_join] at h
  exact h
theorem chunks_tail {l : List UInt8} (c : Int × List UInt8) (cs : List (Int × List UInt8)) (h : chunks l = c :: cs) : readL l = (c.1, c.2.length) ∧ chunks (l.drop c.2.length) = cs := by
  by_cases hl : l = []
  · subst hl; rw [chunks_nil] at h; cases h
  · rw [chunks_cons hl] at h
    obtain ⟨h1, h2⟩ := List.cons.inj h
    have hle := readL_le hl
    have hn : c.2.length = (readL l).2 := by rw [← h1]; simp only [List.length_take]; omega
    exact ⟨by rw [hn, ← h1], by rw [hn]; exact h2⟩
theorem chunks_at (l : List UInt8) (k : Nat) (hk : k ≤ (chunks l).length) : chunks (joinC ((chunks l).drop k)) = (chunks l).drop k := by
  induction k with
  | zero => rw [List.drop_zero, chunks_join]
  | succ k ih =>
    have ih := ih (by omega)
    have hd : (chunks l).drop k = (chunks l)[k] :: (chunks l).drop (k + 1) := (List.drop_eq_getElem_cons (by omega))
    rw [hd] at ih
    obtain ⟨h1, h2⟩ := chunks_tail _ _ ih
    rw [joinC_cons, List.drop_left] at h2
    exact h2
/-- The k-th piece, as it is told and as it is read. -/
theorem piece_at (l : List UInt8) (k : Nat) (hk : k < (chunks l).length) : readL (l.drop (atC l k)) = ((chunks l)[k].1, (chunks l)[k].2.length) ∧ atC l (k + 1) = atC l k + (chunks l)[k].2.length ∧ atC l (k + 1) ≤ l.length := by
  have hd : (chunks l).drop k = (chunks l)[k] :: (chunks l).drop (k + 1) := (List.drop_eq_getElem_cons hk)
  have h1 := chunks_at l k (by omega)
  rw [← drop_atC] at h1
  rw [hd] at h1
  refine ⟨(chunks_tail _ _ h1).1, ?_, ?_⟩
  · unfold atC
    rw [List.take_succ_eq_append_getElem hk, joinC_append, List.length_append]
    simp [joinC]
  · unfold atC
    conv => rhs; rw [← chunks_join l, ← List.take_append_drop (k + 1) (chunks l), joinC_append, List.length_append]
    omega
theorem atC_end (l : List UInt8) : atC l (chunks l).length = l.length := by
  unfold atC; rw [List.take_length, chunks_join]
theorem atC_le (l : List UInt8) (k : Nat) : atC l k ≤ l.length := by
  unfold atC
  conv => rhs; rw [← chunks_join l, ← List.take_append_drop k (chunks l), joinC_append, List.length_append]
  omega
theorem idxC_get (i : Nat) (cs : List (Int × List UInt8)) (k : Nat) (hk : k < cs.length) : (idxC i cs)[k]? = some (i + (joinC (cs.take k)).length, cs[k].1) := by
  induction cs generalizing i k with
  | nil => simp at hk
  | cons c cs ih =>
    cases k with
    | zero => simp [idxC, joinC]
    | succ k =>
      show (idxC (i + c.2.length) cs)[k]? = _
      rw [ih _ _ (by simpa using hk)]
      simp only [List.take_succ_cons, joinC_cons, List.length_append, List.getElem_cons_succ]
      rw [Nat.add_assoc]
theorem last_of_prefix {α : Type} {pre xs : List α} {x : α} (h : pre ++ [x] <+: xs) : xs[pre.length]? = some x := by
  obtain ⟨t, rfl⟩ := h
  simp
/-- What is known of the piece that comes behind those of pre. -/
theorem told_next {l : List UInt8} {pre : List (Nat × Int)} {x : Nat × Int} (h : pre ++ [x] <+: idxC 0 (chunks l)) :
    pre.length < (chunks l).length ∧ x.1 = atC l pre.length ∧ ∃ n, readL (l.drop x.1) = (x.2, n) ∧ atC l (pre.length + 1) = x.1 + n ∧ x.1 + n ≤ l.length := by
  have hlt : pre.length < (chunks l).length := by
    have := h.length_le
    rw [List.length_append, idxC_length] at this
    simp at this; omega
  have h1 := last_of_prefix h
  rw [idxC_get 0 _ _ hlt] at h1
  simp only [Option.some.injEq] at h1
  obtain ⟨h2, h3, h4⟩ := piece_at l pre.length hlt
  have hx : x.1 = atC l pre.length := by rw [← h1]; simp [atC]
  refine ⟨hlt, hx, (chunks l)[pre.length].2.length, ?_, ?_, ?_⟩
  · rw [hx, h2]; rw [← h1]
  · rw [h3, hx]
  · rw [hx, ← h3]; exact h4
end Go.Utf
namespace Go.Utf
open Go.Lib
theorem validL_cons {l : List UInt8} (h : l ≠ []) : validL l = (decide (0 ≤ (readL l).1) && validL (l.drop (readL l).2)) := by
  unfold validL; rw [chunks_cons h, List.all_cons]
theorem foldL_cons {l : List UInt8} (h : l ≠ []) : foldL l = (if (readL l).1 < 0 then l.take 1 else runeT (foldN (readL l).1)) ++ foldL (l.drop (readL l).2) := by
  cases l with
  | nil => exact absurd rfl h
  | cons b l =>
    rcases read_cases h with e | ⟨v, n, e, hv, hn, h2⟩
    · rw [foldL_bad (by rw [e]; decide), e, if_pos (by decide)]; rfl
    · rw [e]
      simp only
      rw [isB_iff] at hv
      rw [if_neg (by omega)]
      conv => lhs; rw [h2]
      rw [foldL_rune ((isB_iff _).2 hv)]
theorem take_one : ∀ (l : List UInt8) (h : 0 < l.length), l.take 1 = [l[0]]
  | [], h => by simp at h
  | _ :: _, _ => rfl
theorem foldL_length (l : List UInt8) : (foldL l).length ≤ 4 * l.length := by
  rw [← outP_runes]
  have := outP_length l (idxC 0 (chunks l))
  rw [idxC_length] at this
  have := chunks_length l
  omega
end Go.Utf
namespace Go.Proofs.YtlfhgmclnapmjaaGreatDoor
open Go.RowKit Go.Utf Go.Lib Go.Shelf

theorem own_kept2 {w w' : World} {base : Nat} {e : TypeId} {size : Nat} {v : Value} {n : Nat} {xs : List Value} (h : w.ownsRow base e size v n xs) (b : Below w.heap.size w w') : w'.ownsRow base e size v n xs := by
  refine h.kept (row := none) (grown_below b) ?_
  cases hv : v.ownBlock with
  | none => exact .inl rfl
  | some k => exact .inr (by simp)
set_option maxRecDepth 100000 in
set_option maxHeartbeats 1600000 in
theorem ref10_Valid (s : ByteArray) (hs : s.size ≤ 1000000000) (w : World) :
    Calls Tryz.prog 65 #[.string s] w fun e w' => e = .returned (.bool (validL (L s))) ∧ Below w.heap.size w w' := by
  go_enter Tryz.func65, Tryz.ntmps65
  go_wp2
  go_loopw [0] (fun x0 wr => ∃ t : ByteArray, x0 = .string t ∧ t.size ≤ s.size ∧ validL (L t) = validL (L s) ∧ Below w.heap.size w wr) (fun x0 _ => match x0 with | .string t => t.size | _ => 0)
  case atStart => exact ⟨s, rfl, Nat.le_refl _, rfl, Below.refl _ _⟩
  case round =>
    obtain ⟨t, rfl, ht, hv, hb⟩ := hrel
    have Hv := Lib.hid hv
    have Hb := Lib.hid hb
    clear hv
    by_cases h0 : t.size = 0
    · have hz : (t.size : Int) ≤ 0 := by omega
      have Hn : Hid (L t = []) := Lib.hid (List.eq_nil_of_length_eq_zero (by rw [length_L]; exact h0))
      go_wp2
      go_ret
      exact ⟨ret_bool (by rw [← Hv.out, Hn.out]; unfold validL; rw [chunks_nil]; rfl), Hb.out⟩
    · have hz : (0 : Int) < (t.size : Int) := by omega
      have hne : L t ≠ [] := by
        intro e
        have := congrArg List.length e
        rw [length_L, List.length_nil] at this; omega
      have Hc := Lib.hid (validL_cons hne)
      have hpos := readL_pos hne
      have hle := readL_le hne
      rw [length_L] at hle
      have HR := Lib.hid (ref10_Rune t (by omega) wr)
      unfold ReadV at HR
      obtain ⟨x, hx⟩ : ∃ x, readL (L t) = x := ⟨_, rfl⟩
      rw [hx] at HR Hc hpos hle
      obtain ⟨r, n⟩ := x
      simp only at HR Hc hpos hle
      have hn : (n : Int) ≤ (t.size : Int) := by omega
      clear hx hne h0
      by_cases hr : r < 0
      · go_wp2_with (go_at_call 49; refine HR.out.mono ?_; rintro e w1 ⟨rfl, hb1⟩)
        go_ret
        exact ⟨ret_bool (by rw [← Hv.out, Hc.out, decide_eq_false (by omega)]; rfl), step_call Hb.out hb1⟩
      · have hr' : 0 ≤ r := by omega
        have Hr := Lib.hid hr'
        go_wp2_with (go_at_call 49; refine HR.out.mono ?_; rintro e w1 ⟨rfl, hb1⟩)
        go_roundw
        case rel => exact ⟨_, rfl, by simp; omega, by rw [← Hv.out, Hc.out, decide_eq_true Hr.out, extract_to_end, L_B]; rfl, step_call Hb.out hb1⟩
        case measure => simp; omega
set_option maxRecDepth 100000 in
set_option maxHeartbeats 1600000 in
theorem ref10_Folded (s : ByteArray) (hs : s.size ≤ 1000000000) (w : World) :
    Calls Tryz.prog 32 #[.string s] w fun e w' => e = .returned (.string (B (foldL (L s)))) ∧ Below w.heap.size w w' := by
  obtain ⟨i0, hi, hz0, hz1, hz2⟩ := info_parts Tryz.info_u8
  go_enter Tryz.func32, Tryz.ntmps32
  go_wp2
  go_loopw [0, 3] (fun x0 x3 wr => ∃ (t : ByteArray) (pre : List UInt8), x0 = .string t ∧ t.size ≤ s.size ∧ pre.length + 4 * t.size ≤ 4 * s.size ∧ foldL (L s) = pre ++ foldL (L t) ∧ wr.ownsRow w.heap.size 5 1 x3 pre.length (Lib.byteCells pre) ∧ Below w.heap.size w wr) (fun x0 _ _ => match x0 with | .string t => t.size | _ => 0)
  case atStart => exact ⟨s, [], rfl, Nat.le_refl _, by simp, rfl, World.ownsRow_nil _ _ _ _, Below.refl _ _⟩
  case round =>
    obtain ⟨t, pre, rfl, ht, hl, hv, hown, hb⟩ := hrel
    have Hv := Lib.hid hv
    have Hb := Lib.hid hb
    have hbz := hb.size
    clear hv
    by_cases h0 : t.size = 0
    · have hz : (t.size : Int) ≤ 0 := by omega
      have Hn : Hid (L t = []) := Lib.hid (List.eq_nil_of_length_eq_zero (by rw [length_L]; exact h0))
      have hconv := conv_own hown
      clear hown h0
      go_wp2
      go_ret
      exact ⟨ret_str (by rw [Hv.out, Hn.out, foldL_nil, List.append_nil]), Hb.out⟩
    · have hz : (0 : Int) < (t.size : Int) := by omega
      have hne : L t ≠ [] := by
        intro e
        have := congrArg List.length e
        rw [length_L, List.length_nil] at this; omega
      have Hc := Lib.hid (foldL_cons hne)
      have hpos := readL_pos hne
      have hle := readL_le hne
      rw [length_L] at hle
      have HR := Lib.hid (ref10_Rune t (by omega) wr)
      unfold ReadV at HR
      have His := Lib.hid (readL_is hne)
      obtain ⟨x, hx⟩ : ∃ x, readL (L t) = x := ⟨_, rfl⟩
      rw [hx] at HR Hc hpos hle His
      obtain ⟨r, n⟩ := x
      simp only at HR Hc hpos hle His
      have hn : (n : Int) ≤ (t.size : Int) := by omega
      have ht0 : 0 < t.size := by omega
      clear hx hne h0
      by_cases hr : r < 0
      · have Hr := Lib.hid hr
        have Ht1 : Hid ((L t).take 1 = [t[0]]) := Lib.hid (by
          rw [get_L t 0 ht0]
          exact take_one _ _)
        go_wp2_with (first
          | (go_at_call 49; refine HR.out.mono ?_; rintro e w1 ⟨rfl, hb1⟩; have Hb1 := Lib.hid (step_call Hb.out hb1); have hown1 := own_kept2 hown hb1; have hz1' := Hb1.out.size; clear hown hb1)
          | (at_builtin; go_must (refine wpList_append_own _ rfl _ _ 66 rfl w.heap.size 5 i0 (.int .u8 0) 1 1 Tryz.underlying66 hi hz0 hz1 hz2 rfl (by decide) _ _ _ rfl (hown1.alloc _) ⟨w1.heap.size, 0, none⟩ 1 1 [.int .u8 ((t[0].toNat : Nat) : Int)] rfl rfl ?c1 ?c2 ?c3 ?c4 ?c5 ?_)))
        case c1 => exact cell_one_new _ _ _
        case c2 => simp [Value.oneCell']
        case c3 => unfold maxLen; omega
        case c4 => omega
        case c5 => simp; omega
        intro v' w2 hown2 hgrow _
        have hb2 := Lib.hid (below_append Hb1.out hown1 hgrow)
        have hown3 : w2.ownsRow w.heap.size 5 1 v' (pre ++ [t[0]]).length (Lib.byteCells (pre ++ [t[0]])) := by
          rw [List.length_append, ← byte_cell]; exact hown2
        have Hown3 := Lib.hid hown3
        clear hown2 hgrow hown1 hown3
        go_wp2
        go_roundw
        case rel => exact ⟨_, pre ++ [t[0]], rfl, by simp; omega, by simp; omega, by rw [Hv.out, Hc.out, if_pos Hr.out, Ht1.out, extract_to_end, L_B, List.append_assoc], Hown3.out, hb2.out⟩
        case measure => simp; omega
      · have hr' : 0 ≤ r := by omega
        have Hr : Hid (¬ r < 0) := Lib.hid (by omega)
        have hri : isB r = true := by
          rcases His.out with h | h
          · omega
          · exact h
        have hff := fold_is hri
        have HF := Lib.hid (fun w => ref10_Fold r w)
        have HB := Lib.hid (fun w => ref10_Bytes (foldN r) hff w)
        have h4 := (runeT_length (foldN r)).2
        obtain ⟨v, hv⟩ : ∃ v, foldN r = v := ⟨_, rfl⟩
        rw [hv] at HF HB Hc h4
        have hsz := size_B (runeT v)
        have hsz4 : (B (runeT v)).size ≤ 4 := by omega
        have Hsz := Lib.hid hsz
        clear hri hff hv hsz hr h4
        go_wp2_with (first
          | (go_at_call 49; refine HR.out.mono ?_; rintro e w1 ⟨rfl, hb1⟩; have Hb1 := Lib.hid (step_call Hb.out hb1); have hown1 := own_kept2 hown hb1; clear hown hb1)
          | (go_at_call 52; refine (HF.out _).mono ?_; rintro e w2 ⟨rfl, rfl⟩)
          | (go_at_call 51; refine (HB.out _).mono ?_; rintro e w3 ⟨rfl, hb3⟩; have Hb3 := Lib.hid (step_call Hb1.out hb3); have hown3 := own_kept2 hown1 hb3; have hz3 := Hb3.out.size; clear hown1 hb3)
          | (at_builtin; go_must (refine wpList_append_own_string _ rfl _ _ 66 9 rfl w.heap.size 5 i0 Tryz.underlying66 Tryz.underlying9 hi hz0 hz1 hz2 _ _ _ rfl hown3 _ rfl ?d1 ?d2 ?d3 ?_)))
        case d1 => unfold maxLen; omega
        case d2 => omega
        case d3 => omega
        intro v' w4 hown4 hgrow _
        have hb4 := Lib.hid (Hb3.out.grown hgrow hz3 (own_ge hown3))
        have Hown4 : Hid (w4.ownsRow w.heap.size 5 1 v' (pre ++ runeT v).length (Lib.byteCells (pre ++ runeT v))) := Lib.hid (by
          rw [List.length_append, ← Hsz.out, Lib.byteCells_append]; exact hown4)
        have Hsz4 := Lib.hid hsz4
        clear hown4 hgrow hown3 hsz4
        go_wp2
        go_roundw
        case rel => exact ⟨_, pre ++ runeT v, rfl, by simp; omega, by have := Hsz4.out; rw [Hsz.out] at this; simp; omega, by rw [Hv.out, Hc.out, if_neg (show ¬ r < 0 by have := Hr.out; omega), extract_to_end, L_B, List.append_assoc], Hown4.out, hb4.out⟩
        case measure => simp; omega
end Go.Proofs.YtlfhgmclnapmjaaGreatDoor
namespace Go.Proofs.YtlfhgmclnapmjaaGreatDoor
open Go.RowKit Go.Utf Go.Lib Go.Shelf

theorem rune_at (s : ByteArray) (r : Int) (n : Nat) (h : readL (L s) = (r, n)) (w : World) (hT : Tabs w) :
    Calls Tryz.prog 85 #[.string s] w fun e w' => e = .returned (.tuple #[.int .i64 r, .int .i64 (n : Nat)]) ∧ Below w.heap.size w w' := by
  have := utf_Rune s w hT
  rw [h] at this; exact this
theorem kind_at (r k : Int) (h : kindN r = k) (w : World) (hT : Tabs w) :
    Calls Tryz.prog 68 #[.int .i64 r] w fun e w' => e = .returned (.int .i64 k) ∧ Below w.heap.size w w' := by
  have := utf_Kind r w hT
  rw [h] at this; exact this
theorem folded_at (s : ByteArray) (hs : s.size ≤ 1000000000) (l : List UInt8) (h : foldL (L s) = l) (w : World) (hT : Tabs w) :
    Calls Tryz.prog 36 #[.string s] w fun e w' => e = .returned (.string (B l)) ∧ Below w.heap.size w w' := by
  have := utf_Folded s hs w hT
  rw [h] at this; exact this
theorem rd1 : readL (L ⟨#[195, 169]⟩) = (233, 2) := by decide +kernel
theorem rd2 : readL (L ⟨#[195, 40]⟩) = (-1, 1) := by decide +kernel
theorem rd3 : readL (L ⟨#[237, 160, 128]⟩) = (-1, 1) := by decide +kernel
theorem rd4 : readL (L ⟨#[]⟩) = (-1, 0) := by decide +kernel
theorem fd_pieces : [195, 132, 195, 150, 32, 206, 163, 207, 130, 32, 208, 150] = runeT 196 ++ (runeT 214 ++ (runeT 32 ++ (runeT 931 ++ (runeT 962 ++ (runeT 32 ++ (runeT 1046 ++ [])))))) := by decide +kernel
theorem fd_done : runeT 228 ++ (runeT 246 ++ (runeT 32 ++ (runeT 963 ++ (runeT 963 ++ (runeT 32 ++ (runeT 1078 ++ [])))))) = [195, 164, 195, 182, 32, 207, 131, 207, 131, 32, 208, 182] := by decide +kernel
theorem fd1 : foldL (L ⟨#[195, 132, 195, 150, 32, 206, 163, 207, 130, 32, 208, 150]⟩) = [195, 164, 195, 182, 32, 207, 131, 207, 131, 32, 208, 182] := by
  show foldL [195, 132, 195, 150, 32, 206, 163, 207, 130, 32, 208, 150] = _
  rw [fd_pieces, foldL_rune (by decide), foldL_rune (by decide), foldL_rune (by decide), foldL_rune (by decide), foldL_rune (by decide), foldL_rune (by decide), foldL_rune (by decide), foldL_nil]
  exact fd_done
end Go.Proofs.YtlfhgmclnapmjaaGreatDoor
