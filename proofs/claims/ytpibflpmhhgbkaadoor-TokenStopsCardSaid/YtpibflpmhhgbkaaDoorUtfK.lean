/- Chapter 10: Folded. Conditions: the tables; the text is at most 10^9 bytes. -/
import Derived.Test.YtpibflpmhhgbkaaDoorUtfJ
import Derived.Test.YtpibflpmhhgbkaaDoorUtfD
import Derived.Test.YtpibflpmhhgbkaaDoorBuilder
import Derived.RangeFuncBox
import Derived.RangeFuncCalls
namespace Go.Utf
open Go.Lib
/-- What a piece is folded to, by where it begins. -/
def outX (l : List UInt8) (x : Nat × Int) : List UInt8 := if x.2 < 0 then [l[x.1]?.getD 0] else runeT (foldN x.2)
def outP (l : List UInt8) (xs : List (Nat × Int)) : List UInt8 := xs.flatMap (outX l)
theorem outP_snoc (l : List UInt8) (xs : List (Nat × Int)) (x : Nat × Int) : outP l (xs ++ [x]) = outP l xs ++ outX l x := by simp [outP]
theorem outX_length (l : List UInt8) (x : Nat × Int) : (outX l x).length ≤ 4 := by
  unfold outX; split
  · simp
  · exact (runeT_length _).2
theorem outP_length (l : List UInt8) (xs : List (Nat × Int)) : (outP l xs).length ≤ 4 * xs.length := by
  induction xs with
  | nil => simp [outP]
  | cons x xs ih => unfold outP at *; rw [List.flatMap_cons, List.length_append, List.length_cons]; have := outX_length l x; omega
theorem idxC_length (i : Nat) (cs : List (Int × List UInt8)) : (idxC i cs).length = cs.length := by
  induction cs generalizing i with
  | nil => rfl
  | cons c cs ih => simp [idxC, ih]
theorem piece_length {c : Int × List UInt8} (h : Piece c) : 1 ≤ c.2.length ∧ c.2.length ≤ 4 := by
  rcases h with ⟨_, b, h⟩ | ⟨_, h⟩
  · rw [h]; simp
  · rw [h]; exact runeT_length _
theorem chunks_length (l : List UInt8) : (chunks l).length ≤ l.length := by
  have h := chunks_pieces l
  have hj := chunks_join l
  have : ∀ cs : List (Int × List UInt8), (∀ c ∈ cs, Piece c) → cs.length ≤ (joinC cs).length := by
    intro cs
    induction cs with
    | nil => intro _; simp
    | cons c cs ih =>
      intro h
      rw [joinC_cons, List.length_append, List.length_cons]
      have := piece_length (h c (by simp))
      have := ih fun x hx => h x (by simp [hx])
      omega
  have := this _ h
  rwa [hj] at this
/-- A piece that is told is one of the text's: where it begins there is a byte; what is told is a rune, or -1. -/
theorem idxC_mem {l : List UInt8} {x : Nat × Int} : ∀ (cs : List (Int × List UInt8)) (pre : List UInt8), (∀ c ∈ cs, Piece c) → x ∈ idxC pre.length cs → l = pre ++ joinC cs → x.1 < l.length ∧ (x.2 = -1 ∨ isB x.2 = true) := by
  intro cs
  induction cs with
  | nil => intro pre _ h; simp [idxC] at h
  | cons c cs ih =>
    intro pre hp h hl
    have hc := hp c (by simp)
    have h1 := piece_length hc
    rw [joinC_cons] at hl
    rcases List.mem_cons.1 h with e | h
    · subst e
      refine ⟨by rw [hl]; simp only [List.length_append]; omega, ?_⟩
      rcases hc with ⟨h, _⟩ | ⟨h, _⟩
      · exact .inl h
      · exact .inr h
    · refine ih (pre ++ c.2) (fun x hx => hp x (by simp [hx])) (by rw [List.length_append]; exact h) (by rw [hl, List.append_assoc])
theorem runes_mem {l : List UInt8} {x : Nat × Int} (h : x ∈ idxC 0 (chunks l)) : x.1 < l.length ∧ (x.2 = -1 ∨ isB x.2 = true) :=
  idxC_mem (chunks l) [] (chunks_pieces l) h (by rw [chunks_join]; rfl)
theorem out_all {l : List UInt8} : ∀ (cs : List (Int × List UInt8)) (pre : List UInt8), (∀ c ∈ cs, Piece c) → l = pre ++ joinC cs → outP l (idxC pre.length cs) = joinC (cs.map foldC) := by
  intro cs
  induction cs with
  | nil => intro pre _ _; rfl
  | cons c cs ih =>
    intro pre hp hl
    rw [joinC_cons] at hl
    have hc := hp c (by simp)
    have := ih (pre ++ c.2) (fun x hx => hp x (by simp [hx])) (by rw [hl, List.append_assoc])
    rw [List.length_append] at this
    show outX l (pre.length, c.1) ++ outP l (idxC (pre.length + c.2.length) cs) = (foldC c).2 ++ joinC (cs.map foldC)
    rw [this]
    congr 1
    unfold outX
    rcases hc with ⟨h, b, hb⟩ | ⟨h, hb⟩
    · rw [foldC_neg c (by omega), if_pos (by simp only; omega), hb, hl, hb]
      simp
    · rw [isB_iff] at h
      rw [foldC_nn c (by omega), if_neg (by simp only; omega)]
theorem outP_runes (l : List UInt8) : outP l (idxC 0 (chunks l)) = foldL l :=
  out_all (chunks l) [] (chunks_pieces l) (by rw [chunks_join]; rfl)
end Go.Utf
namespace Go.Proofs.YtpibflpmhhgbkaaDoor
open Go.RowKit Go.Utf Go.Lib Go.Shelf
attribute [local go_sem] Oper.semAt_some

/-- A builder stands where a block that is no cells turns. -/
theorem builder_turn {T e : TypeId} {B b : Nat} {bs : List Value} {w w' : World} {row : Option Nat} (h : Lib.IsBuilderF T e B b bs w) (hg : w.grownBy w' row) (hr : ∀ r, row = some r → ∃ o : Obj, w.heap[r]? = some o ∧ o.isCells = false) : Lib.IsBuilderF T e B b bs w' := by
  have : ∀ p, Lib.BuilderAtF T e B b p bs w → Lib.BuilderAtF T e B b p bs w' := by
    rintro p ⟨hB, v, h1, h2, h3⟩
    refine ⟨hB, v, (grownBy_keeps_cells hg hr h1 rfl).trans h1, ⟨h2.1, ?_⟩, h3⟩
    rcases h2.2 with hn | ⟨g, cap, cur, fz, rfl, hbg, hgg, rest⟩
    · exact .inl hn
    · exact .inr ⟨g, cap, cur, fz, rfl, hbg, (grownBy_keeps_cells hg hr hgg rfl).trans hgg, rest⟩
  exact h.elim (fun h => .inl (this _ h)) (fun h => .inr (this _ h))
theorem kpr_t {box n₀ : Nat} {A B C : World} (h : KpR box n₀ A B) (k : KpR box n₀ B C) : KpR box n₀ A C := ⟨h.1.trans k.1, h.2.1.trans k.2.1, k.2.2.trans h.2.2⟩
theorem kpr_b {box n₀ : Nat} {w : World} (hn : n₀ ≤ w.heap.size) (hbox : box < w.heap.size) (W : World) (l : Nat) (o o' : Obj) (hl : w.heap.size ≤ l) (h : W.heap[l]? = some o) (hc : o.isCells = false) (hw : o.isWalk = false) : KpR box n₀ W (W.putObj l o') :=
  ⟨walksK_b W l o o' hl h hc hw, belowK_b hn W l o o' hl h hc hw, World.putObj_heap_other (by omega)⟩
theorem kept_others {e : TypeId} {b : Nat} {W W' : World} (h : Lib.OthersKept e (some b) W W') (hs : W.heap.size ≤ W'.heap.size) (hb : ∃ o : Obj, W.heap[b]? = some o ∧ o.isCells = true) : KeepsOthers W W' :=
  ⟨hs, fun k o hk hc => h k o hk (fun e1 => by
    obtain ⟨o', ho', hc'⟩ := hb
    rw [Option.some.inj e1, ho'] at hk
    cases hk; rw [hc] at hc'; cases hc') (fun c fz e1 => by rw [e1] at hc; cases hc)⟩
theorem builder_obj {T e : TypeId} {B b : Nat} {bs : List Value} {w : World} (h : Lib.IsBuilderF T e B b bs w) : ∃ o : Obj, w.heap[b]? = some o ∧ o.isCells = true := by
  rcases h with ⟨_, v, h, _⟩ | ⟨_, v, h, _⟩ <;> exact ⟨_, h, rfl⟩
theorem box_others {e t : TypeId} {b k : Nat} {v : Value} {W W' : World} (h : Lib.OthersKept e (some b) W W') (hk : Boxed W k t v) (hne : k ≠ b) (ht : t ≠ e) : Boxed W' k t v :=
  h k _ hk (fun e1 => hne (Option.some.inj e1)) (fun c fz e1 => by
    simp only [Obj.cells.injEq] at e1
    exact ht e1.2.1)
theorem byte_cell (x : UInt8) (l : List UInt8) : Lib.byteCells l ++ [Value.int .u8 (x.toNat : Int)] = Lib.byteCells (l ++ [x]) := by
  rw [Lib.byteCells_append]; rfl
theorem rune_cells {v : Int} (l : List UInt8) : Lib.byteCells l ++ Lib.runeCells v = Lib.byteCells (l ++ runeT v) := by
  rw [Lib.byteCells_append]
  congr 1
  exact (byteCells_encodeRune v).symm
theorem runeT_i32 {v : Int} (h : isB v = true) : -2147483648 ≤ v ∧ v ≤ 2147483647 := by rw [isB_iff] at h; omega
set_option maxRecDepth 100000 in
set_option maxHeartbeats 3200000 in
theorem utf_Folded (s : ByteArray) (hs : s.size ≤ 1000000000) (w : World) (hT : Tabs w) :
    Calls Tryd.prog 17 #[.string s] w fun e w' => e = .returned (.string (B (foldL (L s)))) ∧ Below w.heap.size w w' := by
  refine (callsIn_wide (n := 6)).1 ?_
  refine callsIn_of_wp_marks Tryd.func17 rfl trivial ?_ rfl
  simp only [Tryd.ntmps17, List.size_toArray, List.length_cons, List.length_nil, Nat.reduceAdd, Nat.reduceSub, Array.replicate_succ, Array.replicate_zero, List.push_toArray, List.append_toArray, List.nil_append, List.cons_append]
  gi_wp2_with fail
  refine ⟨trivial, ?_⟩
  refine (callsIn_wide.2 (utf_Runes s _)).mono ?_
  rintro e w1 ⟨rfl, rfl⟩
  gi_wp2_with fail
  have hbox1 : Boxed (w.alloc (.cells #[.string s] 9)) w.heap.size 9 (.string s) := Boxed.new _ _ _
  have hboxA : Boxed (((w.alloc (.cells #[.string s] 9)).alloc (.cells #[.pointer none, .slice none 0 0] 46)).alloc (.cells #[.string s] 9)) w.heap.size 9 (.string s) := (hbox1.alloc _).alloc _
  have hboxB : Boxed (((w.alloc (.cells #[.string s] 9)).alloc (.cells #[.pointer none, .slice none 0 0] 46)).alloc (.cells #[.string s] 9)) (w.heap.size + 1 + 1) 9 (.string s) := by
    have := Boxed.new ((w.alloc (.cells #[.string s] 9)).alloc (.cells #[.pointer none, .slice none 0 0] 46)) 9 (.string s)
    rwa [World.size_alloc, World.size_alloc] at this
  have hbld : Lib.IsBuilderF 46 5 (w.heap.size + 1) (w.heap.size + 1) [] (((w.alloc (.cells #[.string s] 9)).alloc (.cells #[.pointer none, .slice none 0 0] 46)).alloc (.cells #[.string s] 9)) := by
    refine .inl ⟨Nat.le_refl _, .slice none 0 0, ?_, World.ownsRowF_nil _ _ _ _, by simp [Value.ownBlock]⟩
    have h1 := heap_alloc_new (w.alloc (.cells #[.string s] 9)) (.cells #[.pointer none, .slice none 0 0] 46)
    rw [World.size_alloc] at h1
    exact (Below.heap_alloc _ _ _ (by simp)).trans h1
  have hbel : Below w.heap.size w (((w.alloc (.cells #[.string s] 9)).alloc (.cells #[.pointer none, .slice none 0 0] 46)).alloc (.cells #[.string s] 9)) := ((step_new (Below.refl w.heap.size w) _).alloc (by simp) _).alloc (by simp; omega) _
  obtain ⟨W0, hW0⟩ : ∃ W0, ((w.alloc (.cells #[.string s] 9)).alloc (.cells #[.pointer none, .slice none 0 0] 46)).alloc (.cells #[.string s] 9) = W0 := ⟨_, rfl⟩
  have hz : W0.heap.size = w.heap.size + 3 := by rw [← hW0]; simp
  rw [hW0] at hboxA hboxB hbld hbel ⊢
  clear hW0 hbox1
  refine wpIn_rangeSeq rfl (by omega) (gf := 41) (lb := #[.pointer (some ⟨w.heap.size + 1 + 1, 0, none⟩)]) ?hg trivial (enters_of Tryd.func41 (by kernel_rfl) rfl)
    (runes1_gives _ (by omega) (w.heap.size + 1 + 1) s (by omega) w hT W0 hbel (0, 0) hboxB) kpr_t (kpr_b (by omega) (by omega)) (Below.refl _ _) (fun _ => rfl)
    (fun pre W => Lib.IsBuilderF 46 5 (w.heap.size + 1) (w.heap.size + 1) (Lib.byteCells (outP (L s) pre)) W ∧ Boxed W w.heap.size 9 (.string s) ∧ Boxed W (w.heap.size + 1 + 1) 9 (.string s) ∧ Below w.heap.size w W)
    (fun _ _ _ => False) ?hI (fun _ _ _ _ _ hs _ _ => hs) ⟨hbld, hboxA, hboxB, hbel⟩ ?act ?assign ?body ?done ?stop
  case hg => rfl
  case hI =>
    rintro pre A C row ⟨h1, h2, h3, h4⟩ hg hr
    have hr' : ∀ r, row = some r → ∃ o : Obj, A.heap[r]? = some o ∧ o.isCells = false := fun r e => (hr r e).2
    exact ⟨builder_turn h1 hg hr', (grownBy_keeps_cells hg hr' h2 rfl).trans h2, (grownBy_keeps_cells hg hr' h3 rfl).trans h3, h4.grown hg h4.size (fun k e => by have := (hr k e).1; omega)⟩
  case assign =>
    intro l x W K hK
    dsimp only [pairV]
    gi_wp2
    exact hK
  case body =>
    rintro l pre x W ⟨hb, hA, hB, hbw⟩ hpre
    have hx := runes_mem (l := L s) (x := x) (hpre.subset (by simp))
    rw [length_L] at hx
    obtain ⟨hx1, hx2⟩ := hx
    have hlen : (outP (L s) pre).length ≤ 4000000000 := by
      have h1 := outP_length (L s) pre
      have h2 := hpre.length_le
      have h3 := chunks_length (L s)
      rw [length_L] at h3
      rw [List.length_append, idxC_length] at h2
      omega
    have hcA := hA.cell
    have hbs := hB.lt
    by_cases h0 : x.2 < 0
    · have hxi : (x.1 : Int) < (s.size : Int) := by omega
      have Hout : Hid (outX (L s) x = [s[x.1]]) := Lib.hid (by
        unfold outX; rw [if_pos h0]
        congr 1
        rw [List.getElem?_eq_getElem (by rw [length_L]; exact hx1), get_L s x.1 hx1]; rfl)
      have Hb := Lib.hid hb
      clear hb hpre hx2
      gi_wp2_with fail
      refine ⟨trivial, ?_⟩
      refine (CallsIn.inRound l (callsIn_wide.2 (b_writeByte (w.heap.size + 1) (w.heap.size + 1) _ _ W Hb.out (by rw [Lib.byteCells_length]; omega) (by omega)))).mono ?_
      rintro e W3 ⟨rfl, hb3, hbl, hok⟩
      gi_wp2
      have hko := kept_others hok hbl.size (builder_obj Hb.out)
      exact ⟨hko, ⟨hko.walks, hbl.mono (by omega), (box_others hok hB (by omega) (by decide)).trans hB.symm⟩, .inr (by rw [outP_snoc, Hout.out, ← byte_cell]; exact hb3), box_others hok hA (by omega) (by decide), box_others hok hB (by omega) (by decide), hbw.trans (hbl.mono (by omega))⟩
    · have h0' : 0 ≤ x.2 := by omega
      clear h0
      have hfi : isB x.2 = true := by
        rcases hx2 with h | h
        · omega
        · exact h
      have hff := fold_is hfi
      have Hout : Hid (outX (L s) x = runeT (foldN x.2)) := Lib.hid (by unfold outX; rw [if_neg (by omega)])
      have hfx : fixN (foldN x.2) = foldN x.2 := by unfold fixN; rw [if_pos hff]
      have Hb := Lib.hid hb
      obtain ⟨v, hv⟩ : ∃ v, foldN x.2 = v := ⟨_, rfl⟩
      have HF := Lib.hid (utf_Fold x.2 W)
      have HR := Lib.hid (fun w => utf_runeOf (foldN x.2) w)
      rw [hfx] at HR
      rw [hv] at HF HR hff Hout
      obtain ⟨q1, q2⟩ := runeT_i32 hff
      clear hb hpre hx2 hfi hff hfx hv
      gi_wp2_with fail
      refine ⟨trivial, ?_⟩
      refine (CallsIn.inRound l (callsIn_wide.2 HF.out)).mono ?_
      rintro e W2 ⟨rfl, hb2⟩
      have Hb2 := Lib.hid hb2
      clear hb2
      gi_wp2_with fail
      refine ⟨trivial, ?_⟩
      refine (CallsIn.inRound l (callsIn_wide.2 (HR.out W2))).mono ?_
      rintro e W2' ⟨rfl, rfl⟩
      gi_wp2_with fail
      refine ⟨trivial, ?_⟩
      refine (CallsIn.inRound l (callsIn_wide.2 (b_writeRune (w.heap.size + 1) (w.heap.size + 1) _ _ q1 q2 W2 (builder_below Hb.out Hb2.out) (by rw [Lib.byteCells_length]; omega) (by have := Hb2.out.size; omega)))).mono ?_
      rintro e W3 ⟨rfl, hb3, hbl, hok⟩
      gi_wp2
      have hk2 : KeepsOthers W W2 := ⟨Hb2.out.size, fun k o hk _ => (Hb2.out.block k (Array.getElem?_eq_some_iff.1 hk).1).trans hk⟩
      have hA2 : Boxed W2 w.heap.size 9 (.string s) := (Hb2.out.block _ hA.lt).trans hA
      have hB2 : Boxed W2 (w.heap.size + 1 + 1) 9 (.string s) := (Hb2.out.block _ hB.lt).trans hB
      have hko := hk2.trans (kept_others hok hbl.size (builder_obj (builder_below Hb.out Hb2.out)))
      have hbl2 : Below w.heap.size W W3 := (Hb2.out.mono (by omega)).trans (hbl.mono (by omega))
      exact ⟨hko, ⟨hko.walks, hbl2, (box_others hok hB2 (by omega) (by decide)).trans hB.symm⟩, .inr (by rw [outP_snoc, Hout.out, ← rune_cells]; exact hb3), box_others hok hA2 (by omega) (by decide), box_others hok hB2 (by omega) (by decide), hbw.trans hbl2⟩
  case done =>
    rintro D W hD ⟨hb, hA, hB, hbw⟩ hK
    rw [outP_runes] at hb
    have Hb := Lib.hid hb
    have HK := Lib.hid hK
    have hbs := hB.lt
    clear hb hK
    gi_wp2_with fail
    refine ⟨trivial, ?_⟩
    refine (callsIn_wide.2 (b_string (w.heap.size + 1) (w.heap.size + 1) _ W Hb.out (by omega))).mono ?_
    rintro e W3 ⟨rfl, hb3, hbl, hok⟩
    have hK3 := (kept_others hok hbl.size (builder_obj Hb.out)).same D _ HK.out rfl
    have Hbl := Lib.hid (hbw.trans (hbl.mono (by omega)))
    clear hbl hok hb3
    gi_wp2
    have hDw : w.heap.size ≤ D := by omega
    refine ⟨by simp, .inl ⟨_, _, rfl, run_takeDeferred hK3, ?_⟩⟩
    exact ⟨_, results_tmp rfl _ _ _, rfl, Hbl.out.trans (belowK_b (w := w) (Nat.le_refl _) W3 D _ _ hDw hK3 rfl rfl)⟩
  case stop =>
    intro D c pre W _ _ h _
    exact h.elim
end Go.Proofs.YtpibflpmhhgbkaaDoor
