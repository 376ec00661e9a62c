/- Chapter 10: the iterator Runes: it tells each rune and where it stands. Conditions: the tables; the text's length fits an int. Chapter 10: the iterator Runes, for rounds that go on into an outer range. Conditions: the tables; the text's length fits an int. -/
import Derived.Test.YtlfhgmclnapmjaaGreatDoorUtfF
import Derived.Test.YtlfhgmclnapmjaaGreatDoorRangeSeq
import Derived.RangeFuncLeaves
import Derived.Shelf.Abstract
import Derived.OwnWalkIn
import Derived.TacticsInMore
import Derived.LoopNIn
import Derived.LoopIn
import Derived.Lib.OthersKept
namespace Go.Utf
open Go.Lib
/-- The pieces of a text with where they begin. -/
def idxC : Nat → List (Int × List UInt8) → List (Nat × Int)
  | _, [] => []
  | i, c :: cs => (i, c.1) :: idxC (i + c.2.length) cs
theorem idxC_append (i : Nat) (a b : List (Int × List UInt8)) : idxC i (a ++ b) = idxC i a ++ idxC (i + (joinC a).length) b := by
  induction a generalizing i with
  | nil => simp [idxC, joinC]
  | cons c a ih => simp only [List.cons_append, idxC, ih, joinC_cons, List.length_append]; rw [Nat.add_assoc]
/-- What stands behind so many bytes. -/
theorem drop_join (a b : List (Int × List UInt8)) : (joinC (a ++ b)).drop (joinC a).length = joinC b := by
  rw [joinC_append, List.drop_left]
theorem nth_drop (l : List UInt8) (p i : Nat) : nth (l.drop p) i = nth l (p + i) := by unfold nth; rw [List.getElem?_drop]
theorem drop_ne (s : ByteArray) (p : Nat) (h : p < s.size) : s.data.toList.drop p ≠ [] := by
  intro e
  have := congrArg List.length e
  rw [List.length_drop, List.length_nil] at this
  have h2 : s.data.toList.length = s.size := by obtain ⟨⟨l⟩⟩ := s; rfl
  omega
theorem dec_drop (s : ByteArray) (p : Nat) (h : p < s.size) : Utf8.decode s p = Utf8.decode ⟨(s.data.toList.drop p).toArray⟩ 0 := by
  have hne := drop_ne s p h
  have key : ∀ i, (s.get! i).toNat = nth s.data.toList i := by
    intro i
    obtain ⟨⟨l⟩⟩ := s
    by_cases hi : i < l.length
    · exact get!_nth l i hi
    · unfold nth
      have : l[i]? = none := List.getElem?_eq_none (by omega)
      simp [this, ByteArray.get!, getElem!_def]; rfl
  rw [dec_nth _ hne, decode_at, key, key, key, key, nth_drop, nth_drop, nth_drop, nth_drop]
  congr 1
  rw [List.length_drop]; rfl
theorem dec_read (s : ByteArray) (p : Nat) (h : p < s.size) : readL (s.data.toList.drop p) = fixR (Utf8.decode s p) := by
  rw [dec_drop s p h]
  have hne := drop_ne s p h
  generalize s.data.toList.drop p = l at hne
  cases l with
  | nil => exact absurd rfl hne
  | cons b l => rfl
end Go.Utf
namespace Go.Proofs.YtlfhgmclnapmjaaGreatDoor
open Go.RowKit Go.Utf Go.Lib Go.Shelf
attribute [local go_sem] Oper.semAt_some

/-- What a round leaves as it was: walks, what lay below n₀, the text's box. -/
def KpR (box n₀ : Nat) (W W' : World) : Prop := KeepsWalks W W' ∧ Below n₀ W W' ∧ W'.heap[box]? = W.heap[box]?
def pairV (x : Nat × Int) : Array Value := #[.int .i64 (x.1 : Nat), .int .i64 x.2]
theorem utf_Runes (s : ByteArray) (w : World) : Calls Tryz.prog 56 #[.string s] w fun e w' => e = .returned (.func (.func 84) #[] #[.pointer (some ⟨w.heap.size, 0, none⟩)]) ∧ w' = w.alloc (.cells #[.string s] 9) := by
  go_enter Tryz.func56, Tryz.ntmps56
  go_wp2
  go_ret
  exact ⟨rfl, rfl⟩
theorem grown_iterAt (w : World) (k : Nat) (s : ByteArray) (pos : Nat) : w.grownBy (w.iterAt k s pos) (some k) :=
  ⟨rfl, rfl, rfl, by rw [iterAt_size]; exact Nat.le_refl _, fun j _ hj => iterAt_other w k j s pos (fun e => hj (by rw [e]))⟩
theorem grown_below {w w' : World} (h : Below w.heap.size w w') : w.grownBy w' none := ⟨h.os, h.tape, h.output, h.size, fun k hk _ => h.block k hk⟩
/-- How much an iterator has left. -/
def leftAt (k : Nat) (w : World) : Nat := match w.heap[k]? with
  | some (.stringIter s p) => s.size - p
  | _ => 0
theorem leftAt_eq {k : Nat} {w : World} {s : ByteArray} {p : Nat} (h : w.heap[k]? = some (.stringIter s p)) : leftAt k w = s.size - p := by unfold leftAt; rw [h]
theorem cell_of_box {w : World} {box : Nat} {v : Value} {t : TypeId} {fz : Nat × Nat} (h : w.heap[box]? = some (.cells #[v] t fz)) : w.cell? ⟨box, 0, none⟩ = some v := by rw [Lib.cell_of_heap h]; rfl
set_option maxRecDepth 100000 in
set_option maxHeartbeats 3200000 in
theorem runes1_gives (n : Nat) (hn : 1 ≤ n) (box : Nat) (s : ByteArray) (_ : s.size ≤ 9223372036854775807) (w0 : World) (hT : Tabs w0) (w : World) (hw : Below w0.heap.size w0 w) (fz : Nat × Nat) (hbox : w.heap[box]? = some (.cells #[.string s] 9 fz)) :
    Gives Fence.wide n Tryz.prog 84 #[.pointer (some ⟨box, 0, none⟩)] pairV (KpR box w0.heap.size) (idxC 0 (chunks (L s))) w := by
  intro l J Jx W hW hJ hJx hY h0
  have hboxW : W.heap[box]? = some (.cells #[.string s] 9 fz) := (hW.block box (Array.getElem?_eq_some_iff.1 hbox).1).trans hbox
  have hbW := Lib.hid (hw.trans (hW.mono hw.size))
  have hcell := cell_of_box hboxW
  have Hbox := Lib.hid hboxW
  have HY := Lib.hid hY
  have HJ := Lib.hid hJ
  have H0 := Lib.hid h0
  have HT := Lib.hid hT
  clear hbox hboxW hY hJ hJx h0 hW hw hT
  refine callsIn_of_wp Tryz.func84 rfl trivial ?_ rfl
  simp only [Tryz.ntmps84, List.size_toArray, List.length_cons, List.length_nil, Nat.reduceAdd, Nat.reduceSub, Array.replicate_succ, Array.replicate_zero, List.push_toArray, List.append_toArray, List.nil_append, List.cons_append]
  gi_wp2
  gi_loopw [3] (fun _ wr => ∃ (pre rest : List (Int × List UInt8)), chunks (L s) = pre ++ rest ∧ rest = chunks ((L s).drop (joinC pre).length) ∧ wr.heap[W.heap.size]? = some (.stringIter s (joinC pre).length) ∧ Below w0.heap.size w0 wr ∧ wr.heap[box]? = some (.cells #[.string s] 9 fz) ∧ J (idxC 0 pre) wr) (fun _ wr => leftAt W.heap.size wr)
  case atStart =>
    refine ⟨[], chunks (L s), rfl, rfl, heap_alloc_new W (.stringIter s 0), (show Below w0.heap.size w0 (W.alloc (.stringIter s 0)) from hbW.out.alloc hbW.out.size _), ?_, ?_⟩
    · exact (Below.heap_alloc W (.stringIter s 0) box (Array.getElem?_eq_some_iff.1 Hbox.out).1).trans Hbox.out
    · exact HJ.out _ _ _ _ H0.out (World.grownBy_alloc W (.stringIter s 0) none) (fun r e => by cases e)
  case round =>
    obtain ⟨pre, rest, hc, hrest, hit, hbw, hbox, hj⟩ := hrel
    by_cases hlt : (joinC pre).length < s.size
    · have hne := drop_ne s _ hlt
      obtain ⟨x, hx⟩ : ∃ x, readL ((L s).drop (joinC pre).length) = x := ⟨_, rfl⟩
      have hdec := dec_read s _ hlt
      have hch := chunks_cons (l := (L s).drop (joinC pre).length) hne
      rw [hx] at hch
      have hpos := readL_pos (l := (L s).drop (joinC pre).length) hne
      have hle := readL_le (l := (L s).drop (joinC pre).length) hne
      rw [hx] at hpos hle
      rw [List.length_drop, length_L] at hle
      have hrr := rune_le s (joinC pre).length
      have hnext := fun ty => run_next_any_at (P := Tryz.prog) wr _ s _ ty hit hlt
      obtain ⟨d, hd⟩ : ∃ d, Utf8.decode s (joinC pre).length = d := ⟨_, rfl⟩
      rw [show s.data.toList.drop (joinC pre).length = (L s).drop (joinC pre).length from rfl, hx, hd] at hdec
      rw [hd] at hnext hrr
      obtain ⟨R, K⟩ := d
      simp only at hnext hrr
      have hK : x.2 = K := by rw [hdec, fixR_snd]
      obtain ⟨p, hp⟩ : ∃ p, (joinC pre).length = p := ⟨_, rfl⟩
      rw [hp] at hlt hne hx hch hle hnext hit hrest
      have hnewc : chunks (L s) = (pre ++ [(x.1, ((L s).drop p).take x.2)]) ++ chunks ((L s).drop (p + x.2)) := by
        rw [hc, hrest, hch, List.drop_drop, List.append_assoc]; rfl
      have hnewl : (joinC (pre ++ [(x.1, ((L s).drop p).take x.2)])).length = p + x.2 := by
        rw [joinC_append, List.length_append, hp]
        show p + (((L s).drop p).take x.2 ++ []).length = _
        rw [List.append_nil, List.length_take, List.length_drop, length_L]; omega
      have hidx : idxC 0 (pre ++ [(x.1, ((L s).drop p).take x.2)]) = idxC 0 pre ++ [(p, x.1)] := by
        rw [idxC_append, hp, Nat.zero_add]; rfl
      have hpre : idxC 0 pre ++ [(p, x.1)] <+: idxC 0 (chunks (L s)) := by
        rw [hnewc, idxC_append, hidx]; exact List.prefix_append _ _
      have hji : J (idxC 0 pre) (wr.iterAt W.heap.size s (p + K)) := HJ.out _ _ _ _ hj (grown_iterAt wr _ s _) (fun r e => by cases e; exact ⟨Nat.le_refl _, _, hit, rfl⟩)
      have hbi : Below w0.heap.size w0 (wr.iterAt W.heap.size s (p + K)) := below_iterAt hbw (hbW.out.size) s _
      have hboxne : box ≠ W.heap.size := by
        intro e
        rw [e, hit] at hbox; cases hbox
      have hboxi : (wr.iterAt W.heap.size s (p + K)).heap[box]? = some (.cells #[.string s] 9 fz) := (iterAt_other wr _ _ s _ hboxne).trans hbox
      have hiti : (wr.iterAt W.heap.size s (p + K)).heap[W.heap.size]? = some (.stringIter s (p + K)) := iterAt_heap wr _ s _ _ hit
      have hci := cell_of_box hboxi
      generalize wr.iterAt W.heap.size s (p + K) = wi at hnext hji hbi hboxi hiti hci
      have hp2 : (p : Int) ≤ (s.size : Int) := by omega
      have Hnewc := Lib.hid hnewc
      have Hnewl := Lib.hid hnewl
      have Hidx := Lib.hid hidx
      have Hiti := Lib.hid hiti
      have Hbi := Lib.hid hbi
      have Hboxi := Lib.hid hboxi
      have Hx := Lib.hid hx
      have HK := Lib.hid hK
      have hYx := HY.out _ (p, x.1) wi hji hpre
      have Hpre := Lib.hid hpre
      have Hji := Lib.hid hji
      have Hp := Lib.hid hp
      have Hrest := Lib.hid hrest
      have Hlt := Lib.hid hlt
      have Hit := Lib.hid hit
      clear hnewc hnewl hidx hiti hbi hboxi hx hK hpre hji hc hp hch hne hle hj hit hbw hbox hrest
      by_cases h1 : R = 65533
      · subst h1
        have e1 : (((65533 : Nat) : Int) == 65533) = true := rfl
        have hlo := Lib.hid (utf_Rune (s.extract p s.size) wi (HT.out.below Hbi.out))
        rw [show L (s.extract p s.size) = (L s).drop p by rw [extract_to_end, L_B], Hx.out] at hlo
        unfold ReadV at hlo
        have HP := Lib.hid hpos
        clear hdec hpos hlt hrr hYx
        gi_wp2_with fail
        refine ⟨trivial, ?_⟩
        refine (callsIn_wide.2 hlo.out).mono ?_
        rintro e w2 ⟨rfl, hb2⟩
        have Hb2 := Lib.hid hb2
        have hj2 := HJ.out _ _ _ _ Hji.out (grown_below hb2) (fun r e => by cases e)
        obtain ⟨fn, tmps, assign, body, hy, hRd⟩ := HY.out _ (p, x.1) w2 hj2 Hpre.out
        dsimp only [pairV] at hy
        clear hb2 hj2
        gi_wp2
        have Hiti2 := Lib.hid ((Hb2.out.block _ (Array.getElem?_eq_some_iff.1 Hiti.out).1).trans Hiti.out)
        have Hboxi2 := Lib.hid ((Hb2.out.block _ (Array.getElem?_eq_some_iff.1 Hboxi.out).1).trans Hboxi.out)
        refine hRd.mono ?_
        rintro e W3 (⟨rfl, hJ3, hk3⟩ | ⟨rfl, hJx3⟩)
        · gi_wp2
          go_roundw
          case rel => exact ⟨_, _, Hnewc.out, by rw [Hnewl.out], by rw [Hnewl.out, HK.out]; exact hk3.1.same _ _ Hiti2.out rfl, (Hbi.out.trans (Hb2.out.mono Hbi.out.size)).trans hk3.2.1, hk3.2.2.trans Hboxi2.out, by rw [Hidx.out]; exact hJ3⟩
          case measure =>
            rw [leftAt_eq (hk3.1.same _ _ Hiti2.out rfl), leftAt_eq Hit.out]
            have := HP.out; have := HK.out; have := Hlt.out
            omega
        · gi_wp2
          refine bodyPost_ret (results_none rfl _ _ _) rfl ?_
          exact ⟨⟨_, rfl⟩, .inr ⟨_, Hpre.out, hJx3⟩⟩
      · have hx1 : x.1 = (R : Int) := by rw [hdec, fixR_no (by omega)]
        have e1 : ((R : Int) == 65533) = false := by rw [beq_eq_false_iff_ne]; omega
        have hR1 : (R : Int) ≤ 1114111 := by omega
        rw [hx1] at hYx
        unfold pairV at hYx
        obtain ⟨fn, tmps, assign, body, hy, hRd⟩ := hYx
        dsimp only at hy
        have HX1 := Lib.hid hx1
        have HP := Lib.hid hpos
        clear hdec hx1 h1 hpos hlt hrr
        gi_wp2
        refine hRd.mono ?_
        rintro e W3 (⟨rfl, hJ3, hk3⟩ | ⟨rfl, hJx3⟩)
        · gi_wp2
          go_roundw
          case rel => exact ⟨_, _, Hnewc.out, by rw [Hnewl.out], by rw [Hnewl.out, HK.out]; exact hk3.1.same _ _ Hiti.out rfl, Hbi.out.trans hk3.2.1, hk3.2.2.trans Hboxi.out, by rw [Hidx.out, HX1.out]; exact hJ3⟩
          case measure =>
            rw [leftAt_eq (hk3.1.same _ _ Hiti.out rfl), leftAt_eq Hit.out]
            have := HP.out; have := HK.out; have := Hlt.out
            omega
        · gi_wp2
          refine bodyPost_ret (results_none rfl _ _ _) rfl ?_
          exact ⟨⟨_, rfl⟩, .inr ⟨_, by rw [← HX1.out]; exact Hpre.out, hJx3⟩⟩
    · have hnext := fun ty => run_next_end_at (P := Tryz.prog) wr _ s _ ty hit hlt
      have hrn : rest = [] := by
        rw [hrest, List.drop_eq_nil_of_le (by rw [length_L]; omega), chunks_nil]
      have Hj := Lib.hid hj
      have Hc := Lib.hid hc
      have Hrn := Lib.hid hrn
      clear hc hrest hit hbw hbox hj hlt hrn
      gi_wp2
      go_end0
      exact ⟨⟨_, rfl⟩, .inl (by rw [Hc.out, Hrn.out, List.append_nil]; exact Hj.out)⟩
end Go.Proofs.YtlfhgmclnapmjaaGreatDoor
namespace Go.Proofs.YtlfhgmclnapmjaaGreatDoor
open Go.RowKit Go.Utf Go.Lib Go.Shelf
attribute [local go_sem] Oper.semAt_some

/-- What a round leaves as it was: what lay below n₀; of the blocks X all but rows of e's. -/
def KpK (X : Nat → Prop) (e : TypeId) (n₀ : Nat) (W W' : World) : Prop := Below n₀ W W' ∧ ∀ k o, X k → W.heap[k]? = some o → (∀ c fz, o ≠ .cells c e fz) → W'.heap[k]? = some o
theorem kpk_t {X : Nat → Prop} {e : TypeId} {n₀ : Nat} {A B C : World} (h : KpK X e n₀ A B) (k : KpK X e n₀ B C) : KpK X e n₀ A C := ⟨h.1.trans k.1, fun i o hi ho hc => k.2 i o hi (h.2 i o hi ho hc) hc⟩
theorem kpk_b {X : Nat → Prop} {e : TypeId} {n₀ : Nat} {w : World} (hn : n₀ ≤ w.heap.size) (hX : ¬ X (w.heap.size + 1)) (W : World) (o o' : Obj) (h : W.heap[w.heap.size + 1]? = some o) (hc : o.isCells = false) (hw : o.isWalk = false) : KpK X e n₀ W (W.putObj (w.heap.size + 1) o') :=
  ⟨belowK_b hn W _ o o' (Nat.le_succ _) h hc hw, fun k u hk hu _ => (World.putObj_heap_other (by rintro rfl; exact hX hk)).trans hu⟩
theorem kpk_box {X : Nat → Prop} {e : TypeId} {n₀ : Nat} {W W' : World} (h : KpK X e n₀ W W') {b : Nat} (hb : X b) {c : Array Value} {t : TypeId} {fz : Nat × Nat} (ht : t ≠ e) (hc : W.heap[b]? = some (.cells c t fz)) : W'.heap[b]? = some (.cells c t fz) :=
  h.2 b _ hb hc (fun c' fz' e' => by simp only [Obj.cells.injEq] at e'; exact ht e'.2.1)
theorem kpk_below {X : Nat → Prop} {e : TypeId} {n₀ : Nat} {W W' : World} (hn : n₀ ≤ W.heap.size) (h : Below W.heap.size W W') : KpK X e n₀ W W' := ⟨h.mono hn, fun k _ _ hk _ => (h.block k (Array.getElem?_eq_some_iff.1 hk).1).trans hk⟩
set_option maxRecDepth 100000 in
set_option maxHeartbeats 3200000 in
theorem runes2_gives (n : Nat) (hn : 1 ≤ n) (box : Nat) (s : ByteArray) (_ : s.size ≤ 9223372036854775807) (w0 : World) (hT : Tabs w0) (w : World) (hw : Below w0.heap.size w0 w) (fz : Nat × Nat) (hbox : w.heap[box]? = some (.cells #[.string s] 9 fz)) (X : Nat → Prop) (e : TypeId) (hXb : X box) (hXA : ∀ k, w.heap.size + 2 ≤ k → X k) (he : 9 ≠ e) :
    Gives2 e Fence.wide n Tryz.prog 84 #[.pointer (some ⟨box, 0, none⟩)] pairV (KpK X e w0.heap.size) (idxC 0 (chunks (L s))) w := by
  intro l J Jx W hW hWz hJ hJx hY h0
  have HXA := Lib.hid hXA
  have HXb := Lib.hid hXb
  have hXit := Lib.hid (hXA W.heap.size hWz)
  clear hXA hXb
  have hboxW : W.heap[box]? = some (.cells #[.string s] 9 fz) := (hW.block box (Array.getElem?_eq_some_iff.1 hbox).1).trans hbox
  have hbW := Lib.hid (hw.trans (hW.mono hw.size))
  have hcell := cell_of_box hboxW
  have Hbox := Lib.hid hboxW
  have HY := Lib.hid hY
  have HJ := Lib.hid hJ
  have H0 := Lib.hid h0
  have HT := Lib.hid hT
  clear hbox hboxW hY hJ hJx h0 hW hw hT
  refine callsIn_of_wp Tryz.func84 rfl trivial ?_ rfl
  simp only [Tryz.ntmps84, List.size_toArray, List.length_cons, List.length_nil, Nat.reduceAdd, Nat.reduceSub, Array.replicate_succ, Array.replicate_zero, List.push_toArray, List.append_toArray, List.nil_append, List.cons_append]
  gi_wp2
  gi_loopw [3] (fun _ wr => ∃ (pre rest : List (Int × List UInt8)), chunks (L s) = pre ++ rest ∧ rest = chunks ((L s).drop (joinC pre).length) ∧ wr.heap[W.heap.size]? = some (.stringIter s (joinC pre).length) ∧ Below w0.heap.size w0 wr ∧ wr.heap[box]? = some (.cells #[.string s] 9 fz) ∧ J (idxC 0 pre) wr) (fun _ wr => leftAt W.heap.size wr)
  case atStart =>
    refine ⟨[], chunks (L s), rfl, rfl, heap_alloc_new W (.stringIter s 0), (show Below w0.heap.size w0 (W.alloc (.stringIter s 0)) from hbW.out.alloc hbW.out.size _), ?_, ?_⟩
    · exact (Below.heap_alloc W (.stringIter s 0) box (Array.getElem?_eq_some_iff.1 Hbox.out).1).trans Hbox.out
    · exact HJ.out _ _ _ _ H0.out (World.grownBy_alloc W (.stringIter s 0) none) (fun r e => by cases e)
  case round =>
    obtain ⟨pre, rest, hc, hrest, hit, hbw, hbox, hj⟩ := hrel
    by_cases hlt : (joinC pre).length < s.size
    · have hne := drop_ne s _ hlt
      obtain ⟨x, hx⟩ : ∃ x, readL ((L s).drop (joinC pre).length) = x := ⟨_, rfl⟩
      have hdec := dec_read s _ hlt
      have hch := chunks_cons (l := (L s).drop (joinC pre).length) hne
      rw [hx] at hch
      have hpos := readL_pos (l := (L s).drop (joinC pre).length) hne
      have hle := readL_le (l := (L s).drop (joinC pre).length) hne
      rw [hx] at hpos hle
      rw [List.length_drop, length_L] at hle
      have hrr := rune_le s (joinC pre).length
      have hnext := fun ty => run_next_any_at (P := Tryz.prog) wr _ s _ ty hit hlt
      obtain ⟨d, hd⟩ : ∃ d, Utf8.decode s (joinC pre).length = d := ⟨_, rfl⟩
      rw [show s.data.toList.drop (joinC pre).length = (L s).drop (joinC pre).length from rfl, hx, hd] at hdec
      rw [hd] at hnext hrr
      obtain ⟨R, K⟩ := d
      simp only at hnext hrr
      have hK : x.2 = K := by rw [hdec, fixR_snd]
      obtain ⟨p, hp⟩ : ∃ p, (joinC pre).length = p := ⟨_, rfl⟩
      rw [hp] at hlt hne hx hch hle hnext hit hrest
      have hnewc : chunks (L s) = (pre ++ [(x.1, ((L s).drop p).take x.2)]) ++ chunks ((L s).drop (p + x.2)) := by
        rw [hc, hrest, hch, List.drop_drop, List.append_assoc]; rfl
      have hnewl : (joinC (pre ++ [(x.1, ((L s).drop p).take x.2)])).length = p + x.2 := by
        rw [joinC_append, List.length_append, hp]
        show p + (((L s).drop p).take x.2 ++ []).length = _
        rw [List.append_nil, List.length_take, List.length_drop, length_L]; omega
      have hidx : idxC 0 (pre ++ [(x.1, ((L s).drop p).take x.2)]) = idxC 0 pre ++ [(p, x.1)] := by
        rw [idxC_append, hp, Nat.zero_add]; rfl
      have hpre : idxC 0 pre ++ [(p, x.1)] <+: idxC 0 (chunks (L s)) := by
        rw [hnewc, idxC_append, hidx]; exact List.prefix_append _ _
      have hji : J (idxC 0 pre) (wr.iterAt W.heap.size s (p + K)) := HJ.out _ _ _ _ hj (grown_iterAt wr _ s _) (fun r e => by cases e; exact ⟨Nat.le_refl _, _, hit, fun _ _ h => by cases h⟩)
      have hbi : Below w0.heap.size w0 (wr.iterAt W.heap.size s (p + K)) := below_iterAt hbw (hbW.out.size) s _
      have hboxne : box ≠ W.heap.size := by
        intro e
        rw [e, hit] at hbox; cases hbox
      have hboxi : (wr.iterAt W.heap.size s (p + K)).heap[box]? = some (.cells #[.string s] 9 fz) := (iterAt_other wr _ _ s _ hboxne).trans hbox
      have hiti : (wr.iterAt W.heap.size s (p + K)).heap[W.heap.size]? = some (.stringIter s (p + K)) := iterAt_heap wr _ s _ _ hit
      have hci := cell_of_box hboxi
      generalize wr.iterAt W.heap.size s (p + K) = wi at hnext hji hbi hboxi hiti hci
      have hp2 : (p : Int) ≤ (s.size : Int) := by omega
      have Hnewc := Lib.hid hnewc
      have Hnewl := Lib.hid hnewl
      have Hidx := Lib.hid hidx
      have Hiti := Lib.hid hiti
      have Hbi := Lib.hid hbi
      have Hboxi := Lib.hid hboxi
      have Hx := Lib.hid hx
      have HK := Lib.hid hK
      have hYx := HY.out _ (p, x.1) wi hji hpre
      have Hpre := Lib.hid hpre
      have Hji := Lib.hid hji
      have Hp := Lib.hid hp
      have Hrest := Lib.hid hrest
      have Hlt := Lib.hid hlt
      have Hit := Lib.hid hit
      clear hnewc hnewl hidx hiti hbi hboxi hx hK hpre hji hc hp hch hne hle hj hit hbw hbox hrest
      by_cases h1 : R = 65533
      · subst h1
        have e1 : (((65533 : Nat) : Int) == 65533) = true := rfl
        have hlo := Lib.hid (utf_Rune (s.extract p s.size) wi (HT.out.below Hbi.out))
        rw [show L (s.extract p s.size) = (L s).drop p by rw [extract_to_end, L_B], Hx.out] at hlo
        unfold ReadV at hlo
        have HP := Lib.hid hpos
        clear hdec hpos hlt hrr hYx
        gi_wp2_with fail
        refine ⟨trivial, ?_⟩
        refine (callsIn_wide.2 hlo.out).mono ?_
        rintro e w2 ⟨rfl, hb2⟩
        have Hb2 := Lib.hid hb2
        have hj2 := HJ.out _ _ _ _ Hji.out (grown_below hb2) (fun r e => by cases e)
        obtain ⟨fn, tmps, assign, body, hy, hRd⟩ := HY.out _ (p, x.1) w2 hj2 Hpre.out
        dsimp only [pairV] at hy
        clear hb2 hj2
        gi_wp2
        have Hiti2 := Lib.hid ((Hb2.out.block _ (Array.getElem?_eq_some_iff.1 Hiti.out).1).trans Hiti.out)
        have Hboxi2 := Lib.hid ((Hb2.out.block _ (Array.getElem?_eq_some_iff.1 Hboxi.out).1).trans Hboxi.out)
        refine hRd.mono ?_
        rintro e W3 (⟨rfl, hJ3, hk3⟩ | ⟨rfl, hJx3, _⟩)
        · gi_wp2
          go_roundw
          case rel => exact ⟨_, _, Hnewc.out, by rw [Hnewl.out], by rw [Hnewl.out, HK.out]; exact hk3.2 _ _ hXit.out Hiti2.out (fun _ _ h => by cases h), (Hbi.out.trans (Hb2.out.mono Hbi.out.size)).trans hk3.1, kpk_box hk3 HXb.out he Hboxi2.out, by rw [Hidx.out]; exact hJ3⟩
          case measure =>
            rw [leftAt_eq (hk3.2 _ _ hXit.out Hiti2.out (fun _ _ h => by cases h)), leftAt_eq Hit.out]
            have := HP.out; have := HK.out; have := Hlt.out
            omega
        · gi_wp2
          refine bodyPost_ret (results_none rfl _ _ _) rfl ?_
          exact ⟨⟨_, rfl⟩, .inr ⟨_, Hpre.out, hJx3⟩⟩
      · have hx1 : x.1 = (R : Int) := by rw [hdec, fixR_no (by omega)]
        have e1 : ((R : Int) == 65533) = false := by rw [beq_eq_false_iff_ne]; omega
        have hR1 : (R : Int) ≤ 1114111 := by omega
        rw [hx1] at hYx
        unfold pairV at hYx
        obtain ⟨fn, tmps, assign, body, hy, hRd⟩ := hYx
        dsimp only at hy
        have HX1 := Lib.hid hx1
        have HP := Lib.hid hpos
        clear hdec hx1 h1 hpos hlt hrr
        gi_wp2
        refine hRd.mono ?_
        rintro e W3 (⟨rfl, hJ3, hk3⟩ | ⟨rfl, hJx3, _⟩)
        · gi_wp2
          go_roundw
          case rel => exact ⟨_, _, Hnewc.out, by rw [Hnewl.out], by rw [Hnewl.out, HK.out]; exact hk3.2 _ _ hXit.out Hiti.out (fun _ _ h => by cases h), Hbi.out.trans hk3.1, kpk_box hk3 HXb.out he Hboxi.out, by rw [Hidx.out, HX1.out]; exact hJ3⟩
          case measure =>
            rw [leftAt_eq (hk3.2 _ _ hXit.out Hiti.out (fun _ _ h => by cases h)), leftAt_eq Hit.out]
            have := HP.out; have := HK.out; have := Hlt.out
            omega
        · gi_wp2
          refine bodyPost_ret (results_none rfl _ _ _) rfl ?_
          exact ⟨⟨_, rfl⟩, .inr ⟨_, by rw [← HX1.out]; exact Hpre.out, hJx3⟩⟩
    · have hnext := fun ty => run_next_end_at (P := Tryz.prog) wr _ s _ ty hit hlt
      have hrn : rest = [] := by
        rw [hrest, List.drop_eq_nil_of_le (by rw [length_L]; omega), chunks_nil]
      have Hj := Lib.hid hj
      have Hc := Lib.hid hc
      have Hrn := Lib.hid hrn
      clear hc hrest hit hbw hbox hj hlt hrn
      gi_wp2
      go_end0
      exact ⟨⟨_, rfl⟩, .inl (by rw [Hc.out, Hrn.out, List.append_nil]; exact Hj.out)⟩
end Go.Proofs.YtlfhgmclnapmjaaGreatDoor
