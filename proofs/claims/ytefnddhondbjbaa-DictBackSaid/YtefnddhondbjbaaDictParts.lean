/- dict.parts: the blocks of an index. Conditions: not longer than 2^40 bytes. -/
import Derived.Test.YtefnddhondbjbaaDictEntries
namespace Go.Dic
open Go.Wir
/-- A block as the index has it: its first term, its bytes, how many entries. -/
abbrev Part := List UInt8 × List UInt8 × Nat
end Go.Dic
namespace Go.Proofs.Ytefnddhondbjbaa
open Go.RowKit Go.Wir Go.Dic

/-- The index read: terms, sizes, how many. -/
def idxL : Nat → Nat → Nat → List UInt8 → Option (List (List UInt8 × Nat × Nat) × List UInt8)
  | 0, _, _, s => some ([], s)
  | g + 1, n, i, s => match toTextL s with
    | none => none
    | some (f, r) => match numberL r 1073741824 with
      | none => none
      | some (z, r2) => (idxL g n (i + 16) r2).map (fun x => ((f, z, min 16 (n - i)) :: x.1, x.2))
/-- The bytes parted by the sizes. -/
def splitL : List (List UInt8 × Nat × Nat) → List UInt8 → Option (List Part × List UInt8)
  | [], s => some ([], s)
  | (f, z, m) :: l, s => if z ≤ s.length then (splitL l (s.drop z)).map (fun x => ((f, s.take z, m) :: x.1, x.2)) else none
def partsL (s : List UInt8) : Option (List Part × List UInt8) := match numberL s 1048576 with
  | none => none
  | some (n, r) => match idxL ((n + 15) / 16) n 0 r with
    | none => none
    | some (l, r2) => splitL l r2
def partCells (l : List Part) : List Value := l.flatMap fun p => [.string (B p.1), .string (B p.2.1), .int .i64 (p.2.2 : Nat)]
def rawCells (l : List (List UInt8 × Nat × Nat)) : List Value := l.flatMap fun p => [.string (B p.1), .string ⟨#[]⟩, .int .i64 (p.2.2 : Nat)]
/-- A slice of blocks. -/
def Parts (w : World) (v : Value) (ps : List Part) : Prop :=
  (∃ a cap, v = .slice a 0 cap ∧ ps = []) ∨ ∃ b off cap, v = .slice (some ⟨b, off, none⟩) ps.length cap ∧ ps.length ≤ cap ∧ b < w.heap.size ∧
    ∀ i (h : i < ps.length), w.cell? ⟨b, off + i * 3, none⟩ = some (.string (B ps[i].1)) ∧ w.cell? ⟨b, off + i * 3 + 1, none⟩ = some (.string (B ps[i].2.1)) ∧ w.cell? ⟨b, off + i * 3 + 2, none⟩ = some (.int .i64 (ps[i].2.2 : Nat))
def PartsPost (R : Option (List Part × List UInt8)) (e : Ending) (w' : World) : Prop := match R with
  | some x => ∃ v, e = .returned (.agg #[v, .string (B x.2), .bool true]) ∧ Parts w' v x.1
  | none => ∃ a n c t, e = .returned (.agg #[.slice a n c, .string t, .bool false])

theorem partCells_length (l : List Part) : (partCells l).length = l.length * 3 := by
  unfold partCells
  induction l with
  | nil => rfl
  | cons e l ih => simp only [List.flatMap_cons, List.length_append, ih, List.length_cons, List.length_nil]; omega
theorem partCells_get (es : List Part) (i : Nat) (h : i < es.length) : (partCells es)[i * 3]? = some (.string (B es[i].1)) ∧ (partCells es)[i * 3 + 1]? = some (.string (B es[i].2.1)) ∧ (partCells es)[i * 3 + 2]? = some (.int .i64 (es[i].2.2 : Nat)) := by
  unfold partCells
  induction es generalizing i with
  | nil => simp at h
  | cons e es ih =>
    cases i with
    | zero => simp
    | succ i =>
      have := ih i (by simpa using h)
      simp only [List.flatMap_cons, List.getElem_cons_succ]
      rw [show (i + 1) * 3 = i * 3 + 3 by omega]
      simpa using this
theorem parts_of_own {w : World} {base : Nat} {v : Value} {es : List Part} (h : w.ownsRow base 70 3 v es.length (partCells es)) : Parts w v es := by
  rcases h.2 with ⟨rfl, h0⟩ | ⟨g, cap, cur, rfl, hg, hh, h1, h2, h3, h4⟩
  · exact .inl ⟨none, 0, rfl, List.length_eq_zero_iff.1 h0⟩
  · refine .inr ⟨g, 0, cap, rfl, h1, ?_, fun i hi => ?_⟩
    · rcases Nat.lt_or_ge g w.heap.size with h' | h'
      · exact h'
      · simp [Array.getElem?_eq_none h'] at hh
    · obtain ⟨e1, e2, e3⟩ := partCells_get es i hi
      have k1 : cur[i * 3]? = (partCells es)[i * 3]? := by rw [← h4, List.getElem?_take, if_pos (by omega), Array.getElem?_toList]
      have k2 : cur[i * 3 + 1]? = (partCells es)[i * 3 + 1]? := by rw [← h4, List.getElem?_take, if_pos (by omega), Array.getElem?_toList]
      have k3 : cur[i * 3 + 2]? = (partCells es)[i * 3 + 2]? := by rw [← h4, List.getElem?_take, if_pos (by omega), Array.getElem?_toList]
      refine ⟨?_, ?_, ?_⟩
      · rw [Lib.cell_of_heap hh, Nat.zero_add, k1, e1]
      · rw [Lib.cell_of_heap hh, Nat.zero_add, k2, e2]
      · rw [Lib.cell_of_heap hh, Nat.zero_add, k3, e3]
theorem some_text {q : List UInt8} (h : (toTextL q).isSome = true) : toTextL q = some (textG (B q), textR (B q)) := by
  cases h' : toTextL q with
  | none => rw [h'] at h; cases h
  | some x =>
    have e : toTextL (L (B q)) = some x := h'
    unfold textG textR
    rw [e]; rfl
theorem some_number {q : List UInt8} {m : Nat} (h : (numberL q m).isSome = true) : numberL q m = some (numG (B q) m, numR (B q) m) := by
  cases h' : numberL q m with
  | none => rw [h'] at h; cases h
  | some x =>
    have e : numberL (L (B q)) m = some x := h'
    unfold numG numR
    rw [e]; rfl
theorem idxL_ok (g n i : Nat) (q : List UInt8) (h1 : (toTextL q).isSome = true) (h2 : (numberL (textR (B q)) 1073741824).isSome = true) :
    idxL (g + 1) n i q = (idxL g n (i + 16) (numR (B (textR (B q))) 1073741824)).map (fun x => ((textG (B q), numG (B (textR (B q))) 1073741824, min 16 (n - i)) :: x.1, x.2)) := by
  simp only [idxL]
  rw [some_text h1]
  simp only
  rw [some_number h2]
theorem idxL_bad (g n i : Nat) (q : List UInt8) (h : ((toTextL q).isSome && (numberL (textR (B q)) 1073741824).isSome) = false) : idxL (g + 1) n i q = none := by
  simp only [idxL]
  cases h1 : toTextL q with
  | none => rfl
  | some x =>
    obtain ⟨f, r⟩ := x
    have e : textR (B q) = r := by
      have e : toTextL (L (B q)) = some (f, r) := h1
      unfold textR; rw [e]; rfl
    rw [h1, e] at h
    simp only
    cases h2 : numberL r 1073741824 with
    | none => rfl
    | some y => rw [h2] at h; cases h
theorem cell3_new (w : World) (b : Nat) (hb : b = w.heap.size) (x y z : Value) (t : TypeId) : ∀ (j : Nat) u, [x, y, z][j]? = some u → (w.alloc (.cells #[x, y, z] t)).cell? ((⟨b, 0, none⟩ : Addr).add j) = some u := by
  subst hb
  intro j u hu
  have hh := heap_alloc_new w (.cells #[x, y, z] t)
  match j, hu with
  | 0, hu => simp at hu; subst hu; rw [show ((⟨w.heap.size, 0, none⟩ : Addr).add 0) = ⟨w.heap.size, 0, none⟩ from rfl, Lib.cell_of_heap hh]; rfl
  | 1, hu => simp at hu; subst hu; rw [show ((⟨w.heap.size, 0, none⟩ : Addr).add 1) = ⟨w.heap.size, 1, none⟩ from rfl, Lib.cell_of_heap hh]; rfl
  | 2, hu => simp at hu; subst hu; rw [show ((⟨w.heap.size, 0, none⟩ : Addr).add 2) = ⟨w.heap.size, 2, none⟩ from rfl, Lib.cell_of_heap hh]; rfl
  | j + 3, hu => simp at hu
theorem Try.info_part : (Try.prog.info? 70).map (fun i => (i.zero, i.size, i.bytes)) = some (some (.agg #[.string ⟨#[]⟩, .string ⟨#[]⟩, .int .i64 0]), 3, 40) := by kernel_rfl
theorem Try.info_int : (Try.prog.info? 3).map (fun i => (i.zero, i.size, i.bytes)) = some (some (.int .i64 0), 1, 8) := by kernel_rfl
theorem own_sep {w : World} {b1 b2 : Nat} {e1 e2 : TypeId} {s1 s2 : Nat} {v1 v2 : Value} {n1 n2 : Nat} {x1 x2 : List Value} (h1 : w.ownsRow b1 e1 s1 v1 n1 x1) (h2 : w.ownsRow b2 e2 s2 v2 n2 x2) (hne : e1 ≠ e2) : v1.ownBlock = none ∨ v1.ownBlock ≠ v2.ownBlock := by
  rcases h1.2 with ⟨rfl, _⟩ | ⟨g1, c1, cur1, rfl, _, hh1, _⟩
  · exact .inl rfl
  · refine .inr (fun e => ?_)
    rcases h2.2 with ⟨rfl, _⟩ | ⟨g2, c2, cur2, rfl, _, hh2, _⟩
    · cases e
    · simp only [Value.ownBlock, Option.some.injEq] at e
      subst e
      rw [hh1] at hh2
      simp only [Option.some.injEq, Obj.cells.injEq] at hh2
      exact hne hh2.2.1
theorem cell1_new (w : World) (b : Nat) (hb : b = w.heap.size) (x : Value) (t : TypeId) : ∀ (j : Nat) u, [x][j]? = some u → (w.alloc (.cells #[x] t)).cell? ((⟨b, 0, none⟩ : Addr).add j) = some u := by
  subst hb
  intro j u hu
  have hh := heap_alloc_new w (.cells #[x] t)
  match j, hu with
  | 0, hu => simp at hu; subst hu; rw [show ((⟨w.heap.size, 0, none⟩ : Addr).add 0) = ⟨w.heap.size, 0, none⟩ from rfl, Lib.cell_of_heap hh]; rfl
  | j + 1, hu => simp at hu
def sizeCells (l : List (List UInt8 × Nat × Nat)) : List Value := l.map fun p => .int .i64 (p.2.1 : Nat)

set_option maxRecDepth 100000 in
set_option maxHeartbeats 1600000 in
theorem dict_parts (s : ByteArray) (hs : s.size ≤ 549755813888) (w : World) :
    Calls Try.prog 33 #[.string s] w fun e w' => Below w.heap.size w w' ∧ PartsPost (partsL (L s)) e w' := by
  have Hc := Lib.hid (dict_number s 1048576 (by omega) (by omega))
  have hn := numG_le s 1048576
  have hr := numR_le s 1048576
  have Hparts : Hid (idxL ((numG s 1048576 + 15) / 16) (numG s 1048576) 0 (numR s 1048576) = none → partsL (L s) = none) := Lib.hid (fun h => by
    unfold partsL
    cases h' : numberL (L s) 1048576 with
    | none => rfl
    | some x =>
      obtain ⟨a, b⟩ := x
      rw [show numG s 1048576 = a by unfold numG; rw [h']; rfl, show numR s 1048576 = b by unfold numR; rw [h']; rfl] at h
      simp only
      rw [h])
  have Hparts2 : Hid (∀ l x, idxL ((numG s 1048576 + 15) / 16) (numG s 1048576) 0 (numR s 1048576) = some (l, x) → splitL l x = none → partsL (L s) = none) := Lib.hid (fun l x h h2 => by
    unfold partsL
    cases h' : numberL (L s) 1048576 with
    | none => rfl
    | some x =>
      obtain ⟨a, b⟩ := x
      rw [show numG s 1048576 = a by unfold numG; rw [h']; rfl, show numR s 1048576 = b by unfold numR; rw [h']; rfl] at h
      simp only
      rw [h]; exact h2)
  have Hparts3 : Hid (∀ l x, (numberL (L s) 1048576).isSome = true → idxL ((numG s 1048576 + 15) / 16) (numG s 1048576) 0 (numR s 1048576) = some (l, x) → partsL (L s) = splitL l x) := Lib.hid (fun l x h1 h => by
    unfold partsL
    cases h' : numberL (L s) 1048576 with
    | none => rw [h'] at h1; cases h1
    | some x =>
      obtain ⟨a, b⟩ := x
      rw [show numG s 1048576 = a by unfold numG; rw [h']; rfl, show numR s 1048576 = b by unfold numR; rw [h']; rfl] at h
      simp only
      rw [h])
  have Hparts4 : Hid ((numberL (L s) 1048576).isSome = false → partsL (L s) = none) := Lib.hid (fun h => by
    unfold partsL
    cases h' : numberL (L s) 1048576 with
    | none => rfl
    | some x => rw [h'] at h; cases h)
  generalize hb : (numberL (L s) 1048576).isSome = ok at *
  generalize hN : numG s 1048576 = n at *
  generalize hR : numR s 1048576 = r at *
  have Hb := Lib.hid hb
  have HN := Lib.hid hN
  have HR := Lib.hid hR
  clear hb hN hR
  go_enter Try.func33, Try.ntmps33
  go_wp2_with fail
  refine (Hc.out _).mono ?_
  rintro e w1 ⟨rfl, hb1⟩
  have hw1 := hb1.size
  simp at hw1
  have g0 : w1.heap[w.heap.size]? = some (.cells #[.slice none 0 0, .string ⟨#[]⟩, .bool false] 75 (0, 0)) := (hb1.block w.heap.size (by simp)).trans (heap_alloc_new w _)
  have g0 := (heap_alloc_old w1 (.cells #[.int .i64 (n : Nat), .string (B r), .bool ok] 94) (show w.heap.size < w1.heap.size by omega)).trans g0
  have g1 := heap_alloc_new w1 (.cells #[.int .i64 (n : Nat), .string (B r), .bool ok] 94)
  have hbw := step_new (below_new hb1) (.cells #[.int .i64 (n : Nat), .string (B r), .bool ok] 94)
  have hsz : (w1.alloc (.cells #[.int .i64 (n : Nat), .string (B r), .bool ok] 94)).heap.size = w1.heap.size + 1 := by simp
  clear hb1
  go_wp2
  generalize (w1.alloc (.cells #[.int .i64 (n : Nat), .string (B r), .bool ok] 94)) = W1 at *
  have Hg0 := Lib.hid g0
  have Hg1 := Lib.hid g1
  have Hbw := Lib.hid hbw
  have Hsz := Lib.hid hsz
  have Hw1 := Lib.hid hw1
  clear g0 g1 hbw hsz hw1
  obtain ⟨i0, hi, hz0, hz1, hz2⟩ := info_parts Try.info_part
  obtain ⟨i1, hj, hy0, hy1, hy2⟩ := info_parts Try.info_int
  go_loopw [0, 4, 5, 6] (fun x l z i wr => ∃ (j : Nat) (q : List UInt8) (pre : List (List UInt8 × Nat × Nat)), j ≤ (n + 15) / 16 ∧ i = .int .i64 (16 * j : Nat) ∧ x = .string (B q) ∧ pre.length = j ∧ q.length ≤ s.size ∧
    wr.ownsRow W1.heap.size 70 3 l j (rawCells pre) ∧ wr.ownsRow W1.heap.size 3 1 z j (sizeCells pre) ∧ (∀ p ∈ pre, p.2.1 ≤ 1073741824) ∧ idxL ((n + 15) / 16) n 0 r = (idxL ((n + 15) / 16 - j) n (16 * j) q).map (fun y => (pre ++ y.1, y.2)) ∧ Below W1.heap.size W1 wr) (fun _ _ _ i _ => n - (intOf i).toNat)
  case atStart =>
    refine ⟨0, r, [], by omega, rfl, rfl, rfl, hr, World.ownsRow_nil _ _ _ _, World.ownsRow_nil _ _ _ _, by simp, ?_, Below.refl _ _⟩
    simp
  case round =>
    obtain ⟨j, q, pre, hjG, rfl, rfl, hpl, hql, hown, hown2, hpz, hrun, hbel⟩ := hrel
    have hq := size_B q
    have hcn : wr.cell? ⟨w1.heap.size, 0, none⟩ = some (.int .i64 (n : Nat)) := by
      rw [hbel.cell (p := ⟨w1.heap.size, 0, none⟩) (by have := Hsz.out; show w1.heap.size < _; omega), Lib.cell_of_heap Hg1.out]; rfl
    by_cases hlt : 16 * j < n
    · obtain ⟨g, hg⟩ : ∃ g, (n + 15) / 16 - j = g + 1 := ⟨(n + 15) / 16 - j - 1, by omega⟩
      rw [hg] at hrun
      have Hrun := Lib.hid hrun
      have Hown := Lib.hid hown
      have Hown2 := Lib.hid hown2
      have Hpz := Lib.hid hpz
      have Hbel := Lib.hid hbel
      have HcT := Lib.hid (dict_text (B q) (by omega))
      have htl := (textG_le (B q)).2
      have htg := (textG_le (B q)).1
      rw [show L (B q) = q from rfl] at HcT
      have HcN := Lib.hid (dict_number (B (textR (B q))) 1073741824 (by rw [size_B]; omega) (by omega))
      have hnm := numG_le (B (textR (B q))) 1073741824
      have hnl := numR_le (B (textR (B q))) 1073741824
      rw [size_B] at hnl
      rw [show L (B (textR (B q))) = textR (B q) from rfl] at HcN
      have Hok := Lib.hid (idxL_ok g n (16 * j) q)
      have Hbad := Lib.hid (idxL_bad g n (16 * j) q)
      have hmin : min (16 : Int) ((n : Int) - 16 * (j : Int)) = ((min 16 (n - 16 * j) : Nat) : Int) := by omega
      have hm16 : min 16 (n - 16 * j) ≤ 16 := by omega
      generalize min 16 (n - 16 * j) = mm at *
      clear hrun hown hown2 hbel hpz
      generalize (toTextL q).isSome = b1 at *
      generalize textG (B q) = f at *
      generalize textR (B q) = r1 at *
      generalize (numberL r1 1073741824).isSome = b2 at *
      generalize numG (B r1) 1073741824 = z at *
      generalize numR (B r1) 1073741824 = r2 at *
      cases hbb : (b1 && b2) with
      | false =>
        have Hr : Hid (partsL (L s) = none) := Lib.hid (Hparts.out (by rw [Hrun.out, Hbad.out hbb]; rfl))
        go_wp2_with fail
        refine (HcT.out _).mono ?_
        rintro e w2 ⟨rfl, hb2⟩
        go_wp2_with fail
        refine (HcN.out _).mono ?_
        rintro e w3 ⟨rfl, hb3⟩
        have hz2w := hb2.size
        have hs3 := hb3.size
        simp at hs3
        have gF := (heap_alloc_old w3 (.cells #[.int .i64 (z : Nat), .string (B r2), .bool b2] 94) (show w2.heap.size < w3.heap.size by omega)).trans ((hb3.block w2.heap.size (by simp)).trans (heap_alloc_new w2 _))
        have gS := heap_alloc_new w3 (.cells #[.int .i64 (z : Nat), .string (B r2), .bool b2] 94)
        have B3 := step_new (step_call hb2 (below_new hb3)) (.cells #[.int .i64 (z : Nat), .string (B r2), .bool b2] 94)
        have hB4 := step_call Hbel.out B3
        have hsz1 := Hsz.out
        have hw2 := Hw1.out
        have Hg2 := Lib.hid ((hB4.block w.heap.size (by omega)).trans Hg0.out)
        have Hb4 := Lib.hid (Hbw.out.trans (hB4.mono (by omega)))
        obtain ⟨x0, x1, x2, _, _, _⟩ := cells3 gF
        obtain ⟨y0, y1, y2, _, _, _⟩ := cells3 gS
        obtain ⟨k0, k1, k2, f0, f1, f2⟩ := cells3 Hg2.out
        clear gF gS B3 hb2 hb3 hcn hB4
        cases b1 with
        | false =>
          go_wp2
          refine bodyPost_ret_by (results_cell_row rfl _ _ w.heap.size _ _ _ _ (by rfl) (set3 _ _ _ Hg2.out) Try.underlying75 rfl (by kernel_rfl)) rfl ⟨?_, by rw [Hr.out]; exact ⟨_, _, _, _, rfl⟩⟩
          exact below_set (below_set (below_set Hb4.out _ _ _ (Nat.le_refl _)) _ _ _ (Nat.le_refl _)) _ _ _ (Nat.le_refl _)
        | true =>
          obtain rfl : b2 = false := by simpa using hbb
          go_wp2
          refine bodyPost_ret_by (results_cell_row rfl _ _ w.heap.size _ _ _ _ (by rfl) (set3 _ _ _ Hg2.out) Try.underlying75 rfl (by kernel_rfl)) rfl ⟨?_, by rw [Hr.out]; exact ⟨_, _, _, _, rfl⟩⟩
          exact below_set (below_set (below_set Hb4.out _ _ _ (Nat.le_refl _)) _ _ _ (Nat.le_refl _)) _ _ _ (Nat.le_refl _)
      | true =>
        obtain ⟨rfl, rfl⟩ : b1 = true ∧ b2 = true := by simpa using hbb
        go_wp2_with fail
        refine (HcT.out _).mono ?_
        rintro e w2 ⟨rfl, hb2⟩
        go_wp2_with fail
        refine (HcN.out _).mono ?_
        rintro e w3 ⟨rfl, hb3⟩
        have hz2w := hb2.size
        have hs3 := hb3.size
        simp at hs3
        have gF := (heap_alloc_old w3 (.cells #[.int .i64 (z : Nat), .string (B r2), .bool true] 94) (show w2.heap.size < w3.heap.size by omega)).trans ((hb3.block w2.heap.size (by simp)).trans (heap_alloc_new w2 _))
        have gS := heap_alloc_new w3 (.cells #[.int .i64 (z : Nat), .string (B r2), .bool true] 94)
        have B3 := step_new (step_call hb2 (below_new hb3)) (.cells #[.int .i64 (z : Nat), .string (B r2), .bool true] 94)
        have hcn' := cell_call B3 hcn
        have hO1 := own_keep Hown.out B3
        have hO2 := own_keep Hown2.out B3
        have hB4 := step_call Hbel.out B3
        obtain ⟨x0, x1, x2, _, _, _⟩ := cells3 gF
        obtain ⟨y0, y1, y2, _, _, _⟩ := cells3 gS
        clear gF gS B3 hb2 hb3 hcn
        have hlw := Lib.hid hO1.lt
        have hO1a := hO1.alloc (.cells #[.string (B f), .string ⟨#[]⟩, .int .i64 (mm : Nat)] 70)
        have hO2a := Lib.hid (hO2.alloc (.cells #[.string (B f), .string ⟨#[]⟩, .int .i64 (mm : Nat)] 70))
        have hB5 := Lib.hid (step_new hB4 (.cells #[.string (B f), .string ⟨#[]⟩, .int .i64 (mm : Nat)] 70))
        have hc0 := Lib.hid (cell3_new (w3.alloc (.cells #[.int .i64 (z : Nat), .string (B r2), .bool true] 94)) (w3.heap.size + 1) (by simp) (.string (B f)) (.string ⟨#[]⟩) (.int .i64 (mm : Nat)) 70)
        have hsw := hB4.size
        simp at hsw
        clear hO1 hO2 hB4
        go_wp2_with (at_builtin; go_must (refine wpList_append_own _ rfl _ _ 67 rfl W1.heap.size 70 i0 (.agg #[.string ⟨#[]⟩, .string ⟨#[]⟩, .int .i64 0]) 3 40 Try.underlying67 hi hz0 hz1 hz2 rfl (by decide) _ _ _ rfl hO1a ⟨w3.heap.size + 1, 0, none⟩ 1 1 [.string (B f), .string ⟨#[]⟩, .int .i64 (mm : Nat)] rfl rfl ?c1 ?c2 ?c3 ?c4 ?c5 ?_))
        case c1 => exact hc0.out
        case c2 => simp [Value.oneCell']
        case c3 => unfold maxLen; omega
        case c4 => omega
        case c5 => simp; omega
        intro v4 w5 hown4 hgrow4 _
        have hy0' : w5.cell? ⟨w3.heap.size, 0, none⟩ = some (.int .i64 (z : Nat)) := by
          have hb0 := hgrow4.block w3.heap.size (by simp; omega) (fun e => by have := (Hown.out.lt _ e.symm).2; omega)
          simp only [World.cell?] at y0 ⊢
          rw [hb0, heap_alloc_old _ _ (show w3.heap.size < _ by simp)]
          exact y0
        have hO2b := hO2a.out.kept hgrow4 (own_sep hO2a.out hO1a (by decide))
        have hb6 := Lib.hid (hB5.out.grown hgrow4 (by simp; omega) (own_ge hO1a))
        have Hown4 := Lib.hid hown4
        have hO2c := hO2b.alloc (.cells #[.int .i64 (z : Nat)] 3)
        have hd0 := Lib.hid (cell1_new w5 w5.heap.size rfl (.int .i64 (z : Nat)) 3)
        have hsw5 := hb6.out.size
        clear hown4 hgrow4 hO2b
        go_wp2_with (at_builtin; go_must (refine wpList_append_own _ rfl _ _ 96 rfl W1.heap.size 3 i1 (.int .i64 0) 1 8 Try.underlying96 hj hy0 hy1 hy2 rfl (by decide) _ _ _ rfl hO2c ⟨w5.heap.size, 0, none⟩ 1 1 [.int .i64 (z : Nat)] rfl rfl ?c1 ?c2 ?c3 ?c4 ?c5 ?_))
        case c1 => exact hd0.out
        case c2 => simp [Value.oneCell']
        case c3 => unfold maxLen; omega
        case c4 => omega
        case c5 => simp; omega
        intro v5 w6 hown5 hgrow5 _
        have hO4a := Hown4.out.alloc (.cells #[.int .i64 (z : Nat)] 3)
        have hO4 := Lib.hid (hO4a.kept hgrow5 (own_sep hO4a hO2c (by decide)))
        have Hb7 := Lib.hid ((step_new hb6.out (.cells #[.int .i64 (z : Nat)] 3)).grown hgrow5 (by simp; omega) (own_ge hO2c))
        have Hown5 := Lib.hid hown5
        clear hown5 hgrow5 hO4a hO2c hO1a
        go_wp2
        go_roundw
        case rel =>
          refine ⟨j + 1, r2, pre ++ [(f, z, mm)], by omega, by go_num, rfl, by simp [hpl], by omega, ?_, ?_, ?_, ?_, Hb7.out⟩
          · rw [show rawCells (pre ++ [(f, z, mm)]) = rawCells pre ++ [.string (B f), .string ⟨#[]⟩, .int .i64 (mm : Nat)] by simp [rawCells]]
            exact hO4.out
          · rw [show sizeCells (pre ++ [(f, z, mm)]) = sizeCells pre ++ [.int .i64 (z : Nat)] by simp [sizeCells]]
            exact Hown5.out
          · intro p hp
            rcases List.mem_append.1 hp with hp | hp
            · exact Hpz.out p hp
            · simp at hp; subst hp; exact hnm
          · rw [Hrun.out, Hok.out (by simp) (by simp), show (n + 15) / 16 - (j + 1) = g by omega, show 16 * (j + 1) = 16 * j + 16 by omega]
            cases idxL g n (16 * j + 16) r2 with
            | none => rfl
            | some z => simp
        case measure => simp [intOf]; omega
    · have hpz' := Lib.hid hpz
      have HownP := Lib.hid hown
      have HownZ := Lib.hid hown2
      have Hrun : Hid (idxL ((n + 15) / 16) n 0 r = some (pre, q)) := Lib.hid (by
        rw [hrun, show (n + 15) / 16 - j = 0 by omega]
        simp [idxL])
      have Hbel := Lib.hid hbel
      have hsh4 : ∃ a4 c4, u4 = .slice a4 j c4 := by
        rcases hown.2 with ⟨rfl, rfl⟩ | ⟨g, cap, cur, rfl, _⟩
        · exact ⟨none, 0, rfl⟩
        · exact ⟨_, _, rfl⟩
      have hsh5 : ∃ a5 c5, u5 = .slice a5 j c5 := by
        rcases hown2.2 with ⟨rfl, rfl⟩ | ⟨g, cap, cur, rfl, _⟩
        · exact ⟨none, 0, rfl⟩
        · exact ⟨_, _, rfl⟩
      obtain ⟨a4, c4, rfl⟩ := hsh4
      obtain ⟨a5, c5, rfl⟩ := hsh5
      clear hrun hown hown2 hpz hbel
      rename World => wo
      go_wp2
      rw [show ((16 * j : Nat) : Int) = 16 * (j : Int) by omega, decide_eq_false (show ¬ 16 * (j : Int) < (n : Int) by omega)]
      go_loopw [0, 55] (fun x i wi => ∃ (k : Nat) (q2 : List UInt8) (done : List Part), k ≤ j ∧ i = .int .i64 k ∧ x = .string (B q2) ∧ done.length = k ∧ q2.length ≤ q.length ∧
        wi.ownsRow W1.heap.size 70 3 (.slice a4 j c4) j (partCells done ++ rawCells (pre.drop k)) ∧ wi.ownsRow W1.heap.size 3 1 (.slice a5 j c5) j (sizeCells pre) ∧ splitL pre q = (splitL (pre.drop k) q2).map (fun y => (done ++ y.1, y.2)) ∧ Below W1.heap.size W1 wi) (fun _ i _ => j - (intOf i).toNat)
      case atStart =>
        refine ⟨0, q, [], by omega, rfl, rfl, rfl, Nat.le_refl _, HownP.out, HownZ.out, ?_, Hbel.out⟩
        simp
      case round =>
        obtain ⟨k, q2, done, hk, rfl, rfl, hdl, hq2, hown, hown2, hrun, hbel⟩ := hrel
        have hsz1 := Hsz.out
        have hw2 := Hw1.out
        have Hg2 := Lib.hid ((hbel.block w.heap.size (by omega)).trans Hg0.out)
        have Hb4 := Lib.hid (Hbw.out.trans (hbel.mono (by omega)))
        have Hgn := Lib.hid ((hbel.block w1.heap.size (by omega)).trans Hg1.out)
        have hq2s := size_B q2
        by_cases hlt : k < j
        · obtain ⟨g4, rfl⟩ : ∃ g4, a4 = some ⟨g4, 0, none⟩ := by
            rcases hown.2 with ⟨h, h0⟩ | ⟨g, cap, cur, h, _⟩
            · omega
            · simp only [Value.slice.injEq] at h; exact ⟨g, h.1⟩
          obtain ⟨g5, rfl⟩ : ∃ g5, a5 = some ⟨g5, 0, none⟩ := by
            rcases hown2.2 with ⟨h, h0⟩ | ⟨g, cap, cur, h, _⟩
            · omega
            · simp only [Value.slice.injEq] at h; exact ⟨g, h.1⟩
          have hkp : k < pre.length := by omega
          have hcz := hown2.cellAt k (by omega)
          rw [show (sizeCells pre)[k]? = some (.int .i64 (pre[k].2.1 : Nat)) by simp [sizeCells, hkp]] at hcz
          have hzb := hpz'.out pre[k] (List.getElem_mem hkp)
          have Hd := Lib.hid (List.drop_eq_getElem_cons hkp)
          generalize pre[k] = p at *
          obtain ⟨f, z, mm⟩ := p
          simp only at hcz hzb
          have hc4 := hown.cellAt (k * 3 + 1) (by omega)
          have hf4 := hown.frozenAt (k * 3 + 1)
          have hpc : (partCells done).length = k * 3 := by rw [← hdl]; exact partCells_length done
          rw [Hd.out, List.getElem?_append_right (by omega), hpc, show k * 3 + 1 - k * 3 = 1 by omega, show (rawCells ((f, z, mm) :: pre.drop (k + 1)))[1]? = some (.string ⟨#[]⟩) from rfl] at hc4
          have hle4 : k * 3 + 1 < j * 3 := by omega
          have Hst := Lib.hid (hown.stored (k * 3 + 1) (.string ((B q2).extract 0 z)))
          have Hg4 := Lib.hid (hown.lt g4 rfl).1
          have hsep := Lib.hid (own_sep hown2 hown (by decide))
          have Hown2 := Lib.hid hown2
          have Hrun2 := Lib.hid hrun
          have Hbel2 := Lib.hid hbel
          rw [Hd.out] at Hrun2
          simp only [splitL] at Hrun2
          clear hown hown2 hrun hbel
          by_cases hbig : q2.length < z
          · have Hnone : Hid (splitL pre q = none) := Lib.hid (by rw [Hrun2.out, if_neg (by omega)]; rfl)
            have Hr : Hid (partsL (L s) = none) := Lib.hid (Hparts2.out _ _ Hrun.out Hnone.out)
            obtain ⟨k0, k1, k2, f0, f1, f2⟩ := cells3 Hg2.out
            go_wp2
            refine bodyPost_ret_by (results_cell_row rfl _ _ w.heap.size _ _ _ _ (by rfl) (set3 _ _ _ Hg2.out) Try.underlying75 rfl (by kernel_rfl)) rfl ⟨?_, by rw [Hr.out]; exact ⟨_, _, _, _, rfl⟩⟩
            exact below_set (below_set (below_set Hb4.out _ _ _ (Nat.le_refl _)) _ _ _ (Nat.le_refl _)) _ _ _ (Nat.le_refl _)
          · have hzq : (z : Int) ≤ ((B q2).size : Int) := by omega
            go_wp2
            go_region
            go_wp2
            go_roundw
            case rel =>
              refine ⟨k + 1, q2.drop z, done ++ [(f, q2.take z, mm)], by omega, by go_num, ?_, by simp [hdl], by rw [List.length_drop]; omega, ?_, ?_, ?_, ?_⟩
              · first | rfl | (apply val_str; rw [← size_B q2, extract_to_end]; rfl)
              · have := Hst.out.1
                rw [Hd.out] at this
                rw [show partCells (done ++ [(f, q2.take z, mm)]) ++ rawCells (pre.drop (k + 1)) = (partCells done ++ rawCells ((f, z, mm) :: pre.drop (k + 1))).set (k * 3 + 1) (.string (B (q2.take z))) by
                  rw [List.set_append_right _ _ (by omega), hpc, show k * 3 + 1 - k * 3 = 1 by omega]
                  simp [partCells, rawCells]]
                rw [show B (q2.take z) = (B q2).extract 0 z by rw [extract_take]; rfl]
                exact World.ownsRow.drew this
              · exact World.ownsRow.drew (Hown2.out.kept Hst.out.2 hsep.out)
              · rw [Hrun2.out, if_pos (by omega)]
                cases splitL (pre.drop (k + 1)) (q2.drop z) with
                | none => rfl
                | some y => simp
              · exact below_to_drew (below_set Hbel2.out _ _ _ Hg4.out)
            case measure => simp [intOf]; omega
        · obtain rfl : k = j := by omega
          have Hown := Lib.hid hown
          have Hsp : Hid (splitL pre q = some (done, q2)) := Lib.hid (by rw [hrun, List.drop_of_length_le (by omega)]; simp [splitL])
          obtain ⟨k0, k1, k2, f0, f1, f2⟩ := cells3 Hg2.out
          obtain ⟨n0, n1, n2, _, _, _⟩ := cells3 Hgn.out
          clear hown hown2 hrun hbel
          go_wp2
          refine bodyPost_ret_by (results_cell_row rfl _ _ w.heap.size _ _ _ _ (by rfl) (set3 _ _ _ Hg2.out) Try.underlying75 rfl (by kernel_rfl)) rfl ⟨?_, ?_⟩
          · exact below_set (below_set (below_set Hb4.out _ _ _ (Nat.le_refl _)) _ _ _ (Nat.le_refl _)) _ _ _ (Nat.le_refl _)
          · cases ok with
            | false =>
              rw [Hparts4.out rfl]
              exact ⟨_, _, _, _, rfl⟩
            | true =>
              rw [Hparts3.out _ _ rfl Hrun.out, Hsp.out]
              refine ⟨_, rfl, parts_of_own (base := W1.heap.size) ?_⟩
              have h := own_set (own_set (own_set Hown.out w.heap.size 0 (.slice a4 k c4) (by omega)) w.heap.size 1 (.string (B q2)) (by omega)) w.heap.size 2 (.bool true) (by omega)
              rw [List.drop_of_length_le (show pre.length ≤ k by omega), show partCells done ++ rawCells [] = partCells done by simp [rawCells]] at h
              rw [hdl]
              exact h
end Go.Proofs.Ytefnddhondbjbaa
