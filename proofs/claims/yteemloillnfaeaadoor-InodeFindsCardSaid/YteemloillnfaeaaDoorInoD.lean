/- Chapter 8: extents that a call owns, and slices.SortFunc of them by where they begin. Conditions: the extents are a device's; the slice is a row of the call's own. -/
import Derived.Test.YteemloillnfaeaaDoorInoOwn
import Derived.Test.YteemloillnfaeaaDoorInoSortLay
import Derived.Sort.OwnSorted
import Derived.Lib.OwnBridge
namespace Go.Proofs.YteemloillnfaeaaDoor
open Go.RowKit Go.Ino Go.Shelf Go.Sort

/-- Extents of a device, for the library's sort. -/
abbrev SE := {x : Ext // smallE x}
instance : Inhabited SE := ⟨⟨(0, 0), by unfold smallE; simp⟩⟩
def encSE (x : SE) : List Value := [.int .i64 x.1.1, .int .i64 x.1.2]
def cfSE (x y : SE) : Int := x.1.1 - y.1.1
theorem ltSE (x y : SE) : ltOf cfSE x y = decide (x.1.1 < y.1.1) := by
  unfold ltOf cfSE
  rw [Bool.eq_iff_iff, decide_eq_true_eq, decide_eq_true_eq]; omega
theorem swoSE : SWO (ltOf cfSE) where
  irrefl x := by rw [ltSE]; simp
  trans x y z h1 h2 := by rw [ltSE] at *; simp at *; omega
  ntrans x y z h1 h2 := by rw [ltSE] at *; simp at *; omega
set_option maxHeartbeats 1000000 in
theorem closureSE (x y : SE) (W : World) : Calls Tryd.prog 41 #[.agg #[.int .i64 x.1.1, .int .i64 x.1.2], .agg #[.int .i64 y.1.1, .int .i64 y.1.2]] W fun e w' => e = .returned (.int .i64 (cfSE x y)) ∧ ∃ q os', w' = grow (W.drewN q) os' := by
  obtain ⟨⟨x1, x2⟩, hx⟩ := x
  obtain ⟨⟨y1, y2⟩, hy⟩ := y
  unfold smallE at hx hy
  unfold cfSE
  simp only at hx hy ⊢
  obtain ⟨a1, a2, _, _⟩ := hx
  obtain ⟨b1, b2, _, _⟩ := hy
  go_enter Tryd.func41, Tryd.ntmps41
  go_wp2
  go_ret
  exact ⟨rfl, 0, _, by rw [alloc_eq_grow, alloc_eq_grow, grow_grow]; rfl⟩
theorem cmpSE (blk off size : Nat) (w : World) : CmpLays Tryd.prog 41 #[] encSE 2 cfSE blk off size w :=
  fun _ _ _ _ x y => closureSE x y _
theorem lift_list {xs : List Ext} (hs : ∀ x ∈ xs, smallE x) : ∃ d : List SE, d.map Subtype.val = xs := by
  induction xs with
  | nil => exact ⟨[], rfl⟩
  | cons x xs ih =>
    obtain ⟨d, hd⟩ := ih fun y hy => hs y (by simp [hy])
    exact ⟨⟨x, hs x (by simp)⟩ :: d, by simp [hd]⟩
theorem grownBy_sortedK {w : World} {g n : Nat} {os : Array Obj} (d : Array SE) : w.grownBy (sortWorldK encSE 2 w g 0 n d os) (some g) := by
  unfold sortWorldK putRowK
  refine ⟨rfl, rfl, rfl, by simp, fun k hk hne => ?_⟩
  rw [heap_grow_old _ _ (by simpa using hk)]
  have : g ≠ k := fun e => hne (by rw [e])
  simp [putRow, mapBlock, Sort.ahead, Array.getElem?_modify, this]
theorem exts_sort {w : World} {base : Nat} {v : Value} {xs : List Ext} (hs : ∀ x ∈ xs, smallE x) (h : w.ownsRow base 46 2 v xs.length (extCells xs)) (hl : xs.length < 4611686018427387904) (h0 : v ≠ .slice none 0 0) (K : Nat) (hK : K ≤ base) (hw : K ≤ w.heap.size) :
    Calls Tryd.prog 40 #[v, .func (.func 41) #[] #[]] w fun e w' => e = .returned (.tuple #[]) ∧ Below K w w' ∧ ∃ ys, ys.Perm xs ∧ (ys.Pairwise fun a b => a.1 ≤ b.1) ∧ Exts w' v ys := by
  rcases h.2 with ⟨h1, _⟩ | ⟨g, cap, cur, rfl, hg, hh, h1, h2, h3, h4⟩
  · exact absurd h1 h0
  have hgl := (h.lt g rfl).2
  obtain ⟨d, hd⟩ := lift_list hs
  have hdl : d.length = xs.length := by rw [← hd, List.length_map]
  have hH : HoldsK encSE 2 w g 0 d.toArray := by
    intro j hj
    rw [size_flatK, List.size_toArray] at hj
    refine ⟨?_, Lib.frozen_of_heap hh _⟩
    rw [Lib.cell_of_heap hh, Nat.zero_add, get_flatK _ _ _ _ (by rw [List.size_toArray]; exact hj)]
    have e1 : cur.toList[j]? = (extCells xs)[j]? := by rw [← h4, List.getElem?_take, if_pos (by omega)]
    rw [← Array.getElem?_toList, e1]
    have hi : j / 2 < xs.length := by omega
    have hdi : (d.toArray[j / 2]! : SE).1 = xs[j / 2] := by
      have h5 : j / 2 < d.length := by omega
      have : (d.toArray[j / 2]! : SE) = d[j / 2] := by simp [h5]
      rw [this]
      have h6 : (d.map Subtype.val)[j / 2]'(by simpa using h5) = xs[j / 2] := by simp only [hd]
      simpa using h6
    obtain ⟨k1, k2⟩ := extCells_get xs (j / 2) hi
    rcases Nat.mod_two_eq_zero_or_one j with hm | hm
    · rw [hm, show j = j / 2 * 2 by omega, show j / 2 * 2 / 2 = j / 2 by omega, k1, ← hdi]; rfl
    · rw [hm, show j = j / 2 * 2 + 1 by omega, show (j / 2 * 2 + 1) / 2 = j / 2 by omega, k2, ← hdi]; rfl
  have hc := AnyQ.slices_SortFunc srtren_6 2 Tryd.isAgg46 Tryd.sizeOf46 encSE (fun _ => rfl) (fun x v hv => by simp [encSE] at hv; rcases hv with rfl | rfl <;> rfl) cfSE swoSE 41 #[] g 0 cap d.toArray w
    (enters_of Tryd.func41 (by kernel_rfl) rfl) (cmpSE g 0 _ w) hH hgl (by rw [List.size_toArray]; omega)
  rw [List.size_toArray, hdl] at hc
  refine hc.mono ?_
  rintro e w' ⟨rfl, d', n, os, hp, hsrt, rfl⟩
  have hsz : d'.size = d.length := by have := hp.1; simpa using this
  refine ⟨rfl, (Below.refl K w).grown (grownBy_sortedK _) hw (fun j hj => by cases hj; omega), d'.toList.map Subtype.val, ?_, ?_, ?_⟩
  · have := hp.2.2
    rw [← hd]
    refine List.Perm.map _ ?_
    have e1 : d'.extract 0 xs.length = d' := by rw [Array.extract_eq_self_of_le (by omega)]
    have e2 : d.toArray.extract 0 xs.length = d.toArray := by rw [Array.extract_eq_self_of_le (by simp; omega)]
    rw [e1, e2] at this
    exact this
  · rw [List.pairwise_map, List.pairwise_iff_getElem]
    intro i j hi hj hij
    have hi' : i < d'.size := by simpa using hi
    have hj' : j < d'.size := by simpa using hj
    have := hsrt i j (Nat.zero_le _) hij (by omega)
    rw [ltSE, getElem!_pos d' i hi', getElem!_pos d' j hj'] at this
    simp only [decide_eq_false_iff_not] at this
    simp only [Array.getElem_toList]
    omega
  · have hP : HoldsK encSE 2 (sortWorldK encSE 2 w g 0 n d' os) g 0 d' :=
      holdsK_grow _ _ _ _ _ _ _ (by unfold putRowK putRow; simpa [mapBlock, Sort.ahead] using hgl) (holdsK_putRowK _ _ _ _ _ d.toArray _ (holdsK_ahead _ _ _ _ _ _ _ hH) (by simpa using hsz))
    refine ⟨some ⟨g, 0, none⟩, cap, by simp; omega, fun h => (by cases h), fun i hi => ?_⟩
    have hi' : i < d'.size := by simpa using hi
    obtain ⟨k1, _⟩ := hP.cell (i := i) (c := 0) hi' (by omega)
    obtain ⟨k2, _⟩ := hP.cell (i := i) (c := 1) hi' (by omega)
    rw [getElem!_pos d' i hi'] at k1 k2
    refine ⟨g, 0, rfl, lt_of_cell k1, ?_, ?_⟩
    · simpa [encSE] using k1
    · simpa [encSE] using k2
theorem insertion_none (w : World) : Calls Tryd.prog 82 #[.slice none 0 0, .int .i64 0, .int .i64 0, .func (.func 41) #[] #[]] w fun e w' => e = .returned (.tuple #[]) ∧ w = w' := by
  go_enter Tryd.func82, Tryd.ntmps82
  go_wp2
  refine wp_loop_rounds 1 ?_
  rw [rounds_succ]
  go_wp2
  go_end0
  exact ⟨rfl, rfl⟩
theorem pdq_none (w : World) : Calls Tryd.prog 66 #[.slice none 0 0, .int .i64 0, .int .i64 0, .int .i64 0, .func (.func 41) #[] #[]] w fun e w' => e = .returned (.tuple #[]) ∧ w = w' := by
  go_enter Tryd.func66, Tryd.ntmps66
  go_wp2
  refine wp_loop_rounds 1 ?_
  rw [rounds_succ]
  go_wp2_with fail
  refine (insertion_none _).mono ?_
  rintro e w' ⟨rfl, rfl⟩
  go_wp2
  exact bodyPost_ret (v := .tuple #[]) (by simp [results, Tryd.f66, go_sem]) rfl ⟨rfl, rfl⟩
theorem sort_none (w : World) : Calls Tryd.prog 40 #[.slice none 0 0, .func (.func 41) #[] #[]] w fun e w' => e = .returned (.tuple #[]) ∧ w = w' := by
  have hl : Calls Tryd.prog 67 #[.int .u64 0] w fun e w' => e = .returned (.int .i64 0) ∧ w' = w := by
    have h := Any.bits_Len (SlLaysF0.n15.bits (P := Tryd.prog) (ρ := srtren) { srtren_6 with }) 0 w (by omega) (by omega)
    exact h
  go_enter Tryd.func40, Tryd.ntmps40
  go_wp2_with fail
  refine hl.mono ?_
  rintro e w' ⟨rfl, rfl⟩
  go_wp2_with fail
  refine (pdq_none _).mono ?_
  rintro e w' ⟨rfl, rfl⟩
  go_wp2
  go_end0
  exact ⟨rfl, rfl⟩
/-- slices.SortFunc by where extents begin, at whatever row of the call's own. -/
theorem exts_sort_any {w : World} {base : Nat} {v : Value} {xs : List Ext} (hs : ∀ x ∈ xs, smallE x) (h : w.ownsRow base 46 2 v xs.length (extCells xs)) (hl : xs.length < 4611686018427387904) (K : Nat) (hK : K ≤ base) (hw : K ≤ w.heap.size) :
    Calls Tryd.prog 40 #[v, .func (.func 41) #[] #[]] w fun e w' => e = .returned (.tuple #[]) ∧ Below K w w' ∧ ∃ ys, ys.Perm xs ∧ (ys.Pairwise fun a b => a.1 ≤ b.1) ∧ Exts w' v ys := by
  by_cases hv : v = .slice none 0 0
  · subst hv
    have h0 : xs = [] := by
      rcases h.2 with ⟨_, h0⟩ | ⟨g, cap, cur, h0, _⟩
      · exact List.eq_nil_of_length_eq_zero h0
      · cases h0
    subst h0
    refine (sort_none w).mono ?_
    rintro e w' ⟨rfl, rfl⟩
    exact ⟨rfl, Below.refl _ _, [], List.Perm.refl _, List.Pairwise.nil, Exts.nil _⟩
  · exact exts_sort hs h hl hv K hK hw
end Go.Proofs.YteemloillnfaeaaDoor
