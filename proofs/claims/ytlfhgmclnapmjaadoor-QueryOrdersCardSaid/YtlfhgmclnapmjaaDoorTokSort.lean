/- slices.Sort and slices.Compact of a []string: the shelf's contracts, laid at this seat's numbers, in plain words. Condition: the slice is a row of the call's own. -/
import Derived.Test.YtlfhgmclnapmjaaDoorTokRows
import Derived.Shelf.Slices.CompactS
import Derived.Shelf.Slices.In.SortNone
import Derived.Shelf.Sort.Plain
import Derived.Sort.OwnSorted
import Derived.Sort.Grow
import Derived.Lib.OwnBridge
namespace Go.Proofs.YtlfhgmclnapmjaaDoor
open Go.RowKit Go.Shelf Go.Sort

def StrRen : Go.Shelf.Ren := ⟨fun | 125 => 73 | 128 => 97 | 129 => 98 | 190 => 45 | 194 => 46 | 258 => 72 | 302 => 88 | 303 => 89 | 304 => 90 | 305 => 91 | 306 => 92 | 307 => 93 | 308 => 94 | 309 => 95 | 310 => 96 | 329 => 106 | 330 => 107 | 333 => 105 | 334 => 108 | 335 => 109 | 336 => 110 | 344 => 113 | n => n, fun | 0 => 0 | 3 => 3 | 4 => 4 | 5 => 5 | 9 => 9 | 31 => 41 | 46 => 88 | 51 => 105 | 53 => 107 | 131 => 102 | 182 => 97 | 183 => 98 | 218 => 116 | 222 => 120 | 228 => 127 | 229 => 38 | n => n, fun  | n => n⟩
theorem StrRen_190 : Go.Proofs.Lays.n190 Tryd.prog StrRen := {
  mixed := by kernel_rfl
  f125 := Tryd.func73.trans (congrArg some (by kernel_rfl))
  f128 := Tryd.func97.trans (congrArg some (by kernel_rfl))
  f129 := Tryd.func98.trans (congrArg some (by kernel_rfl))
  f190 := Tryd.func45.trans (congrArg some (by kernel_rfl))
  f258 := Tryd.func72.trans (congrArg some (by kernel_rfl))
  f302 := Tryd.func88.trans (congrArg some (by kernel_rfl))
  f303 := Tryd.func89.trans (congrArg some (by kernel_rfl))
  f304 := Tryd.func90.trans (congrArg some (by kernel_rfl))
  f305 := Tryd.func91.trans (congrArg some (by kernel_rfl))
  f306 := Tryd.func92.trans (congrArg some (by kernel_rfl))
  f307 := Tryd.func93.trans (congrArg some (by kernel_rfl))
  f308 := Tryd.func94.trans (congrArg some (by kernel_rfl))
  f309 := Tryd.func95.trans (congrArg some (by kernel_rfl))
  f310 := Tryd.func96.trans (congrArg some (by kernel_rfl))
  f329 := Tryd.func106.trans (congrArg some (by kernel_rfl))
  f330 := Tryd.func107.trans (congrArg some (by kernel_rfl))
  f333 := Tryd.func105.trans (congrArg some (by kernel_rfl))
  f334 := Tryd.func108.trans (congrArg some (by kernel_rfl))
  f335 := Tryd.func109.trans (congrArg some (by kernel_rfl))
  f336 := Tryd.func110.trans (congrArg some (by kernel_rfl))
  f344 := Tryd.func113.trans (congrArg some (by kernel_rfl))
  t0 := Tryd.underlying0
  a0 := Tryd.isAgg0
  z0 := Tryd.sizeOf0
  v0 := Tryd.zeroValue0
  t3 := Tryd.underlying3
  a3 := Tryd.isAgg3
  z3 := Tryd.sizeOf3
  v3 := Tryd.zeroValue3
  t4 := Tryd.underlying4
  a4 := Tryd.isAgg4
  z4 := Tryd.sizeOf4
  v4 := Tryd.zeroValue4
  t5 := Tryd.underlying5
  a5 := Tryd.isAgg5
  z5 := Tryd.sizeOf5
  v5 := Tryd.zeroValue5
  t9 := Tryd.underlying9
  a9 := Tryd.isAgg9
  z9 := Tryd.sizeOf9
  v9 := Tryd.zeroValue9
  t31 := Tryd.underlying41
  a31 := Tryd.isAgg41
  z31 := Tryd.sizeOf41
  v31 := Tryd.zeroValue41
  t46 := Tryd.underlying88
  a46 := Tryd.isAgg88
  z46 := Tryd.sizeOf88
  v46 := Tryd.zeroValue88
  t51 := Tryd.underlying105
  a51 := Tryd.isAgg105
  z51 := Tryd.sizeOf105
  v51 := Tryd.zeroValue105
  t53 := Tryd.underlying107
  a53 := Tryd.isAgg107
  z53 := Tryd.sizeOf107
  v53 := Tryd.zeroValue107
  t131 := Tryd.underlying102
  a131 := Tryd.isAgg102
  z131 := Tryd.sizeOf102
  v131 := Tryd.zeroValue102
  t182 := Tryd.underlying97
  a182 := Tryd.isAgg97
  z182 := Tryd.sizeOf97
  v182 := Tryd.zeroValue97
  t183 := Tryd.underlying98
  a183 := Tryd.isAgg98
  z183 := Tryd.sizeOf98
  v183 := Tryd.zeroValue98
  t218 := Tryd.underlying116
  a218 := Tryd.isAgg116
  z218 := Tryd.sizeOf116
  v218 := Tryd.zeroValue116
  t222 := Tryd.underlying120
  a222 := Tryd.isAgg120
  z222 := Tryd.sizeOf120
  v222 := Tryd.zeroValue120
  t228 := Tryd.underlying127
  a228 := Tryd.isAgg127
  z228 := Tryd.sizeOf127
  v228 := Tryd.zeroValue127
  t229 := Tryd.underlying38
  a229 := Tryd.isAgg38
  z229 := Tryd.sizeOf38
  v229 := Tryd.zeroValue38 }
theorem StrRen_194 : Go.Proofs.Lays.n194 Tryd.prog StrRen := {
  mixed := by kernel_rfl
  f194 := Tryd.func46.trans (congrArg some (by kernel_rfl))
  t0 := Tryd.underlying0
  a0 := Tryd.isAgg0
  z0 := Tryd.sizeOf0
  v0 := Tryd.zeroValue0
  t3 := Tryd.underlying3
  a3 := Tryd.isAgg3
  z3 := Tryd.sizeOf3
  v3 := Tryd.zeroValue3
  t4 := Tryd.underlying4
  a4 := Tryd.isAgg4
  z4 := Tryd.sizeOf4
  v4 := Tryd.zeroValue4
  t9 := Tryd.underlying9
  a9 := Tryd.isAgg9
  z9 := Tryd.sizeOf9
  v9 := Tryd.zeroValue9
  t31 := Tryd.underlying41
  a31 := Tryd.isAgg41
  z31 := Tryd.sizeOf41
  v31 := Tryd.zeroValue41 }

theorem str_sort {w : World} {base : Nat} {v : Value} {zs : List (List UInt8)} (h : w.ownsRow base 9 1 v zs.length (txtCells zs)) (hz : zs.length < 4611686018427387904) (K : Nat) (hK : K ≤ base) (hw : K ≤ w.heap.size) :
    Calls Tryd.prog 45 #[v] w fun e w' => e = .returned (.tuple #[]) ∧ w'.ownsRow base 9 1 v zs.length (txtCells (zs.mergeSort fun x y => decide (x ≤ y))) ∧ Below K w w' := by
  by_cases hv : v = .slice none 0 0
  · subst hv
    have hz0 : zs.length = 0 := by
      rcases h.2 with ⟨_, h0⟩ | ⟨g, cap, cur, h0, _⟩
      · exact h0
      · cases h0
    have hzn := List.eq_nil_of_length_eq_zero hz0
    subst hzn
    refine (Any.slices_Sort_string_none StrRen_190 none 0 w).mono ?_
    rintro e w' ⟨rfl, rfl⟩
    exact ⟨rfl, by simpa using h, Below.refl _ _⟩
  · have h' : w.ownsRow base 9 1 v zs.length (zs.map encStr) := h
    obtain ⟨g, cap, rfl, hbg, hgl, hncap, hcm, _, hH⟩ := Lib.holds_of_ownsRow h' hv
    refine (Any.slices_Sort_string StrRen_190 g 0 cap zs w hH hgl hz).mono ?_
    rintro e w' ⟨rfl, nn, os, rfl⟩
    rcases h'.2 with ⟨h0, _⟩ | ⟨g', cap', cur, hv', hbase, hb, h1, h2, h3, h4⟩
    · cases h0
    cases hv'
    exact ⟨rfl, ownsRow_sorted (n := nn) (os := os) (List.length_mergeSort zs) hbase hb h1 h2 h3, (Below.refl K w).grown (grownBy_sorted _) hw (fun j hj => by cases hj; omega)⟩
theorem str_compact {w : World} {base : Nat} {v : Value} {zs : List (List UInt8)} (h : w.ownsRow base 9 1 v zs.length (txtCells zs)) (hz : zs.length < 4611686018427387904) (K : Nat) (hK : K ≤ base) :
    Calls Tryd.prog 46 #[v] w fun e w' => ∃ v', e = .returned v' ∧ w'.ownsRow base 9 1 v' (Lib.compact zs).length (txtCells (Lib.compact zs)) ∧ Below K w w' := by
  by_cases hv : v = .slice none 0 0
  · subst hv
    have hz0 : zs.length = 0 := by
      rcases h.2 with ⟨_, h0⟩ | ⟨g, cap, cur, h0, _⟩
      · exact h0
      · cases h0
    have hzn := List.eq_nil_of_length_eq_zero hz0
    subst hzn
    refine (Any.slices_Compact_string_empty StrRen_194 none 0 w).mono ?_
    rintro e w' ⟨rfl, rfl⟩
    exact ⟨_, rfl, h, Below.refl _ _⟩
  · have h' : w.ownsRow base 9 1 v zs.length (zs.map encStr) := h
    obtain ⟨g, cap, rfl, hbg, hgl, hncap, hcm, _, hH⟩ := Lib.holds_of_ownsRow h' hv
    refine (Any.slices_Compact_string StrRen_194 g 0 cap zs w hH (by omega) hncap).mono ?_
    rintro e w' ⟨rfl, q, rfl⟩
    have hle := Lib.compact_length_le zs
    have hc := Lib.ownsRow_putRow (q := q) (k := (Lib.compact zs).length) (ys := Lib.compact zs ++ List.replicate (zs.length - (Lib.compact zs).length) []) h' (by simp; omega) (by omega)
    rw [List.take_left] at hc
    exact ⟨_, rfl, hc, Lib.below_putRow (Below.refl K w) (by omega)⟩
end Go.Proofs.YtlfhgmclnapmjaaDoor
