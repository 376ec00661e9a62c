/- slices.Sort and slices.Compact of a []string: the shelf's contracts, laid at this seat's numbers, in plain words. Condition: the slice is a row of the call's own. -/
import Derived.Test.YtpibflpmhhgbkaaDoorTokRows
import Derived.Shelf.Slices.CompactS
import Derived.Shelf.Slices.In.SortNone
import Derived.Shelf.Sort.Plain
import Derived.Sort.OwnSorted
import Derived.Sort.Grow
import Derived.Lib.OwnBridge
namespace Go.Proofs.YtpibflpmhhgbkaaDoor
open Go.RowKit Go.Shelf Go.Sort

def StrRen : Go.Shelf.Ren := ⟨fun | 125 => 40 | 128 => 58 | 129 => 59 | 190 => 23 | 194 => 24 | 258 => 39 | 302 => 49 | 303 => 50 | 304 => 51 | 305 => 52 | 306 => 53 | 307 => 54 | 308 => 55 | 309 => 56 | 310 => 57 | 329 => 64 | 330 => 65 | 333 => 63 | 334 => 66 | 335 => 67 | 336 => 68 | 344 => 70 | n => n, fun | 0 => 0 | 3 => 3 | 4 => 4 | 5 => 5 | 9 => 9 | 31 => 27 | 46 => 64 | 51 => 81 | 53 => 83 | 131 => 78 | 182 => 74 | 183 => 75 | 218 => 88 | 222 => 92 | 228 => 94 | 229 => 60 | n => n, fun  | n => n⟩
theorem StrRen_190 : Go.Proofs.Lays.n190 Tryd.prog StrRen := {
  mixed := by kernel_rfl
  f125 := Tryd.func40.trans (congrArg some (by kernel_rfl))
  f128 := Tryd.func58.trans (congrArg some (by kernel_rfl))
  f129 := Tryd.func59.trans (congrArg some (by kernel_rfl))
  f190 := Tryd.func23.trans (congrArg some (by kernel_rfl))
  f258 := Tryd.func39.trans (congrArg some (by kernel_rfl))
  f302 := Tryd.func49.trans (congrArg some (by kernel_rfl))
  f303 := Tryd.func50.trans (congrArg some (by kernel_rfl))
  f304 := Tryd.func51.trans (congrArg some (by kernel_rfl))
  f305 := Tryd.func52.trans (congrArg some (by kernel_rfl))
  f306 := Tryd.func53.trans (congrArg some (by kernel_rfl))
  f307 := Tryd.func54.trans (congrArg some (by kernel_rfl))
  f308 := Tryd.func55.trans (congrArg some (by kernel_rfl))
  f309 := Tryd.func56.trans (congrArg some (by kernel_rfl))
  f310 := Tryd.func57.trans (congrArg some (by kernel_rfl))
  f329 := Tryd.func64.trans (congrArg some (by kernel_rfl))
  f330 := Tryd.func65.trans (congrArg some (by kernel_rfl))
  f333 := Tryd.func63.trans (congrArg some (by kernel_rfl))
  f334 := Tryd.func66.trans (congrArg some (by kernel_rfl))
  f335 := Tryd.func67.trans (congrArg some (by kernel_rfl))
  f336 := Tryd.func68.trans (congrArg some (by kernel_rfl))
  f344 := Tryd.func70.trans (congrArg some (by kernel_rfl))
  t0 := Tryd.underlying0
  a0 := Tryd.isAgg0
  z0 := Tryd.sizeOf0
  v0 := Tryd.zeroValue0
  t3 := Tryd.underlying3
  a3 := Tryd.isAgg3
  z3 := Tryd.sizeOf3
  v3 := Tryd.zeroValue3
  t4 := Tryd.underlying4
  a4 := Tryd.isAgg4
  z4 := Tryd.sizeOf4
  v4 := Tryd.zeroValue4
  t5 := Tryd.underlying5
  a5 := Tryd.isAgg5
  z5 := Tryd.sizeOf5
  v5 := Tryd.zeroValue5
  t9 := Tryd.underlying9
  a9 := Tryd.isAgg9
  z9 := Tryd.sizeOf9
  v9 := Tryd.zeroValue9
  t31 := Tryd.underlying27
  a31 := Tryd.isAgg27
  z31 := Tryd.sizeOf27
  v31 := Tryd.zeroValue27
  t46 := Tryd.underlying64
  a46 := Tryd.isAgg64
  z46 := Tryd.sizeOf64
  v46 := Tryd.zeroValue64
  t51 := Tryd.underlying81
  a51 := Tryd.isAgg81
  z51 := Tryd.sizeOf81
  v51 := Tryd.zeroValue81
  t53 := Tryd.underlying83
  a53 := Tryd.isAgg83
  z53 := Tryd.sizeOf83
  v53 := Tryd.zeroValue83
  t131 := Tryd.underlying78
  a131 := Tryd.isAgg78
  z131 := Tryd.sizeOf78
  v131 := Tryd.zeroValue78
  t182 := Tryd.underlying74
  a182 := Tryd.isAgg74
  z182 := Tryd.sizeOf74
  v182 := Tryd.zeroValue74
  t183 := Tryd.underlying75
  a183 := Tryd.isAgg75
  z183 := Tryd.sizeOf75
  v183 := Tryd.zeroValue75
  t218 := Tryd.underlying88
  a218 := Tryd.isAgg88
  z218 := Tryd.sizeOf88
  v218 := Tryd.zeroValue88
  t222 := Tryd.underlying92
  a222 := Tryd.isAgg92
  z222 := Tryd.sizeOf92
  v222 := Tryd.zeroValue92
  t228 := Tryd.underlying94
  a228 := Tryd.isAgg94
  z228 := Tryd.sizeOf94
  v228 := Tryd.zeroValue94
  t229 := Tryd.underlying60
  a229 := Tryd.isAgg60
  z229 := Tryd.sizeOf60
  v229 := Tryd.zeroValue60 }
theorem StrRen_194 : Go.Proofs.Lays.n194 Tryd.prog StrRen := {
  mixed := by kernel_rfl
  f194 := Tryd.func24.trans (congrArg some (by kernel_rfl))
  t0 := Tryd.underlying0
  a0 := Tryd.isAgg0
  z0 := Tryd.sizeOf0
  v0 := Tryd.zeroValue0
  t3 := Tryd.underlying3
  a3 := Tryd.isAgg3
  z3 := Tryd.sizeOf3
  v3 := Tryd.zeroValue3
  t4 := Tryd.underlying4
  a4 := Tryd.isAgg4
  z4 := Tryd.sizeOf4
  v4 := Tryd.zeroValue4
  t9 := Tryd.underlying9
  a9 := Tryd.isAgg9
  z9 := Tryd.sizeOf9
  v9 := Tryd.zeroValue9
  t31 := Tryd.underlying27
  a31 := Tryd.isAgg27
  z31 := Tryd.sizeOf27
  v31 := Tryd.zeroValue27 }

theorem str_sort {w : World} {base : Nat} {v : Value} {zs : List (List UInt8)} (h : w.ownsRow base 9 1 v zs.length (txtCells zs)) (hz : zs.length < 4611686018427387904) (K : Nat) (hK : K ≤ base) (hw : K ≤ w.heap.size) :
    Calls Tryd.prog 23 #[v] w fun e w' => e = .returned (.tuple #[]) ∧ w'.ownsRow base 9 1 v zs.length (txtCells (zs.mergeSort fun x y => decide (x ≤ y))) ∧ Below K w w' := by
  by_cases hv : v = .slice none 0 0
  · subst hv
    have hz0 : zs.length = 0 := by
      rcases h.2 with ⟨_, h0⟩ | ⟨g, cap, cur, h0, _⟩
      · exact h0
      · cases h0
    have hzn := List.eq_nil_of_length_eq_zero hz0
    subst hzn
    refine (Any.slices_Sort_string_none StrRen_190 none 0 w).mono ?_
    rintro e w' ⟨rfl, rfl⟩
    exact ⟨rfl, by simpa using h, Below.refl _ _⟩
  · have h' : w.ownsRow base 9 1 v zs.length (zs.map encStr) := h
    obtain ⟨g, cap, rfl, hbg, hgl, hncap, hcm, _, hH⟩ := Lib.holds_of_ownsRow h' hv
    refine (Any.slices_Sort_string StrRen_190 g 0 cap zs w hH hgl hz).mono ?_
    rintro e w' ⟨rfl, nn, os, rfl⟩
    rcases h'.2 with ⟨h0, _⟩ | ⟨g', cap', cur, hv', hbase, hb, h1, h2, h3, h4⟩
    · cases h0
    cases hv'
    exact ⟨rfl, ownsRow_sorted (n := nn) (os := os) (List.length_mergeSort zs) hbase hb h1 h2 h3, (Below.refl K w).grown (grownBy_sorted _) hw (fun j hj => by cases hj; omega)⟩
theorem str_compact {w : World} {base : Nat} {v : Value} {zs : List (List UInt8)} (h : w.ownsRow base 9 1 v zs.length (txtCells zs)) (hz : zs.length < 4611686018427387904) (K : Nat) (hK : K ≤ base) :
    Calls Tryd.prog 24 #[v] w fun e w' => ∃ v', e = .returned v' ∧ w'.ownsRow base 9 1 v' (Lib.compact zs).length (txtCells (Lib.compact zs)) ∧ Below K w w' := by
  by_cases hv : v = .slice none 0 0
  · subst hv
    have hz0 : zs.length = 0 := by
      rcases h.2 with ⟨_, h0⟩ | ⟨g, cap, cur, h0, _⟩
      · exact h0
      · cases h0
    have hzn := List.eq_nil_of_length_eq_zero hz0
    subst hzn
    refine (Any.slices_Compact_string_empty StrRen_194 none 0 w).mono ?_
    rintro e w' ⟨rfl, rfl⟩
    exact ⟨_, rfl, h, Below.refl _ _⟩
  · have h' : w.ownsRow base 9 1 v zs.length (zs.map encStr) := h
    obtain ⟨g, cap, rfl, hbg, hgl, hncap, hcm, _, hH⟩ := Lib.holds_of_ownsRow h' hv
    refine (Any.slices_Compact_string StrRen_194 g 0 cap zs w hH (by omega) hncap).mono ?_
    rintro e w' ⟨rfl, q, rfl⟩
    have hle := Lib.compact_length_le zs
    have hc := Lib.ownsRow_putRow (q := q) (k := (Lib.compact zs).length) (ys := Lib.compact zs ++ List.replicate (zs.length - (Lib.compact zs).length) []) h' (by simp; omega) (by omega)
    rw [List.take_left] at hc
    exact ⟨_, rfl, hc, Lib.below_putRow (Below.refl K w) (by omega)⟩
end Go.Proofs.YtpibflpmhhgbkaaDoor
