/- slices.Sort and slices.Compact of a []string: the shelf's contracts, laid at this seat's numbers, in plain words. Condition: the slice is a row of the call's own. -/
import Derived.Test.YtlfhgmclnapmjaaGreatDoorTokRows
import Derived.Shelf.Slices.CompactS
import Derived.Shelf.Slices.In.SortNone
import Derived.Shelf.Sort.Plain
import Derived.Sort.OwnSorted
import Derived.Sort.Grow
import Derived.Lib.OwnBridge
namespace Go.Proofs.YtlfhgmclnapmjaaGreatDoor
open Go.RowKit Go.Shelf Go.Sort

def StrRen : Go.Shelf.Ren := ⟨fun | 125 => 48 | 128 => 78 | 129 => 79 | 190 => 27 | 194 => 28 | 258 => 47 | 302 => 69 | 303 => 70 | 304 => 71 | 305 => 72 | 306 => 73 | 307 => 74 | 308 => 75 | 309 => 76 | 310 => 77 | 329 => 94 | 330 => 95 | 333 => 93 | 334 => 96 | 335 => 97 | 336 => 98 | 344 => 103 | n => n, fun | 0 => 0 | 3 => 3 | 4 => 4 | 5 => 5 | 9 => 9 | 31 => 34 | 46 => 63 | 51 => 93 | 53 => 95 | 131 => 90 | 182 => 85 | 183 => 86 | 218 => 107 | 222 => 111 | 228 => 122 | 229 => 27 | n => n, fun  | n => n⟩
theorem StrRen_190 : Go.Proofs.Lays.n190 Tryz.prog StrRen := {
  mixed := by kernel_rfl
  f125 := Tryz.func48.trans (congrArg some (by kernel_rfl))
  f128 := Tryz.func78.trans (congrArg some (by kernel_rfl))
  f129 := Tryz.func79.trans (congrArg some (by kernel_rfl))
  f190 := Tryz.func27.trans (congrArg some (by kernel_rfl))
  f258 := Tryz.func47.trans (congrArg some (by kernel_rfl))
  f302 := Tryz.func69.trans (congrArg some (by kernel_rfl))
  f303 := Tryz.func70.trans (congrArg some (by kernel_rfl))
  f304 := Tryz.func71.trans (congrArg some (by kernel_rfl))
  f305 := Tryz.func72.trans (congrArg some (by kernel_rfl))
  f306 := Tryz.func73.trans (congrArg some (by kernel_rfl))
  f307 := Tryz.func74.trans (congrArg some (by kernel_rfl))
  f308 := Tryz.func75.trans (congrArg some (by kernel_rfl))
  f309 := Tryz.func76.trans (congrArg some (by kernel_rfl))
  f310 := Tryz.func77.trans (congrArg some (by kernel_rfl))
  f329 := Tryz.func94.trans (congrArg some (by kernel_rfl))
  f330 := Tryz.func95.trans (congrArg some (by kernel_rfl))
  f333 := Tryz.func93.trans (congrArg some (by kernel_rfl))
  f334 := Tryz.func96.trans (congrArg some (by kernel_rfl))
  f335 := Tryz.func97.trans (congrArg some (by kernel_rfl))
  f336 := Tryz.func98.trans (congrArg some (by kernel_rfl))
  f344 := Tryz.func103.trans (congrArg some (by kernel_rfl))
  t0 := Tryz.underlying0
  a0 := Tryz.isAgg0
  z0 := Tryz.sizeOf0
  v0 := Tryz.zeroValue0
  t3 := Tryz.underlying3
  a3 := Tryz.isAgg3
  z3 := Tryz.sizeOf3
  v3 := Tryz.zeroValue3
  t4 := Tryz.underlying4
  a4 := Tryz.isAgg4
  z4 := Tryz.sizeOf4
  v4 := Tryz.zeroValue4
  t5 := Tryz.underlying5
  a5 := Tryz.isAgg5
  z5 := Tryz.sizeOf5
  v5 := Tryz.zeroValue5
  t9 := Tryz.underlying9
  a9 := Tryz.isAgg9
  z9 := Tryz.sizeOf9
  v9 := Tryz.zeroValue9
  t31 := Tryz.underlying34
  a31 := Tryz.isAgg34
  z31 := Tryz.sizeOf34
  v31 := Tryz.zeroValue34
  t46 := Tryz.underlying63
  a46 := Tryz.isAgg63
  z46 := Tryz.sizeOf63
  v46 := Tryz.zeroValue63
  t51 := Tryz.underlying93
  a51 := Tryz.isAgg93
  z51 := Tryz.sizeOf93
  v51 := Tryz.zeroValue93
  t53 := Tryz.underlying95
  a53 := Tryz.isAgg95
  z53 := Tryz.sizeOf95
  v53 := Tryz.zeroValue95
  t131 := Tryz.underlying90
  a131 := Tryz.isAgg90
  z131 := Tryz.sizeOf90
  v131 := Tryz.zeroValue90
  t182 := Tryz.underlying85
  a182 := Tryz.isAgg85
  z182 := Tryz.sizeOf85
  v182 := Tryz.zeroValue85
  t183 := Tryz.underlying86
  a183 := Tryz.isAgg86
  z183 := Tryz.sizeOf86
  v183 := Tryz.zeroValue86
  t218 := Tryz.underlying107
  a218 := Tryz.isAgg107
  z218 := Tryz.sizeOf107
  v218 := Tryz.zeroValue107
  t222 := Tryz.underlying111
  a222 := Tryz.isAgg111
  z222 := Tryz.sizeOf111
  v222 := Tryz.zeroValue111
  t228 := Tryz.underlying122
  a228 := Tryz.isAgg122
  z228 := Tryz.sizeOf122
  v228 := Tryz.zeroValue122
  t229 := Tryz.underlying27
  a229 := Tryz.isAgg27
  z229 := Tryz.sizeOf27
  v229 := Tryz.zeroValue27 }
theorem StrRen_194 : Go.Proofs.Lays.n194 Tryz.prog StrRen := {
  mixed := by kernel_rfl
  f194 := Tryz.func28.trans (congrArg some (by kernel_rfl))
  t0 := Tryz.underlying0
  a0 := Tryz.isAgg0
  z0 := Tryz.sizeOf0
  v0 := Tryz.zeroValue0
  t3 := Tryz.underlying3
  a3 := Tryz.isAgg3
  z3 := Tryz.sizeOf3
  v3 := Tryz.zeroValue3
  t4 := Tryz.underlying4
  a4 := Tryz.isAgg4
  z4 := Tryz.sizeOf4
  v4 := Tryz.zeroValue4
  t9 := Tryz.underlying9
  a9 := Tryz.isAgg9
  z9 := Tryz.sizeOf9
  v9 := Tryz.zeroValue9
  t31 := Tryz.underlying34
  a31 := Tryz.isAgg34
  z31 := Tryz.sizeOf34
  v31 := Tryz.zeroValue34 }

theorem str_sort {w : World} {base : Nat} {v : Value} {zs : List (List UInt8)} (h : w.ownsRow base 9 1 v zs.length (txtCells zs)) (hz : zs.length < 4611686018427387904) (K : Nat) (hK : K ≤ base) (hw : K ≤ w.heap.size) :
    Calls Tryz.prog 27 #[v] w fun e w' => e = .returned (.tuple #[]) ∧ w'.ownsRow base 9 1 v zs.length (txtCells (zs.mergeSort fun x y => decide (x ≤ y))) ∧ Below K w w' := by
  by_cases hv : v = .slice none 0 0
  · subst hv
    have hz0 : zs.length = 0 := by
      rcases h.2 with ⟨_, h0⟩ | ⟨g, cap, cur, h0, _⟩
      · exact h0
      · cases h0
    have hzn := List.eq_nil_of_length_eq_zero hz0
    subst hzn
    refine (Any.slices_Sort_string_none StrRen_190 none 0 w).mono ?_
    rintro e w' ⟨rfl, rfl⟩
    exact ⟨rfl, by simpa using h, Below.refl _ _⟩
  · have h' : w.ownsRow base 9 1 v zs.length (zs.map encStr) := h
    obtain ⟨g, cap, rfl, hbg, hgl, hncap, hcm, _, hH⟩ := Lib.holds_of_ownsRow h' hv
    refine (Any.slices_Sort_string StrRen_190 g 0 cap zs w hH hgl hz).mono ?_
    rintro e w' ⟨rfl, nn, os, rfl⟩
    rcases h'.2 with ⟨h0, _⟩ | ⟨g', cap', cur, hv', hbase, hb, h1, h2, h3, h4⟩
    · cases h0
    cases hv'
    exact ⟨rfl, ownsRow_sorted (n := nn) (os := os) (List.length_mergeSort zs) hbase hb h1 h2 h3, (Below.refl K w).grown (grownBy_sorted _) hw (fun j hj => by cases hj; omega)⟩
theorem str_compact {w : World} {base : Nat} {v : Value} {zs : List (List UInt8)} (h : w.ownsRow base 9 1 v zs.length (txtCells zs)) (hz : zs.length < 4611686018427387904) (K : Nat) (hK : K ≤ base) :
    Calls Tryz.prog 28 #[v] w fun e w' => ∃ v', e = .returned v' ∧ w'.ownsRow base 9 1 v' (Lib.compact zs).length (txtCells (Lib.compact zs)) ∧ Below K w w' := by
  by_cases hv : v = .slice none 0 0
  · subst hv
    have hz0 : zs.length = 0 := by
      rcases h.2 with ⟨_, h0⟩ | ⟨g, cap, cur, h0, _⟩
      · exact h0
      · cases h0
    have hzn := List.eq_nil_of_length_eq_zero hz0
    subst hzn
    refine (Any.slices_Compact_string_empty StrRen_194 none 0 w).mono ?_
    rintro e w' ⟨rfl, rfl⟩
    exact ⟨_, rfl, h, Below.refl _ _⟩
  · have h' : w.ownsRow base 9 1 v zs.length (zs.map encStr) := h
    obtain ⟨g, cap, rfl, hbg, hgl, hncap, hcm, _, hH⟩ := Lib.holds_of_ownsRow h' hv
    refine (Any.slices_Compact_string StrRen_194 g 0 cap zs w hH (by omega) hncap).mono ?_
    rintro e w' ⟨rfl, q, rfl⟩
    have hle := Lib.compact_length_le zs
    have hc := Lib.ownsRow_putRow (q := q) (k := (Lib.compact zs).length) (ys := Lib.compact zs ++ List.replicate (zs.length - (Lib.compact zs).length) []) h' (by simp; omega) (by omega)
    rw [List.take_left] at hc
    exact ⟨_, rfl, hc, Lib.below_putRow (Below.refl K w) (by omega)⟩
end Go.Proofs.YtlfhgmclnapmjaaGreatDoor
