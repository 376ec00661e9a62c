/- slices.Clone at texts and at writes; the device's Pending, Disk. Conditions: sizes. -/
import Derived.Test.YtlgfjoicdbjfjaaDoorBlkD
import Derived.Lib.SliceRun
namespace Go.Proofs.YtlgfjoicdbjfjaaDoor
open Go.RowKit Go.Blk

theorem own_empty (w : World) (t : TypeId) (size base : Nat) (hb : base ≤ w.heap.size) : (w.alloc (.cells #[] t)).ownsRow base t size (.slice (some ⟨w.heap.size, 0, none⟩) 0 0) 0 [] :=
  ⟨by simp, .inr ⟨w.heap.size, 0, #[], rfl, hb, heap_alloc_new w _, by omega, by unfold maxLen; omega, by simp, by simp⟩⟩
theorem txtCells_one (l : List Txt) : ∀ u ∈ txtCells l, u.oneCell' = true := by
  intro u hu
  obtain ⟨s, _, rfl⟩ := List.mem_map.1 hu
  rfl
theorem Tryd.info_str : (Tryd.prog.info? 9).map (fun i => (i.zero, i.size, i.bytes)) = some (some (.string ⟨#[]⟩), 1, 16) := by kernel_rfl
set_option maxRecDepth 100000 in
set_option maxHeartbeats 800000 in
theorem clone_txt (v : Value) (l : List Txt) (base : Nat) (w : World) (h : w.ownsRow base 9 1 v l.length (txtCells l)) (hl : l.length ≤ 1000000) :
    Calls Tryd.prog 36 #[v] w fun e w' => Below w.heap.size w w' ∧ ∃ v', e = .returned v' ∧ w'.ownsRow w.heap.size 9 1 v' l.length (txtCells l) := by
  obtain ⟨i0, hi, hz0, hz1, hz2⟩ := info_parts Tryd.info_str
  have qn : ∀ (w : World) (a : Option Addr) (n c : Nat), (binOp .eql 44 (.slice a n c) (.slice none 0 0)).run Tryd.prog w = .ok (.bool a.isNone) w := fun w a n c => Lib.run_eql_slice_nil w _ _ a n c 0 0 Tryd.underlying44
  rcases h.2 with ⟨rfl, h0⟩ | ⟨gv, cap, cur, rfl, hg, hh, h1, h2, h3, h4⟩
  · have hl0 : l = [] := List.eq_nil_of_length_eq_zero h0
    subst hl0
    clear h h0
    go_enter Tryd.func36, Tryd.ntmps36
    go_wp2
    go_ret
    exact ⟨Below.refl _ _, _, rfl, World.ownsRow_nil _ _ _ _⟩
  · have hnews := Lib.hid ((h.alloc (.cells #[] 9)).cells (g := gv) rfl)
    have hown := own_empty w 9 1 w.heap.size (Nat.le_refl _)
    clear h hh h1 h2 h3 h4 hg
    go_enter Tryd.func36, Tryd.ntmps36
    go_wp2_with (at_builtin; go_must (refine wpList_append_where _ rfl _ _ 44 rfl w.heap.size 9 i0 (.string ⟨#[]⟩) 1 16 Tryd.underlying44 hi hz0 hz1 hz2 rfl (by decide) _ _ _ rfl hown ⟨gv, 0, none⟩ l.length cap (txtCells l) rfl (by rw [txtCells_length, Nat.mul_one]) hnews.out (txtCells_one l) ?c3 ?c4 ?c5 ?_))
    case c3 => unfold maxLen; omega
    case c4 => omega
    case c5 => simp
    intro v' w1 hown' hgrow _
    have hb := (step_new (Below.refl w.heap.size w) (.cells #[] 9)).grown hgrow (by simp) (fun q hq => by
      simp only [Value.ownBlock, Option.some.injEq] at hq
      omega)
    try rw [Nat.zero_add] at hown'
    try rw [List.nil_append] at hown'
    have Hb := Lib.hid hb
    have Ho := Lib.hid hown'
    clear hb hown' hgrow hown
    go_wp2
    go_ret
    exact ⟨Hb.out, _, rfl, Ho.out⟩
set_option maxRecDepth 100000 in
theorem dev_Disk (d : Dv) (g : Nat) (od op : Option Nat) (w : World) (h : DevAt 80 w g od op d) (hp : d.disk.length ≤ 100000) :
    Calls Tryd.prog 28 #[.pointer (some ⟨g, 0, none⟩)] w fun e w' => Below w.heap.size w w' ∧ ∃ v', e = .returned v' ∧ w'.ownsRow w.heap.size 9 1 v' d.disk.length (txtCells d.disk) := by
  obtain ⟨vd, vp, hh, _, _, c0, c1, c2, c3, _, _, _, _, hod, _⟩ := h.cells
  have Hcl := Lib.hid (clone_txt vd d.disk 0 w hod (by omega))
  clear h hh hod c1 c2 c3
  go_enter Tryd.func28, Tryd.ntmps28
  go_wp2_with fail
  refine Hcl.out.mono ?_
  rintro e w1 ⟨hb, v', rfl, hown⟩
  have Ho := Lib.hid hown
  clear hown
  go_wp2
  go_ret
  exact ⟨hb, _, rfl, Ho.out⟩
end Go.Proofs.YtlgfjoicdbjfjaaDoor
