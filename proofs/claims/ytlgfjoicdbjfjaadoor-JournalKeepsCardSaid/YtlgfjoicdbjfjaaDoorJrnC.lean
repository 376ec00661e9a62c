/- Chapter 4: the journal's small methods: Seq, Used, Home, place, home, advance; writes, lays. Conditions: its numbers fit. -/
import Derived.Test.YtlgfjoicdbjfjaaDoorJrnB
import Derived.Test.YtlgfjoicdbjfjaaDoorJrnSt
namespace Go.Proofs.YtlgfjoicdbjfjaaDoor
open Go.RowKit Go.Wir Go.Blk Go.Frm Go.Jrn

section
variable {w0 w w' : World} {g : Nat} {od : Option Nat} {d : Dv} {jb : Nat} {j : Jn} {R : Nat → Prop}
theorem LiveJ.cells (h : LiveJ w0 w g od d jb j R) :
    (w.cell? ⟨jb, 0, none⟩ = some (.pointer (some ⟨g, 0, none⟩)) ∧ w.cell? ⟨jb, 1, none⟩ = some (.int .u64 (j.x.e : Nat)) ∧ w.cell? ⟨jb, 2, none⟩ = some (.int .u64 (j.x.s : Nat)) ∧ w.cell? ⟨jb, 3, none⟩ = some (.int .i64 (j.x.log : Nat)) ∧
     w.cell? ⟨jb, 4, none⟩ = some (.int .i64 (j.x.p : Nat)) ∧ w.cell? ⟨jb, 5, none⟩ = some (.int .i64 (j.pos : Nat)) ∧ w.cell? ⟨jb, 6, none⟩ = some (.int .u64 (j.next : Nat)) ∧ w.cell? ⟨jb, 7, none⟩ = some (.int .i64 (j.used : Nat))) ∧ ∀ i, w.frozen? ⟨jb, i, none⟩ = false :=
  ⟨⟨(LiveC.cell h 0 _ rfl).1, (LiveC.cell h 1 _ rfl).1, (LiveC.cell h 2 _ rfl).1, (LiveC.cell h 3 _ rfl).1, (LiveC.cell h 4 _ rfl).1, (LiveC.cell h 5 _ rfl).1, (LiveC.cell h 6 _ rfl).1, (LiveC.cell h 7 _ rfl).1⟩, fun i => Lib.frozen_of_heap h.blk i⟩
set_option maxRecDepth 100000 in
theorem jr_Seq (h : LiveJ w0 w g od d jb j R) : Calls Tryd.prog 11 #[.pointer (some ⟨jb, 0, none⟩)] w fun e w' => e = .returned (.int .u64 (j.next : Nat)) ∧ w = w' := by
  obtain ⟨⟨_, _, _, _, _, _, c6, _⟩, _⟩ := h.cells
  clear h
  go_enter Tryd.func11, Tryd.ntmps11
  go_wp2
  go_ret
  exact ⟨rfl, rfl⟩
set_option maxRecDepth 100000 in
theorem jr_Used (h : LiveJ w0 w g od d jb j R) : Calls Tryd.prog 12 #[.pointer (some ⟨jb, 0, none⟩)] w fun e w' => e = .returned (.int .i64 (j.used : Nat)) ∧ w = w' := by
  obtain ⟨⟨_, _, _, _, _, _, _, c7⟩, _⟩ := h.cells
  clear h
  go_enter Tryd.func12, Tryd.ntmps12
  go_wp2
  go_ret
  exact ⟨rfl, rfl⟩
set_option maxRecDepth 100000 in
theorem jr_Home (h : LiveJ w0 w g od d jb j R) (hL : j.x.log ≤ 4096) : Calls Tryd.prog 32 #[.pointer (some ⟨jb, 0, none⟩)] w fun e w' => e = .returned (.int .i64 ((2 + j.x.log : Nat) : Int)) ∧ w = w' := by
  obtain ⟨⟨_, _, _, c3, _⟩, _⟩ := h.cells
  clear h
  go_enter Tryd.func32, Tryd.ntmps32
  go_wp2
  go_ret
  exact ⟨ret_i64 (by omega), rfl⟩
set_option maxRecDepth 100000 in
set_option maxHeartbeats 800000 in
theorem jr_place {K : Nat} (h : LiveJ w0 w g od d jb j R) (hj : JFit K j) (k : Nat) (hk : k ≤ 100) : Calls Tryd.prog 38 #[.pointer (some ⟨jb, 0, none⟩), .int .i64 (k : Nat)] w fun e w' => e = .returned (.int .i64 (placeN j k : Nat)) ∧ ∃ n, w' = w.drewN n := by
  obtain ⟨⟨_, _, _, c3, c4, _, _, c7⟩, _⟩ := h.cells
  clear h
  have h1 := hj.log
  have h2 := hj.pl
  have h3 := hj.used
  have HP : Hid ((placeN j k : Int) = 2 + (((j.x.p + j.used + k) % j.x.log : Nat) : Int)) := Lib.hid (by unfold placeN; omega)
  have hq : (j.x.p + j.used + k) % j.x.log < 50 := by rw [h1]; omega
  have t1 : ((j.x.p : Int) + (j.used : Int) + (k : Int)).tmod (j.x.log : Int) = (((j.x.p + j.used + k) % j.x.log : Nat) : Int) := by
    rw [Int.tmod_eq_emod_of_nonneg (by omega)]; push_cast; rfl
  have hz : ((j.x.log : Int) == 0) = false := by rw [h1]; rfl
  have hz0 : ¬ j.x.log = 0 := by omega
  generalize (j.x.p + j.used + k) % j.x.log = q at *
  have HZ := Lib.hid h1
  clear h1 hj
  go_enter Tryd.func38, Tryd.ntmps38
  go_wp2_with fail
  go_region
  all_goals
    go_wp2
    go_ret
    exact ⟨ret_i64 (by rw [HP.out]), ⟨1, rfl⟩⟩
end
end Go.Proofs.YtlgfjoicdbjfjaaDoor
