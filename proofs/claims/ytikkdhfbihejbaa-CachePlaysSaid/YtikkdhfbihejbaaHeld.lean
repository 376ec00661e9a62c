/- Cells that a call or a new block does not touch: what go_region_held3 asks for. No conditions. -/
import Derived.Test.YtikkdhfbihejbaaBase
import Derived.Deep.QuietTactic
import Derived.BigQuiet
import Derived.Deep.RegionHeld3
namespace Go.Proofs.Ytikkdhfbihejbaa
open Go.RowKit

theorem cell_alloc {w : World} {b off : Nat} {v : Value} (o : Obj) (h : w.cell? ⟨b, off, none⟩ = some v) : (w.alloc o).cell? ⟨b, off, none⟩ = some v :=
  cell_below ((Below.refl _ _).alloc (Nat.le_refl _) o) (lt_of_cell h) h
theorem cell_call {w w' : World} {b off : Nat} {v : Value} (hb : Below w.heap.size w w') (h : w.cell? ⟨b, off, none⟩ = some v) : w'.cell? ⟨b, off, none⟩ = some v := cell_below hb (lt_of_cell h) h
theorem below_drew (w : World) : Below w.heap.size w w.drew := ⟨rfl, rfl, rfl, Nat.le_refl _, fun _ _ => rfl⟩
theorem below_to_drew {K : Nat} {w w' : World} (h : Below K w w') : Below K w w'.drew := ⟨h.os, h.tape, h.output, h.size, h.block⟩

/-- What a region holds: nothing older than the world W has changed, and one, two, three, four cells. -/
def Hd1 (W : World) (b1 o1 : Nat) (v1 : Value) (w : World) : Prop := Below W.heap.size W w ∧ w.cell? ⟨b1, o1, none⟩ = some v1
theorem h1_call {W w w' : World} {b1 o1 : Nat} {v1 : Value} (h : Below W.heap.size W w ∧ w.cell? ⟨b1, o1, none⟩ = some v1) (hb : Below w.heap.size w w') : Below W.heap.size W w' ∧ w'.cell? ⟨b1, o1, none⟩ = some v1 :=
  ⟨step_call h.1 hb, cell_call hb h.2⟩
theorem h1_new {W w : World} {b1 o1 : Nat} {v1 : Value} (h : Below W.heap.size W w ∧ w.cell? ⟨b1, o1, none⟩ = some v1) (o : Obj) : Below W.heap.size W (w.alloc o) ∧ (w.alloc o).cell? ⟨b1, o1, none⟩ = some v1 :=
  ⟨step_new h.1 o, cell_alloc o h.2⟩
theorem h1_drew {w : World} {b1 o1 : Nat} {v1 : Value} (h : w.cell? ⟨b1, o1, none⟩ = some v1) : Below w.heap.size w w.drew ∧ w.drew.cell? ⟨b1, o1, none⟩ = some v1 := ⟨below_drew w, h⟩
theorem h2_call {W w w' : World} {b1 o1 b2 o2 : Nat} {v1 v2 : Value} (h : Below W.heap.size W w ∧ w.cell? ⟨b1, o1, none⟩ = some v1 ∧ w.cell? ⟨b2, o2, none⟩ = some v2) (hb : Below w.heap.size w w') :
    Below W.heap.size W w' ∧ w'.cell? ⟨b1, o1, none⟩ = some v1 ∧ w'.cell? ⟨b2, o2, none⟩ = some v2 := ⟨step_call h.1 hb, cell_call hb h.2.1, cell_call hb h.2.2⟩
theorem h2_new {W w : World} {b1 o1 b2 o2 : Nat} {v1 v2 : Value} (h : Below W.heap.size W w ∧ w.cell? ⟨b1, o1, none⟩ = some v1 ∧ w.cell? ⟨b2, o2, none⟩ = some v2) (o : Obj) :
    Below W.heap.size W (w.alloc o) ∧ (w.alloc o).cell? ⟨b1, o1, none⟩ = some v1 ∧ (w.alloc o).cell? ⟨b2, o2, none⟩ = some v2 := ⟨step_new h.1 o, cell_alloc o h.2.1, cell_alloc o h.2.2⟩
theorem h2_drew {w : World} {b1 o1 b2 o2 : Nat} {v1 v2 : Value} (h1 : w.cell? ⟨b1, o1, none⟩ = some v1) (h2 : w.cell? ⟨b2, o2, none⟩ = some v2) : Below w.heap.size w w.drew ∧ w.drew.cell? ⟨b1, o1, none⟩ = some v1 ∧ w.drew.cell? ⟨b2, o2, none⟩ = some v2 := ⟨below_drew w, h1, h2⟩
theorem h2c_call {w w' : World} {b1 o1 b2 o2 : Nat} {v1 v2 : Value} (h : w.cell? ⟨b1, o1, none⟩ = some v1 ∧ w.cell? ⟨b2, o2, none⟩ = some v2) (hb : Below w.heap.size w w') :
    w'.cell? ⟨b1, o1, none⟩ = some v1 ∧ w'.cell? ⟨b2, o2, none⟩ = some v2 := ⟨cell_call hb h.1, cell_call hb h.2⟩
theorem h2c_new {w : World} {b1 o1 b2 o2 : Nat} {v1 v2 : Value} (h : w.cell? ⟨b1, o1, none⟩ = some v1 ∧ w.cell? ⟨b2, o2, none⟩ = some v2) (o : Obj) :
    (w.alloc o).cell? ⟨b1, o1, none⟩ = some v1 ∧ (w.alloc o).cell? ⟨b2, o2, none⟩ = some v2 := ⟨cell_alloc o h.1, cell_alloc o h.2⟩
end Go.Proofs.Ytikkdhfbihejbaa
