/- One builder above a world, two builders beside each other above it. Conditions: as Bld. -/
import Derived.Test.YteemloillnfaeaaDoorBld
import Derived.Test.YteemloillnfaeaaDoorHeld
namespace Go.Proofs.YteemloillnfaeaaDoor
open Go.RowKit Go.Shelf

/-- A builder's blocks. -/
def own (b : Nat) (o : Option Nat) (k : Nat) : Prop := k = b ∨ o = some k
theorem own_lt {w : World} {b : Nat} {o : Option Nat} {l : List UInt8} (h : Bld w b o l) (k : Nat) (hk : own b o k) : k < w.heap.size := by
  rcases hk with rfl | hk
  · exact h.lt.1
  · exact h.lt.2 k hk
theorem Bld.kept {A : Nat → Prop} {w w' : World} {b : Nat} {o : Option Nat} {l : List UInt8} (h : Bld w b o l) (c : Chg A w w') (hA : ∀ k, own b o k → ¬ A k) : Bld w' b o l :=
  h.keep c (hA b (.inl rfl)) (fun g hg => hA g (.inr hg))
theorem Bld.below {w w' : World} {b : Nat} {o : Option Nat} {l : List UInt8} (h : Bld w b o l) (hb : Below w.heap.size w w') : Bld w' b o l :=
  h.kept (A := fun _ => False) ⟨hb.os, hb.tape, hb.output, hb.size, fun k hk _ => hb.block k hk⟩ (fun _ _ h => h)
structure One (W w : World) (b : Nat) (o : Option Nat) (l : List UInt8) : Prop where
  bld : Bld w b o l
  low : ∀ k, own b o k → W.heap.size ≤ k
  bel : Below W.heap.size W w
theorem Chg.above {A : Nat → Prop} {W w w' : World} (h : Below W.heap.size W w) (c : Chg A w w') (hA : ∀ k, A k → W.heap.size ≤ k) : Below W.heap.size W w' :=
  h.trans (c.below h.size (fun k hk ha => by have := hA k ha; omega))
theorem One.new (W w : World) (h : Below W.heap.size W w) : One W (w.alloc (.cells #[.pointer none, .slice none 0 0] 85)) w.heap.size none [] :=
  ⟨Bld.new w, fun k hk => hk.elim (fun e => by rw [e]; exact h.size) (fun e => by cases e), h.alloc h.size _⟩
theorem One.call {W w w' : World} {b : Nat} {o : Option Nat} {l : List UInt8} (h : One W w b o l) (hb : Below w.heap.size w w') : One W w' b o l :=
  ⟨h.bld.below hb, h.low, step_call h.bel hb⟩
theorem One.alloc {W w : World} {b : Nat} {o : Option Nat} {l : List UInt8} (h : One W w b o l) (x : Obj) : One W (w.alloc x) b o l :=
  h.call ((Below.refl _ _).alloc (Nat.le_refl _) x)
theorem One.write {W w w' : World} {b : Nat} {o o' : Option Nat} {l l' : List UInt8} (h : One W w b o l) (hb : Bld w' b o' l') (ho : o' = o ∨ ∃ g, o' = some g ∧ w.heap.size ≤ g) (c : Chg (fun k => k = b ∨ o = some k) w w') : One W w' b o' l' := by
  refine ⟨hb, fun k hk => ?_, c.above h.bel h.low⟩
  rcases hk with rfl | hk
  · exact h.low _ (.inl rfl)
  · rcases ho with rfl | ⟨g, rfl, hg⟩
    · exact h.low _ (.inr hk)
    · cases hk; have := h.bel.size; omega
structure Two (W w : World) (b1 : Nat) (o1 : Option Nat) (l1 : List UInt8) (b2 : Nat) (o2 : Option Nat) (l2 : List UInt8) : Prop where
  bld1 : Bld w b1 o1 l1
  bld2 : Bld w b2 o2 l2
  dis : ∀ k, own b1 o1 k → ¬ own b2 o2 k
  low1 : ∀ k, own b1 o1 k → W.heap.size ≤ k
  low2 : ∀ k, own b2 o2 k → W.heap.size ≤ k
  bel : Below W.heap.size W w
theorem Two.swap {W w : World} {b1 b2 : Nat} {o1 o2 : Option Nat} {l1 l2 : List UInt8} (h : Two W w b1 o1 l1 b2 o2 l2) : Two W w b2 o2 l2 b1 o1 l1 :=
  ⟨h.bld2, h.bld1, fun k h2 h1 => h.dis k h1 h2, h.low2, h.low1, h.bel⟩
theorem Two.call {W w w' : World} {b1 b2 : Nat} {o1 o2 : Option Nat} {l1 l2 : List UInt8} (h : Two W w b1 o1 l1 b2 o2 l2) (hb : Below w.heap.size w w') : Two W w' b1 o1 l1 b2 o2 l2 :=
  ⟨h.bld1.below hb, h.bld2.below hb, h.dis, h.low1, h.low2, step_call h.bel hb⟩
theorem Two.write1 {W w w' : World} {b1 b2 : Nat} {o1 o1' o2 : Option Nat} {l1 l1' l2 : List UInt8} (h : Two W w b1 o1 l1 b2 o2 l2) (hb : Bld w' b1 o1' l1') (ho : o1' = o1 ∨ ∃ g, o1' = some g ∧ w.heap.size ≤ g) (c : Chg (fun k => k = b1 ∨ o1 = some k) w w') :
    Two W w' b1 o1' l1' b2 o2 l2 := by
  have k1 : ∀ k, own b1 o1' k → own b1 o1 k ∨ w.heap.size ≤ k := by
    intro k hk
    rcases hk with rfl | hk
    · exact .inl (.inl rfl)
    · rcases ho with rfl | ⟨g, rfl, hg⟩
      · exact .inl (.inr hk)
      · cases hk; exact .inr hg
  refine ⟨hb, h.bld2.kept c (fun k h2 h1 => h.dis k h1 h2), fun k hk h2 => ?_, fun k hk => ?_, h.low2, c.above h.bel h.low1⟩
  · rcases k1 k hk with h1 | h1
    · exact h.dis k h1 h2
    · have := own_lt h.bld2 k h2; omega
  · rcases k1 k hk with h1 | h1
    · exact h.low1 k h1
    · have := h.bel.size; omega
theorem Two.write2 {W w w' : World} {b1 b2 : Nat} {o1 o2 o2' : Option Nat} {l1 l2 l2' : List UInt8} (h : Two W w b1 o1 l1 b2 o2 l2) (hb : Bld w' b2 o2' l2') (ho : o2' = o2 ∨ ∃ g, o2' = some g ∧ w.heap.size ≤ g) (c : Chg (fun k => k = b2 ∨ o2 = some k) w w') :
    Two W w' b1 o1 l1 b2 o2' l2' := (h.swap.write1 hb ho c).swap
theorem Two.new (W w : World) (h : Below W.heap.size W w) : Two W ((w.alloc (.cells #[.pointer none, .slice none 0 0] 85)).alloc (.cells #[.pointer none, .slice none 0 0] 85)) w.heap.size none [] (w.heap.size + 1) none [] := by
  have e : (w.alloc (.cells #[.pointer none, .slice none 0 0] 85)).heap.size = w.heap.size + 1 := by simp
  have h2 := Bld.new (w.alloc (.cells #[.pointer none, .slice none 0 0] 85))
  rw [e] at h2
  refine ⟨(Bld.new w).below ((Below.refl _ _).alloc (Nat.le_refl _) _), h2, ?_, ?_, ?_, step_new (step_new h _) _⟩
  · rintro k (rfl | hk) (hk2 | hk2)
    · omega
    · cases hk2
    · cases hk
    · cases hk
  · rintro k (rfl | hk)
    · exact h.size
    · cases hk
  · rintro k (rfl | hk)
    · have := h.size; omega
    · cases hk
/-- A builder above two: what is written to the first of the two leaves it. -/
theorem One.beside {W V w w' : World} {b1 b2 b : Nat} {o1 o2 o : Option Nat} {l1 l2 l : List UInt8} (h : One V w b o l) (hT : Two W V b1 o1 l1 b2 o2 l2) (c : Chg (fun k => k = b1 ∨ o1 = some k) w w') : Bld w' b o l :=
  h.bld.kept c (fun k hk h1 => by have := h.low k hk; have := own_lt hT.bld1 k h1; omega)
theorem bld_string_below {b : Nat} {o : Option Nat} {V w w' : World} (hlow : ∀ k, own b o k → V.heap.size ≤ k) (hbel : Below V.heap.size V w) (c : Chg (fun k => o = some k) w w') : Below V.heap.size V w' :=
  c.above hbel (fun k hk => hlow k (.inr hk))
theorem cell_chg {A : Nat → Prop} {w w' : World} (c : Chg A w w') {b off : Nat} {v : Value} (hA : ¬ A b) (h : w.cell? ⟨b, off, none⟩ = some v) : w'.cell? ⟨b, off, none⟩ = some v := by
  have := c.block b (lt_of_cell h) hA
  simp only [World.cell?] at h ⊢
  rw [this]; exact h
theorem h2c_chg {A : Nat → Prop} {w w' : World} {b1 o1 b2 o2 : Nat} {v1 v2 : Value} (h : w.cell? ⟨b1, o1, none⟩ = some v1 ∧ w.cell? ⟨b2, o2, none⟩ = some v2) (c : Chg A w w') (h1 : ¬ A b1) (h2 : ¬ A b2) :
    w'.cell? ⟨b1, o1, none⟩ = some v1 ∧ w'.cell? ⟨b2, o2, none⟩ = some v2 := ⟨cell_chg c h1 h.1, cell_chg c h2 h.2⟩
theorem Two.chg {A : Nat → Prop} {W w w' : World} {b1 b2 : Nat} {o1 o2 : Option Nat} {l1 l2 : List UInt8} (h : Two W w b1 o1 l1 b2 o2 l2) (c : Chg A w w') (h1 : ∀ k, A k → ¬ own b1 o1 k) (h2 : ∀ k, A k → ¬ own b2 o2 k) (hW : ∀ k, A k → W.heap.size ≤ k) :
    Two W w' b1 o1 l1 b2 o2 l2 := ⟨h.bld1.kept c (fun k hk ha => h1 k ha hk), h.bld2.kept c (fun k hk ha => h2 k ha hk), h.dis, h.low1, h.low2, c.above h.bel hW⟩
theorem One.write_beside {V W w : World} {b1 b2 b : Nat} {o1 o1' o2 o : Option Nat} {l1 l2 l : List UInt8} (h : One V w b o l) (hT : Two W V b1 o1 l1 b2 o2 l2) (ho : o1' = o1 ∨ ∃ g, o1' = some g ∧ w.heap.size ≤ g) :
    (∀ k, own b o k → ¬ own b1 o1' k) ∧ (∀ k, own b o k → ¬ own b2 o2 k) := by
  constructor
  · intro k hk h1
    have ha := h.low k hk
    have hb := own_lt h.bld k hk
    rcases h1 with rfl | h1
    · have := own_lt hT.bld1 k (.inl rfl); omega
    · rcases ho with rfl | ⟨g, rfl, hg⟩
      · have := own_lt hT.bld1 k (.inr h1); omega
      · cases h1; omega
  · intro k hk h2
    have ha := h.low k hk
    have := own_lt hT.bld2 k h2; omega
end Go.Proofs.YteemloillnfaeaaDoor
