/- A journal in memory: its block and its device; what calls leave as it was. No conditions. -/
import Derived.Test.YtlgfjoicdbjfjaaDoorJLive
import Derived.Test.YtlgfjoicdbjfjaaDoorTxts
import Derived.Test.YtlgfjoicdbjfjaaDoorJrnOpen
namespace Go.Proofs.YtlgfjoicdbjfjaaDoor
open Go.RowKit Go.Blk Go.Frm Go.Jrn

/-- A device made since w0, and one block more (jb) beside it; both apart from the blocks R. -/
structure LiveC (w0 w : World) (g : Nat) (od : Option Nat) (d : Dv) (jb : Nat) (T : TypeId) (cs : Array Value) (R : Nat → Prop) : Prop where
  live : Live w0 w g od d (fun k => R k ∨ k = jb)
  nr : ¬ R jb
  lo : w0.heap.size ≤ jb
  blk : w.heap[jb]? = some (.cells cs T (0, 0))
section
variable {w0 w w' : World} {g : Nat} {od : Option Nat} {d d' : Dv} {jb : Nat} {T : TypeId} {cs : Array Value} {R : Nat → Prop}
theorem Live.chg {R' : Nat → Prop} (h : Live w0 w g od d R') (c : Chg (fun k => k = jb) w w') (hj : R' jb) (hlo : w0.heap.size ≤ jb) : Live w0 w' g od d R' := by
  obtain ⟨op, h1, h2, h3, h4⟩ := h
  exact ⟨op, h1.keep c (fun k hk e => (h2 k hk).2 (e ▸ hj)), h2, fun k hk => Nat.lt_of_lt_of_le (h3 k hk) c.size, h4.trans (c.below h4.size (fun k e => e ▸ hlo))⟩
theorem LiveC.size (h : LiveC w0 w g od d jb T cs R) : Below w0.heap.size w0 w := h.live.size
theorem LiveC.call (h : LiveC w0 w g od d jb T cs R) (b : Below w.heap.size w w') : LiveC w0 w' g od d jb T cs R ∧ Keeps R w w' := by
  obtain ⟨l, k⟩ := h.live.call b
  exact ⟨⟨l, h.nr, h.lo, (k jb (.inr rfl)).trans h.blk⟩, fun q hq => k q (.inl hq)⟩
theorem LiveC.dev (h : LiveC w0 w g od d jb T cs R) (l : Live w0 w' g od d' (fun k => R k ∨ k = jb)) (k : Keeps (fun k => R k ∨ k = jb) w w') : LiveC w0 w' g od d' jb T cs R ∧ Keeps R w w' :=
  ⟨⟨l, h.nr, h.lo, (k jb (.inr rfl)).trans h.blk⟩, fun q hq => k q (.inl hq)⟩
theorem LiveC.set (h : LiveC w0 w g od d jb T cs R) (i : Nat) (v : Value) : LiveC w0 (w.setCell ⟨jb, i, none⟩ v) g od d jb T (cs.setIfInBounds i v) R ∧ Keeps R w (w.setCell ⟨jb, i, none⟩ v) := by
  have c : Chg (fun k => k = jb) w (w.setCell ⟨jb, i, none⟩ v) := (Chg.refl _ w).set jb i v rfl
  have hl := h.live
  have hlt : ∀ k, R k → k < w.heap.size := by obtain ⟨op, _, _, h3, _⟩ := hl; exact fun k hk => h3 k (.inl hk)
  exact ⟨⟨h.live.chg c (.inr rfl) h.lo, h.nr, h.lo, by simp [World.setCell, Array.getElem?_modify, h.blk]⟩, fun k hk => c.block k (hlt k hk) (fun e => h.nr (e ▸ hk))⟩
theorem LiveC.cell (h : LiveC w0 w g od d jb T cs R) (i : Nat) (v : Value) (hv : cs[i]? = some v) : w.cell? ⟨jb, i, none⟩ = some v ∧ w.frozen? ⟨jb, i, none⟩ = false :=
  ⟨by rw [Lib.cell_of_heap h.blk, hv], Lib.frozen_of_heap h.blk i⟩
theorem LiveC.less {R' : Nat → Prop} (h : LiveC w0 w g od d jb T cs R) (hR : ∀ k, R' k → R k) : LiveC w0 w g od d jb T cs R' :=
  ⟨h.live.less (fun k hk => by rcases hk with hk | hk; exact .inl (hR k hk); exact .inr hk), fun hr => h.nr (hR _ hr), h.lo, h.blk⟩
theorem LiveC.lt (h : LiveC w0 w g od d jb T cs R) : ∀ k, R k → k < w.heap.size := by
  obtain ⟨op, _, _, h3, _⟩ := h.live
  exact fun k hk => h3 k (.inl hk)
theorem LiveC.jlt (h : LiveC w0 w g od d jb T cs R) : jb < w.heap.size := by
  obtain ⟨op, _, _, h3, _⟩ := h.live
  exact h3 jb (.inr rfl)
/-- One block more to keep: it has come since. -/
theorem LiveC.more (h : LiveC w0 w g od d jb T cs R) (b : Below w.heap.size w w') (v : Value) (hv : ∀ k, v.ownBlock = some k → w.heap.size ≤ k ∧ k < w'.heap.size) : LiveC w0 w' g od d jb T cs (fun k => R k ∨ v.ownBlock = some k) := by
  have h1 := (h.live.more b v hv).less (R' := fun k => (R k ∨ v.ownBlock = some k) ∨ k = jb) (fun k hk => by
    rcases hk with (hk | hk) | hk
    · exact .inl (.inl hk)
    · exact .inr hk
    · exact .inl (.inr hk))
  refine ⟨h1, fun hr => ?_, h.lo, (b.block jb h.jlt).trans h.blk⟩
  rcases hr with hr | hr
  · exact h.nr hr
  · have := (hv jb hr).1; have := h.jlt; omega
/-- Blocks that were there ahead of the device are kept too. -/
theorem LiveC.old (h : LiveC w0 w g od d jb T cs R) : LiveC w0 w g od d jb T cs (fun k => R k ∨ k < w0.heap.size) := by
  have h1 := h.live.old.less (R' := fun k => (R k ∨ k < w0.heap.size) ∨ k = jb) (fun k hk => by
    rcases hk with (hk | hk) | hk
    · exact .inl (.inl hk)
    · exact .inr hk
    · exact .inl (.inr hk))
  refine ⟨h1, fun hr => ?_, h.lo, h.blk⟩
  rcases hr with hr | hr
  · exact h.nr hr
  · have := h.lo; omega
theorem Keeps.less {R' : Nat → Prop} (h : Keeps R w w') (hR : ∀ k, R' k → R k) : Keeps R' w w' := fun k hk => h k (hR k hk)
end
/-- Writes whose block is kept. -/
theorem Wrs.keeps {w w' : World} {v : Value} {l : List (Int × Txt)} {R : Nat → Prop} (h : Wrs w v l) (hR : ∀ k, v.ownBlock = some k → R k) (c : Keeps R w w') : Wrs w' v l := by
  rcases h with h | ⟨b, off, cap, rfl, h2, h3⟩
  · exact .inl h
  · have hb := c b (hR b rfl)
    have hlt : b < w'.heap.size := by
      rw [Array.getElem?_eq_getElem h2] at hb
      exact (Array.getElem?_eq_some_iff.1 hb).1
    refine .inr ⟨b, off, cap, rfl, hlt, fun i hi => ⟨?_, ?_⟩⟩
    · exact (World.cell?_of_block (a := ⟨b, off + i * 2, none⟩) hb).trans (h3 i hi).1
    · exact (World.cell?_of_block (a := ⟨b, off + i * 2 + 1, none⟩) hb).trans (h3 i hi).2
/-- The cells of a journal. -/
def jcs (g : Nat) (x : Sl) (pos : Int) (next used : Nat) : Array Value := #[.pointer (some ⟨g, 0, none⟩), .int .u64 (x.e : Nat), .int .u64 (x.s : Nat), .int .i64 (x.log : Nat), .int .i64 (x.p : Nat), .int .i64 pos, .int .u64 (next : Nat), .int .i64 (used : Nat)]
/-- A journal that stands in memory. -/
def LiveJ (w0 w : World) (g : Nat) (od : Option Nat) (d : Dv) (jb : Nat) (j : Jn) (R : Nat → Prop) : Prop := LiveC w0 w g od d jb 65 (jcs g j.x (j.pos : Nat) j.next j.used) R
end Go.Proofs.YtlgfjoicdbjfjaaDoor
