/- Chapter 4's law: the World's does. Conditions: a journal's state that may be; numbers and lengths fit. -/
import Derived.Test.YtlgfjoicdbjfjaaDoorJrnV
import Derived.Deep.RegionHeld3
namespace Go.Proofs.YtlgfjoicdbjfjaaDoor
open Go.RowKit Go.Wir Go.Blk Go.Frm Go.Jrn

section
variable {w0 w w' : World} {g : Nat} {od : Option Nat} {d : Dv} {jb : Nat} {j : Jn} {wb : Nat} {R A : Nat → Prop} {T : TypeId} {cs : Array Value}
theorem Live.moreA (h : Live w0 w g od d R) (b : Below w.heap.size w w') (hv : ∀ k, A k → w.heap.size ≤ k ∧ k < w'.heap.size) : Live w0 w' g od d (fun k => R k ∨ A k) := by
  obtain ⟨op, h1, h2, h3, h4⟩ := h
  refine ⟨op, h1.below b, fun k hk => ⟨(h2 k hk).1, fun hr => ?_⟩, fun k hk => ?_, step_call h4 b⟩
  · rcases hr with hr | hr
    · exact (h2 k hk).2 hr
    · have := h1.lt k hk; have := (hv k hr).1; omega
  · rcases hk with hk | hk
    · exact Nat.lt_of_lt_of_le (h3 k hk) b.size
    · exact (hv k hk).2
theorem LiveC.moreA (h : LiveC w0 w g od d jb T cs R) (b : Below w.heap.size w w') (hv : ∀ k, A k → w.heap.size ≤ k ∧ k < w'.heap.size) : LiveC w0 w' g od d jb T cs (fun k => R k ∨ A k) := by
  have h1 := (h.live.moreA b hv).less (R' := fun k => (R k ∨ A k) ∨ k = jb) (fun k hk => by
    rcases hk with (hk | hk) | hk
    · exact .inl (.inl hk)
    · exact .inr hk
    · exact .inl (.inr hk))
  refine ⟨h1, fun hr => ?_, h.lo, (b.block jb h.jlt).trans h.blk⟩
  rcases hr with hr | hr
  · exact h.nr hr
  · have := (hv jb hr).1; have := h.jlt; omega
theorem LiveW.moreA (h : LiveW w0 w g od d jb j wb R) (b : Below w.heap.size w w') (hv : ∀ k, A k → w.heap.size ≤ k ∧ k < w'.heap.size) : LiveW w0 w' g od d jb j wb (fun k => R k ∨ A k) := by
  refine ⟨LiveC.less (LiveC.moreA h.jr b hv) (fun k hk => ?_), fun hr => ?_, h.lo, (b.block wb h.wlt).trans h.blk⟩
  · rcases hk with (hk | hk) | hk
    · exact .inl (.inl hk)
    · exact .inr hk
    · exact .inl (.inr hk)
  · rcases hr with hr | hr
    · exact h.nr hr
    · have := (hv wb hr).1; have := h.wlt; omega
theorem LiveW.old (h : LiveW w0 w g od d jb j wb R) : LiveW w0 w g od d jb j wb (fun k => R k ∨ k < w0.heap.size) := by
  refine ⟨LiveC.less (LiveC.old h.jr) (fun k hk => ?_), fun hr => ?_, h.lo, h.blk⟩
  · rcases hk with (hk | hk) | hk
    · exact .inl (.inl hk)
    · exact .inr hk
    · exact .inl (.inr hk)
  · rcases hr with hr | hr
    · exact h.nr hr
    · have := h.lo; omega
/-- A commit of writes that are kept. -/
theorem w_commitR {K : Nat} (h : LiveW w0 w g od d jb j wb R) (ok : d.Ok) (hj : JFit K j) (hK : K ≤ 900000) (hp : d.pend.length ≤ 5000) (l : List Wr) (v : Value) (hv : Wrs w v l) (hR : ∀ k, v.ownBlock = some k → R k) (hfit : FitW l) (hn : l.length ≤ 100000) :
    Calls Tryd.prog 14 #[.pointer (some ⟨jb, 0, none⟩), v] w fun e w' => e = .returned (.int .i64 ((commit d j l).1 : Nat)) ∧ LiveW w0 w' g od (commit d j l).2.1 jb (commit d j l).2.2 wb R ∧ Keeps R w w' := by
  refine (jr_Commit (R := fun k => R k ∨ k = wb) h.jr ok hj hK hp v l hv (fun k hk => .inl (hR k hk)) hfit hn).mono ?_
  rintro e w' ⟨he, l2, k2⟩
  obtain ⟨l3, k3⟩ := h.step l2 k2
  exact ⟨he, l3, k3⟩
end
/-- A row of eighteen texts that a call owns. -/
def WantAt (w : World) (base g cap : Nat) (L : List Txt) : Prop := L.length = 18 ∧ w.ownsRow base 9 1 (.slice (some ⟨g, 0, none⟩) 18 cap) 18 (txtCells L)
theorem WantAt.of_own {w : World} {base : Nat} {v : Value} {L : List Txt} (hl : L.length = 18) (h : w.ownsRow base 9 1 v 18 (txtCells L)) : ∃ g cap, v = .slice (some ⟨g, 0, none⟩) 18 cap ∧ base ≤ g ∧ g < w.heap.size ∧ WantAt w base g cap L := by
  obtain ⟨g, cap, cur, hv, hg, _⟩ := own_txt (by rw [hl]; exact h) (by omega)
  rw [hl] at hv
  subst hv
  exact ⟨g, cap, rfl, (h.lt g rfl).1, hg, hl, h⟩
theorem WantAt.cell {w : World} {base g cap : Nat} {L : List Txt} (h : WantAt w base g cap L) (i : Nat) (hi : i < 18) : w.cell? ⟨g, i, none⟩ = some (.string (B (L[i]'(by rw [h.1]; exact hi)))) ∧ w.frozen? ⟨g, i, none⟩ = false ∧ g < w.heap.size ∧ 18 ≤ cap := by
  have h2 := h.2
  rw [← h.1] at h2
  obtain ⟨g', cap', cur, hv, hg, hc, _, _, hcell, hfz⟩ := own_txt h2 (by rw [h.1]; omega)
  simp only [Value.slice.injEq, Option.some.injEq, Addr.mk.injEq, and_true, true_and] at hv
  obtain ⟨rfl, rfl⟩ := hv
  exact ⟨hcell i (by rw [h.1]; exact hi), hfz i, hg, by rw [h.1] at hc; exact hc⟩
theorem WantAt.set {w : World} {base g cap : Nat} {L : List Txt} (h : WantAt w base g cap L) (i : Nat) (hi : i < 18) (s : Txt) : WantAt (w.setCell ⟨g, i, none⟩ (.string (B s))) base g cap (L.set i s) := by
  have h2 := h.2
  rw [← h.1] at h2
  have h3 := own_txt_set h2 i (by rw [h.1]; exact hi) s
  rw [List.length_set, h.1] at h3
  exact ⟨by rw [List.length_set]; exact h.1, h3⟩
theorem WantAt.keep {w w' : World} {base g cap : Nat} {L : List Txt} (h : WantAt w base g cap L) (hb : w'.heap[g]? = w.heap[g]?) : WantAt w' base g cap L := by
  refine ⟨h.1, ?_⟩
  refine ⟨h.2.1, ?_⟩
  rcases h.2.2 with ⟨hn, _⟩ | ⟨g', cap', cur, he, h1, h2, h3⟩
  · cases hn
  · have he' := he
    simp only [Value.slice.injEq, Option.some.injEq, Addr.mk.injEq, and_true, true_and] at he'
    obtain ⟨rfl, rfl⟩ := he'
    exact .inr ⟨g, cap, cur, he, h1, hb.trans h2, h3⟩
theorem WantAt.below {w w' : World} {base g cap : Nat} {L : List Txt} (h : WantAt w base g cap L) (b : Below w.heap.size w w') : WantAt w' base g cap L := h.keep (b.block g (h.cell 0 (by omega)).2.2.1)
theorem WantAt.row {w : World} {base g cap : Nat} {L : List Txt} (h : WantAt w base g cap L) : Row w (.slice (some ⟨g, 0, none⟩) 18 cap) (txtV L) := own_row (by rw [h.1]; exact h.2)
theorem h7o_drew {w : World} {p b o : Nat} {v v0 v1 v2 v3 v4 v5 : Value} (h : w.cell? ⟨p, 1, none⟩ = some v) (h0 : w.cell? ⟨b, o, none⟩ = some v0) (h1 : w.cell? ⟨b, o + 1, none⟩ = some v1) (h2 : w.cell? ⟨b, o + 2, none⟩ = some v2) (h3 : w.cell? ⟨b, o + 3, none⟩ = some v3) (h4 : w.cell? ⟨b, o + 4, none⟩ = some v4) (h5 : w.cell? ⟨b, o + 5, none⟩ = some v5) : w.drew.cell? ⟨p, 1, none⟩ = some v ∧ w.drew.cell? ⟨b, o, none⟩ = some v0 ∧ w.drew.cell? ⟨b, o + 1, none⟩ = some v1 ∧ w.drew.cell? ⟨b, o + 2, none⟩ = some v2 ∧ w.drew.cell? ⟨b, o + 3, none⟩ = some v3 ∧ w.drew.cell? ⟨b, o + 4, none⟩ = some v4 ∧ w.drew.cell? ⟨b, o + 5, none⟩ = some v5 := ⟨h, h0, h1, h2, h3, h4, h5⟩
theorem h7o_call {w w' : World} {p b o : Nat} {v v0 v1 v2 v3 v4 v5 : Value} (hb : Below w.heap.size w w') (h : w.cell? ⟨p, 1, none⟩ = some v ∧ w.cell? ⟨b, o, none⟩ = some v0 ∧ w.cell? ⟨b, o + 1, none⟩ = some v1 ∧ w.cell? ⟨b, o + 2, none⟩ = some v2 ∧ w.cell? ⟨b, o + 3, none⟩ = some v3 ∧ w.cell? ⟨b, o + 4, none⟩ = some v4 ∧ w.cell? ⟨b, o + 5, none⟩ = some v5) :
    w'.cell? ⟨p, 1, none⟩ = some v ∧ w'.cell? ⟨b, o, none⟩ = some v0 ∧ w'.cell? ⟨b, o + 1, none⟩ = some v1 ∧ w'.cell? ⟨b, o + 2, none⟩ = some v2 ∧ w'.cell? ⟨b, o + 3, none⟩ = some v3 ∧ w'.cell? ⟨b, o + 4, none⟩ = some v4 ∧ w'.cell? ⟨b, o + 5, none⟩ = some v5 := ⟨cell_call hb h.1, cell_call hb h.2.1, cell_call hb h.2.2.1, cell_call hb h.2.2.2.1, cell_call hb h.2.2.2.2.1, cell_call hb h.2.2.2.2.2.1, cell_call hb h.2.2.2.2.2.2⟩
theorem h7o_blk {w w' : World} {p b o : Nat} {v v0 v1 v2 v3 v4 v5 : Value} (hp : w'.heap[p]? = w.heap[p]?) (hb : w'.heap[b]? = w.heap[b]?) (h : w.cell? ⟨p, 1, none⟩ = some v ∧ w.cell? ⟨b, o, none⟩ = some v0 ∧ w.cell? ⟨b, o + 1, none⟩ = some v1 ∧ w.cell? ⟨b, o + 2, none⟩ = some v2 ∧ w.cell? ⟨b, o + 3, none⟩ = some v3 ∧ w.cell? ⟨b, o + 4, none⟩ = some v4 ∧ w.cell? ⟨b, o + 5, none⟩ = some v5) :
    w'.cell? ⟨p, 1, none⟩ = some v ∧ w'.cell? ⟨b, o, none⟩ = some v0 ∧ w'.cell? ⟨b, o + 1, none⟩ = some v1 ∧ w'.cell? ⟨b, o + 2, none⟩ = some v2 ∧ w'.cell? ⟨b, o + 3, none⟩ = some v3 ∧ w'.cell? ⟨b, o + 4, none⟩ = some v4 ∧ w'.cell? ⟨b, o + 5, none⟩ = some v5 :=
  ⟨(World.cell?_of_block (a := ⟨p, 1, none⟩) hp).trans h.1, (World.cell?_of_block (a := ⟨b, o, none⟩) hb).trans h.2.1, (World.cell?_of_block (a := ⟨b, o + 1, none⟩) hb).trans h.2.2.1, (World.cell?_of_block (a := ⟨b, o + 2, none⟩) hb).trans h.2.2.2.1, (World.cell?_of_block (a := ⟨b, o + 3, none⟩) hb).trans h.2.2.2.2.1, (World.cell?_of_block (a := ⟨b, o + 4, none⟩) hb).trans h.2.2.2.2.2.1, (World.cell?_of_block (a := ⟨b, o + 5, none⟩) hb).trans h.2.2.2.2.2.2⟩
theorem h6_call {w w' : World} {b : Nat} {v0 v1 v2 v3 v4 v5 : Value} (hb : Below w.heap.size w w') (h : w.cell? ⟨b, 0, none⟩ = some v0 ∧ w.cell? ⟨b, 1, none⟩ = some v1 ∧ w.cell? ⟨b, 2, none⟩ = some v2 ∧ w.cell? ⟨b, 3, none⟩ = some v3 ∧ w.cell? ⟨b, 4, none⟩ = some v4 ∧ w.cell? ⟨b, 5, none⟩ = some v5) :
    w'.cell? ⟨b, 0, none⟩ = some v0 ∧ w'.cell? ⟨b, 1, none⟩ = some v1 ∧ w'.cell? ⟨b, 2, none⟩ = some v2 ∧ w'.cell? ⟨b, 3, none⟩ = some v3 ∧ w'.cell? ⟨b, 4, none⟩ = some v4 ∧ w'.cell? ⟨b, 5, none⟩ = some v5 :=
  ⟨cell_call hb h.1, cell_call hb h.2.1, cell_call hb h.2.2.1, cell_call hb h.2.2.2.1, cell_call hb h.2.2.2.2.1, cell_call hb h.2.2.2.2.2⟩
theorem h7_drew {w : World} {p b : Nat} {v v0 v1 v2 v3 v4 v5 : Value} (h : w.cell? ⟨p, 1, none⟩ = some v) (h0 : w.cell? ⟨b, 0, none⟩ = some v0) (h1 : w.cell? ⟨b, 1, none⟩ = some v1) (h2 : w.cell? ⟨b, 2, none⟩ = some v2) (h3 : w.cell? ⟨b, 3, none⟩ = some v3) (h4 : w.cell? ⟨b, 4, none⟩ = some v4) (h5 : w.cell? ⟨b, 5, none⟩ = some v5) : w.drew.cell? ⟨p, 1, none⟩ = some v ∧ w.drew.cell? ⟨b, 0, none⟩ = some v0 ∧ w.drew.cell? ⟨b, 1, none⟩ = some v1 ∧ w.drew.cell? ⟨b, 2, none⟩ = some v2 ∧ w.drew.cell? ⟨b, 3, none⟩ = some v3 ∧ w.drew.cell? ⟨b, 4, none⟩ = some v4 ∧ w.drew.cell? ⟨b, 5, none⟩ = some v5 := ⟨h, h0, h1, h2, h3, h4, h5⟩
theorem h7_call {w w' : World} {p b : Nat} {v v0 v1 v2 v3 v4 v5 : Value} (hb : Below w.heap.size w w') (h : w.cell? ⟨p, 1, none⟩ = some v ∧ w.cell? ⟨b, 0, none⟩ = some v0 ∧ w.cell? ⟨b, 1, none⟩ = some v1 ∧ w.cell? ⟨b, 2, none⟩ = some v2 ∧ w.cell? ⟨b, 3, none⟩ = some v3 ∧ w.cell? ⟨b, 4, none⟩ = some v4 ∧ w.cell? ⟨b, 5, none⟩ = some v5) :
    w'.cell? ⟨p, 1, none⟩ = some v ∧ w'.cell? ⟨b, 0, none⟩ = some v0 ∧ w'.cell? ⟨b, 1, none⟩ = some v1 ∧ w'.cell? ⟨b, 2, none⟩ = some v2 ∧ w'.cell? ⟨b, 3, none⟩ = some v3 ∧ w'.cell? ⟨b, 4, none⟩ = some v4 ∧ w'.cell? ⟨b, 5, none⟩ = some v5 := ⟨cell_call hb h.1, h6_call hb h.2⟩
theorem h7_blk {w w' : World} {p b : Nat} {v v0 v1 v2 v3 v4 v5 : Value} (hp : w'.heap[p]? = w.heap[p]?) (hb : w'.heap[b]? = w.heap[b]?) (h : w.cell? ⟨p, 1, none⟩ = some v ∧ w.cell? ⟨b, 0, none⟩ = some v0 ∧ w.cell? ⟨b, 1, none⟩ = some v1 ∧ w.cell? ⟨b, 2, none⟩ = some v2 ∧ w.cell? ⟨b, 3, none⟩ = some v3 ∧ w.cell? ⟨b, 4, none⟩ = some v4 ∧ w.cell? ⟨b, 5, none⟩ = some v5) :
    w'.cell? ⟨p, 1, none⟩ = some v ∧ w'.cell? ⟨b, 0, none⟩ = some v0 ∧ w'.cell? ⟨b, 1, none⟩ = some v1 ∧ w'.cell? ⟨b, 2, none⟩ = some v2 ∧ w'.cell? ⟨b, 3, none⟩ = some v3 ∧ w'.cell? ⟨b, 4, none⟩ = some v4 ∧ w'.cell? ⟨b, 5, none⟩ = some v5 :=
  ⟨(World.cell?_of_block (a := ⟨p, 1, none⟩) hp).trans h.1, (World.cell?_of_block (a := ⟨b, 0, none⟩) hb).trans h.2.1, (World.cell?_of_block (a := ⟨b, 1, none⟩) hb).trans h.2.2.1, (World.cell?_of_block (a := ⟨b, 2, none⟩) hb).trans h.2.2.2.1, (World.cell?_of_block (a := ⟨b, 3, none⟩) hb).trans h.2.2.2.2.1, (World.cell?_of_block (a := ⟨b, 4, none⟩) hb).trans h.2.2.2.2.2.1, (World.cell?_of_block (a := ⟨b, 5, none⟩) hb).trans h.2.2.2.2.2.2⟩
theorem h4x_drew {w : World} {p b : Nat} {v v1 v2 v3 : Value} (h : w.cell? ⟨p, 0, none⟩ = some v) (h1 : w.cell? ⟨b, 1, none⟩ = some v1) (h2 : w.cell? ⟨b, 2, none⟩ = some v2) (h3 : w.cell? ⟨b, 3, none⟩ = some v3) : w.drew.cell? ⟨p, 0, none⟩ = some v ∧ w.drew.cell? ⟨b, 1, none⟩ = some v1 ∧ w.drew.cell? ⟨b, 2, none⟩ = some v2 ∧ w.drew.cell? ⟨b, 3, none⟩ = some v3 := ⟨h, h1, h2, h3⟩
theorem h4x_blk {w w' : World} {p b : Nat} {v v1 v2 v3 : Value} (hp : w'.heap[p]? = w.heap[p]?) (hb : w'.heap[b]? = w.heap[b]?) (h : w.cell? ⟨p, 0, none⟩ = some v ∧ w.cell? ⟨b, 1, none⟩ = some v1 ∧ w.cell? ⟨b, 2, none⟩ = some v2 ∧ w.cell? ⟨b, 3, none⟩ = some v3) :
    w'.cell? ⟨p, 0, none⟩ = some v ∧ w'.cell? ⟨b, 1, none⟩ = some v1 ∧ w'.cell? ⟨b, 2, none⟩ = some v2 ∧ w'.cell? ⟨b, 3, none⟩ = some v3 :=
  ⟨(World.cell?_of_block (a := ⟨p, 0, none⟩) hp).trans h.1, (World.cell?_of_block (a := ⟨b, 1, none⟩) hb).trans h.2.1, (World.cell?_of_block (a := ⟨b, 2, none⟩) hb).trans h.2.2.1, (World.cell?_of_block (a := ⟨b, 3, none⟩) hb).trans h.2.2.2⟩
theorem boxed6 (w : World) (a : Act4) (vk vb : Value) (ty : TypeId) : (w.alloc (.cells #[.int .i64 a.op, .int .i64 a.n, .int .i64 a.pos, vk, vb, .string (B a.data)] ty)).cell? ⟨w.heap.size, 0, none⟩ = some (.int .i64 a.op) ∧ (w.alloc (.cells #[.int .i64 a.op, .int .i64 a.n, .int .i64 a.pos, vk, vb, .string (B a.data)] ty)).cell? ⟨w.heap.size, 1, none⟩ = some (.int .i64 a.n) ∧
    (w.alloc (.cells #[.int .i64 a.op, .int .i64 a.n, .int .i64 a.pos, vk, vb, .string (B a.data)] ty)).cell? ⟨w.heap.size, 2, none⟩ = some (.int .i64 a.pos) ∧ (w.alloc (.cells #[.int .i64 a.op, .int .i64 a.n, .int .i64 a.pos, vk, vb, .string (B a.data)] ty)).cell? ⟨w.heap.size, 3, none⟩ = some vk ∧
    (w.alloc (.cells #[.int .i64 a.op, .int .i64 a.n, .int .i64 a.pos, vk, vb, .string (B a.data)] ty)).cell? ⟨w.heap.size, 4, none⟩ = some vb ∧ (w.alloc (.cells #[.int .i64 a.op, .int .i64 a.n, .int .i64 a.pos, vk, vb, .string (B a.data)] ty)).cell? ⟨w.heap.size, 5, none⟩ = some (.string (B a.data)) := by
  have hh := heap_alloc_new w (.cells #[.int .i64 a.op, .int .i64 a.n, .int .i64 a.pos, vk, vb, .string (B a.data)] ty)
  refine ⟨?_, ?_, ?_, ?_, ?_, ?_⟩ <;> (rw [Lib.cell_of_heap hh]; rfl)
section
variable {w0 w w1 w' : World} {g : Nat} {od : Option Nat} {d d' : Dv} {jb : Nat} {j j' : Jn} {wb : Nat} {R : Nat → Prop}
set_option maxRecDepth 100000 in
set_option maxHeartbeats 3200000 in
theorem w_does {K : Nat} (h : LiveW w0 w g od d jb j wb noneR) (hs : St K d j) (hK : K ≤ 700000) (a : Act4) (ha : AOk a) (vk vb : Value) (hrk : Row w vk (a.keep.map Value.bool)) (hrb : Row w vb (a.blocks.map (Value.int .i64))) (hold : 0 < a.keep.length → ∀ q, vk.ownBlock = some q → q < w0.heap.size) :
    Calls Tryd.prog 24 #[.pointer (some ⟨wb, 0, none⟩), actV a vk vb] w fun e w' => ∃ jb', e = .returned (.int .i64 ((doesJ d j a).1 : Nat)) ∧ LiveW w0 w' g od (doesJ d j a).2.1 jb' (doesJ d j a).2.2 wb noneR := by
  have hpk := pickJ_lt a.op 9 (by omega)
  have hpn := pickJ_lt a.n 60 (by omega)
  have Hpk := Lib.hid (fun w => law_pick a.op 9 ha.op.1 ha.op.2 (by omega) (by omega) w)
  have Hpn := Lib.hid (fun w => law_pick a.n 60 ha.n.1 ha.n.2 (by omega) (by omega) w)
  have HJ : Hid (doesJ d j a = if pickJ a.op 9 = 6 then ckpt d j
    else if pickJ a.op 9 = 7 then (0, fuseD d ((pickJ a.n 60 : Nat) : Int), j)
    else if pickJ a.op 9 = 8 then ((openP (crashD d a.keep a.pos a.n)).1, (openP (crashD d a.keep a.pos a.n)).2.1, (openP (crashD d a.keep a.pos a.n)).2.2.getD j)
    else commit d j (writesJ a)) := Lib.hid rfl
  obtain ⟨hok, hdl, hpe⟩ := hs.ok
  have Hok := Lib.hid hok
  have Hs := Lib.hid hs
  have Hjf := Lib.hid hs.1
  have Ha := Lib.hid ha
  obtain ⟨ok, ck, rfl⟩ := row_len4 hrk
  obtain ⟨ob, cb, rfl⟩ := row_len4 hrb
  have Hold := Lib.hid hold
  rw [List.length_map] at hrk hrb Hold ⊢
  rw [List.length_map]
  have HBo : Hid (∀ vk vb, Below w.heap.size w (w.alloc (.cells #[.int .i64 a.op, .int .i64 a.n, .int .i64 a.pos, vk, vb, .string (B a.data)] 40))) := Lib.hid (fun _ _ => step_new (Below.refl w.heap.size w) _)
  have Hrk0 := Lib.hid (hrk.below (HBo.out (.slice ok a.keep.length ck) (.slice ob a.blocks.length cb)))
  have Hrb0 := Lib.hid (hrb.below (HBo.out (.slice ok a.keep.length ck) (.slice ob a.blocks.length cb)))
  have l1 := h.more (HBo.out (.slice ok a.keep.length ck) (.slice ob a.blocks.length cb)) (.slice (some ⟨w.heap.size, 0, none⟩) 1 1) (fun k hk => by simp only [Value.ownBlock, Option.some.injEq] at hk; subst hk; exact ⟨Nat.le_refl _, by simp⟩)
  have g1 := heap_alloc_new w (.cells #[.int .i64 a.op, .int .i64 a.n, .int .i64 a.pos, .slice ok a.keep.length ck, .slice ob a.blocks.length cb, .string (B a.data)] 40)
  have G1 := Lib.hid g1
  have L0 := Lib.hid l1
  have HE : Hid (pickN a.op 9 = pickJ a.op 9) := Lib.hid rfl
  have HEn : Hid (pickN a.n 60 = pickJ a.n 60) := Lib.hid rfl
  rw [HE.out] at Hpk
  rw [HEn.out] at Hpn
  obtain ⟨a0, a1, a2, a3, a4, a5⟩ := boxed6 w a (.slice ok a.keep.length ck) (.slice ob a.blocks.length cb) 40
  obtain ⟨d0, d1, d2⟩ := l1.cells
  clear h hs ha hrk hrb hold hok l1 HBo HE HEn g1
  generalize hk : pickJ a.op 9 = k at *
  have HK := Lib.hid hk
  clear hk
  unfold actV
  go_enter Tryd.func24, Tryd.ntmps24
  go_wp2_with fail
  refine (Hpk.out _).mono ?_
  rintro e w1 ⟨rfl, hw1⟩
  rw [hw1] at a0 a1 a2 a3 a4 a5 d0 d1 d2 L0 Hrk0 Hrb0 G1
  have L1 : Hid (LiveW w0 w1.drew g od d jb j wb _) := Lib.hid (L0.out.drew 1).1
  have Hrk := Lib.hid (Hrk0.out.below (below_drew w1))
  have Hrb := Lib.hid (Hrb0.out.below (below_drew w1))
  clear Hrk0 hw1
  generalize hbx : w.heap.size = bx at *
  clear hbx
  rcases (show k = 6 ∨ k = 7 ∨ k = 8 ∨ (k ≠ 6 ∧ k ≠ 7 ∧ k ≠ 8) by omega) with rfl | rfl | rfl | ⟨k6, k7, k8⟩
  · have HCk := Lib.hid (jr_Checkpoint L0.out.jr Hok.out Hjf.out (by omega) (by omega))
    have HJ1 : Hid (doesJ d j a = ckpt d j) := Lib.hid (by rw [HJ.out, if_pos rfl])
    go_wp2_with fail
    refine HCk.out.mono ?_
    rintro e w2 ⟨rfl, l2, k2⟩
    obtain ⟨l3, _⟩ := L0.out.step l2 k2
    have L3 := Lib.hid (l3.less (R' := noneR) (fun k hk => .inl hk))
    clear l2 k2 l3
    go_wp2
    go_ret
    rw [HJ1.out]
    exact ⟨jb, rfl, L3.out⟩
  · have HFu := Lib.hid (live_Fuse L1.out.jr.live ((pickJ a.n 60 : Nat) : Int))
    have HJ1 : Hid (doesJ d j a = (0, fuseD d ((pickJ a.n 60 : Nat) : Int), j)) := Lib.hid (by rw [HJ.out, if_neg (by omega), if_pos rfl])
    clear HJ
    generalize pickJ a.n 60 = pn at *
    go_wp2_with fail
    go_region_with (first
      | (go_at_call 20; refine (Hpn.out _).mono ?_; rintro e wq ⟨rfl, rfl⟩)
      | (go_at_call 19; refine HFu.out.mono ?_; rintro e w2 ⟨rfl, l2, k2⟩; have L2 := Lib.hid (LiveW.dev L1.out l2 k2).1)
      | fail)
    all_goals
      go_wp2
      go_ret
      rw [HJ1.out]
      exact ⟨jb, rfl, L2.out.less (fun k hk => .inl hk)⟩
  · have HJ1 : Hid (doesJ d j a = ((openP (crashD d a.keep a.pos a.n)).1, (openP (crashD d a.keep a.pos a.n)).2.1, (openP (crashD d a.keep a.pos a.n)).2.2.getD j)) := Lib.hid (by rw [HJ.out, if_neg (by omega), if_neg (by omega), if_pos rfl])
    obtain ⟨m, x, pos, fs, hI⟩ := Hs.out.crash a.keep a.pos a.n
    have Hch := Lib.hid (inv_choose hI (by omega) rfl rfl)
    have Hcl := Lib.hid hI.len
    have Hco := Lib.hid (crash_ok Hok.out a.keep a.pos a.n)
    have Hcp : Hid ((crashD d a.keep a.pos a.n).pend.length ≤ 200) := Lib.hid (Nat.zero_le _)
    obtain ⟨d', j', m', he, hr, _, _⟩ := Hs.out.reopen (by omega) a.keep a.pos a.n
    have HJ2 : Hid (doesJ d j a = (0, d', j')) := Lib.hid (by rw [HJ1.out, he]; rfl)
    have HCr := Lib.hid (live_Crash L1.out.jr.live Hok.out (by omega) (.slice ok a.keep.length ck) a.keep a.pos a.n Hrk.out (fun h0 q hq => .inl (Hold.out h0 q hq)) Ha.out.keep)
    have He := Lib.hid he
    clear hI he hr HJ HJ1
    generalize crashD d a.keep a.pos a.n = dc at *
    go_wp2_with fail
    go_region_held3 (fun w' => w'.cell? ⟨wb, 0, none⟩ = some (.pointer (some ⟨g, 0, none⟩)) ∧ w'.cell? ⟨bx, 1, none⟩ = some (.int .i64 a.n) ∧ w'.cell? ⟨bx, 2, none⟩ = some (.int .i64 a.pos) ∧ w'.cell? ⟨bx, 3, none⟩ = some (.slice ok a.keep.length ck))
      (first | with_reducible exact h4x_drew d0 a1 a2 a3 | with_reducible exact h4x_blk hw2 hx2 (h4x_drew d0 a1 a2 a3) | with_reducible assumption | fail)
      (first
        | (go_at_call 22; go_must (refine HCr.out.mono ?_); rintro e w2 ⟨rfl, l2, k2⟩; have L2 := Lib.hid l2; have K2 := Lib.hid k2; have hw2 := k2 wb (.inl (.inr rfl)); have hx2 := k2 bx (.inl (.inl (.inr rfl))))
        | fail)
    all_goals
      have C2 := Lib.hid ((K2.out wb (.inl (.inr rfl))).trans L1.out.blk)
      have d0' : w2.cell? ⟨wb, 0, none⟩ = some (.pointer (some ⟨g, 0, none⟩)) := by rw [Lib.cell_of_heap C2.out]; rfl
      have HOp := Lib.hid (jr_Open L2.out Hco.out (by rw [Hcl.out]; omega) Hcp.out (by omega) Hch.out)
      rw [He.out] at HOp
      go_wp2_with fail
      refine HOp.out.mono ?_
      rintro e w3 ⟨k3, hpost⟩
      rw [if_pos rfl] at hpost
      obtain ⟨jb2, j2, hj2, rfl, lj, _⟩ := hpost
      simp only [Option.some.injEq] at hj2
      subst hj2
      have c3 := (k3 wb (.inl (.inr rfl))).trans C2.out
      have hset := LiveW.jset (LiveC.less lj (R' := fun k => noneR k ∨ k = wb) (fun k hk => .inl (hk.elim (fun h => h.elim) .inr))) (fun h => h) L1.out.lo jb c3
      have Hset := Lib.hid hset
      have f3' : w3.cell? ⟨wb, 1, none⟩ = some (.pointer (some ⟨jb, 0, none⟩)) := by rw [Lib.cell_of_heap c3]; rfl
      have f3 : w3.frozen? ⟨wb, 1, none⟩ = false := Lib.frozen_of_heap c3 1
      clear lj k3 c3 hset
      go_wp2
      go_ret
      rw [HJ2.out]
      exact ⟨jb2, rfl, Hset.out⟩
  · have HJ1 : Hid (doesJ d j a = commit d j (writesJ a)) := Lib.hid (by rw [HJ.out, if_neg k6, if_neg k7, if_neg k8])
    have hwl := writesJ_length a
    have hwf := Lib.hid (writesJ_fitW Ha.out)
    have q6 : ((k : Int) == 6) = false := by rw [beq_eq_false_iff_ne]; omega
    have q7 : ((k : Int) == 7) = false := by rw [beq_eq_false_iff_ne]; omega
    have q8 : ((k : Int) == 8) = false := by rw [beq_eq_false_iff_ne]; omega
    clear HJ k6 k7 k8
    have hwr := law_writes a Ha.out (.slice ok a.keep.length ck) (.slice ob a.blocks.length cb) w1.drew Hrb.out
    unfold actV at hwr
    have HWr := Lib.hid hwr
    clear hwr
    generalize writesJ a = x at *
    go_wp2_with fail
    go_region_held3 (fun w' => w'.cell? ⟨wb, 1, none⟩ = some (.pointer (some ⟨jb, 0, none⟩)) ∧ w'.cell? ⟨bx, 0, none⟩ = some (.int .i64 a.op) ∧ w'.cell? ⟨bx, 1, none⟩ = some (.int .i64 a.n) ∧ w'.cell? ⟨bx, 2, none⟩ = some (.int .i64 a.pos) ∧ w'.cell? ⟨bx, 3, none⟩ = some (.slice ok a.keep.length ck) ∧ w'.cell? ⟨bx, 4, none⟩ = some (.slice ob a.blocks.length cb) ∧ w'.cell? ⟨bx, 5, none⟩ = some (.string (B a.data)))
      (first | with_reducible exact h7_drew d1 a0 a1 a2 a3 a4 a5 | with_reducible exact h7_call hb4 (by assumption) | with_reducible exact h7_blk hw6 hx6 (h7_drew d1 a0 a1 a2 a3 a4 a5) | with_reducible assumption | fail)
      (first
        | (go_at_call 13; go_must (refine HWr.out.mono ?_); rintro e w4 ⟨vx, rfl, hb4, hown4⟩; obtain ⟨ax, cx, rfl⟩ := own_form hown4; have HC := Lib.hid (w_commitV L1.out hb4 Hok.out Hjf.out (by omega) (by omega) x _ hown4 hwf.out (by omega)))
        | (go_at_call 14; go_must (refine HC.out.mono ?_); rintro e w6 ⟨rfl, l6, _, k6, _⟩; have L6 := Lib.hid l6; have hw6 := l6.blk.trans L1.out.blk.symm; have hx6 := k6 bx (.inr rfl))
        | fail)
    all_goals
      go_wp2
      go_ret
      rw [HJ1.out]
      exact ⟨jb, rfl, L6.out.less (fun k hk => .inl hk)⟩
end
end Go.Proofs.YtlgfjoicdbjfjaaDoor
