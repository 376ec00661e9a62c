/- Chapter 6: codexref6's first. Condition: at most 100000 blocks. -/
import Derived.Test.YtikkdhfbihejbaaCchT
namespace Go.Proofs.Ytikkdhfbihejbaa
open Go.RowKit Go.Cch
attribute [local go_sem] Oper.semAt_some

theorem own_one {w : World} {base g : Nat} {x0 x1 x2 x3 : Value} {ty : TypeId} (h : w.heap[g]? = some (.cells #[x0, x1, x2, x3] ty)) (hb : base ≤ g) : w.ownsRow base ty 4 (.slice (some ⟨g, 0, none⟩) 1 1) 1 [x0, x1, x2, x3] :=
  ⟨by simp, .inr ⟨g, 1, _, rfl, hb, h, Nat.le_refl _, by unfold maxLen; omega, by simp, by simp⟩⟩
theorem own_cases {w : World} {base : Nat} {e : TypeId} {size n c : Nat} {oa : Option Addr} {xs : List Value} (h : w.ownsRow base e size (.slice oa n c) n xs) : oa = none → n = 0 ∧ c = 0 := by
  rcases h.2 with ⟨h0, h1⟩ | ⟨g, cap, cur, h0, _, _, h1, _⟩
  · simp only [Value.slice.injEq] at h0
    exact fun _ => ⟨h1, h0.2.2⟩
  · simp only [Value.slice.injEq, true_and] at h0
    exact fun e => by rw [e] at h0; cases h0.1
theorem own_news {w : World} {base n c size : Nat} {oa : Option Addr} {e : TypeId} {xs : List Value} (h : w.ownsRow base e size (.slice oa n c) n xs) :
    ∀ W', Below w.heap.size w W' → ∀ ad, oa = some ad → ∀ i u, xs[i]? = some u → W'.cell? (ad.add i) = some u := by
  intro W' hb ad e i u hu
  subst e
  rcases h.2 with ⟨h0, h1⟩ | ⟨g, cap, cur, h0, _, _, h1, _⟩
  · simp at h0
  · simp only [Value.slice.injEq, true_and, Option.some.injEq] at h0
    obtain ⟨rfl, rfl⟩ := h0
    have hg := (h.lt g rfl).2
    have e1 : (⟨g, 0, none⟩ : Addr).add i = ⟨g, i, none⟩ := by unfold Addr.add; split <;> simp_all
    have := h.cells (g := g) rfl i u hu
    rw [e1] at this ⊢
    exact cell_below hb hg this
set_option maxRecDepth 100000 in
set_option maxHeartbeats 6400000 in
theorem ref_first {w : World} {K rb : Nat} {v : Value} {c : Ch} (h : RAt w K rb v c) (hK : K ≤ w.heap.size) (x : Kd) (hl : c.l.length ≤ 100000) :
    Calls Try.prog 51 #[.pointer (some ⟨rb, 0, none⟩), kdV x] w fun e w' => e = .returned (.tuple #[]) ∧ MutR w w' K rb v { c with l := x :: c.l } := by
  obtain ⟨i0, hi, hz0, hz1, hz2⟩ := info_parts Try.info_kd6
  obtain ⟨oa, cp, rfl⟩ := h.form
  have hrb := h.lt (.inl rfl)
  have hchg0 : Chg (fun k => k = rb) w (w.alloc (.cells #[.int .i64 x.pos, .string (B x.data), .bool x.dirty, .int .i64 ((x.pins : Nat) : Int)] 57)) := (Chg.refl _ w).new _
  have hz : (w.alloc (.cells #[.int .i64 x.pos, .string (B x.data), .bool x.dirty, .int .i64 ((x.pins : Nat) : Int)] 57)).heap.size = w.heap.size + 1 := by simp
  obtain ⟨x0, x1, x2, x3, -, -, -, -⟩ := new4 (heap_alloc_new w (.cells #[.int .i64 x.pos, .string (B x.data), .bool x.dirty, .int .i64 ((x.pins : Nat) : Int)] 57))
  have H := Lib.hid h
  have hR1 := h.below (step_new (Below.refl w.heap.size w) (.cells #[.int .i64 x.pos, .string (B x.data), .bool x.dirty, .int .i64 ((x.pins : Nat) : Int)] 57))
  obtain ⟨d0, -, -, df0, -⟩ := hR1.cells
  have HR1 := Lib.hid hR1
  have Hrow := Lib.hid hR1.row
  have Hchg := Lib.hid hchg0
  clear h hR1 hchg0
  unfold kdV
  go_enter Try.func51, Try.ntmps51
  go_wp2
  generalize w.alloc (.cells #[.int .i64 x.pos, .string (B x.data), .bool x.dirty, .int .i64 ((x.pins : Nat) : Int)] 57) = wq at *
  have Hn := Lib.hid (own_news Hrow.out)
  have Hnil := Lib.hid (own_cases Hrow.out)
  have Hlt : Hid ((kdCells c.l).length = c.l.length * 4) := Lib.hid <| flat_len kdC_len _
  have d0x : (wq.alloc (.cells #[.int .i64 x.pos, .string (B x.data), .bool x.dirty, .int .i64 ((x.pins : Nat) : Int)] 57)).cell? ⟨rb, 0, none⟩ = some (.slice oa c.l.length cp) := cell_alloc _ d0
  have x0x := cell_alloc (.cells #[.int .i64 x.pos, .string (B x.data), .bool x.dirty, .int .i64 ((x.pins : Nat) : Int)] 57) x0
  have hnew : (wq.alloc (.cells #[.int .i64 x.pos, .string (B x.data), .bool x.dirty, .int .i64 ((x.pins : Nat) : Int)] 57)).heap[w.heap.size + 1]? = some (.cells #[.int .i64 x.pos, .string (B x.data), .bool x.dirty, .int .i64 ((x.pins : Nat) : Int)] 57) := by rw [← hz]; exact heap_alloc_new wq _
  have Hnew := Lib.hid hnew
  clear hnew
  go_region_law (first
    | (refine step_append_any _ (by rfl) _ _ _ (by rfl) wq.heap.size 57 i0 _ 4 40 Try.underlying51 hi hz0 hz1 hz2 rfl (by decide) (.slice (some ⟨w.heap.size + 1, 0, none⟩) 1 1) 1 [.int .i64 x.pos, .string (B x.data), .bool x.dirty, .int .i64 ((x.pins : Nat) : Int)] (by rfl) (own_one Hnew.out (by omega)) oa c.l.length cp (kdCells c.l) (by rfl) Hlt.out Hnil.out (Hn.out _ (by first | exact step_new (Below.refl _ wq) _ | exact step_new (below_to_drew (Below.refl _ wq)) _)) (kd_one _) (by unfold maxLen; omega) (by omega) (by first | omega | (simp; done) | (simp; omega)) ?_
       intro v6 w6 hown6 hgrow6 _
       obtain ⟨oa6, cp6, rfl⟩ := own_form hown6
       have hb6 : Below wq.heap.size wq w6 := Below.grown (by first | exact step_new (Below.refl _ wq) _ | exact step_new (below_to_drew (Below.refl _ wq)) _) hgrow6 (by first | (simp; done) | (simp; omega)) (fun j e => (by simp [Value.ownBlock] at e; omega))
       have d6 := cell_call hb6 d0
       have df6 : w6.frozen? ⟨rb, 0, none⟩ = false := (World.frozen?_of_block (a := ⟨rb, 0, none⟩) (hb6.block rb (by omega))).trans df0
       have Hb6 := Lib.hid hb6
       have Hown6 := Lib.hid hown6
       clear hb6 hown6 hgrow6))
  all_goals
    have Hend := Lib.hid (fun W hW => row_end (W := W) (c' := { c with l := x :: c.l }) H.out hK HR1.out Hchg.out Hb6.out (by omega) Hown6.out (by rw [List.length_cons]; omega) (by simp [kdC]) ⟨rfl, rfl⟩ hW)
    go_end0
    exact ⟨rfl, Hend.out _ (Chg.refl _ _)⟩
end Go.Proofs.Ytikkdhfbihejbaa
