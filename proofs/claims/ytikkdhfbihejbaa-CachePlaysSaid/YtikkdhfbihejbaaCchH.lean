/- Chapter 6: a cache that a law holds: what its calls leave as it was; 'does'. Conditions: the numbers are small. -/
import Derived.Test.YtikkdhfbihejbaaCchG
import Derived.Deep.RegionHeld3
namespace Go.Cch
/-- Small numbers. -/
structure Small (c : Ch) (N : Nat) : Prop where
  ok : c.Ok
  most : c.most ≤ 1024
  misses : c.misses ≤ N
  pins : ∀ x ∈ c.l, x.pins ≤ N
theorem Small.mono {c : Ch} {N N' : Nat} (h : Small c N) (hN : N ≤ N') : Small c N' := ⟨h.ok, h.most, Nat.le_trans h.misses hN, fun x hx => Nat.le_trans (h.pins x hx) hN⟩
theorem small_get {c : Ch} {N : Nat} (h : Small c N) (i : Int) (t : Tx) (e : Int) : Small (getC c i t e).2 (N + 1) := by
  refine ⟨get_ok h.ok i t e, ?_, ?_, ?_⟩
  · unfold getC
    repeat' split
    all_goals exact h.most
  · have := h.misses
    unfold getC
    repeat' split
    all_goals (simp only; omega)
  · unfold getC
    split
    · rename_i x hx
      intro y hy
      rcases List.mem_cons.1 hy with rfl | hy
      · exact Nat.le_succ_of_le (h.pins _ (find_some hx).1)
      · exact Nat.le_succ_of_le (h.pins _ (mem_less.1 hy).1)
    · split
      · split
        · rename_i l hl
          intro y hy
          rcases List.mem_cons.1 hy with rfl | hy
          · exact Nat.zero_le _
          · exact Nat.le_succ_of_le (h.pins _ ((room_some h.ok hl).2.1.subset hy))
        · exact fun y hy => Nat.le_succ_of_le (h.pins _ hy)
      · exact fun y hy => Nat.le_succ_of_le (h.pins _ hy)
theorem small_put {c : Ch} {N : Nat} (h : Small c N) (i : Int) (d : Tx) : Small (putC c i d).2 (N + 1) := by
  refine ⟨put_ok h.ok i d, ?_, ?_, ?_⟩
  · unfold putC
    repeat' split
    all_goals exact h.most
  · have := h.misses
    unfold putC
    repeat' split
    all_goals (simp only; omega)
  · unfold putC
    split
    · split
      · rename_i x hx
        intro y hy
        rcases List.mem_cons.1 hy with rfl | hy
        · exact Nat.le_succ_of_le (h.pins x (find_some hx).1)
        · exact Nat.le_succ_of_le (h.pins _ (mem_less.1 hy).1)
      · split
        · rename_i l hl
          intro y hy
          rcases List.mem_cons.1 hy with rfl | hy
          · exact Nat.zero_le _
          · exact Nat.le_succ_of_le (h.pins _ ((room_some h.ok hl).2.1.subset hy))
        · exact fun y hy => Nat.le_succ_of_le (h.pins _ hy)
    · exact fun y hy => Nat.le_succ_of_le (h.pins _ hy)
theorem small_map {c : Ch} {N : Nat} (h : Small c N) {f : Kd → Kd} (hf : ∀ x, (f x).pos = x.pos) (hp : ∀ x, (f x).pins ≤ x.pins + 1) : Small { c with l := c.l.map f } (N + 1) :=
  ⟨turn_ok h.ok hf, h.most, Nat.le_succ_of_le h.misses, fun y hy => by
    obtain ⟨x, hx, rfl⟩ := List.mem_map.1 hy
    have := h.pins x hx
    have := hp x
    omega⟩
theorem small_pin {c : Ch} {N : Nat} (h : Small c N) (i : Int) : Small (pinC c i).2 (N + 1) := by
  unfold pinC
  split
  · exact small_map h (fun x => by split <;> rfl) (fun x => by split <;> simp)
  · exact h.mono (Nat.le_succ _)
theorem small_unpin {c : Ch} {N : Nat} (h : Small c N) (i : Int) : Small (unpinC c i).2 (N + 1) := by
  unfold unpinC
  split
  · split
    · exact h.mono (Nat.le_succ _)
    · exact small_map h (fun x => by split <;> rfl) (fun x => by split <;> simp; omega)
  · exact h.mono (Nat.le_succ _)
theorem small_clean {c : Ch} {N : Nat} (h : Small c N) : Small (cleanC c) (N + 1) := small_map h (f := fun x => { x with dirty := false }) (fun _ => rfl) (fun _ => Nat.le_succ _)
theorem small_drop {c : Ch} {N : Nat} (h : Small c N) : Small (dropC c) (N + 1) := ⟨drop_ok h.ok, h.most, Nat.le_succ_of_le h.misses, fun y hy => Nat.le_succ_of_le (h.pins y (List.mem_filter.1 hy).1)⟩
theorem small_new {m : Nat} (h1 : 1 ≤ m) (h2 : m ≤ 1024) : Small (newC m) 0 := ⟨new_ok h1, h2, Nat.le_refl _, fun x hx => by simp [newC] at hx⟩
end Go.Cch
namespace Go.Proofs.Ytikkdhfbihejbaa
open Go.RowKit Go.Cch Go.Lib Go.Shelf
attribute [local go_sem] Oper.semAt_some

def Keeps (R : Nat → Prop) (w w' : World) : Prop := w.heap.size ≤ w'.heap.size ∧ ∀ k, R k → w'.heap[k]? = w.heap[k]?
theorem Keeps.refl (R : Nat → Prop) (w : World) : Keeps R w w := ⟨Nat.le_refl _, fun _ _ => rfl⟩
theorem Keeps.trans {R : Nat → Prop} {w w1 w2 : World} (h : Keeps R w w1) (h2 : Keeps R w1 w2) : Keeps R w w2 := ⟨Nat.le_trans h.1 h2.1, fun k hk => (h2.2 k hk).trans (h.2 k hk)⟩
theorem Keeps.row {R : Nat → Prop} {w w' : World} {v : Value} {vs : List Value} (c : Keeps R w w') (h : Row w v vs) (hR : ∀ k, v.ownBlock = some k → R k) : Row w' v vs := row_keep h c.1 fun k hk => c.2 k (hR k hk)
/-- A cache made since w0, apart from the blocks R. -/
def LiveK (w0 w : World) (o : Option Nat) (n cb : Nat) (c : Ch) (N : Nat) (R : Nat → Prop) : Prop :=
  ∃ mb clk M, CAt w (srcV o) cb mb clk c M ∧ SrcAt w o n ∧ (∀ nb, o = some nb → ¬ ownC cb mb M nb) ∧ (∀ k, (ownC cb mb M k ∨ o = some k) → w0.heap.size ≤ k ∧ ¬ R k) ∧ (∀ k, R k → k < w.heap.size) ∧ Below w0.heap.size w0 w ∧ Small c N ∧ clk ≤ N ∧ n ≤ N
section
variable {w0 w w' : World} {o : Option Nat} {n n' cb mb clk N : Nat} {c c' : Ch} {M : List Ent} {R : Nat → Prop}
theorem src_lt (h : SrcAt w o n) (k : Nat) (hk : o = some k) : k < w.heap.size := by
  subst hk; exact (Array.getElem?_eq_some_iff.1 h).1
theorem liveK_mut (h1 : SrcAt w o n) (h3 : ∀ nb, o = some nb → ¬ ownC cb mb M nb) (h4 : ∀ k, (ownC cb mb M k ∨ o = some k) → w0.heap.size ≤ k ∧ ¬ R k) (h5 : ∀ k, R k → k < w.heap.size) (h6 : Below w0.heap.size w0 w) (hclk : clk ≤ N)
    (hm : MutG w w' o cb mb clk M c' n') (hs : Small c' (N + 1)) (hn : n' ≤ N + 1) : LiveK w0 w' o n' cb c' (N + 1) R ∧ Keeps R w w' := by
  obtain ⟨M', clk', hck, hc', hown, hchg, hsrc⟩ := hm
  refine ⟨⟨mb, clk', M', hc', hsrc, fun nb hnb ho => ?_, fun k hk => ?_, fun k hk => Nat.lt_of_lt_of_le (h5 k hk) hchg.size, h6.trans (hchg.below h6.size (fun k hk => (h4 k hk).1)), hs, by omega, hn⟩, hchg.size, fun k hk => hchg.block k (h5 k hk) (fun ho => (h4 k ho).2 hk)⟩
  · rcases hown nb ho with h | h
    · exact h3 nb hnb h
    · have := src_lt h1 nb hnb; omega
  · rcases hk with hk | hk
    · rcases hown k hk with h | h
      · exact h4 k (.inl h)
      · exact ⟨Nat.le_trans h6.size h, fun hr => by have := h5 k hr; omega⟩
    · exact h4 k (.inr hk)
theorem mut_of {w w' : World} (h1 : SrcAt w o n) (h3 : ∀ nb, o = some nb → ¬ ownC cb mb M nb) (hm : MutC w w' (srcV o) cb mb clk M c') : MutG w w' o cb mb clk M c' n := by
  obtain ⟨M', a, b, d⟩ := hm
  exact ⟨M', clk, Nat.le_succ _, a, b, d.mono (fun k _ hk => .inl hk), src_keep h1 d h3⟩
theorem LiveK.below (h : LiveK w0 w o n cb c N R) : Below w0.heap.size w0 w := by obtain ⟨_, _, _, _, _, _, _, _, h, _⟩ := h; exact h
theorem LiveK.small (h : LiveK w0 w o n cb c N R) : Small c N := by obtain ⟨_, _, _, _, _, _, _, _, _, h, _⟩ := h; exact h
theorem LiveK.n_le (h : LiveK w0 w o n cb c N R) : n ≤ N := by obtain ⟨_, _, _, _, _, _, _, _, _, _, _, h⟩ := h; exact h
theorem LiveK.mono {N' : Nat} (h : LiveK w0 w o n cb c N R) (hN : N ≤ N') : LiveK w0 w o n cb c N' R := by
  obtain ⟨mb, clk, M, a1, a2, a3, a4, a5, a6, a7, a8, a9⟩ := h
  exact ⟨mb, clk, M, a1, a2, a3, a4, a5, a6, a7.mono hN, by omega, by omega⟩
theorem LiveK.call (h : LiveK w0 w o n cb c N R) (b : Below w.heap.size w w') : LiveK w0 w' o n cb c N R ∧ Keeps R w w' := by
  obtain ⟨mb, clk, M, a1, a2, a3, a4, a5, a6, a7, a8, a9⟩ := h
  exact ⟨⟨mb, clk, M, a1.below b, src_keep a2 (Chg.of_below (A := fun _ => False) b) (fun _ _ h => h), a3, a4, fun k hk => Nat.lt_of_lt_of_le (a5 k hk) b.size, step_call a6 b, a7, a8, a9⟩, b.size, fun k hk => b.block k (a5 k hk)⟩
/-- More blocks to keep: they have come since. -/
theorem LiveK.more (h : LiveK w0 w o n cb c N R) (b : Below w.heap.size w w') (S : Nat → Prop) (hS : ∀ k, S k → w.heap.size ≤ k ∧ k < w'.heap.size) : LiveK w0 w' o n cb c N (fun k => R k ∨ S k) := by
  obtain ⟨mb, clk, M, a1, a2, a3, a4, a5, a6, a7, a8, a9⟩ := h
  refine ⟨mb, clk, M, a1.below b, src_keep a2 (Chg.of_below (A := fun _ => False) b) (fun _ _ h => h), a3, fun k hk => ⟨(a4 k hk).1, fun hr => ?_⟩, fun k hk => ?_, step_call a6 b, a7, a8, a9⟩
  · rcases hr with hr | hr
    · exact (a4 k hk).2 hr
    · have h1 := (hS k hr).1
      rcases hk with hk | hk
      · have := a1.lt hk; omega
      · have := src_lt a2 k hk; omega
  · rcases hk with hk | hk
    · exact Nat.lt_of_lt_of_le (a5 k hk) b.size
    · exact (hS k hk).2
theorem LiveK.less {R' : Nat → Prop} (h : LiveK w0 w o n cb c N R) (hR : ∀ k, R' k → R k) : LiveK w0 w o n cb c N R' := by
  obtain ⟨mb, clk, M, a1, a2, a3, a4, a5, a6, a7⟩ := h
  exact ⟨mb, clk, M, a1, a2, a3, fun k hk => ⟨(a4 k hk).1, fun hr => (a4 k hk).2 (hR k hr)⟩, fun k hk => a5 k (hR k hk), a6, a7⟩
theorem Keeps.less {R R' : Nat → Prop} {w w' : World} (h : Keeps R w w') (hR : ∀ k, R' k → R k) : Keeps R' w w' := ⟨h.1, fun k hk => h.2 k (hR k hk)⟩
theorem Keeps.cell {R : Nat → Prop} {w w' : World} {b i : Nat} {v : Value} (h : Keeps R w w') (hb : R b) (hc : w.cell? ⟨b, i, none⟩ = some v) : w'.cell? ⟨b, i, none⟩ = some v := (World.cell?_of_block (a := ⟨b, i, none⟩) (h.2 b hb)).trans hc
theorem live_New (m : Nat) (hm1 : 1 ≤ m) (hm2 : m ≤ 1024) (o : Option Nat) (n : Nat) (hs : SrcAt w o n) (ho : ∀ nb, o = some nb → w0.heap.size ≤ nb) (hw : Below w0.heap.size w0 w) :
    Calls Try.prog 11 #[srcV o, .int .i64 ((m : Nat) : Int)] w fun e w' => ∃ cb, e = .returned (.tuple #[.pointer (some ⟨cb, 0, none⟩), .int .i64 0]) ∧ LiveK w0 w' o n cb (newC m) n (fun _ => False) ∧ Below w.heap.size w w' := by
  unfold srcV
  refine (cch_New w (srcT' o) (srcX o) m hm1 hm2).mono ?_
  rintro e w' ⟨rfl, h1, h2⟩
  refine ⟨_, rfl, ⟨w.heap.size, 0, [], h1, src_keep hs (Chg.of_below (A := fun _ => False) h2) (fun _ _ h => h), fun nb hnb hk => ?_, fun k hk => ⟨?_, fun h => h⟩, fun k hk => hk.elim, step_call hw h2, (small_new hm1 hm2).mono (Nat.zero_le _), Nat.zero_le _, Nat.le_refl _⟩, h2⟩
  · have := src_lt hs nb hnb
    rcases hk with hk | hk | ⟨d, hd, _⟩
    · omega
    · omega
    · cases hd
  · have := hw.size
    rcases hk with (hk | hk | ⟨d, hd, _⟩) | hk
    · omega
    · omega
    · cases hd
    · exact ho k hk
theorem live_Get (h : LiveK w0 w o n cb c N R) (hN : N < 900000) (i : Int) (hi : keyI i) :
    Calls Try.prog 12 #[.pointer (some ⟨cb, 0, none⟩), .int .i64 i] w fun e w' => e = .returned (.tuple #[.string (B (askG c i).1.1), .int .i64 (askG c i).1.2]) ∧ LiveK w0 w' o (if hasL c.l i then n else n + 1) cb (askG c i).2 (N + 1) R ∧ Keeps R w w' := by
  obtain ⟨mb, clk, M, a1, a2, a3, a4, a5, a6, a7, a8, a9⟩ := h
  have hmiss := a7.misses
  exact (cch_Get a1 (by omega) a7.most (by omega) a2 (by omega) a3 i hi).mono fun e w' ⟨he, hm⟩ => ⟨he, liveK_mut a2 a3 a4 a5 a6 a8 hm (small_get a7 _ _ _) (by split <;> omega)⟩
theorem live_Put (h : LiveK w0 w o n cb c N R) (hN : N < 900000) (i : Int) (hi : keyI i) (D : Tx) (hD : D.length ≤ 100000) :
    Calls Try.prog 27 #[.pointer (some ⟨cb, 0, none⟩), .int .i64 i, .string (B D)] w fun e w' => e = .returned (.int .i64 (putC c i D).1) ∧ LiveK w0 w' o n cb (putC c i D).2 (N + 1) R ∧ Keeps R w w' := by
  obtain ⟨mb, clk, M, a1, a2, a3, a4, a5, a6, a7, a8, a9⟩ := h
  exact (cch_Put a1 (by omega) a7.most a2 a3 i hi D hD).mono fun e w' ⟨he, hm⟩ => ⟨he, liveK_mut a2 a3 a4 a5 a6 a8 hm (small_put a7 _ _) (by omega)⟩
theorem pins_of (a1 : CAt w (srcV o) cb mb clk c M) (a7 : Small c N) (hN : N < 900000) : ∀ e ∈ M, e.x.pins < 1000000 := fun e he => by
  have := a7.pins e.x (by rw [← a1.list]; exact List.mem_map.2 ⟨e, he, rfl⟩)
  omega
theorem live_Pin (h : LiveK w0 w o n cb c N R) (hN : N < 900000) (i : Int) (hi : keyI i) :
    Calls Try.prog 13 #[.pointer (some ⟨cb, 0, none⟩), .int .i64 i] w fun e w' => e = .returned (.int .i64 (pinC c i).1) ∧ LiveK w0 w' o n cb (pinC c i).2 (N + 1) R ∧ Keeps R w w' := by
  obtain ⟨mb, clk, M, a1, a2, a3, a4, a5, a6, a7, a8, a9⟩ := h
  exact (cch_Pin w (srcV o) cb mb clk c M a1 i hi (pins_of a1 a7 hN)).mono fun e w' ⟨he, hm⟩ => ⟨he, liveK_mut a2 a3 a4 a5 a6 a8 (mut_of a2 a3 hm) (small_pin a7 _) (by omega)⟩
theorem live_Unpin (h : LiveK w0 w o n cb c N R) (hN : N < 900000) (i : Int) (hi : keyI i) :
    Calls Try.prog 28 #[.pointer (some ⟨cb, 0, none⟩), .int .i64 i] w fun e w' => e = .returned (.int .i64 (unpinC c i).1) ∧ LiveK w0 w' o n cb (unpinC c i).2 (N + 1) R ∧ Keeps R w w' := by
  obtain ⟨mb, clk, M, a1, a2, a3, a4, a5, a6, a7, a8, a9⟩ := h
  exact (cch_Unpin w (srcV o) cb mb clk c M a1 i hi (pins_of a1 a7 hN)).mono fun e w' ⟨he, hm⟩ => ⟨he, liveK_mut a2 a3 a4 a5 a6 a8 (mut_of a2 a3 hm) (small_unpin a7 _) (by omega)⟩
theorem live_Clean (h : LiveK w0 w o n cb c N R) :
    Calls Try.prog 26 #[.pointer (some ⟨cb, 0, none⟩)] w fun e w' => e = .returned (.tuple #[]) ∧ LiveK w0 w' o n cb (cleanC c) (N + 1) R ∧ Keeps R w w' := by
  obtain ⟨mb, clk, M, a1, a2, a3, a4, a5, a6, a7, a8, a9⟩ := h
  exact (cch_Clean a1).mono fun e w' ⟨he, hm⟩ => ⟨he, liveK_mut a2 a3 a4 a5 a6 a8 (mut_of a2 a3 hm) (small_clean a7) (by omega)⟩
theorem live_Drop (h : LiveK w0 w o n cb c N R) :
    Calls Try.prog 25 #[.pointer (some ⟨cb, 0, none⟩)] w fun e w' => e = .returned (.tuple #[]) ∧ LiveK w0 w' o n cb (dropC c) (N + 1) R ∧ Keeps R w w' := by
  obtain ⟨mb, clk, M, a1, a2, a3, a4, a5, a6, a7, a8, a9⟩ := h
  exact (cch_Drop a1).mono fun e w' ⟨he, hm⟩ => ⟨he, liveK_mut a2 a3 a4 a5 a6 a8 (mut_of a2 a3 hm) (small_drop a7) (by omega)⟩
theorem live_Misses (h : LiveK w0 w o n cb c N R) :
    Calls Try.prog 16 #[.pointer (some ⟨cb, 0, none⟩)] w fun e w' => e = .returned (.int .i64 ((c.misses : Nat) : Int)) ∧ w = w' := by
  obtain ⟨mb, clk, M, a1, a2, a3, a4, a5, a6, a7, a8, a9⟩ := h
  exact cch_Misses w (srcV o) cb mb clk c a1.blk
theorem live_Blocks (h : LiveK w0 w o n cb c N R) (hN : N < 900000) :
    Calls Try.prog 15 #[.pointer (some ⟨cb, 0, none⟩)] w fun e w' => ∃ v, e = .returned v ∧ Row w' v ((c.l.map Kd.pos).map (Value.int .i64)) ∧ LiveK w0 w' o n cb c N (fun k => R k ∨ v.ownBlock = some k) ∧ Below w.heap.size w w' ∧ Keeps R w w' := by
  obtain ⟨mb, clk, M, a1, a2, a3, a4, a5, a6, a7, a8, a9⟩ := id h
  exact (cch_Blocks a1 (by omega) a7.most).mono fun e w' ⟨v, he, hr, hf, hb⟩ => ⟨v, he, hr, h.more hb _ hf, hb, (h.call hb).2⟩
def actV (a : Cch.Act) : Value := .agg #[.int .i64 a.op, .int .i64 a.pos, .int .u8 ((a.byte.toNat : Nat) : Int), .bool a.bad]
theorem block_key (a : Cch.Act) (h : keyI a.pos) : keyI a.block := by
  unfold Act.block
  split
  · exact h
  · have := pick_range a.pos 12 (by omega)
    exact keyI_of (by omega) (by omega)
theorem data_len (a : Cch.Act) : a.data.length ≤ 256 := by
  unfold Act.data fullT
  split
  · exact Nat.le_trans (show 1 ≤ 256 by omega) (Nat.le_refl _)
  · rw [List.length_replicate]; exact Nat.le_refl _
end
theorem h4_call {w w' : World} {b : Nat} {v0 v1 v2 v3 : Value} (hb : Below w.heap.size w w') (h : w.cell? ⟨b, 0, none⟩ = some v0 ∧ w.cell? ⟨b, 1, none⟩ = some v1 ∧ w.cell? ⟨b, 2, none⟩ = some v2 ∧ w.cell? ⟨b, 3, none⟩ = some v3) :
    w'.cell? ⟨b, 0, none⟩ = some v0 ∧ w'.cell? ⟨b, 1, none⟩ = some v1 ∧ w'.cell? ⟨b, 2, none⟩ = some v2 ∧ w'.cell? ⟨b, 3, none⟩ = some v3 := ⟨cell_call hb h.1, cell_call hb h.2.1, cell_call hb h.2.2.1, cell_call hb h.2.2.2⟩
theorem h4_keeps {R : Nat → Prop} {w w' : World} {b : Nat} {v0 v1 v2 v3 : Value} (hk : Keeps R w w') (hR : R b) (h : w.cell? ⟨b, 0, none⟩ = some v0 ∧ w.cell? ⟨b, 1, none⟩ = some v1 ∧ w.cell? ⟨b, 2, none⟩ = some v2 ∧ w.cell? ⟨b, 3, none⟩ = some v3) :
    w'.cell? ⟨b, 0, none⟩ = some v0 ∧ w'.cell? ⟨b, 1, none⟩ = some v1 ∧ w'.cell? ⟨b, 2, none⟩ = some v2 ∧ w'.cell? ⟨b, 3, none⟩ = some v3 := ⟨hk.cell hR h.1, hk.cell hR h.2.1, hk.cell hR h.2.2.1, hk.cell hR h.2.2.2⟩
end Go.Proofs.Ytikkdhfbihejbaa
