/- Chapter 6: Get, Put over either source. Conditions: the numbers are small. -/
import Derived.Test.YtikkdhfbihejbaaCchF
namespace Go.Proofs.Ytikkdhfbihejbaa
open Go.RowKit Go.Cch Go.Lib Go.Shelf
attribute [local go_sem] Oper.semAt_some

/-- The law's source, or the one that counts in block nb. -/
def srcT' : Option Nat → TypeId
  | none => 30
  | some _ => 42
def srcX : Option Nat → Value
  | none => .agg #[]
  | some nb => .agg #[.pointer (some ⟨nb, 0, none⟩)]
def srcF : Option Nat → FuncId
  | none => 24
  | some _ => 104
def srcV (o : Option Nat) : Value := .iface (srcT' o) (srcX o)
theorem src_meth (o : Option Nat) (w : World) : (method 240 (srcT' o) (srcX o) "Read").run Try.prog w = .ok (srcF o, srcX o) w := by cases o <;> kernel_rfl
theorem src_enters (o : Option Nat) : ∀ args w, (callFunc (srcF o) args).run Try.prog w = .ok (.enter (srcF o) args) w := by
  cases o
  · exact enters_of Try.func24 (by kernel_rfl) rfl
  · exact enters_of Try.func104 (by kernel_rfl) rfl
/-- How often it was asked. -/
def SrcAt (w : World) : Option Nat → Nat → Prop
  | none, _ => True
  | some nb, n => w.heap[nb]? = some (.cells #[.int .i64 ((n : Nat) : Int)] 3)
set_option maxRecDepth 100000 in
theorem cnt_Read (nb n : Nat) (hn : n < 1000000) (i : Int) (h : keyI i) (w : World) (hs : w.heap[nb]? = some (.cells #[.int .i64 ((n : Nat) : Int)] 3)) :
    Calls Try.prog 104 #[.agg #[.pointer (some ⟨nb, 0, none⟩)], .int .i64 i] w fun e w' => e = .returned (.tuple #[.string (B (if srcE i = 0 then srcT i else [])), .int .i64 (srcE i)]) ∧ Chg (fun k => k = nb) w w' ∧ w'.heap[nb]? = some (.cells #[.int .i64 ((n + 1 : Nat) : Int)] 3) := by
  have hlt := (Array.getElem?_eq_some_iff.1 hs).1
  have hc0 : (w.alloc (.cells #[.pointer (some ⟨nb, 0, none⟩)] 42)).cell? ⟨w.heap.size, 0, none⟩ = some (.pointer (some ⟨nb, 0, none⟩)) := by rw [Lib.cell_of_heap (heap_alloc_new w _)]; rfl
  have hs1 : (w.alloc (.cells #[.pointer (some ⟨nb, 0, none⟩)] 42)).heap[nb]? = some (.cells #[.int .i64 ((n : Nat) : Int)] 3) := (Below.heap_alloc w _ nb hlt).trans hs
  have hcn := Boxed.cell hs1
  have hfn := Boxed.frozen hs1
  have hch : Chg (fun k => k = nb) w ((w.setCell ⟨nb, 0, none⟩ (.int .i64 ((n : Int) + 1))).alloc (.cells #[.pointer (some ⟨nb, 0, none⟩)] 42)).drew := (((Chg.refl (fun k => k = nb) w).set nb 0 _ (fun _ => rfl)).new _).drewN 1
  have Hs2 : Hid (((w.setCell ⟨nb, 0, none⟩ (.int .i64 ((n : Int) + 1))).alloc (.cells #[.pointer (some ⟨nb, 0, none⟩)] 42)).drew.heap[nb]? = some (.cells #[.int .i64 ((n + 1 : Nat) : Int)] 3)) := Lib.hid ((Below.heap_alloc _ _ nb (by simpa [World.setCell] using hlt)).trans (heap_set_same hs _))
  have Hch := Lib.hid hch
  clear hch
  have hR := fun W => src_Read i h W
  have HR := Lib.hid hR
  clear hs hs1 hR
  generalize (if srcE i = 0 then srcT i else []) = T at *
  generalize srcE i = E at *
  go_enter Try.func104, Try.ntmps104
  go_wp2
  go_region
  go_wp2_with fail
  refine (HR.out _).mono ?_
  rintro e w2 ⟨rfl, hb2⟩
  have Hch2 := Lib.hid (Hch.out.call hb2)
  have Hs3 := Lib.hid ((hb2.block nb (Nat.lt_of_lt_of_le hlt Hch.out.size)).trans Hs2.out)
  clear hb2
  go_wp2
  go_ret2
  exact ⟨rfl, Hch2.out, Hs3.out⟩
theorem src_call (o : Option Nat) (n : Nat) (hn : n < 1000000) (i : Int) (h : keyI i) (w : World) (hs : SrcAt w o n) :
    Calls Try.prog (srcF o) #[srcX o, .int .i64 i] w fun e w' => e = .returned (.tuple #[.string (B (if srcE i = 0 then srcT i else [])), .int .i64 (srcE i)]) ∧ Chg (fun k => o = some k) w w' ∧ SrcAt w' o (n + 1) := by
  cases o with
  | none => exact (src_Read i h w).mono fun e w' ⟨h1, h2⟩ => ⟨h1, Chg.of_below h2, trivial⟩
  | some nb => exact (cnt_Read nb n hn i h w hs).mono fun e w' ⟨h1, h2, h3⟩ => ⟨h1, h2.mono (fun k _ hk => by rw [hk]), h3⟩
theorem src_keep {A : Nat → Prop} {w w' : World} {o : Option Nat} {n : Nat} (h : SrcAt w o n) (c : Chg A w w') (hA : ∀ nb, o = some nb → ¬ A nb) : SrcAt w' o n := by
  cases o with
  | none => trivial
  | some nb => exact (c.block nb (Array.getElem?_eq_some_iff.1 h).1 (hA nb rfl)).trans h
def MutG (w w' : World) (o : Option Nat) (cb mb clk : Nat) (M : List Ent) (c' : Ch) (n' : Nat) : Prop :=
  ∃ M' clk', clk' ≤ clk + 1 ∧ CAt w' (srcV o) cb mb clk' c' M' ∧ (∀ k, ownC cb mb M' k → ownC cb mb M k ∨ w.heap.size ≤ k) ∧ Chg (fun k => ownC cb mb M k ∨ o = some k) w w' ∧ SrcAt w' o n'
/-- One that was kept is used, when its cells have been stored. -/
theorem hit_mut {w wb : World} {o : Option Nat} {n cb mb clk : Nat} {c : Ch} {M : List Ent} (h : CAt w (srcV o) cb mb clk c M) (hs : SrcAt w o n) (hno : ∀ nb, o = some nb → ¬ ownC cb mb M nb) {i : Int} {e : Ent} (he : entAt M i = some e) (x : Kd) (hx : x.pos = i)
    (hwb : Chg (fun k => k = e.g) w wb) (hgb : wb.heap[e.g]? = some (.cells (entCells ⟨x, e.g, e.u⟩) 70)) :
    wb.heap[cb]? = some (.cells (chCells (srcV o) c clk mb) 66) ∧ ∀ w', w' = (wb.setCell ⟨cb, 2, none⟩ (.int .i64 ((clk + 1 : Nat) : Int))).setCell ⟨e.g, 3, none⟩ (.int .i64 ((clk + 1 : Nat) : Int)) →
      MutG w w' o cb mb clk M { c with l := x :: less c.l i } n ∧ w'.cell? ⟨e.g, 0, none⟩ = some (.string (B x.data)) := by
  obtain ⟨hem, hep⟩ := entAt_some he
  have hne := h.nce e hem
  have hcb : wb.heap[cb]? = some (.cells (chCells (srcV o) c clk mb) 66) := (hwb.block cb (h.lt (.inl rfl)) hne.1.symm).trans h.blk
  refine ⟨hcb, ?_⟩
  rintro w' rfl
  have hg1 : (wb.setCell ⟨cb, 2, none⟩ (.int .i64 ((clk + 1 : Nat) : Int))).heap[e.g]? = some (.cells (entCells ⟨x, e.g, e.u⟩) 70) := (heap_set_other hne.1 _).trans hgb
  have hg : ((wb.setCell ⟨cb, 2, none⟩ (.int .i64 ((clk + 1 : Nat) : Int))).setCell ⟨e.g, 3, none⟩ (.int .i64 ((clk + 1 : Nat) : Int))).heap[e.g]? = some (.cells (entCells ⟨x, e.g, clk + 1⟩) 70) := heap_set_same hg1 _
  have hb : ((wb.setCell ⟨cb, 2, none⟩ (.int .i64 ((clk + 1 : Nat) : Int))).setCell ⟨e.g, 3, none⟩ (.int .i64 ((clk + 1 : Nat) : Int))).heap[cb]? = some (.cells (chCells (srcV o) { c with l := x :: less c.l i } (clk + 1) mb) 66) := (heap_set_other hne.1.symm _).trans (heap_set_same hcb _)
  have hch : Chg (fun k => ownC cb mb M k ∨ o = some k) w ((wb.setCell ⟨cb, 2, none⟩ (.int .i64 ((clk + 1 : Nat) : Int))).setCell ⟨e.g, 3, none⟩ (.int .i64 ((clk + 1 : Nat) : Int))) :=
    (((hwb.mono (fun k _ hk => .inl (.inr (.inr ⟨e, hem, hk.symm⟩)))).set cb 2 _ (fun _ => .inl (.inl rfl))).set e.g 3 _ (fun _ => .inl (.inr (.inr ⟨e, hem, rfl⟩))))
  have hch2 : Chg (fun k => ownC cb mb M k) w ((wb.setCell ⟨cb, 2, none⟩ (.int .i64 ((clk + 1 : Nat) : Int))).setCell ⟨e.g, 3, none⟩ (.int .i64 ((clk + 1 : Nat) : Int))) :=
    (((hwb.mono (fun k _ hk => .inr (.inr ⟨e, hem, hk.symm⟩))).set cb 2 _ (fun _ => .inl rfl)).set e.g 3 _ (fun _ => .inr (.inr ⟨e, hem, rfl⟩)))
  have hch3 : Chg (fun k => k = cb ∨ k = e.g) w ((wb.setCell ⟨cb, 2, none⟩ (.int .i64 ((clk + 1 : Nat) : Int))).setCell ⟨e.g, 3, none⟩ (.int .i64 ((clk + 1 : Nat) : Int))) :=
    (((hwb.mono (fun k _ hk => .inr hk)).set cb 2 _ (fun _ => .inl rfl)).set e.g 3 _ (fun _ => .inr rfl))
  refine ⟨⟨_, clk + 1, Nat.le_refl _, h.use he x hx rfl hb hg (fun k hk h1 h2 => hch3.block k hk (by rintro (h | h); exact h1 h; exact h2 h)), ?_, hch, src_keep hs hch2 hno⟩, (cells_ent (e := ⟨x, e.g, clk + 1⟩) hg).1⟩
  rintro k (hk | hk | ⟨d, hd, hk⟩)
  · exact .inl (.inl hk)
  · exact .inl (.inr (.inl hk))
  · rcases List.mem_cons.1 hd with rfl | hd
    · exact .inl (.inr (.inr ⟨e, hem, hk⟩))
    · exact .inl (.inr (.inr ⟨d, less_sub hd, hk⟩))
set_option maxRecDepth 100000 in
set_option maxHeartbeats 3200000 in
theorem cch_Get {w : World} {o : Option Nat} {n cb mb clk : Nat} {c : Ch} {M : List Ent} (h : CAt w (srcV o) cb mb clk c M) (hclk : clk < 1000000) (hm : c.most ≤ 1024) (hms : c.misses < 1000000) (hs : SrcAt w o n) (hn : n < 1000000) (hno : ∀ nb, o = some nb → ¬ ownC cb mb M nb) (i : Int) (hi : keyI i) :
    Calls Try.prog 12 #[.pointer (some ⟨cb, 0, none⟩), .int .i64 i] w fun e w' => e = .returned (.tuple #[.string (B (askG c i).1.1), .int .i64 (askG c i).1.2]) ∧ MutG w w' o cb mb clk M (askG c i).2 (if hasL c.l i then n else n + 1) := by
  obtain ⟨c0, -, c2, c3, c4⟩ := cells_of h.blk
  have hmap := Lib.hid h.map
  rcases cch_at h i with ⟨hh, hf, hfd⟩ | ⟨e, hh, he, hf, hfd, hem, hep⟩
  · have hmeth := src_meth o w
    have heg := src_enters o
    have Hcall := Lib.hid (src_call o n hn i hi w hs)
    unfold srcV at c0
    generalize hST : srcT' o = ST at *
    generalize hSX : srcX o = SX at *
    generalize hSF : srcF o = SF at *
    have hG : askG c i = (if srcE i = 0 then match roomL c with
        | some l => (((if srcE i = 0 then srcT i else []), 0), { l := ⟨i, (if srcE i = 0 then srcT i else []), false, 0⟩ :: l, most := c.most, misses := c.misses + 1 })
        | none => (([], 14), c)
      else (([], srcE i), c)) := by unfold askG getC; rw [hfd]; rfl
    rw [hh]
    generalize askG c i = R at *
    generalize (if srcE i = 0 then srcT i else []) = T at *
    generalize srcE i = E at *
    have H := Lib.hid h
    have HG := Lib.hid hG
    have Hno := Lib.hid hno
    clear hG h hs hno hfd
    have hkeep : ∀ k, ownC cb mb M k → ¬ (o = some k) := fun k hk e => Hno.out k e hk
    have Hkeep := Lib.hid hkeep
    clear hkeep
    go_enter Try.func12, Try.ntmps12
    go_wp2_with (at_lookup; refine wpList_look_ptr _ rfl _ _ 64 rfl 3 67 Try.underlying3 Try.underlying64 (by kernel_rfl) mb _ _ rfl hmap.out i hi rfl ?_; rw [hf]; dsimp only [ptrV])
    refine Hcall.out.mono ?_
    rintro e w1 ⟨rfl, hch1, hs1⟩
    have hc1 := H.out.keep hch1 Hkeep.out
    have Hch1 := Lib.hid hch1
    have Hs1 := Lib.hid hs1
    have Hc1 := Lib.hid hc1
    clear c0 c2 c3 c4 hmeth heg hmap hch1 hs1 hc1
    by_cases hE : E = 0
    · subst hE
      rw [if_pos rfl] at HG
      have Hroom := Lib.hid (cch_room Hc1.out hclk hm)
      unfold roomE at Hroom
      go_wp2_with fail
      refine Hroom.out.mono ?_
      rintro e w2 ⟨rfl, M', hc2, hsub, hch2⟩
      have hrs := fun l h => room_some H.out.ok (l := l) h
      cases hrl : roomL c with
      | none =>
        have hc2' : CAt w2 (srcV o) cb mb clk c M' := by rw [hrl] at hc2; exact hc2
        have Hc2 := Lib.hid hc2'
        have Hch2 := Lib.hid hch2
        have Hsub := Lib.hid hsub
        have HR2 : Hid (R = (([], 14), c)) := Lib.hid (by rw [HG.out, hrl])
        clear hc2 hc2' hch2 hsub hrs
        go_wp2
        go_ret2
        rw [HR2.out]
        refine ⟨rfl, M', clk, by omega, Hc2.out, ?_, ?_, src_keep Hs1.out Hch2.out (fun nb hnb e => Hkeep.out mb (.inr (.inl rfl)) (by rw [hnb, e]))⟩
        · rintro k (hk | hk | ⟨d, hd, hk⟩)
          · exact .inl (.inl hk)
          · exact .inl (.inr (.inl hk))
          · exact .inl (.inr (.inr ⟨d, Hsub.out d hd, hk⟩))
        · exact (Hch1.out.mono (fun k _ hk => .inr hk)).trans Hch2.out (fun k _ hk => .inl (.inr (.inl hk)))
      | some l =>
        obtain ⟨hl1, hl2, -⟩ := hrs l hrl
        have hc2' : CAt w2 (srcV o) cb mb clk { c with l := l } M' := by rw [hrl] at hc2; exact hc2
        have hnl : hasL l i = false := by
          rw [← Bool.not_eq_true]
          intro h2
          obtain ⟨x, hx, hxp⟩ := has_iff.1 h2
          rw [has_iff.2 ⟨x, hl2.subset hx, hxp⟩] at hh
          cases hh
        have Hc2 := Lib.hid hc2'
        have Hch2 := Lib.hid hch2
        have Hsub := Lib.hid hsub
        have hcb2 : cb < w2.heap.size := hc2'.lt (.inl rfl)
        have hmb2 : mb < w2.heap.size := hc2'.lt (.inr (.inl rfl))
        have hm3 : (w2.alloc (.cells #[.string (B T), .bool false, .int .i64 0, .int .i64 0] 70)).ptrMap Try.prog 3 mb M'.length (entF M') := hc2'.map.alloc _
        have hb3 : (w2.alloc (.cells #[.string (B T), .bool false, .int .i64 0, .int .i64 0] 70)).heap[cb]? = some (.cells (chCells (srcV o) { c with l := l } clk mb) 66) := (Below.heap_alloc _ _ cb hcb2).trans hc2'.blk
        have hg3 : (w2.alloc (.cells #[.string (B T), .bool false, .int .i64 0, .int .i64 0] 70)).heap[w2.heap.size]? = some (.cells (entCells ⟨⟨i, T, false, 0⟩, w2.heap.size, 0⟩) 70) := heap_alloc_new _ _
        have Ho3 : Hid (∀ k, k < w2.heap.size → (w2.alloc (.cells #[.string (B T), .bool false, .int .i64 0, .int .i64 0] 70)).heap[k]? = w2.heap[k]?) := Lib.hid (fun k hk => Below.heap_alloc _ _ k hk)
        have Hsz3 : Hid ((w2.alloc (.cells #[.string (B T), .bool false, .int .i64 0, .int .i64 0] 70)).heap.size = w2.heap.size + 1) := Lib.hid (World.size_alloc _ _)
        have hMl := hc2'.most
        have hfi : entF M' i = none := by unfold entF; rw [entAt_none.2 (by rw [hc2'.list]; exact hnl)]; rfl
        obtain ⟨-, -, -, -, c4⟩ := cells_of hb3
        have Hm3 := Lib.hid hm3
        have Hb3 := Lib.hid hb3
        have Hg3 := Lib.hid hg3
        have hMl2 : M'.length < maxLen := by unfold maxLen; have : c.most ≤ 1024 := hm; have : M'.length ≤ c.most := hMl; omega
        clear hc2 hc2' hch2 hsub hrs hm3 hb3 hg3 hl2 hMl
        go_wp2_with (first
          | (at_mapUpdate; refine wpList_store_ptr _ rfl _ _ _ 64 rfl 3 67 Try.underlying3 Try.underlying64 mb _ _ rfl Hm3.out hMl2 i hi rfl w2.heap.size rfl ?_; intro w4 hm4 ht4; have hb4 := (ht4.grown.block cb (by rw [Hsz3.out]; omega) (by intro h2; exact Hc2.out.ne (Option.some.inj h2))).trans Hb3.out; obtain ⟨-, -, -, c34, -⟩ := cells_of hb4; have f34 : w4.frozen? ⟨cb, 3, none⟩ = false := Lib.frozen_of_heap hb4 _; have Hb4 := Lib.hid hb4; have Hm4 := Lib.hid hm4; have Ht4 := Lib.hid ht4; clear hb4 hm4 ht4))
        have hb5 : (w4.setCell ⟨cb, 3, none⟩ (.int .i64 ((c.misses : Int) + 1))).heap[cb]? = some (.cells (chCells (srcV o) ⟨l, c.most, c.misses + 1⟩ clk mb) 66) := heap_set_same Hb4.out _
        have hg4 : w4.heap[w2.heap.size]? = some (.cells (entCells ⟨⟨i, T, false, 0⟩, w2.heap.size, 0⟩) 70) := (Ht4.out.grown.block w2.heap.size (by rw [Hsz3.out]; omega) (by intro h2; have h3 := Option.some.inj h2; omega)).trans Hg3.out
        have hg5 : (w4.setCell ⟨cb, 3, none⟩ (.int .i64 ((c.misses : Int) + 1))).heap[w2.heap.size]? = some (.cells (entCells ⟨⟨i, T, false, 0⟩, w2.heap.size, 0⟩) 70) := (heap_set_other (by omega) _).trans hg4
        have hmm := Hm4.out
        rw [hfi] at hmm
        have hfin : ∀ w6, w6 = ((w4.setCell ⟨cb, 3, none⟩ (.int .i64 ((c.misses : Int) + 1))).setCell ⟨cb, 2, none⟩ (.int .i64 ((clk + 1 : Nat) : Int))).setCell ⟨w2.heap.size, 3, none⟩ (.int .i64 ((clk + 1 : Nat) : Int)) →
            MutG w w6 o cb mb clk M ⟨⟨i, T, false, 0⟩ :: l, c.most, c.misses + 1⟩ (n + 1) ∧ w6.cell? ⟨w2.heap.size, 0, none⟩ = some (.string (B T)) := by
          rintro w6 rfl
          have hchg : Chg (fun k => k = cb ∨ k = mb) w2 (((w4.setCell ⟨cb, 3, none⟩ (.int .i64 ((c.misses : Int) + 1))).setCell ⟨cb, 2, none⟩ (.int .i64 ((clk + 1 : Nat) : Int))).setCell ⟨w2.heap.size, 3, none⟩ (.int .i64 ((clk + 1 : Nat) : Int))) :=
            (((((Chg.refl _ w2).new _).grown Ht4.out.grown (fun k _ e => .inr (Option.some.inj e).symm)).set cb 3 _ (fun _ => .inl rfl)).set cb 2 _ (fun _ => .inl rfl)).set w2.heap.size 3 _ (fun h => by omega)
          have hg6 : (((w4.setCell ⟨cb, 3, none⟩ (.int .i64 ((c.misses : Int) + 1))).setCell ⟨cb, 2, none⟩ (.int .i64 ((clk + 1 : Nat) : Int))).setCell ⟨w2.heap.size, 3, none⟩ (.int .i64 ((clk + 1 : Nat) : Int))).heap[w2.heap.size]? = some (.cells (entCells ⟨⟨i, T, false, 0⟩, w2.heap.size, clk + 1⟩) 70) :=
            heap_set_same ((heap_set_other (by omega) _).trans hg5) _
          refine ⟨⟨_, clk + 1, Nat.le_refl _, Hc2.out.cons hl1 hnl hi ⟨i, T, false, 0⟩ rfl w2.heap.size ⟨rfl, rfl⟩ (Nat.le_refl _) ?_ hg6 ?_ (fun k hk h1 h2 => hchg.block k hk (by rintro (h | h); exact h1 h; exact h2 h)), ?_, ?_, ?_⟩, (cells_ent (e := ⟨⟨i, T, false, 0⟩, w2.heap.size, clk + 1⟩) hg6).1⟩
          · exact (heap_set_other (by omega) _).trans (heap_set_same hb5 _)
          · exact ptrMap_heap hmm ((heap_set_other (by omega) _).trans ((heap_set_other (Hc2.out.ne).symm _).trans (heap_set_other (Hc2.out.ne).symm _)))
          · have hsz := Hch1.out.size
            have hsz2 := Hch2.out.size
            rintro k (hk | hk | ⟨d, hd, hk⟩)
            · exact .inl (.inl hk)
            · exact .inl (.inr (.inl hk))
            · rcases List.mem_cons.1 hd with rfl | hd
              · exact .inr (by rw [← hk]; show w.heap.size ≤ w2.heap.size; omega)
              · exact .inl (.inr (.inr ⟨d, Hsub.out d hd, hk⟩))
          · refine ((Hch1.out.mono (fun k _ hk => .inr hk)).trans Hch2.out (fun k _ hk => .inl (.inr (.inl hk)))).trans hchg (fun k _ hk => ?_)
            rcases hk with hk | hk
            · exact .inl (.inl hk)
            · exact .inl (.inr (.inl hk))
          · refine src_keep (src_keep Hs1.out Hch2.out (fun nb hnb e => Hkeep.out mb (.inr (.inl rfl)) (by rw [hnb, e]))) hchg (fun nb hnb e => ?_)
            rcases e with e | e
            · exact Hkeep.out cb (.inl rfl) (by rw [hnb, e])
            · exact Hkeep.out mb (.inr (.inl rfl)) (by rw [hnb, e])
        have HR2 : Hid (R = ((T, 0), ⟨⟨i, T, false, 0⟩ :: l, c.most, c.misses + 1⟩)) := Lib.hid (by rw [HG.out, hrl])
        have Hfin := Lib.hid hfin
        have Huse := Lib.hid (cch_use _ (srcV o) cb mb clk ⟨l, c.most, c.misses + 1⟩ ⟨⟨i, T, false, 0⟩, w2.heap.size, 0⟩ hb5 hg5 hclk)
        clear hb5 hg4 hg5 hmm hfin
        refine Huse.out.mono ?_
        rintro e w6 ⟨rfl, hw6⟩
        obtain ⟨hmut, hcd⟩ := Hfin.out w6 hw6
        have Hmut := Lib.hid hmut
        clear hw6 hmut
        go_wp2
        go_ret2
        rw [HR2.out]
        exact ⟨rfl, Hmut.out⟩
    · have hE2 : (E != 0) = true := by rw [bne_iff_ne]; exact hE
      rw [if_neg hE] at HG
      clear hE
      go_wp2
      go_ret2
      rw [HG.out]
      exact ⟨rfl, M, clk, by omega, Hc1.out, fun k hk => .inl hk, Hch1.out.mono (fun k _ hk => .inr hk), Hs1.out⟩
  · have hR : Hid (askG c i = ((e.x.data, 0), { c with l := e.x :: less c.l i })) := Lib.hid (by unfold askG getC; rw [hfd])
    have hlk : ∀ W, CAt W (srcV o) cb mb clk c M → True := fun _ _ => trivial
    obtain ⟨hb, hmut⟩ := hit_mut h hs hno he e.x hep (Chg.refl _ w) (h.ents e hem)
    have Huse := Lib.hid (cch_use w (srcV o) cb mb clk c e hb (h.ents e hem) hclk)
    have Hmut := Lib.hid hmut
    rw [hh, hR.out]
    clear h hs hno hlk he hfd hmut hb c0 c2 c3
    go_enter Try.func12, Try.ntmps12
    go_wp2_with (at_lookup; refine wpList_look_ptr _ rfl _ _ 64 rfl 3 67 Try.underlying3 Try.underlying64 (by kernel_rfl) mb _ _ rfl hmap.out i hi rfl ?_; rw [hf]; dsimp only [ptrV])
    refine Huse.out.mono ?_
    rintro e' w1 ⟨rfl, hw1⟩
    obtain ⟨hm1, hcd⟩ := Hmut.out w1 hw1
    have Hm1 := Lib.hid hm1
    clear hw1 hm1
    go_wp2
    go_ret2
    exact ⟨rfl, Hm1.out⟩
set_option maxRecDepth 100000 in
set_option maxHeartbeats 3200000 in
theorem cch_Put {w : World} {o : Option Nat} {n cb mb clk : Nat} {c : Ch} {M : List Ent} (h : CAt w (srcV o) cb mb clk c M) (hclk : clk < 1000000) (hm : c.most ≤ 1024) (hs : SrcAt w o n) (hno : ∀ nb, o = some nb → ¬ ownC cb mb M nb) (i : Int) (hi : keyI i) (D : Tx) (_ : D.length ≤ 100000) :
    Calls Try.prog 27 #[.pointer (some ⟨cb, 0, none⟩), .int .i64 i, .string (B D)] w fun e w' => e = .returned (.int .i64 (putC c i D).1) ∧ MutG w w' o cb mb clk M (putC c i D).2 n := by
  have hsz := size_B D
  by_cases hlen : D.length = 256
  · have hl1 : (((B D).size : Int) != 256) = false := by rw [hsz, hlen]; rfl
    obtain ⟨-, -, -, -, c4⟩ := cells_of h.blk
    have hmap := Lib.hid h.map
    rcases cch_at h i with ⟨hh, hf, hfd⟩ | ⟨e, hh, he, hf, hfd, hem, hep⟩
    · have hG : putC c i D = (match roomL c with
        | some l => (0, { c with l := ⟨i, D, true, 0⟩ :: l })
        | none => (14, c)) := by unfold putC; rw [if_pos hlen, hfd]; rfl
      generalize putC c i D = R at *
      have H := Lib.hid h
      have HG := Lib.hid hG
      have hkeep : ∀ k, ownC cb mb M k → ¬ (o = some k) := fun k hk e => hno k e hk
      have Hkeep := Lib.hid hkeep
      have Hs1 := Lib.hid hs
      have Hroom := Lib.hid (cch_room h hclk hm)
      unfold roomE at Hroom
      clear hkeep hG h hs hno hfd
      go_enter Try.func27, Try.ntmps27
      go_wp2_with (at_lookup; refine wpList_look_ptr _ rfl _ _ 64 rfl 3 67 Try.underlying3 Try.underlying64 (by kernel_rfl) mb _ _ rfl hmap.out i hi rfl ?_; rw [hf]; dsimp only [ptrV])
      refine Hroom.out.mono ?_
      rintro e w2 ⟨rfl, M', hc2, hsub, hch2⟩
      have hrs := fun l h => room_some H.out.ok (l := l) h
      clear c4 hmap
      cases hrl : roomL c with
      | none =>
        have hc2' : CAt w2 (srcV o) cb mb clk c M' := by rw [hrl] at hc2; exact hc2
        have Hc2 := Lib.hid hc2'
        have Hch2 := Lib.hid hch2
        have Hsub := Lib.hid hsub
        have HR2 : Hid (R = (14, c)) := Lib.hid (by rw [HG.out, hrl])
        clear hc2 hc2' hch2 hsub hrs
        go_wp2
        go_ret
        rw [HR2.out]
        refine ⟨rfl, M', clk, by omega, Hc2.out, ?_, ?_, src_keep Hs1.out Hch2.out (fun nb hnb e => Hkeep.out mb (.inr (.inl rfl)) (by rw [hnb, e]))⟩
        · rintro k (hk | hk | ⟨d, hd, hk⟩)
          · exact .inl (.inl hk)
          · exact .inl (.inr (.inl hk))
          · exact .inl (.inr (.inr ⟨d, Hsub.out d hd, hk⟩))
        · exact Hch2.out.mono (fun k _ hk => .inl (.inr (.inl hk)))
      | some l =>
        obtain ⟨hl1', hl2, -⟩ := hrs l hrl
        have hc2' : CAt w2 (srcV o) cb mb clk { c with l := l } M' := by rw [hrl] at hc2; exact hc2
        have hnl : hasL l i = false := by
          rw [← Bool.not_eq_true]
          intro h2
          obtain ⟨x, hx, hxp⟩ := has_iff.1 h2
          rw [has_iff.2 ⟨x, hl2.subset hx, hxp⟩] at hh
          cases hh
        have Hc2 := Lib.hid hc2'
        have Hch2 := Lib.hid hch2
        have Hsub := Lib.hid hsub
        have hcb2 : cb < w2.heap.size := hc2'.lt (.inl rfl)
        have hmb2 : mb < w2.heap.size := hc2'.lt (.inr (.inl rfl))
        have hm3 : (w2.alloc (.cells #[.string ⟨#[]⟩, .bool false, .int .i64 0, .int .i64 0] 70)).ptrMap Try.prog 3 mb M'.length (entF M') := hc2'.map.alloc _
        have hb3 : (w2.alloc (.cells #[.string ⟨#[]⟩, .bool false, .int .i64 0, .int .i64 0] 70)).heap[cb]? = some (.cells (chCells (srcV o) { c with l := l } clk mb) 66) := (Below.heap_alloc _ _ cb hcb2).trans hc2'.blk
        have hg3 : (w2.alloc (.cells #[.string ⟨#[]⟩, .bool false, .int .i64 0, .int .i64 0] 70)).heap[w2.heap.size]? = some (.cells (entCells ⟨⟨i, [], false, 0⟩, w2.heap.size, 0⟩) 70) := heap_alloc_new _ _
        have Hsz3 : Hid ((w2.alloc (.cells #[.string ⟨#[]⟩, .bool false, .int .i64 0, .int .i64 0] 70)).heap.size = w2.heap.size + 1) := Lib.hid (World.size_alloc _ _)
        have hMl := hc2'.most
        have hfi : entF M' i = none := by unfold entF; rw [entAt_none.2 (by rw [hc2'.list]; exact hnl)]; rfl
        obtain ⟨-, -, -, -, c4⟩ := cells_of hb3
        have Hm3 := Lib.hid hm3
        have Hb3 := Lib.hid hb3
        have Hg3 := Lib.hid hg3
        have hMl2 : M'.length < maxLen := by unfold maxLen; have : c.most ≤ 1024 := hm; have : M'.length ≤ c.most := hMl; omega
        clear hc2 hc2' hch2 hsub hrs hm3 hb3 hg3 hl2 hMl
        go_wp2_with (first
          | (at_mapUpdate; refine wpList_store_ptr _ rfl _ _ _ 64 rfl 3 67 Try.underlying3 Try.underlying64 mb _ _ rfl Hm3.out hMl2 i hi rfl w2.heap.size rfl ?_; intro w4 hm4 ht4; have hb4 := (ht4.grown.block cb (by rw [Hsz3.out]; omega) (by intro h2; exact Hc2.out.ne (Option.some.inj h2))).trans Hb3.out; have hg4 := (ht4.grown.block w2.heap.size (by rw [Hsz3.out]; omega) (by intro h2; have h3 := Option.some.inj h2; omega)).trans Hg3.out; obtain ⟨g0, g1, -, -⟩ := cells_ent (e := ⟨⟨i, [], false, 0⟩, w2.heap.size, 0⟩) hg4; have f0 : w4.frozen? ⟨w2.heap.size, 0, none⟩ = false := Lib.frozen_of_heap hg4 _; have f1 : w4.frozen? ⟨w2.heap.size, 1, none⟩ = false := Lib.frozen_of_heap hg4 _; have Hb4 := Lib.hid hb4; have Hg4 := Lib.hid hg4; have Hm4 := Lib.hid hm4; have Ht4 := Lib.hid ht4; clear hb4 hg4 hm4 ht4))
        have hb5 : ((w4.setCell ⟨w2.heap.size, 0, none⟩ (.string (B D))).setCell ⟨w2.heap.size, 1, none⟩ (.bool true)).heap[cb]? = some (.cells (chCells (srcV o) { c with l := l } clk mb) 66) := (heap_set_other (by omega) _).trans ((heap_set_other (by omega) _).trans Hb4.out)
        have hg5 : ((w4.setCell ⟨w2.heap.size, 0, none⟩ (.string (B D))).setCell ⟨w2.heap.size, 1, none⟩ (.bool true)).heap[w2.heap.size]? = some (.cells (entCells ⟨⟨i, D, true, 0⟩, w2.heap.size, 0⟩) 70) := heap_set_same (heap_set_same Hg4.out _) _
        have hmm := Hm4.out
        rw [hfi] at hmm
        have hfin : ∀ w6, w6 = (((w4.setCell ⟨w2.heap.size, 0, none⟩ (.string (B D))).setCell ⟨w2.heap.size, 1, none⟩ (.bool true)).setCell ⟨cb, 2, none⟩ (.int .i64 ((clk + 1 : Nat) : Int))).setCell ⟨w2.heap.size, 3, none⟩ (.int .i64 ((clk + 1 : Nat) : Int)) →
            MutG w w6 o cb mb clk M { c with l := ⟨i, D, true, 0⟩ :: l } n := by
          rintro w6 rfl
          have hchg : Chg (fun k => k = cb ∨ k = mb) w2 ((((w4.setCell ⟨w2.heap.size, 0, none⟩ (.string (B D))).setCell ⟨w2.heap.size, 1, none⟩ (.bool true)).setCell ⟨cb, 2, none⟩ (.int .i64 ((clk + 1 : Nat) : Int))).setCell ⟨w2.heap.size, 3, none⟩ (.int .i64 ((clk + 1 : Nat) : Int))) :=
            ((((((Chg.refl _ w2).new _).grown Ht4.out.grown (fun k _ e => .inr (Option.some.inj e).symm)).set w2.heap.size 0 _ (fun h => by omega)).set w2.heap.size 1 _ (fun h => by omega)).set cb 2 _ (fun _ => .inl rfl)).set w2.heap.size 3 _ (fun h => by omega)
          have hg6 : ((((w4.setCell ⟨w2.heap.size, 0, none⟩ (.string (B D))).setCell ⟨w2.heap.size, 1, none⟩ (.bool true)).setCell ⟨cb, 2, none⟩ (.int .i64 ((clk + 1 : Nat) : Int))).setCell ⟨w2.heap.size, 3, none⟩ (.int .i64 ((clk + 1 : Nat) : Int))).heap[w2.heap.size]? = some (.cells (entCells ⟨⟨i, D, true, 0⟩, w2.heap.size, clk + 1⟩) 70) :=
            heap_set_same ((heap_set_other (by omega) _).trans hg5) _
          refine ⟨_, clk + 1, Nat.le_refl _, Hc2.out.cons hl1' hnl hi ⟨i, D, true, 0⟩ rfl w2.heap.size ⟨rfl, rfl⟩ (Nat.le_refl _) ?_ hg6 ?_ (fun k hk h1 h2 => hchg.block k hk (by rintro (h | h); exact h1 h; exact h2 h)), ?_, ?_, ?_⟩
          · exact (heap_set_other (by omega) _).trans (heap_set_same hb5 _)
          · exact ptrMap_heap hmm ((heap_set_other (by omega) _).trans ((heap_set_other (Hc2.out.ne).symm _).trans ((heap_set_other (by omega) _).trans (heap_set_other (by omega) _))))
          · have hsz2 := Hch2.out.size
            rintro k (hk | hk | ⟨d, hd, hk⟩)
            · exact .inl (.inl hk)
            · exact .inl (.inr (.inl hk))
            · rcases List.mem_cons.1 hd with rfl | hd
              · exact .inr (by rw [← hk]; show w.heap.size ≤ w2.heap.size; omega)
              · exact .inl (.inr (.inr ⟨d, Hsub.out d hd, hk⟩))
          · refine (Hch2.out.mono (fun k _ hk => .inl (.inr (.inl hk)))).trans hchg (fun k _ hk => ?_)
            rcases hk with hk | hk
            · exact .inl (.inl hk)
            · exact .inl (.inr (.inl hk))
          · refine src_keep (src_keep Hs1.out Hch2.out (fun nb hnb e => Hkeep.out mb (.inr (.inl rfl)) (by rw [hnb, e]))) hchg (fun nb hnb e => ?_)
            rcases e with e | e
            · exact Hkeep.out cb (.inl rfl) (by rw [hnb, e])
            · exact Hkeep.out mb (.inr (.inl rfl)) (by rw [hnb, e])
        have HR2 : Hid (R = (0, { c with l := ⟨i, D, true, 0⟩ :: l })) := Lib.hid (by rw [HG.out, hrl])
        have Hfin := Lib.hid hfin
        have Huse := Lib.hid (cch_use _ (srcV o) cb mb clk { c with l := l } ⟨⟨i, D, true, 0⟩, w2.heap.size, 0⟩ hb5 hg5 hclk)
        clear hb5 hg5 hmm hfin
        refine Huse.out.mono ?_
        rintro e w6 ⟨rfl, hw6⟩
        have Hmut := Lib.hid (Hfin.out w6 hw6)
        clear hw6
        go_wp2
        go_ret
        rw [HR2.out]
        exact ⟨rfl, Hmut.out⟩
    · have hR : Hid (putC c i D = (0, { c with l := { e.x with data := D, dirty := true } :: less c.l i })) := Lib.hid (by unfold putC; rw [if_pos hlen, hfd])
      have he0 := h.ents e hem
      have hch : Chg (fun k => k = e.g) w ((w.setCell ⟨e.g, 0, none⟩ (.string (B D))).setCell ⟨e.g, 1, none⟩ (.bool true)) := (((Chg.refl (fun k => k = e.g) w).set e.g 0 _ (fun _ => rfl)).set e.g 1 _ (fun _ => rfl))
      have he1 : ((w.setCell ⟨e.g, 0, none⟩ (.string (B D))).setCell ⟨e.g, 1, none⟩ (.bool true)).heap[e.g]? = some (.cells (entCells ⟨{ e.x with data := D, dirty := true }, e.g, e.u⟩) 70) := heap_set_same (heap_set_same he0 _) _
      obtain ⟨hb, hmut⟩ := hit_mut h hs hno he { e.x with data := D, dirty := true } hep hch he1
      have Huse := Lib.hid (cch_use _ (srcV o) cb mb clk c ⟨{ e.x with data := D, dirty := true }, e.g, e.u⟩ hb he1 hclk)
      have Hmut := Lib.hid hmut
      obtain ⟨g0, g1, -, -⟩ := cells_ent he0
      have f0 : w.frozen? ⟨e.g, 0, none⟩ = false := Lib.frozen_of_heap he0 _
      have f1 : w.frozen? ⟨e.g, 1, none⟩ = false := Lib.frozen_of_heap he0 _
      rw [hR.out]
      clear h hs hno he hfd hmut hb he0 hch he1
      go_enter Try.func27, Try.ntmps27
      go_wp2_with (at_lookup; refine wpList_look_ptr _ rfl _ _ 64 rfl 3 67 Try.underlying3 Try.underlying64 (by kernel_rfl) mb _ _ rfl hmap.out i hi rfl ?_; rw [hf]; dsimp only [ptrV])
      refine Huse.out.mono ?_
      rintro e' w1 ⟨rfl, hw1⟩
      obtain ⟨hm1, hcd⟩ := Hmut.out w1 hw1
      have Hm1 := Lib.hid hm1
      clear hw1 hm1
      go_wp2
      go_ret
      exact ⟨rfl, Hm1.out⟩
  · have hl1 : (((B D).size : Int) != 256) = true := by rw [bne_iff_ne, hsz]; omega
    have hR : Hid (putC c i D = (3, c)) := Lib.hid (by unfold putC; rw [if_neg hlen])
    have H := Lib.hid h
    have Hs := Lib.hid hs
    rw [hR.out]
    clear hlen h hs hno
    go_enter Try.func27, Try.ntmps27
    go_wp2
    go_ret
    exact ⟨rfl, M, clk, by omega, H.out, fun k hk => .inl hk, Chg.refl _ _, Hs.out⟩
end Go.Proofs.Ytikkdhfbihejbaa
