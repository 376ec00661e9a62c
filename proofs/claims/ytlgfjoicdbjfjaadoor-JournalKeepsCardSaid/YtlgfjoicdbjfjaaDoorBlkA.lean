/- The device's small methods: check, turn, Dead, Blocks, Fuse, Write. Conditions: a device that may be. -/
import Derived.Test.YtlgfjoicdbjfjaaDoorBlkMem
namespace Go.Proofs.YtlgfjoicdbjfjaaDoor
open Go.RowKit Go.Blk

/-- A row of pending writes that has grown, laid into the device's field. -/
theorem Mut.push {T : TypeId} {w w1 w2 : World} {g : Nat} {od op op1 : Option Nat} {d : Dv} (h1 : DevAt T w1 g od op1 d) (hop : ∀ k, op1 = some k → op = some k ∨ w.heap.size ≤ k) (hc : Chg (ownV g od op) w w1) (o : Obj) (hgrow : (w1.alloc o).grownBy w2 op1)
    (v' : Value) (l : List (Nat × Txt)) (hown : w2.ownsRow 0 47 2 v' l.length (wrCells l)) (hwhere : v'.ownBlock = op1 ∨ ∃ k, v'.ownBlock = some k ∧ (w1.alloc o).heap.size ≤ k) : Mut T w (w2.setCell ⟨g, 1, none⟩ v') g od op { d with pend := l } := by
  have hlt := h1.lt
  obtain ⟨vd, vp, a1, a2, a3, a4, a5, a6, a7, a8⟩ := h1
  have hgl := hlt g (.inl rfl)
  have hblk : ∀ k, k < w1.heap.size → op1 ≠ some k → w2.heap[k]? = w1.heap[k]? := fun k hk hn => (hgrow.block k (by simp; omega) (fun e => hn e.symm)).trans (heap_alloc_old _ _ hk)
  have hg2 : w2.heap[g]? = some (.cells #[vd, vp, .int .i64 d.fuse, .bool d.dead] T (0, 0)) := (hblk g hgl a7).trans a1
  have hsz : w1.heap.size ≤ w2.heap.size := by have := hgrow.size; simp at this; omega
  have c2 : Chg (fun k => op1 = some k) w1 w2 := ⟨hgrow.os, hgrow.tape, hgrow.output, hsz, fun k hk hn => hblk k hk hn⟩
  have hd2 := own_chg a2 c2 (fun k hk e => a8 k (a3.symm.trans hk) e)
  have hv : ∀ k, v'.ownBlock = some k → op1 = some k ∨ w1.heap.size ≤ k := fun k hk => by
    rcases hwhere with h5 | ⟨q, h5, h6⟩
    · exact .inl (h5.symm.trans hk)
    · rw [h5] at hk; simp only [Option.some.injEq] at hk; subst hk; simp at h6; exact .inr (by omega)
  have c3 : Chg (fun k => k = g) w2 (w2.setCell ⟨g, 1, none⟩ v') := (Chg.refl _ w2).set g 1 _ rfl
  have hne : ∀ k, v'.ownBlock = some k → k ≠ g := fun k hk e => by
    rcases hv k hk with h5 | h5
    · exact a7 (by rw [h5, e])
    · omega
  refine ⟨v'.ownBlock, ⟨vd, v', by simp [World.setCell, Array.getElem?_modify, hg2], own_chg hd2 c3 (fun k hk e => a6 (by rw [← a3, hk, e])), a3, own_chg hown c3 (fun k hk => hne k hk), rfl, a6, fun e => hne g e rfl, fun k hk e => ?_⟩, fun k hk => ?_, ?_⟩
  · rcases hv k e with h5 | h5
    · exact a8 k hk h5
    · have := hlt k (.inr (.inl hk)); omega
  · rcases hv k hk with h5 | h5
    · exact hop k h5
    · exact .inr (Nat.le_trans hc.size h5)
  · refine ((hc.trans c2 (fun k hk ha => ?_)).set g 1 _ (.inl rfl))
    rcases hop k ha with h5 | h5
    · exact .inr (.inr h5)
    · omega

set_option maxRecDepth 100000 in
theorem dev_check (d : Dv) (i : Int) (g : Nat) (od op : Option Nat) (w : World) (h : DevAt 80 w g od op d) (_ : d.disk.length ≤ 4096) (h1 : -9223372036854775808 ≤ i) (h2 : i ≤ 9223372036854775807) :
    Calls Tryd.prog 45 #[.pointer (some ⟨g, 0, none⟩), .int .i64 i] w fun e w' => e = .returned (.int .i64 (readE d i : Nat)) ∧ w = w' := by
  obtain ⟨vd, vp, hh, ⟨a, c, rfl⟩, _, c0, c1, c2, c3, _⟩ := h.cells
  clear h hh
  cases hd : d.dead with
  | true =>
    have hE : Hid (readE d i = 4) := Lib.hid (by unfold readE; rw [hd]; rfl)
    rw [hd] at c3
    clear hd
    go_enter Tryd.func45, Tryd.ntmps45
    go_wp2
    go_ret
    exact ⟨by rw [hE.out]; rfl, rfl⟩
  | false =>
    rw [hd] at c3
    by_cases h0 : i < 0
    · have hE : Hid (readE d i = 2) := Lib.hid (by unfold readE inD; rw [hd, decide_eq_false (by omega)]; rfl)
      clear hd
      go_enter Tryd.func45, Tryd.ntmps45
      go_wp2
      go_ret
      exact ⟨by rw [hE.out]; rfl, rfl⟩
    · by_cases h3 : (d.disk.length : Int) ≤ i
      · have hE : Hid (readE d i = 2) := Lib.hid (by unfold readE inD; rw [hd, decide_eq_false (p := i < (d.disk.length : Int)) (by omega), Bool.and_false]; rfl)
        clear hd
        go_enter Tryd.func45, Tryd.ntmps45
        go_wp2
        go_ret
        exact ⟨by rw [hE.out]; rfl, rfl⟩
      · have hE : Hid (readE d i = 0) := Lib.hid (by unfold readE inD; rw [hd, decide_eq_true (by omega), decide_eq_true (by omega)]; rfl)
        clear hd
        go_enter Tryd.func45, Tryd.ntmps45
        go_wp2
        go_ret
        exact ⟨by rw [hE.out]; rfl, rfl⟩
set_option maxRecDepth 100000 in
theorem dev_turn (d : Dv) (g : Nat) (od op : Option Nat) (w : World) (h : DevAt 80 w g od op d) (h1 : -1 ≤ d.fuse) (h2 : d.fuse ≤ 9223372036854775807) :
    Calls Tryd.prog 46 #[.pointer (some ⟨g, 0, none⟩)] w fun e w' => e = .returned (.int .i64 (turnE d : Nat)) ∧ Mut 80 w w' g od op (turnD d) := by
  obtain ⟨vd, vp, hh, _, _, c0, c1, c2, c3, f0, f1, f2, f3, _⟩ := h.cells
  have H := Lib.hid h
  clear h hh
  by_cases h0 : d.fuse = 0
  · have hE : Hid (turnE d = 4 ∧ turnD d = { d with dead := true }) := Lib.hid ⟨by unfold turnE; rw [if_pos h0], by unfold turnD; rw [if_pos h0]⟩
    have hq : (d.fuse == 0) = true := by rw [h0]; rfl
    clear h0
    go_enter Tryd.func46, Tryd.ntmps46
    go_wp2
    go_ret
    exact ⟨by rw [hE.out.1]; rfl, by rw [hE.out.2]; exact (Mut.refl H.out).setDead true⟩
  · have hq : (d.fuse == 0) = false := by rw [beq_eq_false_iff_ne]; exact h0
    by_cases h3 : d.fuse = -1
    · have hE : Hid (turnE d = 0 ∧ turnD d = { d with fuse := -1 }) := Lib.hid ⟨by unfold turnE; rw [if_neg h0], by
        unfold turnD; rw [if_neg h0]
        congr 1
        rw [if_neg (by omega), h3]⟩
      have h4 : d.fuse ≤ -1 := by omega
      have h5 : ¬ -1 < d.fuse - 1 := by omega
      clear h0 h3
      go_enter Tryd.func46, Tryd.ntmps46
      go_wp2
      all_goals
        first
          | (exfalso; omega)
          | (go_ret
             exact ⟨by rw [hE.out.1]; rfl, by rw [hE.out.2]; exact (Mut.refl H.out).setFuse _⟩)
    · have hE : Hid (turnE d = 0 ∧ turnD d = { d with fuse := d.fuse - 1 }) := Lib.hid ⟨by unfold turnE; rw [if_neg h0], by
        unfold turnD; rw [if_neg h0]
        congr 1
        rw [if_pos (by omega)]⟩
      have h4 : -1 < d.fuse - 1 := by omega
      have h5 : ¬ d.fuse - 1 ≤ -1 := by omega
      clear h0 h3
      go_enter Tryd.func46, Tryd.ntmps46
      go_wp2
      all_goals
        first
          | (exfalso; omega)
          | (go_ret
             exact ⟨by rw [hE.out.1]; rfl, by rw [hE.out.2]; exact (Mut.refl H.out).setFuse _⟩)
set_option maxRecDepth 100000 in
theorem dev_Dead (d : Dv) (g : Nat) (od op : Option Nat) (w : World) (h : DevAt 80 w g od op d) :
    Calls Tryd.prog 27 #[.pointer (some ⟨g, 0, none⟩)] w fun e w' => e = .returned (.bool d.dead) ∧ w = w' := by
  obtain ⟨vd, vp, hh, _, _, c0, c1, c2, c3, _⟩ := h.cells
  clear h hh
  go_enter Tryd.func27, Tryd.ntmps27
  go_wp2
  go_ret
  exact ⟨rfl, rfl⟩
set_option maxRecDepth 100000 in
theorem dev_Blocks (d : Dv) (g : Nat) (od op : Option Nat) (w : World) (h : DevAt 80 w g od op d) :
    Calls Tryd.prog 26 #[.pointer (some ⟨g, 0, none⟩)] w fun e w' => e = .returned (.int .i64 (d.disk.length : Nat)) ∧ w = w' := by
  obtain ⟨vd, vp, hh, ⟨a, c, rfl⟩, _, c0, c1, c2, c3, _⟩ := h.cells
  clear h hh
  go_enter Tryd.func26, Tryd.ntmps26
  go_wp2
  go_ret
  exact ⟨rfl, rfl⟩
set_option maxRecDepth 100000 in
theorem dev_Fuse (d : Dv) (n : Int) (g : Nat) (od op : Option Nat) (w : World) (h : DevAt 80 w g od op d) :
    Calls Tryd.prog 19 #[.pointer (some ⟨g, 0, none⟩), .int .i64 n] w fun e w' => e = .returned (.tuple #[]) ∧ Mut 80 w w' g od op (fuseD d n) := by
  obtain ⟨vd, vp, hh, _, _, c0, c1, c2, c3, f0, f1, f2, f3, _⟩ := h.cells
  have H := Lib.hid h
  clear h hh
  by_cases h3 : n ≤ -1
  · have hE : Hid (fuseD d n = { d with fuse := -1 }) := Lib.hid (by unfold fuseD; congr 1; omega)
    have h4 : ¬ -1 < n := by omega
    go_enter Tryd.func19, Tryd.ntmps19
    go_wp2
    all_goals
      first
        | (go_end0
           exact ⟨rfl, by rw [hE.out]; exact (Mut.refl H.out).setFuse _⟩)
        | (obtain rfl : n = -1 := by omega
           go_end0
           exact ⟨rfl, by rw [hE.out]; exact (Mut.refl H.out).setFuse _⟩)
  · have hE : Hid (fuseD d n = { d with fuse := n }) := Lib.hid (by unfold fuseD; congr 1; omega)
    have h4 : -1 < n := by omega
    go_enter Tryd.func19, Tryd.ntmps19
    go_wp2
    all_goals
      first
        | (exfalso; omega)
        | (go_end0
           exact ⟨rfl, by rw [hE.out]; exact (Mut.refl H.out).setFuse _⟩)
theorem Tryd.info_wr : (Tryd.prog.info? 47).map (fun i => (i.zero, i.size, i.bytes)) = some (some (.agg #[.int .i64 0, .string ⟨#[]⟩]), 2, 24) := by kernel_rfl
theorem cell2_newW (w : World) (b : Nat) (hb : b = w.heap.size) (x y : Value) (t : TypeId) : ∀ (j : Nat) u, [x, y][j]? = some u → (w.alloc (.cells #[x, y] t)).cell? ((⟨b, 0, none⟩ : Addr).add j) = some u := by
  subst hb
  intro j u hu
  have hh := heap_alloc_new w (.cells #[x, y] t)
  match j, hu with
  | 0, hu => simp at hu; subst hu; rw [show ((⟨w.heap.size, 0, none⟩ : Addr).add 0) = ⟨w.heap.size, 0, none⟩ from rfl, Lib.cell_of_heap hh]; rfl
  | 1, hu => simp at hu; subst hu; rw [show ((⟨w.heap.size, 0, none⟩ : Addr).add 1) = ⟨w.heap.size, 1, none⟩ from rfl, Lib.cell_of_heap hh]; rfl
  | j + 2, hu => simp at hu
set_option maxRecDepth 100000 in
set_option maxHeartbeats 800000 in
theorem dev_Write (d : Dv) (i : Int) (s : ByteArray) (g : Nat) (od op : Option Nat) (w : World) (h : DevAt 80 w g od op d) (ok : d.Ok) (hp : d.pend.length ≤ 100000) (h1 : -9223372036854775808 ≤ i) (h2 : i ≤ 9223372036854775807) (_ : s.size ≤ 9223372036854775807) :
    Calls Tryd.prog 51 #[.pointer (some ⟨g, 0, none⟩), .int .i64 i, .string s] w fun e w' => e = .returned (.int .i64 (writeE d i (L s) : Nat)) ∧ Mut 80 w w' g od op (writeD d i (L s)) := by
  have Hc := Lib.hid (dev_check d i g od op w h ok.n1 h1 h2)
  have Ht := Lib.hid (dev_turn d g od op w h ok.fuse0 ok.fuse1)
  have H := Lib.hid h
  clear h
  obtain ⟨i0, hi, hz0, hz1, hz2⟩ := info_parts Tryd.info_wr
  have hrd : (readE d i = 0 ∧ d.dead = false ∧ inD d i = true) ∨ (readE d i ≠ 0 ∧ writeE d i (L s) = readE d i ∧ writeD d i (L s) = d) := by
    unfold readE writeE writeD
    cases d.dead <;> cases inD d i <;> simp
  rcases hrd with ⟨hr, hd, hin⟩ | ⟨hr, he, hw⟩
  · rw [hr] at Hc
    clear hr
    by_cases hs256 : s.size = 256
    · have hne : ((s.size : Int) != 256) = false := by rw [hs256]; rfl
      have hL : (L s).length = 256 := by rw [length_L]; exact hs256
      by_cases h0 : d.fuse = 0
      · have hE : Hid (writeE d i (L s) = 4 ∧ writeD d i (L s) = turnD d ∧ turnE d = 4) := Lib.hid (by unfold writeE writeD turnOk turnE; rw [hd, hin, hL, h0]; simp)
        rw [hE.out.2.2] at Ht
        clear hs256 hL h0 hd hin
        go_enter Tryd.func51, Tryd.ntmps51
        go_wp2_with fail
        refine Hc.out.mono ?_
        rintro e w1 ⟨rfl, rfl⟩
        go_wp2_with fail
        refine Ht.out.mono ?_
        rintro e w2 ⟨rfl, m2⟩
        have M2 := Lib.hid m2
        clear m2
        go_wp2
        go_ret
        exact ⟨by rw [hE.out.1]; rfl, by rw [hE.out.2.1]; exact M2.out⟩
      · have hE : Hid (writeE d i (L s) = 0 ∧ writeD d i (L s) = { turnD d with pend := d.pend ++ [(i.toNat, L s)] } ∧ turnE d = 0) := Lib.hid (by unfold writeE writeD turnOk turnE; rw [hd, hin, hL]; simp [h0])
        have hit : ((i.toNat : Nat) : Int) = i := by unfold inD at hin; rw [Bool.and_eq_true, decide_eq_true_eq] at hin; omega
        have Hit := Lib.hid hit
        have Hpd := Lib.hid (turn_same d).2
        rw [hE.out.2.2] at Ht
        clear hs256 hL h0 hd hin hit
        generalize turnD d = d1 at *
        go_enter Tryd.func51, Tryd.ntmps51
        go_wp2_with fail
        refine Hc.out.mono ?_
        rintro e w1 ⟨rfl, rfl⟩
        go_wp2_with fail
        refine Ht.out.mono ?_
        rintro e w2 ⟨rfl, op1, hD1, hop1, hc1⟩
        obtain ⟨vd, vp, hh, _, _, c0, c1, c2, c3, f0, f1, f2, f3, _, _, hown, hob⟩ := hD1.cells
        rw [Hpd.out] at hown
        have HD1 := Lib.hid hD1
        have Hop1 := Lib.hid hop1
        have Hc1 := Lib.hid hc1
        have Hob := Lib.hid hob
        have Hne := Lib.hid (show op1 ≠ some g by obtain ⟨_, _, _, _, _, _, _, _, h7, _⟩ := hD1; exact h7)
        have hgl := hD1.lt g (.inl rfl)
        have hnew := Lib.hid (cell2_newW w2 w2.heap.size rfl (.int .i64 i) (.string s) 47)
        have hown2 := hown.alloc (.cells #[.int .i64 i, .string s] 47)
        clear hD1 hop1 hc1 hob hh hown c0 c2 c3 f0 f2 f3
        go_wp2_with (at_builtin; go_must (refine wpList_append_where _ rfl _ _ 35 rfl 0 47 i0 (.agg #[.int .i64 0, .string ⟨#[]⟩]) 2 24 Tryd.underlying35 hi hz0 hz1 hz2 rfl (by decide) _ _ _ rfl hown2 ⟨w2.heap.size, 0, none⟩ 1 1 [.int .i64 i, .string s] rfl rfl ?c1 ?c2 ?c3 ?c4 ?c5 ?_))
        case c1 => exact hnew.out
        case c2 => simp [Value.oneCell']
        case c3 => unfold maxLen; omega
        case c4 => omega
        case c5 => simp
        intro v' w3 hown' hgrow hwhere
        have hlen' : d.pend.length + 1 = (d.pend ++ [(i.toNat, L s)]).length := by simp
        have hcells' : wrCells d.pend ++ [.int .i64 i, .string s] = wrCells (d.pend ++ [(i.toNat, L s)]) := by
          rw [wrCells_append]
          congr 1
          show _ = [Value.int .i64 ((i.toNat : Nat) : Int), .string (B (L s))]
          rw [Hit.out, B_L]
        rw [hlen', hcells'] at hown'
        rw [Hob.out] at hgrow hwhere
        have M := Lib.hid (Mut.push HD1.out Hop1.out Hc1.out _ hgrow v' _ hown' (by simpa using hwhere))
        have hg3 : w3.heap[g]? = (w2.alloc (.cells #[.int .i64 i, .string s] 47)).heap[g]? := hgrow.block g (by simp; omega) (fun e => Hne.out e.symm)
        have hg4 := hg3.trans (heap_alloc_old _ _ hgl)
        obtain ⟨vd', vp', hh', _⟩ := HD1.out.cells
        have f1 := Lib.frozen_of_heap (hg4.trans hh') 1
        have c1 : w3.cell? ⟨g, 1, none⟩ = some vp' := by rw [Lib.cell_of_heap (hg4.trans hh')]; rfl
        obtain ⟨av, nv, cv, rfl⟩ : ∃ a n c, v' = .slice a n c := by
          rcases hown'.2 with ⟨h7, _⟩ | ⟨_, cap, _, h7, _⟩
          · exact ⟨_, _, _, h7⟩
          · exact ⟨_, _, _, h7⟩
        clear hg3 hg4 hh' hlen' hcells' hown' hgrow hwhere hown2
        go_wp2
        go_ret
        exact ⟨by rw [hE.out.1]; rfl, by rw [hE.out.2.1]; exact M.out⟩
    · have hne : ((s.size : Int) != 256) = true := by rw [bne_iff_ne]; omega
      have hL : (L s).length ≠ 256 := by rw [length_L]; exact hs256
      have hE : Hid (writeE d i (L s) = 3 ∧ writeD d i (L s) = d) := Lib.hid (by unfold writeE writeD; rw [hd, hin]; simp [hL])
      clear hs256 hL hd hin
      go_enter Tryd.func51, Tryd.ntmps51
      go_wp2_with fail
      refine Hc.out.mono ?_
      rintro e w1 ⟨rfl, rfl⟩
      go_wp2
      go_ret
      exact ⟨by rw [hE.out.1]; rfl, by rw [hE.out.2]; exact Mut.refl H.out⟩
  · have hq : (((readE d i : Nat) : Int) == 0) = false := by rw [beq_eq_false_iff_ne]; omega
    have He := Lib.hid he
    have Hw := Lib.hid hw
    clear hr he hw
    generalize readE d i = en at *
    go_enter Tryd.func51, Tryd.ntmps51
    go_wp2_with fail
    refine Hc.out.mono ?_
    rintro e w1 ⟨rfl, rfl⟩
    go_wp2
    go_ret
    exact ⟨by rw [He.out]; rfl, by rw [Hw.out]; exact Mut.refl H.out⟩
end Go.Proofs.YtlgfjoicdbjfjaaDoor
