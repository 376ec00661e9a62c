/- Chapter 6: codexref6's Get and Put. Condition: at most 1024 blocks may be kept, the numbers are small. -/
import Derived.Test.YtikkdhfbihejbaaCchV
namespace Go.Proofs.Ytikkdhfbihejbaa
open Go.RowKit Go.Cch
attribute [local go_sem] Oper.semAt_some

theorem MutR.trans {w w1 w2 w3 : World} {K rb : Nat} {v : Value} {c1 c2 : Ch} (h1 : MutR w w1 K rb v c1) (hb : Below w1.heap.size w1 w2) (h2 : ∀ v', RAt w2 K rb v' c1 → (∀ k, ownR rb v' k → k < w1.heap.size) → MutR w2 w3 K rb v' c2) : MutR w w3 K rb v c2 := by
  obtain ⟨v1, r1, o1, g1⟩ := h1
  obtain ⟨v2, r2, o2, g2⟩ := h2 v1 (r1.below hb) (fun k hk => r1.lt hk)
  refine ⟨v2, r2, fun k hk => ?_, (g1.call hb).trans g2 (fun k hk ho => ?_)⟩
  · rcases o2 k hk with h | h
    · exact o1 k h
    · exact .inr (Nat.le_trans (Nat.le_trans g1.size hb.size) h)
  · rcases o1 k ho with h | h
    · exact h
    · omega
theorem RAt.miss {w : World} {K rb : Nat} {v : Value} {c : Ch} (h : RAt w K rb v c) : MutR w (w.setCell ⟨rb, 2, none⟩ (.int .i64 ((c.misses : Int) + 1))) K rb v { c with misses := c.misses + 1 } := by
  have hg : Chg (fun k => k = rb) w (w.setCell ⟨rb, 2, none⟩ (.int .i64 ((c.misses : Int) + 1))) := (Chg.refl _ w).set _ _ _ (fun _ => rfl)
  refine ⟨v, ⟨?_, own_chg h.row hg (fun k hk e => h.ne (by rw [hk, e])), h.ne, h.low⟩, fun k hk => .inl hk, hg.mono (fun k _ e => .inl e)⟩
  rw [heap_set_same h.blk]; rfl
theorem new_kd (w : World) (x : Kd) : (w.alloc (.cells #[.int .i64 x.pos, .string (B x.data), .bool x.dirty, .int .i64 ((x.pins : Nat) : Int)] 57)).heap[w.heap.size]? = some (.cells #[.int .i64 x.pos, .string (B x.data), .bool x.dirty, .int .i64 ((x.pins : Nat) : Int)] 57) := heap_alloc_new w _
/-- One of it is taken and stands first. -/
theorem get_hit {c : Ch} {i : Int} {t : Tx} {e : Int} {k : Nat} (hn : (c.l.map Kd.pos).Nodup) (hk : k < c.l.length) (hp : c.l[k].pos = i) (hf : findL c.l i = some c.l[k]) : getC c i t e = ((c.l[k].data, 0), ⟨c.l[k] :: (c.l.take k ++ c.l.drop (k + 1)), c.most, c.misses⟩) := by
  unfold getC
  rw [hf, ← less_at hn hk, hp]
set_option maxRecDepth 100000 in
set_option maxHeartbeats 1600000 in
theorem ref_Get {w : World} {K rb : Nat} {v : Value} {c : Ch} (h : RAt w K rb v c) (hc : c.Ok) (hK : K ≤ w.heap.size) (hm : c.most ≤ 1024) (hmi : c.misses ≤ 1000000) (i : Int) (t : Tx) (e : Int) :
    Calls Try.prog 40 #[.pointer (some ⟨rb, 0, none⟩), .int .i64 i, .string (B t), .int .i64 e] w fun x w' => x = .returned (.tuple #[.string (B (getC c i t e).1.1), .int .i64 (getC c i t e).1.2]) ∧ MutR w w' K rb v (getC c i t e).2 := by
  have hl : c.l.length ≤ 100000 := Nat.le_trans hc.many (by omega)
  have hfd := ref_find h i hl
  have hmany := hc.many
  have H := Lib.hid h
  have Hc := Lib.hid hc
  obtain ⟨G, HG⟩ : ∃ G, Hid (G = getC c i t e) := ⟨_, Lib.hid rfl⟩
  rw [← HG.out]
  clear h hc
  go_enter Try.func40, Try.ntmps40
  go_wp2_with fail
  refine hfd.mono ?_
  rintro x w1 ⟨rfl, z, rfl, hz⟩
  rcases found_cases Hc.out.apart hz with ⟨k, hk, rfl, hp, hf⟩ | ⟨rfl, hf⟩
  · have hG := HG.out
    rw [get_hit Hc.out.apart hk hp hf] at hG
    have HG2 := Lib.hid hG
    have HT := Lib.hid (ref_take H.out hK k hk hl)
    have hkp : (0 : Int) ≤ (k : Int) := by omega
    clear hfd hz hf hG HG hp
    go_wp2_with fail
    refine HT.out.mono ?_
    rintro x w2 ⟨rfl, hm2⟩
    clear HT
    generalize c.l[k] = y at *
    obtain ⟨v1, r1, o1, g1⟩ := id hm2
    have hbn : Below w2.heap.size w2 (w2.alloc (.cells #[.int .i64 y.pos, .string (B y.data), .bool y.dirty, .int .i64 ((y.pins : Nat) : Int)] 57)) := step_new (Below.refl _ _) _
    obtain ⟨x0, x1, x2, x3, -, -, -, -⟩ := new4 (new_kd w2 y)
    have hF := Lib.hid (ref_first (r1.below hbn) (by have := g1.size; simp; omega) y (by rw [List.length_append, List.length_take, List.length_drop]; omega))
    have Hne := Lib.hid (fun k hk => r1.lt (k := k) hk)
    have Hm2 := Lib.hid hm2
    have Hr1 := Lib.hid r1
    have Ho1 := Lib.hid o1
    have Hg1 := Lib.hid g1
    have Hbn := Lib.hid hbn
    unfold kdV at *
    clear hm2 r1 o1 g1 hbn
    go_wp2_with fail
    refine hF.out.mono ?_
    rintro x w3 ⟨rfl, hm3⟩
    have hx1 : w3.cell? ⟨w2.heap.size, 1, none⟩ = some (.string (B y.data)) := by
      obtain ⟨v2, r2, o2, g2⟩ := hm3
      exact g2.cell (fun ho => by have := Hne.out _ ho; omega) x1
    have hend : MutR w w3 K rb v G.2 := by
      rw [HG2.out]
      obtain ⟨v2, r2, o2, g2⟩ := hm3
      refine ⟨v2, r2, fun k hk => ?_, (Hg1.out.call Hbn.out).trans g2 (fun k hk ho => ?_)⟩
      · rcases o2 k hk with h | h
        · exact Ho1.out k h
        · exact .inr (by have := Hg1.out.size; simp at h; omega)
      · rcases Ho1.out k ho with h | h
        · exact h
        · omega
    have Hend := Lib.hid hend
    clear hm3 hend hF
    go_wp2
    go_ret2
    exact ⟨by rw [HG2.out]; rfl, Hend.out⟩
  · have hzf : ¬ (0 : Int) ≤ -1 := by omega
    clear hfd hz
    by_cases he : e = 0
    · subst he
      have hR := Lib.hid (ref_room H.out Hc.out hK (by omega))
      have hG : G = match roomL c with | some l => ((t, 0), ⟨⟨i, t, false, 0⟩ :: l, c.most, c.misses + 1⟩) | none => (([], 14), c) := by
        rw [HG.out]
        unfold getC
        rw [hf, if_pos rfl]
        cases roomL c <;> rfl
      have hlen : ∀ l, roomL c = some l → l.length ≤ c.l.length := fun l hl => (room_some Hc.out hl).2.1.length_le
      clear HG hf
      generalize roomL c = rl at *
      have HG2 := Lib.hid hG
      clear hG
      go_wp2_with fail
      refine hR.out.mono ?_
      rintro x w2 ⟨rfl, hm2⟩
      have Hm2 := Lib.hid hm2
      clear hm2 hR
      cases rl with
      | none =>
        go_wp2
        go_ret2
        exact ⟨by rw [HG2.out]; rfl, by rw [HG2.out]; exact Hm2.out⟩
      | some l =>
        have hll := hlen l rfl
        obtain ⟨v1, r1, o1, g1⟩ := Hm2.out
        obtain ⟨-, -, c2, -, f2⟩ := r1.cells
        have hmis := r1.miss
        obtain ⟨v1', r1', o1', g1'⟩ := id hmis
        have hF := Lib.hid (ref_first r1' (by have := g1.size; have := g1'.size; omega) ⟨i, t, false, 0⟩ (by show l.length ≤ 100000; omega))
        have Hr1 := Lib.hid r1
        have Hg1 := Lib.hid g1
        have Ho1 := Lib.hid o1
        have Hg1' := Lib.hid g1'
        have Ho1' := Lib.hid o1'
        unfold kdV at hF
        clear r1 g1 o1 r1' g1' o1' hmis Hm2 hlen
        have c2 : w2.cell? ⟨rb, 2, none⟩ = some (.int .i64 ((c.misses : Nat) : Int)) := c2
        go_wp2_with fail
        refine hF.out.mono ?_
        rintro x w3 ⟨rfl, hm3⟩
        have hend : MutR w w3 K rb v G.2 := by
          rw [HG2.out]
          obtain ⟨v2, r2, o2, g2⟩ := hm3
          refine ⟨v2, r2, fun k hk => ?_, (Hg1.out.trans Hg1'.out (fun k hk ho => ?_)).trans g2 (fun k hk ho => ?_)⟩
          · rcases o2 k hk with h | h
            · rcases Ho1'.out k h with h | h
              · exact Ho1.out k h
              · exact .inr (by have := Hg1.out.size; omega)
            · exact .inr (by have := Hg1.out.size; have := Hg1'.out.size; omega)
          · rcases Ho1.out k ho with h | h
            · exact h
            · omega
          · rcases Ho1'.out k ho with h | h
            · rcases Ho1.out k h with h | h
              · exact h
              · omega
            · have := Hg1.out.size; omega
        have Hend := Lib.hid hend
        clear hm3 hend hF
        go_wp2
        go_ret2
        exact ⟨by rw [HG2.out]; rfl, Hend.out⟩
    · have hG : G = (([], e), c) := by
        rw [HG.out]
        unfold getC
        rw [hf, if_neg he]
      have HG2 := Lib.hid hG
      have heb : (e != 0) = true := by simp [he]
      clear hG HG hf
      go_wp2
      go_ret2
      exact ⟨by rw [HG2.out]; rfl, by rw [HG2.out]; exact mutR_same H.out (Chg.refl _ _)⟩
end Go.Proofs.Ytikkdhfbihejbaa
