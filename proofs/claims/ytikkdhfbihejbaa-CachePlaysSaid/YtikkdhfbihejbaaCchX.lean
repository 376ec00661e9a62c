/- Chapter 6: codexref6's Put. Condition: at most 1024 blocks may be kept. -/
import Derived.Test.YtikkdhfbihejbaaCchW
import Derived.Deep.DeepCutAuto
namespace Go.Proofs.Ytikkdhfbihejbaa
open Go.RowKit Go.Cch
attribute [local go_sem] Oper.semAt_some

theorem chg4 (W : World) (b : Nat) (y0 y1 y2 y3 : Value) : Chg (fun k => k = b) W ((((W.setCell ⟨b, 0, none⟩ y0).setCell ⟨b, 1, none⟩ y1).setCell ⟨b, 2, none⟩ y2).setCell ⟨b, 3, none⟩ y3) :=
  ((((Chg.refl (fun k => k = b) W).set b 0 y0 (fun _ => rfl)).set b 1 y1 (fun _ => rfl)).set b 2 y2 (fun _ => rfl)).set b 3 y3 (fun _ => rfl)
theorem set2_kd {W : World} {b : Nat} {x0 x1 x2 x3 : Value} (y1 y2 : Value) {ty : TypeId} (h : W.heap[b]? = some (.cells #[x0, x1, x2, x3] ty)) :
    ((W.setCell ⟨b, 1, none⟩ y1).setCell ⟨b, 2, none⟩ y2).heap[b]? = some (.cells #[x0, y1, y2, x3] ty) := by
  rw [heap_set_same (heap_set_same h _) _]; rfl
theorem put_hit {c : Ch} {i : Int} {d : Tx} {k : Nat} (hd : d.length = 256) (hn : (c.l.map Kd.pos).Nodup) (hk : k < c.l.length) (hp : c.l[k].pos = i) (hf : findL c.l i = some c.l[k]) : putC c i d = (0, ⟨{ c.l[k] with data := d, dirty := true } :: (c.l.take k ++ c.l.drop (k + 1)), c.most, c.misses⟩) := by
  unfold putC
  rw [if_pos hd, hf, ← less_at hn hk, hp]
set_option maxRecDepth 100000 in
set_option maxHeartbeats 1600000 in
theorem ref_Put {w : World} {K rb : Nat} {v : Value} {c : Ch} (h : RAt w K rb v c) (hc : c.Ok) (hK : K ≤ w.heap.size) (hm : c.most ≤ 1024) (i : Int) (d : Tx) (_ : d.length ≤ 100000) :
    Calls Try.prog 35 #[.pointer (some ⟨rb, 0, none⟩), .int .i64 i, .string (B d)] w fun x w' => x = .returned (.int .i64 (putC c i d).1) ∧ MutR w w' K rb v (putC c i d).2 := by
  have hl : c.l.length ≤ 100000 := Nat.le_trans hc.many (by omega)
  have hmany := hc.many
  have hsz : (B d).size = d.length := size_B d
  have hbn : Below w.heap.size w (w.alloc (.cells #[.int .i64 i, .string ⟨#[]⟩, .bool false, .int .i64 0] 57)) := step_new (Below.refl _ _) _
  have hz1 : (w.alloc (.cells #[.int .i64 i, .string ⟨#[]⟩, .bool false, .int .i64 0] 57)).heap.size = w.heap.size + 1 := by simp
  have hr1 := h.below hbn
  have hlt : ∀ k, ownR rb v k → k < w.heap.size := fun k hk => h.lt hk
  have hnew := heap_alloc_new w (.cells #[.int .i64 i, .string ⟨#[]⟩, .bool false, .int .i64 0] 57)
  have hfd := ref_find hr1 i hl
  have H := Lib.hid h
  have Hc := Lib.hid hc
  have Hbn := Lib.hid hbn
  have Hr1 := Lib.hid hr1
  have Hlt := Lib.hid hlt
  have Hnew := Lib.hid hnew
  obtain ⟨G, HG⟩ : ∃ G, Hid (G = putC c i d) := ⟨_, Lib.hid rfl⟩
  rw [← HG.out]
  clear h hc hbn hr1 hlt hnew
  by_cases hd : d.length = 256
  · have hdi : ((B d).size : Int) = 256 := by rw [hsz, hd]; rfl
    have hdb : (((B d).size : Int) != 256) = false := by simp [hdi]
    go_enter Try.func35, Try.ntmps35
    go_wp2_with fail
    generalize w.alloc (.cells #[.int .i64 i, .string ⟨#[]⟩, .bool false, .int .i64 0] 57) = W1 at *
    refine hfd.mono ?_
    rintro x w1 ⟨rfl, z, rfl, hz⟩
    rcases found_cases Hc.out.apart hz with ⟨k, hk, rfl, hp, hf⟩ | ⟨rfl, hf⟩
    · have hG := HG.out
      rw [put_hit hd Hc.out.apart hk hp hf] at hG
      have HG2 := Lib.hid hG
      have HT := Lib.hid (ref_take Hr1.out (by omega) k hk hl)
      have hkp : (0 : Int) ≤ (k : Int) := by omega
      clear hfd hz hf hG HG hp
      go_wp2_with fail
      refine HT.out.mono ?_
      rintro x w2 ⟨rfl, v1, r1, o1, g1⟩
      clear HT
      generalize c.l[k] = y at *
      have hn2 : w2.heap[w.heap.size]? = some (.cells #[.int .i64 i, .string ⟨#[]⟩, .bool false, .int .i64 0] 57) := (g1.block _ (by omega) (fun ho => by have := Hlt.out _ ho; omega)).trans Hnew.out
      obtain ⟨x0, x1, x2, x3, f0, f1, f2, f3⟩ := new4 hn2
      have Hr2 := Lib.hid r1
      have Ho1 := Lib.hid o1
      have Hg1 := Lib.hid g1
      have Hn2 := Lib.hid hn2
      unfold kdV
      clear r1 o1 g1 hn2
      go_upto_region 10 with fail
      have Hn3 := Lib.hid (heap_set4 (.int .i64 y.pos) (.string (B y.data)) (.bool y.dirty) (.int .i64 ((y.pins : Nat) : Int)) Hn2.out)
      have Hc3 := Lib.hid (chg4 w2 w.heap.size (.int .i64 y.pos) (.string (B y.data)) (.bool y.dirty) (.int .i64 ((y.pins : Nat) : Int)))
      generalize (((w2.setCell ⟨w.heap.size, 0, none⟩ (.int .i64 y.pos)).setCell ⟨w.heap.size, 1, none⟩ (.string (B y.data))).setCell ⟨w.heap.size, 2, none⟩ (.bool y.dirty)).setCell ⟨w.heap.size, 3, none⟩ (.int .i64 ((y.pins : Nat) : Int)) = W3 at *
      clear x0 x1 x2 x3 f0 f1 f2 f3 Hn2
      obtain ⟨x0, x1, x2, x3, f0, f1, f2, f3⟩ := new4 Hn3.out
      go_upto_region 12 with fail
      have Hn4 := Lib.hid (set2_kd (.string (B d)) (.bool true) Hn3.out)
      have Hc4 := Lib.hid (((Chg.refl (fun k => k = w.heap.size) W3).set w.heap.size 1 (.string (B d)) (fun _ => rfl)).set w.heap.size 2 (.bool true) (fun _ => rfl))
      generalize (W3.setCell ⟨w.heap.size, 1, none⟩ (.string (B d))).setCell ⟨w.heap.size, 2, none⟩ (.bool true) = W4 at *
      clear x0 x1 x2 x3 f0 f1 f2 f3
      obtain ⟨x0, x1, x2, x3, -, -, -, -⟩ := new4 Hn4.out
      have Hnot := Lib.hid (show ∀ k, ownR rb v1 k → k ≠ w.heap.size from fun k hk e => by
        rcases Ho1.out k hk with h | h
        · have := Hlt.out k h; omega
        · omega)
      have Hc24 := Lib.hid (Hc3.out.trans Hc4.out (fun _ _ h => h))
      have hF := Lib.hid (ref_first (Hr2.out.keep Hc24.out (fun k hk => Hnot.out k hk)) (by have := Hg1.out.size; have := Hc24.out.size; omega) { y with data := d, dirty := true } (by rw [List.length_append, List.length_take, List.length_drop]; omega))
      unfold kdV at hF
      go_wp2_with fail
      refine hF.out.mono ?_
      rintro x w5 ⟨rfl, hm5⟩
      have hend : MutR w w5 K rb v G.2 := by
        rw [HG2.out]
        obtain ⟨v2, r2, o2, g2⟩ := hm5
        refine ⟨v2, r2, fun k hk => ?_, (((Chg.of_below (A := ownR rb v) Hbn.out).trans Hg1.out (fun _ _ h => h)).trans Hc24.out (fun k hk e => by omega)).trans g2 (fun k hk ho => ?_)⟩
        · rcases o2 k hk with h | h
          · rcases Ho1.out k h with h | h
            · exact .inl h
            · exact .inr (by omega)
          · exact .inr (by have := Hg1.out.size; have := Hc24.out.size; omega)
        · rcases Ho1.out k ho with h | h
          · exact h
          · omega
      have Hend := Lib.hid hend
      clear hm5 hend hF
      go_wp2
      go_ret
      exact ⟨by rw [HG2.out]; rfl, Hend.out⟩
    · have hzf : ¬ (0 : Int) ≤ -1 := by omega
      have hR := Lib.hid (ref_room Hr1.out Hc.out (by omega) (by omega))
      have hG : G = match roomL c with | some l => (0, ⟨⟨i, d, true, 0⟩ :: l, c.most, c.misses⟩) | none => (14, c) := by
        rw [HG.out]
        unfold putC
        rw [if_pos hd, hf]
        cases roomL c <;> rfl
      have hlen : ∀ l, roomL c = some l → l.length ≤ c.l.length := fun l hl => (room_some Hc.out hl).2.1.length_le
      clear hfd hz hf HG
      generalize roomL c = rl at *
      have HG2 := Lib.hid hG
      clear hG
      go_wp2_with fail
      refine hR.out.mono ?_
      rintro x w2 ⟨rfl, hm2⟩
      have Hm2 := Lib.hid hm2
      clear hm2 hR
      cases rl with
      | none =>
        go_wp2
        go_ret
        refine ⟨by rw [HG2.out]; rfl, ?_⟩
        rw [HG2.out]
        obtain ⟨v1, r1, o1, g1⟩ := Hm2.out
        exact ⟨v1, r1, fun k hk => (o1 k hk).imp id (fun h => by omega), (Chg.of_below (A := ownR rb v) Hbn.out).trans g1 (fun _ _ h => h)⟩
      | some l =>
        have hll := hlen l rfl
        obtain ⟨v1, r1, o1, g1⟩ := Hm2.out
        have Hn3 := Lib.hid (show w2.heap[w.heap.size]? = some (.cells #[.int .i64 i, .string ⟨#[]⟩, .bool false, .int .i64 0] 57) from (g1.block _ (by omega) (fun ho => by have := Hlt.out _ ho; omega)).trans Hnew.out)
        obtain ⟨x0, x1, x2, x3, f0, f1, f2, f3⟩ := new4 Hn3.out
        have Hr2 := Lib.hid r1
        have Ho1 := Lib.hid o1
        have Hg1 := Lib.hid g1
        clear r1 o1 g1 Hm2 hlen
        go_upto_region 12 with fail
        have Hn4 := Lib.hid (set2_kd (.string (B d)) (.bool true) Hn3.out)
        have Hc4 := Lib.hid (((Chg.refl (fun k => k = w.heap.size) w2).set w.heap.size 1 (.string (B d)) (fun _ => rfl)).set w.heap.size 2 (.bool true) (fun _ => rfl))
        generalize (w2.setCell ⟨w.heap.size, 1, none⟩ (.string (B d))).setCell ⟨w.heap.size, 2, none⟩ (.bool true) = W4 at *
        clear x0 x1 x2 x3 f0 f1 f2 f3
        obtain ⟨x0, x1, x2, x3, -, -, -, -⟩ := new4 Hn4.out
        have Hnot := Lib.hid (show ∀ k, ownR rb v1 k → k ≠ w.heap.size from fun k hk e => by
          rcases Ho1.out k hk with h | h
          · have := Hlt.out k h; omega
          · omega)
        have Hc24 := Lib.hid (Hc4.out)
        have hF := Lib.hid (ref_first (Hr2.out.keep Hc24.out (fun k hk => Hnot.out k hk)) (by have := Hg1.out.size; have := Hc24.out.size; omega) ⟨i, d, true, 0⟩ (by show l.length ≤ 100000; omega))
        unfold kdV at hF
        go_wp2_with fail
        refine hF.out.mono ?_
        rintro x w5 ⟨rfl, hm5⟩
        have hend : MutR w w5 K rb v G.2 := by
          rw [HG2.out]
          obtain ⟨v2, r2, o2, g2⟩ := hm5
          refine ⟨v2, r2, fun k hk => ?_, (((Chg.of_below (A := ownR rb v) Hbn.out).trans Hg1.out (fun _ _ h => h)).trans Hc24.out (fun k hk e => by omega)).trans g2 (fun k hk ho => ?_)⟩
          · rcases o2 k hk with h | h
            · rcases Ho1.out k h with h | h
              · exact .inl h
              · exact .inr (by omega)
            · exact .inr (by have := Hg1.out.size; have := Hc24.out.size; omega)
          · rcases Ho1.out k ho with h | h
            · exact h
            · omega
        have Hend := Lib.hid hend
        clear hm5 hend hF
        go_wp2
        go_ret
        exact ⟨by rw [HG2.out]; rfl, Hend.out⟩
  · have hdi : ¬ ((B d).size : Int) = 256 := by rw [hsz]; omega
    have hdb : (((B d).size : Int) != 256) = true := by simp [hdi]
    have hG : G = (3, c) := by rw [HG.out]; unfold putC; rw [if_neg hd]
    have HG2 := Lib.hid hG
    clear hG HG hfd
    go_enter Try.func35, Try.ntmps35
    go_wp2_with fail
    go_ret
    exact ⟨by rw [HG2.out]; rfl, by rw [HG2.out]; exact mutR_same H.out (Chg.refl _ _)⟩
end Go.Proofs.Ytikkdhfbihejbaa
