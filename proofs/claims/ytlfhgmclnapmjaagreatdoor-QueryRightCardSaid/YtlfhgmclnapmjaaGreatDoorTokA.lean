/- Chapter 11: words, the iterator: it tells the words. Conditions: the tables; the text is at most 10^6 bytes. -/
import Derived.Test.YtlfhgmclnapmjaaGreatDoorUtfJ
import Derived.Test.YtlfhgmclnapmjaaGreatDoorUtfF
import Derived.Test.YtlfhgmclnapmjaaGreatDoorTokPlain
import Derived.RangeFuncBox
import Derived.RangeFuncCalls
import Derived.Shelf.RegionOpen
import Derived.Test.YtlfhgmclnapmjaaGreatDoorHeld
namespace Go.Proofs.YtlfhgmclnapmjaaGreatDoor
open Go.RowKit Go.Utf Go.Lib Go.Shelf
attribute [local go_sem] Oper.semAt_some

theorem tok_words (s : ByteArray) (w : World) : Calls Tryz.prog 45 #[.string s] w fun e w' => e = .returned (.func (.func 67) #[] #[.pointer (some ⟨w.heap.size, 0, none⟩)]) ∧ w' = w.alloc (.cells #[.string s] 9) := by
  go_enter Tryz.func45, Tryz.ntmps45
  go_wp2
  go_ret
  exact ⟨rfl, rfl⟩
theorem box_under {W W' : World} {b : Nat} {t : TypeId} {v : Value} (h : Boxed W b t v) (hb : Below W.heap.size W W') : Boxed W' b t v := (hb.block b h.lt).trans h
/-- A part of a walk that ends, on whatever way, with two things known: what follows is shown once. -/
theorem by_hole {α β : Type} {H : α → β → Prop} {G : Prop} (h : ∃ Z : α → β → Prop, (∀ a b, H a b → Z a b) ∧ ((∀ a b, H a b → Z a b) → G)) : G := let ⟨_, h1, h2⟩ := h; h2 h1
theorem kpk_sub {X Y : Nat → Prop} {e : TypeId} {n₀ : Nat} {A B : World} (h : KpK X e n₀ A B) (hs : ∀ k, Y k → X k) : KpK Y e n₀ A B := ⟨h.1, fun k o hk => h.2 k o (hs k hk)⟩
theorem kpk_keeps {X : Nat → Prop} {e : TypeId} {n₀ b : Nat} {A B : World} (h : KpK X e n₀ A B) (hs : ∀ k, b ≤ k → X k) : KeepsFrom b A B := ⟨h.1.size, fun k o hb hk ho => h.2 k o (hs k hb) hk (fun c fz e' => by rw [e'] at ho; cases ho)⟩
theorem kpk_set {X : Nat → Prop} {e : TypeId} {n₀ b : Nat} {A B : World} (h : KpK X e n₀ A B) (hn : n₀ ≤ b) (hb : ¬ X b) (v : Value) : KpK X e n₀ A (B.setCell ⟨b, 0, none⟩ v) :=
  ⟨h.1.setCell hn v, fun k o hk ho hc => (Below.heap_setCell _ _ _ _ (by rintro rfl; exact hb hk)).trans (h.2 k o hk ho hc)⟩
theorem kpk_any {X : Nat → Prop} {e : TypeId} {n₀ : Nat} {W W' : World} (hn : n₀ ≤ W.heap.size) (h : Below W.heap.size W W') : KpK X e n₀ W W' := kpk_below hn h
/-- A part of a walk that goes on alone. -/
theorem wpIn_goes {F : Fence} {n : Nat} {P : Program} {c : Code} {Q : Exit → Act → World → Prop} {a : Act} {w : World} (h : c.wpIn F n P (Exit.then (fun a w => Q .normal a w) (fun _ _ _ => False)) a w) : c.wpIn F n P Q a w :=
  wpIn_mono h fun e a w hq => by cases e <;> first | exact hq | exact hq.elim
theorem round_wide {n m l l' : Nat} {P : Program} {f : FuncId} {tmps : Array Value} {assign body : Code} {w : World} {R : Ending → World → Prop} (h : RoundIn Fence.wide n P l f tmps assign body w R) : RoundIn (Fence.wide.inRound l') m P l f tmps assign body w R := ⟨h.1, fun c cs _ => h.2 c cs (room_wide _)⟩
theorem round_wide0 {n m l : Nat} {P : Program} {f : FuncId} {tmps : Array Value} {assign body : Code} {w : World} {R : Ending → World → Prop} (h : RoundIn Fence.wide n P l f tmps assign body w R) : RoundIn Fence.wide m P l f tmps assign body w R := ⟨h.1, fun c cs _ => h.2 c cs (room_wide _)⟩
theorem box_turn {A C : World} {row : Option Nat} {B b : Nat} {c : Array Value} {t : TypeId} {fz : Nat × Nat} (h : A.heap[b]? = some (.cells c t fz)) (hlt : b < B) (hg : A.grownBy C row) (hr : ∀ r, row = some r → B ≤ r) : C.heap[b]? = some (.cells c t fz) :=
  (hg.block b (Array.getElem?_eq_some_iff.1 h).1 (fun e => by have := hr b e.symm; omega)).trans h
def txV (t : List UInt8) : Array Value := #[.string (B t)]
set_option maxRecDepth 100000 in
set_option maxHeartbeats 6400000 in
theorem words1_gives (n : Nat) (hn : 6 ≤ n) (box : Nat) (s : ByteArray) (hs : s.size ≤ 1000000) (w0 : World) (hT : Tabs w0) (w : World) (hw : Below w0.heap.size w0 w) (fz : Nat × Nat) (hbox : w.heap[box]? = some (.cells #[.string s] 9 fz)) (X : Nat → Prop) (e : TypeId) (hXb : X box) (hXA : ∀ k, w.heap.size + 2 ≤ k → X k) (he1 : 9 ≠ e) (he2 : 3 ≠ e) (he3 : 53 ≠ e) :
    Gives2 e Fence.wide n Tryz.prog 67 #[.pointer (some ⟨box, 0, none⟩)] txV (KpK X e w0.heap.size) (wordsL (L s)) w := by
  intro l J Jx W hW hWz hJ hJx hY h0
  have HT := Lib.hid hT
  have HJ := Lib.hid hJ
  have HJx := Lib.hid hJx
  have HY := Lib.hid hY
  have HXA := Lib.hid hXA
  have HXb := Lib.hid hXb
  have hbl : box < W.heap.size := by have := (Array.getElem?_eq_some_iff.1 hbox).1; omega
  have hboxW : W.heap[box]? = some (.cells #[.string s] 9 fz) := (hW.block box (Array.getElem?_eq_some_iff.1 hbox).1).trans hbox
  have hbW := hw.trans (hW.mono hw.size)
  clear hT hJ hJx hY hXA hXb hbox hw hW
  refine callsIn_of_wp_marks Tryz.func67 rfl trivial ?_ rfl
  simp only [Tryz.ntmps67, List.size_toArray, List.length_cons, List.length_nil, Nat.reduceAdd, Nat.reduceSub, Array.replicate_succ, Array.replicate_zero, List.push_toArray, List.append_toArray, List.nil_append, List.cons_append]
  refine wpIn_wide.2 ?_
  have hY1 : Boxed ((W.alloc (.cells #[.func (.yield l) #[] #[]] 53)).alloc (.cells #[.int .i64 (-1)] 3)) W.heap.size 53 (.func (.yield l) #[] #[]) := (Boxed.new W _ _).alloc _
  have hF1 : Boxed ((W.alloc (.cells #[.func (.yield l) #[] #[]] 53)).alloc (.cells #[.int .i64 (-1)] 3)) (W.heap.size + 1) 3 (.int .i64 (-1)) := by
    have := Boxed.new (W.alloc (.cells #[.func (.yield l) #[] #[]] 53)) 3 (.int .i64 (-1))
    rwa [World.size_alloc] at this
  have hb1 : Below W.heap.size W ((W.alloc (.cells #[.func (.yield l) #[] #[]] 53)).alloc (.cells #[.int .i64 (-1)] 3)) := step_new (step_new (Below.refl _ _) _) _
  have hB1 := (hb1.block box hbl).trans hboxW
  have cB1 : ((W.alloc (.cells #[.func (.yield l) #[] #[]] 53)).alloc (.cells #[.int .i64 (-1)] 3)).cell? ⟨box, 0, none⟩ = some (.string s) := cell_of_box hB1
  have hz1 : ((W.alloc (.cells #[.func (.yield l) #[] #[]] 53)).alloc (.cells #[.int .i64 (-1)] 3)).heap.size = W.heap.size + 1 + 1 := by simp
  have hJ1 : J [] ((W.alloc (.cells #[.func (.yield l) #[] #[]] 53)).alloc (.cells #[.int .i64 (-1)] 3)) := HJ.out _ _ _ _ h0 (grown_below hb1) (fun r e => by cases e)
  go_wp2_with fail
  generalize (W.alloc (.cells #[.func (.yield l) #[] #[]] 53)).alloc (.cells #[.int .i64 (-1)] 3) = W1 at hY1 hF1 hb1 hB1 cB1 hz1 hJ1 ⊢
  refine (utf_Runes s W1).mono ?_
  rintro e' w2 ⟨rfl, rfl⟩
  rw [hz1]
  have hY2 := hY1.alloc (.cells #[.string s] 9)
  have hF2 := hF1.alloc (.cells #[.string s] 9)
  have hb2 := step_new hb1 (.cells #[.string s] 9)
  have hB2 := (hb2.block box hbl).trans hboxW
  have hR2 := Boxed.new W1 9 (.string s)
  have hJ2 : J [] (W1.alloc (.cells #[.string s] 9)) := HJ.out _ _ _ _ hJ1 (World.grownBy_alloc W1 _ none) (fun r e => by cases e)
  have hz2 : (W1.alloc (.cells #[.string s] 9)).heap.size = W.heap.size + 1 + 1 + 1 := by rw [World.size_alloc, hz1]
  rw [hz1] at hR2
  generalize W1.alloc (.cells #[.string s] 9) = W2 at *
  have hbw2 := hbW.trans (hb2.mono hbW.size)
  clear hY1 hF1 hb1 hB1 cB1 hz1 hJ1 h0 hboxW
  have hn00 := hbW.size
  generalize W.heap.size = n0 at *
  go_wp2_with fail
  refine wpIn_wide.1 (wpIn_rangeSeq2 (n := n) rfl (by omega) (gf := 84) (lb := #[.pointer (some ⟨n0 + 1 + 1, 0, none⟩)]) ?hg trivial (enters_of Tryz.func84 (by kernel_rfl) rfl)
    (runes2_gives _ (by omega) (n0 + 1 + 1) s (by omega) w0 HT.out W2 hbw2 (0, 0) hR2 (fun k => k = n0 + 1 + 1 ∨ W2.heap.size + 2 ≤ k) e (.inl rfl) (fun k hk => .inr hk) he1) kpk_t (kpk_b (by have := hbw2.size; omega) (by omega)) (fun _ => rfl)
    (fun pre W' => J (wdone (L s) pre.length) W' ∧ Boxed W' n0 53 (.func (.yield l) #[] #[]) ∧ Boxed W' (n0 + 1) 3 (.int .i64 (wfrom (L s) pre.length)) ∧ W'.heap[box]? = some (.cells #[.string s] 9 fz) ∧ Boxed W' (n0 + 1 + 1) 9 (.string s) ∧ Below w0.heap.size w0 W')
    (fun c _ W' => c = .ret ∧ ∃ p, p <+: wordsL (L s) ∧ Jx p W') ?hI ?hIx ?h0 ?act ?assign ?body ?done ?stop)
  case hg => rfl
  case hI =>
    rintro pre A C row ⟨h1, h2, h3, h4, h5, h6⟩ hg hr
    have hr' : ∀ r, row = some r → n0 + 1 + 1 + 1 ≤ r := fun r e => by have := (hr r e).1; omega
    exact ⟨HJ.out _ _ _ _ h1 hg (fun r e => ⟨by have := hr' r e; omega, (hr r e).2⟩), box_turn h2 (by omega) hg hr', box_turn h3 (by omega) hg hr', box_turn h4 (by omega) hg hr', box_turn h5 (by omega) hg hr', h6.grown hg h6.size (fun k e => by have := hr' k e; have := hbw2.size; have := hbW.size; omega)⟩
  case hIx =>
    rintro c pre A C row ⟨h0, p, h1, h2⟩ hg hr
    exact ⟨h0, p, h1, HJx.out _ _ _ _ h2 hg (fun r e => ⟨by have := (hr r e).1; omega, (hr r e).2⟩)⟩
  case h0 => exact ⟨by rw [List.length_nil]; unfold wdone; rw [wst_zero]; exact hJ2, hY2, by rw [List.length_nil, wfrom_zero]; exact hF2, hB2, hR2, hbw2⟩
  case assign =>
    intro l' x W' K hK
    dsimp only [pairV]
    gi_wp2
    exact hK
  case body =>
    rintro l' pre x W' ⟨h1, h2, h3, h4, h5, h6⟩ hpre
    obtain ⟨hlt, hx, m, hrd, hat, hle⟩ := told_next hpre
    have hkd := told_kind hpre hlt
    have hbd := wfrom_lo (L s) pre.length
    rw [← hx] at hbd
    rw [length_L] at hle
    have hlen : (pre ++ [x]).length = pre.length + 1 := by simp
    have Hlen := Lib.hid hlen
    have Hx := Lib.hid hx
    have HK := Lib.hid (utf_Kind x.2 W' (HT.out.below h6))
    have Hlt := Lib.hid hlt
    obtain ⟨hbd1, hbd2⟩ := hbd
    have Hin := Lib.hid (fun h => w_in hlt h)
    have Hout := Lib.hid (fun h => w_out hlt h)
    have Hnx := Lib.hid (fun h => wdone_next hlt h)
    have Hsl := Lib.hid (fun h => w_slice (l := L s) (k := pre.length) h)
    rw [← hx] at Hsl Hin
    generalize kindN x.2 = kd at hkd HK
    obtain ⟨b, hb⟩ : ∃ b, isW ((chunks (L s))[pre.length]'hlt) = b := ⟨_, rfl⟩
    rw [hb] at hkd Hin Hout Hnx
    clear hb hlen hx hat hrd hpre
    have hcs : (0 ≤ x.2 ∧ (kd == 1) = true ∧ b = true) ∨ (0 ≤ x.2 ∧ (kd == 1) = false ∧ (kd == 2) = true ∧ b = true) ∨ (x.2 < 0 ∧ b = false) ∨ (0 ≤ x.2 ∧ (kd == 1) = false ∧ (kd == 2) = false ∧ b = false) := by
      by_cases h0 : 0 ≤ x.2
      · rw [decide_eq_true h0, Bool.true_and] at hkd
        cases e1 : (kd == 1) <;> cases e2 : (kd == 2) <;> simp_all
      · rw [decide_eq_false h0, Bool.false_and] at hkd
        exact .inr (.inr (.inl ⟨by omega, hkd⟩))
    obtain ⟨F, hF⟩ : ∃ F, wfrom (L s) pre.length = F := ⟨_, rfl⟩
    rw [hF] at h3 hbd1 hbd2 Hin Hout Hnx Hsl
    have HF := Lib.hid hF
    clear hkd hF
    have hXr : Hid (∀ k, (k = box ∨ (n0 ≤ k ∧ k ≠ n0 + 1)) → X k) := Lib.hid (by
      rintro k (rfl | ⟨hk, _⟩)
      · exact HXb.out
      · exact HXA.out k (by omega))
    have hfin : Hid (∀ W5, KpK (fun k => k = box ∨ (n0 ≤ k ∧ k ≠ n0 + 1)) e w0.heap.size W' W5 → Boxed W5 (n0 + 1) 3 (.int .i64 (wfrom (L s) (pre.length + 1))) → J (wdone (L s) (pre.length + 1)) W5 →
        KeepsFrom W2.heap.size W' W5 ∧ KpK (fun k => k = n0 + 1 + 1 ∨ W2.heap.size + 2 ≤ k) e w0.heap.size W' W5 ∧ (J (wdone (L s) (pre ++ [x]).length) W5 ∧ Boxed W5 n0 53 (.func (.yield l) #[] #[]) ∧ Boxed W5 (n0 + 1) 3 (.int .i64 (wfrom (L s) (pre ++ [x]).length)) ∧ W5.heap[box]? = some (.cells #[.string s] 9 fz) ∧ Boxed W5 (n0 + 1 + 1) 9 (.string s) ∧ Below w0.heap.size w0 W5)) := Lib.hid (by
      intro W5 hk hf hj
      rw [Hlen.out]
      exact ⟨kpk_keeps hk (fun k h => .inr ⟨by omega, by omega⟩), kpk_sub hk (fun k h => .inr ⟨by omega, by omega⟩), hj, kpk_box hk (.inr ⟨by omega, by omega⟩) he3 h2, hf, kpk_box hk (.inl rfl) he1 h4, kpk_box hk (.inr ⟨by omega, by omega⟩) he1 h5, h6.trans hk.1⟩)
    have hret : Hid (∀ W5 p, KpK (fun k => k = box ∨ (n0 ≤ k ∧ k ≠ n0 + 1)) e w0.heap.size W' W5 → p <+: wordsL (L s) → Jx p W5 →
        KeepsFrom W2.heap.size W' W5 ∧ KpK (fun k => k = n0 + 1 + 1 ∨ W2.heap.size + 2 ≤ k) e w0.heap.size W' W5 ∧ (∃ p, p <+: wordsL (L s) ∧ Jx p W5)) := Lib.hid (by
      intro W5 p hk hp hj
      exact ⟨kpk_keeps hk (fun k h => .inr ⟨by omega, by omega⟩), kpk_sub hk (fun k h => .inr ⟨by omega, by omega⟩), p, hp, hj⟩)
    have hJset : Hid (∀ p A u v, J p A → Boxed A (n0 + 1) 3 u → J p (A.setCell ⟨n0 + 1, 0, none⟩ v)) := Lib.hid (by
      intro p A u v hj hf
      exact HJ.out _ _ _ _ hj (grownBy_setCell' A (n0 + 1) v) (fun r e' => by cases e'; exact ⟨by omega, _, hf, fun c fz e2 => by simp only [Obj.cells.injEq] at e2; exact he2 e2.2.1⟩))
    have hW' : Hid (w0.heap.size ≤ W'.heap.size) := Lib.hid h6.size
    have hkS : Hid (∀ A v, KpK (fun k => k = box ∨ (n0 ≤ k ∧ k ≠ n0 + 1)) e w0.heap.size W' A → KpK (fun k => k = box ∨ (n0 ≤ k ∧ k ≠ n0 + 1)) e w0.heap.size W' (A.setCell ⟨n0 + 1, 0, none⟩ v)) := Lib.hid (fun A v hk => kpk_set hk (by omega) (by omega) v)
    have he2 := Lib.hid he2
    clear hz2
    by_cases hneg : F < 0
    · rcases hcs with ⟨k1, k2, rfl⟩ | ⟨k1, k2, k3, rfl⟩ | ⟨k1, rfl⟩ | ⟨k1, k2, k3, rfl⟩
      · have Hi := Hin.out rfl
        rw [if_pos hneg] at Hi
        have Hi := Lib.hid Hi
        clear Hin Hout Hnx Hsl
        gi_wp2_with fail
        refine ⟨trivial, fun _ => by omega, ?_⟩
        refine (CallsIn.inRound l' (callsIn_wide.2 HK.out)).mono ?_
        rintro e' W3 ⟨rfl, hb3⟩
        have g2 := box_under h2 hb3
        have g3 := box_under h3 hb3
        have g4 := (hb3.block _ (Array.getElem?_eq_some_iff.1 h4).1).trans h4
        have gJ := HJ.out _ _ _ _ h1 (grown_below hb3) (fun r e => by cases e)
        have Hk3 := Lib.hid (kpk_below (X := fun k => k = box ∨ (n0 ≤ k ∧ k ≠ n0 + 1)) (e := e) hW'.out hb3)
        have cY := g2.cell
        have cF := g3.cell
        have fF := g3.frozen
        have cB : W3.cell? ⟨box, 0, none⟩ = some (.string s) := cell_of_box g4
        clear hb3
        gi_wp2
        exact hfin.out _ (hkS.out _ _ Hk3.out) (by rw [Hi.out.2]; exact g3.set _) (by rw [Hi.out.1]; exact hJset.out _ _ _ _ gJ g3)
      · have Hi := Hin.out rfl
        rw [if_pos hneg] at Hi
        have Hi := Lib.hid Hi
        clear Hin Hout Hnx Hsl
        gi_wp2_with fail
        refine ⟨trivial, fun _ => by omega, ?_⟩
        refine (CallsIn.inRound l' (callsIn_wide.2 HK.out)).mono ?_
        rintro e' W3 ⟨rfl, hb3⟩
        have g2 := box_under h2 hb3
        have g3 := box_under h3 hb3
        have g4 := (hb3.block _ (Array.getElem?_eq_some_iff.1 h4).1).trans h4
        have gJ := HJ.out _ _ _ _ h1 (grown_below hb3) (fun r e => by cases e)
        have Hk3 := Lib.hid (kpk_below (X := fun k => k = box ∨ (n0 ≤ k ∧ k ≠ n0 + 1)) (e := e) hW'.out hb3)
        have cY := g2.cell
        have cF := g3.cell
        have fF := g3.frozen
        have cB : W3.cell? ⟨box, 0, none⟩ = some (.string s) := cell_of_box g4
        clear hb3
        gi_wp2
        exact hfin.out _ (hkS.out _ _ Hk3.out) (by rw [Hi.out.2]; exact g3.set _) (by rw [Hi.out.1]; exact hJset.out _ _ _ _ gJ g3)
      · have Ho := Hout.out rfl
        rw [if_pos hneg] at Ho
        have Ho := Lib.hid Ho
        have hF1 := Lib.hid (show F = -1 by omega)
        clear Hin Hout Hnx Hsl
        gi_wp2_with fail
        refine ⟨trivial, fun _ => by omega, ?_⟩
        refine (CallsIn.inRound l' (callsIn_wide.2 HK.out)).mono ?_
        rintro e' W3 ⟨rfl, hb3⟩
        have g2 := box_under h2 hb3
        have g3 := box_under h3 hb3
        have g4 := (hb3.block _ (Array.getElem?_eq_some_iff.1 h4).1).trans h4
        have gJ := HJ.out _ _ _ _ h1 (grown_below hb3) (fun r e => by cases e)
        have Hk3 := Lib.hid (kpk_below (X := fun k => k = box ∨ (n0 ≤ k ∧ k ≠ n0 + 1)) (e := e) hW'.out hb3)
        have cY := g2.cell
        have cF := g3.cell
        have fF := g3.frozen
        have cB : W3.cell? ⟨box, 0, none⟩ = some (.string s) := cell_of_box g4
        clear hb3
        gi_wp2
        exact hfin.out _ Hk3.out (by rw [Ho.out.1, ← hF1.out]; exact g3) (by rw [Ho.out.2]; exact gJ)
      · have Ho := Hout.out rfl
        rw [if_pos hneg] at Ho
        have Ho := Lib.hid Ho
        have hF1 := Lib.hid (show F = -1 by omega)
        clear Hin Hout Hnx Hsl
        gi_wp2_with fail
        refine ⟨trivial, fun _ => by omega, ?_⟩
        refine (CallsIn.inRound l' (callsIn_wide.2 HK.out)).mono ?_
        rintro e' W3 ⟨rfl, hb3⟩
        have g2 := box_under h2 hb3
        have g3 := box_under h3 hb3
        have g4 := (hb3.block _ (Array.getElem?_eq_some_iff.1 h4).1).trans h4
        have gJ := HJ.out _ _ _ _ h1 (grown_below hb3) (fun r e => by cases e)
        have Hk3 := Lib.hid (kpk_below (X := fun k => k = box ∨ (n0 ≤ k ∧ k ≠ n0 + 1)) (e := e) hW'.out hb3)
        have cY := g2.cell
        have cF := g3.cell
        have fF := g3.frozen
        have cB : W3.cell? ⟨box, 0, none⟩ = some (.string s) := cell_of_box g4
        clear hb3
        gi_wp2
        exact hfin.out _ Hk3.out (by rw [Ho.out.1, ← hF1.out]; exact g3) (by rw [Ho.out.2]; exact gJ)
    · have hneg' : 0 ≤ F := by omega
      rcases hcs with ⟨k1, k2, rfl⟩ | ⟨k1, k2, k3, rfl⟩ | ⟨k1, rfl⟩ | ⟨k1, k2, k3, rfl⟩
      · have Hi := Hin.out rfl
        rw [if_neg hneg] at Hi
        have Hi := Lib.hid Hi
        clear Hin Hout Hnx Hsl
        gi_wp2_with fail
        refine ⟨trivial, fun _ => by omega, ?_⟩
        refine (CallsIn.inRound l' (callsIn_wide.2 HK.out)).mono ?_
        rintro e' W3 ⟨rfl, hb3⟩
        have g2 := box_under h2 hb3
        have g3 := box_under h3 hb3
        have g4 := (hb3.block _ (Array.getElem?_eq_some_iff.1 h4).1).trans h4
        have gJ := HJ.out _ _ _ _ h1 (grown_below hb3) (fun r e => by cases e)
        have Hk3 := Lib.hid (kpk_below (X := fun k => k = box ∨ (n0 ≤ k ∧ k ≠ n0 + 1)) (e := e) hW'.out hb3)
        have cY := g2.cell
        have cF := g3.cell
        have fF := g3.frozen
        have cB : W3.cell? ⟨box, 0, none⟩ = some (.string s) := cell_of_box g4
        clear hb3
        gi_wp2
        exact hfin.out _ Hk3.out (by rw [Hi.out.2]; exact g3) (by rw [Hi.out.1]; exact gJ)
      · have Hi := Hin.out rfl
        rw [if_neg hneg] at Hi
        have Hi := Lib.hid Hi
        clear Hin Hout Hnx Hsl
        gi_wp2_with fail
        refine ⟨trivial, fun _ => by omega, ?_⟩
        refine (CallsIn.inRound l' (callsIn_wide.2 HK.out)).mono ?_
        rintro e' W3 ⟨rfl, hb3⟩
        have g2 := box_under h2 hb3
        have g3 := box_under h3 hb3
        have g4 := (hb3.block _ (Array.getElem?_eq_some_iff.1 h4).1).trans h4
        have gJ := HJ.out _ _ _ _ h1 (grown_below hb3) (fun r e => by cases e)
        have Hk3 := Lib.hid (kpk_below (X := fun k => k = box ∨ (n0 ≤ k ∧ k ≠ n0 + 1)) (e := e) hW'.out hb3)
        have cY := g2.cell
        have cF := g3.cell
        have fF := g3.frozen
        have cB : W3.cell? ⟨box, 0, none⟩ = some (.string s) := cell_of_box g4
        clear hb3
        gi_wp2
        exact hfin.out _ Hk3.out (by rw [Hi.out.2]; exact g3) (by rw [Hi.out.1]; exact gJ)
      · have Hnx2 := Lib.hid (Hnx.out rfl hneg)
        have Hsl2 := Lib.hid (Hsl.out hneg)
        have Ho := Hout.out rfl
        rw [if_neg hneg] at Ho
        have Ho1 := Lib.hid Ho.1
        have Ho2 := Lib.hid Ho.2
        have hxz : (x.1 : Int) ≤ (s.size : Int) := by omega
        clear Ho Hin Hout Hnx Hsl
        gi_wp2_with fail
        refine ⟨trivial, fun _ => by omega, ?_⟩
        refine (CallsIn.inRound l' (callsIn_wide.2 HK.out)).mono ?_
        rintro e' W3 ⟨rfl, hb3⟩
        have g2 := box_under h2 hb3
        have g3 := box_under h3 hb3
        have g4 := (hb3.block _ (Array.getElem?_eq_some_iff.1 h4).1).trans h4
        have gJ := HJ.out _ _ _ _ h1 (grown_below hb3) (fun r e => by cases e)
        have Hk3 := Lib.hid (kpk_below (X := fun k => k = box ∨ (n0 ≤ k ∧ k ≠ n0 + 1)) (e := e) hW'.out hb3)
        have cY := g2.cell
        have cF := g3.cell
        have fF := g3.frozen
        have cB : W3.cell? ⟨box, 0, none⟩ = some (.string s) := cell_of_box g4
        clear hb3
        gi_wp2
        have hmo : Tryz.prog.follows .mixedOrders = true := by kernel_rfl
        have gJd := HJ.out _ _ _ _ gJ (grown_below (below_drew W3)) (fun r e => by cases e)
        obtain ⟨fn, tmps, assign, body, hy, hRd⟩ := HY.out _ _ W3.drew gJd Hnx2.out
        dsimp only [txV] at hy
        rw [← Hsl2.out, ← extract_B] at hy
        have hsd := hRd.mono (R' := fun e' W4 => ∃ b, e' = Ending.returned (.bool b) ∧ ((b = true ∧ J (wdone (L s) pre.length ++ [joinC (wst (L s) pre.length).2]) W4 ∧ KpK X e w0.heap.size W3.drew W4) ∨ (b = false ∧ Jx (wdone (L s) pre.length ++ [joinC (wst (L s) pre.length).2]) W4 ∧ KpK X e w0.heap.size W3.drew W4))) (by
          rintro e' W' (⟨rfl, hj, hk⟩ | ⟨rfl, hj, hk⟩)
          · exact ⟨true, rfl, .inl ⟨rfl, hj, hk⟩⟩
          · exact ⟨false, rfl, .inr ⟨rfl, hj, hk⟩⟩)
        clear hRd gJd
        refine by_hole (H := fun b W4 => (b = true ∧ J (wdone (L s) pre.length ++ [joinC (wst (L s) pre.length).2]) W4 ∧ KpK X e w0.heap.size W3.drew W4) ∨ (b = false ∧ Jx (wdone (L s) pre.length ++ [joinC (wst (L s) pre.length).2]) W4 ∧ KpK X e w0.heap.size W3.drew W4)) ⟨?Z, ?cont, ?reg⟩
        case reg =>
          intro hc
          have Hc := Lib.hid hc
          clear hc
          gi_region_with_o ((with_reducible refine ⟨fun _ => by omega, ?_⟩); (with_reducible refine (round_wide hsd).mono ?_); rintro e' W4 ⟨b, rfl, h4'⟩; have H4 := Lib.hid h4'; clear h4')
          all_goals exact Hc.out _ _ H4.out
        case cont =>
          clear hsd hy
          intro b W4 h4'
          have hk4 : KpK X e w0.heap.size W3.drew W4 := by rcases h4' with ⟨_, _, h⟩ | ⟨_, _, h⟩ <;> exact h
          have q3 : Boxed W4 (n0 + 1) 3 (.int .i64 F) := kpk_box hk4 (HXA.out _ (by omega)) he2.out g3
          have Hk4 := Lib.hid (kpk_t (kpk_t Hk3.out (kpk_below (Nat.le_trans hW'.out Hk3.out.1.size) (below_drew W3))) (kpk_sub hk4 hXr.out))
          have cF4 := q3.cell
          have fF4 := q3.frozen
          clear hk4
          rcases h4' with ⟨rfl, hJ4, _⟩ | ⟨rfl, hJx4, _⟩
          · gi_wp2
            exact hfin.out _ (hkS.out _ _ Hk4.out) (by rw [Ho1.out]; exact q3.set _) (by rw [Ho2.out]; exact hJset.out _ _ _ _ hJ4 q3)
          · gi_wp2
            have h := hret.out _ _ Hk4.out Hnx2.out hJx4
            exact ⟨h.1, h.2.1, rfl, h.2.2⟩
      · have Hnx2 := Lib.hid (Hnx.out rfl hneg)
        have Hsl2 := Lib.hid (Hsl.out hneg)
        have Ho := Hout.out rfl
        rw [if_neg hneg] at Ho
        have Ho1 := Lib.hid Ho.1
        have Ho2 := Lib.hid Ho.2
        have hxz : (x.1 : Int) ≤ (s.size : Int) := by omega
        clear Ho Hin Hout Hnx Hsl
        gi_wp2_with fail
        refine ⟨trivial, fun _ => by omega, ?_⟩
        refine (CallsIn.inRound l' (callsIn_wide.2 HK.out)).mono ?_
        rintro e' W3 ⟨rfl, hb3⟩
        have g2 := box_under h2 hb3
        have g3 := box_under h3 hb3
        have g4 := (hb3.block _ (Array.getElem?_eq_some_iff.1 h4).1).trans h4
        have gJ := HJ.out _ _ _ _ h1 (grown_below hb3) (fun r e => by cases e)
        have Hk3 := Lib.hid (kpk_below (X := fun k => k = box ∨ (n0 ≤ k ∧ k ≠ n0 + 1)) (e := e) hW'.out hb3)
        have cY := g2.cell
        have cF := g3.cell
        have fF := g3.frozen
        have cB : W3.cell? ⟨box, 0, none⟩ = some (.string s) := cell_of_box g4
        clear hb3
        gi_wp2
        have hmo : Tryz.prog.follows .mixedOrders = true := by kernel_rfl
        have gJd := HJ.out _ _ _ _ gJ (grown_below (below_drew W3)) (fun r e => by cases e)
        obtain ⟨fn, tmps, assign, body, hy, hRd⟩ := HY.out _ _ W3.drew gJd Hnx2.out
        dsimp only [txV] at hy
        rw [← Hsl2.out, ← extract_B] at hy
        have hsd := hRd.mono (R' := fun e' W4 => ∃ b, e' = Ending.returned (.bool b) ∧ ((b = true ∧ J (wdone (L s) pre.length ++ [joinC (wst (L s) pre.length).2]) W4 ∧ KpK X e w0.heap.size W3.drew W4) ∨ (b = false ∧ Jx (wdone (L s) pre.length ++ [joinC (wst (L s) pre.length).2]) W4 ∧ KpK X e w0.heap.size W3.drew W4))) (by
          rintro e' W' (⟨rfl, hj, hk⟩ | ⟨rfl, hj, hk⟩)
          · exact ⟨true, rfl, .inl ⟨rfl, hj, hk⟩⟩
          · exact ⟨false, rfl, .inr ⟨rfl, hj, hk⟩⟩)
        clear hRd gJd
        refine by_hole (H := fun b W4 => (b = true ∧ J (wdone (L s) pre.length ++ [joinC (wst (L s) pre.length).2]) W4 ∧ KpK X e w0.heap.size W3.drew W4) ∨ (b = false ∧ Jx (wdone (L s) pre.length ++ [joinC (wst (L s) pre.length).2]) W4 ∧ KpK X e w0.heap.size W3.drew W4)) ⟨?Z2, ?cont2, ?reg2⟩
        case reg2 =>
          intro hc
          have Hc := Lib.hid hc
          clear hc
          gi_region_with_o ((with_reducible refine ⟨fun _ => by omega, ?_⟩); (with_reducible refine (round_wide hsd).mono ?_); rintro e' W4 ⟨b, rfl, h4'⟩; have H4 := Lib.hid h4'; clear h4')
          all_goals exact Hc.out _ _ H4.out
        case cont2 =>
          clear hsd hy
          intro b W4 h4'
          have hk4 : KpK X e w0.heap.size W3.drew W4 := by rcases h4' with ⟨_, _, h⟩ | ⟨_, _, h⟩ <;> exact h
          have q3 : Boxed W4 (n0 + 1) 3 (.int .i64 F) := kpk_box hk4 (HXA.out _ (by omega)) he2.out g3
          have Hk4 := Lib.hid (kpk_t (kpk_t Hk3.out (kpk_below (Nat.le_trans hW'.out Hk3.out.1.size) (below_drew W3))) (kpk_sub hk4 hXr.out))
          have cF4 := q3.cell
          have fF4 := q3.frozen
          clear hk4
          rcases h4' with ⟨rfl, hJ4, _⟩ | ⟨rfl, hJx4, _⟩
          · gi_wp2
            exact hfin.out _ (hkS.out _ _ Hk4.out) (by rw [Ho1.out]; exact q3.set _) (by rw [Ho2.out]; exact hJset.out _ _ _ _ hJ4 q3)
          · gi_wp2
            have h := hret.out _ _ Hk4.out Hnx2.out hJx4
            exact ⟨h.1, h.2.1, rfl, h.2.2⟩
  case done =>
    rintro D W' hD ⟨h1, h2, h3, h4, h5, h6⟩ hK
    rw [idxC_length] at h1 h3
    have hend := w_end (L s)
    have hlo := wfrom_lo (L s) (chunks (L s)).length
    rw [atC_end, length_L] at hlo
    have hsl := fun h => w_slice (l := L s) (k := (chunks (L s)).length) h
    rw [atC_end, length_L] at hsl
    obtain ⟨hlo1, hlo2⟩ := hlo
    generalize wfrom (L s) (chunks (L s)).length = F at *
    have hDn : n0 + 1 + 1 + 1 ≤ D := by omega
    have cY := h2.cell
    have cF := h3.cell
    have cB : W'.cell? ⟨box, 0, none⟩ = some (.string s) := cell_of_box h4
    clear hz2
    by_cases hneg : F < 0
    · rw [if_pos hneg] at hend
      have Hend := Lib.hid hend
      clear hend hsl
      go_wp2
      refine ⟨by simp, .inl ⟨_, _, rfl, run_takeDeferred hK, ?_⟩⟩
      exact ⟨_, results_none rfl _ _ _, ⟨_, rfl⟩, .inl ((HJ.out.from).putObj _ (by rw [Hend.out]; exact h1) (by omega) hK rfl)⟩
    · rw [if_neg hneg] at hend
      have Hend := Lib.hid hend
      have Hsl := Lib.hid (hsl hneg)
      clear hend hsl
      go_wp2
      have hmo : Tryz.prog.follows .mixedOrders = true := by kernel_rfl
      have gJd := HJ.out _ _ _ _ h1 (grown_below (below_drew W')) (fun r e => by cases e)
      obtain ⟨fn, tmps, assign, body, hy, hRd⟩ := HY.out _ (joinC (wst (L s) (chunks (L s)).length).2) W'.drew gJd (by rw [Hend.out]; exact List.prefix_refl _)
      dsimp only [txV] at hy
      rw [← Hsl.out, ← extract_B] at hy
      have hsd := hRd.mono (R' := fun e' W4 => ∃ b, e' = Ending.returned (.bool b) ∧ ((b = true ∧ J (wdone (L s) (chunks (L s)).length ++ [joinC (wst (L s) (chunks (L s)).length).2]) W4 ∧ KpK X e w0.heap.size W'.drew W4) ∨ (b = false ∧ Jx (wdone (L s) (chunks (L s)).length ++ [joinC (wst (L s) (chunks (L s)).length).2]) W4 ∧ KpK X e w0.heap.size W'.drew W4))) (by
        rintro e' W' (⟨rfl, hj, hk⟩ | ⟨rfl, hj, hk⟩)
        · exact ⟨true, rfl, .inl ⟨rfl, hj, hk⟩⟩
        · exact ⟨false, rfl, .inr ⟨rfl, hj, hk⟩⟩)
      clear hRd gJd
      refine by_hole (H := fun b W4 => (b = true ∧ J (wdone (L s) (chunks (L s)).length ++ [joinC (wst (L s) (chunks (L s)).length).2]) W4 ∧ KpK X e w0.heap.size W'.drew W4) ∨ (b = false ∧ Jx (wdone (L s) (chunks (L s)).length ++ [joinC (wst (L s) (chunks (L s)).length).2]) W4 ∧ KpK X e w0.heap.size W'.drew W4)) ⟨?Z3, ?cont3, ?reg3⟩
      case reg3 =>
        intro hc
        have Hc := Lib.hid hc
        clear hc
        refine (wpIn_wide (n := n)).1 (wpIn_goes ?_)
        gi_region_with_o ((with_reducible refine ⟨fun _ => by omega, ?_⟩); (with_reducible refine (round_wide0 hsd).mono ?_); rintro e' W4 ⟨b, rfl, h4'⟩; have H4 := Lib.hid h4'; clear h4')
        all_goals exact Hc.out _ _ H4.out
      case cont3 =>
        clear hsd hy
        intro b W4 h4'
        have hk4 : KpK X e w0.heap.size W'.drew W4 := by rcases h4' with ⟨_, _, h⟩ | ⟨_, _, h⟩ <;> exact h
        have hK4 : W4.heap[D]? = some (.deferred (some [])) := hk4.2 D _ (HXA.out D (by omega)) hK (fun _ _ h => by cases h)
        clear hk4
        go_wp2
        refine ⟨by simp, .inl ⟨_, _, rfl, run_takeDeferred hK4, ?_⟩⟩
        rcases h4' with ⟨rfl, hJ4, _⟩ | ⟨rfl, hJx4, _⟩
        · exact ⟨_, results_none rfl _ _ _, ⟨_, rfl⟩, .inl ((HJ.out.from).putObj _ (by rw [Hend.out]; exact hJ4) (by omega) hK4 rfl)⟩
        · exact ⟨_, results_none rfl _ _ _, ⟨_, rfl⟩, .inr ⟨_, (by rw [Hend.out]; exact List.prefix_refl _), (HJx.out.from).putObj _ hJx4 (by omega) hK4 rfl⟩⟩
  case stop =>
    rintro D c pre W' hD hpre ⟨rfl, p, h1, h2⟩ hK
    refine wpIn_wide.2 ?_
    go_wp2
    refine ⟨by simp, .inl ⟨_, _, rfl, run_takeDeferred hK, ?_⟩⟩
    exact ⟨_, results_none rfl _ _ _, ⟨_, rfl⟩, .inr ⟨_, h1, (HJx.out.from).putObj _ h2 (by omega) hK rfl⟩⟩
end Go.Proofs.YtlfhgmclnapmjaaGreatDoor
