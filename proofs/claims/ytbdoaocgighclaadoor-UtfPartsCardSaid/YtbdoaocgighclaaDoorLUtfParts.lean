/- The law UtfParts returns true for every two texts. Condition: the tables are laid. -/
import Derived.Test.YtbdoaocgighclaaDoorLUtfReads
import Derived.RegionIn
import Derived.Deep.DeepCutAuto
import Derived.IntWalk
namespace Go.Utf
open Go.Lib
/-- How many of the first k pieces are no runes. -/
def badN (l : List UInt8) (k : Nat) : Nat := ((chunks l).take k).countP fun c => decide (c.1 < 0)
theorem badN_zero (l : List UInt8) : badN l 0 = 0 := by unfold badN; rw [List.take_zero]; rfl
theorem bad_next {l : List UInt8} {pre : List (Nat × Int)} {x : Nat × Int} (h : pre ++ [x] <+: idxC 0 (chunks l)) :
    badN l (pre.length + 1) = badN l pre.length + (if x.2 < 0 then 1 else 0) ∧ l.take (atC l (pre.length + 1)) = l.take x.1 ++ (if x.2 < 0 then [l[x.1]?.getD 0] else runeT x.2) ∧ (x.2 < 0 → atC l (pre.length + 1) = x.1 + 1) := by
  obtain ⟨hlt, hx, n, hrd, hat, hle⟩ := told_next h
  have h1 := last_of_prefix h
  rw [idxC_get 0 _ _ hlt] at h1
  simp only [Option.some.injEq] at h1
  have hx2 : (chunks l)[pre.length].1 = x.2 := by rw [← h1]
  have hxl : x.1 < l.length ∧ _ := runes_mem (h.subset (by simp))
  have hne : l.drop x.1 ≠ [] := by
    intro e
    have := congrArg List.length e
    rw [List.length_drop, List.length_nil] at this; omega
  refine ⟨?_, ?_, ?_⟩
  · unfold badN
    rw [List.take_succ_eq_append_getElem hlt, List.countP_append]
    congr 1
    by_cases h0 : x.2 < 0
    · rw [if_pos h0, List.countP_cons_of_pos (by rw [hx2]; simpa using h0)]; rfl
    · rw [if_neg h0, List.countP_cons_of_neg (by rw [hx2]; simpa using h0)]; rfl
  · rw [hat, List.take_add]
    congr 1
    rcases read_cases hne with e | ⟨v, m, e, hv, hm, h2⟩
    · rw [hrd] at e
      obtain ⟨e1, e2⟩ := Prod.mk.inj e
      rw [if_pos (by omega), e2, List.getElem?_eq_getElem hxl.1, List.drop_eq_getElem_cons hxl.1]
      rfl
    · rw [hrd] at e
      obtain ⟨e1, e2⟩ := Prod.mk.inj e
      rw [isB_iff] at hv
      rw [if_neg (by omega), e1, e2]
      exact take_rune hm h2
  · intro h0
    rcases read_cases hne with e | ⟨v, m, e, hv, hm, h2⟩
    · rw [hrd] at e
      obtain ⟨e1, e2⟩ := Prod.mk.inj e
      rw [hat, e2]
    · rw [hrd] at e
      obtain ⟨e1, e2⟩ := Prod.mk.inj e
      rw [isB_iff] at hv
      omega
theorem bad_end (l : List UInt8) : validL l = decide (badN l (chunks l).length = 0) := by
  unfold validL badN
  rw [List.take_length, Bool.eq_iff_iff, decide_eq_true_eq, List.countP_eq_zero, List.all_eq_true]
  constructor
  · intro h c hc
    have := h c hc
    simp at this ⊢; omega
  · intro h c hc
    have := h c hc
    simp at this ⊢; omega
theorem badN_le (l : List UInt8) (k : Nat) : badN l k ≤ (chunks l).length := by
  unfold badN
  exact Nat.le_trans (List.countP_le_length) (by rw [List.length_take]; omega)
end Go.Utf
namespace Go.Proofs.YtbdoaocgighclaaDoor
open Go.RowKit Go.Utf Go.Lib Go.Shelf
attribute [local go_sem] Oper.semAt_some

theorem keeps_drew (W : World) : KeepsOthers W W.drew := ⟨Nat.le_refl _, fun _ _ h _ => h⟩
set_option maxRecDepth 100000 in
set_option maxHeartbeats 3200000 in
theorem walk_UtfParts (s t : ByteArray) (_ : s.size ≤ maxLen) (_ : t.size ≤ maxLen) (w : World) (hT : Tabs w) :
    Calls Tryd.prog 8 #[.string s, .string t] w fun e w' => e = .returned (.bool true) ∧ Below w.heap.size w w' := by
  refine (callsIn_wide (n := 6)).1 ?_
  refine callsIn_of_wp_marks Tryd.func8 rfl trivial ?_ rfl
  simp only [Tryd.ntmps8, List.size_toArray, List.length_cons, List.length_nil, Nat.reduceAdd, Nat.reduceSub, Array.replicate_succ, Array.replicate_zero, List.push_toArray, List.append_toArray, List.nil_append, List.cons_append]
  refine wpIn_wide.2 ?_
  have hA0 : Boxed ((w.alloc (.cells #[.string s] 9)).alloc (.cells #[.bool false] 4)) w.heap.size 9 (.string s) := (Boxed.new w _ _).alloc _
  have hR0 : Boxed ((w.alloc (.cells #[.string s] 9)).alloc (.cells #[.bool false] 4)) (w.heap.size + 1) 4 (.bool false) := by
    have := Boxed.new (w.alloc (.cells #[.string s] 9)) 4 (.bool false)
    rwa [World.size_alloc] at this
  have hb0 : Below w.heap.size w ((w.alloc (.cells #[.string s] 9)).alloc (.cells #[.bool false] 4)) := (step_new (Below.refl w.heap.size w) _).alloc (by simp) _
  have HT := Lib.hid hT
  clear hT
  go_wp2_with fail
  generalize (w.alloc (.cells #[.string s] 9)).alloc (.cells #[.bool false] 4) = W0 at hA0 hR0 hb0 ⊢
  refine (law_shown W0 (HT.out.below hb0)).mono ?_
  rintro e W1 ⟨rfl, hb1⟩
  have hA1 := box_below hA0 hb1
  have hR1 := box_below hR0 hb1
  have Hb1 := Lib.hid (hb0.trans (hb1.mono hb0.size))
  clear hA0 hR0 hb0 hb1
  have cA1 := hA1.cell
  have cR1 := hR1.cell
  have fR1 := hR1.frozen
  by_cases hbig : 500 < s.size ∨ 500 < t.size
  · have hres := World.cell?_setCell_same' W1 ⟨w.heap.size + 1, 0, none⟩ (.bool true) (by rw [cR1]; rfl)
    by_cases h : 500 < s.size
    · have hz : (500 : Int) < (s.size : Int) := by omega
      clear hbig
      go_wp2
      refine ⟨.bool true, by simp [results, Tryd.f8, go_sem, hres], rfl, ?_⟩
      exact Hb1.out.setCell (by simp) _
    · have hz : (s.size : Int) ≤ 500 := by omega
      have hz2 : (500 : Int) < (t.size : Int) := by omega
      clear hbig
      go_wp2
      refine ⟨.bool true, by simp [results, Tryd.f8, go_sem, hres], rfl, ?_⟩
      exact Hb1.out.setCell (by simp) _
  have hz : (s.size : Int) ≤ 500 := by omega
  have hz2 : (t.size : Int) ≤ 500 := by omega
  have hs9 : s.size ≤ 500 := by omega
  have ht9 : t.size ≤ 500 := by omega
  have hst : (s ++ t).size = s.size + t.size := ByteArray.size_append
  have HV1 := Lib.hid (fun w' (b : Below w.heap.size w w') => utf_Valid s (by omega) w' (HT.out.below b))
  have HV2 := Lib.hid (fun w' (b : Below w.heap.size w w') => utf_Valid t (by omega) w' (HT.out.below b))
  have HV3 := Lib.hid (fun w' (b : Below w.heap.size w w') => utf_Valid (s ++ t) (by omega) w' (HT.out.below b))
  rw [L_append] at HV3
  have HVV := Lib.hid (valid_append (L s) (L t))
  have hsum : ¬ 9223372036854775807 < s.size + t.size := by omega
  have HB := Lib.hid (bad_end (L s))
  clear hbig hst
  obtain ⟨v1, hv1⟩ : ∃ v, validL (L s) = v := ⟨_, rfl⟩
  rw [hv1] at HV1 HVV HB
  generalize validL (L t) = v2 at HV2 HVV
  generalize validL (L s ++ L t) = v3 at HV3 HVV
  have hcs : v1 = false ∨ (v1 = true ∧ v2 = false) ∨ (v1 = true ∧ v2 = true ∧ v3 = true) := by
    have := HVV.out
    cases v1 <;> cases v2 <;> cases v3 <;> simp_all
  clear hv1 HVV
  go_upto_region 7 with (first
    | (go_at_call 21; (with_reducible refine (HV1.out _ Hb1.out).mono ?_); rintro e w2 ⟨rfl, hb⟩; have Hb2 := Lib.hid (step_call Hb1.out hb); have hA2 := box_below hA1 hb; have hR2 := box_below hR1 hb; have cA2 := hA2.cell; clear hb hA1 hR1 cA1 cR1 fR1 HV1)
    | (go_at_call 21; (with_reducible refine (HV2.out _ Hb2.out).mono ?_); rintro e w3 ⟨rfl, hb⟩; have Hb3 := Lib.hid (step_call Hb2.out hb); have hA3 := box_below hA2 hb; have hR3 := box_below hR2 hb; have cA3 := hA3.cell; clear hb hA2 hR2 cA2 HV2)
    | (go_at_call 21; (with_reducible refine (HV3.out _ Hb3.out).mono ?_); rintro e w9 ⟨rfl, hb⟩; have Hb9 := Lib.hid (step_call Hb3.out hb); have hA9 := box_below hA3 hb; have hR9 := box_below hR3 hb; clear hb hA3 hR3 cA3 HV3))
  go_cut [43] from 36 to 43 (fun s43 wx => s43 = .bool false ∧ w9 = wx)
  case first =>
    rcases hcs with rfl | ⟨rfl, rfl⟩ | ⟨rfl, rfl, rfl⟩
    all_goals
      go_wp2_with fail
      all_goals
        go_meet
        exact ⟨rfl, rfl⟩
  case rest =>
  obtain ⟨rfl, rfl⟩ := hcut
  clear hcs
  have hA10 : Boxed (((w9.alloc (.cells #[.string ⟨#[]⟩] 9)).alloc (.cells #[.int .i64 0] 3)).alloc (.cells #[.int .i64 0] 3)) w.heap.size 9 (.string s) := ((hA9.alloc _).alloc _).alloc _
  have hR10 : Boxed (((w9.alloc (.cells #[.string ⟨#[]⟩] 9)).alloc (.cells #[.int .i64 0] 3)).alloc (.cells #[.int .i64 0] 3)) (w.heap.size + 1) 4 (.bool false) := ((hR9.alloc _).alloc _).alloc _
  have hO10 : Boxed (((w9.alloc (.cells #[.string ⟨#[]⟩] 9)).alloc (.cells #[.int .i64 0] 3)).alloc (.cells #[.int .i64 0] 3)) w9.heap.size 9 (.string ⟨#[]⟩) := ((Boxed.new w9 _ _).alloc _).alloc _
  have hN10 : Boxed (((w9.alloc (.cells #[.string ⟨#[]⟩] 9)).alloc (.cells #[.int .i64 0] 3)).alloc (.cells #[.int .i64 0] 3)) (w9.heap.size + 1) 3 (.int .i64 0) := by
    have := Boxed.new (w9.alloc (.cells #[.string ⟨#[]⟩] 9)) 3 (.int .i64 0)
    rw [World.size_alloc] at this
    exact this.alloc _
  have hK10 : Boxed (((w9.alloc (.cells #[.string ⟨#[]⟩] 9)).alloc (.cells #[.int .i64 0] 3)).alloc (.cells #[.int .i64 0] 3)) (w9.heap.size + 1 + 1) 3 (.int .i64 0) := by
    have := Boxed.new ((w9.alloc (.cells #[.string ⟨#[]⟩] 9)).alloc (.cells #[.int .i64 0] 3)) 3 (.int .i64 0)
    rwa [World.size_alloc, World.size_alloc] at this
  have hb10 : Below w.heap.size w (((w9.alloc (.cells #[.string ⟨#[]⟩] 9)).alloc (.cells #[.int .i64 0] 3)).alloc (.cells #[.int .i64 0] 3)) := step_new (step_new (step_new Hb9.out _) _) _
  have cA10 := hA10.cell
  have hn9 : w.heap.size + 1 < w9.heap.size := hR9.lt
  have hz10 : (((w9.alloc (.cells #[.string ⟨#[]⟩] 9)).alloc (.cells #[.int .i64 0] 3)).alloc (.cells #[.int .i64 0] 3)).heap.size = w9.heap.size + 1 + 1 + 1 := by simp
  clear hA9 hR9
  go_wp2_with fail
  generalize (((w9.alloc (.cells #[.string ⟨#[]⟩] 9)).alloc (.cells #[.int .i64 0] 3)).alloc (.cells #[.int .i64 0] 3)) = W10 at hA10 hR10 hO10 hN10 hK10 hb10 cA10 hz10 ⊢
  generalize w9.heap.size = n9 at *
  refine (utf_Runes s W10).mono ?_
  rintro e w11 ⟨rfl, rfl⟩
  rw [hz10]
  have hA11 := hA10.alloc (.cells #[.string s] 9)
  have hR11 := hR10.alloc (.cells #[.string s] 9)
  have hO11 := hO10.alloc (.cells #[.string s] 9)
  have hN11 := hN10.alloc (.cells #[.string s] 9)
  have hK11 := hK10.alloc (.cells #[.string s] 9)
  have hb11 := step_new hb10 (.cells #[.string s] 9)
  have hQ11 := Boxed.new W10 9 (.string s)
  have hz11 : (W10.alloc (.cells #[.string s] 9)).heap.size = n9 + 1 + 1 + 1 + 1 := by rw [World.size_alloc, hz10]
  rw [hz10] at hQ11
  generalize W10.alloc (.cells #[.string s] 9) = W11 at *
  clear hA10 hR10 hO10 hN10 hK10 hb10 cA10 hz10
  go_wp2_with fail
  refine wpIn_wide.1 (wpIn_rangeSeq (n := 6) rfl (by omega) (gf := 36) (lb := #[.pointer (some ⟨n9 + 1 + 1 + 1, 0, none⟩)]) ?hg trivial (enters_of Tryd.func36 (by kernel_rfl) rfl)
    (runes1_gives _ (by omega) (n9 + 1 + 1 + 1) s (by omega) w HT.out W11 hb11 (0, 0) hQ11) kpr_t (kpr_b (by omega) (by omega)) (Below.refl _ _) (fun _ => rfl)
    (fun pre W => Boxed W n9 9 (.string (B ((L s).take (atC (L s) pre.length)))) ∧ Boxed W (n9 + 1) 3 (.int .i64 (atC (L s) pre.length : Nat)) ∧ Boxed W (n9 + 1 + 1) 3 (.int .i64 (badN (L s) pre.length : Nat)) ∧ Boxed W w.heap.size 9 (.string s) ∧ Boxed W (w.heap.size + 1) 4 (.bool false) ∧ Boxed W (n9 + 1 + 1 + 1) 9 (.string s) ∧ Below w.heap.size w W)
    (fun _ _ _ => False) ?hI (fun _ _ _ _ _ hs _ _ => hs) ?h0 ?act ?assign ?body ?done ?stop)
  case hg => rfl
  case hI =>
    rintro pre A C row ⟨h1, h2, h3, h4, h5, h6, h7⟩ hg hr
    have hr' : ∀ r, row = some r → ∃ o : Obj, A.heap[r]? = some o ∧ o.isCells = false := fun r e => (hr r e).2
    exact ⟨(grownBy_keeps_cells hg hr' h1 rfl).trans h1, (grownBy_keeps_cells hg hr' h2 rfl).trans h2, (grownBy_keeps_cells hg hr' h3 rfl).trans h3, (grownBy_keeps_cells hg hr' h4 rfl).trans h4, (grownBy_keeps_cells hg hr' h5 rfl).trans h5, (grownBy_keeps_cells hg hr' h6 rfl).trans h6, h7.grown hg h7.size (fun k e => by have := (hr k e).1; omega)⟩
  case h0 => exact ⟨by rw [List.length_nil, atC_zero]; exact hO11, by rw [List.length_nil, atC_zero]; exact hN11, by rw [List.length_nil, badN_zero]; exact hK11, hA11, hR11, hQ11, hb11⟩
  case assign =>
    intro l x W K hK
    dsimp only [pairV]
    gi_wp2
    exact hK
  case body =>
    rintro l pre x W ⟨h1, h2, h3, h4, h5, h6, h7⟩ hpre
    obtain ⟨hlt, hx, n, hrd, hat, hle⟩ := told_next hpre
    obtain ⟨hbd, htk, hat1⟩ := bad_next hpre
    have hmem := runes_mem (l := L s) (x := x) (hpre.subset (by simp))
    rw [← hx] at h1 h2
    rw [length_L] at hle hmem
    have hbl := badN_le (L s) pre.length
    have hch := chunks_length (L s)
    rw [length_L] at hch
    have c1 := h1.cell
    have f1 := h1.frozen
    have c2 := h2.cell
    have f2 := h2.frozen
    have c3 := h3.cell
    have f3 := h3.frozen
    have c4 := h4.cell
    have Hat := Lib.hid hat
    have Hbd := Lib.hid hbd
    have Htk := Lib.hid htk
    have hlen : (pre ++ [x]).length = pre.length + 1 := by simp
    have Hlen := Lib.hid hlen
    have e1 : ((x.1 : Int) != (x.1 : Int)) = false := by simp
    have hsz := size_B ((L s).take x.1)
    rw [List.length_take, length_L] at hsz
    have hsz2 : (B ((L s).take x.1)).size = x.1 := by omega
    have Hsz2 := Lib.hid hsz2
    generalize badN (L s) pre.length = bad at *
    clear hpre hx hat hrd hlen hbd htk hsz hsz2
    by_cases h0 : x.2 < 0
    · have hx1 : (x.1 : Int) < (s.size : Int) := by omega
      have hx2 : ((x.1 : Int) + 1) ≤ (s.size : Int) := by omega
      have q1 : IntKind.i64.wrap ((x.1 : Int) + 1) = (x.1 : Int) + 1 := IntWalk.i64_in _ (by omega)
      have q3 : ((x.1 : Int) + 1).toNat = x.1 + 1 := by omega
      have hext : s.extract x.1 (x.1 + 1) = B [(L s)[x.1]?.getD 0] := by
        rw [extract_B, List.drop_eq_getElem_cons (by rw [length_L]; exact hmem.1), List.getElem?_eq_getElem (by rw [length_L]; exact hmem.1), show x.1 + 1 - x.1 = 1 by omega]
        rfl
      obtain ⟨ch, hch2⟩ : ∃ ch, (L s)[x.1]?.getD 0 = ch := ⟨_, rfl⟩
      rw [hch2] at hext
      have Hch := Lib.hid hch2
      have hsum2 : ¬ 9223372036854775807 < (B ((L s).take x.1)).size + (B [ch]).size := by
        rw [Hsz2.out, size_B]; simp; omega
      clear hch2
      have H0 := Lib.hid h0
      have Hn1 := Lib.hid (hat1 h0)
      have hz4 := h4.lt
      have hbW : Below w.heap.size W ((((W.setCell ⟨n9 + 1 + 1, 0, none⟩ (.int .i64 ((bad : Int) + 1))).setCell ⟨n9, 0, none⟩ (.string (B ((L s).take x.1) ++ B [ch]))).setCell ⟨n9 + 1, 0, none⟩ (.int .i64 (((B ((L s).take x.1)).size : Int) + ((B [ch]).size : Int)))).drew) := (((((Below.refl w.heap.size W).setCell (p := ⟨n9 + 1 + 1, 0, none⟩) (by simp; omega) _).setCell (p := ⟨n9, 0, none⟩) (by simp; omega) _).setCell (p := ⟨n9 + 1, 0, none⟩) (by simp; omega) _)).drew
      have hkW : KeepsOthers W ((((W.setCell ⟨n9 + 1 + 1, 0, none⟩ (.int .i64 ((bad : Int) + 1))).setCell ⟨n9, 0, none⟩ (.string (B ((L s).take x.1) ++ B [ch]))).setCell ⟨n9 + 1, 0, none⟩ (.int .i64 (((B ((L s).take x.1)).size : Int) + ((B [ch]).size : Int)))).drew) := (((KeepsOthers.setCell _ _ _).trans (KeepsOthers.setCell _ _ _)).trans (KeepsOthers.setCell _ _ _)).trans (keeps_drew _)
      have hout : B ((L s).take x.1) ++ B [ch] = B ((L s).take (atC (L s) (pre ++ [x]).length)) := by
        rw [B_append, Hlen.out, Htk.out, if_pos H0.out, Hch.out]
      have hnn : Value.int .i64 (((B ((L s).take x.1)).size : Int) + ((B [ch]).size : Int)) = .int .i64 (atC (L s) (pre ++ [x]).length : Nat) := by
        rw [Hlen.out, Hn1.out, Hsz2.out, size_B]; simp
      have hbb : Value.int .i64 ((bad : Int) + 1) = .int .i64 (badN (L s) (pre ++ [x]).length : Nat) := by
        rw [Hlen.out, Hbd.out, if_pos H0.out]; simp
      have i1 : Boxed ((((W.setCell ⟨n9 + 1 + 1, 0, none⟩ (.int .i64 ((bad : Int) + 1))).setCell ⟨n9, 0, none⟩ (.string (B ((L s).take x.1) ++ B [ch]))).setCell ⟨n9 + 1, 0, none⟩ (.int .i64 (((B ((L s).take x.1)).size : Int) + ((B [ch]).size : Int)))).drew) n9 9 (.string (B ((L s).take (atC (L s) (pre ++ [x]).length)))) := by
        rw [← hout]; exact box_other ((box_other h1 (by omega)).set _) (by omega)
      have i2 : Boxed ((((W.setCell ⟨n9 + 1 + 1, 0, none⟩ (.int .i64 ((bad : Int) + 1))).setCell ⟨n9, 0, none⟩ (.string (B ((L s).take x.1) ++ B [ch]))).setCell ⟨n9 + 1, 0, none⟩ (.int .i64 (((B ((L s).take x.1)).size : Int) + ((B [ch]).size : Int)))).drew) (n9 + 1) 3 (.int .i64 (atC (L s) (pre ++ [x]).length : Nat)) := by
        rw [← hnn]; exact (box_other (box_other h2 (by omega)) (by omega)).set _
      have i3 : Boxed ((((W.setCell ⟨n9 + 1 + 1, 0, none⟩ (.int .i64 ((bad : Int) + 1))).setCell ⟨n9, 0, none⟩ (.string (B ((L s).take x.1) ++ B [ch]))).setCell ⟨n9 + 1, 0, none⟩ (.int .i64 (((B ((L s).take x.1)).size : Int) + ((B [ch]).size : Int)))).drew) (n9 + 1 + 1) 3 (.int .i64 (badN (L s) (pre ++ [x]).length : Nat)) := by
        rw [← hbb]; exact box_other (box_other (h3.set _) (by omega)) (by omega)
      have i4 : Boxed ((((W.setCell ⟨n9 + 1 + 1, 0, none⟩ (.int .i64 ((bad : Int) + 1))).setCell ⟨n9, 0, none⟩ (.string (B ((L s).take x.1) ++ B [ch]))).setCell ⟨n9 + 1, 0, none⟩ (.int .i64 (((B ((L s).take x.1)).size : Int) + ((B [ch]).size : Int)))).drew) w.heap.size 9 (.string s) := box_other (box_other (box_other h4 (by omega)) (by omega)) (by omega)
      have i5 : Boxed ((((W.setCell ⟨n9 + 1 + 1, 0, none⟩ (.int .i64 ((bad : Int) + 1))).setCell ⟨n9, 0, none⟩ (.string (B ((L s).take x.1) ++ B [ch]))).setCell ⟨n9 + 1, 0, none⟩ (.int .i64 (((B ((L s).take x.1)).size : Int) + ((B [ch]).size : Int)))).drew) (w.heap.size + 1) 4 (.bool false) := box_other (box_other (box_other h5 (by omega)) (by omega)) (by omega)
      have i6 : Boxed ((((W.setCell ⟨n9 + 1 + 1, 0, none⟩ (.int .i64 ((bad : Int) + 1))).setCell ⟨n9, 0, none⟩ (.string (B ((L s).take x.1) ++ B [ch]))).setCell ⟨n9 + 1, 0, none⟩ (.int .i64 (((B ((L s).take x.1)).size : Int) + ((B [ch]).size : Int)))).drew) (n9 + 1 + 1 + 1) 9 (.string s) := box_other (box_other (box_other h6 (by omega)) (by omega)) (by omega)
      have HFin := Lib.hid (And.intro hkW (And.intro (show KpR (n9 + 1 + 1 + 1) w.heap.size W _ from ⟨hkW.walks, hbW, i6.trans h6.symm⟩) (And.intro i1 (And.intro i2 (And.intro i3 (And.intro i4 (And.intro i5 (And.intro i6 (h7.trans hbW)))))))))
      clear hat1 hbW hkW hout hnn hbb i1 i2 i3 i4 i5 i6
      gi_wp2
      gi_region
      all_goals (try go_bits)
      all_goals gi_wp2
      all_goals exact HFin.out
    · have h0' : 0 ≤ x.2 := by omega
      have Happ := Lib.hid (fun w' => utf_Append (B ((L s).take x.1)) (by rw [Hsz2.out]; omega) x.2 w')
      rw [L_B] at Happ
      have Htk2 : Hid (B ((L s).take x.1 ++ runeT x.2) = B ((L s).take (atC (L s) (pre.length + 1)))) := Lib.hid (by rw [Htk.out, if_neg h0])
      have Hbd2 : Hid (badN (L s) (pre.length + 1) = bad) := Lib.hid (by rw [Hbd.out, if_neg h0]; rfl)
      rw [Htk2.out] at Happ
      have hsz3 : (B ((L s).take (atC (L s) (pre.length + 1)))).size = atC (L s) (pre.length + 1) := by
        rw [size_B, List.length_take, length_L, Hat.out]; omega
      have Hsz3 := Lib.hid hsz3
      clear h0 hat1 hsz3
      gi_wp2_with fail
      refine ⟨trivial, ?_⟩
      refine (CallsIn.inRound l (callsIn_wide.2 (Happ.out _))).mono ?_
      rintro e W2 ⟨rfl, hb2⟩
      have g1 := box_below h1 hb2
      have g2 := box_below h2 hb2
      have g3 := box_below h3 hb2
      have g4 := box_below h4 hb2
      have g5 := box_below h5 hb2
      have g6 := box_below h6 hb2
      have hko := keeps_below hb2
      have Hb2 := Lib.hid hb2
      have c1 := g1.cell
      have f1 := g1.frozen
      have c2 := g2.cell
      have f2 := g2.frozen
      clear hb2 c3 f3 c4
      gi_wp2
      have hb4 : Below w.heap.size W ((W2.setCell ⟨n9, 0, none⟩ (.string (B ((L s).take (atC (L s) (pre.length + 1)))))).setCell ⟨n9 + 1, 0, none⟩ (.int .i64 ((B ((L s).take (atC (L s) (pre.length + 1)))).size : Nat))) := ((Hb2.out.mono (by have := h4.lt; omega)).setCell (by simp; omega) _).setCell (by simp; omega) _
      refine ⟨(hko.trans (KeepsOthers.setCell _ _ _)).trans (KeepsOthers.setCell _ _ _), ⟨((hko.trans (KeepsOthers.setCell _ _ _)).trans (KeepsOthers.setCell _ _ _)).walks, hb4, ?_⟩, ?_, ?_, ?_, ?_, ?_, ?_, h7.trans hb4⟩
      · exact (box_other (box_other g6 (by omega)) (by omega)).trans h6.symm
      · rw [Hlen.out]; exact box_other (g1.set _) (by omega)
      · rw [Hlen.out]
        have := (box_other g2 (by omega : n9 + 1 ≠ n9)).set (.int .i64 ((B ((L s).take (atC (L s) (pre.length + 1)))).size : Nat)) (W := W2.setCell ⟨n9, 0, none⟩ (.string (B ((L s).take (atC (L s) (pre.length + 1))))))
        rw [Hsz3.out] at this
        rw [Hsz3.out]
        exact this
      · rw [Hlen.out, Hbd2.out]; exact box_other (box_other g3 (by omega)) (by omega)
      · exact box_other (box_other g4 (by omega)) (by omega)
      · exact box_other (box_other g5 (by omega)) (by omega)
      · exact box_other (box_other g6 (by omega)) (by omega)
  case done =>
    rintro D W hD ⟨h1, h2, h3, h4, h5, h6, h7⟩ hK
    rw [idxC_length, atC_end, List.take_length, B_L] at h1
    rw [idxC_length] at h3
    have c1 := h1.cell
    have c3 := h3.cell
    have c4 := h4.cell
    have cR := h5.cell
    have fR := h5.frozen
    have hDw : w.heap.size ≤ D := by omega
    have e1 := str_same s
    have Hres : Hid ((v1 == ((badN (L s) (chunks (L s)).length : Int) == 0)) = true) := Lib.hid (by
      rw [HB.out]
      by_cases hbz : badN (L s) (chunks (L s)).length = 0
      · rw [hbz]; rfl
      · rw [decide_eq_false hbz]
        have : (((badN (L s) (chunks (L s)).length : Nat) : Int) == 0) = false := by rw [beq_eq_false_iff_ne]; omega
        rw [this]; rfl)
    generalize badN (L s) (chunks (L s)).length = bd at *
    have hK' := Lib.hid ((KeepsOthers.setCell W ⟨w.heap.size + 1, 0, none⟩ (.bool true)).same D _ hK rfl)
    have hc5 := Lib.hid (cell_kept (h5.set (.bool true)).cell (grownBy_putObj' _ D (.deferred none)) (fun r e => by cases e; exact ⟨_, hK'.out, rfl⟩))
    have hb5 := Lib.hid ((h7.setCell (p := ⟨w.heap.size + 1, 0, none⟩) (by simp) (.bool true)).trans (belowK_b (w := w) (Nat.le_refl _) _ D _ (.deferred none) hDw hK'.out rfl rfl))
    have hres := Hres.out
    clear hK h1
    go_wp2
    refine ⟨by simp, .inl ⟨_, _, rfl, run_takeDeferred hK'.out, ?_⟩⟩
    have hc6 := hc5.out
    exact ⟨.bool true, by simp [results, Tryd.f8, go_sem, hc6], rfl, hb5.out⟩
  case stop =>
    intro D c pre W _ _ h _
    exact h.elim
end Go.Proofs.YtbdoaocgighclaaDoor
