/- Chapter 8: whether a directory is right: the document's answer (codexref8.Right). Conditions: what the files hold fits an int; so do the list's length and the two numbers. -/
import Derived.Test.YteemloillnfaeaaDoorInoA
import Derived.Test.YteemloillnfaeaaDoorInoC
import Derived.Test.YteemloillnfaeaaDoorInoOwn
import Derived.Test.YteemloillnfaeaaDoorStepAny
namespace Go.Proofs.YteemloillnfaeaaDoor
open Go.RowKit Go.Ino
attribute [local go_sem] Oper.semAt_some

/-- The first files are right, beside one another. -/
def UpTo (l : List Fil) (F K : Int) (k : Nat) : Prop := GoodUp F K (l.take k) ∧ AdjUp l (k - 1) ∧ ((l.take k).flatMap Fil.ext).Pairwise fun a b => offB a b = true
theorem upto_end {l : List Fil} {a b : Int} (h64 : l.length ≤ 64) (h : UpTo l (max a 0) (min b 4096) l.length) : rightB l a b = true := by
  obtain ⟨h1, h2, h3⟩ := h
  rw [List.take_length] at h1 h3
  rw [rightB_iff]
  refine ⟨h64, ?_, h1, h3⟩
  have := AdjUp.all h2 (by omega)
  unfold riseB at this
  exact of_decide_eq_true this
theorem right_over {l : List Fil} {a b : Int} {i : Nat} (hi : i < l.length) {k : Nat} (hk : k < l[i].ext.length) {y : Ext} (hy : y ∈ (l.take i).flatMap Fil.ext ++ l[i].ext.take k) (ho : offB y l[i].ext[k] = false) : rightB l a b = false := by
  rw [← Bool.not_eq_true, rightB_iff]
  rintro ⟨_, _, _, h⟩
  have e1 : ∀ R, l[i].ext ++ R = l[i].ext.take k ++ (l[i].ext[k] :: (l[i].ext.drop (k + 1) ++ R)) := fun R => by
    rw [← List.cons_append, ← List.append_assoc, ← List.drop_eq_getElem_cons hk, List.take_append_drop]
  have e : l.flatMap Fil.ext = ((l.take i).flatMap Fil.ext ++ l[i].ext.take k) ++ (l[i].ext[k] :: (l[i].ext.drop (k + 1) ++ (l.drop (i + 1)).flatMap Fil.ext)) := by
    rw [List.append_assoc, ← e1, ← List.flatMap_cons (f := Fil.ext), ← List.drop_eq_getElem_cons hi, ← List.flatMap_append, List.take_append_drop]
  rw [e, List.pairwise_append] at h
  have := h.2.2 y hy _ (List.mem_cons_self ..)
  rw [ho] at this; cases this
theorem upto_next {l : List Fil} {F K : Int} {k : Nat} (hk : k < l.length) (h : UpTo l F K k) (h1 : nameB l[k].name = true) (h2 : fileB F K l[k] = true) (h3 : ∀ p (_ : k = p + 1) (h : p < l.length), l[p].name < l[k].name)
    (h4 : ((l.take k).flatMap Fil.ext ++ l[k].ext).Pairwise fun a b => offB a b = true) : UpTo l F K (k + 1) := by
  refine ⟨fun f hf => ?_, ?_, ?_⟩
  · rw [List.take_succ_eq_append_getElem hk, List.mem_append] at hf
    rcases hf with hf | hf
    · exact h.1 f hf
    · simp at hf; subst hf; exact ⟨h1, h2⟩
  · intro j hj hjk
    by_cases e : k = j + 1
    · subst e; exact h3 j rfl (by omega)
    · exact h.2.1 j hj (by omega)
  · rw [List.take_succ_eq_append_getElem hk, List.flatMap_append]
    simpa using h4
theorem exts_cells {w : World} {oa : Option Addr} {n c : Nat} {xs : List Ext} (h : Exts w (.slice oa n c) xs) : ∀ i (h : i < xs.length), ∃ b off, oa = some ⟨b, off, none⟩ ∧ b < w.heap.size ∧ w.cell? ⟨b, off + i * 2, none⟩ = some (.int .i64 xs[i].1) ∧ w.cell? ⟨b, off + i * 2 + 1, none⟩ = some (.int .i64 xs[i].2) := by
  obtain ⟨oa', c', e, _, hc⟩ := h
  simp only [Value.slice.injEq] at e
  obtain ⟨rfl, -, rfl⟩ := e
  exact hc
theorem cell2_newI (w : World) (b : Nat) (hb : b = w.heap.size) (x y : Value) (t : TypeId) : ∀ (j : Nat) u, [x, y][j]? = some u → (w.alloc (.cells #[x, y] t)).cell? ((⟨b, 0, none⟩ : Addr).add j) = some u := by
  subst hb
  intro j u hu
  have e : (⟨w.heap.size, 0, none⟩ : Addr).add j = ⟨w.heap.size, j, none⟩ := by unfold Addr.add; split <;> simp_all
  rw [e, Lib.cell_of_heap (heap_alloc_new w _)]
  rcases j with _ | _ | j
  · simpa using hu
  · simpa using hu
  · simp at hu
def OffUp (A : List Ext) (x : Ext) (p : Nat) : Prop := ∀ q (h : q < A.length), q < p → offB A[q] x = true
theorem off_snoc {A : List Ext} {x : Ext} (h : A.Pairwise fun a b => offB a b = true) (ho : OffUp A x A.length) : (A ++ [x]).Pairwise fun a b => offB a b = true := by
  rw [List.pairwise_append]
  refine ⟨h, List.pairwise_singleton .., fun a ha b hb => ?_⟩
  simp at hb; subst hb
  obtain ⟨q, hq, rfl⟩ := List.mem_iff_getElem.1 ha
  exact ho q hq hq
theorem off_next {A : List Ext} {x : Ext} {p : Nat} (h : p < A.length) (ho : OffUp A x p) (h1 : offB A[p] x = true) : OffUp A x (p + 1) := by
  intro q hq hqp
  by_cases e : q = p
  · subst e; exact h1
  · exact ho q hq (by omega)
theorem off_ints (y x : Ext) : offB y x = !(decide (x.1 < y.1 + y.2) && decide (y.1 < x.1 + x.2)) := by unfold offB; rw [Bool.and_comm]
set_option maxRecDepth 100000 in
set_option maxHeartbeats 6400000 in
theorem ref8_Right (v : Value) (l : List Fil) (first blocks : Int) (ha : -9223372036854775808 ≤ first ∧ first ≤ 9223372036854775807) (hb : -9223372036854775808 ≤ blocks ∧ blocks ≤ 9223372036854775807) (hn : l.length ≤ 9223372036854775807) (hfit : ∀ f ∈ l, FitF f) (w : World) (hv : Files w v l) :
    Calls Tryd.prog 21 #[v, .int .i64 first, .int .i64 blocks] w fun e w' => e = .returned (.bool (rightB l first blocks)) ∧ Below w.heap.size w w' := by
  obtain ⟨oa, c, rfl, _, hcell⟩ := hv
  have Hcell := Lib.hid hcell
  have Hfit := Lib.hid hfit
  obtain ⟨i0, hi, hz0, hz1, hz2⟩ := info_parts (show (Tryd.prog.info? 46).map (fun i => (i.zero, i.size, i.bytes)) = some (some (.agg #[.int .i64 0, .int .i64 0]), 2, 16) by kernel_rfl)
  clear hcell hfit
  by_cases h64 : 64 < l.length
  · have k1 : (l.length : Int) > 64 := by omega
    have Hf := Lib.hid (right_len (a := first) (b := blocks) h64)
    clear h64
    go_enter Tryd.func21, Tryd.ntmps21
    go_wp2
    go_ret
    exact ⟨by rw [Hf.out]; rfl, Below.refl _ _⟩
  · have k1 : ¬ (l.length : Int) > 64 := by omega
    have h64 : l.length ≤ 64 := by omega
    go_enter Tryd.func21, Tryd.ntmps21
    go_wp2
    have Hbad := Lib.hid (fun (f : Fil) (hf : f ∈ l) h => right_file (a := first) (b := blocks) hf h)
    have Hend := Lib.hid (fun h => upto_end (a := first) (b := blocks) h64 h)
    have Hrs := Lib.hid (fun h => right_rise (l := l) (a := first) (b := blocks) h)
    obtain ⟨F, hF, hF0, hF1⟩ : ∃ F, max first 0 = F ∧ 0 ≤ F ∧ F ≤ 9223372036854775807 := ⟨_, rfl, by omega, by omega⟩
    obtain ⟨K, hK, hK0, hK1⟩ : ∃ K, min blocks 4096 = K ∧ K ≤ 4096 ∧ -9223372036854775808 ≤ K := ⟨_, rfl, by omega, by omega⟩
    rw [hF, hK] at Hbad Hend
    have HF := Lib.hid hF
    have HK := Lib.hid hK
    clear hF hK
    go_loopw [7, 8] (fun av i wr => ∃ k : Nat, k ≤ l.length ∧ i = .int .i64 k ∧ wr.ownsRow w.heap.size 46 2 av ((l.take k).flatMap Fil.ext).length (extCells ((l.take k).flatMap Fil.ext)) ∧ UpTo l F K k ∧ Below w.heap.size w wr) (fun _ i _ => l.length - (intOf i).toNat)
    case atStart => exact ⟨0, by omega, rfl, World.ownsRow_nil _ _ _ _, ⟨fun f hf => by simp at hf, fun j _ h => absurd h (Nat.not_lt_zero _), List.Pairwise.nil⟩, Below.refl _ _⟩
    case round =>
      obtain ⟨k, hk, rfl, hown, hup, hbel⟩ := hrel
      obtain ⟨av, ac, rfl⟩ := own_form hown
      have Hown := Lib.hid hown
      have Hup := Lib.hid hup
      have Hbel := Lib.hid hbel
      have hwz := hbel.size
      have hsm := (hup.1.small hF0 hK0).2
      rw [List.length_take, Nat.min_eq_left hk] at hsm
      by_cases hlt : k < l.length
      · obtain ⟨b, off, ve, rfl, hb, c1, c2, c3, c4, hex⟩ := Hcell.out k hlt
        have c4w := c4
        have c1 := cell_below hbel hb c1
        have c2 := cell_below hbel hb c2
        have c3 := cell_below hbel hb c3
        have c4 := cell_below hbel hb c4
        have Hex := Lib.hid (hex.below hbel)
        have hf := Hfit.out l[k] (List.getElem_mem hlt)
        have Hbadk := Lib.hid (Hbad.out l[k] (List.getElem_mem hlt))
        have Hover := Lib.hid (fun (j : Nat) (hj : j < l[k].ext.length) (y : Ext) hy ho => right_over (a := first) (b := blocks) hlt (k := j) hj (y := y) hy ho)
        have Hnext := Lib.hid (fun h1 h2 h3 h4 => upto_next hlt Hup.out h1 h2 h3 h4)
        have Htake : Hid ((l.take (k + 1)).flatMap Fil.ext = (l.take k).flatMap Fil.ext ++ l[k].ext) := Lib.hid (by
          rw [List.take_succ_eq_append_getElem hlt, List.flatMap_append, List.flatMap_cons, List.flatMap_nil, List.append_nil])
        have Hpw := Lib.hid Hup.out.2.2
        have Hsml := Lib.hid (hup.1.small hF0 hK0).1
        have hki : (k : Int) < (l.length : Int) := by omega
        obtain ⟨ob, oc, rfl, hnil⟩ := hex.form
        have Hexc := Lib.hid (exts_cells hex)
        have Hadj : Hid (∀ p (hp : k = p + 1), ∃ b' off', some (⟨b, off, none⟩ : Addr) = some ⟨b', off', none⟩ ∧ wr.cell? ⟨b', off' + p * 4, none⟩ = some (.string (B (l[p]'(by omega)).name)) ∧ (¬ (l[p]'(by omega)).name < l[k].name → rightB l first blocks = false)) := Lib.hid (by
          rintro p rfl
          obtain ⟨b', off', _, e, hb', d1, -⟩ := Hcell.out p (by omega)
          exact ⟨b', off', e, cell_below hbel hb' d1, fun h => Hrs.out (rise_not hlt h)⟩)
        generalize hA0 : (l.take k).flatMap Fil.ext = A0 at *
        generalize hfk : l[k] = f at *
        have Hf := Lib.hid hf
        obtain ⟨hf1, -, -, hf4, -⟩ := hf
        have HN := Lib.hid (fun w0 => ref8_Name (B f.name) (by rw [size_B]; omega) w0)
        rw [L_B] at HN
        have HFl := Lib.hid (fun w0 hx => ref8_file f (.slice ob f.ext.length oc) F K hF0 hF1 hK0 hK1 Hf.out w0 hx)
        have Hnil := Lib.hid hnil
        obtain ⟨nb, hnb⟩ : ∃ nb, nameB f.name = nb := ⟨_, rfl⟩
        obtain ⟨fb, hfb⟩ : ∃ fb, fileB F K f = fb := ⟨_, rfl⟩
        rw [hnb] at HN Hbadk Hnext
        rw [hfb] at HFl Hbadk Hnext
        have Hfb := Lib.hid hfb
        have Hlt := Lib.hid hlt
        clear hnil hf1 hf4 hnb hfb hown hup hbel hex hA0 hfk
        go_wp2_with fail
        refine (HN.out _).mono ?_
        rintro e w2 ⟨rfl, rfl⟩
        go_wp2_with fail
        rw [HF.out, HK.out]
        refine (HFl.out _ Hex.out).mono ?_
        rintro e w3 ⟨rfl, hb3⟩
        have Hb3 := Lib.hid hb3
        clear hb3
        cases nb
        · have Hbd := Lib.hid (Hbadk.out (.inl rfl))
          cases fb
          all_goals
            go_wp2
            go_quiet (fail)
            go_wp2
            go_ret
            exact ⟨by rw [Hbd.out]; rfl, below_drewN (step_call Hbel.out Hb3.out) _⟩
        cases fb
        · have Hbd := Lib.hid (Hbadk.out (.inr rfl))
          go_wp2
          go_quiet (fail)
          go_wp2
          go_ret
          exact ⟨by rw [Hbd.out]; rfl, below_drewN (step_call Hbel.out Hb3.out) _⟩
        have C4 := Lib.hid c4w
        clear c4w
        by_cases hk0 : k = 0
        · have Hadjk : Hid (∀ p (_ : k = p + 1) (h : p < l.length), l[p].name < f.name) := Lib.hid (fun p hp => by omega)
          subst hk0
          go_wp2
          go_quiet (fail)
          go_wp2
          have Hbel3 := Lib.hid (below_drewN (step_call Hbel.out Hb3.out) nq)
          have Hown3 : Hid ((w3.drewN nq).ownsRow w.heap.size 46 2 (.slice av A0.length ac) A0.length (extCells A0)) := Lib.hid (own_below Hown.out (below_drewN Hb3.out nq))
          generalize w3.drewN nq = wo at *
          clear Hb3 Hown Hbel
          go_loopw [7, 11] (fun av i wi => ∃ j : Nat, j ≤ f.ext.length ∧ i = .int .i64 j ∧ wi.ownsRow w.heap.size 46 2 av (A0 ++ f.ext.take j).length (extCells (A0 ++ f.ext.take j)) ∧ (A0 ++ f.ext.take j).Pairwise (fun a b => offB a b = true) ∧ Below w.heap.size w wi) (fun _ i _ => f.ext.length - (intOf i).toNat)
          case atStart => exact ⟨0, by omega, rfl, by simpa using Hown3.out, by simpa using Hpw.out, Hbel3.out⟩
          case round =>
            obtain ⟨j, hj, rfl, hown, hpw, hbel⟩ := hrel
            obtain ⟨av, ac, rfl⟩ := own_form hown
            have Hown := Lib.hid hown
            have Hpw1 := Lib.hid hpw
            have Hbel := Lib.hid hbel
            have c4 := cell_below hbel hb C4.out
            have hwz := hbel.size
            have hf16 := file_16 Hfb.out
            have hAl : (A0 ++ f.ext.take j).length ≤ 2000 := by rw [List.length_append, List.length_take]; omega
            by_cases hjl : j < f.ext.length
            · obtain ⟨eb, eo, rfl, heb, x1c, x2c⟩ := Hexc.out j hjl
              have x1c := cell_below hbel heb x1c
              have x2c := cell_below hbel heb x2c
              have hx := (extB_iff _ _ _).1 (fileB_ext Hfb.out f.ext[j] (List.getElem_mem hjl))
              have Hov := Lib.hid (fun (y : Ext) hy ho => Hover.out j hjl y hy ho)
              have Htk : Hid (A0 ++ f.ext.take (j + 1) = (A0 ++ f.ext.take j) ++ [f.ext[j]]) := Lib.hid (by
                rw [List.take_succ_eq_append_getElem hjl, List.append_assoc])
              have HsA : Hid (∀ y ∈ A0 ++ f.ext.take j, smallE y) := Lib.hid (fun y hy => by
                rcases List.mem_append.1 hy with hy | hy
                · exact (Hsml.out y hy).1
                · have := (extB_iff _ _ _).1 (fileB_ext Hfb.out y (List.mem_of_mem_take hy))
                  unfold smallE; omega)
              have HA := Lib.hid (own_exts hown)
              have hjn : (j : Int) < (f.ext.length : Int) := by omega
              have HlA := Lib.hid hAl
              clear hown hpw hbel hAl
              generalize f.ext[j] = x at *
              generalize hA1 : A0 ++ f.ext.take j = A at *
              have hlA := HlA.out
              clear hA1
              obtain ⟨y1, y2⟩ := x
              simp only at hx x1c x2c
              go_wp2
              have HBX := Lib.hid (step_new Hbel.out (.cells #[.int .i64 y1, .int .i64 y2] 46))
              have hx1 : (wr.alloc (.cells #[.int .i64 y1, .int .i64 y2] 46)).cell? ⟨wr.heap.size, 0, none⟩ = some (.int .i64 y1) := by rw [Lib.cell_of_heap (heap_alloc_new wr _)]; rfl
              have hx2 : (wr.alloc (.cells #[.int .i64 y1, .int .i64 y2] 46)).cell? ⟨wr.heap.size, 1, none⟩ = some (.int .i64 y2) := by rw [Lib.cell_of_heap (heap_alloc_new wr _)]; rfl
              have hsz : wr.heap.size < (wr.alloc (.cells #[.int .i64 y1, .int .i64 y2] 46)).heap.size := by simp
              have HAX := Lib.hid (HA.out.below (step_new (Below.refl _ _) (.cells #[.int .i64 y1, .int .i64 y2] 46)))
              have HownX := Lib.hid (own_below Hown.out (step_new (Below.refl _ _) (.cells #[.int .i64 y1, .int .i64 y2] 46)))
              have Hx := Lib.hid hx
              generalize wr.heap.size = xb at *
              generalize wr.alloc (.cells #[.int .i64 y1, .int .i64 y2] 46) = wx at *
              go_loopw [13] (fun i wm => ∃ p : Nat, p ≤ A.length ∧ i = .int .i64 p ∧ OffUp A (y1, y2) p ∧ Below wx.heap.size wx wm) (fun i _ => A.length - (intOf i).toNat)
              case atStart => exact ⟨0, by omega, rfl, fun q _ h => absurd h (Nat.not_lt_zero _), Below.refl _ _⟩
              case round =>
                obtain ⟨p, hp, rfl, hoff, hbm⟩ := hrel
                have Hoff := Lib.hid hoff
                have Hbm := Lib.hid hbm
                have hx1 := cell_below hbm hsz hx1
                have hx2 := cell_below hbm hsz hx2
                by_cases hpl : p < A.length
                · obtain ⟨ab, ao, rfl, hab, a1c, a2c⟩ := exts_cells HAX.out p hpl
                  have a1c := cell_below hbm hab a1c
                  have a2c := cell_below hbm hab a2c
                  have hs := HsA.out A[p] (List.getElem_mem hpl)
                  have Hoo := Lib.hid (off_ints A[p] (y1, y2))
                  have Hbadp := Lib.hid (fun (ho : offB A[p] (y1, y2) = false) => Hov.out A[p] (List.getElem_mem hpl) ho)
                  have Hgo := Lib.hid (fun h => off_next hpl Hoff.out h)
                  have hpn : (p : Int) < (A.length : Int) := by omega
                  clear hoff hbm
                  generalize A[p] = z at *
                  obtain ⟨q1, q2⟩ := z
                  unfold smallE at hs
                  simp only at hs a1c a2c Hoo
                  have z1 : IntKind.i64.wrap (q1 + q2) = q1 + q2 := IntWalk.i64_in _ (by omega)
                  have z2 : IntKind.i64.wrap (y1 + y2) = y1 + y2 := IntWalk.i64_in _ (by omega)
                  by_cases m1 : y1 < q1 + q2
                  · by_cases m2 : q1 < y1 + y2
                    · have Hf := Lib.hid (Hbadp.out (by rw [Hoo.out, decide_eq_true m1, decide_eq_true m2]; rfl))
                      go_wp2
                      go_quiet (fail)
                      go_wp2
                      go_ret
                      exact ⟨by rw [Hf.out]; rfl, step_call HBX.out (below_drewN Hbm.out _)⟩
                    · have Hg := Lib.hid (Hgo.out (by rw [Hoo.out, decide_eq_true m1, decide_eq_false m2]; rfl))
                      go_wp2
                      go_quiet (fail)
                      go_wp2
                      go_roundw
                      case rel => exact ⟨p + 1, by omega, by go_num, Hg.out, below_drewN Hbm.out _⟩
                      case measure => simp [intOf]; omega
                  · have Hg := Lib.hid (Hgo.out (by rw [Hoo.out, decide_eq_false m1]; rfl))
                    have m3 : decide (y1 < q1 + q2) = false := decide_eq_false m1
                    have m4 : q1 + q2 ≤ y1 := by omega
                    go_wp2
                    go_quiet (fail)
                    go_wp2
                    go_roundw
                    case rel => exact ⟨p + 1, by omega, by go_num, Hg.out, below_drewN Hbm.out _⟩
                    case measure => simp [intOf]; omega
                · obtain rfl : p = A.length := by omega
                  have Hpw2 := Lib.hid (off_snoc Hpw1.out Hoff.out)
                  have Hown5 := Lib.hid (own_below HownX.out Hbm.out)
                  have Hbel5 := Lib.hid (step_call HBX.out Hbm.out)
                  have hwm := Hbel5.out.size
                  have hown6 := Lib.hid (Hown5.out.alloc (.cells #[.int .i64 y1, .int .i64 y2] 46))
                  have hnews := Lib.hid (cell2_newI wr wr.heap.size rfl (.int .i64 y1) (.int .i64 y2) 46)
                  clear hoff hbm
                  go_wp2_with (at_builtin; go_must (refine wpList_append_where _ rfl _ _ 42 rfl w.heap.size 46 i0 (.agg #[.int .i64 0, .int .i64 0]) 2 16 Tryd.underlying42 hi hz0 hz1 hz2 rfl (by decide) _ _ _ rfl hown6.out ⟨wr.heap.size, 0, none⟩ 1 1 [.int .i64 y1, .int .i64 y2] rfl rfl ?c1 ?c2 ?c3 ?c4 ?c5 ?_))
                  case c1 => exact hnews.out
                  case c2 => simp [Value.oneCell']
                  case c3 => unfold maxLen; omega
                  case c4 => omega
                  case c5 => simp; omega
                  intro v' w7 hown7 hgrow7 _
                  have Hb7 := Lib.hid ((step_new Hbel5.out _).grown hgrow7 (by simp; omega) (fun q hq => (Hown5.out.lt q hq).1))
                  have Hown7 : Hid (w7.ownsRow w.heap.size 46 2 v' (A0 ++ f.ext.take (j + 1)).length (extCells (A0 ++ f.ext.take (j + 1)))) := Lib.hid (by
                    rw [Htk.out, List.length_append, extCells_append]; exact hown7)
                  have Hpw7 : Hid ((A0 ++ f.ext.take (j + 1)).Pairwise fun a b => offB a b = true) := Lib.hid (by rw [Htk.out]; exact Hpw2.out)
                  clear hown7 hgrow7
                  go_wp2
                  go_roundw
                  case rel => exact ⟨j + 1, by omega, by go_num, Hown7.out, Hpw7.out, Hb7.out⟩
                  case measure => simp [intOf]; omega
            · obtain rfl : j = f.ext.length := by omega
              have hown2 : Hid (wr.ownsRow w.heap.size 46 2 (.slice av (A0 ++ f.ext.take f.ext.length).length ac) ((l.take (0 + 1)).flatMap Fil.ext).length (extCells ((l.take (0 + 1)).flatMap Fil.ext))) := Lib.hid (by
                rw [Htake.out]; rw [List.take_length] at hown ⊢; exact hown)
              have hup2 := Lib.hid (Hnext.out (by trivial) (by trivial) Hadjk.out (by rw [List.take_length] at hpw; exact hpw))
              clear hown hpw hbel hAl
              go_wp2
              go_roundw
              case rel => exact ⟨0 + 1, by omega, by go_num, hown2.out, hup2.out, Hbel.out⟩
              case measure => simp [intOf]; omega
        · obtain ⟨p, hp⟩ : ∃ p, k = p + 1 := ⟨k - 1, by omega⟩
          obtain ⟨b', off', e, d1, hbd⟩ := Hadj.out p hp
          simp only [Option.some.injEq, Addr.mk.injEq, and_true] at e
          obtain ⟨rfl, rfl⟩ := e
          have d1 := cell_call Hb3.out d1
          have c1 := cell_call Hb3.out c1
          have hls := less_B' (l[p]'(by omega)).name f.name
          obtain ⟨bb, hbb⟩ : ∃ bb, decide ((l[p]'(by omega)).name < f.name) = bb := ⟨_, rfl⟩
          rw [hbb] at hls
          have Hadjk : Hid (bb = true → ∀ q (_ : k = q + 1) (h : q < l.length), l[q].name < f.name) := Lib.hid (fun h q hq _ => by
            obtain rfl : q = p := by omega
            exact of_decide_eq_true (hbb.trans h))
          have Hbb := Lib.hid hbb
          have Hbd := Lib.hid hbd
          clear hbb hbd
          generalize (l[p]'(by omega)) = y at *
          have z0 : (k : Int) > 0 := by omega
          have z00 : 0 < k := by omega
          have z3 : (0 : Int) ≤ (p : Int) := by omega
          have z5 : (p : Int) < (l.length : Int) := by omega
          have z7 : p < l.length := by omega
          have z1 : IntKind.i64.wrap ((k : Int) - 1) = (p : Int) := by rw [show (k : Int) - 1 = (p : Int) by omega]; exact IntWalk.i64_in _ (by omega)
          have z2 : IntKind.i64.wrap (p : Int) = (p : Int) := IntWalk.i64_in _ (by omega)
          clear hp hk0
          cases bb
          · have Hf := Lib.hid (Hbd.out (of_decide_eq_false Hbb.out))
            go_wp2
            go_quiet (fail)
            go_wp2
            go_ret
            exact ⟨by rw [Hf.out]; rfl, below_drewN (step_call Hbel.out Hb3.out) _⟩
          replace Hadjk := Lib.hid (Hadjk.out rfl)
          go_wp2
          go_quiet (fail)
          go_wp2
          have Hbel3 := Lib.hid (below_drewN (step_call Hbel.out Hb3.out) nq)
          have Hown3 : Hid ((w3.drewN nq).ownsRow w.heap.size 46 2 (.slice av A0.length ac) A0.length (extCells A0)) := Lib.hid (own_below Hown.out (below_drewN Hb3.out nq))
          generalize w3.drewN nq = wo at *
          clear Hb3 Hown Hbel
          go_loopw [7, 11] (fun av i wi => ∃ j : Nat, j ≤ f.ext.length ∧ i = .int .i64 j ∧ wi.ownsRow w.heap.size 46 2 av (A0 ++ f.ext.take j).length (extCells (A0 ++ f.ext.take j)) ∧ (A0 ++ f.ext.take j).Pairwise (fun a b => offB a b = true) ∧ Below w.heap.size w wi) (fun _ i _ => f.ext.length - (intOf i).toNat)
          case atStart => exact ⟨0, by omega, rfl, by simpa using Hown3.out, by simpa using Hpw.out, Hbel3.out⟩
          case round =>
            obtain ⟨j, hj, rfl, hown, hpw, hbel⟩ := hrel
            obtain ⟨av, ac, rfl⟩ := own_form hown
            have Hown := Lib.hid hown
            have Hpw1 := Lib.hid hpw
            have Hbel := Lib.hid hbel
            have c4 := cell_below hbel hb C4.out
            have hwz := hbel.size
            have hf16 := file_16 Hfb.out
            have hAl : (A0 ++ f.ext.take j).length ≤ 2000 := by rw [List.length_append, List.length_take]; omega
            by_cases hjl : j < f.ext.length
            · obtain ⟨eb, eo, rfl, heb, x1c, x2c⟩ := Hexc.out j hjl
              have x1c := cell_below hbel heb x1c
              have x2c := cell_below hbel heb x2c
              have hx := (extB_iff _ _ _).1 (fileB_ext Hfb.out f.ext[j] (List.getElem_mem hjl))
              have Hov := Lib.hid (fun (y : Ext) hy ho => Hover.out j hjl y hy ho)
              have Htk : Hid (A0 ++ f.ext.take (j + 1) = (A0 ++ f.ext.take j) ++ [f.ext[j]]) := Lib.hid (by
                rw [List.take_succ_eq_append_getElem hjl, List.append_assoc])
              have HsA : Hid (∀ y ∈ A0 ++ f.ext.take j, smallE y) := Lib.hid (fun y hy => by
                rcases List.mem_append.1 hy with hy | hy
                · exact (Hsml.out y hy).1
                · have := (extB_iff _ _ _).1 (fileB_ext Hfb.out y (List.mem_of_mem_take hy))
                  unfold smallE; omega)
              have HA := Lib.hid (own_exts hown)
              have hjn : (j : Int) < (f.ext.length : Int) := by omega
              have HlA := Lib.hid hAl
              clear hown hpw hbel hAl
              generalize f.ext[j] = x at *
              generalize hA1 : A0 ++ f.ext.take j = A at *
              have hlA := HlA.out
              clear hA1
              obtain ⟨y1, y2⟩ := x
              simp only at hx x1c x2c
              go_wp2
              have HBX := Lib.hid (step_new Hbel.out (.cells #[.int .i64 y1, .int .i64 y2] 46))
              have hx1 : (wr.alloc (.cells #[.int .i64 y1, .int .i64 y2] 46)).cell? ⟨wr.heap.size, 0, none⟩ = some (.int .i64 y1) := by rw [Lib.cell_of_heap (heap_alloc_new wr _)]; rfl
              have hx2 : (wr.alloc (.cells #[.int .i64 y1, .int .i64 y2] 46)).cell? ⟨wr.heap.size, 1, none⟩ = some (.int .i64 y2) := by rw [Lib.cell_of_heap (heap_alloc_new wr _)]; rfl
              have hsz : wr.heap.size < (wr.alloc (.cells #[.int .i64 y1, .int .i64 y2] 46)).heap.size := by simp
              have HAX := Lib.hid (HA.out.below (step_new (Below.refl _ _) (.cells #[.int .i64 y1, .int .i64 y2] 46)))
              have HownX := Lib.hid (own_below Hown.out (step_new (Below.refl _ _) (.cells #[.int .i64 y1, .int .i64 y2] 46)))
              have Hx := Lib.hid hx
              generalize wr.heap.size = xb at *
              generalize wr.alloc (.cells #[.int .i64 y1, .int .i64 y2] 46) = wx at *
              go_loopw [13] (fun i wm => ∃ p : Nat, p ≤ A.length ∧ i = .int .i64 p ∧ OffUp A (y1, y2) p ∧ Below wx.heap.size wx wm) (fun i _ => A.length - (intOf i).toNat)
              case atStart => exact ⟨0, by omega, rfl, fun q _ h => absurd h (Nat.not_lt_zero _), Below.refl _ _⟩
              case round =>
                obtain ⟨p, hp, rfl, hoff, hbm⟩ := hrel
                have Hoff := Lib.hid hoff
                have Hbm := Lib.hid hbm
                have hx1 := cell_below hbm hsz hx1
                have hx2 := cell_below hbm hsz hx2
                by_cases hpl : p < A.length
                · obtain ⟨ab, ao, rfl, hab, a1c, a2c⟩ := exts_cells HAX.out p hpl
                  have a1c := cell_below hbm hab a1c
                  have a2c := cell_below hbm hab a2c
                  have hs := HsA.out A[p] (List.getElem_mem hpl)
                  have Hoo := Lib.hid (off_ints A[p] (y1, y2))
                  have Hbadp := Lib.hid (fun (ho : offB A[p] (y1, y2) = false) => Hov.out A[p] (List.getElem_mem hpl) ho)
                  have Hgo := Lib.hid (fun h => off_next hpl Hoff.out h)
                  have hpn : (p : Int) < (A.length : Int) := by omega
                  clear hoff hbm
                  generalize A[p] = z at *
                  obtain ⟨q1, q2⟩ := z
                  unfold smallE at hs
                  simp only at hs a1c a2c Hoo
                  have z1 : IntKind.i64.wrap (q1 + q2) = q1 + q2 := IntWalk.i64_in _ (by omega)
                  have z2 : IntKind.i64.wrap (y1 + y2) = y1 + y2 := IntWalk.i64_in _ (by omega)
                  by_cases m1 : y1 < q1 + q2
                  · by_cases m2 : q1 < y1 + y2
                    · have Hf := Lib.hid (Hbadp.out (by rw [Hoo.out, decide_eq_true m1, decide_eq_true m2]; rfl))
                      go_wp2
                      go_quiet (fail)
                      go_wp2
                      go_ret
                      exact ⟨by rw [Hf.out]; rfl, step_call HBX.out (below_drewN Hbm.out _)⟩
                    · have Hg := Lib.hid (Hgo.out (by rw [Hoo.out, decide_eq_true m1, decide_eq_false m2]; rfl))
                      go_wp2
                      go_quiet (fail)
                      go_wp2
                      go_roundw
                      case rel => exact ⟨p + 1, by omega, by go_num, Hg.out, below_drewN Hbm.out _⟩
                      case measure => simp [intOf]; omega
                  · have Hg := Lib.hid (Hgo.out (by rw [Hoo.out, decide_eq_false m1]; rfl))
                    have m3 : decide (y1 < q1 + q2) = false := decide_eq_false m1
                    have m4 : q1 + q2 ≤ y1 := by omega
                    go_wp2
                    go_quiet (fail)
                    go_wp2
                    go_roundw
                    case rel => exact ⟨p + 1, by omega, by go_num, Hg.out, below_drewN Hbm.out _⟩
                    case measure => simp [intOf]; omega
                · obtain rfl : p = A.length := by omega
                  have Hpw2 := Lib.hid (off_snoc Hpw1.out Hoff.out)
                  have Hown5 := Lib.hid (own_below HownX.out Hbm.out)
                  have Hbel5 := Lib.hid (step_call HBX.out Hbm.out)
                  have hwm := Hbel5.out.size
                  have hown6 := Lib.hid (Hown5.out.alloc (.cells #[.int .i64 y1, .int .i64 y2] 46))
                  have hnews := Lib.hid (cell2_newI wr wr.heap.size rfl (.int .i64 y1) (.int .i64 y2) 46)
                  clear hoff hbm
                  go_wp2_with (at_builtin; go_must (refine wpList_append_where _ rfl _ _ 42 rfl w.heap.size 46 i0 (.agg #[.int .i64 0, .int .i64 0]) 2 16 Tryd.underlying42 hi hz0 hz1 hz2 rfl (by decide) _ _ _ rfl hown6.out ⟨wr.heap.size, 0, none⟩ 1 1 [.int .i64 y1, .int .i64 y2] rfl rfl ?c1 ?c2 ?c3 ?c4 ?c5 ?_))
                  case c1 => exact hnews.out
                  case c2 => simp [Value.oneCell']
                  case c3 => unfold maxLen; omega
                  case c4 => omega
                  case c5 => simp; omega
                  intro v' w7 hown7 hgrow7 _
                  have Hb7 := Lib.hid ((step_new Hbel5.out _).grown hgrow7 (by simp; omega) (fun q hq => (Hown5.out.lt q hq).1))
                  have Hown7 : Hid (w7.ownsRow w.heap.size 46 2 v' (A0 ++ f.ext.take (j + 1)).length (extCells (A0 ++ f.ext.take (j + 1)))) := Lib.hid (by
                    rw [Htk.out, List.length_append, extCells_append]; exact hown7)
                  have Hpw7 : Hid ((A0 ++ f.ext.take (j + 1)).Pairwise fun a b => offB a b = true) := Lib.hid (by rw [Htk.out]; exact Hpw2.out)
                  clear hown7 hgrow7
                  go_wp2
                  go_roundw
                  case rel => exact ⟨j + 1, by omega, by go_num, Hown7.out, Hpw7.out, Hb7.out⟩
                  case measure => simp [intOf]; omega
            · obtain rfl : j = f.ext.length := by omega
              have hown2 : Hid (wr.ownsRow w.heap.size 46 2 (.slice av (A0 ++ f.ext.take f.ext.length).length ac) ((l.take (k + 1)).flatMap Fil.ext).length (extCells ((l.take (k + 1)).flatMap Fil.ext))) := Lib.hid (by
                rw [Htake.out]; rw [List.take_length] at hown ⊢; exact hown)
              have hup2 := Lib.hid (Hnext.out (by trivial) (by trivial) Hadjk.out (by rw [List.take_length] at hpw; exact hpw))
              clear hown hpw hbel hAl
              go_wp2
              go_roundw
              case rel => exact ⟨k + 1, by omega, by go_num, hown2.out, hup2.out, Hbel.out⟩
              case measure => simp [intOf]; omega
      · obtain rfl : k = l.length := by omega
        have He := Lib.hid (Hend.out Hup.out)
        clear hown hup hbel hsm
        go_wp2
        go_ret
        exact ⟨by rw [He.out]; rfl, Hbel.out⟩
end Go.Proofs.YteemloillnfaeaaDoor
