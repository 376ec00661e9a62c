/- Chapter 8: whether a directory is right: inode.Right. Conditions: what the files hold fits an int; so do the list's length and the two numbers. -/
import Derived.Test.YteemloillnfaeaaDoorInoA
import Derived.Test.YteemloillnfaeaaDoorInoC
import Derived.Test.YteemloillnfaeaaDoorInoD
import Derived.Test.YteemloillnfaeaaDoorInoOwn
import Derived.Test.YteemloillnfaeaaDoorStepAny
namespace Go.Proofs.YteemloillnfaeaaDoor
open Go.RowKit Go.Ino
attribute [local go_sem] Oper.semAt_some

def EndUp (p : List Ext) (k : Nat) : Prop := ∀ i (h : i + 1 < p.length), i < k → (p[i]'(by omega)).1 + (p[i]'(by omega)).2 ≤ p[i + 1].1
set_option maxRecDepth 100000 in
set_option maxHeartbeats 6400000 in
theorem inode_Right (v : Value) (l : List Fil) (first blocks : Int) (ha : -9223372036854775808 ≤ first ∧ first ≤ 9223372036854775807) (hb : -9223372036854775808 ≤ blocks ∧ blocks ≤ 9223372036854775807) (hn : l.length ≤ 9223372036854775807) (hfit : ∀ f ∈ l, FitF f) (w : World) (hv : Files w v l) :
    Calls Tryd.prog 18 #[v, .int .i64 first, .int .i64 blocks] w fun e w' => e = .returned (.bool (rightB l first blocks)) ∧ Below w.heap.size w w' := by
  have HR := Lib.hid (inode_rising v l hn w hv)
  have Hv := Lib.hid hv
  obtain ⟨oa, c, rfl, _, hcell⟩ := hv
  have Hcell := Lib.hid hcell
  have Hfit := Lib.hid hfit
  obtain ⟨i0, hi, hz0, hz1, hz2⟩ := info_parts (show (Tryd.prog.info? 46).map (fun i => (i.zero, i.size, i.bytes)) = some (some (.agg #[.int .i64 0, .int .i64 0]), 2, 16) by kernel_rfl)
  clear hcell hfit
  by_cases h64 : 64 < l.length
  · have k1 : (l.length : Int) > 64 := by omega
    have Hf := Lib.hid (right_len (a := first) (b := blocks) h64)
    clear h64
    go_enter Tryd.func18, Tryd.ntmps18
    go_wp2
    go_ret
    exact ⟨by rw [Hf.out]; rfl, Below.refl _ _⟩
  · have k1 : ¬ (l.length : Int) > 64 := by omega
    have Hrise := Lib.hid (right_rise (l := l) (a := first) (b := blocks))
    obtain ⟨rb, hrb⟩ : ∃ rb, riseB l = rb := ⟨_, rfl⟩
    rw [hrb] at HR Hrise
    have Hrb := Lib.hid hrb
    clear hrb
    cases rb
    · have Hf := Lib.hid (Hrise.out rfl)
      clear h64
      go_enter Tryd.func18, Tryd.ntmps18
      go_wp2_with (go_at_call 37; refine HR.out.mono ?_; rintro e w1 ⟨rfl, hb1⟩)
      go_ret
      exact ⟨by rw [Hf.out]; rfl, hb1⟩
    · go_enter Tryd.func18, Tryd.ntmps18
      go_wp2_with (go_at_call 37; refine HR.out.mono ?_; rintro e w1 ⟨rfl, hb1⟩)
      have Hb1 := Lib.hid hb1
      have Hbad := Lib.hid (fun (f : Fil) (hf : f ∈ l) h => right_file (a := first) (b := blocks) hf h)
      have Hend := Lib.hid (fun (p : List Ext) (hg : GoodUp (max first 0) (min blocks 4096) l) hp hs => right_end (l := l.flatMap Fil.ext) (p := p) (a := first) (b := blocks) (by omega) Hrb.out hg rfl hp hs)
      obtain ⟨F, hF, hF0, hF1⟩ : ∃ F, max first 0 = F ∧ 0 ≤ F ∧ F ≤ 9223372036854775807 := ⟨_, rfl, by omega, by omega⟩
      obtain ⟨K, hK, hK0, hK1⟩ : ∃ K, min blocks 4096 = K ∧ K ≤ 4096 ∧ -9223372036854775808 ≤ K := ⟨_, rfl, by omega, by omega⟩
      rw [hF, hK] at Hbad Hend ⊢
      clear hF hK hb1
      go_loopw [7, 25] (fun av i wr => ∃ k : Nat, k ≤ l.length ∧ i = .int .i64 k ∧ wr.ownsRow w.heap.size 46 2 av ((l.take k).flatMap Fil.ext).length (extCells ((l.take k).flatMap Fil.ext)) ∧ GoodUp F K (l.take k) ∧ Below w.heap.size w wr) (fun _ i _ => l.length - (intOf i).toNat)
      case atStart => exact ⟨0, by omega, rfl, World.ownsRow_nil _ _ _ _, fun f hf => by simp at hf, Hb1.out⟩
      case round =>
        obtain ⟨k, hk, rfl, hown, hgood, hbel⟩ := hrel
        obtain ⟨av, ac, rfl⟩ := own_form hown
        have Hown := Lib.hid hown
        have Hgood := Lib.hid hgood
        have Hbel := Lib.hid hbel
        have hwz := hbel.size
        have hsm := (hgood.small hF0 hK0).2
        rw [List.length_take, Nat.min_eq_left hk] at hsm
        by_cases hlt : k < l.length
        · obtain ⟨b, off, ve, rfl, hb, c1, c2, c3, c4, hex⟩ := Hcell.out k hlt
          have c1 := cell_below hbel hb c1
          have c2 := cell_below hbel hb c2
          have c3 := cell_below hbel hb c3
          have c4 := cell_below hbel hb c4
          have Hex := Lib.hid (hex.below hbel)
          have hf := Hfit.out l[k] (List.getElem_mem hlt)
          have Hbadk := Lib.hid (Hbad.out l[k] (List.getElem_mem hlt))
          have Hnext : Hid ((l.take (k + 1)).flatMap Fil.ext = (l.take k).flatMap Fil.ext ++ l[k].ext) := Lib.hid (by
            rw [List.take_succ_eq_append_getElem hlt, List.flatMap_append, List.flatMap_cons, List.flatMap_nil, List.append_nil])
          have Hgn : Hid (nameB l[k].name = true → fileB F K l[k] = true → GoodUp F K (l.take (k + 1))) := Lib.hid (fun h1 h2 f hf => by
            rw [List.take_succ_eq_append_getElem hlt, List.mem_append] at hf
            rcases hf with hf | hf
            · exact Hgood.out f hf
            · simp at hf; subst hf; exact ⟨h1, h2⟩)
          have hki : (k : Int) < (l.length : Int) := by omega
          obtain ⟨ob, oc, rfl, hnil⟩ := hex.form
          clear hown hgood hbel hex
          generalize (l.take k).flatMap Fil.ext = A0 at *
          generalize l[k] = f at *
          have Hf := Lib.hid hf
          obtain ⟨hf1, -, -, hf4, -⟩ := hf
          have HN := Lib.hid (fun w0 => inode_Name (B f.name) (by rw [size_B]; omega) w0)
          rw [L_B] at HN
          have HFl := Lib.hid (fun w0 hx => inode_right f (.slice ob f.ext.length oc) F K hF0 hF1 hK0 hK1 Hf.out w0 hx)
          have Hnil := Lib.hid hnil
          obtain ⟨nb, hnb⟩ : ∃ nb, nameB f.name = nb := ⟨_, rfl⟩
          obtain ⟨fb, hfb⟩ : ∃ fb, fileB F K f = fb := ⟨_, rfl⟩
          rw [hnb] at HN Hbadk Hgn
          rw [hfb] at HFl Hbadk Hgn
          have Hfb := Lib.hid hfb
          clear hnil hf1 hf4 hnb hfb
          go_wp2_with fail
          refine (HN.out _).mono ?_
          rintro e w2 ⟨rfl, hb2⟩
          have hB2 := heap_alloc_new wr (.cells #[.string (B f.name), .bool f.shut, .int .i64 f.size, .slice ob f.ext.length oc] 44)
          have hB2' := (hb2.block wr.heap.size (by simp)).trans hB2
          have e0 : w2.cell? ⟨wr.heap.size, 0, none⟩ = some (.string (B f.name)) := by rw [Lib.cell_of_heap hB2']; rfl
          have e1 : w2.cell? ⟨wr.heap.size, 1, none⟩ = some (.bool f.shut) := by rw [Lib.cell_of_heap hB2']; rfl
          have e2 : w2.cell? ⟨wr.heap.size, 2, none⟩ = some (.int .i64 f.size) := by rw [Lib.cell_of_heap hB2']; rfl
          have e3 : w2.cell? ⟨wr.heap.size, 3, none⟩ = some (.slice ob f.ext.length oc) := by rw [Lib.cell_of_heap hB2']; rfl
          have Hrw2 : Hid (Below wr.heap.size wr w2) := Lib.hid (step_call (step_new (Below.refl _ wr) _) hb2)
          clear hB2 hB2' hb2
          cases nb
          · have Hbd := Lib.hid (Hbadk.out (.inl rfl))
            go_wp2
            go_ret
            exact ⟨by rw [Hbd.out]; rfl, step_call Hbel.out Hrw2.out⟩
          · go_wp2_with fail
            refine (HFl.out _ (Hex.out.below Hrw2.out)).mono ?_
            rintro e w3 ⟨rfl, hb3⟩
            have e3 := cell_call hb3 e3
            have Hrw3 := Lib.hid (step_call Hrw2.out hb3)
            clear hb3 e0 e1 e2
            cases fb
            · have Hbd := Lib.hid (Hbadk.out (.inr rfl))
              go_wp2
              go_ret
              exact ⟨by rw [Hbd.out]; rfl, step_call Hbel.out Hrw3.out⟩
            · have hf16 := file_16 Hfb.out
              have Hown3 := Lib.hid (own_below Hown.out Hrw3.out)
              have Hnews := Lib.hid (exts_news (Hex.out.below Hrw3.out))
              have hw3 := Hrw3.out.size
              go_wp2_with (at_builtin; go_must (refine wpList_append_any _ rfl _ _ 42 rfl w.heap.size 46 i0 _ 2 16 Tryd.underlying42 hi hz0 hz1 hz2 rfl (by decide) _ _ _ rfl Hown3.out ob f.ext.length oc (extCells f.ext) rfl (extCells_length f.ext) Hnil.out Hnews.out (extCells_one f.ext) ?c1 ?c2 ?c3 ?_))
              case c1 => unfold maxLen; omega
              case c2 => omega
              case c3 => omega
              intro v4 w4 hown4 hgrow4 _
              have Hb4 := Lib.hid (below_own (step_call Hbel.out Hrw3.out) Hown3.out hgrow4 (Nat.le_refl _) (by omega))
              have Hown4 : Hid (w4.ownsRow w.heap.size 46 2 v4 ((l.take (k + 1)).flatMap Fil.ext).length (extCells ((l.take (k + 1)).flatMap Fil.ext))) := Lib.hid (by
                rw [Hnext.out, List.length_append, extCells_append]; exact hown4)
              have Hgd := Lib.hid (Hgn.out (by trivial) (by trivial))
              clear hown4 hgrow4
              go_wp2
              go_roundw
              case rel => exact ⟨k + 1, by omega, by go_num, Hown4.out, Hgd.out, Hb4.out⟩
              case measure => simp [intOf]; omega
        · obtain rfl : k = l.length := by omega
          rw [List.take_length] at Hown Hgood
          have hsm2 := Hgood.out.small hF0 hK0
          have hl2 : ((l.take l.length).flatMap Fil.ext).length ≤ 2000 := by rw [List.take_length]; omega
          have Hsm2 := Lib.hid (fun x hx => (hsm2.1 x hx).1)
          have Hsort := Lib.hid (exts_sort_any (fun x hx => (hsm2.1 x hx).1) (v := .slice av ((l.take l.length).flatMap Fil.ext).length ac) (by rw [List.take_length]; exact Hown.out) (by omega) w.heap.size (Nat.le_refl _) hwz)
          clear hown hgood hbel hsm hsm2
          generalize ((l.take l.length).flatMap Fil.ext).length = n at *
          go_wp2_with fail
          refine Hsort.out.mono ?_
          rintro e w2 ⟨rfl, hb2, ys, hp, hs, hex⟩
          have Hendp := Lib.hid (Hend.out ys Hgood.out hp hs)
          have Hsy : Hid (∀ y ∈ ys, smallE y) := Lib.hid (fun y hy => Hsm2.out y (hp.mem_iff.1 hy))
          obtain ⟨oa2, c2, e, _, hyc⟩ := hex
          simp only [Value.slice.injEq] at e
          obtain ⟨rfl, e2, rfl⟩ := e
          have Hyc := Lib.hid hyc
          have Hb2 := Lib.hid hb2
          clear hyc hb2 hs hp
          subst e2
          go_wp2
          have Hbw := Lib.hid (Hbel.out.trans Hb2.out)
          have hl2 : ys.length ≤ 2000 := hl2
          go_loopw [10] (fun i wr => ∃ k : Nat, i = .int .i64 ((k : Int) + 1) ∧ EndUp ys k ∧ (k = 0 ∨ k < ys.length) ∧ Below w2.heap.size w2 wr) (fun i _ => ys.length - (intOf i).toNat)
          case atStart => exact ⟨0, rfl, fun j _ h => absurd h (Nat.not_lt_zero _), .inl rfl, Below.refl _ _⟩
          case round =>
            obtain ⟨k, rfl, hend, hkl, hbel⟩ := hrel
            have Hend2 := Lib.hid hend
            have Hbel2 := Lib.hid hbel
            by_cases hlt : k + 1 < ys.length
            · obtain ⟨b, off, rfl, hb, c1, c2⟩ := Hyc.out k (by omega)
              obtain ⟨b', off', e, -, d1, d2⟩ := Hyc.out (k + 1) hlt
              simp only [Option.some.injEq, Addr.mk.injEq, and_true] at e
              obtain ⟨rfl, rfl⟩ := e
              have c1 := cell_below hbel hb c1
              have c2 := cell_below hbel hb c2
              have d1 := cell_below hbel hb d1
              have s1 := Hsy.out (ys[k]'(by omega)) (List.getElem_mem _)
              have s2 := Hsy.out ys[k + 1] (List.getElem_mem _)
              have Hn : Hid ((ys[k]'(by omega)).1 + (ys[k]'(by omega)).2 ≤ ys[k + 1].1 → EndUp ys (k + 1)) := Lib.hid (fun h j hj hjk => by
                by_cases e : j = k
                · subst e; exact h
                · exact Hend2.out j hj (by omega))
              have Hno : Hid (¬ (ys[k]'(by omega)).1 + (ys[k]'(by omega)).2 ≤ ys[k + 1].1 → rightB l first blocks = false) := Lib.hid (fun h => by
                rw [← Bool.not_eq_true]; exact fun h2 => h (Hendp.out.1 h2 k hlt))
              clear hend hkl hbel
              generalize (ys[k]'(by omega)) = x at *
              generalize ys[k + 1] = y at *
              obtain ⟨x1, x2⟩ := x
              obtain ⟨y1, y2⟩ := y
              unfold smallE at s1 s2
              simp only at c1 c2 d1 s1 s2 Hn Hno
              have z3 : (0 : Int) ≤ (k : Int) + 1 := by omega
              have z5 : (k : Int) < (ys.length : Int) := by omega
              have z6 : (k : Int) + 1 < (ys.length : Int) := by omega
              have z7 : k < ys.length := by omega
              have z4 : ((k : Int) + 1).toNat = k + 1 := by omega
              have z2 : IntKind.i64.wrap (k : Int) = (k : Int) := IntWalk.i64_in _ (by omega)
              have z1 : IntKind.i64.wrap ((k : Int) + 1 - 1) = (k : Int) := by rw [show (k : Int) + 1 - 1 = (k : Int) by omega]; exact IntWalk.i64_in _ (by omega)
              have z8 : IntKind.i64.wrap (x1 + x2) = x1 + x2 := IntWalk.i64_in _ (by omega)
              by_cases hle : x1 + x2 ≤ y1
              · have Hnx := Lib.hid (Hn.out hle)
                have hgt : ¬ x1 + x2 > y1 := by omega
                go_wp2
                go_quiet (fail)
                go_wp2
                go_roundw
                case rel => exact ⟨k + 1, by go_num, Hnx.out, .inr hlt, below_drewN Hbel2.out _⟩
                case measure => simp [intOf]; omega
              · have Hf := Lib.hid (Hno.out hle)
                have hgt : x1 + x2 > y1 := by omega
                go_wp2
                go_quiet (fail)
                go_wp2
                go_ret
                exact ⟨by rw [Hf.out]; rfl, step_call Hbw.out (below_drewN Hbel2.out _)⟩
            · have Hf := Lib.hid (Hendp.out.2 (fun i hi => Hend2.out i hi (by omega)))
              have z6 : ¬ (k : Int) + 1 < (ys.length : Int) := by omega
              clear hend hbel
              have hk0 : (k : Int) < 9223372036854775807 := by omega
              clear hkl
              go_wp2
              go_ret
              exact ⟨by rw [Hf.out]; rfl, step_call Hbw.out Hbel2.out⟩
end Go.Proofs.YteemloillnfaeaaDoor
