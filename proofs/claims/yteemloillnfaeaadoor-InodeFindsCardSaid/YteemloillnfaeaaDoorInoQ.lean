/- Chapter 8: the statements' own helpers: codexlaw8.as, same, pick. Conditions: what the files hold fits an int; so does the list's length. -/
import Derived.Test.YteemloillnfaeaaDoorInoP
namespace Go.Proofs.YteemloillnfaeaaDoor
open Go.RowKit Go.Wir Go.Ino
attribute [local go_sem] Oper.semAt_some

def asB (l : List Fil) : Bool := decide (l.length ≤ 100) && l.all fun f => decide (f.name.length ≤ 200) && decide (f.ext.length ≤ 40)
theorem asB_few {l : List Fil} (h : asB l = true) : l.length ≤ 100 ∧ ∀ f ∈ l, f.name.length ≤ 200 ∧ f.ext.length ≤ 40 := by
  unfold asB at h
  simp only [Bool.and_eq_true, decide_eq_true_eq, List.all_eq_true] at h
  exact h
theorem asB_long {l : List Fil} (h : 100 < l.length) : asB l = false := by
  unfold asB; rw [decide_eq_false (by omega)]; rfl
theorem asB_big {l : List Fil} {f : Fil} (hf : f ∈ l) (h : 200 < f.name.length ∨ 40 < f.ext.length) : asB l = false := by
  rw [← Bool.not_eq_true]
  intro h2
  have := (asB_few h2).2 f hf
  omega
theorem asB_all {l : List Fil} (h1 : l.length ≤ 100) (h : ∀ f ∈ l, f.name.length ≤ 200 ∧ f.ext.length ≤ 40) : asB l = true := by
  unfold asB
  rw [decide_eq_true h1, Bool.true_and, List.all_eq_true]
  intro f hf
  rw [decide_eq_true (h f hf).1, decide_eq_true (h f hf).2]; rfl
def AsPost (w : World) (l : List Fil) (e : Ending) (w' : World) : Prop := Below w.heap.size w w' ∧ ∃ v, e = .returned (.tuple #[v, .bool (asB l)]) ∧ (asB l = true → Files w' v l) ∧ (asB l = false → v = .slice none 0 0)
set_option maxRecDepth 100000 in
set_option maxHeartbeats 3200000 in
theorem law_as (v : Value) (l : List Fil) (hn : l.length ≤ 9223372036854775807) (hfit : ∀ f ∈ l, FitF f) (w : World) (hv : Files w v l) :
    Calls Tryd.prog 11 #[v] w (AsPost w l) := by
  obtain ⟨oa, c, rfl, _, hcell⟩ := hv
  have Hcell := Lib.hid hcell
  have Hfit := Lib.hid hfit
  obtain ⟨i0, hi, hz0, hz1, hz2⟩ := info_parts (show (Tryd.prog.info? 58).map (fun i => (i.zero, i.size, i.bytes)) = some (some (.agg #[.string ⟨#[]⟩, .bool false, .int .i64 0, .slice none 0 0]), 4, 56) by kernel_rfl)
  clear hcell hfit
  by_cases h64 : 100 < l.length
  · have k1 : (l.length : Int) > 100 := by omega
    have Hf := Lib.hid (asB_long h64)
    clear h64
    go_enter Tryd.func11, Tryd.ntmps11
    go_wp2
    go_ret2
    exact ⟨Below.refl _ _, .slice none 0 0, by rw [Hf.out]; rfl, fun h => (by rw [Hf.out] at h; cases h), fun _ => rfl⟩
  · have k1 : ¬ (l.length : Int) > 100 := by omega
    have h64 : l.length ≤ 100 := by omega
    go_enter Tryd.func11, Tryd.ntmps11
    go_wp2
    go_loopw [4, 5] (fun v i wr => ∃ (k : Nat) (ps : List FV), k ≤ l.length ∧ i = .int .i64 k ∧ ps.length = k ∧ wr.ownsRow w.heap.size 58 4 v k (filCells ps) ∧ ps.map Prod.fst = l.take k ∧ (∀ p ∈ ps, Exts w p.2 p.1.ext) ∧ (∀ f ∈ l.take k, f.name.length ≤ 200 ∧ f.ext.length ≤ 40) ∧ Below w.heap.size w wr) (fun _ i _ => l.length - (intOf i).toNat)
    case atStart => exact ⟨0, [], by omega, rfl, rfl, World.ownsRow_nil _ _ _ _, rfl, fun _ h => (by cases h), fun _ h => by simp at h, Below.refl _ _⟩
    case round =>
      obtain ⟨k, ps, hk, rfl, hpl, hown, hps, hex, hsm, hbel⟩ := hrel
      have Hown := Lib.hid hown
      have Hps := Lib.hid hps
      have Hex := Lib.hid hex
      have Hsm := Lib.hid hsm
      have Hbel := Lib.hid hbel
      have Hl := Lib.hid hown.lt
      have Hpl := Lib.hid hpl
      have hwz := hbel.size
      by_cases hlt : k < l.length
      · obtain ⟨b, off, ve, rfl, hb, c1, c2, c3, c4, hxe⟩ := Hcell.out k hlt
        have c1 := cell_below hbel hb c1
        have c2 := cell_below hbel hb c2
        have c3 := cell_below hbel hb c3
        have c4 := cell_below hbel hb c4
        have hf := Hfit.out l[k] (List.getElem_mem hlt)
        have Hbig := Lib.hid (fun h => asB_big (List.getElem_mem hlt) h)
        have hki : (k : Int) < (l.length : Int) := by omega
        obtain ⟨ob, oc, rfl, -⟩ := hxe.form
        have Hxe := Lib.hid hxe
        have Htk : Hid (l.take (k + 1) = l.take k ++ [l[k]]) := Lib.hid (List.take_succ_eq_append_getElem hlt)
        clear hown hps hex hsm hbel hxe hpl
        generalize l[k] = f at *
        obtain ⟨nm, sh, sz, xs⟩ := f
        obtain ⟨f1, f2, f3, f4, -⟩ := hf
        simp only at c1 c2 c3 c4 f1 f2 f3 f4 Hbig Hxe
        have hnm := size_B nm
        by_cases h1 : 200 < nm.length
        · have Hf := Lib.hid (Hbig.out (.inl h1))
          have k3 : ((B nm).size : Int) > 200 := by omega
          clear hnm
          go_wp2
          go_ret2
          exact ⟨Hbel.out, .slice none 0 0, by rw [Hf.out]; rfl, fun h => (by rw [Hf.out] at h; cases h), fun _ => rfl⟩
        by_cases h2 : 40 < xs.length
        · have Hf := Lib.hid (Hbig.out (.inr h2))
          have k3 : ¬ ((B nm).size : Int) > 200 := by omega
          have k4 : (xs.length : Int) > 40 := by omega
          clear hnm
          go_wp2
          go_ret2
          exact ⟨Hbel.out, .slice none 0 0, by rw [Hf.out]; rfl, fun h => (by rw [Hf.out] at h; cases h), fun _ => rfl⟩
        have k3 : ¬ ((B nm).size : Int) > 200 := by omega
        have k4 : ¬ (xs.length : Int) > 40 := by omega
        have ag : Value.ownBlock u4 ≠ some b := fun h => by have := (Hl.out _ h).1; omega
        have lb : b < wr.heap.size := by omega
        clear hnm
        go_wp2
        go_region_held3 (fun w' => w'.cell? ⟨b, off + k * 4, none⟩ = some (.string (B nm)) ∧ w'.cell? ⟨b, off + k * 4 + 1, none⟩ = some (.bool sh) ∧ w'.cell? ⟨b, off + k * 4 + 2, none⟩ = some (.int .i64 sz) ∧ w'.cell? ⟨b, off + k * 4 + 3, none⟩ = some (.slice ob xs.length oc))
          (first
            | go_keep
            | (refine ⟨?_, ?_, ?_, ?_⟩ <;> assumption)
            | (go_split_ands
               refine ⟨?_, ?_, ?_, ?_⟩
               · (rw [hgrow.cell_far _ (by simp; omega) (Ne.symm ag)]; assumption)
               · (rw [hgrow.cell_far _ (by simp; omega) (Ne.symm ag)]; assumption)
               · (rw [hgrow.cell_far _ (by simp; omega) (Ne.symm ag)]; assumption)
               · (rw [hgrow.cell_far _ (by simp; omega) (Ne.symm ag)]; assumption)))
          ((refine step_append_lies _ (by rfl) _ _ _ (by rfl) w.heap.size 58 i0 _ 4 56 Tryd.underlying24 hi hz0 hz1 hz2 rfl (by omega) u4 k (filCells ps) (by rfl) ((Hown.out.alloc _).drew)
              ⟨wr.heap.size, 0, none⟩ 1 1 [.string (B nm), .bool sh, .int .i64 sz, .slice ob xs.length oc] (by rfl) (by rfl) (World.news_of_block (cs := #[.string (B nm), .bool sh, .int .i64 sz, .slice ob xs.length oc]) (t := 58) (fr := (0, 0)) (heap_alloc_new wr _)) (by simp [Value.oneCell'])
              (by omega) (by unfold maxLen; omega) (by omega) (by simp; omega) (wr.heap.size + 1) (by simp) ?_; intro gg cap w1 hown1 hgrow hat hlt1))
        have Hb6 : Hid (Below w.heap.size w w1) := Lib.hid ((step_new Hbel.out (.cells #[.string (B nm), .bool sh, .int .i64 sz, .slice ob xs.length oc] 58)).drew.grown hgrow (by simp; omega) (fun k hk => (Hl.out k hk).1))
        have Hown1 := Lib.hid hown1
        have Hps1 : Hid ((ps ++ [((⟨nm, sh, sz, xs⟩, .slice ob xs.length oc) : FV)]).map Prod.fst = l.take (k + 1)) := Lib.hid (by rw [Htk.out, List.map_append, Hps.out]; rfl)
        have Hex1 : Hid (∀ p ∈ ps ++ [((⟨nm, sh, sz, xs⟩, .slice ob xs.length oc) : FV)], Exts w p.2 p.1.ext) := Lib.hid (fun p hp => by
          rcases List.mem_append.1 hp with hp | hp
          · exact Hex.out p hp
          · simp at hp; subst hp; exact Hxe.out)
        have Hsm1 : Hid (∀ f ∈ l.take (k + 1), f.name.length ≤ 200 ∧ f.ext.length ≤ 40) := Lib.hid (fun f hf => by
          rw [Htk.out] at hf
          rcases List.mem_append.1 hf with hf | hf
          · exact Hsm.out f hf
          · simp at hf; subst hf; exact ⟨by simp only; omega, by simp only; omega⟩)
        have Hpl1 : Hid ((ps ++ [((⟨nm, sh, sz, xs⟩, .slice ob xs.length oc) : FV)]).length = k + 1) := Lib.hid (by rw [List.length_append, Hpl.out]; rfl)
        clear hown1 hgrow hat
        go_wp2
        go_roundw
        case rel => exact ⟨k + 1, _, by omega, by go_num, Hpl1.out, by rw [filCells_append]; exact Hown1.out, Hps1.out, Hex1.out, Hsm1.out, Hb6.out⟩
        case measure => simp [intOf]; omega
      · obtain rfl : k = l.length := by omega
        have HA : Hid (asB l = true) := Lib.hid (asB_all h64 (by rw [List.take_length] at hsm; exact hsm))
        have HFi : Hid (Files wr u4 l) := Lib.hid (by
          have h1 := own_files (w := wr) (ps := ps) (v := u4) (by rw [hpl]; exact hown) (fun p hp => (hex p hp).below hbel)
          rw [hps, List.take_length] at h1; exact h1)
        clear hown hps hex hsm hpl
        go_wp2
        go_ret2
        exact ⟨hbel, u4, by rw [HA.out]; rfl, fun _ => HFi.out, fun h => (by rw [HA.out] at h; cases h)⟩
end Go.Proofs.YteemloillnfaeaaDoor
