/- Chapter 8: names that rise: inode's rising, name. Condition: the list's length fits an int. -/
import Derived.Test.YteemloillnfaeaaDoorInoB
import Derived.Sort.Walk0
namespace Go.Proofs.YteemloillnfaeaaDoor
open Go.RowKit Go.Ino
attribute [local go_sem] Oper.semAt_some

def AdjUp (l : List Fil) (k : Nat) : Prop := ∀ j (h : j + 1 < l.length), j < k → (l[j]'(by omega)).name < l[j + 1].name
theorem AdjUp.all {l : List Fil} {k : Nat} (h : AdjUp l k) (hk : l.length ≤ k + 1) : riseB l = true := by
  unfold riseB
  exact decide_eq_true (rise_all fun i hi => h i hi (by omega))
theorem AdjUp.next {l : List Fil} {k : Nat} (h : AdjUp l k) (hk : k + 1 < l.length) (hn : (l[k]'(by omega)).name < l[k + 1].name) : AdjUp l (k + 1) := by
  intro j hj hjk
  by_cases e : j = k
  · subst e; exact hn
  · exact h j hj (by omega)
theorem rise_not {l : List Fil} {k : Nat} (hk : k + 1 < l.length) (hn : ¬ (l[k]'(by omega)).name < l[k + 1].name) : riseB l = false := by
  unfold riseB
  refine decide_eq_false fun h => hn ?_
  exact List.pairwise_iff_getElem.1 h k (k + 1) (by omega) hk (by omega)
theorem less_B' (x t : Tx) : Op.bytesLess (B x).toList (B t).toList = decide (x < t) := by rw [toList_B, toList_B, Go.Proofs.bytesLess_eq]
theorem inode_name (s : ByteArray) (x1 x2 x3 : Value) (w : World) : Calls Tryd.prog 38 #[.agg #[.string s, x1, x2, x3]] w fun e w' => e = .returned (.string s) ∧ Below w.heap.size w w' := by
  go_enter Tryd.func38, Tryd.ntmps38
  go_wp2
  go_ret
  exact ⟨rfl, step_new (Below.refl _ _) _⟩
set_option maxRecDepth 100000 in
set_option maxHeartbeats 3200000 in
theorem inode_rising (v : Value) (l : List Fil) (hn : l.length ≤ 9223372036854775807) (w : World) (hv : Files w v l) :
    Calls Tryd.prog 37 #[v, .func (.func 38) #[] #[]] w fun e w' => e = .returned (.bool (riseB l)) ∧ Below w.heap.size w w' := by
  obtain ⟨oa, c, rfl, _, hcell⟩ := hv
  have Hcell := Lib.hid hcell
  clear hcell
  go_enter Tryd.func37, Tryd.ntmps37
  go_wp2
  go_loopw [5] (fun i wr => ∃ k : Nat, i = .int .i64 ((k : Int) + 1) ∧ AdjUp l k ∧ (k = 0 ∨ k < l.length) ∧ Below w.heap.size w wr) (fun i _ => l.length - (intOf i).toNat)
  case atStart => exact ⟨0, rfl, fun j _ h => absurd h (Nat.not_lt_zero _), .inl rfl, Below.refl _ _⟩
  case round =>
    obtain ⟨k, rfl, hadj, hkl, hbel⟩ := hrel
    have Hadj := Lib.hid hadj
    have Hbel := Lib.hid hbel
    by_cases hlt : k + 1 < l.length
    · obtain ⟨b, off, e1, rfl, hb, c1, c2, c3, c4, -⟩ := Hcell.out k (by omega)
      obtain ⟨b', off', e2, e, -, d1, d2, d3, d4, -⟩ := Hcell.out (k + 1) hlt
      simp only [Option.some.injEq, Addr.mk.injEq, and_true] at e
      obtain ⟨rfl, rfl⟩ := e
      have c1 := cell_below hbel hb c1
      have c2 := cell_below hbel hb c2
      have c3 := cell_below hbel hb c3
      have c4 := cell_below hbel hb c4
      have d1 := cell_below hbel hb d1
      have d2 := cell_below hbel hb d2
      have d3 := cell_below hbel hb d3
      have d4 := cell_below hbel hb d4
      have Hn := Lib.hid (fun h => Hadj.out.next hlt h)
      have Hno := Lib.hid (fun h => rise_not hlt h)
      have hls := less_B' (l[k]'(by omega)).name l[k + 1].name
      obtain ⟨bb, hbb⟩ : ∃ bb, decide ((l[k]'(by omega)).name < l[k + 1].name) = bb := ⟨_, rfl⟩
      rw [hbb] at hls
      have Hbb := Lib.hid hbb
      clear hadj hkl hbel hbb
      generalize (l[k]'(by omega)) = x at *
      generalize l[k + 1] = y at *
      have z3 : (0 : Int) ≤ (k : Int) + 1 := by omega
      have z5 : (k : Int) < (l.length : Int) := by omega
      have z6 : (k : Int) + 1 < (l.length : Int) := by omega
      have z7 : k < l.length := by omega
      have z4 : ((k : Int) + 1).toNat = k + 1 := by omega
      have z2 : IntKind.i64.wrap (k : Int) = (k : Int) := IntWalk.i64_in _ (by omega)
      have z1 : IntKind.i64.wrap ((k : Int) + 1 - 1) = (k : Int) := by rw [show (k : Int) + 1 - 1 = (k : Int) by omega]; exact IntWalk.i64_in _ (by omega)
      go_wp2
      go_region_held3 (fun w' => Below wr.heap.size wr w' ∧ w'.cell? ⟨b, off + k * 4, none⟩ = some (.string (B x.name)) ∧ w'.cell? ⟨b, off + k * 4 + 1, none⟩ = some (.bool x.shut) ∧ w'.cell? ⟨b, off + k * 4 + 2, none⟩ = some (.int .i64 x.size) ∧ w'.cell? ⟨b, off + k * 4 + 3, none⟩ = some e1 ∧
          w'.cell? ⟨b, off + (k + 1) * 4, none⟩ = some (.string (B y.name)) ∧ w'.cell? ⟨b, off + (k + 1) * 4 + 1, none⟩ = some (.bool y.shut) ∧ w'.cell? ⟨b, off + (k + 1) * 4 + 2, none⟩ = some (.int .i64 y.size) ∧ w'.cell? ⟨b, off + (k + 1) * 4 + 3, none⟩ = some e2)
        (first
          | assumption
          | exact ⟨below_drew wr, c1, c2, c3, c4, d1, d2, d3, d4⟩
          | (go_split_ands; refine ⟨?_, ?_, ?_, ?_, ?_, ?_, ?_, ?_, ?_⟩ <;> first | exact step_call (by assumption) hb1 | exact cell_call hb1 (by assumption)))
        (first | (go_at_call 38; refine (inode_name _ _ _ _ _).mono ?_; rintro e w5 ⟨rfl, hb1⟩) | fail)
      all_goals
        clear z1 z2 z4
        cases bb
        · have Hf := Lib.hid (Hno.out (of_decide_eq_false Hbb.out))
          go_wp2
          go_ret
          exact ⟨by rw [Hf.out]; rfl, step_call Hbel.out (by go_split_ands; assumption)⟩
        · have Hnx := Lib.hid (Hn.out (of_decide_eq_true Hbb.out))
          go_wp2
          go_roundw
          case rel => exact ⟨k + 1, by go_num, Hnx.out, .inr hlt, step_call Hbel.out (by go_split_ands; assumption)⟩
          case measure => simp [intOf]; omega
    · have Hf := Lib.hid (Hadj.out.all (by omega))
      have z6 : ¬ (k : Int) + 1 < (l.length : Int) := by omega
      clear hadj hbel
      have hk0 : (k : Int) < 9223372036854775807 := by omega
      clear hkl
      go_wp2
      go_ret
      exact ⟨by rw [Hf.out]; rfl, Hbel.out⟩
end Go.Proofs.YteemloillnfaeaaDoor
