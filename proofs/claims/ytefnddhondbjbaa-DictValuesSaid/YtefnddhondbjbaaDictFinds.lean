/- The law's 'finds' of chapter 13: at a packed list it answers true. Conditions: the list is right, of at most 300 entries. -/
import Derived.Test.YtefnddhondbjbaaDictAs
namespace Go.Proofs.Ytefnddhondbjbaa
open Go.RowKit Go.Wir Go.Dic

/-- What the loop has counted behind i entries. -/
def FindRel (l : List Ent) (T : List UInt8) (i kk : Nat) (isb : Bool) : Prop := kk = ((l.take i).filter (fun e => T.isPrefixOf e.1)).length ∧ isb = (l.take i).any (fun e => e.1 == T)
theorem FindRel.next {l : List Ent} {T : List UInt8} {i kk : Nat} {isb : Bool} (h : FindRel l T i kk isb) (hi : i < l.length) : FindRel l T (i + 1) (kk + if T.isPrefixOf l[i].1 then 1 else 0) (isb || l[i].1 == T) := by
  unfold FindRel at *
  rw [filter_take _ l i hi, any_take _ l i hi, h.1, h.2]
  exact ⟨rfl, rfl⟩
theorem FindRel.stop {l : List Ent} {T : List UInt8} {kk : Nat} {isb : Bool} (h : FindRel l T l.length kk isb) : kk = (l.filter (fun e => T.isPrefixOf e.1)).length ∧ isb = l.any (fun e => e.1 == T) := by
  unfold FindRel at h
  rw [List.take_length] at h
  exact h
theorem FindRel.cells {l : List Ent} {T : List UInt8} {i kk : Nat} {isb : Bool} (h : FindRel l T i kk isb) (hi : i < l.length) {w : World} {v : Value} (hv : Ents w v (l.filter (fun e => T.isPrefixOf e.1))) (hp : T.isPrefixOf l[i].1 = true) :
    ∃ b off cap, v = .slice (some ⟨b, off, none⟩) (l.filter (fun e => T.isPrefixOf e.1)).length cap ∧ b < w.heap.size ∧ kk < (l.filter (fun e => T.isPrefixOf e.1)).length ∧ w.cell? ⟨b, off + kk * 2, none⟩ = some (.string (B l[i].1)) ∧ w.cell? ⟨b, off + kk * 2 + 1, none⟩ = some (.string (B l[i].2)) := by
  obtain ⟨rfl, _⟩ := h
  obtain ⟨hk1, hk2⟩ := filter_at (fun e => T.isPrefixOf e.1) l i hi hp
  obtain ⟨b, off, cap, rfl, hb, hc⟩ := ents_row hv (by omega)
  have := hc _ hk1
  rw [hk2] at this
  exact ⟨b, off, cap, rfl, hb, hk1, this⟩
set_option maxRecDepth 100000 in
set_option maxHeartbeats 1600000 in
theorem law_finds (l : List Ent) (h : right l = true) (hl : l.length ≤ 300) (t : ByteArray) (ht : t.size ≤ 9223372036854775807) (v : Value) (w : World) (hv : Ents w v l) :
    Calls Try.prog 15 #[.string (B (bytesL l)), v, .string t] w fun e w' => e = .returned (.bool true) ∧ Below w.heap.size w w' := by
  have Hg := Lib.hid (dict_Get_at l h hl t)
  have Hp := Lib.hid (dict_Prefix_at l h hl t)
  have Hsort := Lib.hid (right_sorted h)
  have Hsm := Lib.hid (right_small h).1
  have Hv := Lib.hid hv
  obtain ⟨oa, c, rfl⟩ : ∃ oa c, v = .slice oa l.length c := by
    rcases hv with ⟨a, cap, rfl, h⟩ | ⟨b, off, cap, rfl, _⟩
    · exact ⟨a, cap, by rw [h]; rfl⟩
    · exact ⟨_, _, rfl⟩
  clear h hv
  have Hany := Lib.hid (find_any l (L t))
  generalize hT : L t = T at *
  have HT := Lib.hid hT
  clear hT
  generalize hF : findE l T = F at *
  have HF := Lib.hid hF
  clear hF
  generalize hbs : B (bytesL l) = bs at *
  clear hbs
  go_enter Try.func15, Try.ntmps15
  go_wp2_with fail
  refine (Hg.out _).mono ?_
  rintro e w1 ⟨rfl, b1⟩
  have B1 := Lib.hid b1
  clear b1
  go_wp2_with fail
  refine (Hp.out _).mono ?_
  rintro e w2 ⟨b2, vp, rfl, hvp⟩
  have B2 := Lib.hid (step_call B1.out b2)
  have Hv2 := Lib.hid (Hv.out.below B2.out)
  have Hvp := Lib.hid hvp
  obtain ⟨op, cp, rfl⟩ : ∃ oa c, vp = .slice oa (l.filter (fun e => T.isPrefixOf e.1)).length c := by
    rcases hvp with ⟨a, cap, rfl, h⟩ | ⟨b, off, cap, rfl, _⟩
    · exact ⟨a, cap, by rw [h]; rfl⟩
    · exact ⟨_, _, rfl⟩
  clear b2 hvp
  generalize hpl : (l.filter (fun e => T.isPrefixOf e.1)).length = np at *
  have Hpl := Lib.hid hpl
  clear hpl
  go_wp2
  go_loopw [10, 11, 12] (fun k b i wr => ∃ (j kk : Nat) (isb : Bool), j ≤ l.length ∧ i = .int .i64 j ∧ k = .int .i64 kk ∧ b = .bool isb ∧ kk ≤ j ∧ FindRel l T j kk isb ∧ Below w2.heap.size w2 wr) (fun _ _ i _ => l.length - (intOf i).toNat)
  case atStart => exact ⟨0, 0, false, by omega, rfl, rfl, rfl, by omega, by simp [FindRel], Below.refl _ _⟩
  case round =>
    obtain ⟨j, kk, isb, hj, rfl, rfl, rfl, hkj, hrel1, hbel⟩ := hrel
    by_cases hlt : j < l.length
    · obtain ⟨b, off, cap, h0, hbl, hcell⟩ := ents_row Hv2.out (by omega)
      simp only [Value.slice.injEq] at h0
      obtain ⟨rfl, _, rfl⟩ := h0
      obtain ⟨c1, c2⟩ := hcell j hlt
      have c1 := cell_below hbel hbl c1
      have c2 := cell_below hbel hbl c2
      have Hnext := Lib.hid (hrel1.next hlt)
      have Hfs := Lib.hid (find_sorted Hsort.out (List.getElem_mem hlt))
      have hsmj := Hsm.out l[j] (List.getElem_mem hlt)
      have Hfa := Lib.hid (fun hp => hrel1.cells hlt Hvp.out hp)
      rw [Hpl.out] at Hfa
      have Hbel := Lib.hid hbel
      clear hrel1 hcell
      generalize l[j] = e at *
      obtain ⟨x, y⟩ := e
      unfold small at hsmj
      simp only at c1 c2 hsmj Hnext Hfs
      have hj1 : (j : Int) < (l.length : Int) := by omega
      have hx := size_B x
      have Hbg : Hid (∀ w, Calls Try.prog 18 #[.string (B x), .string t] w fun e w' => e = .returned (.bool (T.isPrefixOf x)) ∧ w = w') := Lib.hid (by
        intro w
        have := law_begins (B x) t (by omega) ht w
        rw [HT.out, L_B] at this
        exact this)
      cases hp : T.isPrefixOf x with
      | true =>
        obtain ⟨b2, off2, cap2, h0, hbl2, hk1, c3, c4⟩ := Hfa.out hp
        simp only [Value.slice.injEq] at h0
        obtain ⟨rfl, _, rfl⟩ := h0
        have c3 := cell_below hbel hbl2 c3
        have c4 := cell_below hbel hbl2 c4
        have hk2 : (kk : Int) < (np : Int) := by omega
        have e1 : ((B x).toList != (B x).toList) = false := by simp
        have e2 : ((B y).toList != (B y).toList) = false := by simp
        have e3 : ((B x).toList == (B x).toList) = true := by simp
        have e4 : ((B y).toList == (B y).toList) = true := by simp
        rw [hp, if_pos rfl] at Hnext
        rw [hp] at Hbg
        clear hp hbel
        by_cases hxT : x = T
        · have hx1 : ((B x).toList == t.toList) = true := by rw [toList_B, toList_L, HT.out]; simpa using hxT
          have hFy : fV F = y := by rw [← HF.out, ← hxT, Hfs.out]; rfl
          have e5 : ((B (fV F)).toList != (B y).toList) = false := by rw [hFy]; simp
          have e6 : ((B (fV F)).toList == (B y).toList) = true := by rw [hFy]; simp
          rw [show (x == T) = true by simpa using hxT, Bool.or_true] at Hnext
          clear hxT hFy
          go_wp2_with fail
          refine (Hbg.out _).mono ?_
          rintro e w4 ⟨rfl, rfl⟩
          go_wp2
          go_quiet (fail)
          go_wp2
          go_roundw
          case rel => exact ⟨j + 1, kk + 1, true, by omega, by go_num, by go_num, rfl, by omega, Hnext.out, below_drewN Hbel.out _⟩
          case measure => simp [intOf]; omega
        · have hxT : (x == T) = false := by simpa using hxT
          have hx1 : ((B x).toList == t.toList) = false := by rw [toList_B, toList_L, HT.out]; exact hxT
          rw [hxT, Bool.or_false] at Hnext
          clear hxT
          go_wp2_with fail
          refine (Hbg.out _).mono ?_
          rintro e w4 ⟨rfl, rfl⟩
          go_wp2
          go_quiet (fail)
          go_wp2
          go_roundw
          case rel => exact ⟨j + 1, kk + 1, isb, by omega, by go_num, by go_num, rfl, by omega, Hnext.out, below_drewN Hbel.out _⟩
          case measure => simp [intOf]; omega
      | false =>
        have hxT : (x == T) = false := by
          rw [beq_eq_false_iff_ne]
          rintro rfl
          rw [← Bool.not_eq_true, List.isPrefixOf_iff_prefix] at hp
          exact hp (List.prefix_refl _)
        have hx1 : ((B x).toList == t.toList) = false := by rw [toList_B, toList_L, HT.out]; exact hxT
        rw [hxT, hp, Bool.or_false, if_neg (by simp), Nat.add_zero] at Hnext
        rw [hp] at Hbg
        clear hxT hp hbel
        go_wp2_with fail
        refine (Hbg.out _).mono ?_
        rintro e w4 ⟨rfl, rfl⟩
        go_wp2
        go_roundw
        case rel => exact ⟨j + 1, kk, isb, by omega, by go_num, rfl, rfl, by omega, Hnext.out, Hbel.out⟩
        case measure => simp [intOf]; omega
    · obtain rfl : j = l.length := by omega
      obtain ⟨h1, h2⟩ := hrel1.stop
      rw [Hpl.out] at h1
      rw [← Hany.out] at h2
      subst h1 h2
      have hk : ((kk : Int) == (kk : Int)) = true := by simp
      clear hrel1
      cases F with
      | none =>
        have e1 : (B (fV none)).toList.isEmpty = true := by rw [toList_B]; rfl
        go_wp2
        go_ret
        exact ⟨rfl, step_call B2.out hbel⟩
      | some f =>
        go_wp2
        go_ret
        exact ⟨rfl, step_call B2.out hbel⟩
end Go.Proofs.Ytefnddhondbjbaa
