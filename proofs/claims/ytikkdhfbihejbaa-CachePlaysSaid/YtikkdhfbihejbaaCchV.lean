/- Chapter 6: codexref6's room. Condition: at most 100000 blocks. -/
import Derived.Test.YtikkdhfbihejbaaCchU
namespace Go.Cch
theorem less_at {l : List Kd} (hn : (l.map Kd.pos).Nodup) {k : Nat} (hk : k < l.length) : less l l[k].pos = l.take k ++ l.drop (k + 1) := by
  have hsplit : l = l.take k ++ l[k] :: l.drop (k + 1) := by rw [← List.drop_eq_getElem_cons hk, List.take_append_drop]
  generalize l[k] = x at *
  generalize l.take k = a at *
  generalize l.drop (k + 1) = b at *
  subst hsplit
  rw [List.map_append, List.map_cons, List.nodup_append] at hn
  obtain ⟨_, h2, h3⟩ := hn
  rw [List.nodup_cons] at h2
  unfold less
  have hx : x.is x.pos = true := is_iff.2 rfl
  rw [List.filter_append, List.filter_cons, hx]
  have ha : a.filter (fun y => !(y.is x.pos)) = a := by
    rw [List.filter_eq_self]
    intro y hy
    have : y.is x.pos = false := by
      rw [← Bool.not_eq_true, is_iff]
      exact h3 _ (List.mem_map.2 ⟨y, hy, rfl⟩) _ (List.mem_cons_self)
    rw [this]; rfl
  have hb : b.filter (fun y => !(y.is x.pos)) = b := by
    rw [List.filter_eq_self]
    intro y hy
    have : y.is x.pos = false := by
      rw [← Bool.not_eq_true, is_iff]
      exact fun e => h2.1 (by rw [← e]; exact List.mem_map.2 ⟨y, hy, rfl⟩)
    rw [this]; rfl
  rw [ha, hb]
  rfl
theorem last_free {l : List Kd} {k : Nat} (hk : k < l.length) (hf : l[k].free = true) (h : ∀ j (hj : j < l.length), k < j → l[j].free = false) : l.reverse.find? Kd.free = some l[k] := by
  have hsplit : l.reverse = (l.drop (k + 1)).reverse ++ l[k] :: (l.take k).reverse := by
    have : l = l.take k ++ l[k] :: l.drop (k + 1) := by rw [← List.drop_eq_getElem_cons hk, List.take_append_drop]
    conv => lhs; rw [this]
    simp
  rw [hsplit, List.find?_append]
  have h1 : (l.drop (k + 1)).reverse.find? Kd.free = none := by
    rw [List.find?_eq_none]
    intro x hx
    rw [List.mem_reverse] at hx
    obtain ⟨j, hj, rfl⟩ := List.mem_iff_getElem.1 hx
    rw [List.length_drop] at hj
    rw [List.getElem_drop, h (k + 1 + j) (by omega) (by omega)]
    simp
  rw [h1, List.find?_cons_of_pos hf]
  rfl
theorem no_free {l : List Kd} (h : ∀ j (hj : j < l.length), l[j].free = false) : l.reverse.find? Kd.free = none := by
  rw [List.find?_eq_none]
  intro x hx
  rw [List.mem_reverse] at hx
  obtain ⟨j, hj, rfl⟩ := List.mem_iff_getElem.1 hx
  rw [h j hj]; simp
end Go.Cch
namespace Go.Proofs.Ytikkdhfbihejbaa
open Go.RowKit Go.Cch
attribute [local go_sem] Oper.semAt_some
theorem found_cases {l : List Kd} (hn : (l.map Kd.pos).Nodup) {i z : Int} (h : FoundAt l i z) : (∃ k : Nat, ∃ hk : k < l.length, z = (k : Int) ∧ l[k].pos = i ∧ findL l i = some l[k]) ∨ (z = -1 ∧ findL l i = none) := by
  rcases h with ⟨k, hk, rfl, hp, -⟩ | ⟨rfl, h⟩
  · refine .inl ⟨k, hk, rfl, hp, ?_⟩
    rw [← hp]
    exact find_self hn (List.getElem_mem hk)
  · refine .inr ⟨rfl, ?_⟩
    rw [find_none, ← Bool.not_eq_true, has_iff]
    rintro ⟨x, hx, e⟩
    exact h x hx e
theorem mutR_drewN {w w' : World} {K rb n : Nat} {v : Value} {c' : Ch} (h : MutR (w.drewN n) w' K rb v c') : MutR w w' K rb v c' := by
  obtain ⟨v', h1, h2, h3⟩ := h
  exact ⟨v', h1, h2, ⟨h3.os, h3.tape, h3.output, h3.size, h3.block⟩⟩
theorem mutR_same {w w' : World} {K rb : Nat} {v : Value} {c : Ch} (h : RAt w' K rb v c) (g : Chg (ownR rb v) w w') : MutR w w' K rb v c := ⟨v, h, fun _ hk => .inl hk, g⟩
theorem below_to_drewN {K : Nat} {w w' : World} (h : Below K w w') (n : Nat) : Below K w (w'.drewN n) := ⟨h.os, h.tape, h.output, h.size, h.block⟩
set_option maxRecDepth 100000 in
set_option maxHeartbeats 1600000 in
theorem ref_room {w : World} {K rb : Nat} {v : Value} {c : Ch} (h : RAt w K rb v c) (hc : c.Ok) (hK : K ≤ w.heap.size) (hm : c.most ≤ 100000) :
    Calls Try.prog 50 #[.pointer (some ⟨rb, 0, none⟩)] w fun e w' => e = .returned (.bool (roomL c).isSome) ∧ MutR w w' K rb v { c with l := (roomL c).getD c.l } := by
  have hl : c.l.length ≤ 100000 := Nat.le_trans hc.many hm
  obtain ⟨oa, cp, rfl⟩ := h.form
  obtain ⟨c0, c1, -, -, -⟩ := h.cells
  have H := Lib.hid h
  have Hc := Lib.hid hc
  have Hr := Lib.hid (show roomL c = if c.l.length < c.most then some c.l else (c.l.reverse.find? Kd.free).map fun x => less c.l x.pos from rfl)
  generalize roomL c = rl at *
  clear h hc
  go_enter Try.func50, Try.ntmps50
  go_wp2
  by_cases hroom : c.l.length < c.most
  · have hR : Hid (rl = some c.l) := Lib.hid (by rw [Hr.out, if_pos hroom])
    have hri : (c.l.length : Int) < (c.most : Int) := by omega
    clear Hr
    go_quiet (fail)
    go_wp2
    go_ret
    exact ⟨by rw [hR.out]; rfl, by rw [hR.out]; exact mutR_drewN (mutR_same (H.out.below (below_to_drewN (Below.refl _ _) _)) (Chg.refl _ _))⟩
  · have hR : Hid (rl = (c.l.reverse.find? Kd.free).map fun x => less c.l x.pos) := Lib.hid (by rw [Hr.out, if_neg hroom])
    have hri : ¬ (c.l.length : Int) < (c.most : Int) := by omega
    have H1 := Lib.hid (fun n => H.out.below (below_to_drewN (Below.refl w.heap.size w) n))
    clear Hr
    go_quiet (fail)
    go_wp2
    go_loop [3] (fun z => ∃ k : Nat, k ≤ c.l.length ∧ z = .int .i64 ((k : Int) - 1) ∧ ∀ j (hj : j < c.l.length), k ≤ j → c.l[j].free = false) (fun z => (intOf z + 1).toNat)
    case atStart => exact ⟨c.l.length, by omega, rfl, fun j hj h => by omega⟩
    case round =>
      obtain ⟨k, hk, rfl, hne⟩ := hrel
      have Hne := Lib.hid hne
      clear hne
      cases k with
      | zero =>
        have hR2 : Hid (rl = none) := Lib.hid (by rw [hR.out, no_free (fun j hj => Hne.out j hj (by omega))]; rfl)
        clear hR
        go_wp2
        go_ret
        exact ⟨by rw [hR2.out]; rfl, by rw [hR2.out]; exact mutR_drewN (mutR_same (H1.out _) (Chg.refl _ _))⟩
      | succ k =>
        rw [show ((k + 1 : Nat) : Int) - 1 = (k : Int) by omega]
        have hkl : k < c.l.length := by omega
        have hkp : (0 : Int) ≤ (k : Int) := by omega
        obtain ⟨g, rfl, -, e0, e1, e2, e3⟩ := H.out.at hkl
        have HT := Lib.hid (fun n => ref_take (H1.out n) hK k hkl hl)
        have hfd : c.l[k].free = (!c.l[k].dirty && decide (c.l[k].pins = 0)) := rfl
        have Hfd := Lib.hid hfd
        have Hnx : Hid (c.l[k].free = false → ∀ j (hj : j < c.l.length), k ≤ j → c.l[j].free = false) := Lib.hid (fun h j hj hkj => by
          by_cases e : j = k
          · subst e; exact h
          · exact Hne.out j hj (by omega))
        have Hyes : Hid (c.l[k].free = true → rl = some (c.l.take k ++ c.l.drop (k + 1))) := Lib.hid (fun h => by
          rw [hR.out, last_free hkl h (fun j hj hkj => Hne.out j hj (by omega))]
          show some (less c.l c.l[k].pos) = _
          rw [less_at Hc.out.apart hkl])
        clear hfd Hne hR e0 e1
        generalize c.l[k] = x at *
        cases hd : x.dirty with
        | true =>
          have Hnx2 := Lib.hid (Hnx.out (by rw [Hfd.out, hd]; rfl))
          rw [hd] at e2
          clear hd Hnx Hyes Hfd
          go_wp2
          go_round
          case rel => exact ⟨k, by omega, by go_num, Hnx2.out⟩
          case measure => simp [intOf]
        | false =>
          rw [hd] at e2
          by_cases hp : x.pins = 0
          · have Hy := Lib.hid (Hyes.out (by rw [Hfd.out, hd, hp]; rfl))
            rw [hp] at e3
            clear hd Hnx Hyes Hfd
            go_wp2_with fail
            refine (HT.out _).mono ?_
            rintro e w2 ⟨rfl, hm2⟩
            have Hm2 := Lib.hid hm2
            clear hm2 HT
            go_wp2
            go_ret
            exact ⟨by rw [Hy.out]; rfl, by rw [Hy.out]; exact mutR_drewN Hm2.out⟩
          · have Hnx2 := Lib.hid (Hnx.out (by rw [Hfd.out, hd, decide_eq_false hp]; rfl))
            have hpb : (((x.pins : Nat) : Int) == 0) = false := by rw [beq_eq_false_iff_ne]; omega
            clear hd Hnx Hyes Hfd hp
            go_wp2
            go_round
            case rel => exact ⟨k, by omega, by go_num, Hnx2.out⟩
            case measure => simp [intOf]
end Go.Proofs.Ytikkdhfbihejbaa
