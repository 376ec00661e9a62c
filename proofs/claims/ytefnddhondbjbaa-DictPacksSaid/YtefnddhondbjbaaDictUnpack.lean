/- dict.Unpack: bytes are unpacked, or refused. Conditions: not longer than 2^39 bytes. -/
import Derived.Test.YtefnddhondbjbaaDictParse
import Derived.Test.YtefnddhondbjbaaAppendWhere
import Derived.Test.YtefnddhondbjbaaDictFrom
namespace Go.Proofs.Ytefnddhondbjbaa
open Go.RowKit Go.Wir Go.Dic

/-- All entries of blocks. -/
def entsAll : List Part → Option (List Ent)
  | [] => some []
  | p :: ps => match entsL p.2.2 [] p.2.1 with
    | none => none
    | some x => (entsAll ps).map (x.1 ++ ·)
def parseD (s : List UInt8) : Option (List Ent) := match partsL s with
  | none => none
  | some x => entsAll x.1
/-- Are these the entries that were packed so? -/
def chk (s : List UInt8) (l : List Ent) : Bool := right l && decide (bytesL l = s)
def unpD (s : List UInt8) : Option (List Ent) := (parseD s).filter (chk s)
def UnpPost (R : Option (List Ent)) (e : Ending) (w' : World) : Prop := match R with
  | some l => ∃ v, e = .returned (.tuple #[v, .int .i64 0]) ∧ Ents w' v l
  | none => e = .returned (.tuple #[.slice none 0 0, .int .i64 7])
theorem entsL_len : ∀ (m : Nat) (last s : List UInt8) (x : List Ent × List UInt8), entsL m last s = some x → x.1.length = m
  | 0, _, _, x, h => by simp only [entsL, Option.some.injEq] at h; subst h; rfl
  | m + 1, last, s, x, h => by
    simp only [entsL] at h
    split at h
    · obtain ⟨y, hy, rfl⟩ := Option.map_eq_some_iff.1 h
      simp [entsL_len m _ _ y hy]
    · cases h
theorem entsL_bound : ∀ (m : Nat) (last s : List UInt8) (x : List Ent × List UInt8), entsL m last s = some x → ∀ e ∈ x.1, e.1.length ≤ last.length + s.length ∧ e.2.length ≤ last.length + s.length
  | 0, _, _, x, h => by simp only [entsL, Option.some.injEq] at h; subst h; simp
  | m + 1, last, s, x, h => by
    simp only [entsL] at h
    split at h
    · obtain ⟨y, hy, rfl⟩ := Option.map_eq_some_iff.1 h
      have he := ent_le (B s) (B last)
      rw [size_B, size_B] at he
      intro e hm
      rcases List.mem_cons.1 hm with rfl | hm
      · omega
      · have := entsL_bound m _ _ y hy e hm; omega
    · cases h
theorem idxL_bound : ∀ (g n i : Nat) (s : List UInt8) (x : List (List UInt8 × Nat × Nat) × List UInt8), idxL g n i s = some x → x.1.length = g ∧ (∀ y ∈ x.1, y.2.2 ≤ 16) ∧ x.2.length ≤ s.length
  | 0, _, _, s, x, h => by simp only [idxL, Option.some.injEq] at h; subst h; simp
  | g + 1, n, i, s, x, h => by
    simp only [idxL] at h
    split at h
    · cases h
    · rename_i f r hf
      split at h
      · cases h
      · rename_i z r2 hz
        obtain ⟨y, hy, rfl⟩ := Option.map_eq_some_iff.1 h
        obtain ⟨h1, h2, h3⟩ := idxL_bound g n (i + 16) r2 y hy
        have hr : r.length ≤ s.length := by have := congrArg List.length (toTextL_some hf).1; rw [List.length_append] at this; omega
        have hr2 : r2.length ≤ r.length := (numberL_le hz).2
        refine ⟨by simp [h1], fun y' hy' => ?_, by show y.2.length ≤ _; omega⟩
        rcases List.mem_cons.1 hy' with rfl | hy'
        · show min 16 _ ≤ 16; omega
        · exact h2 y' hy'
theorem splitL_bound : ∀ (l : List (List UInt8 × Nat × Nat)) (s : List UInt8) (x : List Part × List UInt8), splitL l s = some x → (∀ y ∈ l, y.2.2 ≤ 16) → x.1.length = l.length ∧ ∀ p ∈ x.1, p.2.1.length ≤ s.length ∧ p.2.2 ≤ 16
  | [], s, x, h, _ => by simp only [splitL, Option.some.injEq] at h; subst h; simp
  | (f, z, m) :: l, s, x, h, hb => by
    simp only [splitL] at h
    split at h
    · rename_i hz
      obtain ⟨y, hy, rfl⟩ := Option.map_eq_some_iff.1 h
      obtain ⟨h1, h2⟩ := splitL_bound l (s.drop z) y hy (fun q hq => hb q (by simp [hq]))
      refine ⟨by simp [h1], fun p hp => ?_⟩
      rcases List.mem_cons.1 hp with rfl | hp
      · exact ⟨by show (s.take z).length ≤ _; rw [List.length_take]; omega, hb (f, z, m) (by simp)⟩
      · have := h2 p hp; rw [List.length_drop] at this; exact ⟨by omega, this.2⟩
    · cases h
theorem partsL_bound (s : List UInt8) (ps : List Part) (r : List UInt8) (h : partsL s = some (ps, r)) : ps.length ≤ 65536 ∧ ∀ p ∈ ps, p.2.1.length ≤ s.length ∧ p.2.2 ≤ 16 := by
  unfold partsL at h
  split at h
  · cases h
  · rename_i n q hn
    split at h
    · cases h
    · rename_i l r2 hi
      obtain ⟨h1, h2, h3⟩ := idxL_bound _ _ _ _ _ hi
      obtain ⟨h4, h5⟩ := splitL_bound _ _ _ h h2
      have hq : n ≤ 1048576 ∧ q.length ≤ s.length := numberL_le hn
      simp only at h1 h3 h4 h5
      exact ⟨by omega, fun p hp => ⟨by have := (h5 p hp).1; omega, (h5 p hp).2⟩⟩
theorem entCells_append (a b : List Ent) : entCells (a ++ b) = entCells a ++ entCells b := by simp [entCells]
theorem entCells_one (l : List Ent) : ∀ u ∈ entCells l, u.oneCell' = true := by
  unfold entCells
  intro u hu
  obtain ⟨e, _, he⟩ := List.mem_flatMap.1 hu
  simp only [List.mem_cons, List.not_mem_nil, or_false] at he
  rcases he with rfl | rfl <;> rfl
theorem entCells_at (l : List Ent) : ∀ (j : Nat) u, (entCells l)[j]? = some u → ∃ (i : Nat) (h : i < l.length), (j = i * 2 ∧ u = .string (B l[i].1)) ∨ (j = i * 2 + 1 ∧ u = .string (B l[i].2)) := by
  intro j u hu
  have hlt : j < (entCells l).length := by
    rcases Nat.lt_or_ge j (entCells l).length with h | h
    · exact h
    · rw [List.getElem?_eq_none h] at hu; cases hu
  rw [entCells_length] at hlt
  have hi : j / 2 < l.length := by omega
  obtain ⟨e1, e2⟩ := entCells_get l (j / 2) hi
  refine ⟨j / 2, hi, ?_⟩
  rcases Nat.mod_two_eq_zero_or_one j with h | h
  · have hj : j = j / 2 * 2 := by omega
    rw [← hj, hu] at e1
    exact .inl ⟨hj, by simpa using e1⟩
  · have hj : j = j / 2 * 2 + 1 := by omega
    rw [← hj, hu] at e2
    exact .inr ⟨hj, by simpa using e2⟩
/-- A slice's cells, as append asks for them. -/
theorem ents_news {w : World} {oa : Option Addr} {n c : Nat} {l : List Ent} (h : Ents w (.slice oa n c) l) : ∀ ad, oa = some ad → ∀ j u, (entCells l)[j]? = some u → w.cell? (ad.add j) = some u := by
  rintro ad rfl j u hu
  rcases h with ⟨a, cap, _, rfl⟩ | ⟨b, off, cap, h, _, _, hc⟩
  · simp [entCells] at hu
  · simp only [Value.slice.injEq, Option.some.injEq] at h
    obtain ⟨rfl, _, _⟩ := h
    have e : (⟨b, off, none⟩ : Addr).add j = ⟨b, off + j, none⟩ := by unfold Addr.add; split <;> simp_all
    rw [e]
    obtain ⟨i, hi, ⟨rfl, rfl⟩ | ⟨rfl, rfl⟩⟩ := entCells_at l j u hu
    · exact (hc i hi).1
    · rw [← Nat.add_assoc]; exact (hc i hi).2
theorem packE_chk {s : List UInt8} {l : List Ent} : chk s l = true → packE l = 0 ∧ packL l = s := by
  unfold chk packE packL
  rw [Bool.and_eq_true, decide_eq_true_eq]
  rintro ⟨h1, h2⟩
  rw [h1]; exact ⟨rfl, h2⟩

set_option maxRecDepth 100000 in
set_option maxHeartbeats 1600000 in
theorem dict_Unpack (s : ByteArray) (hs : s.size ≤ 549755813888) (w : World) :
    Calls Try.prog 20 #[.string s] w fun e w' => Below w.heap.size w w' ∧ UnpPost (unpD (L s)) e w' := by
  obtain ⟨i0, hi, hz0, hz1, hz2⟩ := info_parts Try.info_ent
  cases hp : partsL (L s) with
  | none =>
    have hR : unpD (L s) = none := by unfold unpD parseD; rw [hp]; rfl
    have Hc := Lib.hid (dict_parts s hs)
    rw [hp] at Hc
    rw [hR]
    clear hp hR
    go_enter Try.func20, Try.ntmps20
    go_wp2_with fail
    refine (Hc.out _).mono ?_
    rintro e w1 ⟨hb1, a, n, c, t, rfl⟩
    go_wp2
    go_ret2
    exact ⟨step_new hb1 _, rfl⟩
  | some x =>
    obtain ⟨ps, rest⟩ := x
    obtain ⟨hpl, hpb⟩ := partsL_bound _ _ _ hp
    have hR : unpD (L s) = (entsAll ps).filter (chk (L s)) := by unfold unpD parseD; rw [hp]
    have Hc := Lib.hid (dict_parts s hs)
    rw [hp] at Hc
    have HR := Lib.hid hR
    have Hpb := Lib.hid hpb
    clear hp hR hpb
    generalize hRR : unpD (L s) = R at *
    have HRR := Lib.hid hRR
    clear hRR
    go_enter Try.func20, Try.ntmps20
    go_wp2_with fail
    refine (Hc.out _).mono ?_
    rintro e w1 ⟨hb1, v, rfl, hv⟩
    obtain ⟨a, c, rfl⟩ : ∃ a c, v = .slice a ps.length c := by
      rcases hv with ⟨a, cap, rfl, h⟩ | ⟨b, off, cap, rfl, _⟩
      · simp only at h; exact ⟨a, cap, by rw [h]; rfl⟩
      · exact ⟨_, _, rfl⟩
    have Hv := Lib.hid hv
    have Hb1 := Lib.hid hb1
    clear hv hb1
    go_wp2
    generalize hw2 : w1.alloc (.cells #[.slice a ps.length c, .string (B rest), .bool true] 75) = w2 at *
    have hb2 : Below w.heap.size w w2 := by rw [← hw2]; exact step_new Hb1.out _
    have hv2 : Parts w2 (.slice a ps.length c) ps := by rw [← hw2]; exact Parts.below (w := w1) (v := .slice a ps.length c) (es := ps) Hv.out (step_new (Below.refl _ _) _)
    have Hb2 := Lib.hid hb2
    have Hv2 := Lib.hid hv2
    clear hw2 hb2 hv2
    go_loopw [5, 19] (fun l i wr => ∃ (j : Nat) (acc : List Ent), j ≤ ps.length ∧ i = .int .i64 j ∧ acc.length ≤ 16 * j ∧ wr.ownsRow w2.heap.size 35 2 l acc.length (entCells acc) ∧ (∀ e ∈ acc, e.1.length ≤ s.size ∧ e.2.length ≤ s.size) ∧ entsAll ps = (entsAll (ps.drop j)).map (acc ++ ·) ∧ Below w2.heap.size w2 wr) (fun _ i _ => ps.length - (intOf i).toNat)
    case atStart => exact ⟨0, [], by omega, rfl, by simp, World.ownsRow_nil _ _ _ _, by simp, by simp, Below.refl _ _⟩
    case round =>
      obtain ⟨j, acc, hj, rfl, hal, hown, hsz, hrun, hbel⟩ := hrel
      have Hsz := Lib.hid hsz
      have Hown := Lib.hid hown
      clear hsz hown
      by_cases hlt : j < ps.length
      · have hpj := Hpb.out ps[j] (List.getElem_mem hlt)
        have Hd := Lib.hid (List.drop_eq_getElem_cons hlt)
        rw [Hd.out] at hrun
        rcases Hv2.out with ⟨a', cap', h, h0⟩ | ⟨b, off, cap, h, _, hbl, hcell⟩
        · subst h0; simp at hlt
        simp only [Value.slice.injEq] at h
        obtain ⟨rfl, _, rfl⟩ := h
        obtain ⟨c1, c2, c3⟩ := hcell j hlt
        have c1 := cell_below hbel hbl c1
        have c2 := cell_below hbel hbl c2
        have c3 := cell_below hbel hbl c3
        have Hrun := Lib.hid hrun
        have Hbel := Lib.hid hbel
        clear hrun hbel hcell
        generalize ps[j] = p at *
        obtain ⟨f, q, m⟩ := p
        simp only at c1 c2 c3 hpj
        rw [length_L] at hpj
        have Hen := Lib.hid (part_entries (B f) (B q) m (by omega) (by rw [size_B]; omega))
        rw [L_B] at Hen
        cases hE : entsL m [] q with
        | none =>
          have hR0 : Hid (R = none) := Lib.hid (by rw [HR.out, Hrun.out]; simp only [entsAll]; rw [hE]; rfl)
          rw [hE] at Hen
          clear hE
          go_wp2_with fail
          refine (Hen.out _).mono ?_
          rintro e w4 ⟨hb4, rfl⟩
          have Hb4 := Lib.hid (step_call Hb2.out (step_alloc Hbel.out hb4))
          clear hb4
          go_wp2
          go_ret2
          exact ⟨step_new Hb4.out _, by rw [hR0.out]; rfl⟩
        | some x =>
          obtain ⟨g, r⟩ := x
          have hgl := entsL_len _ _ _ _ hE
          have hgb := entsL_bound _ _ _ _ hE
          have Hrun2 : Hid (entsAll ps = (entsAll (ps.drop (j + 1))).map ((acc ++ g) ++ ·)) := Lib.hid (by
            rw [Hrun.out]; simp only [entsAll]; rw [hE]
            cases entsAll (ps.drop (j + 1)) <;> simp)
          have Hgb : Hid (∀ e ∈ acc ++ g, e.1.length ≤ s.size ∧ e.2.length ≤ s.size) := Lib.hid (by
            intro e he
            rcases List.mem_append.1 he with he | he
            · exact Hsz.out e he
            · have := hgb e he
              simp only [List.length_nil] at this
              omega)
          simp only at hgl
          rw [hE] at Hen
          clear hE hgb
          subst hgl
          go_wp2_with fail
          refine (Hen.out _).mono ?_
          rintro e w4 ⟨hb4, v2, rfl, hv2, hnew, hnil⟩
          obtain ⟨a2, cc2, rfl⟩ : ∃ a c, v2 = .slice a g.length c := by
            rcases hv2 with ⟨a, cap, rfl, h⟩ | ⟨b, off, cap, rfl, _⟩
            · simp only at h; exact ⟨a, cap, by rw [h]; rfl⟩
            · exact ⟨_, _, rfl⟩
          have Hv3 := Lib.hid hv2
          have Hnil : Hid (a2 = none → g.length = 0 ∧ cc2 = 0) := Lib.hid (by
            rintro rfl
            rcases hnil with h | ⟨k, h⟩
            · simp only [Value.slice.injEq] at h; exact ⟨h.2.1, h.2.2⟩
            · simp [Value.ownBlock] at h)
          have Bx := step_alloc (Below.refl _ _) hb4
          have hown4 := own_keep Hown.out Bx
          have Hb4 := Lib.hid (step_call Hbel.out Bx)
          have hsz4 := Hb4.out.size
          clear hv2 hnew hnil hb4 Bx
          have hown5 := hown4.alloc (.cells #[.slice a2 g.length cc2, .string (B r), .bool true] 72)
          have Hv5 := Lib.hid (Hv3.out.below (step_new (Below.refl _ _) (.cells #[.slice a2 g.length cc2, .string (B r), .bool true] 72)))
          go_wp2_with (at_builtin; go_must (refine wpList_append_any _ rfl _ _ 22 rfl w2.heap.size 35 i0 (.agg #[.string ⟨#[]⟩, .string ⟨#[]⟩]) 2 32 Try.underlying22 hi hz0 hz1 hz2 rfl (by decide) _ _ _ rfl hown5 a2 g.length cc2 (entCells g) rfl (entCells_length g) Hnil.out (ents_news Hv5.out) (entCells_one g) ?c3 ?c4 ?c5 ?_))
          case c3 => unfold maxLen; omega
          case c4 => omega
          case c5 => simp; omega
          intro v' w6 hown' hgrow _
          have Hb6 := Lib.hid ((step_new Hb4.out (.cells #[.slice a2 g.length cc2, .string (B r), .bool true] 72)).grown hgrow (by simp; omega) (own_ge hown5))
          have Hown6 : Hid (w6.ownsRow w2.heap.size 35 2 v' (acc ++ g).length (entCells (acc ++ g))) := Lib.hid (by
            rw [entCells_append, List.length_append]; exact hown')
          clear hown' hgrow hown5 hown4
          go_wp2
          go_roundw
          case rel => exact ⟨j + 1, acc ++ g, by omega, by go_num, by rw [List.length_append]; omega, Hown6.out, Hgb.out, Hrun2.out, Hb6.out⟩
          case measure => simp [intOf]; omega
      · obtain rfl : j = ps.length := by omega
        have hR1 : R = if chk (L s) acc then some acc else none := by
          rw [HR.out, hrun, List.drop_length]
          simp only [entsAll, Option.map_some, List.append_nil, Option.filter]
        have hents := ents_of_own Hown.out
        have Hpk := Lib.hid (dict_Pack u5 acc wr hents (by omega) (fun e he => by have := Hsz.out e he; omega))
        have HR1 := Lib.hid hR1
        have Hents := Lib.hid hents
        have Hbel := Lib.hid hbel
        clear hR1 hents hbel hrun
        have hcases : (chk (L s) acc = true ∧ packE acc = 0 ∧ packL acc = L s) ∨ (chk (L s) acc = false ∧ packE acc ≠ 0) ∨ (chk (L s) acc = false ∧ packE acc = 0 ∧ packL acc ≠ L s) := by
          cases hch : chk (L s) acc with
          | true => exact .inl ⟨rfl, packE_chk hch⟩
          | false =>
            by_cases h0 : packE acc = 0
            · refine .inr (.inr ⟨rfl, h0, fun h => ?_⟩)
              unfold packE at h0; unfold packL at h; unfold chk at hch
              cases hr : right acc with
              | true => rw [hr] at h hch; simp at h hch; exact hch h
              | false => rw [hr] at h0; simp at h0
            · exact .inr (.inl ⟨rfl, h0⟩)
        rcases hcases with ⟨h1, h2, h3⟩ | ⟨h1, h2⟩ | ⟨h1, h2, h3⟩
        · rw [h2, h3, B_L] at Hpk
          rw [h1] at HR1
          clear h1 h2 h3
          go_wp2_with fail
          refine Hpk.out.mono ?_
          rintro e w4 ⟨rfl, hb4⟩
          have Hb4 := Lib.hid (step_call Hb2.out (step_call Hbel.out hb4))
          have Hents4 := Lib.hid (Hents.out.below hb4)
          clear hb4
          go_wp2
          go_ret2
          exact ⟨Hb4.out, by rw [HR1.out]; exact ⟨_, rfl, Hents4.out⟩⟩
        · rw [h1] at HR1
          have h2' : (((packE acc : Nat) : Int) != 0) = true := by rw [bne_iff_ne]; omega
          clear h1 h2
          generalize packE acc = en at *
          go_wp2_with fail
          refine Hpk.out.mono ?_
          rintro e w4 ⟨rfl, hb4⟩
          have Hb4 := Lib.hid (step_call Hb2.out (step_call Hbel.out hb4))
          clear hb4
          go_wp2
          go_ret2
          exact ⟨Hb4.out, by rw [HR1.out]; rfl⟩
        · rw [h1] at HR1
          rw [h2] at Hpk
          have h3' : ((B (packL acc)).toList == s.toList) = false := by rw [toList_B, toList_L]; simpa using h3
          have h3'' : ((B (packL acc)).toList != s.toList) = true := by rw [bne, h3']; rfl
          clear h1 h2 h3
          generalize packL acc = pn at *
          go_wp2_with fail
          refine Hpk.out.mono ?_
          rintro e w4 ⟨rfl, hb4⟩
          have Hb4 := Lib.hid (step_call Hb2.out (step_call Hbel.out hb4))
          clear hb4
          go_wp2
          go_ret2
          exact ⟨Hb4.out, by rw [HR1.out]; rfl⟩
end Go.Proofs.Ytefnddhondbjbaa
