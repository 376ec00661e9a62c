/- dict.Prefix at a packed list. Conditions: as from's. -/
import Derived.Test.YtefnddhondbjbaaDictFrom
import Derived.Test.YtefnddhondbjbaaDictLaw
import Derived.Test.YtefnddhondbjbaaAppendWhere
import Derived.Test.YtefnddhondbjbaaHasPrefix
namespace Go.Proofs.Ytefnddhondbjbaa
open Go.RowKit Go.Wir Go.Dic

/-- What stands gathered after k of a block's entries. -/
def AcPre (g : List Ent) (t : List UInt8) (acc : List Ent) (k : Nat) (ac : List Ent) : Prop := ac = acc ++ (g.take k).filter (fun e => t.isPrefixOf e.1)
theorem AcPre.len {g : List Ent} {t : List UInt8} {acc : List Ent} {k : Nat} {ac : List Ent} (h : AcPre g t acc k ac) : ac.length ≤ acc.length + k := by
  rw [h, List.length_append]
  have h1 := List.length_filter_le (fun e : Ent => t.isPrefixOf e.1) (g.take k)
  rw [List.length_take] at h1
  omega
theorem AcPre.yes {g : List Ent} {t : List UInt8} {acc : List Ent} {k : Nat} {ac : List Ent} (h : AcPre g t acc k ac) (hk : k < g.length) (hp : t.isPrefixOf g[k].1 = true) : AcPre g t acc (k + 1) (ac ++ [g[k]]) := by
  unfold AcPre
  rw [h, List.take_succ_eq_append_getElem hk, List.filter_append, List.append_assoc]
  simp [hp]
theorem AcPre.no {g : List Ent} {t : List UInt8} {acc : List Ent} {k : Nat} {ac : List Ent} (h : AcPre g t acc k ac) (hk : k < g.length) (hp : t.isPrefixOf g[k].1 = false) : AcPre g t acc (k + 1) ac := by
  unfold AcPre
  rw [h, List.take_succ_eq_append_getElem hk, List.filter_append]
  simp [hp]
theorem ents_grown {w w' : World} {v : Value} {g : List Ent} {row : Option Nat} (h : Ents w v g) (hg : w.grownBy w' row) (hd : ∀ q, v.ownBlock = some q → row ≠ some q) : Ents w' v g := by
  rcases h with h | ⟨b, off, cap, rfl, h2, h3, h4⟩
  · exact .inl h
  · have hne : ∀ o, some (⟨b, o, none⟩ : Addr).block ≠ row := fun o e => hd b rfl e.symm
    exact .inr ⟨b, off, cap, rfl, h2, Nat.lt_of_lt_of_le h3 hg.size, fun i hi => ⟨hg.cell (h4 i hi).1 (hne _), hg.cell (h4 i hi).2 (hne _)⟩⟩

set_option maxRecDepth 100000 in
set_option maxHeartbeats 1600000 in
theorem dict_Prefix (s t : ByteArray) (hs : s.size ≤ 549755813888) (ps : List Part) (rest : List UInt8) (hp : partsL (L s) = some (ps, rest)) (hlen : ps.length ≤ 1048576) (hmono : ∀ a b, a ≤ b → b < ps.length → behind ps (L t) a = true → behind ps (L t) b = true)
    (gl : List (List Ent)) (hd : ps.drop (cntNot ps (L t) - 1) = gl.map partOf) (hgl : gl.length ≤ 65536) (hg : ∀ g ∈ gl, (∀ e ∈ g, small e) ∧ g.length ≤ 16) (w : World) :
    Calls Try.prog 17 #[.string s, .string t] w fun e w' => Below w.heap.size w w' ∧ ∃ v, e = .returned v ∧ Ents w' v (prefG (L t) gl) := by
  have hfd : ∀ (w : World) (a : Option Addr) (n c : Nat) (t : ByteArray) (b : Bool), (Instr.field 72 (.agg #[.slice a n c, .string t, .bool b]) 0).run Try.prog w = .ok (.slice a n c) w := fun _ _ _ _ _ _ => by kernel_rfl
  have Hfr := Lib.hid (dict_from s t hs ps rest hp hlen hmono)
  rw [hd] at Hfr
  have Hg := Lib.hid hg
  clear hp hmono hd hg
  obtain ⟨i0, hi, hz0, hz1, hz2⟩ := info_parts Try.info_ent
  go_enter Try.func17, Try.ntmps17
  go_wp2_with fail
  refine (Hfr.out _).mono ?_
  rintro e w1 ⟨hb1, v, rfl, hv⟩
  obtain ⟨a, c, rfl⟩ : ∃ a c, v = .slice a gl.length c := by
    rcases hv with ⟨a, cap, rfl, h⟩ | ⟨b, off, cap, rfl, _⟩
    · have : gl = [] := by simpa using h
      subst this; exact ⟨a, cap, rfl⟩
    · exact ⟨_, _, by rw [List.length_map]⟩
  have Hv := Lib.hid hv
  have Hb1 := Lib.hid hb1
  clear hv hb1
  go_wp2
  go_loopw [5, 14] (fun l i wr => ∃ (j : Nat) (acc : List Ent), j ≤ gl.length ∧ i = .int .i64 j ∧ acc.length ≤ 16 * j ∧ wr.ownsRow w1.heap.size 35 2 l acc.length (entCells acc) ∧ prefG (L t) gl = acc ++ prefG (L t) (gl.drop j) ∧ Below w1.heap.size w1 wr) (fun _ i _ => gl.length - (intOf i).toNat)
  case atStart => exact ⟨0, [], by omega, rfl, by simp, World.ownsRow_nil _ _ _ _, by simp, Below.refl _ _⟩
  case round =>
    obtain ⟨j, acc, hj, rfl, hal, hown, hrun, hbel⟩ := hrel
    by_cases hlt : j < gl.length
    · have hgj := Hg.out gl[j] (List.getElem_mem hlt)
      have Hd := Lib.hid (List.drop_eq_getElem_cons hlt)
      rw [Hd.out] at hrun
      rcases Hv.out with ⟨a', cap', h, h0⟩ | ⟨b, off, cap, h, _, hbl, hcell⟩
      · have : gl = [] := by simpa using h0
        subst this; simp at hlt
      rw [List.length_map] at h
      simp only [Value.slice.injEq] at h
      obtain ⟨rfl, _, rfl⟩ := h
      obtain ⟨c1, c2, c3⟩ := hcell j (by rw [List.length_map]; exact hlt)
      have c1 := cell_below hbel hbl c1
      have c2 := cell_below hbel hbl c2
      have c3 := cell_below hbel hbl c3
      rw [List.getElem_map] at c1 c2 c3
      have Hen := Lib.hid (part_entries (B (firstT gl[j])) (B (blockL [] gl[j])) gl[j].length (by omega) (by rw [size_B]; have := blockL_length [] gl[j] hgj.1; omega))
      have hback := ents_back gl[j] [] [] (by simp) hgj.1
      rw [List.append_nil] at hback
      rw [L_B, hback] at Hen
      replace c1 : wr.cell? ⟨b, off + j * 3, none⟩ = some (.string (B (firstT gl[j]))) := c1
      replace c2 : wr.cell? ⟨b, off + j * 3 + 1, none⟩ = some (.string (B (blockL [] gl[j]))) := c2
      replace c3 : wr.cell? ⟨b, off + j * 3 + 2, none⟩ = some (.int .i64 (gl[j].length : Nat)) := c3
      have Hown := Lib.hid hown
      have Hrun := Lib.hid hrun
      have Hbel := Lib.hid hbel
      have Hgj := Lib.hid hgj
      clear hown hrun hbel hgj hcell hback
      generalize gl[j] = g at *
      generalize hf : firstT g = f at *
      have Hf := Lib.hid hf
      clear hf
      by_cases hgt : leB f (L t) = false ∧ (L t).isPrefixOf f = false
      · obtain ⟨h1, h2⟩ := hgt
        have Hend : Hid (prefG (L t) gl = acc) := Lib.hid (by rw [Hrun.out]; simp only [prefG]; rw [Hf.out, h1, h2]; simp)
        unfold leB at h1
        rw [← toList_B f, ← toList_L t] at h1
        rw [Bool.or_eq_false_iff] at h1
        obtain ⟨h3, h4⟩ := h1
        go_wp2_with fail
        refine (has_prefix (B f) t _).mono ?_
        rintro e w3 ⟨rfl, hb3⟩
        rw [L_B, h2]
        go_wp2
        go_ret
        have Ba := step_new (Below.refl wr.heap.size wr) (.cells #[.string (B f), .string (B (blockL [] g)), .int .i64 (g.length : Nat)] 70)
        have Bb := Ba.trans (hb3.mono (by simp))
        rw [Hend.out]
        exact ⟨step_call Hb1.out (step_call Hbel.out Bb), _, rfl, ents_of_own (own_keep Hown.out Bb)⟩
      · have Hgo : Hid (prefG (L t) gl = acc ++ (g.filter (fun e => (L t).isPrefixOf e.1) ++ prefG (L t) (gl.drop (j + 1)))) := Lib.hid (by
          rw [Hrun.out]
          simp only [prefG]
          rw [Hf.out, if_neg (by
            intro h
            rw [Bool.and_eq_true, Bool.not_eq_true', Bool.not_eq_true'] at h
            exact hgt h)])
        have hcases : Op.bytesLess (B f).toList t.toList = true ∨ (Op.bytesLess (B f).toList t.toList = false ∧ ((B f).toList == t.toList) = true) ∨ (Op.bytesLess (B f).toList t.toList = false ∧ ((B f).toList == t.toList) = false ∧ (L t).isPrefixOf (L (B f)) = true) := by
          rw [toList_B, toList_L, L_B]
          unfold leB at hgt
          cases h1 : Op.bytesLess f (L t) <;> cases h2 : (f == L t) <;> cases h3 : (L t).isPrefixOf f <;> simp_all
        clear hgt
        rcases hcases with h1 | ⟨h1, h2⟩ | ⟨h1, h2, h3⟩
        all_goals
          go_wp2_with (first | (go_at_call 31; refine (has_prefix (B f) t _).mono ?_; rintro e w3 ⟨rfl, hb3⟩; rw [h3]; have gP := (hb3.block wr.heap.size (by simp)).trans (heap_alloc_new wr _); obtain ⟨p0, p1, p2, _, _, _⟩ := cells3 gP; clear gP))
        all_goals
          refine (Hen.out _).mono ?_
          rintro e w4 ⟨hb4, v2, rfl, hv2, hnew, _⟩
          have Bx : Hid (Below wr.heap.size wr w4) := Lib.hid (by first | exact step_alloc (Below.refl _ _) hb4 | exact step_call (step_alloc (Below.refl _ _) hb3) hb4)
          have Hv2 := Lib.hid hv2
          have Hnew : Hid (∀ q, v2.ownBlock = some q → wr.heap.size ≤ q) := Lib.hid (fun q hq => by
            have h5 := hnew q hq
            first
              | (have h6 := hb3.size; simp only [World.size_alloc] at h5 h6; omega)
              | (simp only [World.size_alloc] at h5; omega))
          clear hv2 hb4 hnew
          obtain ⟨a2, cc2, rfl⟩ : ∃ a c, v2 = .slice a g.length c := by
            rcases Hv2.out with ⟨a, cap, rfl, h⟩ | ⟨b, off, cap, rfl, _⟩
            · exact ⟨a, cap, by rw [show g = [] from h]; rfl⟩
            · exact ⟨_, _, rfl⟩
          go_wp2
          go_loopw [5, 33] (fun l i wi => ∃ (k : Nat) (ac : List Ent), k ≤ g.length ∧ i = .int .i64 k ∧ AcPre g (L t) acc k ac ∧ wi.ownsRow w1.heap.size 35 2 l ac.length (entCells ac) ∧ Ents wi (.slice a2 g.length cc2) g ∧ (∀ q, (Value.slice a2 g.length cc2).ownBlock = some q → l.ownBlock ≠ some q) ∧ Below w1.heap.size w1 wi) (fun _ i _ => g.length - (intOf i).toNat)
          case atStart => exact ⟨0, acc, by omega, rfl, by simp [AcPre], own_keep Hown.out Bx.out, Hv2.out, fun q hq h => by have h5 := Hnew.out q hq; have h6 := (Hown.out.lt q h).2; omega, step_call Hbel.out Bx.out⟩
          case round =>
            obtain ⟨k, ac, hk, rfl, hac, hown2, hents, hdis, hbel2⟩ := hrel
            have hal2 := hac.len
            have hg16 := Hgj.out.2
            have Hac := Lib.hid hac
            have Hown2 := Lib.hid hown2
            have Hents := Lib.hid hents
            have Hdis := Lib.hid hdis
            have Hbel2 := Lib.hid hbel2
            have hsz2 := hbel2.size
            clear hac hown2 hents hdis hbel2
            by_cases hkl : k < g.length
            · rcases Hents.out with ⟨a', cap', h, h0⟩ | ⟨b2, off2, cap2, h, hc2, hbl2, hcell2⟩
              · rw [h0] at hkl; simp at hkl
              simp only [Value.slice.injEq] at h
              obtain ⟨rfl, _, rfl⟩ := h
              obtain ⟨c4, c5⟩ := hcell2 k hkl
              have Hyes := Lib.hid (fun hp => Hac.out.yes (k := k) hkl hp)
              have Hno := Lib.hid (fun hp => Hac.out.no (k := k) hkl hp)
              clear hcell2
              generalize g[k] = e at *
              obtain ⟨x, y⟩ := e
              simp only at c4 c5
              cases hpx : (L t).isPrefixOf x with
              | true =>
                have Hyes2 := Lib.hid (Hyes.out hpx)
                go_wp2_with fail
                refine (has_prefix (B x) t _).mono ?_
                rintro e w5 ⟨rfl, hb5⟩
                rw [L_B, hpx]
                clear hpx
                have gP := (hb5.block _ (by simp)).trans (heap_alloc_new _ (.cells #[.string (B x), .string (B y)] 35))
                obtain ⟨d0, d1, _, _⟩ := cells2 gP
                have Bx := step_alloc (Below.refl _ _) hb5
                have hown3 := (own_keep Hown2.out Bx).alloc (.cells #[.string (B x), .string (B y)] 35)
                have Hbx := Lib.hid Bx
                have hsz5 := Bx.size
                have hi5 := Lib.hid (cell2_new w5 w5.heap.size rfl (.string (B x)) (.string (B y)) 35)
                clear gP hb5 Bx
                go_wp2_with (at_builtin; go_must (refine wpList_append_where _ rfl _ _ 22 rfl w1.heap.size 35 i0 (.agg #[.string ⟨#[]⟩, .string ⟨#[]⟩]) 2 32 Try.underlying22 hi hz0 hz1 hz2 rfl (by decide) _ _ _ rfl hown3 ⟨w5.heap.size, 0, none⟩ 1 1 [.string (B x), .string (B y)] rfl rfl ?c1 ?c2 ?c3 ?c4 ?c5 ?_))
                case c1 => exact hi5.out
                case c2 => simp [Value.oneCell']
                case c3 => unfold maxLen; omega
                case c4 => omega
                case c5 => simp; omega
                intro v' w6 hown' hgrow hwhere
                have Hb6 := Lib.hid ((step_new (step_call Hbel2.out Hbx.out) (.cells #[.string (B x), .string (B y)] 35)).grown hgrow (by simp; omega) (own_ge hown3))
                have Hown6 : Hid (w6.ownsRow w1.heap.size 35 2 v' (ac ++ [(x, y)]).length (entCells (ac ++ [(x, y)]))) := Lib.hid (by
                  rw [show entCells (ac ++ [(x, y)]) = entCells ac ++ [.string (B x), .string (B y)] by simp [entCells], List.length_append]; exact hown')
                have Hents6 := Lib.hid (ents_grown (Ents.below (Hents.out.below Hbx.out) (step_new (Below.refl _ _) (.cells #[.string (B x), .string (B y)] 35))) hgrow Hdis.out)
                have Hdis6 : Hid (∀ q, (Value.slice (some ⟨b2, off2, none⟩) g.length cc2).ownBlock = some q → v'.ownBlock ≠ some q) := Lib.hid (by
                  intro q hq h
                  rcases hwhere with h5 | ⟨g5, h5, h6⟩
                  · exact Hdis.out q hq (h5.symm.trans h)
                  · rw [h5] at h
                    simp only [Value.ownBlock, Option.some.injEq] at hq h
                    have := Hbx.out.size
                    try simp only [World.size_alloc] at h6
                    omega)
                clear hown' hgrow hwhere hown3
                go_wp2
                go_roundw
                case rel => exact ⟨k + 1, ac ++ [(x, y)], by omega, by go_num, Hyes2.out, Hown6.out, Hents6.out, Hdis6.out, Hb6.out⟩
                case measure => simp [intOf]; omega
              | false =>
                have Hno2 := Lib.hid (Hno.out hpx)
                go_wp2_with fail
                refine (has_prefix (B x) t _).mono ?_
                rintro e w5 ⟨rfl, hb5⟩
                rw [L_B, hpx]
                clear hpx
                have Hb5 := Lib.hid (step_alloc (Below.refl _ _) hb5)
                clear hb5
                go_wp2
                go_roundw
                case rel =>
                  exact ⟨k + 1, ac, by omega, by go_num, Hno2.out, own_keep Hown2.out Hb5.out, Hents.out.below Hb5.out, Hdis.out, step_call Hbel2.out Hb5.out⟩
                case measure => simp [intOf]; omega
            · obtain rfl : k = g.length := by omega
              go_wp2
              go_roundw
              case rel =>
                refine ⟨j + 1, ac, by omega, by go_num, by omega, Hown2.out, ?_, Hbel2.out⟩
                rw [Hgo.out, Hac.out, List.take_length, List.append_assoc]
              case measure => simp [intOf]; omega
    · obtain rfl : j = gl.length := by omega
      have Hend : Hid (prefG (L t) gl = acc) := Lib.hid (by rw [hrun, List.drop_length]; simp [prefG])
      have Hown := Lib.hid hown
      have Hbel := Lib.hid hbel
      clear hown hrun hbel
      go_wp2
      go_ret
      rw [Hend.out]
      exact ⟨step_call Hb1.out Hbel.out, _, rfl, ents_of_own Hown.out⟩
end Go.Proofs.Ytefnddhondbjbaa
