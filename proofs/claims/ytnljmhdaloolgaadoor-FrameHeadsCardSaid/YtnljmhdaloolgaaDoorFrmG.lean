/- Chapter 3: the reference's Unpack. Conditions: lengths. -/
import Derived.Test.YtnljmhdaloolgaaDoorFrmF
import Derived.Deep.AppendLies
namespace Go.Proofs.YtnljmhdaloolgaaDoor
open Go.RowKit Go.Wir Go.Blk Go.Frm

set_option maxRecDepth 100000 in
set_option maxHeartbeats 1600000 in
theorem ref3_Unpack (l : List Txt) (v : Value) (hn : l.length ≤ 100000) (hl : ∀ s ∈ l, s.length ≤ 9223372036854775807) (w : World) (hr : Row w v (txtV l)) :
    Calls Tryd.prog 28 #[v] w fun e w' => Below w.heap.size w w' ∧ UnpPost l w.heap.size e w' := by
  obtain ⟨oa, cap, rfl, hcell⟩ := txt_row hr
  cases l with
  | nil =>
    have hE : Hid (unpL [] = .error 7) := Lib.hid rfl
    clear hcell hr
    go_enter Tryd.func28, Tryd.ntmps28
    go_wp2
    go_ret3
    exact ⟨Below.refl _ _, UnpPost.bad hE.out⟩
  | cons h ls =>
    obtain ⟨b, off, rfl, hb, hcap, c0⟩ := hcell 0 (by simp)
    have Hcell : Hid (∀ i (hi : i < ls.length), w.cell? ⟨b, off + 1 + i, none⟩ = some (.string (B ls[i]))) := Lib.hid (fun i hi => by
      obtain ⟨b', off', e, _, _, hc⟩ := hcell (i + 1) (by simp; omega)
      simp only [Option.some.injEq, Addr.mk.injEq, and_true] at e
      obtain ⟨rfl, rfl⟩ := e
      rw [show off + 1 + i = off + (i + 1) by omega, hc]; rfl)
    rw [Nat.add_zero, List.getElem_cons_zero] at c0
    have hh := hl h (by simp)
    have Hr := Lib.hid (ref3_blocks h hh w)
    have hlen : (h :: ls).length = ls.length + 1 := rfl
    rw [hlen] at hn hcap ⊢
    have HU : Hid (unpL (h :: ls) = match readL h with | none => .error 7 | some (seq, at') => if ls.length < at'.length then .error 7 else if (ls.take at'.length).all (fun s => decide (s.length = 256)) then (if (h.drop 248).take 4 = sumT (h.take 248) (ls.take at'.length) then .ok (seq, at'.zip (ls.take at'.length)) else .error 8) else .error 7) := Lib.hid rfl
    unfold RefPost at Hr
    have h1n : ((ls.length : Int) + 1 == 0) = false := by rw [beq_eq_false_iff_ne]; omega
    clear hcell hr hl hlen
    cases hc : readL h with
    | none =>
      rw [hc] at Hr HU
      simp only at Hr HU
      clear hc
      go_enter Tryd.func28, Tryd.ntmps28
      go_wp2_with fail
      refine Hr.out.mono ?_
      rintro e w1 ⟨hb1, rfl⟩
      go_wp2
      go_ret3
      exact ⟨hb1, UnpPost.bad HU.out⟩
    | some q =>
      obtain ⟨seq, at'⟩ := q
      have Hsome := Lib.hid (readL_some hc)
      rw [hc] at Hr HU
      simp only at Hr HU
      have ha48 : at'.length ≤ 48 ∧ 1 ≤ at'.length := by
        obtain ⟨_, _, _, h4, _, h5, h6⟩ := Hsome.out
        rw [h4, numsAt_length]; omega
      obtain ⟨ha48, ha1⟩ := ha48
      clear hc
      go_enter Tryd.func28, Tryd.ntmps28
      go_wp2_with fail
      refine Hr.out.mono ?_
      rintro e w1 ⟨hb1, vv, rfl, hown⟩
      obtain ⟨av, cv, hvv, hac⟩ := own_num hown
      subst hvv
      have Hac := Lib.hid hac
      have Hb1 := Lib.hid hb1
      have hb1s := hb1.size
      have d0 := cell_call hb1 c0
      clear hac hown hb1
      by_cases hshort : ls.length < at'.length
      · have HE : Hid (unpL (h :: ls) = .error 7) := Lib.hid (by rw [HU.out, if_pos hshort])
        go_wp2
        go_ret3
        exact ⟨Hb1.out, UnpPost.bad HE.out⟩
      · rw [if_neg hshort] at HU
        obtain ⟨D, hD⟩ : ∃ D, D = ls.take at'.length := ⟨_, rfl⟩
        have hDl : D.length = at'.length := by rw [hD, List.length_take]; omega
        have HDc : Hid (∀ i (hi : i < D.length), w.cell? ⟨b, off + 1 + i, none⟩ = some (.string (B D[i]))) := Lib.hid (fun i hi => by
          rw [Hcell.out i (by omega)]; simp only [hD, List.getElem_take])
        rw [← hD] at HU
        have HDl := Lib.hid hDl
        clear hD hDl Hcell
        obtain ⟨i0, hi, hz0, hz1, hz2⟩ := info_parts Tryd.info_wrF
        have hn2 : (1 : Int) + (at'.length : Int) ≤ (cap : Int) := by omega
        go_wp2
        go_loopw [8, 9, 10] (fun x8 x9 x10 wr => ∃ k : Nat, k ≤ at'.length ∧ x10 = .int .i64 k ∧ x8 = .string (B (D.take k).flatten) ∧ (D.take k).flatten.length = 256 * k ∧ wr.ownsRow w1.heap.size 45 2 x9 k (wrCells ((at'.zip D).take k)) ∧ (D.take k).all (fun s => decide (s.length = 256)) = true ∧ Below w1.heap.size w1 wr) (fun _ _ x10 _ => at'.length - (intOf x10).toNat)
        case atStart => exact ⟨0, by omega, rfl, rfl, rfl, World.ownsRow_nil _ _ _ _, rfl, Below.refl _ _⟩
        case round =>
          obtain ⟨k, hk, rfl, rfl, hfl, hown, hall, hbel⟩ := hrel
          have Hfl := Lib.hid hfl
          have hAz := size_B (D.take k).flatten
          rw [hfl] at hAz
          clear hfl
          have Hall := Lib.hid hall
          have hbz := hbel.size
          obtain ⟨ax, cx, rfl⟩ := own_form hown
          have Hown := Lib.hid hown
          have d1 := cell_call hbel d0
          by_cases hlt : k < at'.length
          · have hkD : k < D.length := by rw [HDl.out]; exact hlt
            have e1 := cell_below hbel (by omega) (cell_call Hb1.out (HDc.out k hkD))
            obtain ⟨bv, rfl, hbv1, hbv2, hbv3⟩ := Hac.out k hlt
            have e2 := cell_below hbel hbv2 hbv3
            have Hzs := Lib.hid (zip_succ at' D k hlt hkD)
            have Hds := Lib.hid (show D.take (k + 1) = D.take k ++ [D[k]] from List.take_succ_eq_append_getElem hkD)
            have Hmem : Hid (D[k].length ≠ 256 → D.all (fun s => decide (s.length = 256)) = false) := Lib.hid (fun h5 => by
              rw [← Bool.not_eq_true, List.all_eq_true]
              intro hh
              exact h5 (of_decide_eq_true (hh _ (List.getElem_mem hkD))))
            have Hbel := Lib.hid hbel
            have hk1 : (k : Int) < (at'.length : Int) := by omega
            clear hall hbel hown hbv3
            generalize D[k] = x at *
            generalize at'[k] = a at *
            have hx := size_B x
            by_cases hx256 : x.length = 256
            · have hne : (((B x).size : Int) != 256) = false := by rw [hx, hx256]; rfl
              have hcat : Hid (wrCells ((at'.zip D).take k) ++ [.int .i64 (a : Nat), .string (B x)] = wrCells ((at'.zip D).take (k + 1))) := Lib.hid (by rw [Hzs.out, wrCells_append]; rfl)
              have hall1 : Hid ((D.take (k + 1)).all (fun s => decide (s.length = 256)) = true) := Lib.hid (by rw [Hds.out, List.all_append, Hall.out]; simpa using hx256)
              have hflat : Hid ((D.take (k + 1)).flatten = (D.take k).flatten ++ x) := Lib.hid (by rw [Hds.out, List.flatten_append]; simp)
              have hx2 : (B x).size = 256 := by rw [hx, hx256]
              have Hx256 := Lib.hid hx256
              have hw1 : IntKind.i64.wrap (1 + (k : Int)) = 1 + (k : Int) := IntWalk.i64_in _ (by omega)
              have hk0 : (0 : Int) ≤ (k : Int) := by omega
              have hk2 : (0 : Int) ≤ 1 + (k : Int) := by omega
              have hk3 : (1 : Int) + (k : Int) < (ls.length : Int) + 1 := by omega
              have hk4 : (1 + (k : Int)).toNat = 1 + k := by omega
              have e1' : wr.cell? ⟨b, off + (1 + k), none⟩ = some (.string (B x)) := by rw [show off + (1 + k) = off + 1 + k by omega]; exact e1
              have ag : Value.ownBlock (.slice ax k cx) ≠ some b := fun h => by have := (Hown.out.lt _ h).1; omega
              have ag2 : Value.ownBlock (.slice ax k cx) ≠ some bv := fun h => by have := (Hown.out.lt _ h).1; omega
              have lb : b < wr.heap.size := by omega
              have lb2 : bv < wr.heap.size := by omega
              clear hx256 hx
              go_wp2
              go_region_held3 (fun w' => w'.cell? ⟨b, off + (1 + k), none⟩ = some (.string (B x)) ∧ w'.cell? ⟨bv, k, none⟩ = some (.int .i64 (a : Nat)))
                (first
                  | go_keep
                  | (go_split_ands
                     refine ⟨?_, ?_⟩
                     · (rw [hgrow.cell_far _ (by simp; omega) (Ne.symm ag)]; assumption)
                     · (rw [hgrow.cell_far _ (by simp; omega) (Ne.symm ag2)]; assumption)))
                ((refine step_append_lies _ (by rfl) _ _ _ (by rfl) w1.heap.size 45 i0 _ 2 24 Tryd.underlying23 hi hz0 hz1 hz2 rfl (by omega) (.slice ax k cx) k (wrCells ((at'.zip D).take k)) (by rfl) ((Hown.out.alloc _).drew)
                    ⟨wr.heap.size, 0, none⟩ 1 1 [.int .i64 (a : Nat), .string (B x)] (by rfl) (by rfl) (World.news_of_block (cs := #[.int .i64 (a : Nat), .string (B x)]) (t := 45) (fr := (0, 0)) (heap_alloc_new wr _)) (by simp [Value.oneCell'])
                    (by omega) (by unfold maxLen; omega) (by omega) (by simp; omega) (wr.heap.size + 1) (by simp) ?_; intro gg cap2 w7 hown7 hgrow hat hlt7))
              all_goals
                have Hb7 : Hid (Below w1.heap.size w1 w7) := Lib.hid ((step_new Hbel.out (.cells #[.int .i64 (a : Nat), .string (B x)] 45)).drew.grown hgrow (by simp; omega) (fun q hq => (Hown.out.lt q hq).1))
                rw [hcat.out] at hown7
                have Hown7 := Lib.hid hown7
                clear hown7 hgrow hat
                go_wp2
                go_roundw
                case rel => exact ⟨k + 1, by omega, by go_num, by rw [hflat.out, B_append], by rw [hflat.out, List.length_append, Hfl.out, Hx256.out]; omega, Hown7.out, hall1.out, Hb7.out⟩
                case measure => simp [intOf]; omega
            · have hne : (((B x).size : Int) != 256) = true := by rw [hx, bne_iff_ne]; omega
              have HE : Hid (unpL (h :: ls) = .error 7) := Lib.hid (by rw [HU.out, Hmem.out hx256]; rfl)
              have hk0 : (0 : Int) ≤ (k : Int) := by omega
              have hk2 : (0 : Int) ≤ 1 + (k : Int) := by omega
              have hk3 : (1 : Int) + (k : Int) < (ls.length : Int) + 1 := by omega
              have e1' : wr.cell? ⟨b, off + (1 + k), none⟩ = some (.string (B x)) := by rw [show off + (1 + k) = off + 1 + k by omega]; exact e1
              clear hx256 hx
              go_wp2
              go_ret3
              exact ⟨step_call Hb1.out Hbel.out, UnpPost.bad HE.out⟩
          · obtain rfl : k = at'.length := by omega
            rw [show D.take at'.length = D by rw [← HDl.out, List.take_length]] at *
            rw [Hall.out, if_pos rfl] at HU
            rw [show (at'.zip D).take at'.length = at'.zip D from List.take_of_length_le (by rw [List.length_zip]; omega)] at Hown
            have hh256 : (B h).size = 256 := by rw [size_B]; exact Hsome.out.1
            have hhs : (248 : Int) ≤ ((B h).size : Int) := by omega
            have hx0 : (B h).extract 0 248 = B (h.take 248) := by rw [extract_take, L_B]
            have hcs : ¬ 9223372036854775807 < (B (h.take 248)).size + (B D.flatten).size := by rw [size_B, List.length_take]; omega
            have Hcrc := Lib.hid (fun w => ref2_Crc (B (h.take 248) ++ B D.flatten) (by rw [ByteArray.size_append]; omega) w)
            rw [show L (B (h.take 248) ++ B D.flatten) = h.take 248 ++ D.flatten by rw [L_append, L_B, L_B]] at Hcrc
            have HS : Hid (sumT (h.take 248) D = fixedL (crc (h.take 248 ++ D.flatten))) := Lib.hid rfl
            have Hlt := Lib.hid (crc_lt (h.take 248 ++ D.flatten))
            have Hx1 := Lib.hid (show (B h).extract 248 252 = B ((h.drop 248).take 4) by rw [extract_B, L_B])
            have Hbel := Lib.hid hbel
            have hhs2 : (252 : Int) ≤ ((B h).size : Int) := by omega
            clear hbel hown hall hAz hh256
            generalize crc (h.take 248 ++ D.flatten) = c at *
            have hlt : (c : Int) < 4294967296 := by have := Hlt.out; omega
            have Hfix := Lib.hid (fun w => ref2_Fixed (c : Int) (by omega) hlt w)
            rw [Int.toNat_natCast] at Hfix
            go_wp2
            by_cases hS : (h.drop 248).take 4 = sumT (h.take 248) D
            · have HE : Hid (unpL (h :: ls) = .ok (seq, at'.zip D)) := Lib.hid (by rw [HU.out, if_pos hS])
              have heq : (((B h).extract 248 252).toList == (B (fixedL c)).toList) = true := by
                rw [Hx1.out, hS, HS.out, beq_self_eq_true]
              clear hS
              go_region_held3 (fun w' => w'.cell? ⟨b, off, none⟩ = some (.string (B h)))
                (first | assumption | exact cell_call hb9 (by assumption))
                (first
                  | (go_at_call 27; refine (Hcrc.out _).mono ?_; rintro e w9 ⟨rfl, hb9⟩; have HB9 : Hid (Below wr.heap.size wr w9) := Lib.hid (by first | exact hb9 | exact step_call (below_drew _) hb9))
                  | (go_at_call 26; refine (Hfix.out _).mono ?_; rintro e w10 ⟨rfl, hb9⟩; have HB10 : Hid (Below wr.heap.size wr w10) := Lib.hid (step_call HB9.out hb9)))
              all_goals
                go_wp2
                go_ret3
                refine ⟨step_call Hb1.out (step_call Hbel.out HB10.out), ?_⟩
                unfold UnpPost
                rw [HE.out]
                refine ⟨_, rfl, ?_⟩
                rw [show (at'.zip D).length = at'.length by rw [List.length_zip, HDl.out, Nat.min_self]]
                exact own_base (own_kept Hown.out HB10.out) hb1s
            · have HE : Hid (unpL (h :: ls) = .error 8) := Lib.hid (by rw [HU.out, if_neg hS])
              have heq : (((B h).extract 248 252).toList == (B (fixedL c)).toList) = false := by
                rw [Hx1.out, toList_B, toList_B, beq_eq_false_iff_ne, ← HS.out]
                exact hS
              clear hS
              go_region_held3 (fun w' => w'.cell? ⟨b, off, none⟩ = some (.string (B h)))
                (first | assumption | exact cell_call hb9 (by assumption))
                (first
                  | (go_at_call 27; refine (Hcrc.out _).mono ?_; rintro e w9 ⟨rfl, hb9⟩; have HB9 : Hid (Below wr.heap.size wr w9) := Lib.hid (by first | exact hb9 | exact step_call (below_drew _) hb9))
                  | (go_at_call 26; refine (Hfix.out _).mono ?_; rintro e w10 ⟨rfl, hb9⟩; have HB10 : Hid (Below wr.heap.size wr w10) := Lib.hid (step_call HB9.out hb9)))
              all_goals
                go_wp2
                go_ret3
                exact ⟨step_call Hb1.out (step_call Hbel.out HB10.out), UnpPost.bad HE.out⟩
end Go.Proofs.YtnljmhdaloolgaaDoor
