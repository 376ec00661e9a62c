/- Chapter 3: the program's Head and Unpack. Conditions: lengths. -/
import Derived.Test.YtlgfjoicdbjfjaaDoorFrmB
namespace Go.Proofs.YtlgfjoicdbjfjaaDoor
open Go.RowKit Go.Wir Go.Blk Go.Frm

/-- What Head tells. -/
def headV (s : Txt) : Nat × Nat × Bool := match readL s with
  | none => (0, 0, false)
  | some (q, l) => (q, l.length, true)
def UnpPost (l : List Txt) (base : Nat) (e : Ending) (w' : World) : Prop := match unpL l with
  | .error c => e = .returned (.tuple #[.int .u64 0, .slice none 0 0, .int .i64 (c : Nat)])
  | .ok (seq, ws) => ∃ v, e = .returned (.tuple #[.int .u64 (seq : Nat), v, .int .i64 0]) ∧ w'.ownsRow base 47 2 v ws.length (wrCells ws)
theorem UnpPost.bad {l : List Txt} {base c : Nat} {w' : World} (h : unpL l = .error c) : UnpPost l base (.returned (.tuple #[.int .u64 0, .slice none 0 0, .int .i64 (c : Nat)])) w' := by
  unfold UnpPost; rw [h]
theorem sum_test (h : Txt) (S : Txt) (_ : h.length = 256) (he : h.drop 252 = endT) (hS : S.length = 4) : ((h.drop 248).take 4 = S) ↔ S ++ endT = h.drop 248 := by
  have e : h.drop 248 = (h.drop 248).take 4 ++ endT := by
    rw [← he]
    have := (List.take_append_drop 4 (h.drop 248)).symm
    rwa [List.drop_drop] at this
  constructor
  · intro h1; rw [e, h1]
  · intro h1; rw [← h1, List.take_left' hS]
theorem Tryd.info_wrF : (Tryd.prog.info? 47).map (fun i => (i.zero, i.size, i.bytes)) = some (some (.agg #[.int .i64 0, .string ⟨#[]⟩]), 2, 24) := by kernel_rfl
theorem cell2_newF (w : World) (x y : Value) (t : TypeId) : ∀ (j : Nat) u, [x, y][j]? = some u → (w.alloc (.cells #[x, y] t)).cell? ((⟨w.heap.size, 0, none⟩ : Addr).add j) = some u := by
  intro j u hu
  have hh := heap_alloc_new w (.cells #[x, y] t)
  match j, hu with
  | 0, hu => simp at hu; subst hu; rw [show ((⟨w.heap.size, 0, none⟩ : Addr).add 0) = ⟨w.heap.size, 0, none⟩ from rfl, Lib.cell_of_heap hh]; rfl
  | 1, hu => simp at hu; subst hu; rw [show ((⟨w.heap.size, 0, none⟩ : Addr).add 1) = ⟨w.heap.size, 1, none⟩ from rfl, Lib.cell_of_heap hh]; rfl
  | j + 2, hu => simp at hu
theorem zip_succ (a : List Nat) (d : List Txt) (k : Nat) (ha : k < a.length) (hd : k < d.length) : (a.zip d).take (k + 1) = (a.zip d).take k ++ [(a[k], d[k])] := by
  rw [List.take_succ_eq_append_getElem (by rw [List.length_zip]; omega), List.getElem_zip]
set_option maxRecDepth 100000 in
set_option maxHeartbeats 1600000 in
theorem frame_Unpack (l : List Txt) (v : Value) (hn : l.length ≤ 100000) (hl : ∀ s ∈ l, s.length ≤ 9223372036854775807) (w : World) (hr : Row w v (txtV l)) :
    Calls Tryd.prog 53 #[v] w fun e w' => Below w.heap.size w w' ∧ UnpPost l w.heap.size e w' := by
  obtain ⟨oa, cap, rfl, hcell⟩ := txt_row hr
  cases l with
  | nil =>
    have hE : Hid (unpL [] = .error 7) := Lib.hid rfl
    clear hcell hr
    go_enter Tryd.func53, Tryd.ntmps53
    go_wp2
    go_ret3
    exact ⟨Below.refl _ _, UnpPost.bad hE.out⟩
  | cons h ls =>
    obtain ⟨b, off, rfl, hb, hcap, c0⟩ := hcell 0 (by simp)
    have Hcell : Hid (∀ i (hi : i < ls.length), w.cell? ⟨b, off + 1 + i, none⟩ = some (.string (B ls[i]))) := Lib.hid (fun i hi => by
      obtain ⟨b', off', e, _, _, hc⟩ := hcell (i + 1) (by simp; omega)
      simp only [Option.some.injEq, Addr.mk.injEq, and_true] at e
      obtain ⟨rfl, rfl⟩ := e
      rw [show off + 1 + i = off + (i + 1) by omega, hc]; rfl)
    rw [Nat.add_zero, List.getElem_cons_zero] at c0
    have hh := hl h (by simp)
    have Hr := Lib.hid (frame_read h hh w)
    have hlen : (h :: ls).length = ls.length + 1 := rfl
    rw [hlen] at hn hcap ⊢
    have HU : Hid (unpL (h :: ls) = match readL h with | none => .error 7 | some (seq, at') => if ls.length < at'.length then .error 7 else if (ls.take at'.length).all (fun s => decide (s.length = 256)) then (if (h.drop 248).take 4 = sumT (h.take 248) (ls.take at'.length) then .ok (seq, at'.zip (ls.take at'.length)) else .error 8) else .error 7) := Lib.hid rfl
    unfold ReadPost at Hr
    have h1n : ((ls.length : Int) + 1 == 0) = false := by rw [beq_eq_false_iff_ne]; omega
    clear hcell hr hl hlen
    cases hc : readL h with
    | none =>
      rw [hc] at Hr HU
      simp only at Hr HU
      clear hc
      go_enter Tryd.func53, Tryd.ntmps53
      go_wp2_with fail
      refine Hr.out.mono ?_
      rintro e w1 ⟨hb1, n, vv, rfl⟩
      go_wp2
      go_ret3
      exact ⟨hb1, UnpPost.bad HU.out⟩
    | some q =>
      obtain ⟨seq, at'⟩ := q
      have Hsome := Lib.hid (readL_some hc)
      rw [hc] at Hr HU
      simp only at Hr HU
      have ha48 : at'.length ≤ 48 ∧ 1 ≤ at'.length := by
        obtain ⟨_, _, _, h4, _, h5, h6⟩ := Hsome.out
        rw [h4, numsAt_length]; omega
      obtain ⟨ha48, ha1⟩ := ha48
      clear hc
      go_enter Tryd.func53, Tryd.ntmps53
      go_wp2_with fail
      refine Hr.out.mono ?_
      rintro e w1 ⟨hb1, vv, rfl, hown⟩
      obtain ⟨av, cv, hvv, hac⟩ := own_num hown
      subst hvv
      have Hac := Lib.hid hac
      have Hb1 := Lib.hid hb1
      have hb1s := hb1.size
      have d0 := cell_call hb1 c0
      clear hac hown hb1
      by_cases hshort : ls.length < at'.length
      · have HE : Hid (unpL (h :: ls) = .error 7) := Lib.hid (by rw [HU.out, if_pos hshort])
        go_wp2
        go_ret3
        exact ⟨Hb1.out, UnpPost.bad HE.out⟩
      · rw [if_neg hshort] at HU
        obtain ⟨D, hD⟩ : ∃ D, D = ls.take at'.length := ⟨_, rfl⟩
        have hDl : D.length = at'.length := by rw [hD, List.length_take]; omega
        have HDc : Hid (∀ i (hi : i < D.length), w.cell? ⟨b, off + 1 + i, none⟩ = some (.string (B D[i]))) := Lib.hid (fun i hi => by
          rw [Hcell.out i (by omega)]; simp only [hD, List.getElem_take])
        rw [← hD] at HU
        have HDl := Lib.hid hDl
        clear hD hDl Hcell
        obtain ⟨i0, hi, hz0, hz1, hz2⟩ := info_parts Tryd.info_wrF
        have hn2 : (1 : Int) + (at'.length : Int) ≤ (cap : Int) := by omega
        go_wp2
        rw [show 1 + at'.length - 1 = at'.length by omega]
        go_loopw [8, 40] (fun x8 x40 wr => ∃ k : Nat, k ≤ at'.length ∧ x40 = .int .i64 k ∧ wr.ownsRow w1.heap.size 47 2 x8 k (wrCells ((at'.zip D).take k)) ∧ (D.take k).all (fun s => decide (s.length = 256)) = true ∧ Below w1.heap.size w1 wr) (fun _ x40 _ => at'.length - (intOf x40).toNat)
        case atStart => exact ⟨0, by omega, rfl, World.ownsRow_nil _ _ _ _, rfl, Below.refl _ _⟩
        case round =>
          obtain ⟨k, hk, rfl, hown, hall, hbel⟩ := hrel
          have Hall := Lib.hid hall
          have hbz := hbel.size
          obtain ⟨ax, cx, rfl⟩ := own_form hown
          have Hown := Lib.hid hown
          have d1 := cell_call hbel d0
          by_cases hlt : k < at'.length
          · have hkD : k < D.length := by rw [HDl.out]; exact hlt
            have e1 := cell_below hbel (by omega) (cell_call Hb1.out (HDc.out k hkD))
            obtain ⟨bv, rfl, hbv1, hbv2, hbv3⟩ := Hac.out k hlt
            have e2 := cell_below hbel hbv2 hbv3
            have Hzs := Lib.hid (zip_succ at' D k hlt hkD)
            have Hds := Lib.hid (show D.take (k + 1) = D.take k ++ [D[k]] from List.take_succ_eq_append_getElem hkD)
            have Hmem : Hid (D[k].length ≠ 256 → D.all (fun s => decide (s.length = 256)) = false) := Lib.hid (fun h5 => by
              rw [← Bool.not_eq_true, List.all_eq_true]
              intro hh
              exact h5 (of_decide_eq_true (hh _ (List.getElem_mem hkD))))
            have Hbel := Lib.hid hbel
            have hk1 : (k : Int) < (at'.length : Int) := by omega
            clear hall hbel hown hbv3
            generalize D[k] = x at *
            generalize at'[k] = a at *
            have hx := size_B x
            by_cases hx256 : x.length = 256
            · have hne : (((B x).size : Int) != 256) = false := by rw [hx, hx256]; rfl
              have hown2 := Lib.hid (Hown.out.alloc (.cells #[.int .i64 (a : Nat), .string (B x)] 47))
              have hnews := Lib.hid (cell2_newF wr (.int .i64 (a : Nat)) (.string (B x)) 47)
              have hcat : Hid (wrCells ((at'.zip D).take k) ++ [.int .i64 (a : Nat), .string (B x)] = wrCells ((at'.zip D).take (k + 1))) := Lib.hid (by rw [Hzs.out, wrCells_append]; rfl)
              have hall1 : Hid ((D.take (k + 1)).all (fun s => decide (s.length = 256)) = true) := Lib.hid (by rw [Hds.out, List.all_append, Hall.out]; simpa using hx256)
              clear hx256 hx
              go_wp2_with (at_builtin; go_must (refine wpList_append_where _ rfl _ _ 35 rfl w1.heap.size 47 i0 (.agg #[.int .i64 0, .string ⟨#[]⟩]) 2 24 Tryd.underlying35 hi hz0 hz1 hz2 rfl (by decide) _ _ _ rfl hown2.out ⟨wr.heap.size, 0, none⟩ 1 1 [.int .i64 (a : Nat), .string (B x)] rfl rfl ?c1 ?c2 ?c3 ?c4 ?c5 ?_))
              case c1 => exact hnews.out
              case c2 => simp [Value.oneCell']
              case c3 => unfold maxLen; omega
              case c4 => omega
              case c5 => simp; omega
              intro v' w7 hown7 hgrow7 _
              have hb7 : Below w1.heap.size w1 w7 := (step_new Hbel.out _).grown hgrow7 (by simp; omega) (fun q hq => (Hown.out.lt q hq).1)
              rw [hcat.out] at hown7
              have Hown7 := Lib.hid hown7
              have Hb7 := Lib.hid hb7
              clear hown7 hb7 hgrow7
              go_wp2
              go_roundw
              case rel => exact ⟨k + 1, by omega, by go_num, Hown7.out, hall1.out, Hb7.out⟩
              case measure => simp [intOf]; omega
            · have hne : (((B x).size : Int) != 256) = true := by rw [hx, bne_iff_ne]; omega
              have HE : Hid (unpL (h :: ls) = .error 7) := Lib.hid (by rw [HU.out, Hmem.out hx256]; rfl)
              clear hx256 hx
              go_wp2
              go_ret3
              exact ⟨step_call Hb1.out Hbel.out, UnpPost.bad HE.out⟩
          · obtain rfl : k = at'.length := by omega
            rw [show D.take at'.length = D by rw [← HDl.out, List.take_length]] at Hall
            rw [Hall.out, if_pos rfl] at HU
            have HDs := Lib.hid (show ∀ s ∈ D, s.length ≤ 1000000 from fun s hs => by have := Hall.out; rw [List.all_eq_true] at this; have := of_decide_eq_true (this s hs); omega)
            rw [show (at'.zip D).take at'.length = at'.zip D from List.take_of_length_le (by rw [List.length_zip]; omega)] at Hown
            have Hsum := Lib.hid (fun w' (hr : Row w' (.slice (some ⟨b, off + 1, none⟩) at'.length (cap - 1)) (txtV D)) => frame_sum (h.take 248) D _ (by rw [List.length_take, Hsome.out.1]; omega) (by rw [HDl.out]; omega) (by rw [HDl.out]; omega) HDs.out w' hr)
            have Hrow : Hid (∀ w', Below wr.heap.size wr w' → Row w' (.slice (some ⟨b, off + 1, none⟩) at'.length (cap - 1)) (txtV D)) := Lib.hid (fun w' hb' => by
              have := row_tail (w := w') (b := b) (off := off + 1) (cap := cap - 1) (vs := txtV D) (Nat.lt_of_lt_of_le hb (Nat.le_trans hb1s (Nat.le_trans hbz hb'.size))) (by rw [txtV_length, HDl.out]; omega) (fun i hi => by
                rw [txtV_length] at hi
                rw [cell_call hb' (cell_call hbel (cell_call Hb1.out (HDc.out i hi)))]
                simp [txtV])
              rwa [txtV_length, HDl.out] at this)
            have hh256 : (B h).size = 256 := by rw [size_B]; exact Hsome.out.1
            have hhs : (248 : Int) ≤ ((B h).size : Int) := by omega
            have Hx1 := Lib.hid (show (B h).extract 0 248 = B (h.take 248) by rw [extract_take, L_B])
            have Hx2 := Lib.hid (show (B h).extract 248 (B h).size = B (h.drop 248) by rw [extract_to_end, L_B])
            have Htest := Lib.hid (sum_test h (sumT (h.take 248) D) Hsome.out.1 Hsome.out.2.2.1 (sumT_length _ _))
            have hSl : (sumT (h.take 248) D).length = 4 := sumT_length _ _
            have Hbel := Lib.hid hbel
            clear hbel hown hall
            generalize sumT (h.take 248) D = S at *
            have hSs := size_B S
            have Hown := Lib.hid (Hown.out)
            go_wp2
            by_cases hS : (h.drop 248).take 4 = S
            · have HE : Hid (unpL (h :: ls) = .ok (seq, at'.zip D)) := Lib.hid (by rw [HU.out, if_pos hS])
              have heq : ((B S ++ ⟨#[67, 68, 88, 69]⟩).toList == ((B h).extract 248 256).toList) = true := by
                rw [← hh256, Hx2.out, show (⟨#[67, 68, 88, 69]⟩ : ByteArray) = B endT from rfl, B_append, Htest.out.1 hS, beq_self_eq_true]
              clear hS
              go_region_held3 (fun w' => w'.cell? ⟨b, off, none⟩ = some (.string (B h)))
                (first | assumption | exact cell_call hb9 (by assumption))
                ((go_at_call 50; rw [Hx1.out]; refine (Hsum.out _ (Hrow.out _ (by first | exact below_drew _ | exact Below.refl _ _))).mono ?_; rintro e w9 ⟨rfl, hb9⟩; have HB9 : Hid (Below wr.heap.size wr w9) := Lib.hid (by first | exact hb9 | exact step_call (below_drew _) hb9)))
              all_goals
                go_wp2
                go_ret3
                refine ⟨step_call Hb1.out (step_call Hbel.out HB9.out), ?_⟩
                unfold UnpPost
                rw [HE.out]
                refine ⟨_, rfl, ?_⟩
                rw [show (at'.zip D).length = at'.length by rw [List.length_zip, HDl.out, Nat.min_self]]
                exact own_base (own_kept Hown.out HB9.out) hb1s
            · have HE : Hid (unpL (h :: ls) = .error 8) := Lib.hid (by rw [HU.out, if_neg hS])
              have heq : ((B S ++ ⟨#[67, 68, 88, 69]⟩).toList == ((B h).extract 248 256).toList) = false := by
                rw [← hh256, Hx2.out, show (⟨#[67, 68, 88, 69]⟩ : ByteArray) = B endT from rfl, B_append, toList_B, toList_B, beq_eq_false_iff_ne]
                exact fun h9 => hS (Htest.out.2 h9)
              clear hS
              go_region_held3 (fun w' => w'.cell? ⟨b, off, none⟩ = some (.string (B h)))
                (first | assumption | exact cell_call hb9 (by assumption))
                ((go_at_call 50; rw [Hx1.out]; refine (Hsum.out _ (Hrow.out _ (by first | exact below_drew _ | exact Below.refl _ _))).mono ?_; rintro e w9 ⟨rfl, hb9⟩; have HB9 : Hid (Below wr.heap.size wr w9) := Lib.hid (by first | exact hb9 | exact step_call (below_drew _) hb9)))
              all_goals
                go_wp2
                go_ret3
                exact ⟨step_call Hb1.out (step_call Hbel.out HB9.out), UnpPost.bad HE.out⟩
end Go.Proofs.YtlgfjoicdbjfjaaDoor
