/- The reference's Unpack: bytes are unpacked, or refused. Conditions: not longer than 2^39 bytes. -/
import Derived.Test.YtefnddhondbjbaaDictUnpack
namespace Go.Proofs.Ytefnddhondbjbaa
open Go.RowKit Go.Wir Go.Dic

def tvN (s : List UInt8) : Nat := ((toVarL s).map Prod.fst).getD 0
def tvR (s : List UInt8) : List UInt8 := ((toVarL s).map Prod.snd).getD []
def tvOk (s : List UInt8) : Bool := (toVarL s).isSome
def ttT (s : List UInt8) : List UInt8 := ((toTextL s).map Prod.fst).getD []
def ttR (s : List UInt8) : List UInt8 := ((toTextL s).map Prod.snd).getD []
def ttOk (s : List UInt8) : Bool := (toTextL s).isSome
theorem ref2_ToVar_any (s : List UInt8) (hs : s.length ≤ 9223372036854775807) (w : World) :
    Calls Try.prog 34 #[.string (B s)] w fun e w' => e = .returned (.tuple #[.int .u64 (tvN s : Nat), .string (B (tvR s)), .bool (tvOk s)]) ∧ Below w.heap.size w w' := by
  have := ref2_ToVar (B s) (by rw [size_B]; exact hs) w
  rw [L_B] at this
  unfold tvN tvR tvOk
  rcases h : toVarL s with _ | ⟨n, r⟩
  · rw [h] at this; exact this
  · rw [h] at this; exact this
theorem ref2_ToText_any (s : List UInt8) (hs : s.length ≤ 9223372036854775807) (w : World) :
    Calls Try.prog 35 #[.string (B s)] w fun e w' => e = .returned (.tuple #[.string (B (ttT s)), .string (B (ttR s)), .bool (ttOk s)]) ∧ Below w.heap.size w w' := by
  have := ref2_ToText (B s) (by rw [size_B]; exact hs) w
  rw [L_B] at this
  unfold ttT ttR ttOk
  rcases h : toTextL s with _ | ⟨n, r⟩
  · rw [h] at this; exact this
  · rw [h] at this; exact this
theorem tvR_le (s : List UInt8) : (tvR s).length ≤ s.length := by
  unfold tvR
  rcases h : toVarL s with _ | ⟨n, r⟩
  · simp
  · exact r_toVarL_le h
theorem ttR_le (s : List UInt8) : (ttT s).length + (ttR s).length ≤ s.length := by
  unfold ttT ttR
  rcases h : toTextL s with _ | ⟨t, r⟩
  · simp
  · have h1 := toTextL_some h
    have h2 := congrArg List.length h1.1
    rw [List.length_append] at h2
    have : t.length ≤ (textL t).length := by unfold textL; rw [List.length_append]; omega
    show t.length + r.length ≤ _; omega
/-- The index passed over. -/
def idxR : Nat → List UInt8 → Option (List UInt8)
  | 0, s => some s
  | g + 1, s => if ttOk s && tvOk (ttR s) then idxR g (tvR (ttR s)) else none
/-- Entries read one by one, each behind the one ahead. -/
def entsR : Nat → List UInt8 → List UInt8 → Option (List Ent)
  | 0, _, _ => some []
  | m + 1, last, q => if tvOk q && decide (tvN q ≤ last.length) && ttOk (tvR q) && ttOk (ttR (tvR q)) then
      (entsR m (last.take (tvN q) ++ ttT (tvR q)) (ttR (ttR (tvR q)))).map ((last.take (tvN q) ++ ttT (tvR q), ttT (ttR (tvR q))) :: ·) else none
def parseR (s : List UInt8) : Option (List Ent) := if tvOk s && decide (tvN s ≤ 1048576) then
    (match idxR ((tvN s + 15) / 16) (tvR s) with
     | none => none
     | some q => entsR (tvN s) [] q) else none
def unpR (s : List UInt8) : Option (List Ent) := (parseR s).filter (chk s)
def IdxRel (G : Nat) (r : List UInt8) (j : Nat) (ok : Bool) (q : List UInt8) : Prop := idxR G r = if ok then idxR (G - j) q else none
def EntRel (P : Option (List Ent)) (n j : Nat) (ok : Bool) (last q : List UInt8) (acc : List Ent) : Prop := P = if ok then (entsR (n - j) last q).map (acc ++ ·) else none
theorem IdxRel.go {G : Nat} {r : List UInt8} {j : Nat} {q : List UInt8} (h : IdxRel G r j true q) (hj : j < G) : IdxRel G r (j + 1) (ttOk q && tvOk (ttR q)) (tvR (ttR q)) := by
  unfold IdxRel at *
  rw [h, if_pos rfl, show G - j = (G - (j + 1)) + 1 by omega]
  rfl
theorem EntRel.go {P : Option (List Ent)} {n j : Nat} {last q : List UInt8} {acc : List Ent} (h : EntRel P n j true last q acc) (hj : j < n) (h1 : tvOk q = true) (h2 : tvN q ≤ last.length) (h3 : ttOk (tvR q) = true) :
    EntRel P n (j + 1) (ttOk (ttR (tvR q))) (last.take (tvN q) ++ ttT (tvR q)) (ttR (ttR (tvR q))) (acc ++ [(last.take (tvN q) ++ ttT (tvR q), ttT (ttR (tvR q)))]) := by
  unfold EntRel at *
  rw [h, if_pos rfl, show n - j = (n - (j + 1)) + 1 by omega]
  simp only [entsR, h1, h3, decide_eq_true h2, Bool.true_and]
  split
  · cases entsR (n - (j + 1)) (last.take (tvN q) ++ ttT (tvR q)) (ttR (ttR (tvR q))) <;> simp
  · rfl
theorem EntRel.bad {P : Option (List Ent)} {n j : Nat} {last q : List UInt8} {acc : List Ent} (h : EntRel P n j true last q acc) (hj : j < n) (hb : (tvOk q && decide (tvN q ≤ last.length) && ttOk (tvR q)) = false) : P = none := by
  unfold EntRel at *
  rw [h, if_pos rfl, show n - j = (n - (j + 1)) + 1 by omega]
  simp only [entsR, hb, Bool.false_and]
  rfl
theorem ents_of_ownT {w : World} {base : Nat} {e : TypeId} {v : Value} {es : List Ent} (h : w.ownsRow base e 2 v es.length (entCells es)) : Ents w v es := by
  rcases h.2 with ⟨rfl, h0⟩ | ⟨g, cap, cur, rfl, hg, hh, h1, h2, h3, h4⟩
  · exact .inl ⟨none, 0, rfl, List.length_eq_zero_iff.1 h0⟩
  · refine .inr ⟨g, 0, cap, rfl, h1, ?_, fun i hi => ?_⟩
    · rcases Nat.lt_or_ge g w.heap.size with h' | h'
      · exact h'
      · simp [Array.getElem?_eq_none h'] at hh
    · obtain ⟨e1, e2⟩ := entCells_get es i hi
      have k1 : cur[i * 2]? = (entCells es)[i * 2]? := by rw [← h4, List.getElem?_take, if_pos (by omega), Array.getElem?_toList]
      have k2 : cur[i * 2 + 1]? = (entCells es)[i * 2 + 1]? := by rw [← h4, List.getElem?_take, if_pos (by omega), Array.getElem?_toList]
      constructor
      · rw [Lib.cell_of_heap hh, Nat.zero_add, k1, e1]
      · rw [Lib.cell_of_heap hh, Nat.zero_add, k2, e2]
theorem Try.info_entR : (Try.prog.info? 52).map (fun i => (i.zero, i.size, i.bytes)) = some (some (.agg #[.string ⟨#[]⟩, .string ⟨#[]⟩]), 2, 32) := by kernel_rfl

set_option maxRecDepth 100000 in
set_option maxHeartbeats 1600000 in
theorem ref13_Unpack (s : ByteArray) (hs : s.size ≤ 549755813888) (w : World) :
    Calls Try.prog 21 #[.string s] w fun e w' => Below w.heap.size w w' ∧ UnpPost (unpR (L s)) e w' := by
  obtain ⟨i0, hi, hz0, hz1, hz2⟩ := info_parts Try.info_entR
  have hsL : (L s).length ≤ 549755813888 := by rw [length_L]; exact hs
  obtain ⟨q0, rfl⟩ : ∃ q0, s = B q0 := ⟨L s, (B_L s).symm⟩
  rw [L_B] at *
  rw [size_B] at hs
  have Hv := Lib.hid (ref2_ToVar_any q0 (by omega))
  by_cases hbad : tvOk q0 = false
  · have hR : unpR q0 = none := by unfold unpR parseR; rw [hbad]; rfl
    rw [hR]
    rw [hbad] at Hv
    clear hR hbad hsL
    go_enter Try.func21, Try.ntmps21
    go_wp2_with fail
    refine (Hv.out _).mono ?_
    rintro e w1 ⟨rfl, hb1⟩
    go_wp2
    go_ret2
    exact ⟨hb1, rfl⟩
  have hok : tvOk q0 = true := by simpa using hbad
  rw [hok] at Hv
  by_cases hbig : 1048576 < tvN q0
  · have hR : unpR q0 = none := by unfold unpR parseR; rw [hok, decide_eq_false (by omega)]; rfl
    rw [hR]
    clear hR hok hbad hsL
    generalize tvN q0 = n at *
    go_enter Try.func21, Try.ntmps21
    go_wp2_with fail
    refine (Hv.out _).mono ?_
    rintro e w1 ⟨rfl, hb1⟩
    go_wp2
    go_ret2
    exact ⟨hb1, rfl⟩
  have HR : Hid (unpR q0 = (match idxR ((tvN q0 + 15) / 16) (tvR q0) with
     | none => none
     | some q => entsR (tvN q0) [] q).filter (chk q0)) := Lib.hid (by unfold unpR parseR; rw [hok, decide_eq_true (by omega)]; rfl)
  have hr0 := tvR_le q0
  generalize hPP : (match idxR ((tvN q0 + 15) / 16) (tvR q0) with
     | none => none
     | some q => entsR (tvN q0) [] q) = P at *
  have hP := Lib.hid hPP
  clear hPP
  generalize hRR : unpR q0 = R at *
  have HRR := Lib.hid hRR
  clear hRR hok hbad
  generalize tvN q0 = n at *
  generalize tvR q0 = r at *
  have hn64 : IntKind.i64.wrap (n : Int) = (n : Int) := IntWalk.i64_in _ (by omega)
  go_enter Try.func21, Try.ntmps21
  go_wp2_with fail
  refine (Hv.out _).mono ?_
  rintro e w1 ⟨rfl, hb1⟩
  have Hb1 := Lib.hid hb1
  clear hb1
  go_wp2
  clear hn64
  go_loopw [5, 6, 8] (fun x y i wr => ∃ (j : Nat) (ok : Bool) (q : List UInt8), j ≤ (n + 15) / 16 ∧ i = .int .i64 (16 * j : Nat) ∧ x = .string (B q) ∧ y = .bool ok ∧ q.length ≤ q0.length ∧ IdxRel ((n + 15) / 16) r j ok q ∧ Below w1.heap.size w1 wr) (fun _ _ i _ => n + 16 - (intOf i).toNat)
  case atStart => exact ⟨0, true, r, by omega, rfl, rfl, rfl, hr0, rfl, Below.refl _ _⟩
  case round =>
    obtain ⟨j, ok, q, hj, rfl, rfl, rfl, hq, hrel1, hbel⟩ := hrel
    have Hrel := Lib.hid hrel1
    have Hbel := Lib.hid hbel
    clear hrel1 hbel
    have hcast : ((16 * j : Nat) : Int) = 16 * (j : Int) := by omega
    by_cases hgo : ok = true ∧ 16 * j < n
    · obtain ⟨rfl, hlt⟩ := hgo
      have Hgo := Lib.hid (Hrel.out.go (by omega))
      have Ht := Lib.hid (ref2_ToText_any q (by omega))
      have htr := ttR_le q
      cases htk : ttOk q with
      | true =>
        rw [htk] at Ht Hgo
        clear htk
        have Hv2 := Lib.hid (ref2_ToVar_any (ttR q) (by omega))
        have hvr := tvR_le (ttR q)
        generalize ttR q = q1 at *
        generalize ttT q = t1 at *
        go_wp2_with fail
        refine (Ht.out _).mono ?_
        rintro e w2 ⟨rfl, hb2⟩
        have Hb2 := Lib.hid (step_call Hbel.out hb2)
        clear hb2
        go_wp2_with fail
        refine (Hv2.out _).mono ?_
        rintro e w3 ⟨rfl, hb3⟩
        have Hb3 := Lib.hid (step_call Hb2.out hb3)
        clear hb3
        generalize tvR q1 = q2 at *
        generalize hk2 : tvOk q1 = ok2 at *
        have Hk2 := Lib.hid hk2
        clear hk2
        go_wp2
        go_roundw
        case rel => exact ⟨j + 1, ok2, q2, by omega, by go_num, rfl, rfl, by omega, Hgo.out, Hb3.out⟩
        case measure => simp [intOf]; omega
      | false =>
        rw [htk] at Ht Hgo
        clear htk
        generalize ttR q = q1 at *
        generalize ttT q = t1 at *
        go_wp2_with fail
        refine (Ht.out _).mono ?_
        rintro e w2 ⟨rfl, hb2⟩
        have Hb2 := Lib.hid (step_call Hbel.out hb2)
        clear hb2
        go_wp2
        go_roundw
        case rel => exact ⟨j + 1, false, q1, by omega, by go_num, rfl, rfl, by omega, Hgo.out, Hb2.out⟩
        case measure => simp [intOf]; omega
    · have hex : Hid (IdxRel ((n + 15) / 16) r ((n + 15) / 16) ok q) := Lib.hid (by
        unfold IdxRel at *
        rw [Hrel.out, Nat.sub_self]
        cases ok with
        | false => rfl
        | true => rw [if_pos rfl, if_pos rfl, show (n + 15) / 16 - j = 0 by simp at hgo; omega])
      have He0 : Hid (EntRel P n 0 ok [] q []) := Lib.hid (by
        have h5 := hex.out
        unfold IdxRel at h5
        unfold EntRel
        rw [← hP.out, h5, Nat.sub_self]
        cases ok <;> simp [idxR])
      have Hgo := Lib.hid hgo
      clear hgo
      rcases (show (16 * j < n ∧ ok = false) ∨ ¬ 16 * j < n from by
        by_cases hlt : 16 * j < n
        · exact .inl ⟨hlt, by cases ok with | false => rfl | true => exact absurd ⟨rfl, hlt⟩ Hgo.out⟩
        · exact .inr hlt) with ⟨hlt, rfl⟩ | hlt
      all_goals
        go_wp2
        clear hlt hj hcast
        obtain ⟨wo, rfl⟩ : ∃ wo : World, wo = wr := ⟨_, rfl⟩
        go_loopw [5, 6, 9, 10, 11] (fun x y l z i wi => ∃ (j : Nat) (ok : Bool) (q last : List UInt8) (acc : List Ent), j ≤ n ∧ i = .int .i64 (j : Nat) ∧ x = .string (B q) ∧ y = .bool ok ∧ z = .string (B last) ∧ last.length + q.length ≤ q0.length ∧ acc.length ≤ j ∧ (∀ e ∈ acc, e.1.length ≤ q0.length ∧ e.2.length ≤ q0.length) ∧
          wi.ownsRow wo.heap.size 52 2 l acc.length (entCells acc) ∧ EntRel P n j ok last q acc ∧ Below wo.heap.size wo wi) (fun _ _ _ _ i _ => n - (intOf i).toNat)
        case atStart => exact ⟨0, _, q, [], [], by omega, rfl, rfl, rfl, rfl, by simp; omega, by simp, by simp, World.ownsRow_nil _ _ _ _, He0.out, Below.refl _ _⟩
        case round =>
          obtain ⟨j2, ok2, q2, last, acc, hj2, rfl, rfl, rfl, rfl, hsz, hal, hacc, hown, hrel2, hbel2⟩ := hrel
          have Hacc := Lib.hid hacc
          have Hown := Lib.hid hown
          have Hrel2 := Lib.hid hrel2
          have Hbel2 := Lib.hid hbel2
          have Hb2 := Lib.hid (step_call Hb1.out (step_call Hbel.out hbel2))
          have hbz2 := hbel2.size
          clear hacc hown hrel2 hbel2
          by_cases hgo2 : ok2 = true ∧ j2 < n
          · obtain ⟨rfl, hlt2⟩ := hgo2
            have Hv2 := Lib.hid (ref2_ToVar_any q2 (by omega))
            have hvr := tvR_le q2
            cases hk1 : tvOk q2 with
            | false =>
              have hP0 : Hid (R = none) := Lib.hid (by rw [HR.out, Hrel2.out.bad hlt2 (by rw [hk1]; rfl)]; rfl)
              rw [hk1] at Hv2
              clear hk1
              generalize tvR q2 = q3 at *
              generalize tvN q2 = k3 at *
              go_wp2_with fail
              refine (Hv2.out _).mono ?_
              rintro e w2 ⟨rfl, hb2⟩
              have Hb3 := Lib.hid (step_call Hb2.out hb2)
              clear hb2
              go_wp2
              go_ret2
              exact ⟨Hb3.out, by rw [hP0.out]; rfl⟩
            | true =>
              have hwz : IntKind.u64.wrap ((B last).size : Int) = ((B last).size : Int) := by rw [IntKind.wrap_u64]; have := size_B last; omega
              have hlz := size_B last
              by_cases hkl : tvN q2 ≤ last.length
              · have Ht := Lib.hid (ref2_ToText_any (tvR q2) (by omega))
                have htr := ttR_le (tvR q2)
                cases hk3 : ttOk (tvR q2) with
                | false =>
                  have hP0 : Hid (R = none) := Lib.hid (by rw [HR.out, Hrel2.out.bad hlt2 (by rw [hk1, hk3, Bool.and_false])]; rfl)
                  rw [hk1] at Hv2
                  rw [hk3] at Ht
                  clear hk1 hk3
                  generalize tvR q2 = q3 at *
                  generalize tvN q2 = k3 at *
                  generalize ttR q3 = q4 at *
                  generalize ttT q3 = t4 at *
                  have hkz : ¬ ((B last).size : Int) < (k3 : Int) := by omega
                  go_wp2_with fail
                  refine (Hv2.out _).mono ?_
                  rintro e w2 ⟨rfl, hb2⟩
                  have Hb3 := Lib.hid (step_call Hb2.out hb2)
                  clear hb2
                  go_wp2_with fail
                  refine (Ht.out _).mono ?_
                  rintro e w3 ⟨rfl, hb3⟩
                  have Hb4 := Lib.hid (step_call Hb3.out hb3)
                  clear hb3
                  go_wp2
                  go_ret2
                  exact ⟨Hb4.out, by rw [hP0.out]; rfl⟩
                | true =>
                  have Hgo3 := Lib.hid (Hrel2.out.go hlt2 hk1 hkl hk3)
                  have Ht2 := Lib.hid (ref2_ToText_any (ttR (tvR q2)) (by omega))
                  have htr2 := ttR_le (ttR (tvR q2))
                  rw [hk1] at Hv2
                  rw [hk3] at Ht
                  clear hk1 hk3
                  generalize tvR q2 = q3 at *
                  generalize tvN q2 = k3 at *
                  generalize ttR q3 = q4 at *
                  generalize ttT q3 = t4 at *
                  generalize ttR q4 = q5 at *
                  generalize ttT q4 = t5 at *
                  generalize hok5 : ttOk q4 = ok5 at *
                  have Hok5 := Lib.hid hok5
                  clear hok5
                  have hkz : ¬ ((B last).size : Int) < (k3 : Int) := by omega
                  have hk3z : k3 ≤ (B last).size := by omega
                  have ht4 := size_B t4
                  have hcat : ¬ 9223372036854775807 < ((B last).extract 0 k3).size + (B t4).size := by rw [ByteArray.size_extract]; omega
                  go_wp2_with fail
                  refine (Hv2.out _).mono ?_
                  rintro e w2 ⟨rfl, hb2⟩
                  have Hb3 := Lib.hid (step_call Hbel2.out hb2)
                  have Hown3 := Lib.hid (own_keep Hown.out hb2)
                  clear hb2
                  go_wp2_with fail
                  refine (Ht.out _).mono ?_
                  rintro e w3 ⟨rfl, hb3⟩
                  have Hb4 := Lib.hid (step_call Hb3.out hb3)
                  have Hown4 := Lib.hid (own_keep Hown3.out hb3)
                  clear hb3
                  go_wp2_with fail
                  refine (Ht2.out _).mono ?_
                  rintro e w4 ⟨rfl, hb4⟩
                  have Hb5 := Lib.hid (step_call Hb4.out hb4)
                  have Hown5 := Lib.hid (own_keep Hown4.out hb4)
                  clear hb4
                  have hsz5 := Hb5.out.size
                  have hi5 := Lib.hid (cell2_new w4 w4.heap.size rfl (.string ((B last).extract 0 k3 ++ B t4)) (.string (B t5)) 52)
                  have hown6 := Hown5.out.alloc (.cells #[.string ((B last).extract 0 k3 ++ B t4), .string (B t5)] 52)
                  go_wp2_with (at_builtin; go_must (refine wpList_append_where _ rfl _ _ 24 rfl wo.heap.size 52 i0 (.agg #[.string ⟨#[]⟩, .string ⟨#[]⟩]) 2 32 Try.underlying24 hi hz0 hz1 hz2 rfl (by decide) _ _ _ rfl hown6 ⟨w4.heap.size, 0, none⟩ 1 1 [.string ((B last).extract 0 k3 ++ B t4), .string (B t5)] rfl rfl ?c1 ?c2 ?c3 ?c4 ?c5 ?_))
                  case c1 => exact hi5.out
                  case c2 => simp [Value.oneCell']
                  case c3 => unfold maxLen; omega
                  case c4 => omega
                  case c5 => simp; omega
                  intro v' w6 hown' hgrow _
                  have Hb6 := Lib.hid ((step_new Hb5.out (.cells #[.string ((B last).extract 0 k3 ++ B t4), .string (B t5)] 52)).grown hgrow (by simp; omega) (own_ge hown6))
                  have hX : (B last).extract 0 k3 ++ B t4 = B (last.take k3 ++ t4) := by rw [extract_take, L_B, B_append]
                  have Hown6 : Hid (w6.ownsRow wo.heap.size 52 2 v' (acc ++ [(last.take k3 ++ t4, t5)]).length (entCells (acc ++ [(last.take k3 ++ t4, t5)]))) := Lib.hid (by
                    rw [entCells_append, List.length_append, show entCells [(last.take k3 ++ t4, t5)] = [.string (B (last.take k3 ++ t4)), .string (B t5)] by simp [entCells], ← hX]; exact hown')
                  have Hacc6 : Hid (∀ e ∈ acc ++ [(last.take k3 ++ t4, t5)], e.1.length ≤ q0.length ∧ e.2.length ≤ q0.length) := Lib.hid (by
                    intro e he
                    rcases List.mem_append.1 he with he | he
                    · exact Hacc.out e he
                    · simp only [List.mem_singleton] at he
                      subst he
                      simp only [List.length_append, List.length_take]
                      omega)
                  have HX := Lib.hid hX
                  clear hown' hgrow hown6 hX
                  go_wp2
                  go_roundw
                  case rel => exact ⟨j2 + 1, ok5, q5, last.take k3 ++ t4, acc ++ [(last.take k3 ++ t4, t5)], by omega, by go_num, rfl, rfl, by rw [HX.out], by simp only [List.length_append, List.length_take]; omega, by simp; omega, Hacc6.out, Hown6.out, Hgo3.out, Hb6.out⟩
                  case measure => simp [intOf]; omega
              · have hP0 : Hid (R = none) := Lib.hid (by rw [HR.out, Hrel2.out.bad hlt2 (by rw [decide_eq_false hkl, Bool.and_false, Bool.false_and])]; rfl)
                rw [hk1] at Hv2
                clear hk1
                generalize tvR q2 = q3 at *
                generalize tvN q2 = k3 at *
                have hkz : ((B last).size : Int) < (k3 : Int) := by omega
                go_wp2_with fail
                refine (Hv2.out _).mono ?_
                rintro e w2 ⟨rfl, hb2⟩
                have Hb3 := Lib.hid (step_call Hb2.out hb2)
                clear hb2
                go_wp2
                go_ret2
                exact ⟨Hb3.out, by rw [hP0.out]; rfl⟩
          · have hP3 : Hid (P = if ok2 then some acc else none) := Lib.hid (by
              have h5 := Hrel2.out
              unfold EntRel at h5
              rw [h5]
              cases ok2 with
              | false => rfl
              | true =>
                rw [show n - j2 = 0 by simp at hgo2; omega]
                simp [entsR])
            have hents := ents_of_ownT Hown.out
            have Hpk := Lib.hid (ref13_Right u9 acc wr hents (by omega) (fun e he => by have := Hacc.out e he; omega))
            have Hents := Lib.hid hents
            have hgo3 : (j2 < n ∧ ok2 = false) ∨ ¬ j2 < n := by
              by_cases hlt : j2 < n
              · exact .inl ⟨hlt, by cases ok2 with | false => rfl | true => exact absurd ⟨rfl, hlt⟩ hgo2⟩
              · exact .inr hlt
            clear hents hgo2
            have hcases : (right acc = false ∧ chk q0 acc = false) ∨ (right acc = true ∧ ok2 = false) ∨ (right acc = true ∧ ok2 = true ∧ ((bytesL acc = q0 ∧ chk q0 acc = true) ∨ (bytesL acc ≠ q0 ∧ chk q0 acc = false))) := by
              unfold chk
              cases right acc <;> cases ok2 <;> simp
              by_cases h : bytesL acc = q0 <;> simp [h]
            have HR2 : Hid (R = if ok2 then (if chk q0 acc then some acc else none) else none) := Lib.hid (by
              rw [HR.out, hP3.out]
              cases ok2 <;> simp [Option.filter])
            rcases hcases with ⟨h1, h2⟩ | ⟨h1, rfl⟩ | ⟨h1, rfl, h2⟩
            · have Hnone : Hid (R = none) := Lib.hid (by rw [HR2.out, h2]; cases ok2 <;> rfl)
              rw [h1] at Hpk
              clear h1 h2
              rcases hgo3 with ⟨hlt2, rfl⟩ | hlt2
              · go_wp2_with fail
                refine Hpk.out.mono ?_
                rintro e w2 ⟨rfl, hb2⟩
                have Hb3 := Lib.hid (step_call Hb2.out hb2)
                clear hb2
                go_wp2
                go_ret2
                exact ⟨Hb3.out, by rw [Hnone.out]; rfl⟩
              · cases ok2
                · go_wp2_with fail
                  refine Hpk.out.mono ?_
                  rintro e w2 ⟨rfl, hb2⟩
                  have Hb3 := Lib.hid (step_call Hb2.out hb2)
                  clear hb2
                  go_wp2
                  go_ret2
                  exact ⟨Hb3.out, by rw [Hnone.out]; rfl⟩
                · go_wp2_with fail
                  refine Hpk.out.mono ?_
                  rintro e w2 ⟨rfl, hb2⟩
                  have Hb3 := Lib.hid (step_call Hb2.out hb2)
                  clear hb2
                  go_wp2
                  go_ret2
                  exact ⟨Hb3.out, by rw [Hnone.out]; rfl⟩
            · have Hnone : Hid (R = none) := Lib.hid (by rw [HR2.out]; rfl)
              rw [h1] at Hpk
              clear h1
              rcases hgo3 with ⟨hlt2, h3⟩ | hlt2
              all_goals
                try clear h3
                go_wp2_with fail
                refine Hpk.out.mono ?_
                rintro e w2 ⟨rfl, hb2⟩
                have Hb3 := Lib.hid (step_call Hb2.out hb2)
                clear hb2
                go_wp2
                go_ret2
                exact ⟨Hb3.out, by rw [Hnone.out]; rfl⟩
            · have hlt2 : ¬ j2 < n := by
                rcases hgo3 with ⟨_, h3⟩ | h3
                · cases h3
                · exact h3
              obtain ⟨hsm, hn2⟩ := right_small h1
              have Hby := Lib.hid (fun w' (hb : Below wr.heap.size wr w') => ref13_bytes u9 acc w' (Hents.out.below hb) hn2 hsm)
              rw [h1] at Hpk
              clear h1 hgo3 hsm
              rcases h2 with ⟨h2, h3⟩ | ⟨h2, h3⟩
              · have Hsome : Hid (R = some acc) := Lib.hid (by rw [HR2.out, h3]; rfl)
                rw [h2] at Hby
                clear h2 h3
                have hq1 : ((B q0).toList == (B q0).toList) = true := by simp
                have hq2 : ((B q0).toList != (B q0).toList) = false := by simp
                go_wp2_with fail
                refine Hpk.out.mono ?_
                rintro e w2 ⟨rfl, hb2⟩
                have Hb3 := Lib.hid (step_call Hb2.out hb2)
                have Hby2 := Lib.hid (Hby.out _ hb2)
                have Hents2 := Lib.hid (Hents.out.below hb2)
                clear hb2
                go_wp2_with fail
                refine Hby2.out.mono ?_
                rintro e w3 ⟨rfl, hb3⟩
                have Hb4 := Lib.hid (step_call Hb3.out hb3)
                have Hents3 := Lib.hid (Hents2.out.below hb3)
                clear hb3
                go_wp2
                go_ret2
                exact ⟨Hb4.out, by rw [Hsome.out]; exact ⟨_, rfl, Hents3.out⟩⟩
              · have Hnone : Hid (R = none) := Lib.hid (by rw [HR2.out, h3]; rfl)
                have hq1 : ((B (bytesL acc)).toList == (B q0).toList) = false := by rw [toList_B, toList_B]; simpa using h2
                have hq2 : ((B (bytesL acc)).toList != (B q0).toList) = true := by rw [bne, hq1]; rfl
                clear h2 h3
                generalize bytesL acc = bn at *
                go_wp2_with fail
                refine Hpk.out.mono ?_
                rintro e w2 ⟨rfl, hb2⟩
                have Hb3 := Lib.hid (step_call Hb2.out hb2)
                have Hby2 := Lib.hid (Hby.out _ hb2)
                clear hb2
                go_wp2_with fail
                refine Hby2.out.mono ?_
                rintro e w3 ⟨rfl, hb3⟩
                have Hb4 := Lib.hid (step_call Hb3.out hb3)
                clear hb3
                go_wp2
                go_ret2
                exact ⟨Hb4.out, by rw [Hnone.out]; rfl⟩
end Go.Proofs.Ytefnddhondbjbaa
