/- The law DictReads returns true for every text, list and byte. Condition: lengths and numbers fit an int. -/
import Derived.Test.YtefnddhondbjbaaLDictBack
import Derived.Test.YtefnddhondbjbaaByteRow
import Derived.OpenShut
namespace Go.Proofs.Ytefnddhondbjbaa
open Go.RowKit Go.Wir Go.Dic

/-- Both unpackings, one behind the other: alike. -/
theorem ref13_Pack_right (v : Value) (l : List Ent) (w : World) (h : Ents w v l) (hr : right l = true) :
    Calls Try.prog 12 #[v] w fun e w' => e = .returned (.tuple #[.string (B (bytesL l)), .int .i64 0]) ∧ Below w.heap.size w w' := by
  obtain ⟨h1, h2⟩ := right_small hr
  have := ref13_Pack v l w h (by omega) (fun e he => by have := h1 e he; unfold small at this; omega)
  rw [show packL l = bytesL l by unfold packL; rw [hr]; rfl, show packE l = 0 by unfold packE; rw [hr]; rfl] at this
  exact this
theorem ref13_Pack_wrong (v : Value) (l : List Ent) (w : World) (h : Ents w v l) (hr : right l = false) (hn : l.length ≤ 9223372036854775807) (hz : ∀ e ∈ l, e.1.length ≤ 9223372036854775807 ∧ e.2.length ≤ 9223372036854775807) :
    Calls Try.prog 12 #[v] w fun e w' => e = .returned (.tuple #[.string ⟨#[]⟩, .int .i64 1]) ∧ Below w.heap.size w w' := by
  have := ref13_Pack v l w h hn hz
  rw [packL_wrong hr, packE_wrong hr] at this
  exact this
theorem u8_val (t : Int) : ∃ x : UInt8, IntKind.u8.wrap t = ((x.toNat : Nat) : Int) := by
  refine ⟨UInt8.ofNat (t % 256).toNat, ?_⟩
  rw [IntKind.wrap_u8, UInt8.toNat_ofNat']
  omega
theorem varL_pos (n : Nat) : 0 < (varL n).length := (varL_length n).1
def UnpLen (s : List UInt8) : Prop := ∀ l, unpD s = some l → l.length ≤ 9223372036854775807
theorem unpLen (s : List UInt8) : UnpLen s := fun l h => by have := (right_small ((unpD_iff s l).1 h).1).2; omega
/-- Both unpackings of a text: what they answer, in one word. -/
def BothPost (W : World) (R : Option (List Ent)) (a b e f : Value) (w' : World) : Prop := (∃ l, R = some l ∧ e = .int .i64 0 ∧ f = .int .i64 0 ∧ Ents w' a l ∧ Ents w' b l ∧ l.length ≤ 9223372036854775807) ∨ (R = none ∧ e = .int .i64 7 ∧ f = .int .i64 7 ∧ a = .slice none 0 0 ∧ b = .slice none 0 0)

set_option maxRecDepth 100000 in
set_option maxHeartbeats 3200000 in
theorem walk_DictReads (s : ByteArray) (v : Value) (l : List Ent) (at0 to0 : Int) (w : World) (hs : s.size ≤ maxLen) (hv : Ents w v l) (hz : ∀ e ∈ l, e.1.length ≤ maxLen ∧ e.2.length ≤ maxLen) (hn : l.length ≤ maxLen)
    (hat : (Lit.int .i64 at0).wf = true) (hto : (Lit.int .i64 to0).wf = true) :
    Calls Try.prog 7 #[.string s, v, .int .i64 at0, .int .i64 to0] w fun e w' => e = .returned (.bool true) ∧ Below w.heap.size w w' := by
  unfold maxLen at hz hn hs
  have hat := bounds_i64 hat
  have hto := bounds_i64 hto
  have Hz := Lib.hid hz
  have Hv := Lib.hid hv
  clear hz hv
  cases hok : asOk l with
  | false =>
    go_enter Try.func7, Try.ntmps7
    go_wp2_with fail
    refine (shown13 w).mono ?_
    rintro e w1 ⟨rfl, b1⟩
    have B1 := Lib.hid b1
    clear b1
    go_wp2_with fail
    refine (law_as v l (by omega) Hz.out _ (Hv.out.below B1.out)).mono ?_
    rintro e w2 ⟨b2, h2⟩
    unfold AsPost at h2
    rw [hok, if_neg (by simp)] at h2
    subst h2
    have B2 := Lib.hid (step_call B1.out b2)
    clear b2 hok
    go_wp2
    go_ret
    exact ⟨rfl, B2.out⟩
  | true =>
    have hl3 : l.length ≤ 300 := by
      unfold asOk at hok
      simp only [Bool.and_eq_true, decide_eq_true_eq] at hok
      exact hok.1.1
    by_cases h3 : 3000 < s.size
    · go_enter Try.func7, Try.ntmps7
      go_wp2_with fail
      refine (shown13 w).mono ?_
      rintro e w1 ⟨rfl, b1⟩
      have B1 := Lib.hid b1
      clear b1
      go_wp2_with fail
      refine (law_as v l (by omega) Hz.out _ (Hv.out.below B1.out)).mono ?_
      rintro e w2 ⟨b2, h2⟩
      unfold AsPost at h2
      rw [hok, if_pos rfl] at h2
      obtain ⟨v', rfl, hv'⟩ := h2
      have B2 := Lib.hid (step_call B1.out b2)
      have V2 := Lib.hid hv'
      clear b2 hok hv'
      go_wp2
      go_ret
      exact ⟨rfl, B2.out⟩
    go_enter Try.func7, Try.ntmps7
    go_wp2_with fail
    refine (shown13 w).mono ?_
    rintro e w1 ⟨rfl, b1⟩
    have B1 := Lib.hid b1
    clear b1
    go_wp2_with fail
    refine (law_as v l (by omega) Hz.out _ (Hv.out.below B1.out)).mono ?_
    rintro e w2 ⟨b2, h2⟩
    unfold AsPost at h2
    rw [hok, if_pos rfl] at h2
    obtain ⟨v', rfl, hv'⟩ := h2
    have B2 := Lib.hid (step_call B1.out b2)
    have V2 := Lib.hid hv'
    clear b2 hok hv'
    rcases unp_cases (L s) with ⟨l2, h4, h5, h6⟩ | h4
    · have Hu := Lib.hid (dict_Unpack_some s (by omega) l2 h4)
      have Hr := Lib.hid (ref13_Unpack_some s (by omega) l2 h4)
      have hl2 := unpLen _ _ h4
      clear h4 h5 h6
      go_wp2_with fail
      refine (Hu.out _).mono ?_
      rintro e w3 ⟨b3, va, rfl, hva⟩
      have B3 := Lib.hid (step_call B2.out b3)
      have V3 := Lib.hid (V2.out.below b3)
      have U3 := Lib.hid hva
      clear b3 hva
      go_wp2_with fail
      refine (Hr.out _).mono ?_
      rintro e w4 ⟨b4, vb, rfl, hvb⟩
      have B4 := Lib.hid (step_call B3.out b4)
      have V4 := Lib.hid (V3.out.below b4)
      have U4 := Lib.hid (U3.out.below b4)
      have R4 := Lib.hid hvb
      clear b4 hvb
      go_wp2_with fail
      refine (law_same va vb l2 hl2 _ U4.out R4.out).mono ?_
      rintro e w5 ⟨rfl, b5⟩
      have B5 := Lib.hid (step_call B4.out b5)
      have V5 := Lib.hid (V4.out.below b5)
      clear b5
      cases hr : right l with
      | false =>
        have Hp := Lib.hid (ref13_Pack_wrong v' l _ V5.out hr (by omega) Hz.out)
        clear hr
        go_wp2_with fail
        refine Hp.out.mono ?_
        rintro e w6 ⟨rfl, b6⟩
        have B6 := Lib.hid (step_call B5.out b6)
        clear b6
        go_wp2
        go_ret
        exact ⟨rfl, B6.out⟩
      | true =>
        have Hp := Lib.hid (ref13_Pack_right v' l _ V5.out hr)
        have hbl := bytesL_length hr hl3
        have hpos : 0 < (bytesL l).length := by unfold bytesL; simp only [List.length_append]; have := varL_pos l.length; omega
        clear hr
        rw [← size_B] at hbl hpos
        generalize B (bytesL l) = bs at *
        have hcv := fun (w : World) => run_bytes_of_string (P := Try.prog) w 9 39 5 bs Try.underlying9 Try.underlying39 Try.underlying5
        go_wp2_with fail
        refine Hp.out.mono ?_
        rintro e w6 ⟨rfl, b6⟩
        have B6 := Lib.hid (step_call B5.out b6)
        have hrow := Lib.hid (BRow.of_string w6 bs)
        clear b6
        go_wp2_with fail
        refine (law_pick at0 bs.size hat.1 hat.2 hpos (by omega) _).mono ?_
        rintro e w7 ⟨rfl, hw7⟩
        have B7 : Hid (Below w.heap.size w w7) := Lib.hid (by rw [← hw7]; exact step_new B6.out.drew _)
        have hrow7 : BRow w7 w6.heap.size (L bs) := by rw [← hw7]; exact hrow.out
        have hpk := pickN_lt at0 bs.size hpos
        have hb6 := B6.out.size
        clear hw7 hcv hrow
        generalize pickN at0 bs.size = k at *
        generalize grownCap w6 bs.size 0 5 = gc at *
        have hkl : k < (L bs).length := by rw [length_L]; exact hpk
        have hc7 := hrow7.cell k hkl
        have hf7 := hrow7.frozen k hkl
        obtain ⟨x, hx⟩ := u8_val to0
        have Hset := Lib.hid (hrow7.set k hkl x)
        have B7s : Hid (Below w.heap.size w (w7.setCell ⟨w6.heap.size, k, none⟩ (.int .u8 ((x.toNat : Nat) : Int)))) := Lib.hid (B7.out.setCell hb6 _)
        have hlen : ((L bs).set k x).length = bs.size := by rw [List.length_set, length_L]
        have hconv := Hset.out.conv gc
        rw [hlen] at hconv
        have Hlen := Lib.hid hlen
        obtain ⟨oldb, hob⟩ : ∃ z : Int, z = ((L bs)[k].toNat : Int) := ⟨_, rfl⟩
        rw [← hob] at hc7
        clear hrow7 hlen hob hkl
        generalize (L bs).set k x = lc at *
        have hk1 : (k : Int) < (bs.size : Int) := by omega
        rcases unp_cases lc with ⟨l3, g4, g5, g6⟩ | g4
        · have Hu3 := Lib.hid (dict_Unpack_some (B lc) (by rw [size_B, Hlen.out]; omega) l3 g4)
          have Hr3 := Lib.hid (ref13_Unpack_some (B lc) (by rw [size_B, Hlen.out]; omega) l3 g4)
          have hl3' := unpLen _ _ g4
          clear g4 g5 g6
          go_wp2_with fail
          refine (Hu3.out _).mono ?_
          rintro e w8 ⟨b8, va3, rfl, hva⟩
          have B8 := Lib.hid (step_call B7s.out b8)
          have U8 := Lib.hid hva
          have hrow8 := Hset.out.below b8
          have hconv8 := hrow8.conv gc
          rw [Hlen.out] at hconv8
          clear b8 hva hconv hc7 hf7 hrow8
          go_wp2_with fail
          refine (Hr3.out _).mono ?_
          rintro e w9 ⟨b9, vb3, rfl, hvb⟩
          have B9 := Lib.hid (step_call B8.out b9)
          have U9 := Lib.hid (U8.out.below b9)
          have R9 := Lib.hid hvb
          clear b9 hvb hconv8
          go_wp2_with fail
          refine (law_same va3 vb3 l3 hl3' _ U9.out R9.out).mono ?_
          rintro e w10 ⟨rfl, b10⟩
          have B10 := Lib.hid (step_call B9.out b10)
          clear b10
          go_wp2
          go_ret
          exact ⟨rfl, B10.out⟩
        · have Hu3 := Lib.hid (dict_Unpack_none (B lc) (by rw [size_B, Hlen.out]; omega) g4)
          have Hr3 := Lib.hid (ref13_Unpack_none (B lc) (by rw [size_B, Hlen.out]; omega) g4)
          clear g4
          go_wp2_with fail
          refine (Hu3.out _).mono ?_
          rintro e w8 ⟨rfl, b8⟩
          have B8 := Lib.hid (step_call B7s.out b8)
          have hrow8 := Hset.out.below b8
          have hconv8 := hrow8.conv gc
          rw [Hlen.out] at hconv8
          clear b8 hconv hc7 hf7 hrow8
          go_wp2_with fail
          refine (Hr3.out _).mono ?_
          rintro e w9 ⟨rfl, b9⟩
          have B9 := Lib.hid (step_call B8.out b9)
          clear b9 hconv8
          go_wp2_with fail
          refine (law_same _ _ [] (by simp) _ (.inl ⟨none, 0, rfl, rfl⟩) (.inl ⟨none, 0, rfl, rfl⟩)).mono ?_
          rintro e w10 ⟨rfl, b10⟩
          have B10 := Lib.hid (step_call B9.out b10)
          clear b10
          go_wp2
          go_ret
          exact ⟨rfl, B10.out⟩
    · have Hu := Lib.hid (dict_Unpack_none s (by omega) h4)
      have Hr := Lib.hid (ref13_Unpack_none s (by omega) h4)
      clear h4
      go_wp2_with fail
      refine (Hu.out _).mono ?_
      rintro e w3 ⟨rfl, b3⟩
      have B3 := Lib.hid (step_call B2.out b3)
      have V3 := Lib.hid (V2.out.below b3)
      clear b3
      go_wp2_with fail
      refine (Hr.out _).mono ?_
      rintro e w4 ⟨rfl, b4⟩
      have B4 := Lib.hid (step_call B3.out b4)
      have V4 := Lib.hid (V3.out.below b4)
      clear b4
      go_wp2_with fail
      refine (law_same _ _ [] (by simp) _ (.inl ⟨none, 0, rfl, rfl⟩) (.inl ⟨none, 0, rfl, rfl⟩)).mono ?_
      rintro e w5 ⟨rfl, b5⟩
      have B5 := Lib.hid (step_call B4.out b5)
      have V5 := Lib.hid (V4.out.below b5)
      clear b5
      cases hr : right l with
      | false =>
        have Hp := Lib.hid (ref13_Pack_wrong v' l _ V5.out hr (by omega) Hz.out)
        clear hr
        go_wp2_with fail
        refine Hp.out.mono ?_
        rintro e w6 ⟨rfl, b6⟩
        have B6 := Lib.hid (step_call B5.out b6)
        clear b6
        go_wp2
        go_ret
        exact ⟨rfl, B6.out⟩
      | true =>
        have Hp := Lib.hid (ref13_Pack_right v' l _ V5.out hr)
        have hbl := bytesL_length hr hl3
        have hpos : 0 < (bytesL l).length := by unfold bytesL; simp only [List.length_append]; have := varL_pos l.length; omega
        clear hr
        rw [← size_B] at hbl hpos
        generalize B (bytesL l) = bs at *
        have hcv := fun (w : World) => run_bytes_of_string (P := Try.prog) w 9 39 5 bs Try.underlying9 Try.underlying39 Try.underlying5
        go_wp2_with fail
        refine Hp.out.mono ?_
        rintro e w6 ⟨rfl, b6⟩
        have B6 := Lib.hid (step_call B5.out b6)
        have hrow := Lib.hid (BRow.of_string w6 bs)
        clear b6
        go_wp2_with fail
        refine (law_pick at0 bs.size hat.1 hat.2 hpos (by omega) _).mono ?_
        rintro e w7 ⟨rfl, hw7⟩
        have B7 : Hid (Below w.heap.size w w7) := Lib.hid (by rw [← hw7]; exact step_new B6.out.drew _)
        have hrow7 : BRow w7 w6.heap.size (L bs) := by rw [← hw7]; exact hrow.out
        have hpk := pickN_lt at0 bs.size hpos
        have hb6 := B6.out.size
        clear hw7 hcv hrow
        generalize pickN at0 bs.size = k at *
        generalize grownCap w6 bs.size 0 5 = gc at *
        have hkl : k < (L bs).length := by rw [length_L]; exact hpk
        have hc7 := hrow7.cell k hkl
        have hf7 := hrow7.frozen k hkl
        obtain ⟨x, hx⟩ := u8_val to0
        have Hset := Lib.hid (hrow7.set k hkl x)
        have B7s : Hid (Below w.heap.size w (w7.setCell ⟨w6.heap.size, k, none⟩ (.int .u8 ((x.toNat : Nat) : Int)))) := Lib.hid (B7.out.setCell hb6 _)
        have hlen : ((L bs).set k x).length = bs.size := by rw [List.length_set, length_L]
        have hconv := Hset.out.conv gc
        rw [hlen] at hconv
        have Hlen := Lib.hid hlen
        obtain ⟨oldb, hob⟩ : ∃ z : Int, z = ((L bs)[k].toNat : Int) := ⟨_, rfl⟩
        rw [← hob] at hc7
        clear hrow7 hlen hob hkl
        generalize (L bs).set k x = lc at *
        have hk1 : (k : Int) < (bs.size : Int) := by omega
        rcases unp_cases lc with ⟨l3, g4, g5, g6⟩ | g4
        · have Hu3 := Lib.hid (dict_Unpack_some (B lc) (by rw [size_B, Hlen.out]; omega) l3 g4)
          have Hr3 := Lib.hid (ref13_Unpack_some (B lc) (by rw [size_B, Hlen.out]; omega) l3 g4)
          have hl3' := unpLen _ _ g4
          clear g4 g5 g6
          go_wp2_with fail
          refine (Hu3.out _).mono ?_
          rintro e w8 ⟨b8, va3, rfl, hva⟩
          have B8 := Lib.hid (step_call B7s.out b8)
          have U8 := Lib.hid hva
          have hrow8 := Hset.out.below b8
          have hconv8 := hrow8.conv gc
          rw [Hlen.out] at hconv8
          clear b8 hva hconv hc7 hf7 hrow8
          go_wp2_with fail
          refine (Hr3.out _).mono ?_
          rintro e w9 ⟨b9, vb3, rfl, hvb⟩
          have B9 := Lib.hid (step_call B8.out b9)
          have U9 := Lib.hid (U8.out.below b9)
          have R9 := Lib.hid hvb
          clear b9 hvb hconv8
          go_wp2_with fail
          refine (law_same va3 vb3 l3 hl3' _ U9.out R9.out).mono ?_
          rintro e w10 ⟨rfl, b10⟩
          have B10 := Lib.hid (step_call B9.out b10)
          clear b10
          go_wp2
          go_ret
          exact ⟨rfl, B10.out⟩
        · have Hu3 := Lib.hid (dict_Unpack_none (B lc) (by rw [size_B, Hlen.out]; omega) g4)
          have Hr3 := Lib.hid (ref13_Unpack_none (B lc) (by rw [size_B, Hlen.out]; omega) g4)
          clear g4
          go_wp2_with fail
          refine (Hu3.out _).mono ?_
          rintro e w8 ⟨rfl, b8⟩
          have B8 := Lib.hid (step_call B7s.out b8)
          have hrow8 := Hset.out.below b8
          have hconv8 := hrow8.conv gc
          rw [Hlen.out] at hconv8
          clear b8 hconv hc7 hf7 hrow8
          go_wp2_with fail
          refine (Hr3.out _).mono ?_
          rintro e w9 ⟨rfl, b9⟩
          have B9 := Lib.hid (step_call B8.out b9)
          clear b9 hconv8
          go_wp2_with fail
          refine (law_same _ _ [] (by simp) _ (.inl ⟨none, 0, rfl, rfl⟩) (.inl ⟨none, 0, rfl, rfl⟩)).mono ?_
          rintro e w10 ⟨rfl, b10⟩
          have B10 := Lib.hid (step_call B9.out b10)
          clear b10
          go_wp2
          go_ret
          exact ⟨rfl, B10.out⟩
end Go.Proofs.Ytefnddhondbjbaa
