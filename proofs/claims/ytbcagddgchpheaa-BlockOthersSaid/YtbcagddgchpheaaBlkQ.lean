/- The reference's device of chapter 1: Noughts, Write, New. Conditions: a device that may be. -/
import Derived.Test.YtbcagddgchpheaaBlkP
import Derived.Test.YtbcagddgchpheaaBlkM
namespace Go.Proofs.Ytbcagddgchpheaa
open Go.RowKit Go.Blk

set_option maxRecDepth 100000 in
set_option maxHeartbeats 800000 in
theorem ref_Noughts (w : World) : Calls Try.prog 31 #[] w fun e w' => e = .returned (.string (B zeros)) ∧ Below w.heap.size w w' := by
  obtain ⟨i0, hi, hz0, hz1, hz2⟩ := info_parts Try.info_u8b
  go_enter Try.func31, Try.ntmps31
  go_wp2_with (at_make; go_must (refine wpList_make_full w rfl _ _ 70 rfl 0 5 i0 (.int .u8 0) 1 Try.underlying70 hi hz0 hz1 _ _ _ _ 256 rfl rfl rfl rfl ?b2 ?b3 (Nat.zero_le _) ?_))
  case b2 => rw [hz2]; omega
  case b3 => unfold maxLen; omega
  intro w1 hown hgrow
  have hrow : BRow w1 w.heap.size (List.replicate 256 0) := BRow.of_make hown
  have hb1 : Below w.heap.size w w1 := (Below.refl _ w).grown hgrow (Nat.le_refl _) (fun k h => by cases h)
  have hconv := hrow.conv 256
  rw [List.length_replicate, show List.replicate 256 (0 : UInt8) = zeros from rfl] at hconv
  have Hb1 := Lib.hid hb1
  clear hown hgrow hrow hb1
  go_wp2
  go_ret
  exact ⟨rfl, Hb1.out⟩
theorem own_baseQ {w : World} {base base' : Nat} {e : TypeId} {size : Nat} {v : Value} {n : Nat} {xs : List Value} (h : w.ownsRow base e size v n xs) (hb : base' ≤ base) : w.ownsRow base' e size v n xs := by
  refine ⟨h.1, ?_⟩
  rcases h.2 with hn | ⟨g, cap, cur, h1, h2, h3⟩
  · exact .inl hn
  · exact .inr ⟨g, cap, cur, h1, Nat.le_trans hb h2, h3⟩
theorem own_formQ {w : World} {base : Nat} {e : TypeId} {size : Nat} {v : Value} {n : Nat} {xs : List Value} (h : w.ownsRow base e size v n xs) : ∃ a c, v = .slice a n c := by
  rcases h.2 with ⟨rfl, h0⟩ | ⟨g, cap, cur, rfl, _⟩
  · exact ⟨none, 0, by rw [h0]⟩
  · exact ⟨_, _, rfl⟩
theorem own_nilQ {w : World} {base : Nat} {e : TypeId} {size : Nat} {n c : Nat} {xs : List Value} (h : w.ownsRow base e size (.slice none n c) n xs) : n = 0 ∧ c = 0 := by
  rcases h.2 with ⟨h1, h0⟩ | ⟨g, cap, cur, h1, _⟩
  · simp only [Value.slice.injEq] at h1
    exact ⟨h0, h1.2.2⟩
  · simp at h1
set_option maxRecDepth 100000 in
set_option maxHeartbeats 1600000 in
theorem ref_Write (d : Dv) (i : Int) (s : ByteArray) (g : Nat) (od op : Option Nat) (w : World) (h : DevAt 42 w g od op d) (ok : d.Ok) (hp : d.pend.length ≤ 100000) (h1 : -9223372036854775808 ≤ i) (h2 : i ≤ 9223372036854775807) (_ : s.size ≤ 9223372036854775807) :
    Calls Try.prog 36 #[.pointer (some ⟨g, 0, none⟩), .int .i64 i, .string s] w fun e w' => e = .returned (.int .i64 (writeE d i (L s) : Nat)) ∧ Mut 42 w w' g od op (writeD d i (L s)) := by
  have hn1 := ok.n1
  have Ht := Lib.hid (ref_turn d g od op w h ok.fuse0 ok.fuse1)
  have H := Lib.hid h
  obtain ⟨vd, vp, hh, ⟨ad, cd, rfl⟩, _, c0, c1, c2, c3, _⟩ := h.cells
  obtain ⟨i0, hi, hz0, hz1, hz2⟩ := info_parts Try.info_wr
  cases hd : d.dead with
  | true =>
    have hE : Hid (writeE d i (L s) = 4 ∧ writeD d i (L s) = d) := Lib.hid (by unfold writeE writeD; rw [hd]; exact ⟨rfl, rfl⟩)
    rw [hd] at c3
    clear hd h hh c1 c2
    go_enter Try.func36, Try.ntmps36
    go_wp2
    go_ret
    exact ⟨by rw [hE.out.1]; rfl, by rw [hE.out.2]; exact Mut.refl H.out⟩
  | false =>
    rw [hd] at c3
    by_cases hin : inD d i = true
    · have hi0 : 0 ≤ i ∧ i < (d.disk.length : Int) := by unfold inD at hin; rw [Bool.and_eq_true, decide_eq_true_eq, decide_eq_true_eq] at hin; exact hin
      obtain ⟨hi0, hi1⟩ := hi0
      by_cases hs256 : s.size = 256
      · have hne : ((s.size : Int) != 256) = false := by rw [hs256]; rfl
        have hL : (L s).length = 256 := by rw [length_L]; exact hs256
        by_cases h0 : d.fuse = 0
        · have hE : Hid (writeE d i (L s) = 4 ∧ writeD d i (L s) = turnD d) := Lib.hid (by unfold writeE writeD turnOk; rw [hd, hin, hL, h0]; simp)
          rw [show turnOk d = false by unfold turnOk; simp [h0]] at Ht
          clear hs256 hL h0 hd hin h hh c1 c2
          go_enter Try.func36, Try.ntmps36
          go_wp2_with fail
          refine Ht.out.mono ?_
          rintro e w2 ⟨rfl, m2⟩
          have M2 := Lib.hid m2
          clear m2
          go_wp2
          go_ret
          exact ⟨by rw [hE.out.1]; rfl, by rw [hE.out.2]; exact M2.out⟩
        · have hE : Hid (writeE d i (L s) = 0 ∧ writeD d i (L s) = { turnD d with pend := d.pend ++ [(i.toNat, L s)] }) := Lib.hid (by unfold writeE writeD turnOk; rw [hd, hin, hL]; simp [h0])
          have Hit := Lib.hid (show ((i.toNat : Nat) : Int) = i by omega)
          have Hpd := Lib.hid (turn_same d).2
          rw [show turnOk d = true by unfold turnOk; simp [h0]] at Ht
          clear hs256 hL h0 hd hin h hh c1 c2
          generalize turnD d = d1 at *
          go_enter Try.func36, Try.ntmps36
          go_wp2_with fail
          refine Ht.out.mono ?_
          rintro e w2 ⟨rfl, op1, hD1, hop1, hc1⟩
          obtain ⟨vd2, vp2, hh2, _, ⟨ap, cp, rfl⟩, _, k1, _, _, _, f1, _, _, _, _, hown, hob⟩ := hD1.cells
          rw [Hpd.out] at hown k1
          have HM1 := Lib.hid (show Mut 42 w w2 g od op d1 from ⟨op1, hD1, hop1, hc1⟩)
          have hlt := hD1.lt
          have hgl := hlt g (.inl rfl)
          have Hlt := Lib.hid hlt
          have Hown := Lib.hid hown
          have Hnil := Lib.hid (fun (e : ap = none) => own_nilQ (show w2.ownsRow 0 62 2 (.slice none d.pend.length cp) d.pend.length (wrCells d.pend) from e ▸ hown))
          have Hws := Lib.hid hc1.size
          have hown0 := Lib.hid (own_empty w2 62 2 w2.heap.size (Nat.le_refl _))
          have hnews := Lib.hid (fun ad (e : ap = some ad) => (show ∀ j u, (wrCells d.pend)[j]? = some u → (w2.alloc (.cells #[] 62)).cell? (ad.add j) = some u by
            have h5 := Hown.out.alloc (.cells #[] 62)
            subst e
            rcases h5.2 with ⟨h6, _⟩ | ⟨gg, cap, cur, h6, _⟩
            · cases h6
            · simp only [Value.slice.injEq, Option.some.injEq] at h6
              rw [h6.1]
              exact h5.cells (g := gg) (by rw [h6.1]; rfl)))
          clear hD1 hop1 hc1 hh2 hown hob hlt c0 c3
          go_wp2_with (at_builtin; go_must (refine wpList_append_any _ rfl (.tmp 31) (.tmp 35) 40 rfl w2.heap.size 62 i0 (.agg #[.int .i64 0, .string ⟨#[]⟩]) 2 24 Try.underlying40 hi hz0 hz1 hz2 rfl (by decide) _ _ _ rfl hown0.out ap d.pend.length cp (wrCells d.pend) rfl (wrCells_length _) Hnil.out hnews.out (wrCells_one _) ?c3 ?c4 ?c5 ?_))
          case c3 => unfold maxLen; omega
          case c4 => omega
          case c5 => simp
          intro v3 w3 hown3 hgrow3 _
          try rw [Nat.zero_add] at hown3
          try rw [List.nil_append] at hown3
          have Hb3 : Hid (Below w2.heap.size w2 w3) := Lib.hid ((step_new (Below.refl w2.heap.size w2) (.cells #[] 62)).grown hgrow3 (by simp) (fun q hq => by simp only [Value.ownBlock, Option.some.injEq] at hq; omega))
          obtain ⟨a3, cc3, rfl⟩ := own_formQ hown3
          have Hown3 := Lib.hid hown3
          have hown4 := Lib.hid (hown3.alloc (.cells #[.int .i64 i, .string s] 62))
          have hnews4 := Lib.hid (cell2_newW w3 w3.heap.size rfl (.int .i64 i) (.string s) 62)
          have hw3 : w2.heap.size ≤ w3.heap.size := Hb3.out.size
          clear hown3 hgrow3
          go_wp2_with (at_builtin; go_must (refine wpList_append_where _ rfl (.tmp 36) (.tmp 40) 40 rfl w2.heap.size 62 i0 (.agg #[.int .i64 0, .string ⟨#[]⟩]) 2 24 Try.underlying40 hi hz0 hz1 hz2 rfl (by decide) _ _ _ rfl hown4.out ⟨w3.heap.size, 0, none⟩ 1 1 [.int .i64 i, .string s] rfl rfl ?d1 ?d2 ?d3 ?d4 ?d5 ?_))
          case d1 => exact hnews4.out
          case d2 => simp [Value.oneCell']
          case d3 => unfold maxLen; omega
          case d4 => omega
          case d5 => simp; omega
          intro v5 w5 hown5 hgrow5 _
          have Hb5 : Hid (Below w2.heap.size w2 w5) := Lib.hid ((step_new Hb3.out (.cells #[.int .i64 i, .string s] 62)).grown hgrow5 (by simp; omega) (fun q hq => (Hown3.out.lt q hq).1))
          have hlen' : d.pend.length + 1 = (d.pend ++ [(i.toNat, L s)]).length := by simp
          have hcells' : wrCells d.pend ++ [.int .i64 i, .string s] = wrCells (d.pend ++ [(i.toNat, L s)]) := by
            rw [wrCells_append]
            congr 1
            show _ = [Value.int .i64 ((i.toNat : Nat) : Int), .string (B (L s))]
            rw [Hit.out, B_L]
          rw [hlen', hcells'] at hown5
          have M := Lib.hid ((HM1.out.call Hb5.out).setPend v5 _ (own_baseQ hown5 (Nat.zero_le _)) (fun k hk => by
            have h6 := (hown5.lt k hk).1
            have h7 := Hws.out
            refine ⟨.inr (by omega), by omega, fun e => ?_⟩
            have := Hlt.out k (.inr (.inl e))
            omega))
          have f1 : w5.frozen? ⟨g, 1, none⟩ = false := (Hb5.out.frozen (p := ⟨g, 1, none⟩) hgl).trans f1
          have c1 := cell_below Hb5.out hgl k1
          obtain ⟨av, cv, rfl⟩ := own_formQ hown5
          rw [show (d.pend ++ [(i.toNat, L s)]).length = d.pend.length + 1 by simp] at M
          clear hown5 hgrow5 hlen' hcells' k1
          go_wp2
          go_ret
          exact ⟨by rw [hE.out.1]; rfl, by rw [hE.out.2]; exact M.out⟩
      · have hE : Hid (writeE d i (L s) = 3 ∧ writeD d i (L s) = d) := Lib.hid (by unfold writeE writeD; rw [hd, hin, length_L]; simp [hs256])
        have hne : ((s.size : Int) != 256) = true := by rw [bne_iff_ne]; omega
        clear hs256 hd hin h hh c1 c2
        go_enter Try.func36, Try.ntmps36
        go_wp2
        go_ret
        exact ⟨by rw [hE.out.1]; rfl, by rw [hE.out.2]; exact Mut.refl H.out⟩
    · rw [Bool.not_eq_true] at hin
      have hE : Hid (writeE d i (L s) = 2 ∧ writeD d i (L s) = d) := Lib.hid (by unfold writeE writeD; rw [hd, hin]; exact ⟨rfl, rfl⟩)
      clear h hh hd c1 c2
      by_cases h0 : i < 0
      · clear hin
        go_enter Try.func36, Try.ntmps36
        go_wp2
        go_ret
        exact ⟨by rw [hE.out.1]; rfl, by rw [hE.out.2]; exact Mut.refl H.out⟩
      · have h3 : (d.disk.length : Int) ≤ i := by unfold inD at hin; rw [Bool.and_eq_false_iff, decide_eq_false_iff_not, decide_eq_false_iff_not] at hin; omega
        clear hin
        go_enter Try.func36, Try.ntmps36
        go_wp2
        go_ret
        exact ⟨by rw [hE.out.1]; rfl, by rw [hE.out.2]; exact Mut.refl H.out⟩
end Go.Proofs.Ytbcagddgchpheaa
