/- dict.Pack: its bytes, by three builders. Conditions: lengths fit an int. -/
import Derived.Test.YtefnddhondbjbaaBld2
import Derived.Test.YtefnddhondbjbaaDictAlike
import Derived.Test.YtefnddhondbjbaaRef13Bytes
import Derived.Test.YtefnddhondbjbaaWireText
namespace Go.Proofs.Ytefnddhondbjbaa
open Go.RowKit Go.Wir Go.Dic

theorem dict_alikeB (a b : List UInt8) (ha : (B a).size ≤ 9223372036854775807) (hb : (B b).size ≤ 9223372036854775807) (w : World) :
    Calls Try.prog 25 #[.string (B a), .string (B b)] w fun e w' => e = .returned (.int .i64 (alike a b : Nat)) ∧ Below w.heap.size w w' := dict_alike (B a) (B b) ha hb w
theorem row1 (w : World) (b : Nat) (hb : b = w.heap.size) (v : Value) (t : TypeId) : Row (w.alloc (.cells #[v] t)) (.slice (some ⟨b, 0, none⟩) 1 1) [v] := by subst hb; exact Row.new w [v] t
theorem row2 (w : World) (b : Nat) (hb : b = w.heap.size) (v u : Value) (t : TypeId) : Row (w.alloc (.cells #[v, u] t)) (.slice (some ⟨b, 0, none⟩) 2 2) [v, u] := by subst hb; exact Row.new w [v, u] t
theorem fitsN_small (n : Nat) (h : n ≤ 9223372036854775807) : FitsN n := by unfold FitsN; omega
theorem wire_Var1 (v : Value) (n : Nat) (hn : n ≤ 9223372036854775807) (w : World) (h : Row w v [.int .u64 (n : Nat)]) :
    Calls Try.prog 24 #[v] w fun e w' => e = .returned (.string (B (varL n))) ∧ Below w.heap.size w w' := by
  have := wire_Var v [n] w h (by simp) (fun m hm => by simp only [List.mem_singleton] at hm; subst hm; exact fitsN_small _ hn)
  rw [show varsL [n] = varL n by simp [varsL]] at this
  exact this
theorem wire_Text1 (v : Value) (a : ByteArray) (ha : a.size ≤ 1099511627000) (w : World) (h : Row w v [.string a]) :
    Calls Try.prog 26 #[v] w fun e w' => e = .returned (.string (B (textL (L a)))) ∧ Below w.heap.size w w' := by
  have := wire_Text v [a] w h (by simp [sizes]; omega)
  rw [show textsL [a] = textL (L a) by simp [textsL]] at this
  exact this
theorem wire_Text2 (v : Value) (a b : ByteArray) (ha : a.size + b.size ≤ 1099511627000) (w : World) (h : Row w v [.string a, .string b]) :
    Calls Try.prog 26 #[v] w fun e w' => e = .returned (.string (B (textL (L a) ++ textL (L b)))) ∧ Below w.heap.size w w' := by
  have := wire_Text v [a, b] w h (by simp [sizes]; omega)
  rw [show textsL [a, b] = textL (L a) ++ textL (L b) by simp [textsL]] at this
  exact this

set_option maxRecDepth 100000 in
set_option maxHeartbeats 1600000 in
theorem dict_Pack_row (es : List Ent) (b off cap : Nat) (hcap : es.length ≤ cap) (hn : es.length ≤ 1048576) (hz : ∀ e ∈ es, small e) (w : World) (hb : b < w.heap.size)
    (hcell : ∀ i (h : i < es.length), w.cell? ⟨b, off + i * 2, none⟩ = some (.string (B es[i].1)) ∧ w.cell? ⟨b, off + i * 2 + 1, none⟩ = some (.string (B es[i].2)))
    (hr : Calls Try.prog 13 #[.slice (some ⟨b, off, none⟩) es.length cap] w fun e w' => e = .returned (.bool true) ∧ Below w.heap.size w w') :
    Calls Try.prog 11 #[.slice (some ⟨b, off, none⟩) es.length cap] w fun e w' => e = .returned (.tuple #[.string (B (bytesL es)), .int .i64 0]) ∧ Below w.heap.size w w' := by
  have Hcell := Lib.hid hcell
  have Hz := Lib.hid hz
  have Hr := Lib.hid hr
  clear hcell hz hr
  go_enter Try.func11, Try.ntmps11
  go_wp2_with fail
  refine Hr.out.mono ?_
  rintro e w1 ⟨rfl, hb1⟩
  have hT := Two.new w w1 hb1
  have hv := (varL_length es.length).2
  have hvs : (B (varL es.length)).size ≤ 10 := by rw [size_B]; exact hv
  go_wp2_with fail
  refine (wire_Var1 _ es.length (by omega) _ (row1 _ _ (by simp) _ _)).mono ?_
  rintro e w2 ⟨rfl, hb2⟩
  have hT2 := (hT.call ((Below.refl _ _).alloc (Nat.le_refl _) _)).call hb2
  clear hT hb2
  go_wp2_with fail
  refine (bld_write _ _ _ _ w2 hT2.bld1 (by simp only [List.length_nil]; omega)).mono ?_
  rintro e w3 ⟨rfl, o1, hB, ho, hc⟩
  have HT3 := Lib.hid (hT2.write1 hB ho hc)
  clear hB ho hc hT2
  go_wp2
  go_loopw [6] (fun i wr => ∃ (k : Nat) (oi oa : Option Nat), k ≤ (gs es).length ∧ i = .int .i64 (16 * k : Nat) ∧ Two w wr w1.heap.size oi (varL es.length ++ indexL ((gs es).take k)) (w1.heap.size + 1) oa (allL ((gs es).take k))) (fun i _ => es.length - (intOf i).toNat)
  case atStart => exact ⟨0, _, _, by omega, rfl, by show Two _ _ _ _ (_ ++ []) _ _ []; rw [List.append_nil]; exact HT3.out⟩
  case round =>
    obtain ⟨k, oi, oa, hk, rfl, hT⟩ := hrel
    have hbel := hT.bel
    have HT := Lib.hid hT
    clear hT HT3
    have hgl := gs_length es
    have hxl := indexL_length es Hz.out k
    have hyl := allL_length es Hz.out k
    by_cases hlt : 16 * k < es.length
    · obtain ⟨hk', h0, hlen, hget⟩ := gs_at es k hlt
      have Hx := Lib.hid (indexL_take (gs es) k hk')
      have Hy := Lib.hid (allL_take (gs es) k hk')
      have Hzg : Hid (∀ e ∈ (gs es)[k], small e) := Lib.hid (fun e he => Hz.out e ((gs_mem (List.getElem_mem hk')).1 e he))
      have Hcg : Hid (∀ i (hi : i < (gs es)[k].length), wr.cell? ⟨b, off + 16 * k * 2 + i * 2, none⟩ = some (.string (B (gs es)[k][i].1)) ∧ wr.cell? ⟨b, off + 16 * k * 2 + i * 2 + 1, none⟩ = some (.string (B (gs es)[k][i].2))) := Lib.hid (fun i hi => by
        obtain ⟨c1, c2⟩ := Hcell.out (16 * k + i) (by omega)
        have c1 := cell_below hbel hb c1
        have c2 := cell_below hbel hb c2
        rw [hget i hi]
        rw [show off + 16 * k * 2 + i * 2 = off + (16 * k + i) * 2 by omega]
        exact ⟨c1, c2⟩)
      clear hget
      have Hk' := Lib.hid hk'
      have hbr := Nat.lt_of_lt_of_le hb hbel.size
      clear hbel
      generalize (gs es)[k] = g at *
      generalize indexL ((gs es).take k) = X at *
      generalize allL ((gs es).take k) = Y at *
      generalize hi0 : 16 * k = i0 at *
      have hmin : min (es.length : Int) ((i0 : Int) + 16) = (i0 : Int) + (g.length : Int) := by omega
      have hg1 : i0 + g.length ≤ es.length := by omega
      have hbl := blockL_length [] g Hzg.out
      have hg16 : g.length ≤ 16 := by omega
      have hX : X.length ≤ 3932220 := by omega
      have hY : Y.length ≤ 4398119911424 := by omega
      have hB : (blockL [] g).length ≤ 67109984 := by omega
      clear hlen hbl hgl hxl hyl hk'
      go_wp2
      rename World => wo
      rw [Nat.add_sub_cancel_left]
      go_loopw [8, 36] (fun x i wi => ∃ (j : Nat) (o : Option Nat), j ≤ g.length ∧ i = .int .i64 j ∧ x = .string (B (lastT [] (g.take j))) ∧ One wo wi wo.heap.size o (blockL [] (g.take j))) (fun _ i _ => g.length - (intOf i).toNat)
      case atStart => exact ⟨0, none, by omega, rfl, rfl, One.new wo wo (Below.refl _ _)⟩
      case round =>
        obtain ⟨j, o, hj, rfl, rfl, hO⟩ := hrel
        by_cases hjl : j < g.length
        · obtain ⟨c1, c2⟩ := Hcg.out j hjl
          have c1 := cell_below hO.bel hbr c1
          have c2 := cell_below hO.bel hbr c2
          have Ht := Lib.hid (blockL_take [] g j hjl)
          have Hlt : Hid (lastT [] (g.take (j + 1)) = g[j].1) := Lib.hid (by rw [List.take_succ_eq_append_getElem hjl, lastT_snoc])
          have hze := Hzg.out g[j] (List.getElem_mem hjl)
          have hal := alike_le_right (lastT [] (g.take j)) g[j].1
          have hlast : (lastT [] (g.take j)).length ≤ 40 := by
            by_cases h0 : 0 < j
            · rw [lastT_take g j h0 hj]; exact (Hzg.out _ (List.getElem_mem (show j - 1 < g.length by omega))).1
            · obtain rfl : j = 0 := by omega
              show ([] : List UInt8).length ≤ _; simp
          have hacc := blockL_length [] (g.take j) (fun e he => Hzg.out e (List.mem_of_mem_take he))
          rw [List.length_take, Nat.min_eq_left hj] at hacc
          generalize blockL [] (g.take j) = acc at *
          have hacc2 : acc.length ≤ 67109984 := by omega
          generalize lastT [] (g.take j) = last at *
          generalize g[j] = e at *
          obtain ⟨t, v⟩ := e
          simp only at c1 c2 hze hal
          unfold small at hze
          obtain ⟨hz1, hz2⟩ := hze
          simp only at hz1 hz2
          have HO := Lib.hid hO
          clear hO hacc
          go_wp2_with fail
          refine (dict_alikeB last t (by rw [size_B]; omega) (by rw [size_B]; omega) _).mono ?_
          rintro e wj ⟨rfl, hbj⟩
          have HO1 := Lib.hid ((HO.out.alloc _).call hbj)
          go_wp2
          have d1 : wj.cell? ⟨wr.heap.size, 0, none⟩ = some (.string (B t)) := cell_call hbj (by rw [Lib.cell_of_heap (heap_alloc_new wr _)]; rfl)
          have d2 : wj.cell? ⟨wr.heap.size, 1, none⟩ = some (.string (B v)) := cell_call hbj (by rw [Lib.cell_of_heap (heap_alloc_new wr _)]; rfl)
          have hne : ¬ (wr.heap.size = wo.heap.size ∨ o = some wr.heap.size) := fun h => Nat.lt_irrefl _ (own_lt HO.out.bld _ h)
          have Hne := Lib.hid hne
          clear c1 c2 hbj hne
          have r1 : alike last t ≤ (B t).size := by rw [size_B]; exact hal
          have r2 : ((alike last t : Nat) : Int) ≤ ((B t).size : Int) := by omega
          have q1 : IntKind.u64.wrap ((alike last t : Nat) : Int) = ((alike last t : Nat) : Int) := by rw [IntKind.wrap_u64]; omega
          have h10 := (varL_length (alike last t)).2
          have hx1 := textL_length (L ((B t).extract (alike last t) (B t).size))
          rw [length_L] at hx1
          have hx2 : ((B t).extract (alike last t) (B t).size).size ≤ 40 := by rw [ByteArray.size_extract, size_B]; omega
          have hx3 := textL_length v
          have hx4 : (textL (L (B v))).length ≤ 10 + v.length := hx3
          have r0 : ((B t).extract (alike last t) (B t).size).size + (B v).size ≤ 1099511627000 := by have z := size_B v; omega
          have r3 : (B (varL (alike last t))).size + (B (textL (L ((B t).extract (alike last t) (B t).size)) ++ textL (L (B v)))).size ≤ 4194500 := by
            rw [size_B, size_B (_ ++ _), List.length_append]; omega
          have r4 : ¬ 9223372036854775807 < (B (varL (alike last t))).size + (B (textL (L ((B t).extract (alike last t) (B t).size)) ++ textL (L (B v)))).size := by omega
          clear hx1 hx2 hx3 hx4
          go_region_held3 (fun w' => w'.cell? ⟨wr.heap.size, 0, none⟩ = some (.string (B t)) ∧ w'.cell? ⟨wr.heap.size, 1, none⟩ = some (.string (B v)))
            (first | assumption | exact ⟨d1, d2⟩ | exact h2c_call (by assumption) hbv | exact h2c_call (by assumption) hbt | exact h2c_new (by assumption) _ | exact h2c_chg (by assumption) hc' Hne.out Hne.out)
            (first
              | (go_at_call 24
                 refine (wire_Var1 _ (alike last t) (by omega) _ (by first | exact (row1 _ _ (by simp) _ _).below (below_drew _) | exact ((row1 _ _ (by simp) _ _).below ((Below.refl _ _).alloc (Nat.le_refl _) _)).below (below_drew _))).mono ?_
                 rintro e w4 ⟨rfl, hbv⟩
                 have HB1 : Hid (One wo w4 wo.heap.size o acc) := Lib.hid (by first | exact ((HO1.out.alloc _).call (below_drew _)).call hbv | exact (((HO1.out.alloc _).alloc _).call (below_drew _)).call hbv))
              | (go_at_call 26
                 refine (wire_Text2 _ _ _ r0 _ (by first | exact row2 _ _ (by simp) _ _ _ | exact ((row2 _ _ (by simp) _ _ _).below (below_drew _)).below hbv | exact (((row2 _ _ (by simp) _ _ _).below ((Below.refl _ _).alloc (Nat.le_refl _) _)).below (below_drew _)).below hbv)).mono ?_
                 rintro e w5 ⟨rfl, hbt⟩
                 have HB2 : Hid (One wo w5 wo.heap.size o acc) := Lib.hid (by first | exact HB1.out.call hbt | exact (HB1.out.alloc _).call hbt))
              | (go_at_call 23
                 refine (bld_write _ _ _ _ _ HB2.out.bld (by simp only [ByteArray.size_append']; omega)).mono ?_
                 rintro e w6 ⟨rfl, o', hB', ho', hc'⟩
                 have HB3 := Lib.hid (HB2.out.write hB' ho' hc')))
          all_goals
            clear r0 r1 r2 r3 r4 q1
            go_wp2
            go_roundw
            case rel =>
              refine ⟨j + 1, o', by omega, by go_num, by rw [Hlt.out], ?_⟩
              have e1 : (B t).extract (alike last t) (B t).size = B (t.drop (alike last t)) := by rw [extract_to_end]; rfl
              have := HB3.out
              rw [e1, L_append] at this
              simp only [L_B] at this
              rw [Ht.out]
              exact this
            case measure => simp [intOf]; omega
        · obtain rfl : j = g.length := by omega
          rw [List.take_length] at hO
          have HO := Lib.hid hO
          have hT2 := HT.out.call hO.bel
          have HT2 := Lib.hid hT2
          clear hO hT2
          have d0 : wr.cell? ⟨b, off + i0 * 2, none⟩ = some (.string (B g[0].1)) := by
            have := (Hcg.out 0 h0).1
            rw [Nat.zero_mul, Nat.add_zero] at this
            exact cell_below HO.out.bel hbr this
          have hd : Hid ((g.headD ([], [])).1 = g[0].1) := Lib.hid (by cases g with
            | nil => simp at h0
            | cons e g => rfl)
          have hsm := (Hzg.out g[0] (List.getElem_mem h0)).1
          generalize g[0].1 = t at *
          have ht := textL_length t
          have z1 : (B (textL (L (B t)))).size ≤ 50 := by rw [size_B]; show (textL t).length ≤ _; omega
          have z2 : (B t).size ≤ 40 := by rw [size_B]; exact hsm
          go_wp2_with fail
          refine (wire_Text1 _ (B t) (by omega) _ (row1 _ _ (by simp) _ _)).mono ?_
          rintro e w4 ⟨rfl, hb4⟩
          have HT4 := Lib.hid ((HT2.out.call ((Below.refl _ _).alloc (Nat.le_refl _) _)).call hb4)
          have HO4 := Lib.hid ((HO.out.alloc _).call hb4)
          clear hb4
          have hn63 : (blockL [] g).length ≤ 9223372036854775807 := by omega
          go_wp2_with fail
          refine (bld_len _ _ _ w4 HO4.out.bld hn63).mono ?_
          rintro e _ ⟨rfl, rfl⟩
          have hv2 := (varL_length (blockL [] g).length).2
          have z3 : (B (varL (blockL [] g).length)).size ≤ 10 := by rw [size_B]; exact hv2
          go_wp2_with fail
          refine (wire_Var1 _ (blockL [] g).length hn63 _ (row1 _ _ (by simp) _ _)).mono ?_
          rintro e w5 ⟨rfl, hb5⟩
          have HT5 := Lib.hid ((HT4.out.call ((Below.refl _ _).alloc (Nat.le_refl _) _)).call hb5)
          have HO5 := Lib.hid ((HO4.out.alloc _).call hb5)
          clear hb5
          go_wp2_with fail
          refine (bld_write _ _ _ _ w5 HT5.out.bld1 (by simp only [ByteArray.size_append', List.length_append]; omega)).mono ?_
          rintro e w6 ⟨rfl, oi', hB6, ho6, hc6⟩
          have HT6 := Lib.hid (HT5.out.write1 hB6 ho6 hc6)
          have HD := Lib.hid (HO5.out.write_beside HT.out ho6)
          have HB6 := Lib.hid (HO5.out.beside HT.out hc6)
          clear hB6 ho6 hc6
          go_wp2_with fail
          refine (bld_string _ _ _ w6 HB6.out).mono ?_
          rintro e w7 ⟨rfl, hc7⟩
          have HT7 := Lib.hid (HT6.out.chg hc7 (fun k hk => HD.out.1 k (.inr hk)) (fun k hk => HD.out.2 k (.inr hk)) (fun k hk => Nat.le_trans HT.out.bel.size (HO5.out.low k (.inr hk))))
          clear hc7
          have z4 : (B (blockL [] g)).size ≤ 67109984 := by rw [size_B]; exact hB
          go_wp2_with fail
          refine (bld_write _ _ _ _ w7 HT7.out.bld2 (by omega)).mono ?_
          rintro e w8 ⟨rfl, oa', hB8, ho8, hc8⟩
          have HT8 := Lib.hid (HT7.out.write2 hB8 ho8 hc8)
          clear hB8 ho8 hc8
          go_wp2
          go_roundw
          case rel =>
            refine ⟨k + 1, oi', oa', Hk'.out, by go_num, ?_⟩
            have := HT8.out
            rw [L_append] at this
            simp only [L_B] at this
            rw [Hx.out, Hy.out]
            unfold headL
            rw [hd.out, ← List.append_assoc]
            exact this
          case measure => simp [intOf]; omega
    · have hke : k = (gs es).length := by omega
      have Hx : Hid (indexL ((gs es).take k) = indexL (gs es) ∧ allL ((gs es).take k) = allL (gs es)) := Lib.hid (by rw [hke, List.take_length]; exact ⟨rfl, rfl⟩)
      rw [Hx.out.1] at hxl HT
      rw [Hx.out.2] at hyl HT
      have hk16 : es.length ≤ 16 * k := by omega
      have z1 : (B (varL es.length ++ indexL (gs es))).size ≤ 3932230 := by rw [size_B, List.length_append]; omega
      have z2 : (B (allL (gs es))).size ≤ 4398119911424 := by rw [size_B]; omega
      go_wp2_with fail
      refine (bld_string _ _ _ wr HT.out.bld1).mono ?_
      rintro e w4 ⟨rfl, hc4⟩
      have HT4 := Lib.hid (HT.out.bld2.kept hc4 (fun k h2 h1 => HT.out.dis k (.inr h1) h2))
      have Hb4 := Lib.hid (hc4.above HT.out.bel (fun k hk => HT.out.low1 k (.inr hk)))
      clear hc4
      go_wp2_with fail
      refine (bld_string _ _ _ w4 HT4.out).mono ?_
      rintro e w5 ⟨rfl, hc5⟩
      have Hb5 := Lib.hid (hc5.above Hb4.out (fun k hk => HT.out.low2 k (.inr hk)))
      clear hc5
      go_wp2
      go_ret2
      exact ⟨by simp only [B_append]; rfl, Hb5.out⟩
set_option maxRecDepth 100000 in
theorem dict_Pack_nil (a : Option Addr) (cap : Nat) (w : World) :
    Calls Try.prog 11 #[.slice a 0 cap] w fun e w' => e = .returned (.tuple #[.string (B (bytesL [])), .int .i64 0]) ∧ Below w.heap.size w w' := by
  go_enter Try.func11, Try.ntmps11
  go_wp2_with fail
  refine (dict_Right_nil a cap w).mono ?_
  rintro e w1 ⟨rfl, hb1⟩
  have hT := Two.new w w1 hb1
  have hv := (varL_length 0).2
  have hvs : (B (varL 0)).size ≤ 10 := by rw [size_B]; exact hv
  go_wp2_with fail
  refine (wire_Var1 _ 0 (by omega) _ (row1 _ _ (by simp) _ _)).mono ?_
  rintro e w2 ⟨rfl, hb2⟩
  have hT2 := (hT.call ((Below.refl _ _).alloc (Nat.le_refl _) _)).call hb2
  clear hT hb2
  go_wp2_with fail
  refine (bld_write _ _ _ _ w2 hT2.bld1 (by simp only [List.length_nil]; omega)).mono ?_
  rintro e w3 ⟨rfl, o1, hB, ho, hc⟩
  have HT := Lib.hid (hT2.write1 hB ho hc)
  clear hB ho hc hT2
  go_wp2
  go_loopw [6] (fun i wr => i = .int .i64 0 ∧ wr = w3) (fun _ _ => 0)
  case atStart => exact ⟨rfl, rfl⟩
  case round =>
    obtain ⟨rfl, rfl⟩ := hrel
    go_wp2_with fail
    refine (bld_string _ _ _ wr HT.out.bld1).mono ?_
    rintro e w4 ⟨rfl, hc4⟩
    have HT4 := Lib.hid (HT.out.bld2.kept hc4 (fun k h2 h1 => HT.out.dis k (.inr h1) h2))
    have Hb4 := Lib.hid (hc4.above HT.out.bel (fun k hk => HT.out.low1 k (.inr hk)))
    clear hc4
    go_wp2_with fail
    refine (bld_string _ _ _ w4 HT4.out).mono ?_
    rintro e w5 ⟨rfl, hc5⟩
    have Hb5 := Lib.hid (hc5.above Hb4.out (fun k hk => HT.out.low2 k (.inr hk)))
    clear hc5
    have z1 : (B ([] ++ L (B (varL 0)))).size ≤ 10 := by rw [size_B]; exact hv
    go_wp2
    go_ret2
    exact ⟨by simp only [B_append, List.nil_append, L_B, List.append_nil]; rfl, Hb5.out⟩
set_option maxRecDepth 100000 in
theorem dict_Pack (v : Value) (es : List Ent) (w : World) (h : Ents w v es) (hn : es.length ≤ 9223372036854775807) (hz : ∀ e ∈ es, e.1.length ≤ 9223372036854775807 ∧ e.2.length ≤ 9223372036854775807) :
    Calls Try.prog 11 #[v] w fun e w' => e = .returned (.tuple #[.string (B (packL es)), .int .i64 (packE es : Nat)]) ∧ Below w.heap.size w w' := by
  cases hr : right es with
  | false =>
    have Hr := Lib.hid hr
    have hc := (dict_Right v es w h hn hz)
    rw [hr] at hc
    have Hc := Lib.hid hc
    clear hr hc h hz
    go_enter Try.func11, Try.ntmps11
    go_wp2_with fail
    refine Hc.out.mono ?_
    rintro e w1 ⟨rfl, hb⟩
    go_wp2
    go_ret2
    exact ⟨by unfold packL packE; rw [Hr.out]; rfl, hb⟩
  | true =>
    have hc := (dict_Right v es w h hn hz)
    rw [hr] at hc
    obtain ⟨hsm, hn2⟩ := right_small hr
    rw [show packL es = bytesL es by unfold packL; rw [hr]; rfl, show packE es = 0 by unfold packE; rw [hr]; rfl]
    rcases h with ⟨a, cap, rfl, rfl⟩ | ⟨b, off, cap, rfl, hcap, hb, hcell⟩
    · exact dict_Pack_nil a cap w
    · exact dict_Pack_row es b off cap hcap hn2 hsm w hb hcell hc
end Go.Proofs.Ytefnddhondbjbaa
