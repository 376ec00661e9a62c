/- The law QueryPhrases returns true for every three texts. Condition: the tables are laid. -/
import Derived.Test.YtlfhgmclnapmjaaDoorQryLs
import Derived.Test.YtlfhgmclnapmjaaDoorQryPhr
import Derived.BigQuiet
namespace Go.Proofs.YtlfhgmclnapmjaaDoor
open Go.RowKit Go.Utf Go.Qry Go.Lib
attribute [local go_sem] Oper.semAt_some

theorem phrase_term40 (s : Tx) (i : Nat) (h : i < (phraseL s).length) : (phraseL s)[i].1.length ≤ 40 := by
  obtain ⟨-, -, h3, -⟩ := tok_facts (l := s) rfl
  rw [phrase_get s i h]
  exact (h3 i (by rwa [phrase_length] at h)).1
set_option maxRecDepth 100000 in
set_option maxHeartbeats 12800000 in
theorem walk_QueryPhrases (before s behind : ByteArray) (n : Int) (_ : before.size ≤ maxLen) (_ : s.size ≤ maxLen) (_ : behind.size ≤ maxLen) (_ : (Lit.int .i64 n).wf = true) (w : World) (hT : Tabs w) :
    Calls Tryd.prog 5 #[.string before, .string s, .string behind, .int .i64 n] w fun e w' => e = .returned (.bool true) ∧ Below w.heap.size w w' := by
  have HS := Lib.hid (law_shown17 w hT)
  have HT := Lib.hid hT
  clear hT
  go_enter Tryd.func5, Tryd.ntmps5
  go_wp2_with fail
  refine HS.out.mono ?_
  rintro e w1 ⟨rfl, hb⟩
  have B1 := Lib.hid hb
  clear hb HS
  by_cases hs : s.size ≤ 190
  · have hsi : ¬ 190 < (s.size : Int) := by omega
    by_cases hbe : before.size ≤ 500
    · have hbei : ¬ 500 < (before.size : Int) := by omega
      by_cases hbh : behind.size ≤ 500
      · have hbhi : ¬ 500 < (behind.size : Int) := by omega
        have hE : tokensL (L (before ++ ⟨#[32]⟩ ++ s ++ ⟨#[32]⟩ ++ behind)) = tokensL (L before ++ 32 :: (L s ++ 32 :: L behind)) := by
          rw [L_append, L_append, L_append, L_append, show L ⟨#[32]⟩ = [32] from rfl, List.append_assoc, List.append_assoc, List.append_assoc]
          rfl
        have HE := Lib.hid hE
        have hsz : (before ++ ⟨#[32]⟩ ++ s ++ ⟨#[32]⟩ ++ behind).size ≤ 1000000 := by
          rw [ByteArray.size_append, ByteArray.size_append, ByteArray.size_append, ByteArray.size_append, show (⟨#[32]⟩ : ByteArray).size = 1 from rfl]; omega
        have Hsz := Lib.hid hsz
        have hcnt := tokens_count _ hsz
        have hlb := toks_bound _ hsz
        rw [hE] at hcnt hlb
        have Hlb := Lib.hid hlb
        have E0 := Lib.hid (phrase_first (L s))
        have E1 := Lib.hid (mid_phrase (L before) (L s) (L behind))
        have E2 := Lib.hid (mid_term (L before) (L s) (L behind))
        have E3 := Lib.hid (mid_one (L before) (L s) (L behind))
        have E4 := Lib.hid (mid_whole (L before) (L s) (L behind))
        have E5 := Lib.hid (mid_part (L before) (L s) (L behind))
        have E6 := Lib.hid (phrase_term40 (L s))
        have hs1 : ¬ 9223372036854775807 < before.size + 1 := by omega
        have hs2 : ¬ 9223372036854775807 < before.size + 1 + s.size := by omega
        have hs3 : ¬ 9223372036854775807 < before.size + 1 + s.size + 1 := by omega
        have hs4 : ¬ 9223372036854775807 < before.size + 1 + s.size + 1 + behind.size := by omega
        clear hE hsz hlb
        generalize tokensL (L before ++ 32 :: (L s ++ 32 :: L behind)) = l at *
        go_wp2_with fail
        refine (toks11_at _ Hsz.out l HE.out w1).mono ?_
        rintro e w2 ⟨v, rfl, hb, ht⟩
        have B2 := Lib.hid (step_call B1.out hb)
        have Ht := Lib.hid ht
        clear ht HE Hsz hs1 hs2 hs3 hs4
        clear hb
        have hpl := phrase_len (L s) (by rw [length_L]; omega)
        have HP := query_Phrase (L s) (by rw [length_L]; omega) w2 (HT.out.below B2.out)
        rw [B_L] at HP
        have HP := Lib.hid HP
        go_wp2_with fail
        refine (HP.out).mono ?_
        rintro e w3 ⟨vp, rfl, hb, hown⟩
        replace Ht := Lib.hid (Ht.out.below hb)
        have B3 := Lib.hid (step_call B2.out hb)
        have HO := Lib.hid hown
        clear hown HP
        clear hb
        generalize phraseL (L s) = P at *
        generalize hok : decide (0 < P.length) = ok at *
        clear hok
        go_wp2_with fail
        refine (law_one 3 s w3).mono ?_
        rintro e w4 ⟨rfl, hb⟩
        replace Ht := Lib.hid (Ht.out.below hb)
        replace HO := Lib.hid (own_below HO.out hb)
        have B4 := Lib.hid (step_call B3.out hb)
        clear hb
        go_wp2_with fail
        have hsz : Hid (w4.heap.size = w4.heap.size) := Lib.hid rfl
        have hb := step_new (Below.refl w4.heap.size w4) (.cells #[.int .i64 3, .string s, .slice none 0 0, .slice none 0 0, .slice none 0 0] 24)
        have p0 : (w4.alloc (.cells #[.int .i64 3, .string s, .slice none 0 0, .slice none 0 0, .slice none 0 0] 24)).cell? ⟨w4.heap.size, 0, none⟩ = some (.int .i64 3) := by rw [Lib.cell_of_heap (heap_alloc_new w4 _)]; rfl
        rw [hsz.out] at p0
        have p1 : (w4.alloc (.cells #[.int .i64 3, .string s, .slice none 0 0, .slice none 0 0, .slice none 0 0] 24)).cell? ⟨w4.heap.size, 1, none⟩ = some (.string s) := by rw [Lib.cell_of_heap (heap_alloc_new w4 _)]; rfl
        rw [hsz.out] at p1
        have p2 : (w4.alloc (.cells #[.int .i64 3, .string s, .slice none 0 0, .slice none 0 0, .slice none 0 0] 24)).cell? ⟨w4.heap.size, 2, none⟩ = some (.slice none 0 0) := by rw [Lib.cell_of_heap (heap_alloc_new w4 _)]; rfl
        rw [hsz.out] at p2
        have p3 : (w4.alloc (.cells #[.int .i64 3, .string s, .slice none 0 0, .slice none 0 0, .slice none 0 0] 24)).cell? ⟨w4.heap.size, 3, none⟩ = some (.slice none 0 0) := by rw [Lib.cell_of_heap (heap_alloc_new w4 _)]; rfl
        rw [hsz.out] at p3
        have p4 : (w4.alloc (.cells #[.int .i64 3, .string s, .slice none 0 0, .slice none 0 0, .slice none 0 0] 24)).cell? ⟨w4.heap.size, 4, none⟩ = some (.slice none 0 0) := by rw [Lib.cell_of_heap (heap_alloc_new w4 _)]; rfl
        rw [hsz.out] at p4
        replace Ht := Lib.hid (Ht.out.below hb)
        replace HO := Lib.hid (own_below HO.out hb)
        have hsz2 : (w4.alloc (.cells #[.int .i64 3, .string s, .slice none 0 0, .slice none 0 0, .slice none 0 0] 24)).heap.size = w4.heap.size + 1 := World.size_alloc _ _
        rw [hsz.out] at hsz2
        have hsz := Lib.hid hsz2
        have B5 := Lib.hid (step_new B4.out (.cells #[.int .i64 3, .string s, .slice none 0 0, .slice none 0 0, .slice none 0 0] 24))
        clear hb hsz2
        generalize w4.alloc (.cells #[.int .i64 3, .string s, .slice none 0 0, .slice none 0 0, .slice none 0 0] 24) = w5 at *
        refine (right_at 3 (by omega) s (by omega) w5 (HT.out.below B5.out)).mono ?_
        rintro e w6 ⟨rfl, hb⟩
        replace p0 := cell_call hb p0
        replace p1 := cell_call hb p1
        replace p2 := cell_call hb p2
        replace p3 := cell_call hb p3
        replace p4 := cell_call hb p4
        replace Ht := Lib.hid (Ht.out.below hb)
        replace HO := Lib.hid (own_below HO.out hb)
        have B6 := Lib.hid (step_call B5.out hb)
        clear hb
        generalize rightB (.mk 3 (L s) [] [] []) = rt at *
        cases rt
        case false =>
          go_wp2
          go_ret
          exact ⟨rfl, B6.out⟩
        case true =>
          go_wp2_with fail
          refine (mat_at 3 (by omega) s (by omega) l v Hlb.out hcnt ok E1.out w6 Ht.out (HT.out.below B6.out)).mono ?_
          rintro e w7 ⟨rfl, hb⟩
          replace p0 := cell_call hb p0
          replace p1 := cell_call hb p1
          replace p2 := cell_call hb p2
          replace p3 := cell_call hb p3
          replace p4 := cell_call hb p4
          replace Ht := Lib.hid (Ht.out.below hb)
          replace HO := Lib.hid (own_below HO.out hb)
          have B7 := Lib.hid (step_call B6.out hb)
          clear hb
          go_wp2_with fail
          refine (law_one 2 s w7).mono ?_
          rintro e w8 ⟨rfl, hb⟩
          replace p0 := cell_call hb p0
          replace p1 := cell_call hb p1
          replace p2 := cell_call hb p2
          replace p3 := cell_call hb p3
          replace p4 := cell_call hb p4
          replace Ht := Lib.hid (Ht.out.below hb)
          replace HO := Lib.hid (own_below HO.out hb)
          have B8 := Lib.hid (step_call B7.out hb)
          clear hb
          go_wp2_with fail
          refine (mat_at 2 (by omega) s (by omega) l v Hlb.out hcnt ok E2.out w8 Ht.out (HT.out.below B8.out)).mono ?_
          rintro e w9 ⟨rfl, hb⟩
          replace p0 := cell_call hb p0
          replace p1 := cell_call hb p1
          replace p2 := cell_call hb p2
          replace p3 := cell_call hb p3
          replace p4 := cell_call hb p4
          replace Ht := Lib.hid (Ht.out.below hb)
          replace HO := Lib.hid (own_below HO.out hb)
          have B9 := Lib.hid (step_call B8.out hb)
          clear hb
          have hkk : (ok != ok) = false := by cases ok <;> rfl
          obtain ⟨pa, pc, rfl⟩ := own_form HO.out
          have Hpt := Lib.hid (own_toks HO.out)
          have BZ := B9
          clear E1 E2 HO p0 p1 p2 p3 p4
          go_wp2
          go_loopw [15] (fun x15 wr => ∃ i : Nat, i ≤ P.length ∧ x15 = .int .i64 i ∧ Below w9.heap.size w9 wr) (fun x15 _ => P.length - (intOf x15).toNat)
          case atStart => exact ⟨0, by omega, rfl, Below.refl _ _⟩
          case round =>
            obtain ⟨i, hi, rfl, hbel⟩ := hrel
            have B0 := Lib.hid (step_call BZ.out hbel)
            have Ht0 := Lib.hid (Ht.out.below hbel)
            have Hbel := Lib.hid hbel
            by_cases hlt : i < P.length
            · obtain ⟨oa, oc, e, hcells⟩ := Hpt.out.below hbel
              simp only [Value.slice.injEq, true_and] at e
              obtain ⟨rfl, rfl⟩ := e
              obtain ⟨pb, pf, rfl, hpb, k1, -⟩ := hcells i hlt
              obtain ⟨pb', pf', e, -, -, k2⟩ := hcells 0 (by omega)
              simp only [Option.some.injEq, Addr.mk.injEq, and_true] at e
              obtain ⟨rfl, rfl⟩ := e
              rw [E0.out (by omega)] at k2
              simp only [Nat.zero_mul, Nat.add_zero] at k2
              have K2 := Lib.hid k2
              have hki : (i : Int) < (P.length : Int) := by omega
              have e3 := E3.out i hlt
              have e4 := E4.out i hlt
              have E5i := Lib.hid (E5.out i hlt)
              have h40 := E6.out i hlt
              have HX := Lib.hid (⟨e3, e4⟩ : _ ∧ _)
              clear hcells hbel e3 e4
              generalize P[i].1 = x at *
              obtain ⟨e3, e4⟩ := HX.out
              have E3i := Lib.hid e3
              have E4i := Lib.hid e4
              have hxz : (B x).size = x.length := size_B x
              clear HX e3 e4 k2
              go_wp2_with fail
              refine (law_one 2 (B x) wr).mono ?_
              rintro e z1 ⟨rfl, hb⟩
              have C1 := Lib.hid (step_call B0.out hb)
              have D1 := Lib.hid hb
              have Ht1 := Lib.hid (Ht0.out.below hb)
              have k2 := cell_call hb K2.out
              have K2 := Lib.hid k2
              clear hb k1 k2
              go_wp2_with fail
              refine (mat_at 2 (by omega) (B x) (by omega) l v Hlb.out hcnt true E3i.out z1 Ht1.out (HT.out.below C1.out)).mono ?_
              rintro e z2 ⟨rfl, hb⟩
              have C2 := Lib.hid (step_call C1.out hb)
              have D2 := Lib.hid hb
              have Ht2 := Lib.hid (Ht1.out.below hb)
              have K2 := Lib.hid (cell_call hb K2.out)
              clear hb
              go_wp2_with fail
              refine (law_one 4 (B x) z2).mono ?_
              rintro e z3 ⟨rfl, hb⟩
              have C3 := Lib.hid (step_call C2.out hb)
              have D3 := Lib.hid hb
              have Ht3 := Lib.hid (Ht2.out.below hb)
              have K2 := Lib.hid (cell_call hb K2.out)
              clear hb
              go_wp2_with fail
              refine (mat_at 4 (by omega) (B x) (by omega) l v Hlb.out hcnt true E4i.out z3 Ht3.out (HT.out.below C3.out)).mono ?_
              rintro e z4 ⟨rfl, hb⟩
              have C4 := Lib.hid (step_call C3.out hb)
              have D4 := Lib.hid hb
              have Ht4 := Lib.hid (Ht3.out.below hb)
              have k2 := cell_call hb K2.out
              clear hb
              have hp0 : 0 < P.length := by omega
              have hp0i : (0 : Int) < (P.length : Int) := by omega
              have hne0 : ((0 : Int) != 0) = false := by simp
              have BR := Lib.hid (step_call (step_call (step_call (step_call (Below.refl wr.heap.size wr) D1.out) D2.out) D3.out) D4.out)
              have BX := Lib.hid (step_call Hbel.out BR.out)
              by_cases hn0 : 0 < n
              · obtain ⟨k, rfl⟩ : ∃ k : Nat, n = (k : Int) := ⟨n.toNat, by omega⟩
                by_cases hkx : k < x.length
                · have hkxi : (k : Int) < (x.length : Int) := by omega
                  have hkz : k < (B x).size := by omega
                  have hgx : (B x)[k]'hkz = x[k]'hkx := get_L (B x) k hkz
                  have hn0' : 0 < k := by omega
                  by_cases hb8 : ((B x)[k]'hkz).toNat < 128
                  · have hb8i : ((((B x)[k]'hkz).toNat : Nat) : Int) < 128 := by omega
                    have e5 := E5i.out k (by omega) hkx (by rw [← hgx]; exact hb8)
                    have hex : L ((B x).extract 0 k) = x.take k := by rw [extract_take, L_B, L_B]
                    rw [← hex] at e5
                    have hez : ((B x).extract 0 k).size ≤ 1000 := by rw [← length_L, hex, List.length_take]; omega
                    have E5' := Lib.hid e5
                    have Hez := Lib.hid hez
                    clear hgx e5 hex hez
                    go_wp2_with fail
                    refine (law_one 4 ((B x).extract 0 k) z4).mono ?_
                    rintro e z5 ⟨rfl, hb⟩
                    have C5 := Lib.hid (step_call C4.out hb)
                    have BY := Lib.hid (step_call BX.out hb)
                    have Ht5 := Lib.hid (Ht4.out.below hb)
                    clear hb
                    go_wp2_with fail
                    refine (mat_at 4 (by omega) ((B x).extract 0 k) Hez.out l v Hlb.out hcnt true E5'.out z5 Ht5.out (HT.out.below C5.out)).mono ?_
                    rintro e z6 ⟨rfl, hb⟩
                    have BZ6 := Lib.hid (step_call BY.out hb)
                    clear hb
                    go_wp2
                    go_roundw
                    case rel => exact ⟨i + 1, by omega, by go_num, BZ6.out⟩
                    case measure => simp [intOf]; omega
                  · have hb8i : ¬ ((((B x)[k]'hkz).toNat : Nat) : Int) < 128 := by omega
                    clear hgx
                    go_wp2
                    refine ⟨⟨i + 1, by omega, rfl, BX.out⟩, ?_⟩
                    simp [intOf]; omega
                · have hkxi : ¬ (k : Int) < (x.length : Int) := by omega
                  have hn0' : 0 < k := by omega
                  go_wp2
                  refine ⟨⟨i + 1, by omega, rfl, BX.out⟩, ?_⟩
                  simp [intOf]; omega
              · go_wp2
                refine ⟨⟨i + 1, by omega, rfl, BX.out⟩, ?_⟩
                simp [intOf]; omega
            · obtain rfl : i = P.length := by omega
              have hki : ¬ ((P.length : Int) < (P.length : Int)) := by omega
              clear hbel
              go_wp2
              go_ret
              exact ⟨rfl, B0.out⟩
      · have hbhi : 500 < (behind.size : Int) := by omega
        go_wp2
        go_ret
        exact ⟨rfl, B1.out⟩
    · have hbei : 500 < (before.size : Int) := by omega
      go_wp2
      go_ret
      exact ⟨rfl, B1.out⟩
  · have hsi : 190 < (s.size : Int) := by omega
    go_wp2
    go_ret
    exact ⟨rfl, B1.out⟩
end Go.Proofs.YtlfhgmclnapmjaaDoor
