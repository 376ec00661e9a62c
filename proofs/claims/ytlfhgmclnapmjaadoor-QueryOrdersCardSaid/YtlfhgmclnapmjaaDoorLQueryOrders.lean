/- The law QueryOrders returns true for every list of queries, every text and every turn. Condition: the tables are laid. -/
import Derived.Test.YtlfhgmclnapmjaaDoorQryRot
import Derived.Deep.RegionHeld3
namespace Go.Proofs.YtlfhgmclnapmjaaDoor
open Go.RowKit Go.Utf Go.Qry Go.Lib
attribute [local go_sem] Oper.semAt_some

set_option maxRecDepth 100000 in
set_option maxHeartbeats 12800000 in
theorem walk_QueryOrders (n : Nat) (lv : Value) (z : List Qy) (s : ByteArray) (turn : Int) (w : World) (h : QRow w n lv z) (_ : s.size ≤ maxLen) (ht : (Lit.int .i64 turn).wf = true) (hT : Tabs w) :
    Calls Tryd.prog 7 #[lv, .string s, .int .i64 turn] w fun e w' => e = .returned (.bool true) ∧ Below w.heap.size w w' := by
  obtain ⟨iq, hi, hz0, hz1, hz2⟩ := info_parts Tryd.info_qy
  have HS := Lib.hid (law_shown17 w hT)
  have HT := Lib.hid hT
  obtain ⟨oa, c, ps, rfl, m1, m2, m3, m4, m5⟩ := h.parts
  obtain ⟨oa', c', e, hzl, hcell⟩ := h.form
  simp only [Value.slice.injEq, true_and] at e
  obtain ⟨rfl, rfl⟩ := e
  have Hcell := Lib.hid hcell
  have Hrow := Lib.hid h
  have M1 := Lib.hid m1
  have M2 := Lib.hid m2
  have M4 := Lib.hid m4
  have M5 := Lib.hid m5
  have hturn : -9223372036854775808 ≤ turn ∧ turn ≤ 9223372036854775807 := by
    have hc := ht
    simp [Lit.wf, IntKind.min, IntKind.max, IntKind.signed, IntKind.bits] at hc
    omega
  clear hcell m1 m2 m4 m5 h hT ht
  go_enter Tryd.func7, Tryd.ntmps7
  go_wp2_with fail
  refine HS.out.mono ?_
  rintro e w1 ⟨rfl, hb⟩
  have B1 := Lib.hid hb
  clear hb HS
  by_cases h0 : z.length = 0
  · have h0i : ((z.length : Int) == 0) = true := by simp [h0]
    clear h0 Hcell Hrow M1 M2 M4 M5
    go_wp2
    go_ret
    exact ⟨rfl, B1.out⟩
  · have h0i : ((z.length : Int) == 0) = false := by rw [beq_eq_false_iff_ne]; omega
    by_cases h10 : z.length ≤ 10
    · have h10i : ¬ 10 < (z.length : Int) := by omega
      by_cases hsz : s.size ≤ 1500
      · have hszi : ¬ 1500 < (s.size : Int) := by omega
        go_wp2
        go_loopw [8] (fun x8 wr => ∃ i : Nat, i ≤ z.length ∧ x8 = .int .i64 i ∧ (z.take i).all goodQ = true ∧ Below w.heap.size w wr) (fun x8 _ => z.length - (intOf x8).toNat)
        case atStart => exact ⟨0, by omega, rfl, rfl, B1.out⟩
        case round =>
          obtain ⟨i, hi, rfl, hal, hbel⟩ := hrel
          have Hal := Lib.hid hal
          have B2 := Lib.hid hbel
          clear hal
          by_cases hlt : i < z.length
          · obtain ⟨bb, off, k, um, us, un, hnk, rfl, hbb, hcc, c0, c1, c2, c3, c4, hv⟩ := Hcell.out i hlt
            have c0 := cell_below hbel hbb c0
            have c1 := cell_below hbel hbb c1
            have c2 := cell_below hbel hbb c2
            have c3 := cell_below hbel hbb c3
            have c4 := cell_below hbel hbb c4
            have hki : (i : Int) < (z.length : Int) := by omega
            have Hst := Lib.hid (allQ_snoc z goodQ i hlt)
            have Hgd : Hid (goodQ z[i] = (smallQ z[i] && rightB z[i])) := Lib.hid rfl
            have Hv := Lib.hid (hv.below hbel)
            clear hbel hv
            generalize z[i] = u at *
            have HM := Lib.hid (fun (w' : World) (hb : Below wr.heap.size wr w') => law_small17 k u um us un w' (Hv.out.below hb))
            have HR := Lib.hid (fun (w' : World) (hb : Below wr.heap.size wr w') => query_Right k u um us un w' (Hv.out.below hb) (HT.out.below (step_call B2.out hb)))
            unfold qV at HM HR
            generalize goodQ u = gu at *
            generalize smallQ u = sm at *
            generalize rightB u = rt at *
            go_wp2_with fail
            refine (HM.out _ (Below.refl _ _)).mono ?_
            rintro e w3 ⟨rfl, hb3⟩
            have HB3 := Lib.hid hb3
            replace c0 := cell_call hb3 c0
            replace c1 := cell_call hb3 c1
            replace c2 := cell_call hb3 c2
            replace c3 := cell_call hb3 c3
            replace c4 := cell_call hb3 c4
            clear hb3
            go_wp2_with fail
            refine (HR.out _ HB3.out).mono ?_
            rintro e w4 ⟨rfl, hb4⟩
            have B4 := Lib.hid (step_call (step_call B2.out HB3.out) hb4)
            clear hb4 c0 c1 c2 c3 c4
            cases sm
            case false =>
              cases rt
              all_goals
                go_wp2
                go_ret
                exact ⟨rfl, B4.out⟩
            case true =>
              cases rt
              case false =>
                go_wp2
                go_ret
                exact ⟨rfl, B4.out⟩
              case true =>
                go_wp2
                go_roundw
                case rel => exact ⟨i + 1, by omega, by go_num, by rw [Hst.out, Hal.out, Hgd.out]; rfl, B4.out⟩
                case measure => simp [intOf]; omega
          · obtain rfl : i = z.length := by omega
            have Hgood : Hid (∀ q ∈ z, goodQ q = true) := Lib.hid (by have := Hal.out; rw [List.take_of_length_le (Nat.le_refl _), List.all_eq_true] at this; exact this)
            obtain ⟨K, hKN, hK⟩ := turn_at turn z.length (by omega)
            obtain ⟨bb, off, _, _, _, _, _, rfl, hbb, hcc, -⟩ := Hcell.out 0 (by omega)
            have hzz : ¬ ((z.length : Int) = 0) := by omega
            have hk5 : IntKind.i64.wrap (K : Int) = (K : Int) := IntWalk.i64_in _ (by omega)
            have hk6 : IntKind.i64.wrap (-(K : Int)) = -(K : Int) := IntWalk.i64_in _ (by omega)
            have hk7 : IntKind.i64.wrap (- -(K : Int)) = (K : Int) := by rw [Int.neg_neg]; exact hk5
            have q1 : (0 : Int) ≤ (K : Int) := by omega
            have q2 : (K : Int) ≤ (c : Int) := by omega
            have q3 : (z.length : Int) ≤ (c : Int) := by omega
            have q4 : (K : Int) ≤ (z.length : Int) := by omega
            have q5 : ¬ c = K := by omega
            clear Hal hbel hlt hi hzl Hcell
            have hpl : ps.length = z.length := by rw [← M1.out, List.length_map]
            have HnD := Lib.hid (fun (w' : World) (hb : Below w.heap.size w w') => news_below hb (news_drop (K := K) (by omega) M4.out))
            have HnT := Lib.hid (fun (w' : World) (hb : Below w.heap.size w w') => news_below hb (news_take (K := K) M4.out))
            have H5D : Hid (∀ u ∈ qCells (ps.drop K), u.oneCell' = true) := Lib.hid (fun u hu => M5.out u (qCells_mem_drop hu))
            have H5T : Hid (∀ u ∈ qCells (ps.take K), u.oneCell' = true) := Lib.hid (fun u hu => M5.out u (qCells_mem_take hu))
            have HlD : Hid ((qCells (ps.drop K)).length = (z.length - K) * 5) := Lib.hid (by rw [qCells_length, List.length_drop, hpl])
            have HlT : Hid ((qCells (ps.take K)).length = K * 5) := Lib.hid (by rw [qCells_length, List.length_take]; congr 1; omega)
            have Hsh : Hid (∀ k ∈ z, shortB k = true) := Lib.hid (fun k hk => (good_facts (Hgood.out k hk)).2)
            have HLK := Lib.hid (Hrow.out.take rfl K (by omega))
            rcases hK with ⟨hk1, hk2⟩ | ⟨hk1, hk2⟩
            all_goals
              rw [hk2] at hk1
              have hk8 : ¬ (K : Int) < 0 := by omega
              go_wp2
              clear hk1 hk2 hk5 hk6 hk7 hk8 hzz h0i
              go_region_held3 (fun w' => Below wr.heap.size wr w' ∧ wr.heap.size ≤ w'.heap.size)
                (first
                  | exact c_drew wr
                  | exact c_new (by assumption) _
                  | exact c_grown (by assumption) hgrow6 (fun k e => (hown5.lt k e).1)
                  | exact c_grown (by assumption) hgrow5 (fun k e => (by simp [Value.ownBlock] at e; omega))
                  | assumption)
                (first
                  | (refine step_append_any _ (by rfl) _ _ _ (by rfl) wr.heap.size 24 iq _ 5 96 Tryd.underlying22 hi hz0 hz1 hz2 rfl (by decide) (.slice (some ⟨wr.heap.size, 0, none⟩) 0 0) 0 [] (by rfl) (own_nil_new _ 5 (heap_alloc_new wr _) (by omega)) (some ⟨bb, off + K * 5, none⟩) (z.length - K) (c - K) (qCells (ps.drop K)) (by rfl) HlD.out (fun h => (by cases h)) (HnD.out _ (by go_split_ands; exact B2.out.trans (Below.mono (by assumption) B2.out.size))) H5D.out (by unfold maxLen; omega) (by omega) (by first | (simp; done) | (simp; omega)) ?_; intro v5 w5 hown5 hgrow5 _; have hsz5 : wr.heap.size ≤ w5.heap.size := (by have h := hgrow5.size; first | omega | (simp at h; omega)))
                  | (refine step_append_any _ (by rfl) _ _ _ (by rfl) wr.heap.size 24 iq _ 5 96 Tryd.underlying22 hi hz0 hz1 hz2 rfl (by decide) v5 (0 + (z.length - K)) ([] ++ qCells (ps.drop K)) (by rfl) hown5 (some ⟨bb, off, none⟩) K c (qCells (ps.take K)) (by rfl) HlT.out (fun h => (by cases h)) (HnT.out _ (by go_split_ands; exact B2.out.trans (Below.mono (by assumption) B2.out.size))) H5T.out (by unfold maxLen; omega) (by omega) (by first | exact hsz5 | (simp; done) | (simp; omega)) ?_; intro v6 w6 hown6 hgrow6 _; have hsz6 : wr.heap.size ≤ w6.heap.size := (by have h := hgrow6.size; first | omega | (simp at h; omega)))
                  | fail)
              have hbw : Below wr.heap.size wr w6 := by go_split_ands; assumption
              have hb6 := step_call B2.out hbw
              have hown7 : w6.ownsRow wr.heap.size 24 5 v6 z.length (qCells (ps.drop K ++ ps.take K)) := by
                have h := hown6
                rw [show 0 + (z.length - K) + K = z.length by omega, List.nil_append, ← qCells_append] at h
                exact h
              obtain ⟨o6, c6, rfl⟩ := own_form hown7
              have HQo : Hid (QRow w6 n (.slice o6 z.length c6) (z.drop K ++ z.take K)) := Lib.hid (by
                have hl : (ps.drop K ++ ps.take K).length = z.length := by rw [len_rot, hpl]
                have h := QRow.of_own' (l := ps.drop K ++ ps.take K) (base := wr.heap.size) (n := n) (by rw [hl]; exact hown7) (fun p hp => by
                  have hm := (mem_rot ps K p).1 hp
                  exact ⟨(M2.out p hm).1, (M2.out p hm).2.below hb6⟩)
                rwa [List.map_append, List.map_drop, List.map_take, M1.out] at h)
              have B6 := Lib.hid hb6
              clear hb6 hown5 hgrow5 hown6 hgrow6 hown7 hbw hsz5 hsz6 HnD HnT H5D H5T HlD HlT M1 M2 M4 M5
              try go_split_ands
              have HTk := Lib.hid (ref11_Tokens s (by omega))
              have hcnt := tokens_count s (by omega)
              have Hlb := Lib.hid (toks_bound s (by omega))
              go_wp2_with fail
              refine (HTk.out w6).mono ?_
              rintro e w7 ⟨v, rfl, hb, hown⟩
              replace HQo := Lib.hid (HQo.out.below hb)
              have B7 := Lib.hid (step_call B6.out hb)
              have Ht := Lib.hid (own_toks hown)
              clear hown
              clear hb
              clear HTk
              generalize tokensL (L s) = l at *
              go_wp2_with fail
              have hsz : Hid (w7.heap.size = w7.heap.size) := Lib.hid rfl
              have hb := step_new (Below.refl w7.heap.size w7) (.cells #[.int .i64 5, .string ⟨#[]⟩, .slice (some ⟨bb, off, none⟩) z.length c, .slice none 0 0, .slice none 0 0] 24)
              have ka0 : (w7.alloc (.cells #[.int .i64 5, .string ⟨#[]⟩, .slice (some ⟨bb, off, none⟩) z.length c, .slice none 0 0, .slice none 0 0] 24)).cell? ⟨w7.heap.size, 0, none⟩ = some (.int .i64 5) := by rw [Lib.cell_of_heap (heap_alloc_new w7 _)]; rfl
              rw [hsz.out] at ka0
              have ka1 : (w7.alloc (.cells #[.int .i64 5, .string ⟨#[]⟩, .slice (some ⟨bb, off, none⟩) z.length c, .slice none 0 0, .slice none 0 0] 24)).cell? ⟨w7.heap.size, 1, none⟩ = some (.string ⟨#[]⟩) := by rw [Lib.cell_of_heap (heap_alloc_new w7 _)]; rfl
              rw [hsz.out] at ka1
              have ka2 : (w7.alloc (.cells #[.int .i64 5, .string ⟨#[]⟩, .slice (some ⟨bb, off, none⟩) z.length c, .slice none 0 0, .slice none 0 0] 24)).cell? ⟨w7.heap.size, 2, none⟩ = some (.slice (some ⟨bb, off, none⟩) z.length c) := by rw [Lib.cell_of_heap (heap_alloc_new w7 _)]; rfl
              rw [hsz.out] at ka2
              have ka3 : (w7.alloc (.cells #[.int .i64 5, .string ⟨#[]⟩, .slice (some ⟨bb, off, none⟩) z.length c, .slice none 0 0, .slice none 0 0] 24)).cell? ⟨w7.heap.size, 3, none⟩ = some (.slice none 0 0) := by rw [Lib.cell_of_heap (heap_alloc_new w7 _)]; rfl
              rw [hsz.out] at ka3
              have ka4 : (w7.alloc (.cells #[.int .i64 5, .string ⟨#[]⟩, .slice (some ⟨bb, off, none⟩) z.length c, .slice none 0 0, .slice none 0 0] 24)).cell? ⟨w7.heap.size, 4, none⟩ = some (.slice none 0 0) := by rw [Lib.cell_of_heap (heap_alloc_new w7 _)]; rfl
              rw [hsz.out] at ka4
              replace HQo := Lib.hid (HQo.out.below hb)
              replace Ht := Lib.hid (Ht.out.below hb)
              have hsz2 : (w7.alloc (.cells #[.int .i64 5, .string ⟨#[]⟩, .slice (some ⟨bb, off, none⟩) z.length c, .slice none 0 0, .slice none 0 0] 24)).heap.size = w7.heap.size + 1 := World.size_alloc _ _
              rw [hsz.out] at hsz2
              have hsz := Lib.hid hsz2
              have B8 := Lib.hid (step_new B7.out (.cells #[.int .i64 5, .string ⟨#[]⟩, .slice (some ⟨bb, off, none⟩) z.length c, .slice none 0 0, .slice none 0 0] 24))
              clear hb hsz2
              generalize w7.alloc (.cells #[.int .i64 5, .string ⟨#[]⟩, .slice (some ⟨bb, off, none⟩) z.length c, .slice none 0 0, .slice none 0 0] 24) = w8 at *
              have hb := step_new (Below.refl w8.heap.size w8) (.cells #[.int .i64 5, .string ⟨#[]⟩, .slice o6 z.length c6, .slice none 0 0, .slice none 0 0] 24)
              have kb0 : (w8.alloc (.cells #[.int .i64 5, .string ⟨#[]⟩, .slice o6 z.length c6, .slice none 0 0, .slice none 0 0] 24)).cell? ⟨w8.heap.size, 0, none⟩ = some (.int .i64 5) := by rw [Lib.cell_of_heap (heap_alloc_new w8 _)]; rfl
              rw [hsz.out] at kb0
              have kb1 : (w8.alloc (.cells #[.int .i64 5, .string ⟨#[]⟩, .slice o6 z.length c6, .slice none 0 0, .slice none 0 0] 24)).cell? ⟨w8.heap.size, 1, none⟩ = some (.string ⟨#[]⟩) := by rw [Lib.cell_of_heap (heap_alloc_new w8 _)]; rfl
              rw [hsz.out] at kb1
              have kb2 : (w8.alloc (.cells #[.int .i64 5, .string ⟨#[]⟩, .slice o6 z.length c6, .slice none 0 0, .slice none 0 0] 24)).cell? ⟨w8.heap.size, 2, none⟩ = some (.slice o6 z.length c6) := by rw [Lib.cell_of_heap (heap_alloc_new w8 _)]; rfl
              rw [hsz.out] at kb2
              have kb3 : (w8.alloc (.cells #[.int .i64 5, .string ⟨#[]⟩, .slice o6 z.length c6, .slice none 0 0, .slice none 0 0] 24)).cell? ⟨w8.heap.size, 3, none⟩ = some (.slice none 0 0) := by rw [Lib.cell_of_heap (heap_alloc_new w8 _)]; rfl
              rw [hsz.out] at kb3
              have kb4 : (w8.alloc (.cells #[.int .i64 5, .string ⟨#[]⟩, .slice o6 z.length c6, .slice none 0 0, .slice none 0 0] 24)).cell? ⟨w8.heap.size, 4, none⟩ = some (.slice none 0 0) := by rw [Lib.cell_of_heap (heap_alloc_new w8 _)]; rfl
              rw [hsz.out] at kb4
              replace ka0 := cell_call hb ka0
              replace ka1 := cell_call hb ka1
              replace ka2 := cell_call hb ka2
              replace ka3 := cell_call hb ka3
              replace ka4 := cell_call hb ka4
              replace HQo := Lib.hid (HQo.out.below hb)
              replace Ht := Lib.hid (Ht.out.below hb)
              have hsz2 : (w8.alloc (.cells #[.int .i64 5, .string ⟨#[]⟩, .slice o6 z.length c6, .slice none 0 0, .slice none 0 0] 24)).heap.size = w8.heap.size + 1 := World.size_alloc _ _
              rw [hsz.out] at hsz2
              have hsz := Lib.hid hsz2
              have B9 := Lib.hid (step_new B8.out (.cells #[.int .i64 5, .string ⟨#[]⟩, .slice o6 z.length c6, .slice none 0 0, .slice none 0 0] 24))
              clear hb hsz2
              generalize w8.alloc (.cells #[.int .i64 5, .string ⟨#[]⟩, .slice o6 z.length c6, .slice none 0 0, .slice none 0 0] 24) = w9 at *
              have hb := step_new (Below.refl w9.heap.size w9) (.cells #[.int .i64 5, .string ⟨#[]⟩, .slice none 0 0, .slice (some ⟨bb, off, none⟩) z.length c, .slice (some ⟨bb, off, none⟩) K c] 24)
              have kc0 : (w9.alloc (.cells #[.int .i64 5, .string ⟨#[]⟩, .slice none 0 0, .slice (some ⟨bb, off, none⟩) z.length c, .slice (some ⟨bb, off, none⟩) K c] 24)).cell? ⟨w9.heap.size, 0, none⟩ = some (.int .i64 5) := by rw [Lib.cell_of_heap (heap_alloc_new w9 _)]; rfl
              rw [hsz.out] at kc0
              have kc1 : (w9.alloc (.cells #[.int .i64 5, .string ⟨#[]⟩, .slice none 0 0, .slice (some ⟨bb, off, none⟩) z.length c, .slice (some ⟨bb, off, none⟩) K c] 24)).cell? ⟨w9.heap.size, 1, none⟩ = some (.string ⟨#[]⟩) := by rw [Lib.cell_of_heap (heap_alloc_new w9 _)]; rfl
              rw [hsz.out] at kc1
              have kc2 : (w9.alloc (.cells #[.int .i64 5, .string ⟨#[]⟩, .slice none 0 0, .slice (some ⟨bb, off, none⟩) z.length c, .slice (some ⟨bb, off, none⟩) K c] 24)).cell? ⟨w9.heap.size, 2, none⟩ = some (.slice none 0 0) := by rw [Lib.cell_of_heap (heap_alloc_new w9 _)]; rfl
              rw [hsz.out] at kc2
              have kc3 : (w9.alloc (.cells #[.int .i64 5, .string ⟨#[]⟩, .slice none 0 0, .slice (some ⟨bb, off, none⟩) z.length c, .slice (some ⟨bb, off, none⟩) K c] 24)).cell? ⟨w9.heap.size, 3, none⟩ = some (.slice (some ⟨bb, off, none⟩) z.length c) := by rw [Lib.cell_of_heap (heap_alloc_new w9 _)]; rfl
              rw [hsz.out] at kc3
              have kc4 : (w9.alloc (.cells #[.int .i64 5, .string ⟨#[]⟩, .slice none 0 0, .slice (some ⟨bb, off, none⟩) z.length c, .slice (some ⟨bb, off, none⟩) K c] 24)).cell? ⟨w9.heap.size, 4, none⟩ = some (.slice (some ⟨bb, off, none⟩) K c) := by rw [Lib.cell_of_heap (heap_alloc_new w9 _)]; rfl
              rw [hsz.out] at kc4
              replace ka0 := cell_call hb ka0
              replace ka1 := cell_call hb ka1
              replace ka2 := cell_call hb ka2
              replace ka3 := cell_call hb ka3
              replace ka4 := cell_call hb ka4
              replace kb0 := cell_call hb kb0
              replace kb1 := cell_call hb kb1
              replace kb2 := cell_call hb kb2
              replace kb3 := cell_call hb kb3
              replace kb4 := cell_call hb kb4
              replace HQo := Lib.hid (HQo.out.below hb)
              replace Ht := Lib.hid (Ht.out.below hb)
              have hsz2 : (w9.alloc (.cells #[.int .i64 5, .string ⟨#[]⟩, .slice none 0 0, .slice (some ⟨bb, off, none⟩) z.length c, .slice (some ⟨bb, off, none⟩) K c] 24)).heap.size = w9.heap.size + 1 := World.size_alloc _ _
              rw [hsz.out] at hsz2
              have hsz := Lib.hid hsz2
              have B10 := Lib.hid (step_new B9.out (.cells #[.int .i64 5, .string ⟨#[]⟩, .slice none 0 0, .slice (some ⟨bb, off, none⟩) z.length c, .slice (some ⟨bb, off, none⟩) K c] 24))
              clear hb hsz2
              generalize w9.alloc (.cells #[.int .i64 5, .string ⟨#[]⟩, .slice none 0 0, .slice (some ⟨bb, off, none⟩) z.length c, .slice (some ⟨bb, off, none⟩) K c] 24) = w10 at *
              have hb := step_new (Below.refl w10.heap.size w10) (.cells #[.int .i64 5, .string ⟨#[]⟩, .slice none 0 0, .slice o6 z.length c6, .slice (some ⟨bb, off, none⟩) K c] 24)
              have kd0 : (w10.alloc (.cells #[.int .i64 5, .string ⟨#[]⟩, .slice none 0 0, .slice o6 z.length c6, .slice (some ⟨bb, off, none⟩) K c] 24)).cell? ⟨w10.heap.size, 0, none⟩ = some (.int .i64 5) := by rw [Lib.cell_of_heap (heap_alloc_new w10 _)]; rfl
              rw [hsz.out] at kd0
              have kd1 : (w10.alloc (.cells #[.int .i64 5, .string ⟨#[]⟩, .slice none 0 0, .slice o6 z.length c6, .slice (some ⟨bb, off, none⟩) K c] 24)).cell? ⟨w10.heap.size, 1, none⟩ = some (.string ⟨#[]⟩) := by rw [Lib.cell_of_heap (heap_alloc_new w10 _)]; rfl
              rw [hsz.out] at kd1
              have kd2 : (w10.alloc (.cells #[.int .i64 5, .string ⟨#[]⟩, .slice none 0 0, .slice o6 z.length c6, .slice (some ⟨bb, off, none⟩) K c] 24)).cell? ⟨w10.heap.size, 2, none⟩ = some (.slice none 0 0) := by rw [Lib.cell_of_heap (heap_alloc_new w10 _)]; rfl
              rw [hsz.out] at kd2
              have kd3 : (w10.alloc (.cells #[.int .i64 5, .string ⟨#[]⟩, .slice none 0 0, .slice o6 z.length c6, .slice (some ⟨bb, off, none⟩) K c] 24)).cell? ⟨w10.heap.size, 3, none⟩ = some (.slice o6 z.length c6) := by rw [Lib.cell_of_heap (heap_alloc_new w10 _)]; rfl
              rw [hsz.out] at kd3
              have kd4 : (w10.alloc (.cells #[.int .i64 5, .string ⟨#[]⟩, .slice none 0 0, .slice o6 z.length c6, .slice (some ⟨bb, off, none⟩) K c] 24)).cell? ⟨w10.heap.size, 4, none⟩ = some (.slice (some ⟨bb, off, none⟩) K c) := by rw [Lib.cell_of_heap (heap_alloc_new w10 _)]; rfl
              rw [hsz.out] at kd4
              replace ka0 := cell_call hb ka0
              replace ka1 := cell_call hb ka1
              replace ka2 := cell_call hb ka2
              replace ka3 := cell_call hb ka3
              replace ka4 := cell_call hb ka4
              replace kb0 := cell_call hb kb0
              replace kb1 := cell_call hb kb1
              replace kb2 := cell_call hb kb2
              replace kb3 := cell_call hb kb3
              replace kb4 := cell_call hb kb4
              replace kc0 := cell_call hb kc0
              replace kc1 := cell_call hb kc1
              replace kc2 := cell_call hb kc2
              replace kc3 := cell_call hb kc3
              replace kc4 := cell_call hb kc4
              replace HQo := Lib.hid (HQo.out.below hb)
              replace Ht := Lib.hid (Ht.out.below hb)
              have hsz2 : (w10.alloc (.cells #[.int .i64 5, .string ⟨#[]⟩, .slice none 0 0, .slice o6 z.length c6, .slice (some ⟨bb, off, none⟩) K c] 24)).heap.size = w10.heap.size + 1 := World.size_alloc _ _
              rw [hsz.out] at hsz2
              have hsz := Lib.hid hsz2
              have B11 := Lib.hid (step_new B10.out (.cells #[.int .i64 5, .string ⟨#[]⟩, .slice none 0 0, .slice o6 z.length c6, .slice (some ⟨bb, off, none⟩) K c] 24))
              clear hb hsz2
              generalize w10.alloc (.cells #[.int .i64 5, .string ⟨#[]⟩, .slice none 0 0, .slice o6 z.length c6, .slice (some ⟨bb, off, none⟩) K c] 24) = w11 at *
              refine (right_bool_at n z [] [] _ _ _ w11 (Hrow.out.below B11.out) (QRow.nil _ _) (QRow.nil _ _) (HT.out.below B11.out)).mono ?_
              rintro e w12 ⟨rfl, hb⟩
              replace ka0 := cell_call hb ka0
              replace ka1 := cell_call hb ka1
              replace ka2 := cell_call hb ka2
              replace ka3 := cell_call hb ka3
              replace ka4 := cell_call hb ka4
              replace kb0 := cell_call hb kb0
              replace kb1 := cell_call hb kb1
              replace kb2 := cell_call hb kb2
              replace kb3 := cell_call hb kb3
              replace kb4 := cell_call hb kb4
              replace kc0 := cell_call hb kc0
              replace kc1 := cell_call hb kc1
              replace kc2 := cell_call hb kc2
              replace kc3 := cell_call hb kc3
              replace kc4 := cell_call hb kc4
              replace kd0 := cell_call hb kd0
              replace kd1 := cell_call hb kd1
              replace kd2 := cell_call hb kd2
              replace kd3 := cell_call hb kd3
              replace kd4 := cell_call hb kd4
              replace HQo := Lib.hid (HQo.out.below hb)
              replace Ht := Lib.hid (Ht.out.below hb)
              have B12 := Lib.hid (step_call B11.out hb)
              clear hb
              generalize rightB (.mk 5 [] z [] []) = r1 at *
              go_wp2_with fail
              refine (right_bool_at n [] z (z.take K) _ _ _ w12 (QRow.nil _ _) (Hrow.out.below B12.out) (HLK.out.below B12.out) (HT.out.below B12.out)).mono ?_
              rintro e w13 ⟨rfl, hb⟩
              replace ka0 := cell_call hb ka0
              replace ka1 := cell_call hb ka1
              replace ka2 := cell_call hb ka2
              replace ka3 := cell_call hb ka3
              replace ka4 := cell_call hb ka4
              replace kb0 := cell_call hb kb0
              replace kb1 := cell_call hb kb1
              replace kb2 := cell_call hb kb2
              replace kb3 := cell_call hb kb3
              replace kb4 := cell_call hb kb4
              replace kc0 := cell_call hb kc0
              replace kc1 := cell_call hb kc1
              replace kc2 := cell_call hb kc2
              replace kc3 := cell_call hb kc3
              replace kc4 := cell_call hb kc4
              replace kd0 := cell_call hb kd0
              replace kd1 := cell_call hb kd1
              replace kd2 := cell_call hb kd2
              replace kd3 := cell_call hb kd3
              replace kd4 := cell_call hb kd4
              replace HQo := Lib.hid (HQo.out.below hb)
              replace Ht := Lib.hid (Ht.out.below hb)
              have B13 := Lib.hid (step_call B12.out hb)
              clear hb
              have Hrc : Hid (rightB (.mk 5 [] [] z (z.take K)) = true → cnt (.mk 5 [] [] z (z.take K)) ≤ 100000) := Lib.hid (fun h => by have := ((right_iff _).1 h).1; omega)
              generalize rightB (.mk 5 [] [] z (z.take K)) = r2 at *
              cases r1
              case false =>
                cases r2
                all_goals
                  go_wp2
                  go_ret
                  exact ⟨rfl, B13.out⟩
              case true =>
                cases r2
                case false =>
                  go_wp2
                  go_ret
                  exact ⟨rfl, B13.out⟩
                case true =>
                  have hcc := Hrc.out rfl
                  go_wp2_with fail
                  refine (size_bool_at n z [] [] _ _ _ w13 (Hrow.out.below B13.out) (QRow.nil _ _) (QRow.nil _ _)).mono ?_
                  rintro e w14 ⟨rfl, hb⟩
                  replace ka0 := cell_call hb ka0
                  replace ka1 := cell_call hb ka1
                  replace ka2 := cell_call hb ka2
                  replace ka3 := cell_call hb ka3
                  replace ka4 := cell_call hb ka4
                  replace kb0 := cell_call hb kb0
                  replace kb1 := cell_call hb kb1
                  replace kb2 := cell_call hb kb2
                  replace kb3 := cell_call hb kb3
                  replace kb4 := cell_call hb kb4
                  replace kc0 := cell_call hb kc0
                  replace kc1 := cell_call hb kc1
                  replace kc2 := cell_call hb kc2
                  replace kc3 := cell_call hb kc3
                  replace kc4 := cell_call hb kc4
                  replace kd0 := cell_call hb kd0
                  replace kd1 := cell_call hb kd1
                  replace kd2 := cell_call hb kd2
                  replace kd3 := cell_call hb kd3
                  replace kd4 := cell_call hb kd4
                  replace HQo := Lib.hid (HQo.out.below hb)
                  replace Ht := Lib.hid (Ht.out.below hb)
                  have B14 := Lib.hid (step_call B13.out hb)
                  clear hb
                  have HSb := size_bool_at n (z.drop K ++ z.take K) [] [] _ _ _ w14 HQo.out (QRow.nil _ _) (QRow.nil _ _)
                  rw [rot_size] at HSb
                  have HSb := Lib.hid HSb
                  go_wp2_with fail
                  refine (HSb.out).mono ?_
                  rintro e w15 ⟨rfl, hb⟩
                  replace ka0 := cell_call hb ka0
                  replace ka1 := cell_call hb ka1
                  replace ka2 := cell_call hb ka2
                  replace ka3 := cell_call hb ka3
                  replace ka4 := cell_call hb ka4
                  replace kb0 := cell_call hb kb0
                  replace kb1 := cell_call hb kb1
                  replace kb2 := cell_call hb kb2
                  replace kb3 := cell_call hb kb3
                  replace kb4 := cell_call hb kb4
                  replace kc0 := cell_call hb kc0
                  replace kc1 := cell_call hb kc1
                  replace kc2 := cell_call hb kc2
                  replace kc3 := cell_call hb kc3
                  replace kc4 := cell_call hb kc4
                  replace kd0 := cell_call hb kd0
                  replace kd1 := cell_call hb kd1
                  replace kd2 := cell_call hb kd2
                  replace kd3 := cell_call hb kd3
                  replace kd4 := cell_call hb kd4
                  replace HQo := Lib.hid (HQo.out.below hb)
                  replace Ht := Lib.hid (Ht.out.below hb)
                  have B15 := Lib.hid (step_call B14.out hb)
                  clear hb
                  clear HSb Hrc
                  have hshz : shortR z = true := shortR_of (by omega) Hsh.out
                  have hsho : shortR (z.drop K ++ z.take K) = true := shortR_of (by rw [len_rot]; omega) (fun k hk => Hsh.out k ((mem_rot z K k).1 hk))
                  have hsht : shortR (z.take K) = true := shortR_of (by rw [List.length_take]; omega) (fun k hk => Hsh.out k (List.mem_of_mem_take hk))
                  have HA := Lib.hid (fun (w' : World) (hb : Below w15.heap.size w15 w') => mat_bool_at l v Hlb.out hcnt n z [] [] _ _ _ w' (Hrow.out.below (step_call B15.out hb)) (QRow.nil _ _) (QRow.nil _ _) (bool_short hshz rfl rfl) (Ht.out.below hb) (HT.out.below (step_call B15.out hb)) _ rfl)
                  have HB := Lib.hid (fun (w' : World) (hb : Below w15.heap.size w15 w') => mat_bool_at l v Hlb.out hcnt n (z.drop K ++ z.take K) [] [] _ _ _ w' (HQo.out.below hb) (QRow.nil _ _) (QRow.nil _ _) (bool_short hsho rfl rfl) (Ht.out.below hb) (HT.out.below (step_call B15.out hb)) _ (rot_must l [] z K))
                  have HC := Lib.hid (fun (w' : World) (hb : Below w15.heap.size w15 w') => mat_bool_at l v Hlb.out hcnt n [] z (z.take K) _ _ _ w' (QRow.nil _ _) (Hrow.out.below (step_call B15.out hb)) (HLK.out.below (step_call B15.out hb)) (bool_short rfl hshz hsht) (Ht.out.below hb) (HT.out.below (step_call B15.out hb)) _ rfl)
                  have HD := Lib.hid (fun (w' : World) (hb : Below w15.heap.size w15 w') => mat_bool_at l v Hlb.out hcnt n [] (z.drop K ++ z.take K) (z.take K) _ _ _ w' (QRow.nil _ _) (HQo.out.below hb) (HLK.out.below (step_call B15.out hb)) (bool_short rfl hsho hsht) (Ht.out.below hb) (HT.out.below (step_call B15.out hb)) _ (rot_should l [] z (z.take K) K))
                  have HX := Lib.hid (fun (w' : World) (hb : Below w15.heap.size w15 w') => terms_bool_at n [] z (z.take K) _ _ _ w' (QRow.nil _ _) (Hrow.out.below (step_call B15.out hb)) (HLK.out.below (step_call B15.out hb)) (bool_short rfl hshz hsht) hcc (HT.out.below (step_call B15.out hb)) _ rfl)
                  have HY := Lib.hid (fun (w' : World) (hb : Below w15.heap.size w15 w') => terms_bool_at n [] (z.drop K ++ z.take K) (z.take K) _ _ _ w' (QRow.nil _ _) (HQo.out.below hb) (HLK.out.below (step_call B15.out hb)) (bool_short rfl hsho hsht) (by rw [rot_cnt]; exact hcc) (HT.out.below (step_call B15.out hb)) _ (rot_terms 5 [] z (z.take K) K))
                  have htl : (termsQ (.mk 5 [] [] z (z.take K))).length ≤ 9223372036854775807 := by have := terms_len (bool_short (a := []) rfl hshz hsht); omega
                  generalize termsQ (.mk 5 [] [] z (z.take K)) = tq at *
                  generalize matB l (.mk 5 [] z [] []) = ma at *
                  generalize matB l (.mk 5 [] [] z (z.take K)) = mc at *
                  generalize (sizeN (.mk 5 [] z [] [])).1 = s1 at *
                  generalize (sizeN (.mk 5 [] z [] [])).2 = s2 at *
                  clear HQo Ht Hrow HLK Hsh Hgood hshz hsho hsht hcc hpl hi hz0 hz1 hz2
                  have BE : Below w15.heap.size w15 w15 := Below.refl _ _
                  have yka0 : ∀ w', Below w15.heap.size w15 w' → w'.cell? ⟨w7.heap.size, 0, none⟩ = some (.int .i64 5) := fun w' hb => cell_call hb ka0
                  have yka1 : ∀ w', Below w15.heap.size w15 w' → w'.cell? ⟨w7.heap.size, 1, none⟩ = some (.string ⟨#[]⟩) := fun w' hb => cell_call hb ka1
                  have yka2 : ∀ w', Below w15.heap.size w15 w' → w'.cell? ⟨w7.heap.size, 2, none⟩ = some (.slice (some ⟨bb, off, none⟩) z.length c) := fun w' hb => cell_call hb ka2
                  have yka3 : ∀ w', Below w15.heap.size w15 w' → w'.cell? ⟨w7.heap.size, 3, none⟩ = some (.slice none 0 0) := fun w' hb => cell_call hb ka3
                  have yka4 : ∀ w', Below w15.heap.size w15 w' → w'.cell? ⟨w7.heap.size, 4, none⟩ = some (.slice none 0 0) := fun w' hb => cell_call hb ka4
                  have ykb0 : ∀ w', Below w15.heap.size w15 w' → w'.cell? ⟨w7.heap.size + 1, 0, none⟩ = some (.int .i64 5) := fun w' hb => cell_call hb kb0
                  have ykb1 : ∀ w', Below w15.heap.size w15 w' → w'.cell? ⟨w7.heap.size + 1, 1, none⟩ = some (.string ⟨#[]⟩) := fun w' hb => cell_call hb kb1
                  have ykb2 : ∀ w', Below w15.heap.size w15 w' → w'.cell? ⟨w7.heap.size + 1, 2, none⟩ = some (.slice o6 z.length c6) := fun w' hb => cell_call hb kb2
                  have ykb3 : ∀ w', Below w15.heap.size w15 w' → w'.cell? ⟨w7.heap.size + 1, 3, none⟩ = some (.slice none 0 0) := fun w' hb => cell_call hb kb3
                  have ykb4 : ∀ w', Below w15.heap.size w15 w' → w'.cell? ⟨w7.heap.size + 1, 4, none⟩ = some (.slice none 0 0) := fun w' hb => cell_call hb kb4
                  have ykc0 : ∀ w', Below w15.heap.size w15 w' → w'.cell? ⟨w7.heap.size + 1 + 1, 0, none⟩ = some (.int .i64 5) := fun w' hb => cell_call hb kc0
                  have ykc1 : ∀ w', Below w15.heap.size w15 w' → w'.cell? ⟨w7.heap.size + 1 + 1, 1, none⟩ = some (.string ⟨#[]⟩) := fun w' hb => cell_call hb kc1
                  have ykc2 : ∀ w', Below w15.heap.size w15 w' → w'.cell? ⟨w7.heap.size + 1 + 1, 2, none⟩ = some (.slice none 0 0) := fun w' hb => cell_call hb kc2
                  have ykc3 : ∀ w', Below w15.heap.size w15 w' → w'.cell? ⟨w7.heap.size + 1 + 1, 3, none⟩ = some (.slice (some ⟨bb, off, none⟩) z.length c) := fun w' hb => cell_call hb kc3
                  have ykc4 : ∀ w', Below w15.heap.size w15 w' → w'.cell? ⟨w7.heap.size + 1 + 1, 4, none⟩ = some (.slice (some ⟨bb, off, none⟩) K c) := fun w' hb => cell_call hb kc4
                  have ykd0 : ∀ w', Below w15.heap.size w15 w' → w'.cell? ⟨w7.heap.size + 1 + 1 + 1, 0, none⟩ = some (.int .i64 5) := fun w' hb => cell_call hb kd0
                  have ykd1 : ∀ w', Below w15.heap.size w15 w' → w'.cell? ⟨w7.heap.size + 1 + 1 + 1, 1, none⟩ = some (.string ⟨#[]⟩) := fun w' hb => cell_call hb kd1
                  have ykd2 : ∀ w', Below w15.heap.size w15 w' → w'.cell? ⟨w7.heap.size + 1 + 1 + 1, 2, none⟩ = some (.slice none 0 0) := fun w' hb => cell_call hb kd2
                  have ykd3 : ∀ w', Below w15.heap.size w15 w' → w'.cell? ⟨w7.heap.size + 1 + 1 + 1, 3, none⟩ = some (.slice o6 z.length c6) := fun w' hb => cell_call hb kd3
                  have ykd4 : ∀ w', Below w15.heap.size w15 w' → w'.cell? ⟨w7.heap.size + 1 + 1 + 1, 4, none⟩ = some (.slice (some ⟨bb, off, none⟩) K c) := fun w' hb => cell_call hb kd4
                  go_wp2
                  clear ka0 ka1 ka2 ka3 ka4 kb0 kb1 kb2 kb3 kb4 kc0 kc1 kc2 kc3 kc4 kd0 kd1 kd2 kd3 kd4
                  go_region_held3 (fun w' => Below w15.heap.size w15 w' ∧ w15.heap.size ≤ w'.heap.size)
                    (first | exact c_drew _ | (go_split_ands; exact ⟨step_call (by assumption) hbz, Nat.le_trans (by assumption) hbz.size⟩) | assumption)
                    (first
                      | (go_at_call 13; with_reducible refine (HA.out _ ?_).mono ?_; (go_split_ands; assumption); rintro e wn ⟨rfl, hbz⟩)
                      | (go_at_call 13; with_reducible refine (HB.out _ ?_).mono ?_; (go_split_ands; assumption); rintro e wn ⟨rfl, hbz⟩)
                      | (go_at_call 13; with_reducible refine (HC.out _ ?_).mono ?_; (go_split_ands; assumption); rintro e wn ⟨rfl, hbz⟩)
                      | (go_at_call 13; with_reducible refine (HD.out _ ?_).mono ?_; (go_split_ands; assumption); rintro e wn ⟨rfl, hbz⟩)
                      | (go_at_call 20; with_reducible refine (HX.out _ ?_).mono ?_; (go_split_ands; assumption); rintro e wn ⟨vC, rfl, hbz, hoC⟩)
                      | (go_at_call 20; with_reducible refine (HY.out _ ?_).mono ?_; (go_split_ands; assumption); rintro e wn ⟨vD, rfl, hbz, hoD⟩)
                      | (go_at_call 19; with_reducible refine (law_sameTexts17 vC vD tq htl _ ?_ ?_).mono ?_; (first | exact own_row hoC | exact own_row (own_below hoC hbz)); (first | exact own_row hoD | exact own_row (own_below hoD hbz)); rintro e wn ⟨rfl, hbz⟩))
                  all_goals
                    have hbe : Below w15.heap.size w15 wn := by go_split_ands; assumption
                    go_wp2
                    go_ret
                    exact ⟨rfl, step_call B15.out hbe⟩
      · have hszi : 1500 < (s.size : Int) := by omega
        go_wp2
        go_ret
        exact ⟨rfl, B1.out⟩
    · have h10i : 10 < (z.length : Int) := by omega
      go_wp2
      go_ret
      exact ⟨rfl, B1.out⟩
end Go.Proofs.YtlfhgmclnapmjaaDoor
