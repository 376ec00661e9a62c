/- The law QueryBools returns true for every two queries and every text. Condition: the tables are laid. -/
import Derived.Test.YtlfhgmclnapmjaaDoorQryLs
namespace Go.Proofs.YtlfhgmclnapmjaaDoor
open Go.RowKit Go.Utf Go.Qry Go.Lib
attribute [local go_sem] Oper.semAt_some

set_option maxRecDepth 100000 in
set_option maxHeartbeats 12800000 in
theorem walk_QueryBools (n1 : Nat) (a : Qy) (am ah an : Value) (n2 : Nat) (b : Qy) (bm bh bn : Value) (s : ByteArray) (w : World) (h1 : QVal w n1 a am ah an) (h2 : QVal w n2 b bm bh bn) (_ : s.size ≤ maxLen) (hT : Tabs w) :
    Calls Tryd.prog 4 #[qV a am ah an, qV b bm bh bn, .string s] w fun e w' => e = .returned (.bool true) ∧ Below w.heap.size w w' := by
  have HS := Lib.hid (fun (w' : World) (hb : Below w.heap.size w w') => law_shown17 w' (hT.below hb))
  have HMa := Lib.hid (fun (w' : World) (hb : Below w.heap.size w w') => law_small17 n1 a am ah an w' (h1.below hb))
  have HMb := Lib.hid (fun (w' : World) (hb : Below w.heap.size w w') => law_small17 n2 b bm bh bn w' (h2.below hb))
  have HRa := Lib.hid (fun (w' : World) (hb : Below w.heap.size w w') => query_Right n1 a am ah an w' (h1.below hb) (hT.below hb))
  have HRb := Lib.hid (fun (w' : World) (hb : Below w.heap.size w w') => query_Right n2 b bm bh bn w' (h2.below hb) (hT.below hb))
  have H1 := Lib.hid h1
  have H2 := Lib.hid h2
  have G1 := Lib.hid (h1.mono (Nat.le_max_left n1 n2))
  have G2 := Lib.hid (h2.mono (Nat.le_max_right n1 n2))
  have HT := Lib.hid hT
  have hbA := step_new (Below.refl w.heap.size w) (.cells #[.int .i64 a.kind, .string (B a.text), am, ah, an] 24)
  obtain ⟨a0, a1, a2, a3, a4⟩ := boxedQ w a am ah an 24
  have a0 := cell_alloc (.cells #[.int .i64 b.kind, .string (B b.text), bm, bh, bn] 24) a0
  have a1 := cell_alloc (.cells #[.int .i64 b.kind, .string (B b.text), bm, bh, bn] 24) a1
  have a2 := cell_alloc (.cells #[.int .i64 b.kind, .string (B b.text), bm, bh, bn] 24) a2
  have a3 := cell_alloc (.cells #[.int .i64 b.kind, .string (B b.text), bm, bh, bn] 24) a3
  have a4 := cell_alloc (.cells #[.int .i64 b.kind, .string (B b.text), bm, bh, bn] 24) a4
  obtain ⟨b0, b1, b2, b3, b4⟩ := boxedQ (w.alloc (.cells #[.int .i64 a.kind, .string (B a.text), am, ah, an] 24)) b bm bh bn 24
  rw [World.size_alloc] at b0 b1 b2 b3 b4
  have B1 := Lib.hid (step_new hbA (.cells #[.int .i64 b.kind, .string (B b.text), bm, bh, bn] 24))
  generalize hw1 : (w.alloc (.cells #[.int .i64 a.kind, .string (B a.text), am, ah, an] 24)).alloc (.cells #[.int .i64 b.kind, .string (B b.text), bm, bh, bn] 24) = w1 at *
  have Hw1 := Lib.hid hw1
  have Hsa := Lib.hid (smallQ_cnt a)
  have Hsb := Lib.hid (smallQ_cnt b)
  clear hw1 hbA h1 h2 hT
  unfold qV at HMa HMb HRa HRb
  show Calls Tryd.prog 4 #[.agg #[.int .i64 a.kind, .string (B a.text), am, ah, an], .agg #[.int .i64 b.kind, .string (B b.text), bm, bh, bn], .string s] w _
  generalize smallQ a = sa at *
  generalize smallQ b = sb at *
  generalize rightB a = ra at *
  generalize rightB b = rb at *
  go_enter Tryd.func4, Tryd.ntmps4
  go_wp2_with fail
  rw [Hw1.out]
  refine (HS.out w1 B1.out).mono ?_
  rintro e w2 ⟨rfl, hb⟩
  replace a0 := cell_call hb a0
  replace a1 := cell_call hb a1
  replace a2 := cell_call hb a2
  replace a3 := cell_call hb a3
  replace a4 := cell_call hb a4
  replace b0 := cell_call hb b0
  replace b1 := cell_call hb b1
  replace b2 := cell_call hb b2
  replace b3 := cell_call hb b3
  replace b4 := cell_call hb b4
  have B2 := Lib.hid (step_call B1.out hb)
  clear hb
  go_wp2_with fail
  refine (HMa.out w2 B2.out).mono ?_
  rintro e w3 ⟨rfl, hb⟩
  replace a0 := cell_call hb a0
  replace a1 := cell_call hb a1
  replace a2 := cell_call hb a2
  replace a3 := cell_call hb a3
  replace a4 := cell_call hb a4
  replace b0 := cell_call hb b0
  replace b1 := cell_call hb b1
  replace b2 := cell_call hb b2
  replace b3 := cell_call hb b3
  replace b4 := cell_call hb b4
  have B3 := Lib.hid (step_call B2.out hb)
  clear hb
  go_wp2_with fail
  refine (HMb.out w3 B3.out).mono ?_
  rintro e w4 ⟨rfl, hb⟩
  replace a0 := cell_call hb a0
  replace a1 := cell_call hb a1
  replace a2 := cell_call hb a2
  replace a3 := cell_call hb a3
  replace a4 := cell_call hb a4
  replace b0 := cell_call hb b0
  replace b1 := cell_call hb b1
  replace b2 := cell_call hb b2
  replace b3 := cell_call hb b3
  replace b4 := cell_call hb b4
  have B4 := Lib.hid (step_call B3.out hb)
  clear hb
  go_wp2_with fail
  refine (HRa.out w4 B4.out).mono ?_
  rintro e w5 ⟨rfl, hb⟩
  replace a0 := cell_call hb a0
  replace a1 := cell_call hb a1
  replace a2 := cell_call hb a2
  replace a3 := cell_call hb a3
  replace a4 := cell_call hb a4
  replace b0 := cell_call hb b0
  replace b1 := cell_call hb b1
  replace b2 := cell_call hb b2
  replace b3 := cell_call hb b3
  replace b4 := cell_call hb b4
  have B5 := Lib.hid (step_call B4.out hb)
  clear hb
  go_wp2_with fail
  refine (HRb.out w5 B5.out).mono ?_
  rintro e w6 ⟨rfl, hb⟩
  replace a0 := cell_call hb a0
  replace a1 := cell_call hb a1
  replace a2 := cell_call hb a2
  replace a3 := cell_call hb a3
  replace a4 := cell_call hb a4
  replace b0 := cell_call hb b0
  replace b1 := cell_call hb b1
  replace b2 := cell_call hb b2
  replace b3 := cell_call hb b3
  replace b4 := cell_call hb b4
  have B6 := Lib.hid (step_call B5.out hb)
  clear hb
  cases sa
  case false =>
    clear Hsa Hsb
    cases sb <;> cases ra <;> cases rb
    all_goals
      go_wp2
      go_ret
      exact ⟨rfl, B6.out⟩
  case true =>
    cases sb
    case false =>
      clear Hsa Hsb
      cases ra <;> cases rb
      all_goals
        go_wp2
        go_ret
        exact ⟨rfl, B6.out⟩
    case true =>
      cases ra
      case false =>
        clear Hsa Hsb
        cases rb
        all_goals
          go_wp2
          go_ret
          exact ⟨rfl, B6.out⟩
      case true =>
        cases rb
        case false =>
          clear Hsa Hsb
          go_wp2
          go_ret
          exact ⟨rfl, B6.out⟩
        case true =>
          by_cases hsz : s.size ≤ 1500
          · have hsi : ¬ 1500 < (s.size : Int) := by omega
            obtain ⟨-, hsa⟩ := Hsa.out rfl
            obtain ⟨-, hsb⟩ := Hsb.out rfl
            clear Hsa Hsb HS HMa HMb HRa HRb
            have HTk := Lib.hid (ref11_Tokens s (by omega))
            have hcnt := tokens_count s (by omega)
            have Hlb := Lib.hid (toks_bound s (by omega))
            clear hsz
            go_wp2_with fail
            refine (HTk.out w6).mono ?_
            rintro e w7 ⟨v, rfl, hb, hown⟩
            replace a0 := cell_call hb a0
            replace a1 := cell_call hb a1
            replace a2 := cell_call hb a2
            replace a3 := cell_call hb a3
            replace a4 := cell_call hb a4
            replace b0 := cell_call hb b0
            replace b1 := cell_call hb b1
            replace b2 := cell_call hb b2
            replace b3 := cell_call hb b3
            replace b4 := cell_call hb b4
            have B7 := Lib.hid (step_call B6.out hb)
            have Ht := Lib.hid (own_toks hown)
            clear hown
            clear hb
            clear HTk
            generalize tokensL (L s) = l at *
            have HA := Lib.hid (fun (W : World) (hw : Below w.heap.size w W) (ht : Toks W v l) => query_Matches l v Hlb.out hcnt n1 a am ah an W (H1.out.below hw) hsa ht (HT.out.below hw))
            have HB := Lib.hid (fun (W : World) (hw : Below w.heap.size w W) (ht : Toks W v l) => query_Matches l v Hlb.out hcnt n2 b bm bh bn W (H2.out.below hw) hsb ht (HT.out.below hw))
            unfold qV at HA HB
            have E1 := Lib.hid (m_must l [] a b)
            have E2 := Lib.hid (m_should l [] a b)
            have E3 := Lib.hid (m_not l [] a b)
            have E4 := Lib.hid (m_mixed l [] a b)
            have E5 := Lib.hid (m_less l [] a b)
            have E6 := Lib.hid (m_none l [])
            generalize matB l a = ma at *
            generalize matB l b = mb at *
            go_wp2_with fail
            refine (HA.out w7 B7.out Ht.out).mono ?_
            rintro e w8 ⟨rfl, hb⟩
            replace a0 := cell_call hb a0
            replace a1 := cell_call hb a1
            replace a2 := cell_call hb a2
            replace a3 := cell_call hb a3
            replace a4 := cell_call hb a4
            replace b0 := cell_call hb b0
            replace b1 := cell_call hb b1
            replace b2 := cell_call hb b2
            replace b3 := cell_call hb b3
            replace b4 := cell_call hb b4
            replace Ht := Lib.hid (Ht.out.below hb)
            have B8 := Lib.hid (step_call B7.out hb)
            clear hb
            go_wp2_with fail
            refine (HB.out w8 B8.out Ht.out).mono ?_
            rintro e w9 ⟨rfl, hb⟩
            replace a0 := cell_call hb a0
            replace a1 := cell_call hb a1
            replace a2 := cell_call hb a2
            replace a3 := cell_call hb a3
            replace a4 := cell_call hb a4
            replace b0 := cell_call hb b0
            replace b1 := cell_call hb b1
            replace b2 := cell_call hb b2
            replace b3 := cell_call hb b3
            replace b4 := cell_call hb b4
            replace Ht := Lib.hid (Ht.out.below hb)
            have B9 := Lib.hid (step_call B8.out hb)
            clear hb
            go_wp2_with fail
            have hsz : Hid (w9.heap.size = w9.heap.size) := Lib.hid rfl
            have hb := step_new (Below.refl w9.heap.size w9) (.cells #[.int .i64 a.kind, .string (B a.text), am, ah, an, .int .i64 b.kind, .string (B b.text), bm, bh, bn] 24)
            have Rl := qrow_two w9 (max n1 n2) a b am ah an bm bh bn 24 (G1.out.below B9.out) (G2.out.below B9.out)
            rw [hsz.out] at Rl
            have Rl := Lib.hid Rl
            replace a0 := cell_call hb a0
            replace a1 := cell_call hb a1
            replace a2 := cell_call hb a2
            replace a3 := cell_call hb a3
            replace a4 := cell_call hb a4
            replace b0 := cell_call hb b0
            replace b1 := cell_call hb b1
            replace b2 := cell_call hb b2
            replace b3 := cell_call hb b3
            replace b4 := cell_call hb b4
            replace Ht := Lib.hid (Ht.out.below hb)
            have hsz2 : (w9.alloc (.cells #[.int .i64 a.kind, .string (B a.text), am, ah, an, .int .i64 b.kind, .string (B b.text), bm, bh, bn] 24)).heap.size = w9.heap.size + 1 := World.size_alloc _ _
            rw [hsz.out] at hsz2
            have hsz := Lib.hid hsz2
            have B10 := Lib.hid (step_new B9.out (.cells #[.int .i64 a.kind, .string (B a.text), am, ah, an, .int .i64 b.kind, .string (B b.text), bm, bh, bn] 24))
            clear hb hsz2
            generalize w9.alloc (.cells #[.int .i64 a.kind, .string (B a.text), am, ah, an, .int .i64 b.kind, .string (B b.text), bm, bh, bn] 24) = w10 at *
            refine (mat_bool_at l v Hlb.out hcnt (max n1 n2 + 1) [a, b] [] [] _ _ _ w10 Rl.out (QRow.nil _ _) (QRow.nil _ _) (bool_short (short_two hsa hsb) rfl rfl) Ht.out (HT.out.below B10.out) _ E1.out).mono ?_
            rintro e w11 ⟨rfl, hb⟩
            replace a0 := cell_call hb a0
            replace a1 := cell_call hb a1
            replace a2 := cell_call hb a2
            replace a3 := cell_call hb a3
            replace a4 := cell_call hb a4
            replace b0 := cell_call hb b0
            replace b1 := cell_call hb b1
            replace b2 := cell_call hb b2
            replace b3 := cell_call hb b3
            replace b4 := cell_call hb b4
            replace Ht := Lib.hid (Ht.out.below hb)
            replace Rl := Lib.hid (Rl.out.below hb)
            have B11 := Lib.hid (step_call B10.out hb)
            clear hb
            go_wp2_with fail
            refine (mat_bool_at l v Hlb.out hcnt (max n1 n2 + 1) [] [a, b] [] _ _ _ w11 (QRow.nil _ _) Rl.out (QRow.nil _ _) (bool_short rfl (short_two hsa hsb) rfl) Ht.out (HT.out.below B11.out) _ E2.out).mono ?_
            rintro e w12 ⟨rfl, hb⟩
            replace a0 := cell_call hb a0
            replace a1 := cell_call hb a1
            replace a2 := cell_call hb a2
            replace a3 := cell_call hb a3
            replace a4 := cell_call hb a4
            replace b0 := cell_call hb b0
            replace b1 := cell_call hb b1
            replace b2 := cell_call hb b2
            replace b3 := cell_call hb b3
            replace b4 := cell_call hb b4
            replace Ht := Lib.hid (Ht.out.below hb)
            replace Rl := Lib.hid (Rl.out.below hb)
            have B12 := Lib.hid (step_call B11.out hb)
            clear hb
            go_wp2_with fail
            refine (mat_bool_at l v Hlb.out hcnt (max n1 n2 + 1) [] [] [a, b] _ _ _ w12 (QRow.nil _ _) (QRow.nil _ _) Rl.out (bool_short rfl rfl (short_two hsa hsb)) Ht.out (HT.out.below B12.out) _ E3.out).mono ?_
            rintro e w13 ⟨rfl, hb⟩
            replace a0 := cell_call hb a0
            replace a1 := cell_call hb a1
            replace a2 := cell_call hb a2
            replace a3 := cell_call hb a3
            replace a4 := cell_call hb a4
            replace b0 := cell_call hb b0
            replace b1 := cell_call hb b1
            replace b2 := cell_call hb b2
            replace b3 := cell_call hb b3
            replace b4 := cell_call hb b4
            replace Ht := Lib.hid (Ht.out.below hb)
            replace Rl := Lib.hid (Rl.out.below hb)
            have B13 := Lib.hid (step_call B12.out hb)
            clear hb
            have x1b0 : ∀ o0, (w13.alloc o0).cell? ⟨w.heap.size + 1, 0, none⟩ = some (.int .i64 b.kind) := fun o0 => (cell_alloc o0 b0)
            have x1b1 : ∀ o0, (w13.alloc o0).cell? ⟨w.heap.size + 1, 1, none⟩ = some (.string (B b.text)) := fun o0 => (cell_alloc o0 b1)
            have x1b2 : ∀ o0, (w13.alloc o0).cell? ⟨w.heap.size + 1, 2, none⟩ = some (bm) := fun o0 => (cell_alloc o0 b2)
            have x1b3 : ∀ o0, (w13.alloc o0).cell? ⟨w.heap.size + 1, 3, none⟩ = some (bh) := fun o0 => (cell_alloc o0 b3)
            have x1b4 : ∀ o0, (w13.alloc o0).cell? ⟨w.heap.size + 1, 4, none⟩ = some (bn) := fun o0 => (cell_alloc o0 b4)
            go_wp2_with fail
            clear x1b0 x1b1 x1b2 x1b3 x1b4
            have hsz : Hid (w13.heap.size = w13.heap.size) := Lib.hid rfl
            have hb := step_new (Below.refl w13.heap.size w13) (.cells #[.int .i64 a.kind, .string (B a.text), am, ah, an] 24)
            have Ra := qrow_one w13 (max n1 n2) a am ah an 24 (G1.out.below B13.out)
            rw [hsz.out] at Ra
            have Ra := Lib.hid Ra
            replace a0 := cell_call hb a0
            replace a1 := cell_call hb a1
            replace a2 := cell_call hb a2
            replace a3 := cell_call hb a3
            replace a4 := cell_call hb a4
            replace b0 := cell_call hb b0
            replace b1 := cell_call hb b1
            replace b2 := cell_call hb b2
            replace b3 := cell_call hb b3
            replace b4 := cell_call hb b4
            replace Ht := Lib.hid (Ht.out.below hb)
            replace Rl := Lib.hid (Rl.out.below hb)
            have hsz2 : (w13.alloc (.cells #[.int .i64 a.kind, .string (B a.text), am, ah, an] 24)).heap.size = w13.heap.size + 1 := World.size_alloc _ _
            rw [hsz.out] at hsz2
            have hsz := Lib.hid hsz2
            have B14 := Lib.hid (step_new B13.out (.cells #[.int .i64 a.kind, .string (B a.text), am, ah, an] 24))
            clear hb hsz2
            generalize w13.alloc (.cells #[.int .i64 a.kind, .string (B a.text), am, ah, an] 24) = w14 at *
            have hb := step_new (Below.refl w14.heap.size w14) (.cells #[.int .i64 b.kind, .string (B b.text), bm, bh, bn] 24)
            have Rb := qrow_one w14 (max n1 n2) b bm bh bn 24 (G2.out.below B14.out)
            rw [hsz.out] at Rb
            have Rb := Lib.hid Rb
            replace a0 := cell_call hb a0
            replace a1 := cell_call hb a1
            replace a2 := cell_call hb a2
            replace a3 := cell_call hb a3
            replace a4 := cell_call hb a4
            replace b0 := cell_call hb b0
            replace b1 := cell_call hb b1
            replace b2 := cell_call hb b2
            replace b3 := cell_call hb b3
            replace b4 := cell_call hb b4
            replace Ht := Lib.hid (Ht.out.below hb)
            replace Rl := Lib.hid (Rl.out.below hb)
            replace Ra := Lib.hid (Ra.out.below hb)
            have hsz2 : (w14.alloc (.cells #[.int .i64 b.kind, .string (B b.text), bm, bh, bn] 24)).heap.size = w14.heap.size + 1 := World.size_alloc _ _
            rw [hsz.out] at hsz2
            have hsz := Lib.hid hsz2
            have B15 := Lib.hid (step_new B14.out (.cells #[.int .i64 b.kind, .string (B b.text), bm, bh, bn] 24))
            clear hb hsz2
            generalize w14.alloc (.cells #[.int .i64 b.kind, .string (B b.text), bm, bh, bn] 24) = w15 at *
            refine (mat_bool_at l v Hlb.out hcnt (max n1 n2 + 1) [a] [b] [] _ _ _ w15 Ra.out Rb.out (QRow.nil _ _) (bool_short (short_one hsa) (short_one hsb) rfl) Ht.out (HT.out.below B15.out) _ E4.out).mono ?_
            rintro e w16 ⟨rfl, hb⟩
            replace a0 := cell_call hb a0
            replace a1 := cell_call hb a1
            replace a2 := cell_call hb a2
            replace a3 := cell_call hb a3
            replace a4 := cell_call hb a4
            replace b0 := cell_call hb b0
            replace b1 := cell_call hb b1
            replace b2 := cell_call hb b2
            replace b3 := cell_call hb b3
            replace b4 := cell_call hb b4
            replace Ht := Lib.hid (Ht.out.below hb)
            replace Rl := Lib.hid (Rl.out.below hb)
            replace Ra := Lib.hid (Ra.out.below hb)
            replace Rb := Lib.hid (Rb.out.below hb)
            have B16 := Lib.hid (step_call B15.out hb)
            clear hb
            have x1b0 : ∀ o0, (w16.alloc o0).cell? ⟨w.heap.size + 1, 0, none⟩ = some (.int .i64 b.kind) := fun o0 => (cell_alloc o0 b0)
            have x1b1 : ∀ o0, (w16.alloc o0).cell? ⟨w.heap.size + 1, 1, none⟩ = some (.string (B b.text)) := fun o0 => (cell_alloc o0 b1)
            have x1b2 : ∀ o0, (w16.alloc o0).cell? ⟨w.heap.size + 1, 2, none⟩ = some (bm) := fun o0 => (cell_alloc o0 b2)
            have x1b3 : ∀ o0, (w16.alloc o0).cell? ⟨w.heap.size + 1, 3, none⟩ = some (bh) := fun o0 => (cell_alloc o0 b3)
            have x1b4 : ∀ o0, (w16.alloc o0).cell? ⟨w.heap.size + 1, 4, none⟩ = some (bn) := fun o0 => (cell_alloc o0 b4)
            go_wp2_with fail
            clear x1b0 x1b1 x1b2 x1b3 x1b4
            have hsz : Hid (w16.heap.size = w16.heap.size) := Lib.hid rfl
            have hb := step_new (Below.refl w16.heap.size w16) (.cells #[.int .i64 a.kind, .string (B a.text), am, ah, an] 24)
            have Rc := qrow_one w16 (max n1 n2) a am ah an 24 (G1.out.below B16.out)
            rw [hsz.out] at Rc
            have Rc := Lib.hid Rc
            replace a0 := cell_call hb a0
            replace a1 := cell_call hb a1
            replace a2 := cell_call hb a2
            replace a3 := cell_call hb a3
            replace a4 := cell_call hb a4
            replace b0 := cell_call hb b0
            replace b1 := cell_call hb b1
            replace b2 := cell_call hb b2
            replace b3 := cell_call hb b3
            replace b4 := cell_call hb b4
            replace Ht := Lib.hid (Ht.out.below hb)
            replace Rl := Lib.hid (Rl.out.below hb)
            replace Ra := Lib.hid (Ra.out.below hb)
            replace Rb := Lib.hid (Rb.out.below hb)
            have hsz2 : (w16.alloc (.cells #[.int .i64 a.kind, .string (B a.text), am, ah, an] 24)).heap.size = w16.heap.size + 1 := World.size_alloc _ _
            rw [hsz.out] at hsz2
            have hsz := Lib.hid hsz2
            have B17 := Lib.hid (step_new B16.out (.cells #[.int .i64 a.kind, .string (B a.text), am, ah, an] 24))
            clear hb hsz2
            generalize w16.alloc (.cells #[.int .i64 a.kind, .string (B a.text), am, ah, an] 24) = w17 at *
            have hb := step_new (Below.refl w17.heap.size w17) (.cells #[.int .i64 b.kind, .string (B b.text), bm, bh, bn] 24)
            have Rd := qrow_one w17 (max n1 n2) b bm bh bn 24 (G2.out.below B17.out)
            rw [hsz.out] at Rd
            have Rd := Lib.hid Rd
            replace a0 := cell_call hb a0
            replace a1 := cell_call hb a1
            replace a2 := cell_call hb a2
            replace a3 := cell_call hb a3
            replace a4 := cell_call hb a4
            replace b0 := cell_call hb b0
            replace b1 := cell_call hb b1
            replace b2 := cell_call hb b2
            replace b3 := cell_call hb b3
            replace b4 := cell_call hb b4
            replace Ht := Lib.hid (Ht.out.below hb)
            replace Rl := Lib.hid (Rl.out.below hb)
            replace Ra := Lib.hid (Ra.out.below hb)
            replace Rb := Lib.hid (Rb.out.below hb)
            replace Rc := Lib.hid (Rc.out.below hb)
            have hsz2 : (w17.alloc (.cells #[.int .i64 b.kind, .string (B b.text), bm, bh, bn] 24)).heap.size = w17.heap.size + 1 := World.size_alloc _ _
            rw [hsz.out] at hsz2
            have hsz := Lib.hid hsz2
            have B18 := Lib.hid (step_new B17.out (.cells #[.int .i64 b.kind, .string (B b.text), bm, bh, bn] 24))
            clear hb hsz2
            generalize w17.alloc (.cells #[.int .i64 b.kind, .string (B b.text), bm, bh, bn] 24) = w18 at *
            refine (mat_bool_at l v Hlb.out hcnt (max n1 n2 + 1) [a] [] [b] _ _ _ w18 Rc.out (QRow.nil _ _) Rd.out (bool_short (short_one hsa) rfl (short_one hsb)) Ht.out (HT.out.below B18.out) _ E5.out).mono ?_
            rintro e w19 ⟨rfl, hb⟩
            replace a0 := cell_call hb a0
            replace a1 := cell_call hb a1
            replace a2 := cell_call hb a2
            replace a3 := cell_call hb a3
            replace a4 := cell_call hb a4
            replace b0 := cell_call hb b0
            replace b1 := cell_call hb b1
            replace b2 := cell_call hb b2
            replace b3 := cell_call hb b3
            replace b4 := cell_call hb b4
            replace Ht := Lib.hid (Ht.out.below hb)
            replace Rl := Lib.hid (Rl.out.below hb)
            replace Ra := Lib.hid (Ra.out.below hb)
            replace Rb := Lib.hid (Rb.out.below hb)
            replace Rc := Lib.hid (Rc.out.below hb)
            replace Rd := Lib.hid (Rd.out.below hb)
            have B19 := Lib.hid (step_call B18.out hb)
            clear hb
            go_wp2_with fail
            refine (mat_bool_at l v Hlb.out hcnt (max n1 n2 + 1) [] [] [] _ _ _ w19 (QRow.nil _ _) (QRow.nil _ _) (QRow.nil _ _) (bool_short rfl rfl rfl) Ht.out (HT.out.below B19.out) _ E6.out).mono ?_
            rintro e w20 ⟨rfl, hb⟩
            replace a0 := cell_call hb a0
            replace a1 := cell_call hb a1
            replace a2 := cell_call hb a2
            replace a3 := cell_call hb a3
            replace a4 := cell_call hb a4
            replace b0 := cell_call hb b0
            replace b1 := cell_call hb b1
            replace b2 := cell_call hb b2
            replace b3 := cell_call hb b3
            replace b4 := cell_call hb b4
            replace Ht := Lib.hid (Ht.out.below hb)
            replace Rl := Lib.hid (Rl.out.below hb)
            replace Ra := Lib.hid (Ra.out.below hb)
            replace Rb := Lib.hid (Rb.out.below hb)
            replace Rc := Lib.hid (Rc.out.below hb)
            replace Rd := Lib.hid (Rd.out.below hb)
            have B20 := Lib.hid (step_call B19.out hb)
            clear hb
            go_wp2_with fail
            refine (right_bool_at (max n1 n2 + 1) [a, b] [] [] _ _ _ w20 Rl.out (QRow.nil _ _) (QRow.nil _ _) (HT.out.below B20.out)).mono ?_
            rintro e w21 ⟨rfl, hb⟩
            replace a0 := cell_call hb a0
            replace a1 := cell_call hb a1
            replace a2 := cell_call hb a2
            replace a3 := cell_call hb a3
            replace a4 := cell_call hb a4
            replace b0 := cell_call hb b0
            replace b1 := cell_call hb b1
            replace b2 := cell_call hb b2
            replace b3 := cell_call hb b3
            replace b4 := cell_call hb b4
            replace Ht := Lib.hid (Ht.out.below hb)
            replace Rl := Lib.hid (Rl.out.below hb)
            replace Ra := Lib.hid (Ra.out.below hb)
            replace Rb := Lib.hid (Rb.out.below hb)
            replace Rc := Lib.hid (Rc.out.below hb)
            replace Rd := Lib.hid (Rd.out.below hb)
            have B21 := Lib.hid (step_call B20.out hb)
            clear hb
            generalize rightB (.mk 5 [] [a, b] [] []) = rr at *
            cases rr
            case false =>
              go_wp2
              go_ret
              exact ⟨rfl, B21.out⟩
            case true =>
              cases ma <;> cases mb
              all_goals
                go_wp2
                go_ret
                exact ⟨rfl, B21.out⟩
          · have hsi : 1500 < (s.size : Int) := by omega
            go_wp2
            go_ret
            exact ⟨rfl, B6.out⟩
end Go.Proofs.YtlfhgmclnapmjaaDoor
