/- The law QueryNots returns true for every query and every text. Condition: the tables are laid. -/
import Derived.Test.YtlfhgmclnapmjaaDoorQryLs
namespace Go.Proofs.YtlfhgmclnapmjaaDoor
open Go.RowKit Go.Utf Go.Qry Go.Lib
attribute [local go_sem] Oper.semAt_some

set_option maxRecDepth 100000 in
set_option maxHeartbeats 12800000 in
theorem walk_QueryNots (n : Nat) (q : Qy) (vm vs vn : Value) (s : ByteArray) (w : World) (h1 : QVal w n q vm vs vn) (_ : s.size ≤ maxLen) (hT : Tabs w) :
    Calls Tryd.prog 6 #[qV q vm vs vn, .string s] w fun e w' => e = .returned (.bool true) ∧ Below w.heap.size w w' := by
  have HS := Lib.hid (fun (w' : World) (hb : Below w.heap.size w w') => law_shown17 w' (hT.below hb))
  have HMa := Lib.hid (fun (w' : World) (hb : Below w.heap.size w w') => law_small17 n q vm vs vn w' (h1.below hb))
  have HRa := Lib.hid (fun (w' : World) (hb : Below w.heap.size w w') => query_Right n q vm vs vn w' (h1.below hb) (hT.below hb))
  have H1 := Lib.hid h1
  have HT := Lib.hid hT
  obtain ⟨a0, a1, a2, a3, a4⟩ := boxedQ w q vm vs vn 24
  have B1 := Lib.hid (step_new (Below.refl w.heap.size w) (.cells #[.int .i64 q.kind, .string (B q.text), vm, vs, vn] 24))
  generalize hw1 : w.alloc (.cells #[.int .i64 q.kind, .string (B q.text), vm, vs, vn] 24) = w1 at *
  have Hw1 := Lib.hid hw1
  have Hsa := Lib.hid (smallQ_cnt q)
  clear hw1 h1 hT
  unfold qV at HMa HRa
  show Calls Tryd.prog 6 #[.agg #[.int .i64 q.kind, .string (B q.text), vm, vs, vn], .string s] w _
  generalize smallQ q = sa at *
  generalize rightB q = ra at *
  go_enter Tryd.func6, Tryd.ntmps6
  go_wp2_with fail
  rw [Hw1.out]
  refine (HS.out w1 B1.out).mono ?_
  rintro e w2 ⟨rfl, hb⟩
  replace a0 := cell_call hb a0
  replace a1 := cell_call hb a1
  replace a2 := cell_call hb a2
  replace a3 := cell_call hb a3
  replace a4 := cell_call hb a4
  have B2 := Lib.hid (step_call B1.out hb)
  clear hb
  go_wp2_with fail
  refine (HMa.out w2 B2.out).mono ?_
  rintro e w3 ⟨rfl, hb⟩
  replace a0 := cell_call hb a0
  replace a1 := cell_call hb a1
  replace a2 := cell_call hb a2
  replace a3 := cell_call hb a3
  replace a4 := cell_call hb a4
  have B3 := Lib.hid (step_call B2.out hb)
  clear hb
  go_wp2_with fail
  refine (HRa.out w3 B3.out).mono ?_
  rintro e w4 ⟨rfl, hb⟩
  replace a0 := cell_call hb a0
  replace a1 := cell_call hb a1
  replace a2 := cell_call hb a2
  replace a3 := cell_call hb a3
  replace a4 := cell_call hb a4
  have B4 := Lib.hid (step_call B3.out hb)
  clear hb
  cases sa
  case false =>
    clear Hsa
    cases ra
    all_goals
      go_wp2
      go_ret
      exact ⟨rfl, B4.out⟩
  case true =>
    cases ra
    case false =>
      clear Hsa
      go_wp2
      go_ret
      exact ⟨rfl, B4.out⟩
    case true =>
      by_cases hsz : s.size ≤ 1500
      · have hsi : ¬ 1500 < (s.size : Int) := by omega
        obtain ⟨-, hsa⟩ := Hsa.out rfl
        clear Hsa HS HMa HRa
        have HTk := Lib.hid (ref11_Tokens s (by omega))
        have hcnt := tokens_count s (by omega)
        have Hlb := Lib.hid (toks_bound s (by omega))
        clear hsz
        go_wp2_with fail
        refine (HTk.out w4).mono ?_
        rintro e w5 ⟨v, rfl, hb, hown⟩
        replace a0 := cell_call hb a0
        replace a1 := cell_call hb a1
        replace a2 := cell_call hb a2
        replace a3 := cell_call hb a3
        replace a4 := cell_call hb a4
        have B5 := Lib.hid (step_call B4.out hb)
        have Ht := Lib.hid (own_toks hown)
        clear hown
        clear hb
        clear HTk
        generalize tokensL (L s) = l at *
        have HA := Lib.hid (fun (W : World) (hw : Below w.heap.size w W) (ht : Toks W v l) => query_Matches l v Hlb.out hcnt n q vm vs vn W (H1.out.below hw) hsa ht (HT.out.below hw))
        unfold qV at HA
        have E1 := Lib.hid (m_not1 l [] q)
        have E2 := Lib.hid ((m_not1 l [] (.mk 5 [] [] [] [q])).trans (congrArg (fun x => !x) (m_not1 l [] q)))
        have E3 := Lib.hid (m_twice l [] q)
        generalize matB l q = ma at *
        have x4a0 : ∀ o0 o1 o2 o3, ((((w5.alloc o0).alloc o1).alloc o2).alloc o3).cell? ⟨w.heap.size, 0, none⟩ = some (.int .i64 q.kind) := fun o0 o1 o2 o3 => (cell_alloc o3 (cell_alloc o2 (cell_alloc o1 (cell_alloc o0 a0))))
        have x4a1 : ∀ o0 o1 o2 o3, ((((w5.alloc o0).alloc o1).alloc o2).alloc o3).cell? ⟨w.heap.size, 1, none⟩ = some (.string (B q.text)) := fun o0 o1 o2 o3 => (cell_alloc o3 (cell_alloc o2 (cell_alloc o1 (cell_alloc o0 a1))))
        have x4a2 : ∀ o0 o1 o2 o3, ((((w5.alloc o0).alloc o1).alloc o2).alloc o3).cell? ⟨w.heap.size, 2, none⟩ = some (vm) := fun o0 o1 o2 o3 => (cell_alloc o3 (cell_alloc o2 (cell_alloc o1 (cell_alloc o0 a2))))
        have x4a3 : ∀ o0 o1 o2 o3, ((((w5.alloc o0).alloc o1).alloc o2).alloc o3).cell? ⟨w.heap.size, 3, none⟩ = some (vs) := fun o0 o1 o2 o3 => (cell_alloc o3 (cell_alloc o2 (cell_alloc o1 (cell_alloc o0 a3))))
        have x4a4 : ∀ o0 o1 o2 o3, ((((w5.alloc o0).alloc o1).alloc o2).alloc o3).cell? ⟨w.heap.size, 4, none⟩ = some (vn) := fun o0 o1 o2 o3 => (cell_alloc o3 (cell_alloc o2 (cell_alloc o1 (cell_alloc o0 a4))))
        have x6a0 : ∀ o0 o1 o2 o3 o4 o5, ((((((w5.alloc o0).alloc o1).alloc o2).alloc o3).alloc o4).alloc o5).cell? ⟨w.heap.size, 0, none⟩ = some (.int .i64 q.kind) := fun o0 o1 o2 o3 o4 o5 => (cell_alloc o5 (cell_alloc o4 (cell_alloc o3 (cell_alloc o2 (cell_alloc o1 (cell_alloc o0 a0))))))
        have x6a1 : ∀ o0 o1 o2 o3 o4 o5, ((((((w5.alloc o0).alloc o1).alloc o2).alloc o3).alloc o4).alloc o5).cell? ⟨w.heap.size, 1, none⟩ = some (.string (B q.text)) := fun o0 o1 o2 o3 o4 o5 => (cell_alloc o5 (cell_alloc o4 (cell_alloc o3 (cell_alloc o2 (cell_alloc o1 (cell_alloc o0 a1))))))
        have x6a2 : ∀ o0 o1 o2 o3 o4 o5, ((((((w5.alloc o0).alloc o1).alloc o2).alloc o3).alloc o4).alloc o5).cell? ⟨w.heap.size, 2, none⟩ = some (vm) := fun o0 o1 o2 o3 o4 o5 => (cell_alloc o5 (cell_alloc o4 (cell_alloc o3 (cell_alloc o2 (cell_alloc o1 (cell_alloc o0 a2))))))
        have x6a3 : ∀ o0 o1 o2 o3 o4 o5, ((((((w5.alloc o0).alloc o1).alloc o2).alloc o3).alloc o4).alloc o5).cell? ⟨w.heap.size, 3, none⟩ = some (vs) := fun o0 o1 o2 o3 o4 o5 => (cell_alloc o5 (cell_alloc o4 (cell_alloc o3 (cell_alloc o2 (cell_alloc o1 (cell_alloc o0 a3))))))
        have x6a4 : ∀ o0 o1 o2 o3 o4 o5, ((((((w5.alloc o0).alloc o1).alloc o2).alloc o3).alloc o4).alloc o5).cell? ⟨w.heap.size, 4, none⟩ = some (vn) := fun o0 o1 o2 o3 o4 o5 => (cell_alloc o5 (cell_alloc o4 (cell_alloc o3 (cell_alloc o2 (cell_alloc o1 (cell_alloc o0 a4))))))
        go_wp2_with fail
        clear x4a0 x4a1 x4a2 x4a3 x4a4 x6a0 x6a1 x6a2 x6a3 x6a4
        have hsz : Hid (w5.heap.size = w5.heap.size) := Lib.hid rfl
        have hb := step_new (Below.refl w5.heap.size w5) (.cells #[.int .i64 q.kind, .string (B q.text), vm, vs, vn] 24)
        have R1 := qrow_one w5 n q vm vs vn 24 (H1.out.below B5.out)
        rw [hsz.out] at R1
        have R1 := Lib.hid R1
        replace a0 := cell_call hb a0
        replace a1 := cell_call hb a1
        replace a2 := cell_call hb a2
        replace a3 := cell_call hb a3
        replace a4 := cell_call hb a4
        replace Ht := Lib.hid (Ht.out.below hb)
        have hsz2 : (w5.alloc (.cells #[.int .i64 q.kind, .string (B q.text), vm, vs, vn] 24)).heap.size = w5.heap.size + 1 := World.size_alloc _ _
        rw [hsz.out] at hsz2
        have hsz := Lib.hid hsz2
        have B6 := Lib.hid (step_new B5.out (.cells #[.int .i64 q.kind, .string (B q.text), vm, vs, vn] 24))
        clear hb hsz2
        generalize w5.alloc (.cells #[.int .i64 q.kind, .string (B q.text), vm, vs, vn] 24) = w6 at *
        have hb := step_new (Below.refl w6.heap.size w6) (.cells #[.int .i64 5, .string ⟨#[]⟩, .slice none 0 0, .slice none 0 0, .slice (some ⟨w5.heap.size, 0, none⟩) 1 1] 24)
        have n0 : (w6.alloc (.cells #[.int .i64 5, .string ⟨#[]⟩, .slice none 0 0, .slice none 0 0, .slice (some ⟨w5.heap.size, 0, none⟩) 1 1] 24)).cell? ⟨w6.heap.size, 0, none⟩ = some (.int .i64 5) := by rw [Lib.cell_of_heap (heap_alloc_new w6 _)]; rfl
        rw [hsz.out] at n0
        have n1 : (w6.alloc (.cells #[.int .i64 5, .string ⟨#[]⟩, .slice none 0 0, .slice none 0 0, .slice (some ⟨w5.heap.size, 0, none⟩) 1 1] 24)).cell? ⟨w6.heap.size, 1, none⟩ = some (.string ⟨#[]⟩) := by rw [Lib.cell_of_heap (heap_alloc_new w6 _)]; rfl
        rw [hsz.out] at n1
        have n2 : (w6.alloc (.cells #[.int .i64 5, .string ⟨#[]⟩, .slice none 0 0, .slice none 0 0, .slice (some ⟨w5.heap.size, 0, none⟩) 1 1] 24)).cell? ⟨w6.heap.size, 2, none⟩ = some (.slice none 0 0) := by rw [Lib.cell_of_heap (heap_alloc_new w6 _)]; rfl
        rw [hsz.out] at n2
        have n3 : (w6.alloc (.cells #[.int .i64 5, .string ⟨#[]⟩, .slice none 0 0, .slice none 0 0, .slice (some ⟨w5.heap.size, 0, none⟩) 1 1] 24)).cell? ⟨w6.heap.size, 3, none⟩ = some (.slice none 0 0) := by rw [Lib.cell_of_heap (heap_alloc_new w6 _)]; rfl
        rw [hsz.out] at n3
        have n4 : (w6.alloc (.cells #[.int .i64 5, .string ⟨#[]⟩, .slice none 0 0, .slice none 0 0, .slice (some ⟨w5.heap.size, 0, none⟩) 1 1] 24)).cell? ⟨w6.heap.size, 4, none⟩ = some (.slice (some ⟨w5.heap.size, 0, none⟩) 1 1) := by rw [Lib.cell_of_heap (heap_alloc_new w6 _)]; rfl
        rw [hsz.out] at n4
        replace a0 := cell_call hb a0
        replace a1 := cell_call hb a1
        replace a2 := cell_call hb a2
        replace a3 := cell_call hb a3
        replace a4 := cell_call hb a4
        replace Ht := Lib.hid (Ht.out.below hb)
        replace R1 := Lib.hid (R1.out.below hb)
        have hsz2 : (w6.alloc (.cells #[.int .i64 5, .string ⟨#[]⟩, .slice none 0 0, .slice none 0 0, .slice (some ⟨w5.heap.size, 0, none⟩) 1 1] 24)).heap.size = w6.heap.size + 1 := World.size_alloc _ _
        rw [hsz.out] at hsz2
        have hsz := Lib.hid hsz2
        have B7 := Lib.hid (step_new B6.out (.cells #[.int .i64 5, .string ⟨#[]⟩, .slice none 0 0, .slice none 0 0, .slice (some ⟨w5.heap.size, 0, none⟩) 1 1] 24))
        clear hb hsz2
        generalize w6.alloc (.cells #[.int .i64 5, .string ⟨#[]⟩, .slice none 0 0, .slice none 0 0, .slice (some ⟨w5.heap.size, 0, none⟩) 1 1] 24) = w7 at *
        have hb := step_new (Below.refl w7.heap.size w7) (.cells #[.int .i64 5, .string ⟨#[]⟩, .slice none 0 0, .slice none 0 0, .slice (some ⟨w5.heap.size, 0, none⟩) 1 1] 24)
        have R3 : QRow (w7.alloc (.cells #[.int .i64 5, .string ⟨#[]⟩, .slice none 0 0, .slice none 0 0, .slice (some ⟨w5.heap.size, 0, none⟩) 1 1] 24)) (n + 1 + 1) (.slice (some ⟨w7.heap.size, 0, none⟩) 1 1) [.mk 5 [] [] [] [q]] := qrow_one w7 (n + 1) (.mk 5 [] [] [] [q]) (.slice none 0 0) (.slice none 0 0) (.slice (some ⟨w5.heap.size, 0, none⟩) 1 1) 24 (bool_val (QRow.nil _ _) (QRow.nil _ _) R1.out)
        rw [hsz.out] at R3
        have R3 := Lib.hid R3
        replace a0 := cell_call hb a0
        replace a1 := cell_call hb a1
        replace a2 := cell_call hb a2
        replace a3 := cell_call hb a3
        replace a4 := cell_call hb a4
        replace n0 := cell_call hb n0
        replace n1 := cell_call hb n1
        replace n2 := cell_call hb n2
        replace n3 := cell_call hb n3
        replace n4 := cell_call hb n4
        replace Ht := Lib.hid (Ht.out.below hb)
        replace R1 := Lib.hid (R1.out.below hb)
        have hsz2 : (w7.alloc (.cells #[.int .i64 5, .string ⟨#[]⟩, .slice none 0 0, .slice none 0 0, .slice (some ⟨w5.heap.size, 0, none⟩) 1 1] 24)).heap.size = w7.heap.size + 1 := World.size_alloc _ _
        rw [hsz.out] at hsz2
        have hsz := Lib.hid hsz2
        have B8 := Lib.hid (step_new B7.out (.cells #[.int .i64 5, .string ⟨#[]⟩, .slice none 0 0, .slice none 0 0, .slice (some ⟨w5.heap.size, 0, none⟩) 1 1] 24))
        clear hb hsz2
        generalize w7.alloc (.cells #[.int .i64 5, .string ⟨#[]⟩, .slice none 0 0, .slice none 0 0, .slice (some ⟨w5.heap.size, 0, none⟩) 1 1] 24) = w8 at *
        have hb := step_new (Below.refl w8.heap.size w8) (.cells #[.int .i64 5, .string ⟨#[]⟩, .slice none 0 0, .slice none 0 0, .slice (some ⟨w5.heap.size + 1 + 1, 0, none⟩) 1 1] 24)
        have t0 : (w8.alloc (.cells #[.int .i64 5, .string ⟨#[]⟩, .slice none 0 0, .slice none 0 0, .slice (some ⟨w5.heap.size + 1 + 1, 0, none⟩) 1 1] 24)).cell? ⟨w8.heap.size, 0, none⟩ = some (.int .i64 5) := by rw [Lib.cell_of_heap (heap_alloc_new w8 _)]; rfl
        rw [hsz.out] at t0
        have t1 : (w8.alloc (.cells #[.int .i64 5, .string ⟨#[]⟩, .slice none 0 0, .slice none 0 0, .slice (some ⟨w5.heap.size + 1 + 1, 0, none⟩) 1 1] 24)).cell? ⟨w8.heap.size, 1, none⟩ = some (.string ⟨#[]⟩) := by rw [Lib.cell_of_heap (heap_alloc_new w8 _)]; rfl
        rw [hsz.out] at t1
        have t2 : (w8.alloc (.cells #[.int .i64 5, .string ⟨#[]⟩, .slice none 0 0, .slice none 0 0, .slice (some ⟨w5.heap.size + 1 + 1, 0, none⟩) 1 1] 24)).cell? ⟨w8.heap.size, 2, none⟩ = some (.slice none 0 0) := by rw [Lib.cell_of_heap (heap_alloc_new w8 _)]; rfl
        rw [hsz.out] at t2
        have t3 : (w8.alloc (.cells #[.int .i64 5, .string ⟨#[]⟩, .slice none 0 0, .slice none 0 0, .slice (some ⟨w5.heap.size + 1 + 1, 0, none⟩) 1 1] 24)).cell? ⟨w8.heap.size, 3, none⟩ = some (.slice none 0 0) := by rw [Lib.cell_of_heap (heap_alloc_new w8 _)]; rfl
        rw [hsz.out] at t3
        have t4 : (w8.alloc (.cells #[.int .i64 5, .string ⟨#[]⟩, .slice none 0 0, .slice none 0 0, .slice (some ⟨w5.heap.size + 1 + 1, 0, none⟩) 1 1] 24)).cell? ⟨w8.heap.size, 4, none⟩ = some (.slice (some ⟨w5.heap.size + 1 + 1, 0, none⟩) 1 1) := by rw [Lib.cell_of_heap (heap_alloc_new w8 _)]; rfl
        rw [hsz.out] at t4
        replace a0 := cell_call hb a0
        replace a1 := cell_call hb a1
        replace a2 := cell_call hb a2
        replace a3 := cell_call hb a3
        replace a4 := cell_call hb a4
        replace n0 := cell_call hb n0
        replace n1 := cell_call hb n1
        replace n2 := cell_call hb n2
        replace n3 := cell_call hb n3
        replace n4 := cell_call hb n4
        replace Ht := Lib.hid (Ht.out.below hb)
        replace R1 := Lib.hid (R1.out.below hb)
        replace R3 := Lib.hid (R3.out.below hb)
        have hsz2 : (w8.alloc (.cells #[.int .i64 5, .string ⟨#[]⟩, .slice none 0 0, .slice none 0 0, .slice (some ⟨w5.heap.size + 1 + 1, 0, none⟩) 1 1] 24)).heap.size = w8.heap.size + 1 := World.size_alloc _ _
        rw [hsz.out] at hsz2
        have hsz := Lib.hid hsz2
        have B9 := Lib.hid (step_new B8.out (.cells #[.int .i64 5, .string ⟨#[]⟩, .slice none 0 0, .slice none 0 0, .slice (some ⟨w5.heap.size + 1 + 1, 0, none⟩) 1 1] 24))
        clear hb hsz2
        generalize w8.alloc (.cells #[.int .i64 5, .string ⟨#[]⟩, .slice none 0 0, .slice none 0 0, .slice (some ⟨w5.heap.size + 1 + 1, 0, none⟩) 1 1] 24) = w9 at *
        have hb := step_new (Below.refl w9.heap.size w9) (.cells #[.int .i64 q.kind, .string (B q.text), vm, vs, vn, .int .i64 q.kind, .string (B q.text), vm, vs, vn] 24)
        have R5 := qrow_two w9 n q q vm vs vn vm vs vn 24 (H1.out.below B9.out) (H1.out.below B9.out)
        rw [hsz.out] at R5
        have R5 := Lib.hid R5
        replace a0 := cell_call hb a0
        replace a1 := cell_call hb a1
        replace a2 := cell_call hb a2
        replace a3 := cell_call hb a3
        replace a4 := cell_call hb a4
        replace n0 := cell_call hb n0
        replace n1 := cell_call hb n1
        replace n2 := cell_call hb n2
        replace n3 := cell_call hb n3
        replace n4 := cell_call hb n4
        replace t0 := cell_call hb t0
        replace t1 := cell_call hb t1
        replace t2 := cell_call hb t2
        replace t3 := cell_call hb t3
        replace t4 := cell_call hb t4
        replace Ht := Lib.hid (Ht.out.below hb)
        replace R1 := Lib.hid (R1.out.below hb)
        replace R3 := Lib.hid (R3.out.below hb)
        have hsz2 : (w9.alloc (.cells #[.int .i64 q.kind, .string (B q.text), vm, vs, vn, .int .i64 q.kind, .string (B q.text), vm, vs, vn] 24)).heap.size = w9.heap.size + 1 := World.size_alloc _ _
        rw [hsz.out] at hsz2
        have hsz := Lib.hid hsz2
        have B10 := Lib.hid (step_new B9.out (.cells #[.int .i64 q.kind, .string (B q.text), vm, vs, vn, .int .i64 q.kind, .string (B q.text), vm, vs, vn] 24))
        clear hb hsz2
        generalize w9.alloc (.cells #[.int .i64 q.kind, .string (B q.text), vm, vs, vn, .int .i64 q.kind, .string (B q.text), vm, vs, vn] 24) = w10 at *
        have hb := step_new (Below.refl w10.heap.size w10) (.cells #[.int .i64 5, .string ⟨#[]⟩, .slice (some ⟨w5.heap.size + 1 + 1 + 1 + 1, 0, none⟩) 2 2, .slice none 0 0, .slice none 0 0] 24)
        have m0 : (w10.alloc (.cells #[.int .i64 5, .string ⟨#[]⟩, .slice (some ⟨w5.heap.size + 1 + 1 + 1 + 1, 0, none⟩) 2 2, .slice none 0 0, .slice none 0 0] 24)).cell? ⟨w10.heap.size, 0, none⟩ = some (.int .i64 5) := by rw [Lib.cell_of_heap (heap_alloc_new w10 _)]; rfl
        rw [hsz.out] at m0
        have m1 : (w10.alloc (.cells #[.int .i64 5, .string ⟨#[]⟩, .slice (some ⟨w5.heap.size + 1 + 1 + 1 + 1, 0, none⟩) 2 2, .slice none 0 0, .slice none 0 0] 24)).cell? ⟨w10.heap.size, 1, none⟩ = some (.string ⟨#[]⟩) := by rw [Lib.cell_of_heap (heap_alloc_new w10 _)]; rfl
        rw [hsz.out] at m1
        have m2 : (w10.alloc (.cells #[.int .i64 5, .string ⟨#[]⟩, .slice (some ⟨w5.heap.size + 1 + 1 + 1 + 1, 0, none⟩) 2 2, .slice none 0 0, .slice none 0 0] 24)).cell? ⟨w10.heap.size, 2, none⟩ = some (.slice (some ⟨w5.heap.size + 1 + 1 + 1 + 1, 0, none⟩) 2 2) := by rw [Lib.cell_of_heap (heap_alloc_new w10 _)]; rfl
        rw [hsz.out] at m2
        have m3 : (w10.alloc (.cells #[.int .i64 5, .string ⟨#[]⟩, .slice (some ⟨w5.heap.size + 1 + 1 + 1 + 1, 0, none⟩) 2 2, .slice none 0 0, .slice none 0 0] 24)).cell? ⟨w10.heap.size, 3, none⟩ = some (.slice none 0 0) := by rw [Lib.cell_of_heap (heap_alloc_new w10 _)]; rfl
        rw [hsz.out] at m3
        have m4 : (w10.alloc (.cells #[.int .i64 5, .string ⟨#[]⟩, .slice (some ⟨w5.heap.size + 1 + 1 + 1 + 1, 0, none⟩) 2 2, .slice none 0 0, .slice none 0 0] 24)).cell? ⟨w10.heap.size, 4, none⟩ = some (.slice none 0 0) := by rw [Lib.cell_of_heap (heap_alloc_new w10 _)]; rfl
        rw [hsz.out] at m4
        replace a0 := cell_call hb a0
        replace a1 := cell_call hb a1
        replace a2 := cell_call hb a2
        replace a3 := cell_call hb a3
        replace a4 := cell_call hb a4
        replace n0 := cell_call hb n0
        replace n1 := cell_call hb n1
        replace n2 := cell_call hb n2
        replace n3 := cell_call hb n3
        replace n4 := cell_call hb n4
        replace t0 := cell_call hb t0
        replace t1 := cell_call hb t1
        replace t2 := cell_call hb t2
        replace t3 := cell_call hb t3
        replace t4 := cell_call hb t4
        replace Ht := Lib.hid (Ht.out.below hb)
        replace R1 := Lib.hid (R1.out.below hb)
        replace R3 := Lib.hid (R3.out.below hb)
        replace R5 := Lib.hid (R5.out.below hb)
        have hsz2 : (w10.alloc (.cells #[.int .i64 5, .string ⟨#[]⟩, .slice (some ⟨w5.heap.size + 1 + 1 + 1 + 1, 0, none⟩) 2 2, .slice none 0 0, .slice none 0 0] 24)).heap.size = w10.heap.size + 1 := World.size_alloc _ _
        rw [hsz.out] at hsz2
        have hsz := Lib.hid hsz2
        have B11 := Lib.hid (step_new B10.out (.cells #[.int .i64 5, .string ⟨#[]⟩, .slice (some ⟨w5.heap.size + 1 + 1 + 1 + 1, 0, none⟩) 2 2, .slice none 0 0, .slice none 0 0] 24))
        clear hb hsz2
        generalize w10.alloc (.cells #[.int .i64 5, .string ⟨#[]⟩, .slice (some ⟨w5.heap.size + 1 + 1 + 1 + 1, 0, none⟩) 2 2, .slice none 0 0, .slice none 0 0] 24) = w11 at *
        refine (HA.out w11 B11.out Ht.out).mono ?_
        rintro e w12 ⟨rfl, hb⟩
        replace a0 := cell_call hb a0
        replace a1 := cell_call hb a1
        replace a2 := cell_call hb a2
        replace a3 := cell_call hb a3
        replace a4 := cell_call hb a4
        replace n0 := cell_call hb n0
        replace n1 := cell_call hb n1
        replace n2 := cell_call hb n2
        replace n3 := cell_call hb n3
        replace n4 := cell_call hb n4
        replace t0 := cell_call hb t0
        replace t1 := cell_call hb t1
        replace t2 := cell_call hb t2
        replace t3 := cell_call hb t3
        replace t4 := cell_call hb t4
        replace m0 := cell_call hb m0
        replace m1 := cell_call hb m1
        replace m2 := cell_call hb m2
        replace m3 := cell_call hb m3
        replace m4 := cell_call hb m4
        replace Ht := Lib.hid (Ht.out.below hb)
        replace R1 := Lib.hid (R1.out.below hb)
        replace R3 := Lib.hid (R3.out.below hb)
        replace R5 := Lib.hid (R5.out.below hb)
        have B12 := Lib.hid (step_call B11.out hb)
        clear hb
        go_wp2_with fail
        refine (right_bool_at (n + 2) [] [] [.mk 5 [] [] [] [q]] _ _ _ w12 (QRow.nil _ _) (QRow.nil _ _) R3.out (HT.out.below B12.out)).mono ?_
        rintro e w13 ⟨rfl, hb⟩
        replace a0 := cell_call hb a0
        replace a1 := cell_call hb a1
        replace a2 := cell_call hb a2
        replace a3 := cell_call hb a3
        replace a4 := cell_call hb a4
        replace n0 := cell_call hb n0
        replace n1 := cell_call hb n1
        replace n2 := cell_call hb n2
        replace n3 := cell_call hb n3
        replace n4 := cell_call hb n4
        replace t0 := cell_call hb t0
        replace t1 := cell_call hb t1
        replace t2 := cell_call hb t2
        replace t3 := cell_call hb t3
        replace t4 := cell_call hb t4
        replace m0 := cell_call hb m0
        replace m1 := cell_call hb m1
        replace m2 := cell_call hb m2
        replace m3 := cell_call hb m3
        replace m4 := cell_call hb m4
        replace Ht := Lib.hid (Ht.out.below hb)
        replace R1 := Lib.hid (R1.out.below hb)
        replace R3 := Lib.hid (R3.out.below hb)
        replace R5 := Lib.hid (R5.out.below hb)
        have B13 := Lib.hid (step_call B12.out hb)
        clear hb
        generalize rightB (.mk 5 [] [] [] [.mk 5 [] [] [] [q]]) = r1 at *
        go_wp2_with fail
        refine (right_bool_at (n + 1) [q, q] [] [] _ _ _ w13 R5.out (QRow.nil _ _) (QRow.nil _ _) (HT.out.below B13.out)).mono ?_
        rintro e w14 ⟨rfl, hb⟩
        replace a0 := cell_call hb a0
        replace a1 := cell_call hb a1
        replace a2 := cell_call hb a2
        replace a3 := cell_call hb a3
        replace a4 := cell_call hb a4
        replace n0 := cell_call hb n0
        replace n1 := cell_call hb n1
        replace n2 := cell_call hb n2
        replace n3 := cell_call hb n3
        replace n4 := cell_call hb n4
        replace t0 := cell_call hb t0
        replace t1 := cell_call hb t1
        replace t2 := cell_call hb t2
        replace t3 := cell_call hb t3
        replace t4 := cell_call hb t4
        replace m0 := cell_call hb m0
        replace m1 := cell_call hb m1
        replace m2 := cell_call hb m2
        replace m3 := cell_call hb m3
        replace m4 := cell_call hb m4
        replace Ht := Lib.hid (Ht.out.below hb)
        replace R1 := Lib.hid (R1.out.below hb)
        replace R3 := Lib.hid (R3.out.below hb)
        replace R5 := Lib.hid (R5.out.below hb)
        have B14 := Lib.hid (step_call B13.out hb)
        clear hb
        generalize rightB (.mk 5 [] [q, q] [] []) = r2 at *
        cases r1
        case false =>
          cases r2
          all_goals
            go_wp2
            go_ret
            exact ⟨rfl, B14.out⟩
        case true =>
          cases r2
          case false =>
            go_wp2
            go_ret
            exact ⟨rfl, B14.out⟩
          case true =>
            cases ma
            all_goals
              go_wp2_with fail
              refine (mat_bool_at l v Hlb.out hcnt (n + 1) [] [] [q] _ _ _ w14 (QRow.nil _ _) (QRow.nil _ _) R1.out (bool_short rfl rfl (short_one hsa)) Ht.out (HT.out.below B14.out) _ E1.out).mono ?_
              rintro e w15 ⟨rfl, hb⟩
              replace a0 := cell_call hb a0
              replace a1 := cell_call hb a1
              replace a2 := cell_call hb a2
              replace a3 := cell_call hb a3
              replace a4 := cell_call hb a4
              replace n0 := cell_call hb n0
              replace n1 := cell_call hb n1
              replace n2 := cell_call hb n2
              replace n3 := cell_call hb n3
              replace n4 := cell_call hb n4
              replace t0 := cell_call hb t0
              replace t1 := cell_call hb t1
              replace t2 := cell_call hb t2
              replace t3 := cell_call hb t3
              replace t4 := cell_call hb t4
              replace m0 := cell_call hb m0
              replace m1 := cell_call hb m1
              replace m2 := cell_call hb m2
              replace m3 := cell_call hb m3
              replace m4 := cell_call hb m4
              replace Ht := Lib.hid (Ht.out.below hb)
              replace R1 := Lib.hid (R1.out.below hb)
              replace R3 := Lib.hid (R3.out.below hb)
              replace R5 := Lib.hid (R5.out.below hb)
              have B15 := Lib.hid (step_call B14.out hb)
              clear hb
              go_wp2_with fail
              refine (mat_bool_at l v Hlb.out hcnt (n + 2) [] [] [.mk 5 [] [] [] [q]] _ _ _ w15 (QRow.nil _ _) (QRow.nil _ _) R3.out (bool_short rfl rfl (short_one (bool_short rfl rfl (short_one hsa)))) Ht.out (HT.out.below B15.out) _ E2.out).mono ?_
              rintro e w16 ⟨rfl, hb⟩
              replace a0 := cell_call hb a0
              replace a1 := cell_call hb a1
              replace a2 := cell_call hb a2
              replace a3 := cell_call hb a3
              replace a4 := cell_call hb a4
              replace n0 := cell_call hb n0
              replace n1 := cell_call hb n1
              replace n2 := cell_call hb n2
              replace n3 := cell_call hb n3
              replace n4 := cell_call hb n4
              replace t0 := cell_call hb t0
              replace t1 := cell_call hb t1
              replace t2 := cell_call hb t2
              replace t3 := cell_call hb t3
              replace t4 := cell_call hb t4
              replace m0 := cell_call hb m0
              replace m1 := cell_call hb m1
              replace m2 := cell_call hb m2
              replace m3 := cell_call hb m3
              replace m4 := cell_call hb m4
              replace Ht := Lib.hid (Ht.out.below hb)
              replace R1 := Lib.hid (R1.out.below hb)
              replace R3 := Lib.hid (R3.out.below hb)
              replace R5 := Lib.hid (R5.out.below hb)
              have B16 := Lib.hid (step_call B15.out hb)
              clear hb
              go_wp2_with fail
              refine (mat_bool_at l v Hlb.out hcnt (n + 1) [q, q] [] [] _ _ _ w16 R5.out (QRow.nil _ _) (QRow.nil _ _) (bool_short (short_two hsa hsa) rfl rfl) Ht.out (HT.out.below B16.out) _ E3.out).mono ?_
              rintro e w17 ⟨rfl, hb⟩
              replace a0 := cell_call hb a0
              replace a1 := cell_call hb a1
              replace a2 := cell_call hb a2
              replace a3 := cell_call hb a3
              replace a4 := cell_call hb a4
              replace n0 := cell_call hb n0
              replace n1 := cell_call hb n1
              replace n2 := cell_call hb n2
              replace n3 := cell_call hb n3
              replace n4 := cell_call hb n4
              replace t0 := cell_call hb t0
              replace t1 := cell_call hb t1
              replace t2 := cell_call hb t2
              replace t3 := cell_call hb t3
              replace t4 := cell_call hb t4
              replace m0 := cell_call hb m0
              replace m1 := cell_call hb m1
              replace m2 := cell_call hb m2
              replace m3 := cell_call hb m3
              replace m4 := cell_call hb m4
              replace Ht := Lib.hid (Ht.out.below hb)
              replace R1 := Lib.hid (R1.out.below hb)
              replace R3 := Lib.hid (R3.out.below hb)
              replace R5 := Lib.hid (R5.out.below hb)
              have B17 := Lib.hid (step_call B16.out hb)
              clear hb
              go_wp2
              go_ret
              exact ⟨rfl, B17.out⟩
      · have hsi : 1500 < (s.size : Int) := by omega
        go_wp2
        go_ret
        exact ⟨rfl, B4.out⟩
end Go.Proofs.YtlfhgmclnapmjaaDoor
