/- dict.entry: an entry read behind a term. Conditions: lengths fit an int. -/
import Derived.Test.YtefnddhondbjbaaDictNum
namespace Go.Proofs.Ytefnddhondbjbaa
open Go.RowKit Go.Wir Go.Dic

def numG (s : ByteArray) (most : Nat) : Nat := ((numberL (L s) most).map Prod.fst).getD 0
def numR (s : ByteArray) (most : Nat) : List UInt8 := ((numberL (L s) most).map Prod.snd).getD []
theorem numG_le (s : ByteArray) (most : Nat) : numG s most ≤ most := by
  unfold numG
  rcases h : numberL (L s) most with _ | ⟨n, r⟩
  · simp
  · exact (numberL_le h).1
theorem numR_le (s : ByteArray) (most : Nat) : (numR s most).length ≤ s.size := by
  unfold numR
  rcases h : numberL (L s) most with _ | ⟨n, r⟩
  · simp
  · have := (numberL_le h).2; rw [length_L] at this; exact this
theorem textG_le (s : ByteArray) : (textG s).length ≤ s.size ∧ (textR s).length ≤ s.size := by
  unfold textG textR
  rcases h : toTextL (L s) with _ | ⟨t, r⟩
  · simp
  · have h1 := toTextL_some h
    have h2 := congrArg List.length h1.1
    rw [List.length_append, length_L] at h2
    have h3 := h1.2
    rw [length_L] at h3
    exact ⟨h3, by show r.length ≤ _; omega⟩
theorem dict_number (s : ByteArray) (most : Nat) (hs : s.size ≤ 9223372036854775807) (hm : most ≤ 9223372036854775807) (w : World) :
    Calls Try.prog 45 #[.string s, .int .i64 (most : Nat)] w fun e w' => e = .returned (.agg #[.int .i64 (numG s most : Nat), .string (B (numR s most)), .bool (numberL (L s) most).isSome]) ∧ Below w.heap.size w w' := by
  rcases h : numberL (L s) most with _ | ⟨n, r⟩
  · rw [show numG s most = 0 by unfold numG; rw [h]; rfl, show numR s most = [] by unfold numR; rw [h]; rfl]
    exact dict_number_none s most hs hm h w
  · rw [show numG s most = n by unfold numG; rw [h]; rfl, show numR s most = r by unfold numR; rw [h]; rfl]
    exact dict_number_some s most hs hm n r h w
/-- An entry, behind it the rest; were it all there? -/
def entG (s last : ByteArray) : Ent := ((L last).take (numG s last.size) ++ textG (B (numR s last.size)), textG (B (textR (B (numR s last.size)))))
def entR (s last : ByteArray) : List UInt8 := textR (B (textR (B (numR s last.size))))
def entOk (s last : ByteArray) : Bool := (numberL (L s) last.size).isSome && (toTextL (numR s last.size)).isSome && (toTextL (textR (B (numR s last.size)))).isSome

set_option maxRecDepth 100000 in
set_option maxHeartbeats 4000000 in
theorem dict_entry (s last : ByteArray) (hs : s.size ≤ 1099511627776) (hl : last.size ≤ 1099511627776) (w : World) :
    Calls Try.prog 44 #[.string s, .string last] w fun e w' => e = .returned (.agg #[.string (B (entG s last).1), .string (B (entG s last).2), .string (B (entR s last)), .bool (entOk s last)]) ∧ Below w.heap.size w w' := by
  have H1 := Lib.hid (fun w => dict_number s last.size (by omega) (by omega) w)
  have h1 := numG_le s last.size
  have h2 := numR_le s last.size
  rw [show entOk s last = ((numberL (L s) last.size).isSome && (toTextL (numR s last.size)).isSome && (toTextL (textR (B (numR s last.size)))).isSome) from rfl]
  unfold entG entR
  generalize (numberL (L s) last.size).isSome = b1 at *
  generalize numG s last.size = n at *
  generalize numR s last.size = r1 at *
  have z1 : (B r1).size ≤ 1099511627776 := by rw [size_B]; omega
  have H2 := Lib.hid (fun w => dict_text (B r1) (by omega) w)
  obtain ⟨h3, h4⟩ := textG_le (B r1)
  rw [show L (B r1) = r1 from rfl] at H2
  generalize (toTextL r1).isSome = b2 at *
  generalize textG (B r1) = t at *
  generalize textR (B r1) = r2 at *
  have z2 : (B r2).size ≤ 1099511627776 := by rw [size_B]; omega
  have z3 : (B t).size ≤ 1099511627776 := by rw [size_B]; omega
  have H3 := Lib.hid (fun w => dict_text (B r2) (by omega) w)
  rw [show L (B r2) = r2 from rfl] at H3
  generalize (toTextL r2).isSome = b3 at *
  generalize textG (B r2) = v at *
  generalize textR (B r2) = r3 at *
  go_enter Try.func44, Try.ntmps44
  go_wp2_with fail
  refine (H1.out _).mono ?_
  rintro e w1 ⟨rfl, hb1⟩
  go_wp2_with fail
  refine (H2.out _).mono ?_
  rintro e w2 ⟨rfl, hb2⟩
  go_wp2_with fail
  refine (H3.out _).mono ?_
  rintro e w3 ⟨rfl, hb3⟩
  have B1 : Below w.heap.size w w1 := below_new hb1
  have B2 : Below w1.heap.size w1 w2 := below_new hb2
  have B3 : Below w2.heap.size w2 w3 := below_new hb3
  have hz1 : w.heap.size < w1.heap.size := by have := hb1.size; simp at this; omega
  have hz2 : w1.heap.size < w2.heap.size := by have := hb2.size; simp at this; omega
  have hz3 : w2.heap.size < w3.heap.size := by have := hb3.size; simp at this; omega
  have g0 : w1.heap[w.heap.size]? = some (.cells #[.string ⟨#[]⟩, .string ⟨#[]⟩, .string ⟨#[]⟩, .bool false] 91 (0, 0)) := (hb1.block w.heap.size (by simp)).trans (heap_alloc_new w _)
  have g1 : w2.heap[w1.heap.size]? = some (.cells #[.int .i64 (n : Nat), .string (B r1), .bool b1] 94 (0, 0)) := (hb2.block w1.heap.size (by simp)).trans (heap_alloc_new w1 _)
  have g2 : w3.heap[w2.heap.size]? = some (.cells #[.string (B t), .string (B r2), .bool b2] 98 (0, 0)) := (hb3.block w2.heap.size (by simp)).trans (heap_alloc_new w2 _)
  have g1 := (B3.block w1.heap.size hz2).trans g1
  have g0 := (B3.block w.heap.size (by omega)).trans ((B2.block w.heap.size hz1).trans g0)
  have g3 := heap_alloc_new w3 (.cells #[.string (B v), .string (B r3), .bool b3] 98)
  have g0 := (heap_alloc_old w3 (.cells #[.string (B v), .string (B r3), .bool b3] 98) (show w.heap.size < w3.heap.size by omega)).trans g0
  have g1 := (heap_alloc_old w3 (.cells #[.string (B v), .string (B r3), .bool b3] 98) (show w1.heap.size < w3.heap.size by omega)).trans g1
  have g2 := (heap_alloc_old w3 (.cells #[.string (B v), .string (B r3), .bool b3] 98) (show w2.heap.size < w3.heap.size by omega)).trans g2
  have Hb := Lib.hid (step_new (step_call (step_call B1 B2) B3) (.cells #[.string (B v), .string (B r3), .bool b3] 98))
  clear hb1 hb2 hb3 B1 B2 B3 hz1 hz2 hz3
  go_wp2
  generalize (w3.alloc (.cells #[.string (B v), .string (B r3), .bool b3] 98)) = W at *
  obtain ⟨c0, c1, c2, c3, f0, f1, f2, f3⟩ := cells4 g0
  obtain ⟨n0, n1, n2, _, _, _⟩ := cells3 g1
  obtain ⟨t0, t1, t2, _, _, _⟩ := cells3 g2
  obtain ⟨v0, v1, v2, _, _, _⟩ := cells3 g3
  have Hg := Lib.hid g0
  clear g0 g1 g2 g3
  have y1 : (n : Int) ≤ (last.size : Int) := by omega
  have y2 : ¬ 9223372036854775807 < (last.extract 0 n).size + (B t).size := by rw [ByteArray.size_extract]; omega
  have hX : last.extract 0 n ++ B t = B ((L last).take n ++ t) := by rw [extract_take, B_append]
  cases b1 with
  | false =>
    go_region
    go_wp2
    refine bodyPost_ret_by (results_cell_row rfl _ _ w.heap.size _ _ _ _ (by rfl) (set4 _ _ _ _ Hg.out) Try.underlying91 rfl (by kernel_rfl)) rfl ⟨?_, ?_⟩
    · simp
    · exact below_to_drew (below_set (below_set (below_set (below_set Hb.out _ _ _ (Nat.le_refl _)) _ _ _ (Nat.le_refl _)) _ _ _ (Nat.le_refl _)) _ _ _ (Nat.le_refl _))
  | true =>
    cases b2 with
    | false =>
      go_region
      go_wp2
      refine bodyPost_ret_by (results_cell_row rfl _ _ w.heap.size _ _ _ _ (by rfl) (set4 _ _ _ _ Hg.out) Try.underlying91 rfl (by kernel_rfl)) rfl ⟨?_, ?_⟩
      · simp
      · exact below_to_drew (below_set (below_set (below_set (below_set Hb.out _ _ _ (Nat.le_refl _)) _ _ _ (Nat.le_refl _)) _ _ _ (Nat.le_refl _)) _ _ _ (Nat.le_refl _))

    | true =>
      go_region
      go_wp2
      refine bodyPost_ret_by (results_cell_row rfl _ _ w.heap.size _ _ _ _ (by rfl) (set4 _ _ _ _ Hg.out) Try.underlying91 rfl (by kernel_rfl)) rfl ⟨?_, ?_⟩
      · simp
      · exact below_to_drew (below_set (below_set (below_set (below_set Hb.out _ _ _ (Nat.le_refl _)) _ _ _ (Nat.le_refl _)) _ _ _ (Nat.le_refl _)) _ _ _ (Nat.le_refl _))

end Go.Proofs.Ytefnddhondbjbaa
