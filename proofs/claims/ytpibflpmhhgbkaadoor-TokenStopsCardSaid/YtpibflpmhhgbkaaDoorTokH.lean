/- Chapter 11: codexlaw11's comparisons: two slices of the same are found the same. No conditions. -/
import Derived.Test.YtpibflpmhhgbkaaDoorTokF
import Derived.Test.YtpibflpmhhgbkaaDoorTokAsc
namespace Go.Proofs.YtpibflpmhhgbkaaDoor
open Go.RowKit Go.Utf Go.Lib
attribute [local go_sem] Oper.semAt_some

theorem below_to_drewN {K : Nat} {w w' : World} (h : Below K w w') (n : Nat) : Below K w (w'.drewN n) := ⟨h.os, h.tape, h.output, h.size, h.block⟩
set_option maxRecDepth 100000 in
set_option maxHeartbeats 3200000 in
theorem law_sameTexts (va vb : Value) (l : List (List UInt8)) (hn : l.length ≤ 9223372036854775807) (w : World) (ha : Row w va (txtV l)) (hb : Row w vb (txtV l)) :
    Calls Tryd.prog 12 #[va, vb] w fun e w' => e = .returned (.bool true) ∧ Below w.heap.size w w' := by
  obtain ⟨o1, k1, rfl, hc1⟩ := txt_row ha
  obtain ⟨o2, k2, rfl, hc2⟩ := txt_row hb
  have Ha := Lib.hid hc1
  have Hb := Lib.hid hc2
  have hne : ((l.length : Int) != (l.length : Int)) = false := by simp
  clear ha hb hc1 hc2
  go_enter Tryd.func12, Tryd.ntmps12
  go_wp2
  clear hne
  go_loopw [5] (fun i wr => ∃ k : Nat, k ≤ l.length ∧ i = .int .i64 k ∧ Below w.heap.size w wr) (fun i _ => l.length - (intOf i).toNat)
  case atStart => exact ⟨0, by omega, rfl, Below.refl _ _⟩
  case round =>
    obtain ⟨k, hk, rfl, hbel⟩ := hrel
    by_cases hlt : k < l.length
    · obtain ⟨b1, f1, rfl, hb1, _, d1⟩ := Ha.out k hlt
      obtain ⟨b2, f2, rfl, hb2, _, d2⟩ := Hb.out k hlt
      have d1 := cell_below hbel hb1 d1
      have d2 := cell_below hbel hb2 d2
      have Hbel := Lib.hid hbel
      clear hbel
      generalize l[k] = x at *
      have e1 : ((B x).toList != (B x).toList) = false := by simp
      have hk1 : (k : Int) < (l.length : Int) := by omega
      go_wp2
      go_quiet (fail)
      go_wp2
      go_roundw
      case rel => exact ⟨k + 1, by omega, by go_num, below_to_drewN Hbel.out _⟩
      case measure => simp [intOf]; omega
    · obtain rfl : k = l.length := by omega
      go_wp2
      go_ret
      exact ⟨rfl, hbel⟩
set_option maxRecDepth 100000 in
set_option maxHeartbeats 3200000 in
theorem law_same (va vb : Value) (l : List (List UInt8 × Nat)) (hn : l.length ≤ 9223372036854775807) (w : World) (ha : Toks w va l) (hb : Toks w vb l) :
    Calls Tryd.prog 9 #[va, vb] w fun e w' => e = .returned (.bool true) ∧ Below w.heap.size w w' := by
  obtain ⟨o1, k1, rfl, hc1⟩ := ha
  obtain ⟨o2, k2, rfl, hc2⟩ := hb
  have Ha := Lib.hid hc1
  have Hb := Lib.hid hc2
  have hne : ((l.length : Int) != (l.length : Int)) = false := by simp
  clear hc1 hc2
  go_enter Tryd.func9, Tryd.ntmps9
  go_wp2
  clear hne
  go_loopw [5] (fun i wr => ∃ k : Nat, k ≤ l.length ∧ i = .int .i64 k ∧ Below w.heap.size w wr) (fun i _ => l.length - (intOf i).toNat)
  case atStart => exact ⟨0, by omega, rfl, Below.refl _ _⟩
  case round =>
    obtain ⟨k, hk, rfl, hbel⟩ := hrel
    by_cases hlt : k < l.length
    · obtain ⟨b1, f1, rfl, hb1, d1, d1'⟩ := Ha.out k hlt
      obtain ⟨b2, f2, rfl, hb2, d2, d2'⟩ := Hb.out k hlt
      have d1 := cell_below hbel hb1 d1
      have d2 := cell_below hbel hb2 d2
      have d1' := cell_below hbel hb1 d1'
      have d2' := cell_below hbel hb2 d2'
      have Hbel := Lib.hid hbel
      clear hbel
      generalize l[k] = x at *
      obtain ⟨x, p⟩ := x
      simp only at d1 d2 d1' d2'
      have e1 : ((B x).toList != (B x).toList) = false := by simp
      have hk1 : (k : Int) < (l.length : Int) := by omega
      go_wp2
      go_quiet (fail)
      go_wp2
      go_roundw
      case rel => exact ⟨k + 1, by omega, by go_num, below_to_drewN Hbel.out _⟩
      case measure => simp [intOf]; omega
    · obtain rfl : k = l.length := by omega
      go_wp2
      go_ret
      exact ⟨rfl, hbel⟩
theorem toks_new (w : World) (l : List (List UInt8 × Nat)) (t : TypeId) : Toks (w.alloc (.cells (tokCells l).toArray t)) (.slice (some ⟨w.heap.size, 0, none⟩) l.length l.length) l := by
  refine ⟨_, _, rfl, fun i hi => ⟨w.heap.size, 0, rfl, by simp, ?_, ?_⟩⟩
  all_goals
    have hb : (w.alloc (.cells (tokCells l).toArray t)).heap[w.heap.size]? = some (.cells (tokCells l).toArray t (0, 0)) := heap_alloc_new w _
    have hg := tokCells_get l i hi
    rw [Lib.cell_of_heap hb, Nat.zero_add, List.getElem?_toArray]
  · exact hg.1
  · exact hg.2
theorem terms_is {l : List UInt8} {ts : List Tx} (h1 : ts.Pairwise (· < ·)) (h2 : ∀ x, x ∈ ts ↔ x ∈ (tokensL l).map Prod.fst) : termsL l = ts := by
  obtain ⟨k1, k2⟩ := set_of ((tokensL l).map Prod.fst)
  exact rising_same k1 h1 (fun x => (k2 x).trans (h2 x).symm)
theorem terms_ex : termsL [98, 32, 97, 49, 32, 66, 32, 122, 122] = [[97, 49], [98], [122, 122]] := by
  refine terms_is (by decide +kernel) (fun x => ?_)
  rw [tok_ex2]
  simp only [List.map_cons, List.map_nil, List.mem_cons, List.not_mem_nil, or_false]
  constructor
  · rintro (h | h | h)
    · exact .inr (.inl h)
    · exact .inl h
    · exact .inr (.inr (.inr h))
  · rintro (h | h | h | h)
    · exact .inr (.inl h)
    · exact .inl h
    · exact .inr (.inl h)
    · exact .inr (.inr h)
theorem tok_ex1' : tokensL (L ⟨#[84, 104, 101, 32, 113, 117, 105, 99, 107, 44, 32, 98, 114, 111, 119, 110, 45, 102, 111, 120, 32, 116, 104, 101, 32, 50, 110, 100]⟩) = [([113, 117, 105, 99, 107], 1), ([98, 114, 111, 119, 110], 2), ([102, 111, 120], 3), ([50, 110, 100], 5)] := tok_ex1
theorem terms_ex' : termsL (L ⟨#[98, 32, 97, 49, 32, 66, 32, 122, 122]⟩) = [[97, 49], [98], [122, 122]] := terms_ex
theorem tokens_at (s : ByteArray) (hs : s.size ≤ 1000000) (l : List (List UInt8 × Nat)) (h : tokensL (L s) = l) (w : World) (hT : Tabs w) :
    Calls Tryd.prog 10 #[.string s] w fun e w' => ∃ v, e = .returned v ∧ Below w.heap.size w w' ∧ Toks w' v l := by
  subst h
  exact (token_Tokens s hs w hT).mono fun e w' ⟨v, h1, h2, h3⟩ => ⟨v, h1, h2, own_toks h3⟩
theorem terms_at (s : ByteArray) (hs : s.size ≤ 1000000) (l : List (List UInt8)) (h : termsL (L s) = l) (w : World) (hT : Tabs w) :
    Calls Tryd.prog 13 #[.string s] w fun e w' => ∃ v, e = .returned v ∧ Below w.heap.size w w' ∧ Row w' v (txtV l) := by
  subst h
  exact (token_Terms s hs w hT).mono fun e w' ⟨v, h1, h2, h3⟩ => ⟨v, h1, h2, own_row h3⟩
theorem stop_at (s : ByteArray) (b : Bool) (h : stopB (L s) = b) (w : World) : Calls Tryd.prog 15 #[.string s] w fun e w' => e = .returned (.bool b) ∧ w' = w := by
  subst h
  exact token_Stop s w
set_option maxRecDepth 100000 in
set_option maxHeartbeats 3200000 in
theorem law_shown (w : World) (hT : Tabs w) : Calls Tryd.prog 8 #[] w fun e w' => e = .returned (.bool true) ∧ Below w.heap.size w w' := by
  have HT := Lib.hid hT
  clear hT
  go_enter Tryd.func8, Tryd.ntmps8
  go_wp2_with fail
  refine (tokens_at _ (by decide +kernel) _ tok_ex1' w HT.out).mono ?_
  rintro e w1 ⟨v1, rfl, hb1, ht1⟩
  have Hb1 := Lib.hid hb1
  have Ht1 := Lib.hid ht1
  clear hb1 ht1
  go_wp2_with fail
  have hlit : Toks (w1.alloc (.cells #[.string ⟨#[113, 117, 105, 99, 107]⟩, .int .i64 1, .string ⟨#[98, 114, 111, 119, 110]⟩, .int .i64 2, .string ⟨#[102, 111, 120]⟩, .int .i64 3, .string ⟨#[50, 110, 100]⟩, .int .i64 5] 32)) (.slice (some ⟨w1.heap.size, 0, none⟩) 4 4) [([113, 117, 105, 99, 107], 1), ([98, 114, 111, 119, 110], 2), ([102, 111, 120], 3), ([50, 110, 100], 5)] := toks_new w1 [([113, 117, 105, 99, 107], 1), ([98, 114, 111, 119, 110], 2), ([102, 111, 120], 3), ([50, 110, 100], 5)] 32
  with_reducible refine (law_same v1 _ _ (by simp) _ (Ht1.out.below (step_new (Below.refl _ _) _)) hlit).mono ?_
  rintro e w2 ⟨rfl, hb2⟩
  have Hb2 := Lib.hid (step_call (step_new Hb1.out _) hb2)
  clear hb2
  go_wp2_with fail
  refine (terms_at _ (by decide +kernel) _ terms_ex' _ (HT.out.below Hb2.out)).mono ?_
  rintro e w3 ⟨v3, rfl, hb3, ht3⟩
  have Hb3 := Lib.hid (step_call Hb2.out hb3)
  have Ht3 := Lib.hid ht3
  clear hb3 ht3
  go_wp2_with fail
  have hlit2 : Row (w3.alloc (.cells #[.string ⟨#[97, 49]⟩, .string ⟨#[98]⟩, .string ⟨#[122, 122]⟩] 9)) (.slice (some ⟨w3.heap.size, 0, none⟩) 3 3) (txtV [[97, 49], [98], [122, 122]]) := Row.new w3 (txtV [[97, 49], [98], [122, 122]]) 9
  with_reducible refine (law_sameTexts v3 _ _ (by simp) _ (Ht3.out.below (step_new (Below.refl _ _) _)) hlit2).mono ?_
  rintro e w4 ⟨rfl, hb4⟩
  have Hb4 := Lib.hid (step_call (step_new Hb3.out _) hb4)
  clear hb4
  go_wp2_with fail
  with_reducible refine (stop_at ⟨#[116, 104, 101]⟩ true (by decide +kernel) _).mono ?_
  rintro e w5 ⟨rfl, rfl⟩
  go_wp2_with fail
  with_reducible refine (stop_at ⟨#[84, 104, 101]⟩ false (by decide +kernel) _).mono ?_
  rintro e w6 ⟨rfl, rfl⟩
  go_wp2
  go_ret
  exact ⟨rfl, Hb4.out⟩
end Go.Proofs.YtpibflpmhhgbkaaDoor
