/- The law WireLengths returns true for every list of numbers. Conditions: the numbers fit their kind. -/
import Derived.Test.YtijjccamcodbfaaShown2
import Derived.OpenShut
namespace Go.Proofs.Ytijjccamcodbfaa
open Go.RowKit Go.Wir

theorem nats_of_ints (zs : List Int) (h : ∀ n ∈ zs, 0 ≤ n) : ∃ l : List Nat, zs = l.map fun n : Nat => (n : Int) := by
  induction zs with
  | nil => exact ⟨[], rfl⟩
  | cons z zs ih =>
    obtain ⟨l, rfl⟩ := ih fun n hn => h n (by simp [hn])
    obtain ⟨n, rfl⟩ := Int.eq_ofNat_of_zero_le (h z (by simp))
    exact ⟨n :: l, rfl⟩
/-- How many bytes a number's rest still has. -/
def more (f v : Nat) : Nat := if v = 0 then 0 else (varF f v).length
theorem more_start (N : Nat) : 1 + more 8 (N / 128) = (varL N).length := by
  unfold more varL
  simp only [varF]
  by_cases h : N < 128
  · rw [if_pos h, if_pos (by omega)]; simp
  · rw [if_neg h, if_neg (by omega)]; simp; omega
theorem more_step (f v p : Nat) (hf : p + f = 9) (hn : FitsN (v * 128 ^ p)) (h : 0 < v) : ∃ g q, q + g = 9 ∧ FitsN (v / 128 * 128 ^ q) ∧ more f v = 1 + more g (v / 128) := by
  by_cases hv : v < 128
  · refine ⟨f, p, hf, by rw [show v / 128 = 0 by omega]; unfold FitsN; omega, ?_⟩
    unfold more
    rw [if_neg (by omega), if_pos (by omega), vF_last f v hv]; rfl
  · obtain ⟨g, rfl, h1, h2⟩ := vF_step f v p hf hn (by omega)
    refine ⟨g, p + 1, by omega, h2, ?_⟩
    unfold more
    rw [if_neg (by omega), if_neg (by omega), h1]; simp; omega

set_option maxRecDepth 100000 in
set_option maxHeartbeats 1600000 in
theorem walk_WireLengths_nat (v : Value) (l : List Nat) (w : World) (hrow : Row w v (l.map fun n => Value.int .u64 (n : Nat))) (hl : ∀ n ∈ l, FitsN n) :
    Calls Try.prog 8 #[v] w fun e w' => e = .returned (.bool true) ∧ Below w.heap.size w w' := by
  have Hl := Lib.hid hl
  have Hrow := Lib.hid hrow
  clear hl
  rcases hrow with ⟨a, cap, rfl, h0⟩ | ⟨b, off, cap, rfl, hlc, hb, hcell⟩
  · obtain rfl : l = [] := by simpa using h0
    have e1 : B (varsL []) = ⟨#[]⟩ := rfl
    clear h0
    go_enter Try.func8, Try.ntmps8
    go_wp2_with fail
    refine (shown2 w).mono ?_
    rintro e w1 ⟨rfl, b1⟩
    have B1 := Lib.hid (step_call (Below.refl _ w) b1)
    clear b1
    go_wp2_with fail
    refine (wire_Var _ [] _ (Hrow.out.below B1.out) (by simp) (by simp)).mono ?_
    rintro e w2 ⟨rfl, b2⟩
    have B2 := Lib.hid (step_call B1.out b2)
    clear b2
    go_wp2
    go_loop [4, 5] (fun t i => i = .int .i64 0 ∧ t = .string ⟨#[]⟩) (fun _ _ => 0)
    case atStart => exact ⟨rfl, rfl⟩
    case round =>
      obtain ⟨rfl, rfl⟩ := hrel
      have B2' := B2
      go_wp2_with fail
      refine (wire_ToVar_none ⟨#[]⟩ (by decide) rfl _).mono ?_
      rintro e w3 ⟨rfl, b3⟩
      have B3 := Lib.hid (step_call B2.out b3)
      clear b3
      go_wp2
      go_ret
      exact ⟨rfl, B3.out⟩
  · rw [List.length_map] at hlc
    by_cases hbig : 200 < l.length
    · rw [List.length_map]
      go_enter Try.func8, Try.ntmps8
      go_wp2_with fail
      refine (shown2 w).mono ?_
      rintro e w1 ⟨rfl, b1⟩
      have B1 := Lib.hid (step_call (Below.refl _ w) b1)
      clear b1
      go_wp2
      go_ret
      exact ⟨rfl, B1.out⟩
    have hcell' : ∀ i (h : i < l.length), w.cell? ⟨b, off + i, none⟩ = some (.int .u64 (l[i] : Nat)) := fun i hi => by rw [hcell i (by simpa using hi)]; simp
    have Hcell := Lib.hid hcell'
    clear hcell hcell' hlc
    rw [List.length_map] at *
    have hl200 : l.length ≤ 200 := by omega
    have Hrow' := Lib.hid (show Row w (.slice (some ⟨b, off, none⟩) l.length cap) (l.map fun n => Value.int .u64 (n : Nat)) by exact Hrow.out)
    clear Hrow
    go_enter Try.func8, Try.ntmps8
    go_wp2_with fail
    refine (shown2 w).mono ?_
    rintro e w1 ⟨rfl, b1⟩
    have B1 := Lib.hid (step_call (Below.refl _ w) b1)
    clear b1
    go_wp2_with fail
    refine (wire_Var _ l _ (Hrow'.out.below B1.out) (by omega) Hl.out).mono ?_
    rintro e w2 ⟨rfl, b2⟩
    have B2 := Lib.hid (step_call B1.out b2)
    clear b2
    go_wp2
    go_loopw [4, 5] (fun t i wr => ∃ k : Nat, k ≤ l.length ∧ i = .int .i64 k ∧ t = .string (B (varsL (l.drop k))) ∧ Below w.heap.size w wr) (fun _ i _ => l.length - (intOf i).toNat)
    case atStart => exact ⟨0, Nat.zero_le _, rfl, rfl, B2.out⟩
    case round =>
      obtain ⟨k, hk, rfl, rfl, hbel⟩ := hrel
      by_cases hlt : k < l.length
      · have hc := cell_below hbel hb (Hcell.out k hlt)
        have Hn := Lib.hid (Hl.out l[k] (List.getElem_mem hlt))
        have hd : varsL (l.drop k) = varL l[k] ++ varsL (l.drop (k + 1)) := by unfold varsL; rw [List.drop_eq_getElem_cons hlt, List.flatMap_cons]
        rw [hd]
        have hrl := varsL_length (l.drop (k + 1))
        rw [List.length_drop] at hrl
        clear hd
        generalize hr : varsL (l.drop (k + 1)) = r at *
        have Hr := Lib.hid hr
        clear hr
        have Hcl := Lib.hid (fun (w' : World) (h : Below wr.heap.size wr w') => cell_below h (lt_of_cell hc) hc)
        generalize l[k] = N at *
        have hN1 := varL_length N
        have hq := quo_128 N 0 (by simpa using Hn.out)
        have Hbel := Lib.hid hbel
        clear hbel
        go_wp2
        go_loop [6, 7] (fun c v => ∃ (f p v' c' : Nat), p + f = 9 ∧ FitsN (v' * 128 ^ p) ∧ c' + more f v' = (varL N).length ∧ c = .int .i64 c' ∧ v = .int .u64 v') (fun _ v => (intOf v).toNat)
        case atStart => exact ⟨8, 1, N / 128, 1, rfl, by have := Hn.out; unfold FitsN at *; omega, more_start N, rfl, rfl⟩
        case round =>
          obtain ⟨f, p, x, c, hf, hx, hm, rfl, rfl⟩ := hrel
          have Hf := Lib.hid hf
          have Hx := Lib.hid hx
          have Hm := Lib.hid hm
          have hc10 : c ≤ 10 := by omega
          clear hf hx hm
          by_cases h0 : 0 < x
          · have hqx := quo_128 x p Hx.out
            go_wp2
            go_round
            case rel =>
              obtain ⟨g, q, g1, g2, g3⟩ := more_step f x p Hf.out Hx.out h0
              exact ⟨g, q, x / 128, c + 1, g1, g2, by have := Hm.out; omega, by go_num, rfl⟩
            case measure => simp [intOf]; omega
          · have hcN : (varL N).length = c := by
              have := Hm.out
              unfold more at this; rw [if_pos (by omega)] at this; omega
            have e1 : (B (varsL [N])).size = c := by rw [size_B]; simpa [varsL] using hcN
            have e2 : (B r).size = r.length := size_B r
            have e3 : (B (varL N ++ r)).size = c + r.length := by rw [size_B, List.length_append, hcN]
            have hb1 : ((c : Int) != (c : Int)) = false := by simp
            have hs1 : (c : Int) + (r.length : Int) - (c : Int) = (r.length : Int) := by omega
            have HcN := Lib.hid hcN
            clear hcN hN1
            go_wp2_with fail
            refine (wire_Var _ [N] _ (Row.new wr [.int .u64 (N : Nat)] 27) (by simp) (by intro n hn; simp at hn; subst hn; exact Hn.out)).mono ?_
            rintro e w3 ⟨rfl, b3⟩
            have B3 := Lib.hid (step_alloc (Below.refl _ wr) b3)
            clear b3
            have hc3 := Hcl.out _ B3.out
            go_wp2_with fail
            refine (wire_ToVar_some _ N r (by rw [size_B, List.length_append]; have := HcN.out; omega) (by rw [L_B]; exact toVarL_varL N r Hn.out) _).mono ?_
            rintro e w4 ⟨rfl, b4⟩
            have B4 := Lib.hid (step_call B3.out b4)
            clear b4
            have hc4 := Hcl.out _ B4.out
            go_wp2
            go_roundw
            case rel => exact ⟨k + 1, by omega, by go_num, by rw [Hr.out], Hbel.out.trans (B4.out.mono Hbel.out.size)⟩
            case measure => simp [intOf]; omega
      · obtain rfl : k = l.length := by omega
        have e0 : B (varsL (l.drop l.length)) = ⟨#[]⟩ := by rw [List.drop_length]; rfl
        rw [e0]
        have Hbel := Lib.hid hbel
        clear hbel
        go_wp2_with fail
        refine (wire_ToVar_none ⟨#[]⟩ (by decide) rfl _).mono ?_
        rintro e w1 ⟨rfl, b1⟩
        have B1 := Lib.hid (step_call (Below.refl _ wr) b1)
        clear b1
        go_wp2
        go_ret
        exact ⟨rfl, Hbel.out.trans (B1.out.mono Hbel.out.size)⟩

theorem walk_WireLengths (v : Value) (zs : List Int) (w : World) (hrow : Row w v (zs.map (Value.int .u64))) (hz : ∀ n ∈ zs, (Lit.int .u64 n).wf = true) :
    Calls Try.prog 8 #[v] w fun e w' => e = .returned (.bool true) ∧ Below w.heap.size w w' := by
  obtain ⟨l, rfl⟩ := nats_of_ints zs fun n hn => (bounds_u64 (hz n hn)).1
  refine walk_WireLengths_nat v l w (by rw [List.map_map] at hrow; exact hrow) fun n hn => ?_
  have := (bounds_u64 (hz n (List.mem_map.2 ⟨n, hn, rfl⟩))).2
  unfold FitsN; omega
end Go.Proofs.Ytijjccamcodbfaa
