/- wire.Var: a list of numbers as bytes, one behind the other, as the plain function has it. Conditions: each number fits 64 bits, there are at most 2^40 of them. -/
import Derived.Test.YteemloillnfaeaaDoorBuilder
import Derived.Test.YteemloillnfaeaaDoorBase
import Derived.Test.YteemloillnfaeaaDoorWirePlain
namespace Go.Proofs.YteemloillnfaeaaDoor
open Go.RowKit Go.Wir

/-- Numbers as bytes, one behind the other. -/
def varsL (l : List Nat) : List UInt8 := l.flatMap varL
theorem varsL_take (l : List Nat) (k : Nat) (h : k < l.length) : varsL (l.take (k + 1)) = varsL (l.take k) ++ varL l[k] := by
  unfold varsL; rw [List.take_succ_eq_append_getElem h, List.flatMap_append, List.flatMap_cons, List.flatMap_nil, List.append_nil]
theorem varsL_length (l : List Nat) : (varsL l).length ≤ 10 * l.length := by
  unfold varsL
  induction l with
  | nil => simp
  | cons a l ih => have := (varL_length a).2; simp only [List.flatMap_cons, List.length_append, List.length_cons]; omega
def FitsN (n : Nat) : Prop := n < 18446744073709551616
theorem vF_step (f n p : Nat) (hf : p + f = 9) (hn : FitsN (n * 128 ^ p)) (h : 128 ≤ n) : ∃ g, f = g + 1 ∧ varF f n = UInt8.ofNat (n % 128 + 128) :: varF g (n / 128) ∧ FitsN (n / 128 * 128 ^ (p + 1)) := by
  cases f with
  | zero =>
    exfalso
    obtain rfl : p = 9 := by omega
    have := Nat.lt_of_le_of_lt (Nat.mul_le_mul_right (128 ^ 9) h) hn
    revert this; decide
  | succ g =>
    refine ⟨g, rfl, ?_, ?_⟩
    · simp only [varF]; rw [if_neg (by omega)]
    · unfold FitsN at *
      rw [Nat.pow_succ]
      have e : n / 128 * (128 ^ p * 128) = (n / 128 * 128) * 128 ^ p := by ac_rfl
      have h2 := Nat.mul_le_mul_right (128 ^ p) (show n / 128 * 128 ≤ n by omega)
      omega
theorem vF_last (f n : Nat) (h : n < 128) : varF f n = [UInt8.ofNat n] := by
  cases f with
  | zero => rfl
  | succ g => simp only [varF]; rw [if_pos h]
theorem nat_or_128 : ∀ m, m < 256 → m ||| 128 = m % 128 + 128 := by decide +kernel
theorem or_128 (n : Nat) : bits .or .u8 ((n : Int) % 256) 128 = (n : Int) % 128 + 128 := by
  rw [u8_or _ _ (by omega) (by omega) (by omega) (by omega), show ((n : Int) % 256).toNat = n % 256 by omega, show (128 : Int).toNat = 128 from rfl, nat_or_128 _ (by omega)]
  omega
theorem quo_128 (n p : Nat) (h : FitsN (n * 128 ^ p)) : IntKind.u64.wrap ((n : Int) / 128) = ((n / 128 : Nat) : Int) := by
  unfold FitsN at h
  have := Nat.le_mul_of_pos_right n (Nat.pow_pos (n := p) (show 0 < 128 by omega))
  rw [IntKind.wrap_u64]; omega
set_option maxRecDepth 100000 in
set_option maxHeartbeats 400000 in
theorem wire_Var_row (l : List Nat) (b off cap : Nat) (hn : l.length ≤ 1099511627776) (hl : ∀ n ∈ l, FitsN n) (w : World) (hcell : ∀ i (h : i < l.length), w.cell? ⟨b, off + i, none⟩ = some (.int .u64 (l[i] : Nat))) (hb : b < w.heap.size) :
    Calls Tryd.prog 72 #[.slice (some ⟨b, off, none⟩) l.length cap] w fun e w' => e = .returned (.string (B (varsL l))) ∧ Below w.heap.size w w' := by
  have Hcell := Lib.hid hcell
  clear hcell
  have Hl := Lib.hid hl
  clear hl
  go_enter Tryd.func72, Tryd.ntmps72
  go_wp2
  go_loopw [8] (fun i wr => ∃ k : Nat, k ≤ l.length ∧ i = .int .i64 k ∧ Lib.IsBuilderF 85 5 w.heap.size w.heap.size (Lib.byteCells (varsL (l.take k))) wr ∧ Below w.heap.size w wr) (fun i _ => l.length - (intOf i).toNat)
  case atStart => exact ⟨0, Nat.zero_le _, rfl, .of (Lib.fresh_isBuilder _ _ w), (Below.refl _ _).alloc (Nat.le_refl _) _⟩
  case round =>
    obtain ⟨k, hk, rfl, hB, hbel⟩ := hrel
    by_cases hlt : k < l.length
    · have hc := cell_below hbel hb (Hcell.out k hlt)
      have Hn := Lib.hid (Hl.out l[k] (List.getElem_mem hlt))
      have Ht := Lib.hid (varsL_take l k hlt)
      have hlen := varsL_length (l.take k)
      have hlt2 := List.length_take_le k l
      generalize l[k] = N at *
      generalize varsL (l.take k) = acc at *
      have hacc : acc.length ≤ 10995116277760 := by omega
      clear hlen hlt2
      go_wp2
      go_loopw [5] (fun v wr' => ∃ (f n : Nat) (pre : List UInt8), pre.length + f = 9 ∧ FitsN (n * 128 ^ pre.length) ∧ varL N = pre ++ varF f n ∧ v = .int .u64 n ∧ Lib.IsBuilderF 85 5 w.heap.size w.heap.size (Lib.byteCells (acc ++ pre)) wr' ∧ Below w.heap.size w wr') (fun v _ => (intOf v).toNat)
      case atStart => exact ⟨9, N, [], rfl, by simpa using Hn.out, rfl, rfl, by simpa using hB, hbel⟩
      case round =>
        obtain ⟨f, n, pre, hf, hnp, hv, rfl, hB, hbel⟩ := hrel
        have hp : pre.length ≤ 9 := by omega
        have Hv := Lib.hid hv
        have Hf := Lib.hid hf
        have Hnp := Lib.hid hnp
        clear hv hf hnp
        have hbz := hbel.size
        have hlb : (Lib.byteCells (acc ++ pre)).length + 1 ≤ 140737488355328 := by rw [Lib.byteCells_length, List.length_append]; omega
        by_cases hn : n < 128
        · go_wp2_with fail
          refine (b_writeByte w.heap.size w.heap.size _ _ wr hB hlb hbz).mono ?_
          rintro e w1 ⟨rfl, hB', hbel', _⟩
          have hB2 := Lib.hid (builder_snoc (by omega) (by omega) hB')
          clear hB'
          go_wp2
          go_roundw
          case rel =>
            refine ⟨k + 1, by omega, by go_num, .inr ?_, hbel.trans hbel'⟩
            rw [Ht.out, Hv.out, vF_last f n hn, ← List.append_assoc]
            exact hB2.out
          case measure => simp [intOf]; omega
        · have hor := or_128 n
          have hq := quo_128 n pre.length Hnp.out
          go_wp2_with fail
          refine (b_writeByte w.heap.size w.heap.size _ _ wr hB hlb hbz).mono ?_
          rintro e w1 ⟨rfl, hB', hbel', _⟩
          have hB2 := Lib.hid (builder_snoc (by omega) (by omega) hB')
          clear hB' hor
          go_wp2
          go_roundw
          case rel =>
            obtain ⟨g, hg, h1, h2⟩ := vF_step f n pre.length Hf.out Hnp.out (by omega)
            have hf := Hf.out
            refine ⟨g, n / 128, pre ++ [UInt8.ofNat (n % 128 + 128)], by simp; omega, by simpa using h2, by rw [Hv.out, h1]; simp, rfl, .inr ?_, hbel.trans hbel'⟩
            have := hB2.out
            rw [List.append_assoc, show ((n : Int) % 128 + 128).toNat = n % 128 + 128 by omega] at this
            exact this
          case measure => simp [intOf]; omega
    · obtain rfl : k = l.length := by omega
      have hbz := hbel.size
      go_wp2_with fail
      refine (b_string w.heap.size w.heap.size _ wr hB hbz).mono ?_
      rintro e w1 ⟨rfl, _, hbel', _⟩
      go_wp2
      go_ret
      exact ⟨ret_str (by simp [B]), hbel.trans hbel'⟩

set_option maxRecDepth 100000 in
theorem wire_Var_nil (a : Option Addr) (cap : Nat) (w : World) :
    Calls Tryd.prog 72 #[.slice a 0 cap] w fun e w' => e = .returned (.string (B [])) ∧ Below w.heap.size w w' := by
  go_enter Tryd.func72, Tryd.ntmps72
  go_wp2
  go_loopw [8] (fun i wr => i = .int .i64 0 ∧ wr = w.alloc (.cells #[.pointer none, .slice none 0 0] 85)) (fun _ _ => 0)
  case atStart => exact ⟨rfl, rfl⟩
  case round =>
    obtain ⟨rfl, rfl⟩ := hrel
    go_wp2_with fail
    refine (b_string w.heap.size w.heap.size [] _ (.of (Lib.fresh_isBuilder _ _ w)) (by simp)).mono ?_
    rintro e w1 ⟨rfl, _, hbel', _⟩
    go_wp2
    go_ret
    exact ⟨rfl, ((Below.refl _ _).alloc (Nat.le_refl _) _).trans hbel'⟩

/-- wire.Var at whatever slice of numbers. -/
theorem wire_Var (v : Value) (l : List Nat) (w : World) (h : Row w v (l.map fun n => Value.int .u64 (n : Nat))) (hn : l.length ≤ 1099511627776) (hl : ∀ n ∈ l, FitsN n) :
    Calls Tryd.prog 72 #[v] w fun e w' => e = .returned (.string (B (varsL l))) ∧ Below w.heap.size w w' := by
  rcases h with ⟨a, cap, rfl, h⟩ | ⟨b, off, cap, rfl, _, hb, h⟩
  · obtain rfl : l = [] := by simpa using h
    exact wire_Var_nil a cap w
  · rw [List.length_map]
    exact wire_Var_row l b off cap hn hl w (fun i hi => by rw [h i (by simpa using hi)]; simp) hb
end Go.Proofs.YteemloillnfaeaaDoor
