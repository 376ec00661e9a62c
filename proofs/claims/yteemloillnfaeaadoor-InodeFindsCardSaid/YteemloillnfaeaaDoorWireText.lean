/- wire.Text: a list of texts as bytes, one behind the other, as the plain function has it. Conditions: the texts and their number add up to at most 2^40. -/
import Derived.Test.YteemloillnfaeaaDoorWireVar
namespace Go.Proofs.YteemloillnfaeaaDoor
open Go.RowKit Go.Wir

/-- Texts as bytes, one behind the other. -/
def textsL (l : List ByteArray) : List UInt8 := l.flatMap fun s => textL (L s)
theorem textsL_take (l : List ByteArray) (k : Nat) (h : k < l.length) : textsL (l.take (k + 1)) = textsL (l.take k) ++ textL (L l[k]) := by
  unfold textsL; rw [List.take_succ_eq_append_getElem h, List.flatMap_append, List.flatMap_cons, List.flatMap_nil, List.append_nil]
theorem textL_length (l : List UInt8) : (textL l).length ≤ 10 + l.length := by
  unfold textL; have := (varL_length l.length).2; rw [List.length_append]; omega
/-- Lengths of texts, added up. -/
def sizes (l : List ByteArray) : Nat := (l.map fun s => s.size + 10).sum
theorem length_sizes (l : List ByteArray) : l.length ≤ sizes l := by
  unfold sizes
  induction l with
  | nil => simp
  | cons a l ih => simp only [List.length_cons, List.map_cons, List.sum_cons]; omega
theorem textsL_length (l : List ByteArray) : (textsL l).length ≤ sizes l := by
  unfold textsL sizes
  induction l with
  | nil => simp
  | cons a l ih => have := textL_length (L a); rw [length_L] at this; simp only [List.flatMap_cons, List.length_append, List.map_cons, List.sum_cons]; omega
theorem sizes_take (l : List ByteArray) (k : Nat) (h : k < l.length) : sizes (l.take k) + (l[k].size + 10) ≤ sizes l := by
  unfold sizes
  conv => rhs; rw [← List.take_append_drop k l]
  rw [List.map_append, List.sum_append, List.drop_eq_getElem_cons h, List.map_cons, List.sum_cons]; omega

set_option maxRecDepth 100000 in
set_option maxHeartbeats 400000 in
theorem wire_Text_row (l : List ByteArray) (b off cap : Nat) (hl : sizes l ≤ 1099511627776) (w : World) (hcell : ∀ i (h : i < l.length), w.cell? ⟨b, off + i, none⟩ = some (.string l[i])) (hb : b < w.heap.size) (hn : l.length ≤ 1099511627776) :
    Calls Tryd.prog 46 #[.slice (some ⟨b, off, none⟩) l.length cap] w fun e w' => e = .returned (.string (B (textsL l))) ∧ Below w.heap.size w w' := by
  have Hcell := Lib.hid hcell
  clear hcell
  go_enter Tryd.func46, Tryd.ntmps46
  go_wp2
  go_loopw [8] (fun i wr => ∃ k : Nat, k ≤ l.length ∧ i = .int .i64 k ∧ Lib.IsBuilderF 85 5 w.heap.size w.heap.size (Lib.byteCells (textsL (l.take k))) wr ∧ Below w.heap.size w wr) (fun i _ => l.length - (intOf i).toNat)
  case atStart => exact ⟨0, Nat.zero_le _, rfl, .of (Lib.fresh_isBuilder _ _ w), (Below.refl _ _).alloc (Nat.le_refl _) _⟩
  case round =>
    obtain ⟨k, hk, rfl, hB, hbel⟩ := hrel
    have hbz := hbel.size
    by_cases hlt : k < l.length
    · have hc := cell_below hbel hb (Hcell.out k hlt)
      have Ht := Lib.hid (textsL_take l k hlt)
      have hlen := textsL_length (l.take k)
      have hst := sizes_take l k hlt
      generalize l[k] = s at *
      generalize textsL (l.take k) = acc at *
      have hacc : acc.length + s.size + 10 ≤ 1099511627776 := by omega
      clear hlen hst
      have hrow := Lib.hid (Row.new wr [.int .u64 (s.size : Nat)] 99)
      go_wp2_with fail
      refine (wire_Var _ [s.size] _ hrow.out (by simp) (by intro n hn; simp at hn; subst hn; unfold FitsN; omega)).mono ?_
      rintro e w1 ⟨rfl, hb1⟩
      have hb2 : Below wr.heap.size wr w1 := ((Below.refl _ _).alloc (Nat.le_refl _) _).trans (hb1.mono (by simp))
      have hb3 := Lib.hid (hbel.trans (hb2.mono hbz))
      have hz1 := hb3.out.size
      have hB1 := Lib.hid (builder_below hB hb2)
      have hs10 : (B (varsL [s.size])).size ≤ 10 := by have := varsL_length [s.size]; rw [size_B]; simpa using this
      clear hb1 hb2 hB hc
      go_wp2_with fail
      refine (b_writeString w.heap.size w.heap.size _ _ w1 hB1.out (by rw [Lib.byteCells_length, ← length_L, L_append, List.length_append, length_L, length_L]; omega) hz1).mono ?_
      rintro e w2 ⟨rfl, hB', hbel', _⟩
      have hB2 := Lib.hid (builder_str hB')
      have hb4 := Lib.hid (hb3.out.trans hbel')
      clear hB' hbel'
      go_wp2
      go_roundw
      case rel =>
        refine ⟨k + 1, by omega, by go_num, .inr ?_, hb4.out⟩
        have := hB2.out
        rw [L_append, L_B] at this
        rw [Ht.out]
        simpa [textL, varsL, length_L] using this
      case measure => simp [intOf]; omega
    · obtain rfl : k = l.length := by omega
      go_wp2_with fail
      refine (b_string w.heap.size w.heap.size _ wr hB hbz).mono ?_
      rintro e w1 ⟨rfl, _, hbel', _⟩
      go_wp2
      go_ret
      exact ⟨ret_str (by simp [B]), hbel.trans hbel'⟩

set_option maxRecDepth 100000 in
theorem wire_Text_nil (a : Option Addr) (cap : Nat) (w : World) :
    Calls Tryd.prog 46 #[.slice a 0 cap] w fun e w' => e = .returned (.string (B [])) ∧ Below w.heap.size w w' := by
  go_enter Tryd.func46, Tryd.ntmps46
  go_wp2
  go_loopw [8] (fun i wr => i = .int .i64 0 ∧ wr = w.alloc (.cells #[.pointer none, .slice none 0 0] 85)) (fun _ _ => 0)
  case atStart => exact ⟨rfl, rfl⟩
  case round =>
    obtain ⟨rfl, rfl⟩ := hrel
    go_wp2_with fail
    refine (b_string w.heap.size w.heap.size [] _ (.of (Lib.fresh_isBuilder _ _ w)) (by simp)).mono ?_
    rintro e w1 ⟨rfl, _, hbel', _⟩
    go_wp2
    go_ret
    exact ⟨rfl, ((Below.refl _ _).alloc (Nat.le_refl _) _).trans hbel'⟩

/-- wire.Text at whatever slice of texts. -/
theorem wire_Text (v : Value) (l : List ByteArray) (w : World) (h : Row w v (l.map .string)) (hl : sizes l ≤ 1099511627776) :
    Calls Tryd.prog 46 #[v] w fun e w' => e = .returned (.string (B (textsL l))) ∧ Below w.heap.size w w' := by
  rcases h with ⟨a, cap, rfl, h⟩ | ⟨b, off, cap, rfl, _, hb, h⟩
  · obtain rfl : l = [] := by simpa using h
    exact wire_Text_nil a cap w
  · rw [List.length_map]
    refine wire_Text_row l b off cap hl w (fun i hi => by rw [h i (by simpa using hi)]; simp) hb ?_
    have := length_sizes l
    omega
end Go.Proofs.YteemloillnfaeaaDoor
