/- dict.from: the blocks in which a term may stand. Conditions: the first terms rise. -/
import Derived.Test.YtefnddhondbjbaaDictParts
import Derived.Test.YtefnddhondbjbaaSearch
namespace Go.Proofs.Ytefnddhondbjbaa
open Go.RowKit Go.Wir Go.Dic Go.Shelf Go.Lib

set_option maxRecDepth 100000 in
set_option maxHeartbeats 1000000 in
theorem from_closure (ba bx blk off cap n : Nat) (f t : ByteArray) (i : Nat) (W : World) (hi : i < n) (hn : n ≤ 9223372036854775807)
    (ha : W.cell? ⟨ba, 0, none⟩ = some (.slice (some ⟨blk, off, none⟩) n cap)) (hx : W.cell? ⟨bx, 0, none⟩ = some (.string t)) (hc : W.cell? ⟨blk, off + i * 3, none⟩ = some (.string f)) :
    Calls Try.prog 42 (#[.int .i64 i] ++ #[.pointer (some ⟨ba, 0, none⟩), .pointer (some ⟨bx, 0, none⟩)]) W fun e w' => e = .returned (.bool (!(Op.bytesLess f.toList t.toList || f.toList == t.toList))) ∧ ∃ q, w' = W.drewN q := by
  have hiz : (i : Int) < (n : Int) := by omega
  go_enter Try.func42, Try.ntmps42
  go_wp2
  go_region
  all_goals go_wp2
  all_goals go_ret
  all_goals exact ⟨by first | rfl | simp, 1, rfl⟩
theorem Parts.below {w w' : World} {v : Value} {es : List Part} (h : Parts w v es) (hb : Below w.heap.size w w') : Parts w' v es := by
  rcases h with h | ⟨b, off, cap, h1, h2, h3, h4⟩
  · exact .inl h
  · exact .inr ⟨b, off, cap, h1, h2, Nat.lt_of_lt_of_le h3 hb.size, fun i hi => ⟨cell_below hb h3 (h4 i hi).1, cell_below hb h3 (h4 i hi).2.1, cell_below hb h3 (h4 i hi).2.2⟩⟩
theorem parts_drop {w : World} {a : Option Addr} {c : Nat} {ps : List Part} (h : Parts w (.slice a ps.length c) ps) (k : Nat) (hk : k ≤ ps.length) :
    Parts w (.slice (a.map fun x => x.add (k * 3)) (ps.length - k) (c - k)) (ps.drop k) := by
  by_cases h0 : k = ps.length
  · subst h0
    exact .inl ⟨_, _, by rw [Nat.sub_self], by simp⟩
  rcases h with ⟨a', cap, h, h1⟩ | ⟨b, off, cap, h, hcap, hb, hcell⟩
  · subst h1; simp at hk; simp at h0; omega
  · simp only [Value.slice.injEq] at h
    obtain ⟨rfl, _, rfl⟩ := h
    refine .inr ⟨b, off + k * 3, c - k, ?_, by rw [List.length_drop]; omega, hb, fun i hi => ?_⟩
    · rw [List.length_drop]; simp [Addr.add]
    · have hi' : k + i < ps.length := by rw [List.length_drop] at hi; omega
      have := hcell (k + i) hi'
      rw [List.getElem_drop]
      rw [show off + k * 3 + i * 3 = off + (k + i) * 3 by omega]
      exact this
theorem parts_cap {w : World} {a : Option Addr} {n c : Nat} {ps : List Part} (h : Parts w (.slice a n c) ps) : ps.length ≤ c := by
  rcases h with ⟨_, _, _, rfl⟩ | ⟨b, off, cap, h, hcap, _⟩
  · simp
  · simp only [Value.slice.injEq] at h; omega
/-- Does the i-th block's first term stand behind t? -/
def behind (ps : List Part) (t : List UInt8) (i : Nat) : Bool := !(leB (ps.getD i ([], [], 0)).1 t)
def cntNot (ps : List Part) (t : List UInt8) : Nat := (List.range ps.length).countP (fun i => !(behind ps t i))

set_option maxRecDepth 100000 in
set_option maxHeartbeats 1000000 in
theorem dict_from (s t : ByteArray) (hs : s.size ≤ 549755813888) (ps : List Part) (rest : List UInt8) (hp : partsL (L s) = some (ps, rest)) (hlen : ps.length ≤ 1048576) (hmono : ∀ a b, a ≤ b → b < ps.length → behind ps (L t) a = true → behind ps (L t) b = true) (w : World) :
    Calls Try.prog 30 #[.string s, .string t] w fun e w' => Below w.heap.size w w' ∧ ∃ v, e = .returned v ∧ Parts w' v (ps.drop (cntNot ps (L t) - 1)) := by
  have hfd : ∀ (w : World) (a : Option Addr) (n c : Nat) (t : ByteArray) (b : Bool), (Instr.field 75 (.agg #[.slice a n c, .string t, .bool b]) 0).run Try.prog w = .ok (.slice a n c) w := fun _ _ _ _ _ _ => by kernel_rfl
  have Hp := Lib.hid hp
  have Hm := Lib.hid hmono
  clear hp hmono
  go_enter Try.func30, Try.ntmps30
  go_wp2_with fail
  refine (dict_parts s hs _).mono ?_
  rintro e w1 ⟨hb, hpost⟩
  rw [Hp.out] at hpost
  obtain ⟨v, rfl, hv⟩ := hpost
  obtain ⟨a, n, c, rfl⟩ : ∃ a n c, v = .slice a n c := by
    rcases hv with ⟨a, cap, rfl, _⟩ | ⟨b, off, cap, rfl, _⟩
    · exact ⟨_, _, _, rfl⟩
    · exact ⟨_, _, _, rfl⟩
  have hn : n = ps.length ∧ (a = none ∨ ∃ b off, a = some ⟨b, off, none⟩) ∨ True := .inr trivial
  clear hn
  have hB := below_new hb
  have cx1 : w1.cell? ⟨w.heap.size, 0, none⟩ = some (.string t) := by
    rw [hb.cell (p := ⟨w.heap.size, 0, none⟩) (by simp), Lib.cell_of_heap (heap_alloc_new w _)]; rfl
  have cx := cell_alloc (.cells #[.slice a n c] 67) cx1
  have ca : (w1.alloc (.cells #[.slice a n c] 67)).cell? ⟨w1.heap.size, 0, none⟩ = some (.slice a n c) := by rw [Lib.cell_of_heap (heap_alloc_new w1 _)]; rfl
  have hwl : w.heap.size < w1.heap.size := by have := hb.size; simp at this; omega
  have eg : ∀ args w, (callFunc 42 args).run Try.prog w = .ok (.enter 42 args) w := enters_of Try.func42 (by kernel_rfl) rfl
  have hpn : n = ps.length := by
    rcases hv with ⟨a', cap, h, rfl⟩ | ⟨b, off, cap, h, _⟩
    · simp only [Value.slice.injEq] at h; simp [h.2.1]
    · simp only [Value.slice.injEq] at h; exact h.2.1
  subst hpn
  have hcl : ∀ (m : Nat) (os : Array Obj) (i : Nat), i < ps.length → Calls Try.prog 42 (#[.int .i64 i] ++ #[.pointer (some ⟨w1.heap.size, 0, none⟩), .pointer (some ⟨w.heap.size, 0, none⟩)]) (Go.Sort.grow ((w1.alloc (.cells #[.slice a ps.length c] 67)).drewN m) os) fun e w' => e = .returned (.bool (behind ps (L t) i)) ∧ ∃ q os', w' = Go.Sort.grow ((Go.Sort.grow ((w1.alloc (.cells #[.slice a ps.length c] 67)).drewN m) os).drewN q) os' := by
    intro m os i hi
    rcases hv with ⟨a', cap, h, h0⟩ | ⟨b, off, cap, h, hcap, hblt, hcell⟩
    · subst h0; simp at hi
    · simp only [Value.slice.injEq] at h
      obtain ⟨rfl, _, rfl⟩ := h
      have hc := cell_alloc (.cells #[.slice (some ⟨b, off, none⟩) ps.length c] 67) (hcell i hi).1
      refine (from_closure w1.heap.size w.heap.size b off c ps.length (B ps[i].1) t i _ hi (by omega) (cell_grown (by simp) ca m os) (cell_grown (by simp; omega) cx m os) (cell_grown (by simp; omega) hc m os)).mono ?_
      rintro e w' ⟨rfl, q, hq⟩
      refine ⟨?_, q, #[], by rw [hq, Go.Sort.grow_empty]⟩
      unfold behind leB
      rw [toList_B, toList_L, List.getD_eq_getElem?_getD, List.getElem?_eq_getElem hi]
      rfl
  have hS := Any.sort_Search lays16 42 #[.pointer (some ⟨w1.heap.size, 0, none⟩), .pointer (some ⟨w.heap.size, 0, none⟩)] ps.length (behind ps (L t)) (w1.alloc (.cells #[.slice a ps.length c] 67)) eg (by omega) hcl Hm.out
  have HS := Lib.hid hS
  have Hv := Lib.hid hv
  have Hb := Lib.hid hB
  clear hv hb hB hcl hS eg cx1 cx
  go_wp2_with fail
  refine HS.out.mono ?_
  rintro e w2 ⟨rfl, q, os, rfl⟩
  have hb2 := below_grown_sl _ _ q os (Nat.le_refl (w1.alloc (.cells #[.slice a ps.length c] 67)).heap.size)
  have hcnt : cntNot ps (L t) ≤ ps.length := by
    unfold cntNot
    have := List.countP_le_length (p := fun i => !behind ps (L t) i) (l := List.range ps.length)
    simpa using this
  have ca2 := cell_call hb2 ca
  have Hb3 := Lib.hid (step_call (step_new Hb.out (.cells #[.slice a ps.length c] 67)) hb2)
  have Hv2 := Lib.hid (Hv.out.below (below_new hb2))
  rw [show List.countP (fun i => !behind ps (L t) i) (List.range ps.length) = cntNot ps (L t) from rfl]
  clear hb2 ca
  generalize Go.Sort.grow ((w1.alloc (.cells #[.slice a ps.length c] 67)).drewN q) os = W2 at *
  generalize hcntv : cntNot ps (L t) = cnt at *
  have hs1 : IntKind.i64.wrap ((cnt : Int) - 1) = (cnt : Int) - 1 := IntWalk.i64_in _ (by omega)
  have hmax : max (0 : Int) ((cnt : Int) - 1) = ((cnt - 1 : Nat) : Int) := by omega
  have hle : cnt - 1 ≤ ps.length := by omega
  generalize hk : cnt - 1 = k at *
  have Hk := Lib.hid hk
  have Hcnt : Hid (cntNot ps (L t) - 1 = k) := Lib.hid (by rw [← hk, ← hcntv])
  clear hk hcntv
  go_wp2
  all_goals
    go_ret
    refine ⟨Hb3.out, _, rfl, ?_⟩
    rw [Hcnt.out]
    first
      | exact parts_drop Hv2.out k (by omega)
      | (have hl := parts_cap Hv2.out
         refine .inl ⟨_, _, (by show Value.slice a (ps.length - k) 0 = _; rw [show ps.length - k = 0 by omega]), List.drop_of_length_le (by omega)⟩)
end Go.Proofs.Ytefnddhondbjbaa
