/- dict.Get. Conditions: the index is right, the block is right. -/
import Derived.Test.YtefnddhondbjbaaDictFrom
import Derived.Test.YtefnddhondbjbaaDictParse
namespace Go.Proofs.Ytefnddhondbjbaa
open Go.RowKit Go.Wir Go.Dic

/-- The value of a term among entries. -/
def findE (g : List Ent) (t : List UInt8) : Option (List UInt8) := (g.find? fun e => e.1 == t).map Prod.snd
def getV : Option (List UInt8) → Value
  | some v => .tuple #[.string (B v), .bool true]
  | none => .tuple #[.string ⟨#[]⟩, .bool false]

set_option maxRecDepth 100000 in
set_option maxHeartbeats 1000000 in
theorem dict_Get_some (s t : ByteArray) (hs : s.size ≤ 549755813888) (ps : List Part) (rest : List UInt8) (hp : partsL (L s) = some (ps, rest)) (hlen : ps.length ≤ 1048576) (hmono : ∀ a b, a ≤ b → b < ps.length → behind ps (L t) a = true → behind ps (L t) b = true)
    (p : Part) (qs : List Part) (hd : ps.drop (cntNot ps (L t) - 1) = p :: qs) (hp1 : p.2.1.length ≤ 549755813888) (hp2 : p.2.2 ≤ 1048576) (g : List Ent) (r : List UInt8) (hg : entsL p.2.2 [] p.2.1 = some (g, r)) (hgl : g.length ≤ 1048576) (w : World) :
    Calls Try.prog 19 #[.string s, .string t] w fun e w' => e = .returned (getV (findE g (L t))) ∧ Below w.heap.size w w' := by
  have hfd : ∀ (w : World) (a : Option Addr) (n c : Nat) (t : ByteArray) (b : Bool), (Instr.field 72 (.agg #[.slice a n c, .string t, .bool b]) 0).run Try.prog w = .ok (.slice a n c) w := fun _ _ _ _ _ _ => by kernel_rfl
  have Hfr := Lib.hid (dict_from s t hs ps rest hp hlen hmono)
  rw [hd] at Hfr
  have Hen := Lib.hid (part_entries (B p.1) (B p.2.1) p.2.2 hp2 (by rw [size_B]; exact hp1))
  rw [L_B, hg] at Hen
  clear hp hmono hd hg
  go_enter Try.func19, Try.ntmps19
  go_wp2_with fail
  refine (Hfr.out _).mono ?_
  rintro e w1 ⟨hb1, v, rfl, hv⟩
  rcases hv with ⟨a, cap, rfl, h0⟩ | ⟨b, off, cap, rfl, hcap, hblt, hcell⟩
  · cases h0
  have hc := hcell 0 (by simp)
  obtain ⟨c0, c1, c2⟩ := hc
  simp only [List.getElem_cons_zero, Nat.zero_mul, Nat.add_zero] at c0 c1 c2
  have Hb1 := Lib.hid hb1
  clear hcell hb1
  rw [List.length_cons] at *
  go_wp2_with fail
  refine (Hen.out _).mono ?_
  rintro e w2 ⟨hb2, v, rfl, hv, _⟩
  obtain ⟨a, c, rfl⟩ : ∃ a c, v = .slice a g.length c := by
    rcases hv with ⟨a, cap, rfl, h⟩ | ⟨b, off, cap, rfl, _⟩
    · simp only at h; exact ⟨a, cap, by rw [h]; rfl⟩
    · exact ⟨_, _, rfl⟩
  have Hv := Lib.hid hv
  have Hb2 := Lib.hid (step_call Hb1.out hb2)
  clear hv hb2 c0 c1 c2
  go_wp2
  go_loopw [21] (fun i wr => ∃ (k : Nat), k ≤ g.length ∧ i = .int .i64 k ∧ findE g (L t) = findE (g.drop k) (L t) ∧ Below w2.heap.size w2 wr) (fun i _ => g.length - (intOf i).toNat)
  case atStart => exact ⟨0, by omega, rfl, by rw [List.drop_zero], Below.refl _ _⟩
  case round =>
    obtain ⟨k, hk, rfl, hf, hbel⟩ := hrel
    have Hf := Lib.hid hf
    have Hbel := Lib.hid hbel
    have Hb3 := Lib.hid (step_call Hb2.out hbel)
    clear hf
    by_cases hlt : k < g.length
    · rcases Hv.out with ⟨a', cap', h, h0⟩ | ⟨b2, off2, cap2, h, _, hb2, hcell⟩
      · rw [h0] at hlt; simp at hlt
      simp only [Value.slice.injEq] at h
      obtain ⟨rfl, _, rfl⟩ := h
      obtain ⟨c1, c2⟩ := hcell k hlt
      have c1 := cell_below hbel hb2 c1
      have c2 := cell_below hbel hb2 c2
      have Hd : Hid (g.drop k = g[k] :: g.drop (k + 1)) := Lib.hid (List.drop_eq_getElem_cons hlt)
      clear hcell hbel
      generalize g[k] = e at *
      obtain ⟨x, y⟩ := e
      simp only at c1 c2
      by_cases he : x = L t
      · have he' : ((B x).toList == t.toList) = true := by rw [toList_B, toList_L, he]; simp
        have Hr : Hid (findE g (L t) = some y) := Lib.hid (by rw [Hf.out, Hd.out]; simp [findE, he])
        clear he
        go_wp2
        go_ret2
        exact ⟨by rw [Hr.out]; rfl, step_new Hb3.out _⟩
      · have he' : ((B x).toList == t.toList) = false := by rw [toList_B, toList_L]; simpa using he
        have Hr : Hid (findE g (L t) = findE (g.drop (k + 1)) (L t)) := Lib.hid (by rw [Hf.out, Hd.out]; simp [findE, he])
        clear he
        go_wp2
        go_roundw
        case rel => exact ⟨k + 1, by omega, by go_num, Hr.out, step_new Hbel.out _⟩
        case measure => simp [intOf]; omega
    · obtain rfl : k = g.length := by omega
      have Hr : Hid (findE g (L t) = none) := Lib.hid (by rw [Hf.out, List.drop_length]; rfl)
      go_wp2
      go_ret2
      exact ⟨by rw [Hr.out]; rfl, Hb3.out⟩
theorem parts_nil {w : World} {v : Value} (h : Parts w v []) : ∃ a c, v = .slice a 0 c := by
  rcases h with ⟨a, cap, rfl, _⟩ | ⟨b, off, cap, rfl, _⟩
  · exact ⟨_, _, rfl⟩
  · exact ⟨_, _, rfl⟩
set_option maxRecDepth 100000 in
theorem dict_Get_none (s t : ByteArray) (hs : s.size ≤ 549755813888) (ps : List Part) (rest : List UInt8) (hp : partsL (L s) = some (ps, rest)) (hlen : ps.length ≤ 1048576) (hmono : ∀ a b, a ≤ b → b < ps.length → behind ps (L t) a = true → behind ps (L t) b = true)
    (hd : ps.drop (cntNot ps (L t) - 1) = []) (w : World) :
    Calls Try.prog 19 #[.string s, .string t] w fun e w' => e = .returned (getV none) ∧ Below w.heap.size w w' := by
  have Hfr := Lib.hid (dict_from s t hs ps rest hp hlen hmono)
  rw [hd] at Hfr
  clear hp hmono hd
  go_enter Try.func19, Try.ntmps19
  go_wp2_with fail
  refine (Hfr.out _).mono ?_
  rintro e w1 ⟨hb1, v, rfl, hv⟩
  obtain ⟨a, c, rfl⟩ := parts_nil hv
  clear hv
  go_wp2
  go_ret2
  exact ⟨rfl, hb1⟩
end Go.Proofs.Ytefnddhondbjbaa
