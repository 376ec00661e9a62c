/- dict.Right and the reference's: whether a list is right, as the plain function has it. Conditions: lengths fit an int. -/
import Derived.Test.YtefnddhondbjbaaBase
import Derived.Test.YtefnddhondbjbaaDictPlain
namespace Go.Proofs.Ytefnddhondbjbaa
open Go.RowKit Go.Wir Go.Dic

/-- A slice of entries (two texts each). -/
def Ents (w : World) (v : Value) (es : List Ent) : Prop :=
  (∃ a cap, v = .slice a 0 cap ∧ es = []) ∨ ∃ b off cap, v = .slice (some ⟨b, off, none⟩) es.length cap ∧ es.length ≤ cap ∧ b < w.heap.size ∧
    ∀ i (h : i < es.length), w.cell? ⟨b, off + i * 2, none⟩ = some (.string (B es[i].1)) ∧ w.cell? ⟨b, off + i * 2 + 1, none⟩ = some (.string (B es[i].2))

set_option maxRecDepth 100000 in
set_option maxHeartbeats 800000 in
theorem dict_Right_row (es : List Ent) (b off cap : Nat) (hn : es.length ≤ 9223372036854775807) (hz : ∀ e ∈ es, e.1.length ≤ 9223372036854775807 ∧ e.2.length ≤ 9223372036854775807) (w : World) (hb : b < w.heap.size)
    (hcell : ∀ i (h : i < es.length), w.cell? ⟨b, off + i * 2, none⟩ = some (.string (B es[i].1)) ∧ w.cell? ⟨b, off + i * 2 + 1, none⟩ = some (.string (B es[i].2))) :
    Calls Try.prog 13 #[.slice (some ⟨b, off, none⟩) es.length cap] w fun e w' => e = .returned (.bool (right es)) ∧ Below w.heap.size w w' := by
  have Hcell := Lib.hid hcell
  have Hz := Lib.hid hz
  clear hcell hz
  go_enter Try.func13, Try.ntmps13
  go_wp2
  go_loopw [3, 8] (fun last i wr => ∃ (k : Nat) (p : List UInt8), k ≤ es.length ∧ i = .int .i64 k ∧ last = .string (B p) ∧ rises [] es = rises p (es.drop k) ∧ Below w.heap.size w wr) (fun _ i _ => es.length - (intOf i).toNat)
  case atStart => exact ⟨0, [], by omega, rfl, rfl, rfl, Below.refl _ _⟩
  case round =>
    obtain ⟨k, p, hk, rfl, rfl, hr, hbel⟩ := hrel
    have Hr := Lib.hid hr
    clear hr
    by_cases hlt : k < es.length
    · obtain ⟨c1, c2⟩ := Hcell.out k hlt
      have c1 := cell_below hbel hb c1
      have c2 := cell_below hbel hb c2
      have Hd : Hid (es.drop k = es[k] :: es.drop (k + 1)) := Lib.hid (List.drop_eq_getElem_cons hlt)
      have hze := Hz.out es[k] (List.getElem_mem hlt)
      generalize es[k] = e at *
      obtain ⟨t, v⟩ := e
      simp only at c1 c2 hze
      have hst := size_B t
      have hsv := size_B v
      obtain ⟨hz1, hz2⟩ := hze
      have Hbel := Lib.hid hbel
      have hbz := hbel.size
      clear hbel
      by_cases hle : leB t p = true
      · have hf : Hid (right es = false) := Lib.hid (by unfold right; rw [Hr.out, Hd.out]; simp [rises, hle])
        unfold leB at hle
        rw [← toList_B t, ← toList_B p] at hle
        cases hl : Op.bytesLess (B t).toList (B p).toList with
        | true =>
          clear hle
          go_wp2
          go_ret
          exact ⟨by rw [hf.out]; rfl, step_new Hbel.out _⟩
        | false =>
          rw [hl, Bool.false_or] at hle
          have hle' := beq_iff_eq.1 hle
          clear hle'
          go_wp2
          go_ret
          exact ⟨by rw [hf.out]; rfl, step_new Hbel.out _⟩
      · have hl : Op.bytesLess (B t).toList (B p).toList = false := by rw [toList_B, toList_B]; unfold leB at hle; simp at hle; exact hle.1
        have he : ((B t).toList == (B p).toList) = false := by rw [toList_B, toList_B]; unfold leB at hle; simp at hle; simpa using hle.2
        have Hle := Lib.hid hle
        clear hle
        by_cases h40 : 40 < t.length
        · have hf : Hid (right es = false) := Lib.hid (by unfold right; rw [Hr.out, Hd.out]; simp [rises, Hle.out, h40])
          go_wp2
          go_ret
          exact ⟨by rw [hf.out]; rfl, step_new Hbel.out _⟩
        · by_cases h4 : 4194304 < v.length
          · have hf : Hid (right es = false) := Lib.hid (by unfold right; rw [Hr.out, Hd.out]; simp [rises, Hle.out, h40, h4])
            go_wp2
            go_ret
            exact ⟨by rw [hf.out]; rfl, step_new Hbel.out _⟩
          · go_wp2
            go_roundw
            case rel => exact ⟨k + 1, t, by omega, by go_num, rfl, by rw [Hr.out, Hd.out]; simp [rises, Hle.out, h40, h4], step_new Hbel.out _⟩
            case measure => simp [intOf]; omega
    · obtain rfl : k = es.length := by omega
      have ht : Hid (right es = decide (es.length ≤ 1048576)) := Lib.hid (by unfold right; rw [Hr.out, List.drop_length]; simp [rises])
      go_wp2
      go_ret
      exact ⟨by rw [ht.out]; simp; omega, hbel⟩

theorem dict_Right_nil (a : Option Addr) (cap : Nat) (w : World) :
    Calls Try.prog 13 #[.slice a 0 cap] w fun e w' => e = .returned (.bool true) ∧ Below w.heap.size w w' := by
  go_enter Try.func13, Try.ntmps13
  go_wp2
  go_loop [8] (fun i => i = .int .i64 0) (fun _ => 0)
  case atStart => rfl
  case round =>
    subst hrel
    go_wp2
    go_ret
    exact ⟨rfl, Below.refl _ _⟩
theorem dict_Right (v : Value) (es : List Ent) (w : World) (h : Ents w v es) (hn : es.length ≤ 9223372036854775807) (hz : ∀ e ∈ es, e.1.length ≤ 9223372036854775807 ∧ e.2.length ≤ 9223372036854775807) :
    Calls Try.prog 13 #[v] w fun e w' => e = .returned (.bool (right es)) ∧ Below w.heap.size w w' := by
  rcases h with ⟨a, cap, rfl, rfl⟩ | ⟨b, off, cap, rfl, _, hb, hc⟩
  · exact dict_Right_nil a cap w
  · exact dict_Right_row es b off cap hn hz w hb hc
end Go.Proofs.Ytefnddhondbjbaa
