/- The law's 'as' of chapter 13: a list as the reference has it, or refused. Conditions: lengths fit an int. -/
import Derived.Test.YtefnddhondbjbaaDictHelp
namespace Go.Proofs.Ytefnddhondbjbaa
open Go.RowKit Go.Wir Go.Dic

def sumV (l : List Ent) : Nat := (l.map (fun e => e.2.length)).sum
theorem sumV_append (a b : List Ent) : sumV (a ++ b) = sumV a + sumV b := by simp [sumV]
theorem sumV_one (e : Ent) : sumV [e] = e.2.length := by simp [sumV]
def okE (e : Ent) : Bool := decide (e.1.length ≤ 100) && decide (e.2.length ≤ 21000)
def asOk (es : List Ent) : Bool := decide (es.length ≤ 300) && es.all okE && decide (sumV es ≤ 60000)
def AsPost (es : List Ent) (e : Ending) (w' : World) : Prop := if asOk es then ∃ v, e = .returned (.tuple #[v, .bool true]) ∧ Ents w' v es else e = .returned (.tuple #[.slice none 0 0, .bool false])
def AsRel (es : List Ent) (k : Nat) : Prop := (es.take k).all okE = true ∧ sumV (es.take k) ≤ 60000
theorem AsRel.next {es : List Ent} {k : Nat} (h : AsRel es k) (hk : k < es.length) (h1 : okE es[k] = true) (h2 : sumV (es.take k) + es[k].2.length ≤ 60000) : AsRel es (k + 1) := by
  unfold AsRel at *
  rw [List.take_succ_eq_append_getElem hk, List.all_append, sumV_append, sumV_one, h.1]
  exact ⟨by simp [h1], h2⟩
theorem AsRel.bad1 {es : List Ent} {k : Nat} (hk : k < es.length) (h1 : okE es[k] = false) : asOk es = false := by
  unfold asOk
  have : es.all okE = false := by
    rw [List.all_eq_false]
    exact ⟨es[k], List.getElem_mem hk, by rw [h1]; simp⟩
  rw [this]; simp
theorem AsRel.bad2 {es : List Ent} {k : Nat} (hk : k < es.length) (h2 : ¬ sumV (es.take k) + es[k].2.length ≤ 60000) : asOk es = false := by
  unfold asOk
  have : ¬ sumV es ≤ 60000 := by
    rw [← List.take_append_drop (k + 1) es, List.take_succ_eq_append_getElem hk, sumV_append, sumV_append, sumV_one]
    omega
  rw [decide_eq_false this]; simp
theorem AsRel.good {es : List Ent} (h : AsRel es es.length) (hl : es.length ≤ 300) : asOk es = true := by
  unfold AsRel at h
  rw [List.take_length] at h
  unfold asOk
  rw [h.1, decide_eq_true hl, decide_eq_true h.2]; rfl
theorem entCells_take (es : List Ent) (k : Nat) (h : k < es.length) : entCells (es.take (k + 1)) = entCells (es.take k) ++ [.string (B es[k].1), .string (B es[k].2)] := by
  rw [List.take_succ_eq_append_getElem h, entCells_append]; simp [entCells]
theorem ent_news (w : World) (b : Nat) (hb : b = w.heap.size) (x y : Value) (t : TypeId) : ∀ (j : Nat) u, [x, y][j]? = some u → (w.alloc (.cells #[x, y] t)).cell? ((⟨b, 0, none⟩ : Addr).add j) = some u := cell2_new w b hb x y t

set_option maxRecDepth 100000 in
set_option maxHeartbeats 1600000 in
theorem law_as_row (es : List Ent) (b off cap : Nat) (hn : es.length ≤ 300) (hz : ∀ e ∈ es, e.1.length ≤ 9223372036854775807 ∧ e.2.length ≤ 9223372036854775807) (w : World) (hb : b < w.heap.size)
    (hcell : ∀ i (h : i < es.length), w.cell? ⟨b, off + i * 2, none⟩ = some (.string (B es[i].1)) ∧ w.cell? ⟨b, off + i * 2 + 1, none⟩ = some (.string (B es[i].2))) :
    Calls Try.prog 10 #[.slice (some ⟨b, off, none⟩) es.length cap] w fun e w' => Below w.heap.size w w' ∧ AsPost es e w' := by
  obtain ⟨i0, hi, hz0, hz1, hz2⟩ := info_parts Try.info_entR
  have Hcell := Lib.hid hcell
  have Hz := Lib.hid hz
  clear hcell hz
  go_enter Try.func10, Try.ntmps10
  go_wp2
  go_loopw [4, 5, 6] (fun l x i wr => ∃ k : Nat, k ≤ es.length ∧ i = .int .i64 k ∧ x = .int .i64 (sumV (es.take k) : Nat) ∧ AsRel es k ∧ wr.ownsRow w.heap.size 52 2 l k (entCells (es.take k)) ∧ Below w.heap.size w wr) (fun _ _ i _ => es.length - (intOf i).toNat)
  case atStart => exact ⟨0, by omega, rfl, rfl, by simp [AsRel, sumV], World.ownsRow_nil _ _ _ _, Below.refl _ _⟩
  case round =>
    obtain ⟨k, hk, rfl, rfl, has, hown, hbel⟩ := hrel
    by_cases hlt : k < es.length
    · obtain ⟨d1, d2⟩ := Hcell.out k hlt
      have d1 := cell_below hbel hb d1
      have d2 := cell_below hbel hb d2
      have hze := Hz.out es[k] (List.getElem_mem hlt)
      have hsum := has.2
      have Has := Lib.hid has
      have Hbel := Lib.hid hbel
      have hbz := hbel.size
      have Hown := Lib.hid hown
      have Hl := Lib.hid hown.lt
      clear has hbel hown
      have Hnext := Lib.hid (Has.out.next hlt)
      have Hb1 := Lib.hid (AsRel.bad1 (es := es) hlt)
      have Hb2 := Lib.hid (AsRel.bad2 (es := es) hlt)
      have Hct := Lib.hid (entCells_take es k hlt)
      have Hst : Hid (sumV (es.take (k + 1)) = sumV (es.take k) + es[k].2.length) := Lib.hid (by rw [List.take_succ_eq_append_getElem hlt, sumV_append, sumV_one])
      generalize es[k] = e at *
      obtain ⟨x, y⟩ := e
      simp only at d1 d2 hze Hnext Hb2 Hct Hst
      generalize sumV (es.take k) = sm at *
      have hx := size_B x
      have hy := size_B y
      have hk1 : (k : Int) < (es.length : Int) := by omega
      by_cases h1 : 100 < x.length
      · have hf := Hb1.out (by unfold okE; rw [decide_eq_false (by show ¬ x.length ≤ 100; omega)]; rfl)
        have Hf := Lib.hid hf
        clear hf
        go_wp2
        go_ret2
        exact ⟨Hbel.out, by unfold AsPost; rw [Hf.out]; rfl⟩
      by_cases h2 : 21000 < y.length
      · have hf := Hb1.out (by unfold okE; rw [decide_eq_false (p := y.length ≤ 21000) (by omega)]; simp)
        have Hf := Lib.hid hf
        clear hf
        go_wp2
        go_ret2
        exact ⟨Hbel.out, by unfold AsPost; rw [Hf.out]; rfl⟩
      have Hok : Hid (okE (x, y) = true) := Lib.hid (by unfold okE; rw [decide_eq_true (by show x.length ≤ 100; omega), decide_eq_true (by show y.length ≤ 21000; omega)]; rfl)
      by_cases h3 : 60000 < sm + y.length
      · have hf := Hb2.out (by omega)
        have Hf := Lib.hid hf
        clear hf
        go_wp2
        go_ret2
        exact ⟨Hbel.out, by unfold AsPost; rw [Hf.out]; rfl⟩
      have Hnx := Lib.hid (Hnext.out Hok.out (by omega))
      have ag : Value.ownBlock u4 ≠ some b := fun h => by have := (Hl.out _ h).1; omega
      have lb : b < wr.heap.size := by omega
      go_wp2
      go_region_held3 (fun w' => w'.cell? ⟨b, off + k * 2, none⟩ = some (.string (B x)) ∧ w'.cell? ⟨b, off + k * 2 + 1, none⟩ = some (.string (B y)))
        (first
          | go_keep
          | (go_split_ands
             refine ⟨?_, ?_⟩
             · (rw [hgrow.cell_far _ (by simp; omega) (Ne.symm ag)]; assumption)
             · (rw [hgrow.cell_far _ (by simp; omega) (Ne.symm ag)]; assumption)))
        ((refine step_append_lies _ (by rfl) _ _ _ (by rfl) w.heap.size 52 i0 _ 2 32 Try.underlying24 hi hz0 hz1 hz2 rfl (by omega) u4 k (entCells (es.take k)) (by rfl) ((Hown.out.alloc _).drew)
            ⟨wr.heap.size, 0, none⟩ 1 1 [.string (B x), .string (B y)] (by rfl) (by rfl) (World.news_of_block (cs := #[.string (B x), .string (B y)]) (t := 52) (fr := (0, 0)) (heap_alloc_new wr _)) (by simp [Value.oneCell'])
            (by omega) (by unfold maxLen; omega) (by omega) (by simp; omega) (wr.heap.size + 1) (by simp) ?_; intro gg cap w1 hown1 hgrow hat hlt1))
      have Hb6 : Hid (Below w.heap.size w w1) := Lib.hid ((step_new Hbel.out (.cells #[.string (B x), .string (B y)] 52)).drew.grown hgrow (by simp; omega) (fun k hk => (Hl.out k hk).1))
      have Hown1 := Lib.hid hown1
      clear hown1 hgrow hat
      go_wp2
      go_roundw
      case rel => exact ⟨k + 1, by omega, by go_num, by rw [Hst.out]; go_num, Hnx.out, by rw [Hct.out]; exact Hown1.out, Hb6.out⟩
      case measure => simp [intOf]; omega
    · obtain rfl : k = es.length := by omega
      have Hg := Lib.hid (has.good hn)
      rw [List.take_length] at hown
      have Hown := Lib.hid hown
      clear hown has
      go_wp2
      go_ret2
      exact ⟨hbel, by unfold AsPost; rw [Hg.out, if_pos rfl]; exact ⟨_, rfl, ents_of_ownT Hown.out⟩⟩
set_option maxRecDepth 100000 in
theorem law_as (v : Value) (es : List Ent) (hn : es.length ≤ 9223372036854775807) (hz : ∀ e ∈ es, e.1.length ≤ 9223372036854775807 ∧ e.2.length ≤ 9223372036854775807) (w : World) (h : Ents w v es) :
    Calls Try.prog 10 #[v] w fun e w' => Below w.heap.size w w' ∧ AsPost es e w' := by
  by_cases h0 : 0 < es.length
  · obtain ⟨b, off, cap, rfl, hb, hc⟩ := ents_row h h0
    by_cases h3 : es.length ≤ 300
    · exact law_as_row es b off cap h3 hz w hb hc
    · have hf : asOk es = false := by unfold asOk; rw [decide_eq_false h3]; rfl
      have Hf := Lib.hid hf
      clear hf hc hz h
      go_enter Try.func10, Try.ntmps10
      go_wp2
      go_ret2
      exact ⟨Below.refl _ _, by unfold AsPost; rw [Hf.out]; rfl⟩
  · obtain rfl : es = [] := List.eq_nil_of_length_eq_zero (by omega)
    obtain ⟨a1, c1, rfl⟩ := ents_nil h
    have Hf : Hid (asOk [] = true) := Lib.hid (by simp [asOk, sumV])
    clear h hz
    go_enter Try.func10, Try.ntmps10
    go_wp2
    go_loop [4, 6] (fun l i => l = .slice none 0 0 ∧ i = .int .i64 0) (fun _ _ => 0)
    case atStart => exact ⟨rfl, rfl⟩
    case round =>
      obtain ⟨rfl, rfl⟩ := hrel
      go_wp2
      go_ret2
      exact ⟨Below.refl _ _, by unfold AsPost; rw [Hf.out, if_pos rfl]; exact ⟨_, rfl, .inl ⟨none, 0, rfl, rfl⟩⟩⟩
end Go.Proofs.Ytefnddhondbjbaa
