/- Several strings.Builders side by side: what each writes touches its own blocks alone. Conditions: what a builder holds is at most 2^47 bytes. -/
import Derived.Test.YteemloillnfaeaaDoorBuilder
namespace Go.Proofs.YteemloillnfaeaaDoor
open Go.RowKit Go.Shelf

/-- At most the blocks A, of those that were there, have changed. -/
structure Chg (A : Nat → Prop) (w w' : World) : Prop where
  os : w'.os = w.os
  tape : w'.tape = w.tape
  output : w'.output = w.output
  size : w.heap.size ≤ w'.heap.size
  block : ∀ k, k < w.heap.size → ¬ A k → w'.heap[k]? = w.heap[k]?
theorem Chg.of_below {A : Nat → Prop} {w w' : World} (h : Below w.heap.size w w') : Chg A w w' := ⟨h.os, h.tape, h.output, h.size, fun k hk _ => h.block k hk⟩
theorem Chg.below {A : Nat → Prop} {w w' : World} {K : Nat} (h : Chg A w w') (hK : K ≤ w.heap.size) (hA : ∀ k, k < K → ¬ A k) : Below K w w' :=
  ⟨h.os, h.tape, h.output, h.size, fun k hk => h.block k (by omega) (hA k hk)⟩
/-- A builder in block b, its buffer in block o, holding the bytes l. -/
def Bld (w : World) (b : Nat) (o : Option Nat) (l : List UInt8) : Prop :=
  ∃ p v, w.heap[b]? = some (.cells #[p, v] 85 (0, 0)) ∧ (p = .pointer none ∨ p = .pointer (some ⟨b, 0, none⟩)) ∧ w.ownsRowF 0 5 1 v l.length (Lib.byteCells l) ∧ v.ownBlock = o ∧ o ≠ some b ∧ (l = [] → v = .slice none 0 0)
theorem Bld.lt {w : World} {b : Nat} {o : Option Nat} {l : List UInt8} (h : Bld w b o l) : b < w.heap.size ∧ ∀ g, o = some g → g < w.heap.size := by
  obtain ⟨p, v, hb, _, ho, rfl, _⟩ := h
  refine ⟨?_, fun g hg => (ho.lt g hg).2⟩
  rcases Nat.lt_or_ge b w.heap.size with h' | h'
  · exact h'
  · simp [Array.getElem?_eq_none h'] at hb
theorem Bld.new (w : World) : Bld (w.alloc (.cells #[.pointer none, .slice none 0 0] 85)) w.heap.size none [] :=
  ⟨_, _, heap_alloc_new w _, .inl rfl, World.ownsRowF_nil _ _ _ _, rfl, by simp, fun _ => rfl⟩
theorem Bld.keep {A : Nat → Prop} {w w' : World} {b : Nat} {o : Option Nat} {l : List UInt8} (h : Bld w b o l) (c : Chg A w w') (hA : ¬ A b) (ho : ∀ g, o = some g → ¬ A g) : Bld w' b o l := by
  obtain ⟨hlt, hol⟩ := h.lt
  obtain ⟨p, v, hb, hp, hw, rfl, hne, hnil⟩ := h
  refine ⟨p, v, (c.block b hlt hA).trans hb, hp, ⟨hw.1, ?_⟩, rfl, hne, hnil⟩
  rcases hw.2 with hn | ⟨g, cap, cur, fz, rfl, h1, h2, h3⟩
  · exact .inl hn
  · exact .inr ⟨g, cap, cur, fz, rfl, h1, (c.block g (hol g rfl) (ho g rfl)).trans h2, h3⟩

theorem copyCheck_bld (b : Nat) (o : Option Nat) (l : List UInt8) (w : World) (h : Bld w b o l) :
    Calls Tryd.prog 71 #[.pointer (some ⟨b, 0, none⟩)] w fun e w' => e = .returned (.tuple #[]) ∧ ∃ v, w'.heap[b]? = some (.cells #[.pointer (some ⟨b, 0, none⟩), v] 85 (0, 0)) ∧ w'.ownsRowF 0 5 1 v l.length (Lib.byteCells l) ∧ v.ownBlock = o ∧ o ≠ some b ∧ (l = [] → v = .slice none 0 0) ∧ Chg (fun k => k = b) w w' ∧ w'.heap.size = w.heap.size := by
  obtain ⟨hlt, _⟩ := h.lt
  obtain ⟨p, v, hb, hp, hw, ho, hne, hnil⟩ := h
  rcases hp with rfl | rfl
  · have h0 : w.cell? ⟨b, 0, none⟩ = some (.pointer none) := by rw [Lib.cell_of_heap hb]; rfl
    have hsh : w.shape? b = some (85, 2) := by simp [World.shape?, hb]
    have hfz := Lib.frozen_of_heap hb 0
    refine (Any.Builder_copyCheck_fresh lays240 bX72 b w h0 hsh hfz).mono ?_
    rintro e w' ⟨rfl, rfl⟩
    refine ⟨rfl, v, by simp [World.setCell, Array.getElem?_modify, hb], ?_, ho, hne, hnil, ⟨rfl, rfl, rfl, by simp [World.setCell], fun k _ hk => Below.heap_setCell _ _ _ _ hk⟩, by simp [World.setCell]⟩
    exact hw.kept (row := some b) ⟨rfl, rfl, rfl, by simp [World.setCell], fun k _ hk => Below.heap_setCell _ _ _ _ (fun e => hk (by simp [e]))⟩ (.inr (by rw [ho]; exact hne))
  · have h0 : w.cell? ⟨b, 0, none⟩ = some (.pointer (some ⟨b, 0, none⟩)) := by rw [Lib.cell_of_heap hb]; rfl
    refine (Any.Builder_copyCheck_used lays240 bX72 b w h0).mono ?_
    rintro e w' ⟨rfl, rfl⟩
    exact ⟨rfl, v, hb, hw, ho, hne, hnil, ⟨rfl, rfl, rfl, Nat.le_refl _, fun _ _ _ => rfl⟩, rfl⟩
theorem Tryd.bld_u8 : (Tryd.prog.info? 5).map (fun i => (i.zero, i.size, i.bytes)) = some (some (.int .u8 0), 1, 1) := by kernel_rfl

/-- An append of a text's bytes onto a row: the row stays where it is, or is a new block. -/
theorem run_append_str (w : World) (ty : TypeId) (v : Value) (n : Nat) (xs : List Value) (hown : w.ownsRowF 0 5 1 v n xs) (s : ByteArray) (hlen : n + s.size ≤ 140737488355328) :
    ∃ v' w', (Builtin.append_ #[37, 9] ty #[v, .string s]).run Tryd.prog w = .ok v' w' ∧ w'.ownsRowF 0 5 1 v' (n + s.size) (xs ++ Lib.strCells s) ∧ w.grownBy w' v.ownBlock ∧ (v' = .slice none 0 0 ↔ v = .slice none 0 0 ∧ s.size = 0) ∧ (v'.ownBlock = v.ownBlock ∨ ∃ g, v'.ownBlock = some g ∧ w.heap.size ≤ g) := by
  obtain ⟨i0, hi, hz0, hz1, hz2⟩ := info_parts Tryd.bld_u8
  have h63 : n + s.size ≤ maxLen := by unfold maxLen; omega
  obtain ⟨v', w', hr, h1, h2, h3⟩ := Lib.run_append_own_stringF (P := Tryd.prog) w 0 37 9 ty 5 i0 Tryd.underlying37 Tryd.underlying9 hi hz0 hz1 hz2 v n xs hown s h63 hlen (Nat.zero_le _)
  refine ⟨v', w', hr, h1, h2, h3, ?_⟩
  rcases hown.2 with ⟨rfl, rfl⟩ | ⟨g, cap, cur, fz, rfl, _, hg, hfz, hnc, hcm, hcs, htake⟩
  · obtain ⟨v2, w2, hr2, k1, _⟩ := Lib.run_append_own_stringF (P := Tryd.prog) w w.heap.size 37 9 ty 5 i0 Tryd.underlying37 Tryd.underlying9 hi hz0 hz1 hz2 (.slice none 0 0) 0 xs ⟨hown.1, .inl ⟨rfl, rfl⟩⟩ s h63 hlen (Nat.le_refl _)
    have e := hr.symm.trans hr2
    simp only [Result.ok.injEq] at e
    obtain ⟨rfl, rfl⟩ := e
    rcases k1.2 with ⟨rfl, _⟩ | ⟨g, cap, cur, fz, rfl, hb, _⟩
    · exact .inl rfl
    · exact .inr ⟨g, rfl, hb⟩
  · by_cases hroom : n + s.size ≤ cap
    · have hr2 := Lib.run_append_room_stringF (P := Tryd.prog) w 37 9 ty 5 i0 Tryd.underlying37 Tryd.underlying9 hi hz1 g n cap cur fz hg (by simpa using hfz) s hroom (by rw [hcs]; omega)
      have e := hr.symm.trans hr2
      simp only [Result.ok.injEq] at e
      exact .inl (by rw [e.1]; rfl)
    · have hr2 := Lib.run_append_grow_string (P := Tryd.prog) w 37 9 ty 5 i0 (.int .u8 0) Tryd.underlying37 Tryd.underlying9 hi hz0 ⟨g, 0, none⟩ n cap xs (by rw [hz1]; exact hown.1) (hown.cells (g := g) rfl) s (by omega) (by omega) (by rw [hz2]; exact growslice_fits (by omega) (by omega))
      have e := hr.symm.trans hr2
      simp only [Result.ok.injEq] at e
      exact .inr ⟨w.heap.size, by rw [e.1]; rfl, Nat.le_refl _⟩
theorem wpList_append_str {ops : Array Oper} {rest : List Oper} {o : Oper} {a : Act} {Q : Exit → Act → World → Prop} (w : World) (hgd : o.guard = none) (sl x : Operand)
    (ho : o.op = .call { callee := .builtin .append, args := #[sl, x], argTypes := #[37, 9] }) (v : Value) (n : Nat) (xs : List Value) (hs : a.eval sl = v) (hown : w.ownsRowF 0 5 1 v n xs) (s : ByteArray) (hx : a.eval x = .string s) (hlen : n + s.size ≤ 140737488355328)
    (h : ∀ v' w', w'.ownsRowF 0 5 1 v' (n + s.size) (xs ++ Lib.strCells s) → w.grownBy w' v.ownBlock → (v' = .slice none 0 0 ↔ v = .slice none 0 0 ∧ s.size = 0) → (v'.ownBlock = v.ownBlock ∨ ∃ g, v'.ownBlock = some g ∧ w.heap.size ≤ g) → wpList Tryd.prog ops Q rest (a.put o.dst v') w') : wpList Tryd.prog ops Q (o :: rest) a w := by
  refine wpList_plain hgd fun K hK => ?_
  obtain ⟨v', w', hr, h2, h3, h4, h5⟩ := run_append_str w o.type v n xs hown s hlen
  unfold Oper.wp execOp
  simp only [ho, resolve, invoke, builtin, Sem.run_bind, Sem.run_pure, Result.andThen_ok, List.map_toArray, List.map_cons, List.map_nil, hs, hx, hr]
  exact hK _ _ (h v' w' h2 h3 h4 h5)

set_option maxRecDepth 100000 in
set_option maxHeartbeats 400000 in
/-- WriteString: the builder holds the text besides; its own two blocks alone have changed. -/
theorem bld_write (b : Nat) (o : Option Nat) (l : List UInt8) (s : ByteArray) (w : World) (h : Bld w b o l) (hlen : l.length + s.size ≤ 140737488355328) :
    Calls Tryd.prog 44 #[.pointer (some ⟨b, 0, none⟩), .string s] w fun e w' => e = .returned (.tuple #[.int .i64 s.size, .nilIface]) ∧ ∃ o', Bld w' b o' (l ++ L s) ∧ (o' = o ∨ ∃ g, o' = some g ∧ w.heap.size ≤ g) ∧ Chg (fun k => k = b ∨ o = some k) w w' := by
  obtain ⟨hlt, _⟩ := h.lt
  go_enter Tryd.func44, Tryd.ntmps44
  go_wp2_with fail
  refine (copyCheck_bld b o l w h).mono ?_
  rintro e w1 ⟨rfl, v, hbk, hown, ho, hne, hnil, hc1, hs1⟩
  have c0 : w1.cell? ⟨b, 0, none⟩ = some (.pointer (some ⟨b, 0, none⟩)) := by rw [Lib.cell_of_heap hbk]; rfl
  have c1 : w1.cell? ⟨b, 1, none⟩ = some v := by rw [Lib.cell_of_heap hbk]; rfl
  have Hnil := Lib.hid hnil
  have Hne := Lib.hid hne
  have Ho := Lib.hid ho
  have Hs1 := Lib.hid hs1
  clear hnil hne ho hs1
  go_wp2_with (at_builtin; refine wpList_append_str _ rfl _ _ rfl _ _ _ rfl hown s rfl hlen ?_)
  intro v' w2 hown' hgrow hiff hwhere
  have Hwh := Lib.hid hwhere
  clear hwhere
  have hlt1 : b < w1.heap.size := by have := Hs1.out; omega
  have hb2 : w2.heap[b]? = some (.cells #[.pointer (some ⟨b, 0, none⟩), v] 85 (0, 0)) := by
    rw [hgrow.block b hlt1 (fun e => Hne.out (by rw [← Ho.out, e]))]
    exact hbk
  have d1 : w2.cell? ⟨b, 1, none⟩ = some v := by rw [Lib.cell_of_heap hb2]; rfl
  have f1 : w2.frozen? ⟨b, 1, none⟩ = false := Lib.frozen_of_heap hb2 1
  have Hown' := Lib.hid hown'
  have hiff2 := Lib.hid hiff
  clear hown hiff
  obtain ⟨ao, n', cap, rfl⟩ : ∃ ao n' cap, v' = .slice ao n' cap := by
    rcases hown'.2 with ⟨hv, _⟩ | ⟨g, cap, cur, fz, hv, _⟩
    · exact ⟨_, _, _, hv⟩
    · exact ⟨_, _, _, hv⟩
  clear hown'
  have hmixed := Lib.hid hgrow
  clear hgrow
  go_wp2
  go_ret2
  have hown3 := Hown'.out
  have hg := hmixed.out
  have hnb : (Value.slice ao n' cap).ownBlock ≠ some b := by
    intro e
    exact (Lib.ownBlock_neF hown3 hb2 (by decide)) e
  refine ⟨rfl, (Value.slice ao n' cap).ownBlock, ⟨_, _, by simp [World.setCell, Array.getElem?_modify, hb2], .inr rfl, ?_, rfl, hnb, ?_⟩, ?_, ?_⟩
  · have e : Lib.byteCells l ++ Lib.strCells s = Lib.byteCells (l ++ L s) := by rw [Lib.byteCells_append]; rfl
    have e2 : (l ++ L s).length = l.length + s.size := by rw [List.length_append, length_L]
    rw [e2, ← e]
    exact hown3.kept (row := some b) ⟨rfl, rfl, rfl, by simp [World.setCell], fun k _ hk => Below.heap_setCell _ _ _ _ (fun e => hk (by simp [e]))⟩ (.inr hnb)
  · intro hl
    have hl' := List.append_eq_nil_iff.1 hl
    have hs0 : s.size = 0 := by rw [← length_L, hl'.2]; rfl
    have hs1 : s = ByteArray.empty := by rw [← B_L s, hl'.2]; rfl
    exact hiff2.out.2 ⟨Hnil.out hl'.1, by first | exact hs0 | exact hs1⟩
  · rcases Hwh.out with hw | ⟨g, hw, hge⟩
    · exact .inl (hw.trans Ho.out)
    · exact .inr ⟨g, hw, by have := Hs1.out; omega⟩
  · refine ⟨?_, ?_, ?_, ?_, fun k hk hA => ?_⟩
    · exact hg.os.trans hc1.os
    · exact hg.tape.trans hc1.tape
    · exact hg.output.trans hc1.output
    · have h1 := hg.size; have h2 := hc1.size; simp [World.setCell]; omega
    · have hkb : k ≠ b := fun e => hA (.inl e)
      rw [Below.heap_setCell _ _ _ _ hkb, hg.block k (by have := hc1.size; omega) (fun e => hA (.inr (by rw [← Ho.out]; exact e.symm))), hc1.block k hk hkb]

theorem bld_len (b : Nat) (o : Option Nat) (l : List UInt8) (w : World) (h : Bld w b o l) (_ : l.length ≤ 9223372036854775807) :
    Calls Tryd.prog 51 #[.pointer (some ⟨b, 0, none⟩)] w fun e w' => e = .returned (.int .i64 l.length) ∧ w = w' := by
  obtain ⟨p, v, hb, hp, hw, ho, hne, hnil⟩ := h
  have c1 : w.cell? ⟨b, 1, none⟩ = some v := by rw [Lib.cell_of_heap hb]; rfl
  obtain ⟨ao, cap, rfl⟩ : ∃ ao cap, v = .slice ao l.length cap := by
    rcases hw.2 with ⟨hv, h0⟩ | ⟨g, cap, cur, fz, hv, _⟩
    · exact ⟨none, 0, by rw [hv, h0]⟩
    · exact ⟨_, _, hv⟩
  clear hp hw ho hne hnil
  go_enter Tryd.func51, Tryd.ntmps51
  go_wp2
  go_ret
  exact ⟨rfl, rfl⟩

set_option maxRecDepth 100000 in
set_option maxHeartbeats 1000000 in
/-- String: the bytes; of the blocks that were there only the buffer's has changed (its bytes are frozen). -/
theorem bld_string (b : Nat) (o : Option Nat) (l : List UInt8) (w : World) (h : Bld w b o l) :
    Calls Tryd.prog 47 #[.pointer (some ⟨b, 0, none⟩)] w fun e w' => e = .returned (.string (B l)) ∧ Chg (fun k => o = some k) w w' := by
  obtain ⟨p, v, hb, hp, hown, ho, hne, hnil⟩ := h
  by_cases h0 : l = []
  · have hv := hnil h0
    subst hv
    subst h0
    have hUS := fun (W : World) (q : Option Addr) => Lib.run_unsafeString_none (P := Tryd.prog) W 117 3 9 q
    have c1 : w.drew.cell? ⟨b, 1, none⟩ = some (.slice none 0 0) := by
      have : w.drew.heap[b]? = some (.cells #[p, .slice none 0 0] 85 (0, 0)) := hb
      rw [Lib.cell_of_heap this]; rfl
    have hSD : (Builtin.unsafeSliceData_ #[37] 117 #[.slice none 0 0]).run Tryd.prog w.drew = .ok (.pointer none) w.drew := rfl
    clear hp hown ho hne hnil
    go_enter Tryd.func47, Tryd.ntmps47
    go_wp2
    go_region
    all_goals (go_wp2; go_ret; exact ⟨rfl, rfl, rfl, rfl, Nat.le_refl _, fun _ _ _ => rfl⟩)
  · have hl0 : l.length ≠ 0 := by simpa using h0
    obtain ⟨g, cap, cur, fz, rfl, _, hg, hfz, hnc, hcm, hcs, htake⟩ : ∃ g cap cur fz, v = .slice (some ⟨g, 0, none⟩) l.length cap ∧ 0 ≤ g ∧ w.heap[g]? = some (.cells cur 5 fz) ∧ fz.2 ≤ l.length * 1 ∧ l.length ≤ cap ∧ cap ≤ maxLen ∧ cur.size = cap * 1 ∧ cur.toList.take (l.length * 1) = Lib.byteCells l := by
      rcases hown.2 with ⟨_, hz⟩ | ⟨g, cap, cur, fz, hv, r⟩
      · exact absurd hz hl0
      · exact ⟨g, cap, cur, fz, hv, r⟩
    have c1 : w.drew.cell? ⟨b, 1, none⟩ = some (.slice (some ⟨g, 0, none⟩) l.length cap) := by
      have : w.drew.heap[b]? = some (.cells #[p, .slice (some ⟨g, 0, none⟩) l.length cap] 85 (0, 0)) := hb
      rw [Lib.cell_of_heap this]; rfl
    have hSD : (Builtin.unsafeSliceData_ #[37] 117 #[.slice (some ⟨g, 0, none⟩) l.length cap]).run Tryd.prog w.drew = .ok (.pointer (some ⟨g, 0, none⟩)) w.drew :=
      Lib.run_unsafeSliceData_row _ _ _ _ _ _ (by omega)
    have hUS : (Builtin.unsafeString_ #[117, 3] 9 #[.pointer (some ⟨g, 0, none⟩), .int .i64 l.length]).run Tryd.prog w.drew = .ok (.string (B l)) (w.drew.freeze ⟨g, 0, none⟩ l.length) := by
      refine Lib.run_unsafeString_row w.drew 117 3 9 5 Tryd.underlying117 bExtra.cellsByte g cur.size (by have hg' : w.drew.heap[g]? = some (.cells cur 5 fz) := hg; simp [World.shape?, hg']) l h0 (by omega) (by unfold maxLen at hcm; omega) ?_
      intro j x hx
      exact hown.cells (g := g) rfl j (.int .u8 x.toNat) (by simp [Lib.byteCells, hx])
    have ho' : o = some g := by rw [← ho]; rfl
    subst ho'
    clear hp hown hne hnil ho
    go_enter Tryd.func47, Tryd.ntmps47
    go_wp2
    go_region
    all_goals
      go_wp2
      go_ret
      refine ⟨rfl, ?_⟩
      unfold World.freeze
      split
      · exact ⟨rfl, rfl, rfl, Nat.le_refl _, fun _ _ _ => rfl⟩
      · exact ⟨rfl, rfl, rfl, Nat.le_of_eq (Array.size_modify ..).symm, fun k _ hk => (Array.getElem?_modify ..).trans (if_neg (fun e => hk (congrArg some e)))⟩
end Go.Proofs.YteemloillnfaeaaDoor
