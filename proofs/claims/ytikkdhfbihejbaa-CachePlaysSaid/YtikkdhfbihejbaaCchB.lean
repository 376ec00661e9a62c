/- Chapter 6: the cache's blocks in order: the sort by their stamps. Conditions: the numbers are small. -/
import Derived.Test.YtikkdhfbihejbaaCchA
import Derived.Test.YtikkdhfbihejbaaCchLay
import Derived.Lib.OwnBridge
import Derived.RegionTactic
import Derived.ChangeAlike
namespace Go.Proofs.Ytikkdhfbihejbaa
open Go.RowKit Go.Cch Go.Shelf Go.Sort Go.Maps

theorem look_at {w : World} {src : Value} {cb mb clk : Nat} {c : Ch} {M : List Ent} (h : CAt w src cb mb clk c M) {e : Ent} (he : e ∈ M) :
    (Instr.lookup 64 (.map (some mb)) (.int .i64 e.x.pos) false).run Try.prog w = .ok (.pointer (some ⟨e.g, 0, none⟩)) w := by
  have := h.map.look Try.underlying3 Try.underlying64 (e := 67) (by kernel_rfl) (h.keys e he)
  have hf : entF M e.x.pos = some e.g := by unfold entF; rw [h.at he]; rfl
  rw [hf] at this
  exact this
section
attribute [local go_sem] Oper.semAt_some
set_option maxRecDepth 100000 in
set_option maxHeartbeats 1600000 in
theorem blocks1 (W : World) (bx cb mb clk : Nat) (src : Value) (c : Ch) (M : List Ent) (h : CAt W src cb mb clk c M) (hclk : clk < 1000000) (hbx : W.cell? ⟨bx, 0, none⟩ = some (.pointer (some ⟨cb, 0, none⟩))) (a b : Ent) (ha : a ∈ M) (hb : b ∈ M) :
    Calls Try.prog 34 #[.int .i64 a.x.pos, .int .i64 b.x.pos, .pointer (some ⟨bx, 0, none⟩)] W fun e w' => e = .returned (.int .i64 ((b.u : Int) - (a.u : Int))) ∧ ∃ q, w' = W.drewN q := by
  obtain ⟨-, -, -, -, c4⟩ := cells_of h.blk
  obtain ⟨-, -, -, a3⟩ := cells_ent (h.ents a ha)
  obtain ⟨-, -, -, b3⟩ := cells_ent (h.ents b hb)
  have la := look_at (h.below (below_drew W)) ha
  have lb := look_at (h.below (below_drew W)) hb
  have ua := h.falls.2 a ha
  have ub := h.falls.2 b hb
  clear h
  go_enter Try.func34, Try.ntmps34
  go_wp2
  go_region
  go_wp2
  go_ret
  exact ⟨rfl, 1, rfl⟩
end
/-- What is kept, for the library's sort: an entry's place among them. -/
abbrev KE (M : List Ent) := {e : Ent // e ∈ M}
def encKE {M : List Ent} (x : KE M) : Value := .int .i64 x.1.x.pos
def cfKE {M : List Ent} (x y : KE M) : Int := (y.1.u : Int) - (x.1.u : Int)
theorem ltKE {M : List Ent} (x y : KE M) : ltOf cfKE x y = decide (y.1.u < x.1.u) := by
  unfold ltOf cfKE
  rw [Bool.eq_iff_iff, decide_eq_true_eq, decide_eq_true_eq]; omega
theorem swoKE (M : List Ent) : SWO (ltOf (cfKE (M := M))) where
  irrefl x := by rw [ltKE]; simp
  trans x y z h1 h2 := by rw [ltKE] at *; simp at *; omega
  ntrans x y z h1 h2 := by rw [ltKE] at *; simp at *; omega
theorem grownBy_sorted1 {α : Type} [Inhabited α] {w : World} {g n : Nat} (enc : α → Value) (d : Array α) (os : Array Obj) : w.grownBy (sortWorld enc w g 0 n d os) (some g) := by
  unfold sortWorld
  refine ⟨rfl, rfl, rfl, by simp, fun k hk hne => ?_⟩
  rw [heap_grow_old _ _ (by simpa using hk)]
  have : g ≠ k := fun e => hne (by rw [e])
  simp [putRow, mapBlock, Sort.ahead, Array.getElem?_modify, this]
theorem lift_ke {M : List Ent} {ss : List Int} (hs : ∀ i ∈ ss, i ∈ (entL M).map Kd.pos) : ∃ d : List (KE M), d.map (fun x => x.1.x.pos) = ss := by
  induction ss with
  | nil => exact ⟨[], rfl⟩
  | cons i ss ih =>
    obtain ⟨d, hd⟩ := ih fun y hy => hs y (by simp [hy])
    obtain ⟨x, hx, rfl⟩ := List.mem_map.1 (hs i (by simp))
    obtain ⟨e, he, rfl⟩ := List.mem_map.1 hx
    exact ⟨⟨e, he⟩ :: d, by simp [hd]⟩
theorem blocks_sort {w : World} {base : Nat} {v : Value} {ss : List Int} {bx cb mb clk : Nat} {src : Value} {c : Ch} {M : List Ent} (h : CAt w src cb mb clk c M) (hclk : clk < 1000000) (hbx : w.cell? ⟨bx, 0, none⟩ = some (.pointer (some ⟨cb, 0, none⟩)))
    (hr : w.ownsRow base 3 1 v ss.length (ss.map encZ)) (hp : ss.Perm ((entL M).map Kd.pos)) (h0 : ss ≠ []) (hl : ss.length < 4611686018427387904) (hB : bx < base) (hC : ∀ k, ownC cb mb M k → k < base) (K : Nat) (hK : K ≤ base) (hw : K ≤ w.heap.size) :
    Calls Try.prog 46 #[v, .func (.func 34) #[] #[.pointer (some ⟨bx, 0, none⟩)]] w fun e w' => e = .returned (.tuple #[]) ∧ Below K w w' ∧ Row w' v ((c.l.map Kd.pos).map (Value.int .i64)) := by
  rcases hr.2 with ⟨-, h1⟩ | ⟨g, cap, cur, rfl, hg, hh, h1, h2, h3, h4⟩
  · exact absurd (List.eq_nil_of_length_eq_zero h1) h0
  have hgl := (hr.lt g rfl).2
  obtain ⟨d, hd⟩ := lift_ke (fun i hi => hp.subset hi)
  have hdl : d.length = ss.length := by rw [← hd, List.length_map]
  have hd0 : d ≠ [] := fun e => h0 (by rw [← hd, e]; rfl)
  haveI : Inhabited (KE M) := ⟨d.head hd0⟩
  have hH : Holds encKE w g 0 d.toArray := by
    intro j hj
    have hj' : j < d.length := by simpa using hj
    obtain ⟨k1, k2⟩ := holds_of_block_i hh (by rw [← h4, Nat.mul_one]) j (by simpa using (show j < ss.length by omega))
    refine ⟨k1.trans ?_, k2⟩
    rw [getElem!_pos _ j (by simpa using (show j < ss.length by omega)), getElem!_pos _ j (by simpa using hj')]
    simp only [List.getElem_toArray, encKE, encZ]
    have : (d.map (fun x => x.1.x.pos))[j]'(by simpa using hj') = ss[j]'(by omega) := by simp only [hd]
    rw [← this]; simp
  have hc := Any.slices_SortFunc srfren_6 encKE (fun _ => rfl) cfKE (swoKE M) 34 #[.pointer (some ⟨bx, 0, none⟩)] g 0 cap d.toArray w
    (enters_of Try.func34 (by kernel_rfl) rfl) ?_ hH hgl (by simp; omega)
  · rw [List.size_toArray, hdl] at hc
    refine hc.mono ?_
    rintro e w' ⟨rfl, d', n, os, hp', hsrt, rfl⟩
    have hsz : d'.size = d.length := by have := hp'.1; simpa using this
    refine ⟨rfl, (Below.refl K w).grown (grownBy_sorted1 _ _ _) hw (fun j hj => by cases hj; omega), ?_⟩
    have hperm : (d'.toList.map fun x => x.1.x.pos).Perm ((entL M).map Kd.pos) := by
      have := hp'.2.2
      rw [← hd] at hp
      refine List.Perm.trans (List.Perm.map _ ?_) hp
      have e1 : d'.extract 0 ss.length = d' := by rw [Array.extract_eq_self_of_le (by omega)]
      have e2 : d.toArray.extract 0 ss.length = d.toArray := by rw [Array.extract_eq_self_of_le (by simp; omega)]
      rw [e1, e2] at this
      exact this
    have hord := falls_order h.falls h.nodup hperm (fun i => match entAt M i with | some e => e.u | none => 0) (fun e he => by simp only [h.at he]) (by
      rw [List.pairwise_map, List.pairwise_iff_getElem]
      intro i j hi hj hij
      have hi' : i < d'.size := by simpa using hi
      have hj' : j < d'.size := by simpa using hj
      have := hsrt i j (Nat.zero_le _) hij (by omega)
      rw [ltKE, getElem!_pos d' i hi', getElem!_pos d' j hj'] at this
      simp only [decide_eq_false_iff_not] at this
      simp only [Array.getElem_toList, h.at (d'[i]).2, h.at (d'[j]).2]
      exact this)
    have hP : Holds encKE (sortWorld encKE w g 0 n d' os) g 0 d' := SW.holds ⟨n, os, rfl⟩ hgl hH (by simpa using hsz)
    rw [← h.list, ← hord]
    refine .inr ⟨g, 0, cap, ?_, ?_, ?_, fun i hi => ?_⟩
    · simp only [List.length_map, Array.length_toList, hsz, hdl]
    · simp only [List.length_map, Array.length_toList, hsz, hdl]; exact h1
    · exact Nat.lt_of_lt_of_le hgl (grownBy_sorted1 _ _ _).size
    · have hi' : i < d'.size := by simpa using hi
      rw [(hP i hi').1, getElem!_pos d' i hi']
      simp [encKE]
  · intro m os dk hdk x y
    have hchg : Chg (fun k => k = g) w (sortWorld encKE w g 0 m dk os) := (Chg.refl _ w).grown (grownBy_sorted1 _ _ _) (fun k _ e => by cases e; rfl)
    have hbx' := hchg.cell (b := bx) (by omega) hbx
    exact (blocks1 _ bx cb mb clk src c M (h.keep hchg (fun k hk e => by have := hC k hk; omega)) hclk hbx' x.1 y.1 x.2 y.2).mono fun e w' ⟨h1, q, h2⟩ => ⟨h1, q, #[], by rw [h2, grow_empty]⟩
theorem insertion_none (w : World) (fv : Value) : Calls Try.prog 58 #[.slice none 0 0, .int .i64 0, .int .i64 0, fv] w fun e w' => e = .returned (.tuple #[]) ∧ w = w' := by
  go_enter Try.func58, Try.ntmps58
  go_wp2
  refine wp_loop_rounds 1 ?_
  rw [rounds_succ]
  go_wp2
  go_end0
  exact ⟨rfl, rfl⟩
theorem pdq_none (w : World) (fv : Value) : Calls Try.prog 55 #[.slice none 0 0, .int .i64 0, .int .i64 0, .int .i64 0, fv] w fun e w' => e = .returned (.tuple #[]) ∧ w = w' := by
  go_enter Try.func55, Try.ntmps55
  go_wp2
  refine wp_loop_rounds 1 ?_
  rw [rounds_succ]
  go_wp2_with fail
  refine (insertion_none _ _).mono ?_
  rintro e w' ⟨rfl, rfl⟩
  go_wp2
  exact bodyPost_ret (v := .tuple #[]) (by simp [results, Try.f55, go_sem]) rfl ⟨rfl, rfl⟩
theorem sort_none (w : World) (fv : Value) : Calls Try.prog 46 #[.slice none 0 0, fv] w fun e w' => e = .returned (.tuple #[]) ∧ w = w' := by
  have hl : Calls Try.prog 56 #[.int .u64 0] w fun e w' => e = .returned (.int .i64 0) ∧ w' = w := by
    have h := Any.bits_Len (SlLaysF0.n15.bits (P := Try.prog) (ρ := srfren) { srfren_6 with }) 0 w (by omega) (by omega)
    exact h
  go_enter Try.func46, Try.ntmps46
  go_wp2_with fail
  refine hl.mono ?_
  rintro e w' ⟨rfl, rfl⟩
  go_wp2_with fail
  refine (pdq_none _ _).mono ?_
  rintro e w' ⟨rfl, rfl⟩
  go_wp2
  go_end0
  exact ⟨rfl, rfl⟩
/-- The map's keys: the blocks' numbers. -/
theorem keys_perm {w : World} {src : Value} {cb mb clk : Nat} {c : Ch} {M : List Ent} (h : CAt w src cb mb clk c M) {D : DataW Unit} (hown : w.ownsMap Try.prog 3 ptrE mb M.length D)
    (hD : ∀ i : Int, (Lit.int .i64 i).wf = true → D.atKey (.int .i64 i) (ptrD none) = ptrD (entF M i) ∧ Maps.has D (.int .i64 i) = (entF M i).isSome) : ((entL M).map Kd.pos).Perm (intKeys D) := by
  obtain ⟨es, hE, hpw, _⟩ := hown.entries (int_keyed Try.underlying3)
  obtain ⟨es', hE', hko⟩ := hown.keysOf
  obtain rfl : es = es' := by rw [hE] at hE'; simpa using hE'
  subst hE
  have hint : ∀ p ∈ es, ∃ x, p.1 = .int .i64 x ∧ (Lit.int .i64 x).wf = true := fun p hp => by
    obtain ⟨v, hv⟩ := hko p hp
    obtain ⟨x, _, hx, hw⟩ := Maps.keyOf_i64 Try.underlying3 hv
    exact ⟨x, hx, hw⟩
  refine perm_intKeys hpw (fun p hp => by obtain ⟨x, hx, _⟩ := hint p hp; exact ⟨x, hx⟩) h.nodup (fun x => ?_)
  by_cases hx : (Lit.int .i64 x).wf = true
  · rw [(hD x hx).2, entF_some, has_iff, List.mem_map]
  · constructor
    · intro hm
      obtain ⟨k, hk, rfl⟩ := List.mem_map.1 hm
      obtain ⟨e, he, rfl⟩ := List.mem_map.1 hk
      exact absurd (h.keys e he) hx
    · intro hh
      rw [has_eq, List.any_eq_true] at hh
      obtain ⟨p, hp, hs⟩ := hh
      obtain ⟨y, hy, hw⟩ := hint p hp
      rw [hy] at hs
      have : y = x := by simpa [Lit.sameKey] using hs
      subst this
      exact absurd hw hx
/-- maps.Keys, and what it hands back, over the cache's map. -/
theorem keys_seq {w : World} {src : Value} {cb mb clk : Nat} {c : Ch} {M : List Ent} (h : CAt w src cb mb clk c M) (bm : Nat) (hbm : w.cell? ⟨bm, 0, none⟩ = some (.map (some mb))) (n : Nat) (hn : 1 ≤ n) :
    SeqGives Fence.wide n Try.prog 47 #[.pointer (some ⟨bm, 0, none⟩)] encZ (fun ss => ss.Perm ((entL M).map Kd.pos)) M.length w := by
  obtain ⟨D, hown, hsz, hD⟩ := h.map
  have hp := keys_perm h hown hD
  have := AnyZI.keys_gives (ρ := keyren) { keyren_7 with } Fence.wide n trivial rfl hn bm mb M.length D w (lt_of_cell hbm) hbm hown
  rw [hsz] at this
  intro l J W h1 h2 h3 h4
  exact (this l J W h1 h2 h3 h4).mono fun e W' ⟨h5, ss, h6, h7⟩ => ⟨h5, ss, h6.trans hp.symm, h7⟩
section
attribute [local go_sem] Oper.semAt_some
set_option maxRecDepth 100000 in
theorem maps_Keys (mb : Nat) (w : World) : Calls Try.prog 33 #[.map (some mb)] w fun e w' => e = .returned (.func (.func 47) #[] #[.pointer (some ⟨w.heap.size, 0, none⟩)]) ∧ w' = w.alloc (.cells #[.map (some mb)] 64) :=
  (callsIn_wide (n := 5)).1 (AnyZI.keys_in keyren_7 Fence.wide 5 trivial rfl (some mb) w)
set_option maxRecDepth 100000 in
set_option maxHeartbeats 1600000 in
theorem sorted_func {w : World} {src : Value} {cb mb clk : Nat} {c : Ch} {M : List Ent} (h : CAt w src cb mb clk c M) (hclk : clk < 1000000) (hm : c.most ≤ 1024) (bx bm : Nat) (hbx : w.cell? ⟨bx, 0, none⟩ = some (.pointer (some ⟨cb, 0, none⟩))) (hbm : w.cell? ⟨bm, 0, none⟩ = some (.map (some mb))) :
    Calls Try.prog 32 #[.func (.func 47) #[] #[.pointer (some ⟨bm, 0, none⟩)], .func (.func 34) #[] #[.pointer (some ⟨bx, 0, none⟩)]] w
      fun e w' => ∃ v, e = .returned v ∧ Row w' v ((c.l.map Kd.pos).map (Value.int .i64)) ∧ (∀ k, v.ownBlock = some k → w.heap.size ≤ k ∧ k < w'.heap.size) ∧ Below w.heap.size w w' := by
  have hlen := h.most
  have hcol : Calls Try.prog 45 #[.func (.func 47) #[] #[.pointer (some ⟨bm, 0, none⟩)]] w fun e w' => ∃ (v : Value) (ss : List Int), e = .returned v ∧ ss.Perm ((entL M).map Kd.pos) ∧ w'.ownsRow w.heap.size 3 1 v ss.length (ss.map encZ) ∧ (v = .slice none 0 0 ↔ ss = []) ∧ Below w.heap.size w w' :=
    (callsIn_wide (n := 5)).1 (AnyZI.collect_in { sotren_6 with } Fence.wide 5 trivial trivial rfl (by omega) _ _ trivial (enters_of Try.func47 (by kernel_rfl) rfl) _ M.length (by unfold maxLen; omega) (by omega) w (keys_seq h bm hbm _ (by omega)))
  have Hc := Lib.hid h
  have Hcol := Lib.hid hcol
  have Hbx := Lib.hid hbx
  clear h hcol hbx hbm
  go_enter Try.func32, Try.ntmps32
  go_wp2_with fail
  refine Hcol.out.mono ?_
  rintro e w1 ⟨v, ss, rfl, hp, hr, hnil, hb⟩
  by_cases h0 : ss = []
  · obtain rfl := hnil.2 h0
    have hl : c.l = [] := by
      rw [h0] at hp
      have := hp.symm.eq_nil
      rw [List.map_eq_nil_iff] at this
      rw [← Hc.out.list]; exact this
    have Hb := Lib.hid hb
    have Hl := Lib.hid hl
    clear hp hr hnil hb hl
    go_wp2_with fail
    refine (sort_none _ _).mono ?_
    rintro e w2 ⟨rfl, rfl⟩
    go_wp2
    go_ret
    exact ⟨_, rfl, by rw [Hl.out]; exact .inl ⟨none, 0, rfl, rfl⟩, fun k hk => (by cases hk), Hb.out⟩
  · have hc1 := Hc.out.below hb
    have hbx1 := cell_call hb Hbx.out
    have hss : ss.length < 4611686018427387904 := by
      have := hp.length_eq
      simp only [List.length_map, entL] at this
      omega
    have hsort := Lib.hid (blocks_sort hc1 hclk hbx1 hr hp h0 hss (lt_of_cell Hbx.out) (fun k hk => Hc.out.lt hk) w.heap.size (Nat.le_refl _) hb.size)
    have Hr := Lib.hid hr
    have Hb := Lib.hid hb
    clear hp hr hnil hb hc1 hbx1
    go_wp2_with fail
    refine hsort.out.mono ?_
    rintro e w2 ⟨rfl, hb2, hrow⟩
    have Hb2 := Lib.hid hb2
    have Hrow := Lib.hid hrow
    clear hb2 hrow
    go_wp2
    go_ret
    exact ⟨_, rfl, Hrow.out, fun k hk => ⟨(Hr.out.lt k hk).1, Nat.lt_of_lt_of_le (Hr.out.lt k hk).2 Hb2.out.size⟩, Hb.out.trans Hb2.out⟩
set_option maxRecDepth 100000 in
set_option maxHeartbeats 1600000 in
theorem cch_Blocks {w : World} {src : Value} {cb mb clk : Nat} {c : Ch} {M : List Ent} (h : CAt w src cb mb clk c M) (hclk : clk < 1000000) (hm : c.most ≤ 1024) :
    Calls Try.prog 15 #[.pointer (some ⟨cb, 0, none⟩)] w
      fun e w' => ∃ v, e = .returned v ∧ Row w' v ((c.l.map Kd.pos).map (Value.int .i64)) ∧ (∀ k, v.ownBlock = some k → w.heap.size ≤ k ∧ k < w'.heap.size) ∧ Below w.heap.size w w' := by
  have hb1 := step_new (Below.refl w.heap.size w) (.cells #[.pointer (some ⟨cb, 0, none⟩)] 25)
  have hc1 := h.below hb1
  obtain ⟨-, -, -, -, c4⟩ := cells_of hc1.blk
  have hbx : (w.alloc (.cells #[.pointer (some ⟨cb, 0, none⟩)] 25)).cell? ⟨w.heap.size, 0, none⟩ = some (.pointer (some ⟨cb, 0, none⟩)) := by rw [Lib.cell_of_heap (heap_alloc_new w _)]; rfl
  go_enter Try.func15, Try.ntmps15
  have Hb1 := Lib.hid hb1
  have Hc1 := Lib.hid hc1
  clear hb1 hc1 h
  go_wp2_with fail
  generalize w.alloc (.cells #[.pointer (some ⟨cb, 0, none⟩)] 25) = w1 at *
  refine (maps_Keys mb w1).mono ?_
  rintro e w2 ⟨rfl, hw2⟩
  have hbm : w2.cell? ⟨w1.heap.size, 0, none⟩ = some (.map (some mb)) := by rw [hw2, Lib.cell_of_heap (heap_alloc_new w1 _)]; rfl
  have hb2 : Below w1.heap.size w1 w2 := by rw [hw2]; exact step_new (Below.refl _ _) _
  have hbx2 := cell_call hb2 hbx
  have hS := Lib.hid (sorted_func (Hc1.out.below hb2) hclk hm w.heap.size w1.heap.size hbx2 hbm)
  have Hb2 := Lib.hid hb2
  clear hw2 hbm hb2 hbx2 hbx
  go_wp2_with fail
  refine hS.out.mono ?_
  rintro e w3 ⟨v, rfl, hrow, hfr, hb3⟩
  have Hb3 := Lib.hid hb3
  have Hrow := Lib.hid hrow
  have Hfr := Lib.hid hfr
  clear hrow hfr hb3
  go_wp2
  go_ret
  exact ⟨_, rfl, Hrow.out, fun k hk => ⟨by have := (Hfr.out k hk).1; have := Hb1.out.size; have := Hb2.out.size; omega, (Hfr.out k hk).2⟩, step_call (step_call Hb1.out Hb2.out) Hb3.out⟩
end
end Go.Proofs.Ytikkdhfbihejbaa
