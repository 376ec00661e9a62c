/- Chapter 6: Clean and Drop: ranges over the cache's map. Conditions: none. -/
import Derived.Test.YtikkdhfbihejbaaCchB
import Derived.Maps.RangeWalk
import Derived.Deep.LoopGhost
namespace Go.Proofs.Ytikkdhfbihejbaa
open Go.RowKit Go.Cch Go.Shelf Go.Maps

theorem grownBy_set (w : World) (b i : Nat) (v : Value) : w.grownBy (w.setCell ⟨b, i, none⟩ v) (some b) :=
  ⟨rfl, rfl, rfl, by simp [World.setCell], fun k _ hne => heap_set_other (fun e => hne (by rw [e])) v⟩
/-- What a map of pointers reads as. -/
def Reads (D : DataW Unit) (f : Int → Option Nat) : Prop := ∀ i : Int, (Lit.int .i64 i).wf = true → D.atKey (.int .i64 i) (ptrD none) = ptrD (f i) ∧ Maps.has D (.int .i64 i) = (f i).isSome
/-- An entry that has come is one of the cache's. -/
theorem came {M : List Ent} {D : DataW Unit} {left : Lit → Bool} {f : Int → Option Nat} (hD : Reads D f) (hf : ∀ i g, f i = some g → ∃ e, entAt M i = some e ∧ e.g = g) (hl : ∀ kl, left kl = true → Maps.has D kl = true)
    {x : Int} {o : Option Nat} {kl : Lit} {y : DataW Unit × List MemPlace} (hk : keyOf Try.prog 3 (.int .i64 x) = some kl) (hlk : left kl = true) (hv : ptrE (ptrV o) = some y) (hat : ∀ zd, D.atKey kl zd = y.1) :
    kl = .int .i64 x ∧ keyI x ∧ ∃ e, entAt M x = some e ∧ o = some e.g ∧ f x = some e.g := by
  obtain ⟨x', ex, rfl, hw⟩ := Maps.keyOf_i64 Try.underlying3 hk
  obtain rfl : x = x' := encZ_inj ex
  have h1 := hD x hw
  rw [hat, ptrE_mk] at *
  obtain rfl : y = (ptrD o, []) := (Option.some.inj hv).symm
  have h2 := ptrD_inj h1.1
  have h3 := h1.2
  rw [hl _ hlk] at h3
  cases o with
  | none => rw [← h2] at h3; cases h3
  | some g =>
    obtain ⟨e, he, hg⟩ := hf x g h2.symm
    exact ⟨rfl, hw, e, he, by rw [hg], by rw [← h2, hg]⟩
theorem same_int (i x : Int) : (Lit.int IntKind.i64 i).sameKey (.int .i64 x) = decide (i = x) := by
  simp [Lit.sameKey]
section
attribute [local go_sem] Oper.semAt_some
set_option maxRecDepth 100000 in
set_option maxHeartbeats 3200000 in
theorem cch_Clean {w : World} {src : Value} {cb mb clk : Nat} {c : Ch} {M : List Ent} (h : CAt w src cb mb clk c M) :
    Calls Try.prog 26 #[.pointer (some ⟨cb, 0, none⟩)] w fun e w' => e = .returned (.tuple #[]) ∧ MutC w w' src cb mb clk M (cleanC c) := by
  obtain ⟨-, -, -, -, c4⟩ := cells_of h.blk
  obtain ⟨D, hown, hsz, hD⟩ := h.map
  have HD : Hid (Reads D (entF M)) := Lib.hid hD
  have H := Lib.hid h
  have hmlt := h.map.lt
  clear h hD
  go_enter Try.func26, Try.ntmps26
  go_wp2_with (first
    | (at_range; refine wpList_range_own _ rfl _ 64 rfl 3 67 (int_keyed Try.underlying3) Try.underlying64 ptrE mb M.length D rfl hown ?_; intro w0 hrg0 hg0 hs0)
    | go_in)
  go_frame
  have Hg0 := Lib.hid hg0
  clear c4 hown hg0 hs0
  go_loopw [3] (fun _ wr => ∃ (left : Lit → Bool) (cnt : Nat), wr.ranges Try.prog 3 ptrE mb w.heap.size M.length D left cnt ∧ (∀ kl, left kl = true → Maps.has D kl = true) ∧ (∀ e ∈ M, wr.heap[e.g]? = some (.cells (entCells ⟨if left (.int .i64 e.x.pos) then e.x else { e.x with dirty := false }, e.g, e.u⟩) 70)) ∧ Chg (fun k => ∃ e ∈ M, e.g = k) w wr)
    (fun _ wr => wr.rangeLeft mb w.heap.size)
  case atStart =>
    refine ⟨_, _, hrg0, fun _ h => h, fun e he => ?_, (Chg.refl _ w).grown Hg0.out (fun k _ e => by cases e)⟩
    have hk := H.out.keys e he
    have hf : entF M e.x.pos = some e.g := by unfold entF; rw [H.out.at he]; rfl
    rw [(HD.out e.x.pos hk).2, hf, Hg0.out.block _ (H.out.lt (.inr (.inr ⟨e, he, rfl⟩))) (by simp)]
    exact H.out.ents e he
  case round =>
    obtain ⟨left, cnt, hrg, hlD, hents, hchg⟩ := hrel
    have HlD := Lib.hid hlD
    have Hents := Lib.hid hents
    have Hchg := Lib.hid hchg
    clear hlD hents hchg
    go_wp2_with (first
      | (at_next; refine wpList_next_ranges _ rfl _ rfl 3 (int_keyed Try.underlying3) ptrE encZ ptrV (fun key kl hk => by obtain ⟨x, hx, _⟩ := Maps.keyOf_i64 Try.underlying3 hk; exact ⟨x, hx⟩) (fun v y hy => by obtain ⟨o, ho, _⟩ := ptrE_inv hy; exact ⟨o, ho⟩) mb w.heap.size M.length _ _ _ rfl hrg ?_ ?_)
      | go_in)
    · intro _ hl0
      go_wp2
      go_end0
      refine ⟨rfl, _, H.out.turn (fun x => { x with dirty := false }) (fun _ => rfl) (fun e he => ?_) (fun k hk hne => Hchg.out.block k hk (fun ⟨e, he, hg⟩ => hne e he hg.symm)), ?_, Hchg.out.mono (fun k _ hk => .inr (.inr hk))⟩
      · have := Hents.out e he
        rw [hl0] at this
        exact this
      · rintro k (rfl | rfl | ⟨d, hd, rfl⟩)
        · exact .inl (.inl rfl)
        · exact .inl (.inr (.inl rfl))
        · obtain ⟨d', hd', rfl⟩ := List.mem_map.1 hd
          exact .inl (.inr (.inr ⟨d', hd', rfl⟩))
    · intro x o kl yd yp w1 cnt1 hkey hlk hv hat hrg1 hlt hg1 hs1 hen
      obtain ⟨rfl, hkx, e, hex, rfl, -⟩ := came HD.out (fun i g hg => by unfold entF at hg; obtain ⟨e, he, h2⟩ := Option.map_eq_some_iff.1 hg; exact ⟨e, he, h2⟩) HlD.out hkey hlk hv hat
      obtain ⟨hem, hep⟩ := entAt_some hex
      have helt := H.out.lt (.inr (.inr ⟨e, hem, rfl⟩))
      have hne1 : e.g ≠ w.heap.size := by omega
      have hents1 : ∀ d ∈ M, w1.heap[d.g]? = wr.heap[d.g]? := fun d hd => hg1.block _ (Nat.lt_of_lt_of_le (H.out.lt (.inr (.inr ⟨d, hd, rfl⟩))) Hchg.out.size) (by have := H.out.lt (.inr (.inr ⟨d, hd, rfl⟩)); intro h2; have h3 := Option.some.inj h2; omega)
      have hcell1 : w1.heap[e.g]? = some (.cells (entCells e) 70) := by
        rw [hents1 e hem, Hents.out e hem, hep, hlk]; rfl
      obtain ⟨-, d1, -, -⟩ := cells_ent hcell1
      have f1 : w1.frozen? ⟨e.g, 1, none⟩ = false := Lib.frozen_of_heap hcell1 _
      have hset : w1.grownBy (w1.setCell ⟨e.g, 1, none⟩ (.bool false)) (some e.g) := grownBy_set w1 e.g 1 _
      have hrg2 := hrg1.kept hset (by have := (H.out.nce e hem).2; intro h2; exact this (Option.some.inj h2).symm) (by intro h2; exact hne1 (Option.some.inj h2).symm)
      have Hgoal : Hid ((∀ kl, (left kl && !kl.sameKey (.int .i64 x)) = true → Maps.has D kl = true) ∧ (∀ d ∈ M, (w1.setCell ⟨e.g, 1, none⟩ (.bool false)).heap[d.g]? = some (.cells (entCells ⟨if (left (.int .i64 d.x.pos) && !(Lit.int IntKind.i64 d.x.pos).sameKey (.int .i64 x)) then d.x else { d.x with dirty := false }, d.g, d.u⟩) 70)) ∧ Chg (fun k => ∃ e ∈ M, e.g = k) w (w1.setCell ⟨e.g, 1, none⟩ (.bool false))) := by
        refine Lib.hid ⟨fun kl hkl => HlD.out kl (by rw [Bool.and_eq_true] at hkl; exact hkl.1), fun d hd => ?_, (Hchg.out.grown hg1 (fun k hk e2 => by cases e2; omega)).set e.g 1 _ (fun _ => ⟨e, hem, rfl⟩)⟩
        by_cases hde : d.g = e.g
        · have := g_inj H.out.apart hem hd hde
          subst this
          rw [heap_set_same hcell1, same_int, hep, decide_eq_true rfl]
          simp only [Bool.not_true, Bool.and_false, Bool.false_eq_true, if_false]
          rfl
        · have hdp : d.x.pos ≠ x := fun hp => hde (by rw [H.out.self hem hd (hp.trans hep.symm)])
          rw [heap_set_other hde, hents1 d hd, Hents.out d hd, same_int, decide_eq_false hdp]
          simp only [Bool.not_false, Bool.and_true]
      have Hrg2 := Lib.hid hrg2
      have Hlt := Lib.hid hlt
      have Hrg := Lib.hid hrg
      dsimp only [ptrV] at hen ⊢
      clear hents1 hrg1 hg1 hs1 hset hrg2 hlt hrg hcell1
      go_wp2
      go_roundw
      case rel => exact ⟨_, cnt1, Hrg2.out, Hgoal.out⟩
      case measure => rw [Hrg2.out.left_eq, Hrg.out.left_eq]; exact Hlt.out
theorem drop1 (W : World) (key : Value) (e : Ent) (he : W.heap[e.g]? = some (.cells (entCells e) 70)) : Calls Try.prog 43 #[key, .pointer (some ⟨e.g, 0, none⟩)] W fun x w' => x = .returned (.bool e.x.dirty) ∧ W = w' := by
  obtain ⟨-, d1, -, -⟩ := cells_ent he
  clear he
  go_enter Try.func43, Try.ntmps43
  go_wp2
  go_ret
  exact ⟨rfl, rfl⟩
/-- What the map holds while dirty ones are taken out. -/
def dropF (M : List Ent) (left : Lit → Bool) (i : Int) : Option Nat := (entAt M i).bind fun e => if e.x.dirty && !left (.int .i64 i) then none else some e.g
theorem entAt_filter {M : List Ent} (hn : ((entL M).map Kd.pos).Nodup) (p : Ent → Bool) (i : Int) : entAt (M.filter p) i = (entAt M i).filter p := by
  unfold entAt
  induction M with
  | nil => rfl
  | cons a M ih =>
    simp only [entL, List.map_cons, List.nodup_cons] at hn
    have ih := ih hn.2
    by_cases ha : a.x.pos = i
    · have hai : a.is i = true := eis_iff.2 ha
      have hnone : M.find? (Ent.is i) = none := by
        rw [List.find?_eq_none]
        intro b hb hbi
        exact hn.1 (List.mem_map.2 ⟨b.x, List.mem_map.2 ⟨b, hb, rfl⟩, by rw [eis_iff.1 hbi, ha]⟩)
      rw [List.find?_cons, hai]
      cases hp : p a with
      | true => rw [List.filter_cons, if_pos hp, List.find?_cons, hai]; simp [Option.filter, hp]
      | false =>
        rw [List.filter_cons, if_neg (by simp [hp]), ih, hnone]
        simp [Option.filter, hp]
    · have hai : a.is i = false := by rw [← Bool.not_eq_true, eis_iff]; exact ha
      rw [List.find?_cons, hai, List.filter_cons]
      split
      · rw [List.find?_cons, hai]; exact ih
      · exact ih
/-- A map that reads as these entries do. -/
theorem ptrMap_of {w : World} {b n : Nat} {M : List Ent} {D : DataW Unit} (hn : ((entL M).map Kd.pos).Nodup) (hk : ∀ e ∈ M, keyI e.x.pos) (hown : w.ownsMap Try.prog 3 ptrE b n D) (hD : Reads D (entF M)) : w.ptrMap Try.prog 3 b M.length (entF M) := by
  obtain ⟨es, hE, hpw, _⟩ := hown.entries (int_keyed Try.underlying3)
  obtain ⟨es', hE', hko⟩ := hown.keysOf
  obtain rfl : es = es' := by rw [hE] at hE'; simpa using hE'
  subst hE
  have hint : ∀ p ∈ es, ∃ x, p.1 = .int .i64 x ∧ (Lit.int .i64 x).wf = true := fun p hp => by
    obtain ⟨v, hv⟩ := hko p hp
    obtain ⟨x, _, hx, hw⟩ := Maps.keyOf_i64 Try.underlying3 hv
    exact ⟨x, hx, hw⟩
  have hperm : ((entL M).map Kd.pos).Perm (intKeys (.map es)) := by
    refine perm_intKeys hpw (fun p hp => by obtain ⟨x, hx, _⟩ := hint p hp; exact ⟨x, hx⟩) hn (fun x => ?_)
    by_cases hx : (Lit.int .i64 x).wf = true
    · rw [(hD x hx).2, entF_some, has_iff, List.mem_map]
    · constructor
      · intro hm
        obtain ⟨k, hk', rfl⟩ := List.mem_map.1 hm
        obtain ⟨e, he, rfl⟩ := List.mem_map.1 hk'
        exact absurd (hk e he) hx
      · intro hh
        rw [has_eq, List.any_eq_true] at hh
        obtain ⟨p, hp, hs⟩ := hh
        obtain ⟨y, hy, hw⟩ := hint p hp
        rw [hy] at hs
        have : y = x := by simpa [Lit.sameKey] using hs
        subst this
        exact absurd hw hx
  have hsz : Maps.size (.map es : DataW Unit) = M.length := by
    have := hperm.length_eq
    simp only [List.length_map, entL, intKeys] at this
    rw [this]; rfl
  exact ⟨_, by rw [← hsz]; exact ownsMap_tight hown, hsz, hD⟩
/-- Dirty ones are taken out. -/
theorem CAt.drop {w w' : World} {src : Value} {cb mb clk : Nat} {c : Ch} {M : List Ent} (h : CAt w src cb mb clk c M) (hm : w'.ptrMap Try.prog 3 mb (M.filter fun e => !e.x.dirty).length (entF (M.filter fun e => !e.x.dirty)))
    (ho : ∀ k, k < w.heap.size → k ≠ mb → w'.heap[k]? = w.heap[k]?) : CAt w' src cb mb clk (dropC c) (M.filter fun e => !e.x.dirty) := by
  have hsub : ∀ d, d ∈ (M.filter fun e => !e.x.dirty) → d ∈ M := fun d hd => (List.mem_filter.1 hd).1
  refine ⟨drop_ok h.ok, ?_, h.falls.filter _, ?_, hm, ?_, h.ne, fun d hd => h.nce d (hsub d hd), h.apart.sublist (List.filter_sublist.map _), fun d hd => h.keys d (hsub d hd)⟩
  · show entL _ = c.l.filter fun x => !x.dirty
    rw [← h.list]
    unfold entL
    rw [List.filter_map]
    rfl
  · rw [ho cb (h.lt (.inl rfl)) h.ne]; exact h.blk
  · intro d hd
    rw [ho d.g (h.lt (.inr (.inr ⟨d, hsub d hd, rfl⟩))) (h.nce d (hsub d hd)).2]
    exact h.ents d (hsub d hd)
set_option maxRecDepth 100000 in
set_option maxHeartbeats 3200000 in
theorem del_func {w : World} {src : Value} {cb mb clk : Nat} {c : Ch} {M : List Ent} (h : CAt w src cb mb clk c M) :
    Calls Try.prog 42 #[.map (some mb), .func (.func 43) #[] #[]] w fun e w' => e = .returned (.tuple #[]) ∧ CAt w' src cb mb clk (dropC c) (M.filter fun e => !e.x.dirty) ∧ Chg (fun k => k = mb) w w' := by
  obtain ⟨D, hown, hsz, hD⟩ := h.map
  have HD : Hid (Reads D (entF M)) := Lib.hid hD
  have H := Lib.hid h
  have hmlt := h.map.lt
  clear h hD
  go_enter Try.func42, Try.ntmps42
  go_wp2_with (first
    | (at_range; refine wpList_range_own _ rfl _ 64 rfl 3 67 (int_keyed Try.underlying3) Try.underlying64 ptrE mb M.length D rfl hown ?_; intro w0 hrg0 hg0 hs0)
    | go_in)
  go_frame
  have Hg0 := Lib.hid hg0
  clear hown hg0 hs0
  go_loopw [8] (fun _ wr => ∃ (left : Lit → Bool) (cnt : Nat) (D' : DataW Unit), wr.ranges Try.prog 3 ptrE mb w.heap.size M.length D' left cnt ∧ (∀ kl, left kl = true → Maps.has D' kl = true) ∧ Reads D' (dropF M left) ∧ Chg (fun k => k = mb) w wr)
    (fun _ wr => wr.rangeLeft mb w.heap.size)
  case atStart =>
    refine ⟨_, _, D, hrg0, fun _ h => h, fun i hi => ?_, (Chg.refl _ w).grown Hg0.out (fun k _ e => by cases e)⟩
    have h1 := HD.out i hi
    have hdf : dropF M (Maps.has D) i = entF M i := by
      unfold dropF entF
      cases he : entAt M i with
      | none => rfl
      | some e =>
        have h2 := h1.2
        unfold entF at h2
        rw [he] at h2
        show (if e.x.dirty && !Maps.has D (.int .i64 i) then none else some e.g) = some e.g
        rw [h2]; simp
    rw [hdf]; exact h1
  case round =>
    obtain ⟨left, cnt, D', hrg, hlD, hrd, hchg⟩ := hrel
    have HlD := Lib.hid hlD
    have Hrd := Lib.hid hrd
    have Hchg := Lib.hid hchg
    clear hlD hrd hchg
    go_wp2_with (first
      | (at_next; refine wpList_next_ranges _ rfl _ rfl 3 (int_keyed Try.underlying3) ptrE encZ ptrV (fun key kl hk => by obtain ⟨x, hx, _⟩ := Maps.keyOf_i64 Try.underlying3 hk; exact ⟨x, hx⟩) (fun v y hy => by obtain ⟨o, ho, _⟩ := ptrE_inv hy; exact ⟨o, ho⟩) mb w.heap.size M.length _ _ _ rfl hrg ?_ ?_)
      | go_in)
    · intro _ hl0
      have hfin := ptrMap_of (M := M.filter fun e => !e.x.dirty) (by
          have := H.out.nodup
          unfold entL at *
          rw [List.map_map] at *
          exact this.sublist (List.filter_sublist.map _)) (fun e he => H.out.keys e (List.mem_filter.1 he).1) hrg.owns (fun i hi => by
        have h1 := Hrd.out i hi
        have : dropF M left i = entF (M.filter fun e => !e.x.dirty) i := by
          unfold dropF entF
          rw [entAt_filter H.out.nodup]
          cases he : entAt M i with
          | none => rfl
          | some e =>
            show (if e.x.dirty && !left (.int .i64 i) then none else some e.g) = _
            rw [hl0]
            cases hd : e.x.dirty <;> simp [Option.filter, hd]
        rw [← this]; exact h1)
      have Hfin := Lib.hid hfin
      clear hfin hrg hl0
      go_wp2
      go_end0
      exact ⟨rfl, H.out.drop Hfin.out (fun k hk hne => Hchg.out.block k hk hne), Hchg.out⟩
    · intro x o kl yd yp w1 cnt1 hkey hlk hv hat hrg1 hlt hg1 hs1 hen
      obtain ⟨rfl, hkx, e, hex, rfl, hfx⟩ := came Hrd.out (fun i g hg => by
        unfold dropF at hg
        obtain ⟨e, he, h2⟩ := Option.bind_eq_some_iff.1 hg
        split at h2
        · cases h2
        · exact ⟨e, he, Option.some.inj h2⟩) HlD.out hkey hlk hv hat
      obtain ⟨hem, hep⟩ := entAt_some hex
      have helt := H.out.lt (.inr (.inr ⟨e, hem, rfl⟩))
      have hcell1 : w1.heap[e.g]? = some (.cells (entCells e) 70) := by
        rw [hg1.block _ (Nat.lt_of_lt_of_le helt Hchg.out.size) (by intro h2; have h3 := Option.some.inj h2; omega), Hchg.out.block _ helt (H.out.nce e hem).2]
        exact H.out.ents e hem
      have hchg1 := Hchg.out.grown hg1 (fun k hk e2 => by cases e2; omega)
      have Hcall := Lib.hid (drop1 w1 (.int .i64 x) e hcell1)
      have Hchg1 := Lib.hid hchg1
      have Hlt := Lib.hid hlt
      have Hrg := Lib.hid hrg
      have Hlk := Lib.hid hlk
      have Hex := Lib.hid hex
      have Hkey := Lib.hid hkey
      dsimp only [ptrV] at hen ⊢
      clear hg1 hs1 hlt hrg hcell1 hchg1 hlk hat hv hex hem hep
      cases hd : e.x.dirty with
      | false =>
        rw [hd] at Hcall
        have Hrg1 := Lib.hid hrg1
        clear hrg1
        go_wp2_with fail
        refine Hcall.out.mono ?_
        rintro e' w2 ⟨rfl, rfl⟩
        go_wp2
        go_roundw
        case rel =>
          refine ⟨_, cnt1, D', Hrg1.out, fun kl hkl => HlD.out kl (by rw [Bool.and_eq_true] at hkl; exact hkl.1), fun i hi => ?_, Hchg1.out⟩
          have : dropF M (fun z => left z && !z.sameKey (.int .i64 x)) i = dropF M left i := by
            unfold dropF
            by_cases hix : i = x
            · subst hix; rw [Hex.out]; show (if e.x.dirty && _ then none else some e.g) = (if e.x.dirty && _ then none else some e.g); rw [hd]; rfl
            · simp only [same_int, decide_eq_false hix, Bool.not_false, Bool.and_true]
          rw [this]; exact Hrd.out i hi
        case measure => rw [Hrg1.out.left_eq, Hrg.out.left_eq]; exact Hlt.out
      | true =>
        rw [hd] at Hcall
        go_wp2_with fail
        refine Hcall.out.mono ?_
        rintro e' w2 ⟨rfl, rfl⟩
        go_wp2_with (first
          | (at_delete; refine wpList_delete_ranges _ rfl _ _ 64 3 rfl 67 (int_keyed Try.underlying3) Try.underlying64 ptrE mb w.heap.size M.length _ _ _ rfl hrg1 _ _ rfl Hkey.out ?_; intro w3 cnt3 hrg3 hle hturn; go_frame)
          | go_in)
        go_roundw
        case rel =>
          refine ⟨_, cnt3, _, hrg3, fun kl hkl => ?_, fun i hi => ?_, Hchg1.out.grown hturn.grown (fun k _ e2 => (Option.some.inj e2).symm)⟩
          · simp only [Bool.and_eq_true, Bool.not_eq_true'] at hkl
            have hne : kl ≠ .int .i64 x := fun e2 => by
              have := hkl.2
              rw [e2, same_int, decide_eq_true rfl] at this
              cases this
            rw [Maps.has_del_other hne]
            exact HlD.out kl hkl.1.1
          · by_cases hix : i = x
            · subst hix
              have : dropF M (fun z => (left z && !z.sameKey (.int .i64 i)) && !z.sameKey (.int .i64 i)) i = none := by
                unfold dropF
                rw [Hex.out]
                simp only [same_int, decide_eq_true, Bool.not_true, Bool.and_false, Bool.not_false, Bool.and_true, Option.bind_some, hd, if_true]
              rw [this]
              exact ⟨Maps.atKey_del_same _, by rw [Maps.has_del_same]; rfl⟩
            · have hne : Lit.int .i64 i ≠ Lit.int .i64 x := fun e2 => hix (by simpa using e2)
              have : dropF M (fun z => (left z && !z.sameKey (.int .i64 x)) && !z.sameKey (.int .i64 x)) i = dropF M left i := by
                unfold dropF
                simp only [same_int, decide_eq_false hix, Bool.not_false, Bool.and_true]
              rw [this, Maps.atKey_del_other hne, Maps.has_del_other hne]
              exact Hrd.out i hi
        case measure => rw [hrg3.left_eq, Hrg.out.left_eq]; have := Hlt.out; omega
set_option maxRecDepth 100000 in
theorem cch_Drop {w : World} {src : Value} {cb mb clk : Nat} {c : Ch} {M : List Ent} (h : CAt w src cb mb clk c M) :
    Calls Try.prog 25 #[.pointer (some ⟨cb, 0, none⟩)] w fun e w' => e = .returned (.tuple #[]) ∧ MutC w w' src cb mb clk M (dropC c) := by
  obtain ⟨-, -, -, -, c4⟩ := cells_of h.blk
  have hcall := Lib.hid (del_func h)
  clear h
  go_enter Try.func25, Try.ntmps25
  go_wp2_with fail
  refine hcall.out.mono ?_
  rintro e w2 ⟨rfl, h1, h2⟩
  have H1 := Lib.hid h1
  have H2 := Lib.hid h2
  clear h1 h2
  go_wp2
  go_end0
  refine ⟨rfl, _, H1.out, ?_, H2.out.mono (fun k _ hk => .inr (.inl hk))⟩
  rintro k (rfl | rfl | ⟨d, hd, rfl⟩)
  · exact .inl (.inl rfl)
  · exact .inl (.inr (.inl rfl))
  · exact .inl (.inr (.inr ⟨d, (List.mem_filter.1 hd).1, rfl⟩))
end
end Go.Proofs.Ytikkdhfbihejbaa
