/- Chapter 6, plain: what the statements ask. No conditions. -/
import Derived.Test.YtikkdhfbihejbaaCchPlain
namespace Go.Cch

theorem tmod_pos (c n : Int) (hc : 0 ≤ c) (hn : 0 < n) : 0 ≤ c.tmod n ∧ c.tmod n < n := ⟨Int.tmod_nonneg n hc, Int.tmod_lt_of_pos c hn⟩
theorem pick_range (c n : Int) (hn : 0 < n) : 0 ≤ pickI c n ∧ pickI c n < n := by
  unfold pickI
  split
  · exact tmod_pos _ n (by omega) hn
  · exact tmod_pos _ n (by omega) hn
theorem kind_range (a : Act) : 0 ≤ a.kind ∧ a.kind < 10 := pick_range _ _ (by omega)
/-- What an act does, by its kind. -/
theorem does_get (c : Ch) (a : Act) (h : a.kind < 4) : does c a = getC c a.block (if srcE a.block = 0 then srcT a.block else []) (srcE a.block) := by
  unfold does
  rw [if_neg (by omega), if_neg (by omega), if_neg (by omega), if_neg (by omega), if_neg (by omega)]
/-! ## blocks that are pinned stay -/
def Held (c : Ch) (n : Int) : Prop := ∃ x ∈ c.l, x.pos = n ∧ 1 ≤ x.pins
theorem not_free {x : Kd} (h : 1 ≤ x.pins) : x.free = false := by
  unfold Kd.free
  rw [decide_eq_false (by omega), Bool.and_false]
theorem not_free_dirty {x : Kd} (h : x.dirty = true) : x.free = false := by unfold Kd.free; rw [h]; rfl
theorem held_front {c : Ch} (hc : c.Ok) {n : Int} (h : Held c n) {x y : Kd} (hx : x ∈ c.l) (hp : y.pos = x.pos) (hq : y.pins = x.pins) (m k : Nat) : Held ⟨y :: less c.l x.pos, m, k⟩ n := by
  obtain ⟨z, hz, e, h1⟩ := h
  by_cases he : x.pos = n
  · have : z = x := apart_mem hc.apart hz hx (by rw [e, he])
    subst this
    exact ⟨y, List.mem_cons_self, by rw [hp, e], by omega⟩
  · exact ⟨z, List.mem_cons_of_mem _ (mem_less.2 ⟨hz, by rw [e]; exact fun h => he h.symm⟩), e, h1⟩
theorem held_get {c : Ch} (hc : c.Ok) {n : Int} (h : Held c n) (i : Int) (t : Tx) (e : Int) : Held (getC c i t e).2 n := by
  unfold getC
  split
  · rename_i x hx
    obtain ⟨h1, rfl⟩ := find_some hx
    exact held_front hc h h1 rfl rfl _ _
  · split
    · split
      · rename_i l hl
        obtain ⟨z, hz, e, h1⟩ := h
        exact ⟨z, List.mem_cons_of_mem _ ((room_some hc hl).2.2 z hz (not_free h1)), e, h1⟩
      · exact h
    · exact h
theorem held_put {c : Ch} (hc : c.Ok) {n : Int} (h : Held c n) (i : Int) (d : Tx) : Held (putC c i d).2 n := by
  unfold putC
  split
  · split
    · rename_i x hx
      obtain ⟨h1, rfl⟩ := find_some hx
      exact held_front hc h h1 (y := { x with data := d, dirty := true }) rfl rfl _ _
    · split
      · rename_i l hl
        obtain ⟨z, hz, e, h1⟩ := h
        exact ⟨z, List.mem_cons_of_mem _ ((room_some hc hl).2.2 z hz (not_free h1)), e, h1⟩
      · exact h
  · exact h
theorem held_map {c : Ch} {n : Int} (h : Held c n) {f : Kd → Kd} (h1 : ∀ x, (f x).pos = x.pos) (h2 : ∀ x, x.pins ≤ (f x).pins) : Held { c with l := c.l.map f } n := by
  obtain ⟨z, hz, e, hp⟩ := h
  exact ⟨f z, List.mem_map.2 ⟨z, hz, rfl⟩, by rw [h1, e], Nat.le_trans hp (h2 z)⟩
theorem held_step {c : Ch} (hc : c.Ok) {n : Int} (a : Act) (h7 : a.kind ≠ 7) (h9 : a.kind ≠ 9) (h : Held c n) : Held (does c a).2 n := by
  unfold does
  rw [if_neg h7, if_neg h9]
  split
  · exact held_put hc h _ _
  · split
    · unfold pinC
      split
      · exact held_map h (fun x => by split <;> rfl) (fun x => by split <;> simp)
      · exact h
    · split
      · exact held_map h (fun _ => rfl) (fun _ => Nat.le_refl _)
      · exact held_get hc h _ _ _
theorem held_has {c : Ch} {n : Int} (h : Held c n) : hasL c.l n = true := by
  obtain ⟨x, h1, h2, _⟩ := h
  exact has_iff.2 ⟨x, h1, h2⟩
/-- A block that was told and then pinned. -/
theorem pin_held {c : Ch} {n : Int} (h : hasL c.l n = true) : (pinC c n).1 = 0 ∧ Held (pinC c n).2 n := by
  unfold pinC
  rw [if_pos h]
  obtain ⟨x, h1, h2⟩ := has_iff.1 h
  refine ⟨rfl, _, List.mem_map.2 ⟨x, h1, rfl⟩, ?_, ?_⟩
  · rw [if_pos (is_iff.2 h2)]; exact h2
  · rw [if_pos (is_iff.2 h2)]; simp
theorem get_has {c : Ch} {n : Int} {t : Tx} {e : Int} (h : (getC c n t e).1.2 = 0) : hasL (getC c n t e).2.l n = true := by
  unfold getC at *
  split at h
  · rename_i x hx
    exact has_iff.2 ⟨x, List.mem_cons_self, (find_some hx).2⟩
  · rename_i hx
    split at h
    · rename_i he
      rw [if_pos he]
      split at h
      · exact has_iff.2 ⟨_, List.mem_cons_self, rfl⟩
      · simp at h
    · rename_i he
      exact absurd h he
/-! ## the source is asked where a block is not kept -/
def askedN (c : Ch) (a : Act) : Nat := if a.kind < 4 ∧ hasL c.l a.block = false then 1 else 0
theorem asks_step (c : Ch) (a : Act) : (does c a).2.misses = c.misses + (if askedN c a = 1 ∧ (does c a).1.2 = 0 then 1 else 0) := by
  have hk := kind_range a
  by_cases h4 : a.kind < 4
  · rw [does_get c a h4]
    unfold askedN getC
    cases hf : findL c.l a.block with
    | some x =>
      have hh : hasL c.l a.block = true := has_iff.2 ⟨x, (find_some hf).1, (find_some hf).2⟩
      simp [hh]
    | none =>
      have hh := find_none.1 hf
      by_cases he : srcE a.block = 0
      · cases hr : roomL c with
        | some l => simp [he, hh, h4]
        | none => simp [he, hh, h4]
      · simp [he]
  · have h0 : askedN c a = 0 := by unfold askedN; rw [if_neg (fun h => h4 h.1)]
    rw [h0, if_neg (by simp)]
    unfold does putC pinC unpinC cleanC dropC
    repeat' split
    all_goals first | rfl | (exfalso; omega)
/-! ## what is told -/
/-- What was put last at i, else s. -/
def wantN (P : List (Int × Tx)) (i : Int) (s : Tx) : Tx := P.foldl (fun w p => if p.1 = i then p.2 else w) s
theorem want_none {P : List (Int × Tx)} {i : Int} (h : ∀ p ∈ P, p.1 ≠ i) (s : Tx) : wantN P i s = s := by
  unfold wantN
  induction P generalizing s with
  | nil => rfl
  | cons p P ih =>
    rw [List.foldl_cons, if_neg (h p (by simp))]
    exact ih (fun q hq => h q (by simp [hq])) s
theorem want_snoc (P : List (Int × Tx)) (i j : Int) (d s : Tx) : wantN (P ++ [(j, d)]) i s = if j = i then d else wantN P i s := by
  unfold wantN
  rw [List.foldl_append]
  rfl
structure Tells (c : Ch) (P : List (Int × Tx)) : Prop where
  ok : c.Ok
  told : ∀ x ∈ c.l, x.data = wantN P x.pos (srcT x.pos)
  laid : ∀ p ∈ P, ∃ x ∈ c.l, x.pos = p.1 ∧ x.dirty = true
  dirt : ∀ x ∈ c.l, x.dirty = true → ∃ p ∈ P, p.1 = x.pos
  clean : ∀ x ∈ c.l, x.dirty = false → srcE x.pos = 0
theorem tells_new {m : Nat} (h : 1 ≤ m) : Tells (newC m) [] := ⟨new_ok h, fun x hx => by simp [newC] at hx, fun p hp => by simp at hp, fun x hx => by simp [newC] at hx, fun x hx => by simp [newC] at hx⟩
theorem want_any {P : List (Int × Tx)} {i : Int} (h : ∃ p ∈ P, p.1 = i) (s s' : Tx) : wantN P i s = wantN P i s' := by
  obtain ⟨p, hp, e⟩ := h
  unfold wantN
  induction P generalizing s s' with
  | nil => simp at hp
  | cons q P ih =>
    rw [List.foldl_cons, List.foldl_cons]
    rcases List.mem_cons.1 hp with rfl | hp
    · rw [if_pos e, if_pos e]
    · exact ih _ _ hp
theorem tells_front {c : Ch} {P : List (Int × Tx)} (h : Tells c P) {x : Kd} (hx : x ∈ c.l) (m : Nat) : Tells ⟨x :: less c.l x.pos, c.most, m⟩ P := by
  have hm : ∀ y, y ∈ x :: less c.l x.pos → y ∈ c.l := fun y hy => by
    rcases List.mem_cons.1 hy with rfl | hy
    · exact hx
    · exact (mem_less.1 hy).1
  refine ⟨front_ok h.ok hx rfl m, fun y hy => h.told y (hm y hy), fun p hp => ?_, fun y hy => h.dirt y (hm y hy), fun y hy => h.clean y (hm y hy)⟩
  obtain ⟨y, hy, e, hd⟩ := h.laid p hp
  by_cases hxy : y.pos = x.pos
  · obtain rfl := apart_mem h.ok.apart hy hx hxy
    exact ⟨y, List.mem_cons_self, e, hd⟩
  · exact ⟨y, List.mem_cons_of_mem _ (mem_less.2 ⟨hy, hxy⟩), e, hd⟩
theorem tells_room {c : Ch} {P : List (Int × Tx)} (h : Tells c P) {l : List Kd} (hl : roomL c = some l) {i : Int} (hi : hasL c.l i = false) (x : Kd) (hx : x.pos = i) (hd : x.data = wantN P i (srcT i)) (hf : x.dirty = false) (he : srcE i = 0) (m : Nat) : Tells ⟨x :: l, c.most, m⟩ P := by
  obtain ⟨h1, h2, h3⟩ := room_some h.ok hl
  refine ⟨cons_ok h.ok h1 h2 x (fun hm => not_has hi ((h2.map _).subset (by rwa [hx] at hm))) m, fun y hy => ?_, fun p hp => ?_, fun y hy hyd => ?_, fun y hy hyd => ?_⟩
  · rcases List.mem_cons.1 hy with rfl | hy
    · rw [hd, hx]
    · exact h.told y (h2.subset hy)
  · obtain ⟨y, hy, e, hdy⟩ := h.laid p hp
    exact ⟨y, List.mem_cons_of_mem _ (h3 y hy (not_free_dirty hdy)), e, hdy⟩
  · rcases List.mem_cons.1 hy with rfl | hy
    · rw [hf] at hyd; cases hyd
    · exact h.dirt y (h2.subset hy) hyd
  · rcases List.mem_cons.1 hy with rfl | hy
    · rw [hx]; exact he
    · exact h.clean y (h2.subset hy) hyd
theorem no_put {c : Ch} {P : List (Int × Tx)} (h : Tells c P) {i : Int} (hi : hasL c.l i = false) : ∀ p ∈ P, p.1 ≠ i := by
  intro p hp e
  obtain ⟨y, hy, e2, _⟩ := h.laid p hp
  rw [has_iff.2 ⟨y, hy, e2.trans e⟩] at hi
  cases hi
def askG (c : Ch) (i : Int) : (Tx × Int) × Ch := getC c i (if srcE i = 0 then srcT i else []) (srcE i)
/-- A get tells what was put last, else what the source tells. -/
theorem tells_get {c : Ch} {P : List (Int × Tx)} (h : Tells c P) (i : Int) : Tells (askG c i).2 P ∧ ((askG c i).1.2 = 0 → (askG c i).1.1 = wantN P i (if srcE i = 0 then srcT i else [])) := by
  unfold askG getC
  cases hf : findL c.l i with
  | some x =>
    obtain ⟨h1, rfl⟩ := find_some hf
    refine ⟨tells_front h h1 c.misses, fun _ => ?_⟩
    simp only
    cases hd : x.dirty with
    | true => rw [h.told x h1]; exact want_any (h.dirt x h1 hd) _ _
    | false => rw [if_pos (h.clean x h1 hd)]; exact h.told x h1
  | none =>
    have hh := find_none.1 hf
    by_cases he : srcE i = 0
    · simp only [if_pos he]
      cases hr : roomL c with
      | some l => exact ⟨tells_room h hr hh _ rfl (want_none (no_put h hh) _).symm rfl he _, fun _ => (want_none (no_put h hh) _).symm⟩
      | none => exact ⟨h, fun e => by simp at e⟩
    · simp only [if_neg he]
      exact ⟨h, fun e => absurd e he⟩
theorem tells_put {c : Ch} {P : List (Int × Tx)} (h : Tells c P) (i : Int) (d : Tx) : Tells (putC c i d).2 (if (putC c i d).1 = 0 then P ++ [(i, d)] else P) := by
  have hother : ∀ y ∈ c.l, y.pos ≠ i → y.data = wantN (P ++ [(i, d)]) y.pos (srcT y.pos) := fun y hy hne => by
    rw [want_snoc, if_neg (fun e => hne e.symm)]; exact h.told y hy
  unfold putC
  split
  · cases hf : findL c.l i with
    | some x =>
      obtain ⟨h1, rfl⟩ := find_some hf
      simp only [if_pos]
      refine ⟨front_ok h.ok h1 (y := { x with data := d, dirty := true }) rfl c.misses, fun y hy => ?_, fun p hp => ?_, fun y hy hyd => ?_, fun y hy hyd => ?_⟩
      · rcases List.mem_cons.1 hy with rfl | hy
        · simp only; rw [want_snoc, if_pos rfl]
        · exact hother y (mem_less.1 hy).1 (mem_less.1 hy).2
      · rcases List.mem_append.1 hp with hp | hp
        · obtain ⟨y, hy, e, hd⟩ := h.laid p hp
          by_cases hxy : y.pos = x.pos
          · exact ⟨_, List.mem_cons_self, by rw [← e, hxy], rfl⟩
          · exact ⟨y, List.mem_cons_of_mem _ (mem_less.2 ⟨hy, hxy⟩), e, hd⟩
        · rw [List.mem_singleton.1 hp]
          exact ⟨_, List.mem_cons_self, rfl, rfl⟩
      · rcases List.mem_cons.1 hy with rfl | hy
        · exact ⟨_, List.mem_append_right _ (List.mem_singleton.2 rfl), rfl⟩
        · obtain ⟨p, hp, e⟩ := h.dirt y (mem_less.1 hy).1 hyd
          exact ⟨p, List.mem_append_left _ hp, e⟩
      · rcases List.mem_cons.1 hy with rfl | hy
        · cases hyd
        · exact h.clean y (mem_less.1 hy).1 hyd
    | none =>
      have hh := find_none.1 hf
      simp only
      cases hr : roomL c with
      | none => exact h
      | some l =>
        obtain ⟨h1, h2, h3⟩ := room_some h.ok hr
        have hni : ∀ y ∈ l, y.pos ≠ i := fun y hy e => not_has hh (List.mem_map.2 ⟨y, h2.subset hy, e⟩)
        simp only [if_pos]
        refine ⟨cons_ok h.ok h1 h2 _ (fun hm => not_has hh ((h2.map _).subset hm)) _, fun y hy => ?_, fun p hp => ?_, fun y hy hyd => ?_, fun y hy hyd => ?_⟩
        · rcases List.mem_cons.1 hy with rfl | hy
          · simp only; rw [want_snoc, if_pos rfl]
          · exact hother y (h2.subset hy) (hni y hy)
        · rcases List.mem_append.1 hp with hp | hp
          · obtain ⟨y, hy, e, hd⟩ := h.laid p hp
            exact ⟨y, List.mem_cons_of_mem _ (h3 y hy (not_free_dirty hd)), e, hd⟩
          · rw [List.mem_singleton.1 hp]
            exact ⟨_, List.mem_cons_self, rfl, rfl⟩
        · rcases List.mem_cons.1 hy with rfl | hy
          · exact ⟨_, List.mem_append_right _ (List.mem_singleton.2 rfl), rfl⟩
          · obtain ⟨p, hp, e⟩ := h.dirt y (h2.subset hy) hyd
            exact ⟨p, List.mem_append_left _ hp, e⟩
        · rcases List.mem_cons.1 hy with rfl | hy
          · cases hyd
          · exact h.clean y (h2.subset hy) hyd
  · exact h
theorem tells_map {c : Ch} {P : List (Int × Tx)} (h : Tells c P) {f : Kd → Kd} (h1 : ∀ x, (f x).pos = x.pos) (h2 : ∀ x, (f x).data = x.data) (h3 : ∀ x, (f x).dirty = x.dirty) : Tells { c with l := c.l.map f } P := by
  refine ⟨turn_ok h.ok h1, fun y hy => ?_, fun p hp => ?_, fun y hy hyd => ?_, fun y hy hyd => ?_⟩
  · obtain ⟨x, hx, rfl⟩ := List.mem_map.1 hy
    rw [h1, h2]; exact h.told x hx
  · obtain ⟨x, hx, e, hd⟩ := h.laid p hp
    exact ⟨f x, List.mem_map.2 ⟨x, hx, rfl⟩, by rw [h1, e], by rw [h3, hd]⟩
  · obtain ⟨x, hx, rfl⟩ := List.mem_map.1 hy
    rw [h1]; exact h.dirt x hx (by rw [← h3]; exact hyd)
  · obtain ⟨x, hx, rfl⟩ := List.mem_map.1 hy
    rw [h1]; exact h.clean x hx (by rw [← h3]; exact hyd)
theorem tells_pin {c : Ch} {P : List (Int × Tx)} (h : Tells c P) (i : Int) : Tells (pinC c i).2 P := by
  unfold pinC
  split
  · exact tells_map h (fun x => by split <;> rfl) (fun x => by split <;> rfl) (fun x => by split <;> rfl)
  · exact h
theorem tells_unpin {c : Ch} {P : List (Int × Tx)} (h : Tells c P) (i : Int) : Tells (unpinC c i).2 P := by
  unfold unpinC
  split
  · split
    · exact h
    · exact tells_map h (fun x => by split <;> rfl) (fun x => by split <;> rfl) (fun x => by split <;> rfl)
  · exact h
theorem tells_drop {c : Ch} {P : List (Int × Tx)} (h : Tells c P) : Tells (dropC c) [] := by
  have hm : ∀ y, y ∈ (dropC c).l → y ∈ c.l ∧ y.dirty = false := fun y hy => by
    obtain ⟨h1, h2⟩ := List.mem_filter.1 hy
    exact ⟨h1, by simpa using h2⟩
  refine ⟨drop_ok h.ok, fun y hy => ?_, fun p hp => by simp at hp, fun y hy hyd => ?_, fun y hy hyd => h.clean y (hm y hy).1 hyd⟩
  · obtain ⟨h1, h2⟩ := hm y hy
    rw [h.told y h1, want_none, want_none]
    · intro p hp; simp at hp
    · intro p hp e
      obtain ⟨z, hz, e2, hd⟩ := h.laid p hp
      have := apart_mem h.ok.apart hz h1 (e2.trans e)
      rw [this, h2] at hd
      cases hd
  · rw [(hm y hy).2] at hyd; cases hyd
/-! ## what was used stands first -/
def posL (c : Ch) : List Int := c.l.map Kd.pos
theorem posL_less (l : List Kd) (i : Int) : (less l i).map Kd.pos = (l.map Kd.pos).filter fun j => decide (j ≠ i) := by
  unfold less
  rw [List.filter_map]
  congr 1
  apply List.filter_congr
  intro x _
  simp [Kd.is]
/-- Behind a get: refused and nothing has turned, or the block stands first and the rest in their order. -/
theorem last_get {c : Ch} (hc : c.Ok) (i : Int) (t : Tx) (e : Int) : ((getC c i t e).1.2 ≠ 0 ∧ (getC c i t e).2 = c) ∨ ((getC c i t e).1.2 = 0 ∧ ∃ r, posL (getC c i t e).2 = i :: r ∧ r.Sublist ((posL c).filter fun j => decide (j ≠ i))) := by
  unfold getC
  cases hf : findL c.l i with
  | some x =>
    obtain ⟨h1, rfl⟩ := find_some hf
    refine .inr ⟨rfl, _, rfl, ?_⟩
    rw [posL_less]
    exact List.Sublist.refl _
  | none =>
    have hh := find_none.1 hf
    by_cases he : e = 0
    · simp only [if_pos he]
      cases hr : roomL c with
      | some l =>
        obtain ⟨h1, h2, h3⟩ := room_some hc hr
        refine .inr ⟨rfl, _, rfl, ?_⟩
        have : (posL c).filter (fun j => decide (j ≠ i)) = posL c := by
          rw [List.filter_eq_self]
          intro j hj
          rw [decide_eq_true_eq]
          exact fun e => not_has hh (e ▸ hj)
        rw [this]
        exact h2.map _
      | none => exact .inl ⟨by simp, rfl⟩
    · simp only [if_neg he]
      exact .inl ⟨he, by first | rfl | trivial⟩
/-- The next of a part of a list is found where it stands first. -/
theorem sub_next {α : Type} [DecidableEq α] {a : α} {r p q : List α} (h : (a :: r).Sublist (p ++ a :: q)) (hp : a ∉ p) : r.Sublist q := by
  induction p with
  | nil =>
    simp only [List.nil_append] at h
    exact List.Sublist.of_cons_cons h
  | cons b p ih =>
    simp only [List.cons_append] at h
    rw [List.mem_cons, not_or] at hp
    cases h with
    | cons _ h => exact ih h hp.2
    | cons_cons _ _ => exact absurd rfl hp.1
/-! ## behind Drop and Clean -/
theorem clean_none (c : Ch) : dirtyC (cleanC c) = [] := by
  unfold dirtyC cleanC
  have : (c.l.map fun x => ({ x with dirty := false } : Kd)).filter Kd.dirty = [] := by
    rw [List.filter_eq_nil_iff]
    intro x hx
    obtain ⟨y, _, rfl⟩ := List.mem_map.1 hx
    simp
  rw [this]; simp
theorem drop_none (c : Ch) : dirtyC (dropC c) = [] := by
  unfold dirtyC dropC
  have : (c.l.filter fun x => !x.dirty).filter Kd.dirty = [] := by
    rw [List.filter_eq_nil_iff]
    intro x hx
    have := (List.mem_filter.1 hx).2
    simp at this
    rw [this]; simp
  rw [this]; simp
theorem dirty_mem {c : Ch} {x : Kd} : x ∈ dirtyC c ↔ x ∈ c.l ∧ x.dirty = true := by
  unfold dirtyC
  rw [List.mem_mergeSort, List.mem_filter]
theorem drop_gone {c : Ch} (hc : c.Ok) {x : Kd} (h : x ∈ dirtyC c) : hasL (dropC c).l x.pos = false := by
  obtain ⟨h1, h2⟩ := dirty_mem.1 h
  rw [← Bool.not_eq_true]
  intro hh
  obtain ⟨y, hy, e⟩ := has_iff.1 hh
  obtain ⟨hy1, hy2⟩ := List.mem_filter.1 hy
  rw [apart_mem hc.apart hy1 h1 e, h2] at hy2
  cases hy2
theorem clean_kept {c : Ch} {x : Kd} (h : x ∈ dirtyC c) : hasL (cleanC c).l x.pos = true := by
  obtain ⟨h1, h2⟩ := dirty_mem.1 h
  exact has_iff.2 ⟨_, List.mem_map.2 ⟨x, h1, rfl⟩, rfl⟩
/-- The blocks of d, and what they hold. -/
def Holds (c : Ch) (i : Int) (d : Tx) : Prop := ∃ x ∈ c.l, x.pos = i ∧ x.data = d
theorem clean_holds {c : Ch} {x : Kd} (h : x ∈ dirtyC c) : Holds (cleanC c) x.pos x.data := by
  obtain ⟨h1, h2⟩ := dirty_mem.1 h
  exact ⟨_, List.mem_map.2 ⟨x, h1, rfl⟩, rfl, rfl⟩
/-- A block that is kept is told; all blocks that are kept stay. -/
theorem holds_get {c : Ch} (hc : c.Ok) {i : Int} {d : Tx} (h : Holds c i d) (t : Tx) (e : Int) : (getC c i t e).1 = (d, 0) ∧ ∀ j u, Holds c j u → Holds (getC c i t e).2 j u := by
  obtain ⟨x, hx, e1, e2⟩ := h
  have hf : findL c.l i = some x := by
    cases hf : findL c.l i with
    | none => exact absurd (find_none.1 hf) (by rw [has_iff.2 ⟨x, hx, e1⟩]; simp)
    | some y => rw [apart_mem hc.apart (find_some hf).1 hx ((find_some hf).2.trans e1.symm)]
  unfold getC
  rw [hf]
  refine ⟨by show (x.data, (0 : Int)) = _; rw [e2], fun j u ⟨y, hy, f1, f2⟩ => ?_⟩
  by_cases hxy : y.pos = x.pos
  · rw [apart_mem hc.apart hy hx hxy] at f1 f2
    exact ⟨x, List.mem_cons_self, f1, f2⟩
  · exact ⟨y, List.mem_cons_of_mem _ (mem_less.2 ⟨hy, by rw [← e1]; exact hxy⟩), f1, f2⟩
end Go.Cch
