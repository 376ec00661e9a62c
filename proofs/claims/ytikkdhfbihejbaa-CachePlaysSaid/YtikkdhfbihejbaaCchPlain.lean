/- Chapter 6 (cache), plain: the blocks that are kept, as a list, the one used last first; what calls do to it. No program in sight. No conditions. -/
namespace Go.Cch

abbrev Tx := List UInt8
/-- A block that is kept. -/
structure Kd where
  pos : Int
  data : Tx
  dirty : Bool
  pins : Nat
/-- A cache: what is kept, how many may be, how often the source told one. -/
structure Ch where
  l : List Kd
  most : Nat
  misses : Nat
def Kd.is (i : Int) (x : Kd) : Bool := decide (x.pos = i)
def hasL (l : List Kd) (i : Int) : Bool := l.any (Kd.is i)
def findL (l : List Kd) (i : Int) : Option Kd := l.find? (Kd.is i)
/-- All but the one at i. -/
def less (l : List Kd) (i : Int) : List Kd := l.filter fun x => !(x.is i)
def Kd.free (x : Kd) : Bool := !x.dirty && decide (x.pins = 0)
/-- There is some room, or it is made. -/
def roomL (c : Ch) : Option (List Kd) :=
  if c.l.length < c.most then some c.l
  else (c.l.reverse.find? Kd.free).map fun x => less c.l x.pos
def getC (c : Ch) (i : Int) (told : Tx) (e : Int) : (Tx × Int) × Ch :=
  match findL c.l i with
  | some x => ((x.data, 0), { c with l := x :: less c.l i })
  | none => if e = 0 then match roomL c with
      | some l => ((told, 0), { l := ⟨i, told, false, 0⟩ :: l, most := c.most, misses := c.misses + 1 })
      | none => (([], 14), c)
    else (([], e), c)
def putC (c : Ch) (i : Int) (d : Tx) : Int × Ch :=
  if d.length = 256 then match findL c.l i with
    | some x => (0, { c with l := { x with data := d, dirty := true } :: less c.l i })
    | none => match roomL c with
      | some l => (0, { c with l := ⟨i, d, true, 0⟩ :: l })
      | none => (14, c)
  else (3, c)
def pinC (c : Ch) (i : Int) : Int × Ch :=
  if hasL c.l i then (0, { c with l := c.l.map fun x => if x.is i then { x with pins := x.pins + 1 } else x }) else (10, c)
def unpinC (c : Ch) (i : Int) : Int × Ch :=
  match findL c.l i with
  | some x => if x.pins = 0 then (14, c) else (0, { c with l := c.l.map fun x => if x.is i then { x with pins := x.pins - 1 } else x })
  | none => (10, c)
def cleanC (c : Ch) : Ch := { c with l := c.l.map fun x => { x with dirty := false } }
def dropC (c : Ch) : Ch := { c with l := c.l.filter fun x => !x.dirty }
/-- The blocks that were laid down, in the order of their numbers. -/
def dirtyC (c : Ch) : List Kd := (c.l.filter Kd.dirty).mergeSort fun x y => decide (x.pos ≤ y.pos)
def newC (most : Nat) : Ch := ⟨[], most, 0⟩
/-! ## what stands in a list -/
theorem is_iff {i : Int} {x : Kd} : x.is i = true ↔ x.pos = i := by unfold Kd.is; exact decide_eq_true_iff
theorem find_some {l : List Kd} {i : Int} {x : Kd} (h : findL l i = some x) : x ∈ l ∧ x.pos = i := ⟨List.mem_of_find?_eq_some h, is_iff.1 (List.find?_some h)⟩
theorem find_none {l : List Kd} {i : Int} : findL l i = none ↔ hasL l i = false := by
  unfold findL hasL
  rw [List.find?_eq_none, List.any_eq_false]
theorem has_iff {l : List Kd} {i : Int} : hasL l i = true ↔ ∃ x ∈ l, x.pos = i := by
  unfold hasL
  rw [List.any_eq_true]
  exact ⟨fun ⟨x, h, e⟩ => ⟨x, h, is_iff.1 e⟩, fun ⟨x, h, e⟩ => ⟨x, h, is_iff.2 e⟩⟩
theorem mem_less {l : List Kd} {i : Int} {x : Kd} : x ∈ less l i ↔ x ∈ l ∧ x.pos ≠ i := by
  unfold less
  rw [List.mem_filter]
  refine and_congr Iff.rfl ?_
  unfold Kd.is
  rw [Bool.not_eq_true', decide_eq_false_iff_not]
/-- A cache whose blocks are different ones, no more than may be. -/
structure Ch.Ok (c : Ch) : Prop where
  one : 1 ≤ c.most
  many : c.l.length ≤ c.most
  apart : (c.l.map Kd.pos).Nodup
theorem apart_mem {l : List Kd} (h : (l.map Kd.pos).Nodup) {x y : Kd} (hx : x ∈ l) (hy : y ∈ l) (e : x.pos = y.pos) : x = y := by
  induction l with
  | nil => simp at hx
  | cons a l ih =>
    rw [List.map_cons, List.nodup_cons] at h
    rcases List.mem_cons.1 hx with h1 | h1 <;> rcases List.mem_cons.1 hy with h2 | h2
    · rw [h1, h2]
    · exact absurd (List.mem_map.2 ⟨y, h2, by rw [← e, h1]⟩) h.1
    · exact absurd (List.mem_map.2 ⟨x, h1, by rw [e, h2]⟩) h.1
    · exact ih h.2 h1 h2
theorem apart_less {l : List Kd} (h : (l.map Kd.pos).Nodup) (i : Int) : ((less l i).map Kd.pos).Nodup := by
  unfold less
  exact h.sublist (List.Sublist.map _ List.filter_sublist)
theorem less_len {l : List Kd} {i : Int} (h : ∃ x ∈ l, x.pos = i) : (less l i).length < l.length := by
  unfold less
  obtain ⟨x, hx, e⟩ := h
  exact List.length_filter_lt_length_iff_exists.2 ⟨x, hx, by simp [is_iff.2 e]⟩
theorem less_notin {l : List Kd} (i : Int) : i ∉ (less l i).map Kd.pos := by
  intro h
  obtain ⟨x, hx, e⟩ := List.mem_map.1 h
  exact (mem_less.1 hx).2 e
/-- What room leaves: a part of it, without one that is neither dirty nor pinned. -/
theorem room_some {c : Ch} (hc : c.Ok) {l : List Kd} (h : roomL c = some l) : l.length < c.most ∧ l.Sublist c.l ∧ ∀ x ∈ c.l, x.free = false → x ∈ l := by
  unfold roomL at h
  split at h
  · rename_i hl
    simp only [Option.some.injEq] at h
    subst h
    exact ⟨hl, List.Sublist.refl _, fun x hx _ => hx⟩
  · rename_i hl
    obtain ⟨y, hy, rfl⟩ := Option.map_eq_some_iff.1 h
    have hm := List.mem_reverse.1 (List.mem_of_find?_eq_some hy)
    have hf := List.find?_some hy
    have h1 := less_len ⟨y, hm, rfl⟩
    have h2 := hc.many
    refine ⟨by omega, List.filter_sublist, fun x hx hxf => mem_less.2 ⟨hx, fun e => ?_⟩⟩
    rw [apart_mem hc.apart hx hm e] at hxf
    rw [hf] at hxf
    cases hxf
theorem map_pos {l : List Kd} {f : Kd → Kd} (h : ∀ x, (f x).pos = x.pos) : (l.map f).map Kd.pos = l.map Kd.pos := by
  rw [List.map_map]; exact List.map_congr_left fun x _ => h x
theorem cons_ok {c : Ch} (hc : c.Ok) {l : List Kd} (hl : l.length < c.most) (hs : l.Sublist c.l) (x : Kd) (hx : x.pos ∉ l.map Kd.pos) (m : Nat) : Ch.Ok ⟨x :: l, c.most, m⟩ :=
  ⟨hc.one, by simp only [List.length_cons]; omega, by simp only [List.map_cons, List.nodup_cons]; exact ⟨hx, hc.apart.sublist (hs.map _)⟩⟩
theorem not_has {l : List Kd} {i : Int} (h : hasL l i = false) : i ∉ l.map Kd.pos := by
  intro hm
  obtain ⟨x, hx, e⟩ := List.mem_map.1 hm
  rw [has_iff.2 ⟨x, hx, e⟩] at h
  cases h
theorem front_ok {c : Ch} (hc : c.Ok) {x y : Kd} (hx : x ∈ c.l) (hy : y.pos = x.pos) (m : Nat) : Ch.Ok ⟨y :: less c.l x.pos, c.most, m⟩ := by
  have h1 := less_len ⟨x, hx, rfl⟩
  have h2 := hc.many
  exact cons_ok hc (l := less c.l x.pos) (by omega) List.filter_sublist y (by rw [hy]; exact less_notin _) m
theorem get_ok {c : Ch} (hc : c.Ok) (i : Int) (t : Tx) (e : Int) : (getC c i t e).2.Ok := by
  unfold getC
  split
  · rename_i x hx
    obtain ⟨h1, rfl⟩ := find_some hx
    exact front_ok hc h1 rfl c.misses
  · rename_i hx
    split
    · split
      · rename_i l hl
        obtain ⟨h1, h2, -⟩ := room_some hc hl
        exact cons_ok hc h1 h2 _ (fun hm => not_has (find_none.1 hx) ((h2.map _).subset hm)) _
      · exact hc
    · exact hc
theorem put_ok {c : Ch} (hc : c.Ok) (i : Int) (d : Tx) : (putC c i d).2.Ok := by
  unfold putC
  split
  · split
    · rename_i x hx
      obtain ⟨h1, rfl⟩ := find_some hx
      exact front_ok hc h1 (y := { x with data := d, dirty := true }) rfl c.misses
    · rename_i hx
      split
      · rename_i l hl
        obtain ⟨h1, h2, -⟩ := room_some hc hl
        exact cons_ok hc h1 h2 _ (fun hm => not_has (find_none.1 hx) ((h2.map _).subset hm)) _
      · exact hc
  · exact hc
theorem turn_ok {c : Ch} (hc : c.Ok) {f : Kd → Kd} (h : ∀ x, (f x).pos = x.pos) : Ch.Ok { c with l := c.l.map f } :=
  ⟨hc.one, by simp only [List.length_map]; exact hc.many, by show ((c.l.map f).map Kd.pos).Nodup; rw [map_pos h]; exact hc.apart⟩
theorem pin_ok {c : Ch} (hc : c.Ok) (i : Int) : (pinC c i).2.Ok := by
  unfold pinC
  split
  · exact turn_ok hc (fun x => by split <;> rfl)
  · exact hc
theorem unpin_ok {c : Ch} (hc : c.Ok) (i : Int) : (unpinC c i).2.Ok := by
  unfold unpinC
  split
  · split
    · exact hc
    · exact turn_ok hc (fun x => by split <;> rfl)
  · exact hc
theorem clean_ok {c : Ch} (hc : c.Ok) : (cleanC c).Ok := turn_ok hc (fun _ => rfl)
theorem drop_ok {c : Ch} (hc : c.Ok) : (dropC c).Ok :=
  ⟨hc.one, Nat.le_trans (List.length_filter_le _ _) hc.many, hc.apart.sublist (List.filter_sublist.map _)⟩
theorem new_ok {most : Nat} (h : 1 ≤ most) : (newC most).Ok := ⟨h, Nat.zero_le _, List.nodup_nil⟩
/-! ## acts -/
structure Act where
  op : Int
  pos : Int
  byte : UInt8
  bad : Bool
def pickI (c n : Int) : Int := (if c < 0 then -(c + 1) else c).tmod n
def Act.kind (a : Act) : Int := pickI a.op 10
def Act.block (a : Act) : Int := if a.pos.tmod 37 = 0 then a.pos else pickI a.pos 12
def fullT (b : UInt8) : Tx := List.replicate 256 b
def Act.data (a : Act) : Tx := if a.bad then [120] else fullT a.byte
/-- The source: the byte i, 256 times. -/
def srcT (i : Int) : Tx := fullT i.toNat.toUInt8
def srcE (i : Int) : Int := if 0 ≤ i ∧ i < 200 then 0 else 2
def does (c : Ch) (a : Act) : (Tx × Int) × Ch :=
  if a.kind = 4 ∨ a.kind = 5 then (([], (putC c a.block a.data).1), (putC c a.block a.data).2)
  else if a.kind = 6 then (([], (pinC c a.block).1), (pinC c a.block).2)
  else if a.kind = 7 then (([], (unpinC c a.block).1), (unpinC c a.block).2)
  else if a.kind = 8 then (([], 0), cleanC c)
  else if a.kind = 9 then (([], 0), dropC c)
  else getC c a.block (if srcE a.block = 0 then srcT a.block else []) (srcE a.block)
theorem does_ok {c : Ch} (hc : c.Ok) (a : Act) : (does c a).2.Ok := by
  unfold does
  split
  · exact put_ok hc _ _
  · split
    · exact pin_ok hc _
    · split
      · exact unpin_ok hc _
      · split
        · exact clean_ok hc
        · split
          · exact drop_ok hc
          · exact get_ok hc _ _ _
theorem does_most (c : Ch) (a : Act) : (does c a).2.most = c.most := by
  unfold does putC pinC unpinC cleanC dropC getC
  repeat' split
  all_goals rfl
end Go.Cch
