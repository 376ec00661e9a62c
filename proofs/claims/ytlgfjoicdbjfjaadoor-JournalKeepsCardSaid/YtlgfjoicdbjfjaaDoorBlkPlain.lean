/- The plain functions of chapter 1 (a raw device) and their laws; no program in sight. No conditions. -/
import GoSem.Op.String
namespace Go.Blk

abbrev Txt := List UInt8
/-- What lies on the blocks; what is pending; the fuse; is the power gone? -/
structure Dv where
  disk : List Txt
  pend : List (Nat × Txt)
  fuse : Int
  dead : Bool
def zeros : Txt := List.replicate 256 0
def newD (n : Nat) : Dv := ⟨List.replicate n zeros, [], -1, false⟩
/-- What the last of some writes lays on a block. -/
def lastW (l : List (Nat × Txt)) (i : Nat) (s : Txt) : Txt := l.foldl (fun s p => if p.1 = i then p.2 else s) s
def lay (dk : List Txt) (l : List (Nat × Txt)) : List Txt := l.foldl (fun dk p => dk.set p.1 p.2) dk
def inD (d : Dv) (i : Int) : Bool := decide (0 ≤ i) && decide (i < d.disk.length)
def readT (d : Dv) (i : Int) : Txt := if d.dead then [] else if inD d i then lastW d.pend i.toNat (d.disk.getD i.toNat []) else []
def readE (d : Dv) (i : Int) : Nat := if d.dead then 4 else if inD d i then 0 else 2
def turnE (d : Dv) : Nat := if d.fuse = 0 then 4 else 0
def turnOk (d : Dv) : Bool := decide (d.fuse ≠ 0)
def turnD (d : Dv) : Dv := if d.fuse = 0 then { d with dead := true } else { d with fuse := if 0 < d.fuse then d.fuse - 1 else d.fuse }
def writeE (d : Dv) (i : Int) (s : Txt) : Nat := if d.dead then 4 else if inD d i then (if s.length = 256 then (if turnOk d then 0 else 4) else 3) else 2
def writeD (d : Dv) (i : Int) (s : Txt) : Dv := if d.dead then d else if inD d i then (if s.length = 256 then (if turnOk d then { turnD d with pend := d.pend ++ [(i.toNat, s)] } else turnD d) else d) else d
def flushE (d : Dv) : Nat := if d.dead then 4 else if turnOk d then 0 else 4
def flushD (d : Dv) : Dv := if d.dead then d else if turnOk d then { turnD d with disk := lay d.disk d.pend, pend := [] } else turnD d
def fuseD (d : Dv) (n : Int) : Dv := { d with fuse := max n (-1) }
def cutN (c : Int) : Nat := (min (max c 0) 256).toNat
/-- What a crash lays down of the writes from the k-th on. -/
def crashL (keep : List Bool) (torn : Int) (c : Nat) : Nat → List (Nat × Txt) → List Txt → List Txt
  | _, [], dk => dk
  | k, p :: l, dk => crashL keep torn c (k + 1) l (if keep.getD k false then dk.set p.1 p.2 else if (k : Int) = torn then dk.set p.1 (p.2.take c ++ (dk.getD p.1 []).drop c) else dk)
def crashD (d : Dv) (keep : List Bool) (torn cut : Int) : Dv := ⟨crashL keep torn (cutN cut) 0 d.pend d.disk, [], -1, false⟩

/-- A device that may be: whole blocks, writes of blocks that are. -/
structure Dv.Ok (d : Dv) : Prop where
  n0 : 0 < d.disk.length
  n1 : d.disk.length ≤ 4096
  disk : ∀ s ∈ d.disk, s.length = 256
  pend : ∀ p ∈ d.pend, p.1 < d.disk.length ∧ p.2.length = 256
  fuse0 : -1 ≤ d.fuse
  fuse1 : d.fuse ≤ 9223372036854775807
theorem zeros_length : zeros.length = 256 := List.length_replicate ..
theorem newD_ok (n : Nat) (h0 : 0 < n) (h1 : n ≤ 4096) : (newD n).Ok :=
  ⟨by simp [newD, h0], by simp [newD, h1], fun s hs => by rw [List.eq_of_mem_replicate hs, zeros_length], by simp [newD], by simp [newD], by simp [newD]⟩
theorem lay_length : ∀ (l : List (Nat × Txt)) (dk : List Txt), (lay dk l).length = dk.length
  | [], _ => rfl
  | p :: l, dk => by
    show (lay (dk.set p.1 p.2) l).length = _
    rw [lay_length l]; simp
theorem set_all {P : Txt → Prop} {dk : List Txt} (h : ∀ s ∈ dk, P s) (i : Nat) (s : Txt) (hs : P s) : ∀ t ∈ dk.set i s, P t := by
  intro t ht
  rcases List.mem_or_eq_of_mem_set ht with h1 | rfl
  · exact h t h1
  · exact hs
theorem lay_all {P : Txt → Prop} : ∀ (l : List (Nat × Txt)) (dk : List Txt), (∀ s ∈ dk, P s) → (∀ p ∈ l, P p.2) → ∀ s ∈ lay dk l, P s
  | [], _, h, _ => h
  | p :: l, dk, h, hl => lay_all l (dk.set p.1 p.2) (set_all h _ _ (hl p (by simp))) (fun q hq => hl q (by simp [hq]))
theorem turn_ok {d : Dv} (h : d.Ok) : (turnD d).Ok := by
  unfold turnD
  have h0 := h.fuse0
  have h1 := h.fuse1
  split
  · exact ⟨h.n0, h.n1, h.disk, h.pend, h.fuse0, h.fuse1⟩
  · exact ⟨h.n0, h.n1, h.disk, h.pend, by show -1 ≤ (if 0 < d.fuse then d.fuse - 1 else d.fuse); split <;> omega, by show (if 0 < d.fuse then d.fuse - 1 else d.fuse) ≤ _; split <;> omega⟩
theorem turn_same (d : Dv) : (turnD d).disk = d.disk ∧ (turnD d).pend = d.pend := by unfold turnD; split <;> exact ⟨rfl, rfl⟩
theorem write_ok {d : Dv} (h : d.Ok) (i : Int) (s : Txt) : (writeD d i s).Ok := by
  unfold writeD
  split
  · exact h
  · split
    · rename_i hi
      split
      · rename_i hs
        split
        · have ht := turn_ok h
          obtain ⟨e1, e2⟩ := turn_same d
          refine ⟨ht.n0, ht.n1, ht.disk, fun p hp => ?_, ht.fuse0, ht.fuse1⟩
          show p.1 < (turnD d).disk.length ∧ _
          rw [e1]
          rcases List.mem_append.1 hp with hp | hp
          · exact h.pend p hp
          · simp only [List.mem_singleton] at hp
            subst hp
            unfold inD at hi
            rw [Bool.and_eq_true, decide_eq_true_eq, decide_eq_true_eq] at hi
            exact ⟨by show i.toNat < _; omega, hs⟩
        · exact turn_ok h
      · exact h
    · exact h
theorem flush_ok {d : Dv} (h : d.Ok) : (flushD d).Ok := by
  unfold flushD
  split
  · exact h
  · split
    · have ht := turn_ok h
      refine ⟨by show 0 < (lay _ _).length; rw [lay_length]; exact h.n0, by show (lay _ _).length ≤ _; rw [lay_length]; exact h.n1, lay_all d.pend d.disk h.disk (fun p hp => (h.pend p hp).2), by intro p hp; simp at hp, ht.fuse0, ht.fuse1⟩
    · exact turn_ok h
theorem fuse_ok {d : Dv} (h : d.Ok) (n : Int) (hn : n ≤ 9223372036854775807) : (fuseD d n).Ok :=
  ⟨h.n0, h.n1, h.disk, h.pend, by show -1 ≤ max n (-1); omega, by show max n (-1) ≤ _; omega⟩
theorem crashL_length (keep : List Bool) (torn : Int) (c : Nat) : ∀ (l : List (Nat × Txt)) (k : Nat) (dk : List Txt), (crashL keep torn c k l dk).length = dk.length
  | [], _, _ => rfl
  | p :: l, k, dk => by
    simp only [crashL]
    rw [crashL_length keep torn c l]
    split
    · simp
    · split <;> simp
theorem getD_all {P : Txt → Prop} {dk : List Txt} (h : ∀ s ∈ dk, P s) (i : Nat) (hi : i < dk.length) : P (dk.getD i []) := by
  rw [List.getD_eq_getElem?_getD, List.getElem?_eq_getElem hi]
  exact h _ (List.getElem_mem hi)
theorem crashL_all (keep : List Bool) (torn : Int) (c : Nat) (hc : c ≤ 256) : ∀ (l : List (Nat × Txt)) (k : Nat) (dk : List Txt), (∀ s ∈ dk, s.length = 256) → (∀ p ∈ l, p.1 < dk.length ∧ p.2.length = 256) → ∀ s ∈ crashL keep torn c k l dk, s.length = 256
  | [], _, _, h, _ => h
  | p :: l, k, dk, h, hl => by
    simp only [crashL]
    have hp := hl p (by simp)
    refine crashL_all keep torn c hc l (k + 1) _ ?_ (fun q hq => ?_)
    · split
      · exact set_all h _ _ hp.2
      · split
        · refine set_all h _ _ ?_
          rw [List.length_append, List.length_take, List.length_drop, hp.2, getD_all (P := fun s => s.length = 256) h p.1 hp.1]
          omega
        · exact h
    · have := hl q (by simp [hq])
      refine ⟨?_, this.2⟩
      split
      · rw [List.length_set]; exact this.1
      · split
        · rw [List.length_set]; exact this.1
        · exact this.1
theorem cutN_le (c : Int) : cutN c ≤ 256 := by unfold cutN; omega
theorem crash_ok {d : Dv} (h : d.Ok) (keep : List Bool) (torn cut : Int) : (crashD d keep torn cut).Ok :=
  ⟨by show 0 < (crashL _ _ _ _ _ _).length; rw [crashL_length]; exact h.n0, by show (crashL _ _ _ _ _ _).length ≤ _; rw [crashL_length]; exact h.n1, crashL_all keep torn _ (cutN_le cut) d.pend 0 d.disk h.disk h.pend, by intro p hp; simp [crashD] at hp, by show (-1 : Int) ≤ -1; omega, by show (-1 : Int) ≤ _; omega⟩
theorem lastW_append (l m : List (Nat × Txt)) (i : Nat) (s : Txt) : lastW (l ++ m) i s = lastW m i (lastW l i s) := by simp [lastW]
theorem lastW_none (l : List (Nat × Txt)) (i : Nat) (s : Txt) (h : ∀ p ∈ l, p.1 ≠ i) : lastW l i s = s := by
  induction l with
  | nil => rfl
  | cons p l ih =>
    show lastW l i (if p.1 = i then p.2 else s) = s
    rw [if_neg (h p (by simp))]
    exact ih (fun q hq => h q (by simp [hq]))
theorem lastW_all {P : Txt → Prop} : ∀ (l : List (Nat × Txt)) (i : Nat) (s : Txt), P s → (∀ p ∈ l, P p.2) → P (lastW l i s)
  | [], _, _, h, _ => h
  | p :: l, i, s, h, hl => by
    show P (lastW l i (if p.1 = i then p.2 else s))
    refine lastW_all l i _ ?_ (fun q hq => hl q (by simp [hq]))
    split
    · exact hl p (by simp)
    · exact h
/-- What lies there behind all writes is what the last one lays there. -/
theorem lay_get : ∀ (l : List (Nat × Txt)) (dk : List Txt) (i : Nat), i < dk.length → (lay dk l).getD i [] = lastW l i (dk.getD i [])
  | [], _, _, _ => rfl
  | p :: l, dk, i, hi => by
    show (lay (dk.set p.1 p.2) l).getD i [] = lastW l i (if p.1 = i then p.2 else dk.getD i [])
    rw [lay_get l _ i (by rw [List.length_set]; exact hi)]
    congr 1
    simp only [List.getD_eq_getElem?_getD, List.getElem?_set]
    by_cases e : p.1 = i
    · subst e; simp [hi]
    · simp [e]
end Go.Blk
