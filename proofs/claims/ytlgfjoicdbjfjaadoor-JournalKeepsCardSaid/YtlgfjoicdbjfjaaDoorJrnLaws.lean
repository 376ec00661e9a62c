/- Chapter 4, laws of the plain journal: what a crash may leave, what the calls keep. No conditions. -/
import Derived.Test.YtlgfjoicdbjfjaaDoorJrnPlain
namespace Go.Jrn
open Go.Wir Go.Blk Go.Frm

/-! ### lists -/
theorem getD_set (dk : List Txt) (i b : Nat) (s : Txt) (hi : i < dk.length) : (dk.set i s).getD b [] = if i = b then s else dk.getD b [] := by
  simp only [List.getD_eq_getElem?_getD, List.getElem?_set]
  by_cases e : i = b
  · subst e; simp [hi]
  · simp [e]
theorem getD_set' (dk : List Txt) (i b : Nat) (s : Txt) (hb : b < dk.length) : (dk.set i s).getD b [] = if i = b then s else dk.getD b [] := by
  simp only [List.getD_eq_getElem?_getD, List.getElem?_set]
  by_cases e : i = b
  · subst e; simp [hb]
  · simp [e]
/-- What a crash leaves of one block. -/
theorem crash_block (P : Txt → Prop) (keep : List Bool) (torn : Int) (c b : Nat) : ∀ (l : List (Nat × Txt)) (k : Nat) (dk : List Txt), b < dk.length → P (dk.getD b []) → (∀ s, (b, s) ∈ l → P s ∧ ∀ t, P t → P (s.take c ++ t.drop c)) → P ((crashL keep torn c k l dk).getD b [])
  | [], _, _, _, h, _ => h
  | p :: l, k, dk, hb, h, hl => by
    simp only [crashL]
    have hl' : ∀ s, (b, s) ∈ l → P s ∧ ∀ t, P t → P (s.take c ++ t.drop c) := fun s hs => hl s (by simp [hs])
    refine crash_block P keep torn c b l (k + 1) _ ?_ ?_ hl'
    · split
      · simpa using hb
      · split
        · simpa using hb
        · exact hb
    · split
      · rw [getD_set' _ _ _ _ hb]
        split
        · rename_i e; exact (hl p.2 (by subst e; simp)).1
        · exact h
      · split
        · rw [getD_set' _ _ _ _ hb]
          split
          · rename_i e; exact e ▸ (hl p.2 (by subst e; simp)).2 _ (e ▸ h)
          · exact h
        · exact h
theorem crash_far (keep : List Bool) (torn : Int) (c b : Nat) (l : List (Nat × Txt)) (dk : List Txt) (hb : b < dk.length) (h : ∀ p ∈ l, p.1 ≠ b) : (crashL keep torn c 0 l dk).getD b [] = dk.getD b [] :=
  crash_block (fun t => t = dk.getD b []) keep torn c b l 0 dk hb rfl (fun _ hs => absurd rfl (h _ hs))
theorem lastW_wrote : ∀ (l : List (Nat × Txt)) (b : Nat) (s t : Txt), (∃ p ∈ l, p.1 = b) → lastW l b s = lastW l b t
  | [], _, _, _, h => by obtain ⟨p, hp, _⟩ := h; simp at hp
  | p :: l, b, s, t, h => by
    show lastW l b (if p.1 = b then p.2 else s) = lastW l b (if p.1 = b then p.2 else t)
    by_cases e : p.1 = b
    · rw [if_pos e, if_pos e]
    · rw [if_neg e, if_neg e]
      obtain ⟨q, hq, hb⟩ := h
      rcases List.mem_cons.1 hq with rfl | hq
      · exact absurd hb e
      · exact lastW_wrote l b s t ⟨q, hq, hb⟩
theorem lastW_not (l : List (Nat × Txt)) (b : Nat) (s : Txt) (h : ¬ ∃ p ∈ l, p.1 = b) : lastW l b s = s := lastW_none l b s (fun p hp e => h ⟨p, hp, e⟩)

/-! ### writes, as they are pending -/
def Pnd := List (Nat × Txt)
/-- Writes that a device takes. -/
def Takes (n : Nat) (l : List Wr) : Prop := ∀ p ∈ l, 0 ≤ p.1 ∧ p.1 < (n : Int) ∧ p.2.length = 256
theorem natW_append (a b : List Wr) : natW (a ++ b) = natW a ++ natW b := by simp [natW]
theorem natW_take (a : List Wr) (k : Nat) : natW (a.take k) = (natW a).take k := by simp [natW, List.map_take]
theorem natW_length (a : List Wr) : (natW a).length = a.length := by simp [natW]
theorem natW_intW' (l : List (Nat × Txt)) : natW (intW' l) = l := by
  unfold natW intW'
  rw [List.map_map]
  conv => rhs; rw [← List.map_id l]
  apply List.map_congr_left
  intro p _; simp
theorem write_good {d : Dv} {i : Int} {s : Txt} (ha : d.dead = false) (hi : 0 ≤ i ∧ i < (d.disk.length : Int) ∧ s.length = 256) :
    (d.fuse ≠ 0 ∧ writeE d i s = 0 ∧ writeD d i s = { turnD d with pend := d.pend ++ [(i.toNat, s)] }) ∨ (d.fuse = 0 ∧ writeE d i s = 4 ∧ writeD d i s = { d with dead := true }) := by
  have hin : inD d i = true := by unfold inD; rw [decide_eq_true hi.1, decide_eq_true hi.2.1]; rfl
  by_cases hf : d.fuse = 0
  · right
    have ht : turnOk d = false := by unfold turnOk; rw [hf]; rfl
    refine ⟨hf, ?_, ?_⟩
    · unfold writeE; rw [ha, hin, if_pos hi.2.2, ht]; rfl
    · unfold writeD; rw [ha, hin, if_pos hi.2.2, ht]; unfold turnD; rw [if_pos hf]; rfl
  · left
    have ht : turnOk d = true := by unfold turnOk; rw [decide_eq_true hf]
    refine ⟨hf, ?_, ?_⟩
    · unfold writeE; rw [ha, hin, if_pos hi.2.2, ht]; rfl
    · unfold writeD; rw [ha, hin, if_pos hi.2.2, ht]; rfl
theorem turn_alive {d : Dv} (hf : d.fuse ≠ 0) : (turnD d).dead = d.dead ∧ (d.fuse = -1 → (turnD d).fuse = -1) := by
  unfold turnD
  rw [if_neg hf]
  refine ⟨rfl, fun h => ?_⟩
  show (if 0 < d.fuse then d.fuse - 1 else d.fuse) = -1
  rw [if_neg (by omega), h]
/-- A row of writes: all pending, or the power gone behind some of them. -/
theorem wrs_spec : ∀ (l : List Wr) (d : Dv), d.Ok → d.dead = false → Takes d.disk.length l →
    ((wrs d l).2.Ok ∧ (wrs d l).2.disk = d.disk) ∧
    (((wrs d l).1 = 0 ∧ (wrs d l).2.dead = false ∧ (wrs d l).2.pend = d.pend ++ natW l ∧ (d.fuse = -1 → (wrs d l).2.fuse = -1)) ∨
     ((wrs d l).1 = 4 ∧ (wrs d l).2.dead = true ∧ d.fuse ≠ -1 ∧ ∃ k, (wrs d l).2.pend = d.pend ++ (natW l).take k))
  | [], d, hok, ha, _ => ⟨⟨hok, rfl⟩, .inl ⟨rfl, ha, by simp [wrs, natW], fun h => h⟩⟩
  | p :: l, d, hok, ha, hl => by
    have hp := hl p (by simp)
    have hn : natW (p :: l) = (p.1.toNat, p.2) :: natW l := rfl
    rcases write_good ha hp with ⟨hf, hE, hD⟩ | ⟨hf, hE, hD⟩
    · have hw : wrs d (p :: l) = wrs (writeD d p.1 p.2) l := by rw [wrs, if_pos hE]
      have hdk : (writeD d p.1 p.2).disk = d.disk := by rw [hD]; exact (turn_same d).1
      have hal : (writeD d p.1 p.2).dead = false := by rw [hD]; show (turnD d).dead = false; rw [(turn_alive hf).1, ha]
      obtain ⟨⟨i1, i2⟩, i3⟩ := wrs_spec l (writeD d p.1 p.2) (write_ok hok _ _) hal (fun q hq => by rw [hdk]; exact hl q (by simp [hq]))
      have hpd : (writeD d p.1 p.2).pend = d.pend ++ [(p.1.toNat, p.2)] := by rw [hD]
      have hfu : d.fuse = -1 → (writeD d p.1 p.2).fuse = -1 := fun h => by rw [hD]; exact (turn_alive hf).2 h
      rw [hw, hn]
      refine ⟨⟨i1, i2.trans hdk⟩, ?_⟩
      rcases i3 with ⟨j1, j2, j3, j4⟩ | ⟨j1, j2, j3, k, j4⟩
      · exact .inl ⟨j1, j2, by rw [j3, hpd, List.append_assoc]; rfl, fun h => j4 (hfu h)⟩
      · exact .inr ⟨j1, j2, fun h => j3 (hfu h), k + 1, by rw [j4, hpd, List.append_assoc]; rfl⟩
    · have hw : wrs d (p :: l) = (4, writeD d p.1 p.2) := by rw [wrs, hE]; rfl
      rw [hw, hn]
      refine ⟨⟨write_ok hok _ _, by rw [hD]⟩, .inr ⟨rfl, by rw [hD], by omega, 0, by rw [hD]; simp⟩⟩
/-- Some writes and a flush. -/
theorem lays_spec (d : Dv) (l : List Wr) (hok : d.Ok) (ha : d.dead = false) (hl : Takes d.disk.length l) :
    (lays d l).2.Ok ∧ (((lays d l).1 = 0 ∧ (lays d l).2.dead = false ∧ (lays d l).2.pend = [] ∧ (lays d l).2.disk = lay d.disk (d.pend ++ natW l) ∧ (d.fuse = -1 → (lays d l).2.fuse = -1)) ∨
     ((lays d l).1 = 4 ∧ (lays d l).2.dead = true ∧ d.fuse ≠ -1 ∧ (lays d l).2.disk = d.disk ∧ ∃ k, (lays d l).2.pend = d.pend ++ (natW l).take k)) := by
  obtain ⟨⟨i1, i2⟩, i3⟩ := wrs_spec l d hok ha hl
  rcases i3 with ⟨j1, j2, j3, j4⟩ | ⟨j1, j2, j3, k, j4⟩
  · have hw : lays d l = (flushE (wrs d l).2, flushD (wrs d l).2) := by unfold lays; rw [if_pos j1]
    rw [hw]
    generalize (wrs d l).2 = d1 at *
    refine ⟨flush_ok i1, ?_⟩
    by_cases hf : d1.fuse = 0
    · have ht : turnOk d1 = false := by unfold turnOk; rw [hf]; rfl
      right
      refine ⟨by show flushE d1 = 4; unfold flushE; rw [j2, ht]; rfl, ?_, fun h => by have := j4 h; omega, ?_, (natW l).length, ?_⟩
      · show (flushD d1).dead = true; unfold flushD; rw [j2, ht]; unfold turnD; rw [if_pos hf]; rfl
      · show (flushD d1).disk = _; unfold flushD; rw [j2, ht]; unfold turnD; rw [if_pos hf]; exact i2
      · show (flushD d1).pend = _; unfold flushD; rw [j2, ht]; unfold turnD; rw [if_pos hf, List.take_length]; exact j3
    · have ht : turnOk d1 = true := by unfold turnOk; rw [decide_eq_true hf]
      have hD : flushD d1 = { turnD d1 with disk := lay d1.disk d1.pend, pend := [] } := by unfold flushD; rw [j2, ht]; rfl
      left
      refine ⟨by show flushE d1 = 0; unfold flushE; rw [j2, ht]; rfl, ?_, ?_, ?_, fun h => ?_⟩
      · show (flushD d1).dead = false; rw [hD]; show (turnD d1).dead = false; rw [(turn_alive hf).1, j2]
      · show (flushD d1).pend = []; rw [hD]
      · show (flushD d1).disk = _; rw [hD, i2, j3]
      · show (flushD d1).fuse = -1; rw [hD]; exact (turn_alive hf).2 (j4 h)
  · have hw : lays d l = wrs d l := by unfold lays; rw [if_neg (by omega)]
    rw [hw]
    exact ⟨i1, .inr ⟨j1, j2, j3, i2, k, j4⟩⟩
end Go.Jrn
