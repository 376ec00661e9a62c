/- Chapter 4, what the laws do with raw numbers: the writes of an act, home as it is read; no program in sight. No conditions. -/
import Derived.Test.YtlgfjoicdbjfjaaDoorJrnOpen
namespace Go.Jrn
open Go.Wir Go.Blk Go.Frm

structure Act4 where
  op : Int
  n : Int
  pos : Int
  keep : List Bool
  blocks : List Int
  data : Txt
def pickJ (c : Int) (n : Nat) : Nat := ((if c < 0 then -(c + 1) else c) % (n : Int)).toNat
def byteJ (s : Txt) (i : Nat) : UInt8 := if s.length = 0 then 0 else s.getD (min i (s.length - 1)) 0
def dataJ (s : Txt) : Txt := (List.range 256).map (byteJ s)
theorem dataJ_length (s : Txt) : (dataJ s).length = 256 := by simp [dataJ]
/-- One write of an act. -/
def wrJ (s : Txt) (i : Nat) (b : Int) : Wr :=
  (if b % 41 = 0 ∧ b ≠ 0 then b else ((52 + pickJ b 18 : Nat) : Int), (UInt8.ofNat i :: (if b % 43 = 0 ∧ b ≠ 0 then s else dataJ s)).take 256)
def wrsF (s : Txt) : Nat → List Int → List Wr
  | _, [] => []
  | i, b :: l => wrJ s i b :: wrsF s (i + 1) l
def writesJ (a : Act4) : List Wr := wrsF a.data 0 (a.blocks.take 52)
theorem wrsF_length (s : Txt) : ∀ (l : List Int) (i : Nat), (wrsF s i l).length = l.length
  | [], _ => rfl
  | b :: l, i => by rw [wrsF, List.length_cons, wrsF_length s l, List.length_cons]
theorem writesJ_length (a : Act4) : (writesJ a).length ≤ 52 := by
  unfold writesJ; rw [wrsF_length, List.length_take]; omega
theorem wrsF_snoc (s : Txt) : ∀ (l : List Int) (i k : Nat) (hk : k < l.length), wrsF s i (l.take (k + 1)) = wrsF s i (l.take k) ++ [wrJ s (i + k) l[k]]
  | [], _, _, hk => by simp at hk
  | b :: l, i, 0, _ => by simp [wrsF]
  | b :: l, i, k + 1, hk => by
    simp only [List.take_succ_cons, wrsF, List.cons_append, List.getElem_cons_succ]
    rw [wrsF_snoc s l (i + 1) k (by simpa using hk)]
    congr 3; congr 1; omega
theorem wrJ_fit (s : Txt) (i : Nat) (b : Int) (h0 : -9223372036854775808 ≤ b) (h1 : b ≤ 9223372036854775807) : -9223372036854775808 ≤ (wrJ s i b).1 ∧ (wrJ s i b).1 ≤ 9223372036854775807 ∧ (wrJ s i b).2.length ≤ 256 := by
  have hp : pickJ b 18 < 18 := by
    unfold pickJ
    have h1 := Int.emod_lt_of_pos (if b < 0 then -(b + 1) else b) (show (0 : Int) < (18 : Nat) by omega)
    have h2 := Int.emod_nonneg (if b < 0 then -(b + 1) else b) (show ((18 : Nat) : Int) ≠ 0 by omega)
    omega
  refine ⟨?_, ?_, ?_⟩
  · show -9223372036854775808 ≤ (if b % 41 = 0 ∧ b ≠ 0 then b else ((52 + pickJ b 18 : Nat) : Int))
    split <;> omega
  · show (if b % 41 = 0 ∧ b ≠ 0 then b else ((52 + pickJ b 18 : Nat) : Int)) ≤ 9223372036854775807
    split <;> omega
  · show (List.take 256 _).length ≤ 256
    rw [List.length_take]; omega
theorem wrsF_fit (s : Txt) : ∀ (l : List Int) (i : Nat), (∀ b ∈ l, -9223372036854775808 ≤ b ∧ b ≤ 9223372036854775807) → ∀ p ∈ wrsF s i l, -9223372036854775808 ≤ p.1 ∧ p.1 ≤ 9223372036854775807 ∧ p.2.length ≤ 256
  | [], _, _, p, hp => by simp [wrsF] at hp
  | b :: l, i, h, p, hp => by
    rw [wrsF] at hp
    rcases List.mem_cons.1 hp with rfl | hp
    · exact wrJ_fit s i b (h b (by simp)).1 (h b (by simp)).2
    · exact wrsF_fit s l (i + 1) (fun q hq => h q (by simp [hq])) p hp
/-- Home, as it is read. -/
def homeL (d : Dv) : List Txt := (List.range 18).map fun i => readT d ((52 + i : Nat) : Int)
def homeM (m : Nat → Txt) : List Txt := (List.range 18).map fun i => m (52 + i)
theorem homeL_length (d : Dv) : (homeL d).length = 18 := by simp [homeL]
theorem homeM_length (m : Nat → Txt) : (homeM m).length = 18 := by simp [homeM]
theorem Up.homeL {K : Nat} {m : Nat → Txt} {d : Dv} {j : Jn} {fs : List (List Wr)} (h : Up 70 m K d j fs) : Go.Jrn.homeL d = homeM m := by
  unfold Go.Jrn.homeL homeM
  apply List.map_congr_left
  intro i hi
  rw [List.mem_range] at hi
  have hlen := h.inv.len
  have hin : inD d ((52 + i : Nat) : Int) = true := by unfold inD; rw [decide_eq_true (by omega), decide_eq_true (by omega)]; rfl
  unfold readT
  rw [h.alive, hin, Int.toNat_natCast]
  exact h.now (52 + i) (by omega) (by omega)
/-- What a row of writes at home makes of the list of home's blocks. -/
def setsL (L : List Txt) (l : List Wr) : List Txt := l.foldl (fun L p => L.set (p.1 - 52).toNat p.2) L
theorem setsL_length : ∀ (l : List Wr) (L : List Txt), (setsL L l).length = L.length
  | [], _ => rfl
  | p :: l, L => by
    show (setsL (L.set _ _) l).length = _
    rw [setsL_length l, List.length_set]
def Homes (n : Nat) (l : List Wr) : Prop := ∀ p ∈ l, 52 ≤ p.1 ∧ p.1 < (n : Int) ∧ p.2.length = 256
theorem homeM_upd : ∀ (l : List Wr) (m : Nat → Txt), Homes 70 l → homeM (upd m l) = setsL (homeM m) l
  | [], m, _ => rfl
  | p :: l, m, h => by
    have hp := h p (by simp)
    have ih := homeM_upd l (fun b => if p.1.toNat = b then p.2 else m b) (fun q hq => h q (by simp [hq]))
    show _ = setsL ((homeM m).set (p.1 - 52).toNat p.2) l
    have e : homeM (fun b => if p.1.toNat = b then p.2 else m b) = (homeM m).set (p.1 - 52).toNat p.2 := by
      apply List.ext_getElem
      · simp [homeM]
      · intro i h1 h2
        rw [List.getElem_set]
        simp only [homeM, List.getElem_map, List.getElem_range]
        by_cases hi : (p.1 - 52).toNat = i
        · rw [if_pos hi, if_pos (by omega)]
        · rw [if_neg hi, if_neg (by omega)]
    rw [← e, ← ih]
    rfl

end Go.Jrn
