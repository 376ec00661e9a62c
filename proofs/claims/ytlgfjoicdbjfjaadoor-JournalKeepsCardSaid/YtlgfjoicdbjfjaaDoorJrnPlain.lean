/- The plain functions of chapter 4 (the journal) and their laws: what is done to the device, what a crash leaves of it; no program in sight. No conditions. -/
import Derived.Test.YtlgfjoicdbjfjaaDoorFrmPlain
namespace Go.Jrn
open Go.Wir Go.Blk Go.Frm

/-! ### slots -/
def magicS : Txt := [67, 68, 88, 83]
/-- What a slot says. -/
structure Sl where
  e : Nat
  s : Nat
  log : Nat
  p : Nat
def halfT (x : Sl) : Txt := magicS ++ fixedL (x.e % 4294967296) ++ fixedL (x.e / 4294967296) ++ fixedL (x.s % 4294967296) ++ fixedL (x.s / 4294967296) ++ fixedL x.log ++ fixedL x.p ++ List.replicate 100 0
def slotT (x : Sl) : Txt := halfT x ++ halfT x
def slotOf (t : Txt) : Sl := ⟨numAt t 4 + 4294967296 * numAt t 8, numAt t 12 + 4294967296 * numAt t 16, numAt t 20, numAt t 24⟩
def okB (t : Txt) (n : Nat) : Bool := decide (50 ≤ (slotOf t).log) && (decide ((slotOf t).log + 3 ≤ n) && (decide ((slotOf t).p < (slotOf t).log) && decide (slotT (slotOf t) = t)))
theorem halfT_length (x : Sl) : (halfT x).length = 128 := by
  unfold halfT
  simp only [List.length_append, fixedL_length, List.length_replicate]; rfl
theorem slotT_length (x : Sl) : (slotT x).length = 256 := by unfold slotT; rw [List.length_append, halfT_length]
def Sl.Fit (x : Sl) : Prop := x.e < 18446744073709551616 ∧ x.s < 18446744073709551616 ∧ x.log < 4294967296 ∧ x.p < 4294967296
theorem slotOf_slotT (x : Sl) (h : x.Fit) : slotOf (slotT x) = x := by
  obtain ⟨h1, h2, h3, h4⟩ := h
  obtain ⟨e, s, log, p⟩ := x
  have key : ∀ (a b : Txt) (i : Nat) (v : Nat), a.length = i → v < 4294967296 → numAt (a ++ (fixedL v ++ b)) i = v := fun a b i v ha hv => by
    subst ha
    have := numAt_right a (fixedL v ++ b) 0
    rw [Nat.add_zero] at this
    rw [this, numAt_fixed v b hv]
  simp only at h1 h2 h3 h4
  unfold slotOf slotT halfT
  simp only [List.append_assoc]
  have e1 := key magicS (fixedL (e / 4294967296) ++ (fixedL (s % 4294967296) ++ (fixedL (s / 4294967296) ++ (fixedL log ++ (fixedL p ++ (List.replicate 100 0 ++ (magicS ++ (fixedL (e % 4294967296) ++ (fixedL (e / 4294967296) ++ (fixedL (s % 4294967296) ++ (fixedL (s / 4294967296) ++ (fixedL log ++ (fixedL p ++ List.replicate 100 0))))))))))))) 4 (e % 4294967296) rfl (by omega)
  have e2 := key (magicS ++ fixedL (e % 4294967296)) (fixedL (s % 4294967296) ++ (fixedL (s / 4294967296) ++ (fixedL log ++ (fixedL p ++ (List.replicate 100 0 ++ (magicS ++ (fixedL (e % 4294967296) ++ (fixedL (e / 4294967296) ++ (fixedL (s % 4294967296) ++ (fixedL (s / 4294967296) ++ (fixedL log ++ (fixedL p ++ List.replicate 100 0)))))))))))) 8 (e / 4294967296) rfl (by omega)
  have e3 := key (magicS ++ (fixedL (e % 4294967296) ++ fixedL (e / 4294967296))) (fixedL (s / 4294967296) ++ (fixedL log ++ (fixedL p ++ (List.replicate 100 0 ++ (magicS ++ (fixedL (e % 4294967296) ++ (fixedL (e / 4294967296) ++ (fixedL (s % 4294967296) ++ (fixedL (s / 4294967296) ++ (fixedL log ++ (fixedL p ++ List.replicate 100 0))))))))))) 12 (s % 4294967296) rfl (by omega)
  have e4 := key (magicS ++ (fixedL (e % 4294967296) ++ (fixedL (e / 4294967296) ++ fixedL (s % 4294967296)))) (fixedL log ++ (fixedL p ++ (List.replicate 100 0 ++ (magicS ++ (fixedL (e % 4294967296) ++ (fixedL (e / 4294967296) ++ (fixedL (s % 4294967296) ++ (fixedL (s / 4294967296) ++ (fixedL log ++ (fixedL p ++ List.replicate 100 0)))))))))) 16 (s / 4294967296) rfl (by omega)
  have e5 := key (magicS ++ (fixedL (e % 4294967296) ++ (fixedL (e / 4294967296) ++ (fixedL (s % 4294967296) ++ fixedL (s / 4294967296))))) (fixedL p ++ (List.replicate 100 0 ++ (magicS ++ (fixedL (e % 4294967296) ++ (fixedL (e / 4294967296) ++ (fixedL (s % 4294967296) ++ (fixedL (s / 4294967296) ++ (fixedL log ++ (fixedL p ++ List.replicate 100 0))))))))) 20 log rfl h3
  have e6 := key (magicS ++ (fixedL (e % 4294967296) ++ (fixedL (e / 4294967296) ++ (fixedL (s % 4294967296) ++ (fixedL (s / 4294967296) ++ fixedL log))))) (List.replicate 100 0 ++ (magicS ++ (fixedL (e % 4294967296) ++ (fixedL (e / 4294967296) ++ (fixedL (s % 4294967296) ++ (fixedL (s / 4294967296) ++ (fixedL log ++ (fixedL p ++ List.replicate 100 0)))))))) 24 p rfl h4
  simp only [List.append_assoc] at e1 e2 e3 e4 e5 e6
  rw [e1, e2, e3, e4, e5, e6]
  congr 1 <;> omega
theorem okB_slotT (x : Sl) (h : x.Fit) (n : Nat) (h1 : 50 ≤ x.log) (h2 : x.log + 3 ≤ n) (h3 : x.p < x.log) : okB (slotT x) n = true := by
  unfold okB
  rw [slotOf_slotT x h]
  simp only [decide_eq_true h1, decide_eq_true h2, decide_eq_true h3, decide_true, Bool.and_true]
theorem okB_doubled {t : Txt} {n : Nat} (h : okB t n = true) : t.take 128 = t.drop 128 ∧ slotT (slotOf t) = t := by
  unfold okB at h
  simp only [Bool.and_eq_true, decide_eq_true_eq] at h
  have h4 := h.2.2.2
  refine ⟨?_, h4⟩
  rw [← h4]
  unfold slotT
  rw [List.take_left' (halfT_length _), List.drop_left' (halfT_length _)]
theorem okB_zeros (n : Nat) : okB zeros n = false := by
  rw [Bool.eq_false_iff]
  intro h
  have h1 := (okB_doubled h).2
  have h2 : (slotT (slotOf zeros)).head? = zeros.head? := by rw [h1]
  have h3 : (slotT (slotOf zeros)).head? = some 67 := rfl
  have h4 : zeros.head? = some 0 := rfl
  rw [h3, h4] at h2
  exact absurd h2 (by decide)

/-! ### what is done -/
/-- The journal: the slot that counts, where it lies, the next number, how many blocks of the log are used. -/
structure Jn where
  x : Sl
  pos : Nat
  next : Nat
  used : Nat
def wrs : Dv → List Wr → Nat × Dv
  | d, [] => (0, d)
  | d, p :: l => if writeE d p.1 p.2 = 0 then wrs (writeD d p.1 p.2) l else (writeE d p.1 p.2, writeD d p.1 p.2)
def lays (d : Dv) (l : List Wr) : Nat × Dv := if (wrs d l).1 = 0 then (flushE (wrs d l).2, flushD (wrs d l).2) else wrs d l
def placeN (j : Jn) (k : Nat) : Nat := 2 + (j.x.p + j.used + k) % j.x.log
def homeB (j : Jn) (n : Nat) (i : Int) : Bool := decide (((2 + j.x.log : Nat) : Int) ≤ i) && decide (i < (n : Int))
def nextSl (j : Jn) : Sl := ⟨j.x.e + 1, j.next, j.x.log, (j.x.p + j.used) % j.x.log⟩
def ckJ (j : Jn) : Jn := ⟨nextSl j, 1 - j.pos, j.next, 0⟩
def ckD1 (d : Dv) (j : Jn) : Nat × Dv := lays d [(((placeN j 0 : Nat) : Int), zeros)]
def ckD2 (d : Dv) (j : Jn) : Nat × Dv := lays (ckD1 d j).2 [(((1 - j.pos : Nat) : Int), slotT (nextSl j))]
def ckpt (d : Dv) (j : Jn) : Nat × Dv × Jn :=
  if (ckD1 d j).1 = 0 then (if (ckD2 d j).1 = 0 then (0, (ckD2 d j).2, ckJ j) else ((ckD2 d j).1, (ckD2 d j).2, j)) else ((ckD1 d j).1, (ckD1 d j).2, j)
def badH (j : Jn) (n : Nat) : List Wr → Nat
  | [] => 0
  | p :: l => if homeB j n p.1 then (if p.2.length = 256 then badH j n l else 3) else 2
def checkE (j : Jn) (n : Nat) (l : List Wr) : Nat := if l.length = 0 ∨ 48 < l.length then 6 else badH j n l
def logF (j : Jn) (k : Nat) : List Txt → List Wr
  | [] => []
  | s :: l => (((placeN j k : Nat) : Int), s) :: logF j (k + 1) l
def logW (j : Jn) (l : List Wr) : List Wr := logF j 1 (datas l ++ [zeros])
def advJ (j : Jn) (m : Nat) : Jn := { j with next := j.next + 1, used := j.used + (m + 1) }
/-- A commit of a journal that has room. -/
def comD1 (d : Dv) (j : Jn) (l : List Wr) : Nat × Dv := lays d (logW j l)
def comD2 (d : Dv) (j : Jn) (l : List Wr) : Nat × Dv := lays (comD1 d j l).2 [(((placeN j 0 : Nat) : Int), headT j.next (ats l) (datas l))]
def comMain (d : Dv) (j : Jn) (l : List Wr) : Nat × Dv × Jn :=
  if (comD1 d j l).1 = 0 then (if (comD2 d j l).1 = 0 then ((wrs (comD2 d j l).2 l).1, (wrs (comD2 d j l).2 l).2, advJ j l.length) else ((comD2 d j l).1, (comD2 d j l).2, j)) else ((comD1 d j l).1, (comD1 d j l).2, j)
def fullB (j : Jn) (l : List Wr) : Bool := decide (j.x.log < j.used + (l.length + 2))
def comPre (d : Dv) (j : Jn) (l : List Wr) : Nat × Dv × Jn := if fullB j l then ckpt d j else (0, d, j)
def commit (d : Dv) (j : Jn) (l : List Wr) : Nat × Dv × Jn :=
  if checkE j d.disk.length l = 0 then (if (comPre d j l).1 = 0 then comMain (comPre d j l).2.1 (comPre d j l).2.2 l else comPre d j l) else (checkE j d.disk.length l, d, j)
/-- The frame behind those that are used. -/
def readsL (d : Dv) (j : Jn) : List Txt := (List.range (min (j.x.log - j.used) 49)).map fun k => readT d ((placeN j k : Nat) : Int)
def frameR (d : Dv) (j : Jn) : Option (List (Nat × Txt)) := match unpL (readsL d j) with
  | .error _ => none
  | .ok (seq, ws) => if seq = j.next ∧ ws.all (fun p => homeB j d.disk.length ((p.1 : Nat) : Int)) = true then some ws else none
def intW' (l : List (Nat × Txt)) : List Wr := l.map fun p => (((p.1 : Nat) : Int), p.2)
def replay : Nat → Dv → Jn → Nat × Dv × Jn
  | 0, d, j => (0, d, j)
  | k + 1, d, j => match frameR d j with
    | none => (0, d, j)
    | some ws => if (wrs d (intW' ws)).1 = 0 then replay k (wrs d (intW' ws)).2 (advJ j ws.length) else ((wrs d (intW' ws)).1, (wrs d (intW' ws)).2, j)
def cand (d : Dv) (i : Nat) : Option Sl := if okB (readT d ((i : Nat) : Int)) d.disk.length then some (slotOf (readT d ((i : Nat) : Int))) else none
def choose (d : Dv) : Option (Sl × Nat) := match cand d 0, cand d 1 with
  | none, none => none
  | some a, none => some (a, 0)
  | none, some b => some (b, 1)
  | some a, some b => if a.e < b.e then some (b, 1) else some (a, 0)
def openP (d : Dv) : Nat × Dv × Option Jn :=
  if d.dead then (4, d, none) else match choose d with
    | none => (10, d, none)
    | some (x, pos) =>
      if (replay 60 d ⟨x, pos, x.s, 0⟩).1 = 0 then
        (if (ckpt (replay 60 d ⟨x, pos, x.s, 0⟩).2.1 (replay 60 d ⟨x, pos, x.s, 0⟩).2.2).1 = 0 then (0, (ckpt (replay 60 d ⟨x, pos, x.s, 0⟩).2.1 (replay 60 d ⟨x, pos, x.s, 0⟩).2.2).2.1, some (ckpt (replay 60 d ⟨x, pos, x.s, 0⟩).2.1 (replay 60 d ⟨x, pos, x.s, 0⟩).2.2).2.2)
         else ((ckpt (replay 60 d ⟨x, pos, x.s, 0⟩).2.1 (replay 60 d ⟨x, pos, x.s, 0⟩).2.2).1, (ckpt (replay 60 d ⟨x, pos, x.s, 0⟩).2.1 (replay 60 d ⟨x, pos, x.s, 0⟩).2.2).2.1, none))
      else ((replay 60 d ⟨x, pos, x.s, 0⟩).1, (replay 60 d ⟨x, pos, x.s, 0⟩).2.1, none)
def formW (log : Nat) : List Wr := ((List.range (log + 1)).map fun (i : Nat) => (((i + 1 : Nat) : Int), zeros)) ++ [((0 : Int), slotT ⟨1, 1, log, 0⟩)]
def formE (d : Dv) (log : Nat) : Nat × Dv := if 50 ≤ log ∧ log + 3 ≤ d.disk.length then lays d (formW log) else (2, d)
end Go.Jrn
