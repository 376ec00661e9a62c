/- A device that a law holds: what its calls leave as it was. Conditions: as the calls'. -/
import Derived.Test.YtlgfjoicdbjfjaaDoorBlkF
namespace Go.Proofs.YtlgfjoicdbjfjaaDoor
open Go.RowKit Go.Blk

/-- A device made since w0, apart from the blocks R. -/
def Live (w0 w : World) (g : Nat) (od : Option Nat) (d : Dv) (R : Nat → Prop) : Prop := ∃ op, DevAt 80 w g od op d ∧ (∀ k, ownV g od op k → w0.heap.size ≤ k ∧ ¬ R k) ∧ (∀ k, R k → k < w.heap.size) ∧ Below w0.heap.size w0 w
def Keeps (R : Nat → Prop) (w w' : World) : Prop := ∀ k, R k → w'.heap[k]? = w.heap[k]?
def noneR : Nat → Prop := fun _ => False
theorem Keeps.refl (R : Nat → Prop) (w : World) : Keeps R w w := fun _ _ => rfl
theorem Keeps.trans {R : Nat → Prop} {w w1 w2 : World} (h : Keeps R w w1) (h2 : Keeps R w1 w2) : Keeps R w w2 := fun k hk => (h2 k hk).trans (h k hk)
theorem own_keeps {R : Nat → Prop} {w w' : World} {base : Nat} {e : TypeId} {size : Nat} {v : Value} {n : Nat} {xs : List Value} (h : w.ownsRow base e size v n xs) (hR : ∀ k, v.ownBlock = some k → R k) (c : Keeps R w w') : w'.ownsRow base e size v n xs := by
  refine ⟨h.1, ?_⟩
  rcases h.2 with hn | ⟨g, cap, cur, rfl, hb, hg, h3⟩
  · exact .inl hn
  · exact .inr ⟨g, cap, cur, rfl, hb, (c g (hR g rfl)).trans hg, h3⟩
section
variable {w0 w w' : World} {g : Nat} {od : Option Nat} {d d' : Dv} {R : Nat → Prop}
theorem Live.size (h : Live w0 w g od d R) : Below w0.heap.size w0 w := by obtain ⟨_, _, _, _, h⟩ := h; exact h
theorem Live.call (h : Live w0 w g od d R) (b : Below w.heap.size w w') : Live w0 w' g od d R ∧ Keeps R w w' := by
  obtain ⟨op, h1, h2, h3, h4⟩ := h
  exact ⟨⟨op, h1.below b, h2, fun k hk => Nat.lt_of_lt_of_le (h3 k hk) b.size, step_call h4 b⟩, fun k hk => b.block k (h3 k hk)⟩
theorem Live.mut {op : Option Nat} (_ : DevAt 80 w g od op d) (h2 : ∀ k, ownV g od op k → w0.heap.size ≤ k ∧ ¬ R k) (h3 : ∀ k, R k → k < w.heap.size) (h4 : Below w0.heap.size w0 w) (m : Mut 80 w w' g od op d') : Live w0 w' g od d' R ∧ Keeps R w w' := by
  obtain ⟨op', m1, m2, m3⟩ := m
  refine ⟨⟨op', m1, fun k hk => ?_, fun k hk => Nat.lt_of_lt_of_le (h3 k hk) m3.size, h4.trans (m3.below h4.size (fun k hk => (h2 k hk).1))⟩, fun k hk => m3.block k (h3 k hk) (fun ho => (h2 k ho).2 hk)⟩
  rcases hk with hk | hk | hk
  · exact h2 k (.inl hk)
  · exact h2 k (.inr (.inl hk))
  · rcases m2 k hk with h5 | h5
    · exact h2 k (.inr (.inr h5))
    · exact ⟨Nat.le_trans h4.size h5, fun hr => by have := h3 k hr; omega⟩
theorem Live.of_dev {op : Option Nat} (h1 : DevAt 80 w g od op d) (h2 : ∀ k, ownV g od op k → w0.heap.size ≤ k) (h4 : Below w0.heap.size w0 w) : Live w0 w g od d noneR := ⟨op, h1, fun k hk => ⟨h2 k hk, fun h => h⟩, fun _ h => h.elim, h4⟩
/-- One block more to keep: it has come since. -/
theorem Live.more (h : Live w0 w g od d R) (b : Below w.heap.size w w') (v : Value) (hv : ∀ k, v.ownBlock = some k → w.heap.size ≤ k ∧ k < w'.heap.size) : Live w0 w' g od d (fun k => R k ∨ v.ownBlock = some k) := by
  obtain ⟨op, h1, h2, h3, h4⟩ := h
  refine ⟨op, h1.below b, fun k hk => ⟨(h2 k hk).1, fun hr => ?_⟩, fun k hk => ?_, step_call h4 b⟩
  · rcases hr with hr | hr
    · exact (h2 k hk).2 hr
    · have := h1.lt k hk; have := (hv k hr).1; omega
  · rcases hk with hk | hk
    · exact Nat.lt_of_lt_of_le (h3 k hk) b.size
    · exact (hv k hk).2
/-- Blocks that lay there before the law's device may be kept too. -/
theorem Live.old (h : Live w0 w g od d R) : Live w0 w g od d (fun k => R k ∨ k < w0.heap.size) := by
  obtain ⟨op, h1, h2, h3, h4⟩ := h
  refine ⟨op, h1, fun k hk => ⟨(h2 k hk).1, fun hr => ?_⟩, fun k hk => ?_, h4⟩
  · rcases hr with hr | hr
    · exact (h2 k hk).2 hr
    · have := (h2 k hk).1; omega
  · rcases hk with hk | hk
    · exact h3 k hk
    · exact Nat.lt_of_lt_of_le hk h4.size
theorem Live.less {R' : Nat → Prop} (h : Live w0 w g od d R) (hR : ∀ k, R' k → R k) : Live w0 w g od d R' := by
  obtain ⟨op, h1, h2, h3, h4⟩ := h
  exact ⟨op, h1, fun k hk => ⟨(h2 k hk).1, fun hr => (h2 k hk).2 (hR k hr)⟩, fun k hk => h3 k (hR k hk), h4⟩
theorem live_Read (h : Live w0 w g od d R) (ok : d.Ok) (hp : d.pend.length ≤ 100000) (i : Int) (h1 : -9223372036854775808 ≤ i) (h2 : i ≤ 9223372036854775807) :
    Calls Tryd.prog 25 #[.pointer (some ⟨g, 0, none⟩), .int .i64 i] w fun e w' => e = .returned (.tuple #[.string (B (readT d i)), .int .i64 (readE d i : Nat)]) ∧ Live w0 w' g od d R ∧ Keeps R w w' := by
  obtain ⟨op, a1, a2, a3, a4⟩ := id h
  exact (dev_Read d i g od op w a1 ok hp h1 h2).mono (fun e w' ⟨h5, h6⟩ => ⟨h5, h.call h6⟩)
theorem live_Write (h : Live w0 w g od d R) (ok : d.Ok) (hp : d.pend.length ≤ 100000) (i : Int) (s : ByteArray) (h1 : -9223372036854775808 ≤ i) (h2 : i ≤ 9223372036854775807) (hs : s.size ≤ 9223372036854775807) :
    Calls Tryd.prog 51 #[.pointer (some ⟨g, 0, none⟩), .int .i64 i, .string s] w fun e w' => e = .returned (.int .i64 (writeE d i (L s) : Nat)) ∧ Live w0 w' g od (writeD d i (L s)) R ∧ Keeps R w w' := by
  obtain ⟨op, a1, a2, a3, a4⟩ := h
  exact (dev_Write d i s g od op w a1 ok hp h1 h2 hs).mono (fun e w' ⟨h5, h6⟩ => ⟨h5, Live.mut a1 a2 a3 a4 h6⟩)
theorem live_Flush (h : Live w0 w g od d R) (ok : d.Ok) (hp : d.pend.length ≤ 100000) :
    Calls Tryd.prog 29 #[.pointer (some ⟨g, 0, none⟩)] w fun e w' => e = .returned (.int .i64 (flushE d : Nat)) ∧ Live w0 w' g od (flushD d) R ∧ Keeps R w w' := by
  obtain ⟨op, a1, a2, a3, a4⟩ := h
  exact (dev_Flush d g od op w a1 ok hp).mono (fun e w' ⟨h5, h6⟩ => ⟨h5, Live.mut a1 a2 a3 a4 h6⟩)
theorem live_Fuse (h : Live w0 w g od d R) (n : Int) :
    Calls Tryd.prog 19 #[.pointer (some ⟨g, 0, none⟩), .int .i64 n] w fun e w' => e = .returned (.tuple #[]) ∧ Live w0 w' g od (fuseD d n) R ∧ Keeps R w w' := by
  obtain ⟨op, a1, a2, a3, a4⟩ := h
  exact (dev_Fuse d n g od op w a1).mono (fun e w' ⟨h5, h6⟩ => ⟨h5, Live.mut a1 a2 a3 a4 h6⟩)
theorem live_Dead (h : Live w0 w g od d R) :
    Calls Tryd.prog 27 #[.pointer (some ⟨g, 0, none⟩)] w fun e w' => e = .returned (.bool d.dead) ∧ w = w' := by
  obtain ⟨op, a1, a2, a3, a4⟩ := h
  exact dev_Dead d g od op w a1
theorem live_Blocks (h : Live w0 w g od d R) :
    Calls Tryd.prog 26 #[.pointer (some ⟨g, 0, none⟩)] w fun e w' => e = .returned (.int .i64 (d.disk.length : Nat)) ∧ w = w' := by
  obtain ⟨op, a1, a2, a3, a4⟩ := h
  exact dev_Blocks d g od op w a1
/-- A crash: what is kept lies before the device, or apart from it. -/
theorem live_Crash (h : Live w0 w g od d R) (ok : d.Ok) (hp : d.pend.length ≤ 100000) (vk : Value) (keep : List Bool) (torn cut : Int) (hkeep : Row w vk (keep.map Value.bool)) (hkd : 0 < keep.length → ∀ q, vk.ownBlock = some q → q < w0.heap.size ∨ R q) (hkl : keep.length ≤ 100000) :
    Calls Tryd.prog 22 #[.pointer (some ⟨g, 0, none⟩), vk, .int .i64 torn, .int .i64 cut] w fun e w' => e = .returned (.tuple #[]) ∧ Live w0 w' g od (crashD d keep torn cut) R ∧ Keeps R w w' := by
  obtain ⟨op, a1, a2, a3, a4⟩ := h
  refine (dev_Crash d vk keep torn cut g od op w a1 ok hp hkeep (fun h0 q hq ho => ?_) hkl).mono (fun e w' ⟨h5, h6⟩ => ⟨h5, Live.mut a1 a2 a3 a4 h6⟩)
  have h5 := a2 q ho
  rcases hkd h0 q hq with h6 | h6
  · omega
  · exact h5.2 h6
theorem own_some {base : Nat} {e : TypeId} {size : Nat} {v : Value} {n : Nat} {xs : List Value} (h : w.ownsRow base e size v n xs) (k : Nat) (hk : v.ownBlock = some k) : base ≤ k ∧ k < w.heap.size := h.lt k hk
theorem live_Disk (h : Live w0 w g od d R) (hp : d.disk.length ≤ 100000) :
    Calls Tryd.prog 28 #[.pointer (some ⟨g, 0, none⟩)] w fun e w' => ∃ v', e = .returned v' ∧ w'.ownsRow w.heap.size 9 1 v' d.disk.length (txtCells d.disk) ∧ Live w0 w' g od d (fun k => R k ∨ v'.ownBlock = some k) ∧ Keeps R w w' := by
  obtain ⟨op, a1, a2, a3, a4⟩ := id h
  exact (dev_Disk d g od op w a1 hp).mono (fun e w' ⟨h5, v', h6, h7⟩ => ⟨v', h6, h7, h.more h5 v' (own_some h7), (h.call h5).2⟩)
theorem live_New (n : Nat) (h1 : 1 ≤ n) (h2 : n ≤ 4096) (hw : Below w0.heap.size w0 w) : Calls Tryd.prog 30 #[.int .i64 (n : Nat)] w fun e w' => ∃ g od, e = .returned (.tuple #[.pointer (some ⟨g, 0, none⟩), .int .i64 0]) ∧ Live w0 w' g od (newD n) noneR :=
  (dev_New n h1 h2 w).mono (fun _ _ ⟨g, od, h5, h6, h7, h8⟩ => ⟨g, od, h5, Live.of_dev h6 (fun k hk => Nat.le_trans hw.size (h7 k hk)) (step_call hw h8)⟩)
end
end Go.Proofs.YtlgfjoicdbjfjaaDoor
