/- What the laws of chapter 1 share: acts in memory, a flush, a clean device. No conditions. -/
import Derived.Test.YtbcagddgchpheaaBlkM
namespace Go.Proofs.Ytbcagddgchpheaa
open Go.RowKit Go.Blk

theorem Acts.below {w w' : World} {v : Value} {l : List Act} (h : Acts w v l) (b : Below w.heap.size w w') : Acts w' v l := by
  rcases h with h | ⟨b0, off, cap, h1, h2, h3⟩
  · exact .inl h
  · refine .inr ⟨b0, off, cap, h1, Nat.lt_of_lt_of_le h2 b.size, fun i hi => ?_⟩
    obtain ⟨vk, c0, c1, c2, c3, c4, hr⟩ := h3 i hi
    exact ⟨vk, cell_call b c0, cell_call b c1, cell_call b c2, cell_call b c3, cell_call b c4, hr.below b⟩
theorem flush_bad {d : Dv} (h : flushE d ≠ 0) : flushE d = 4 ∧ (flushD d).dead = true := by
  unfold flushE flushD turnOk turnD at *
  by_cases hd : d.dead = true
  · simp [hd]
  · by_cases hf : d.fuse = 0
    · simp [hd, hf]
    · simp [hd, hf] at h
theorem flush_good {d : Dv} (h : flushE d = 0) : (flushD d).dead = false ∧ (flushD d).pend = [] := by
  unfold flushE flushD turnOk turnD at *
  by_cases hd : d.dead = true
  · simp [hd] at h
  · by_cases hf : d.fuse = 0
    · simp [hd, hf] at h
    · simp [hd, hf]
theorem read_clean {d : Dv} (hd : d.dead = false) (hp : d.pend = []) (i : Nat) (hi : i < d.disk.length) : readT d i = d.disk[i] ∧ readE d i = 0 := by
  unfold readT readE inD
  rw [hd, hp]
  have h1 : (decide ((0 : Int) ≤ (i : Int)) && decide ((i : Int) < (d.disk.length : Int))) = true := by simp; omega
  rw [h1]
  simp [lastW, hi]
/-- The device after some acts: it may be, and few writes are pending. -/
theorem made_facts (n : Int) (l : List Act) (hl : l.length ≤ 60) (hok : ∀ a ∈ l, a.Ok) : (doesAll (newD (1 + pickN n 12)) l).Ok ∧ (doesAll (newD (1 + pickN n 12)) l).pend.length ≤ 60 := by
  have hpk := pickN_lt n 12 (by omega)
  refine ⟨doesAll_ok (newD_ok _ (by omega) (by omega)) l hok, ?_⟩
  have := doesAll_pend (newD (1 + pickN n 12)) l
  rw [show (newD (1 + pickN n 12)).pend.length = 0 from rfl] at this
  omega
theorem disk256 {d : Dv} (h : d.Ok) (i : Nat) (hi : i < d.disk.length) : d.disk[i].length = 256 := h.disk _ (List.getElem_mem hi)
theorem bounds_i64 {z : Int} (hc : (Lit.int .i64 z).wf = true) : -9223372036854775808 ≤ z ∧ z ≤ 9223372036854775807 := by
  simp [Lit.wf, IntKind.min, IntKind.max, IntKind.signed, IntKind.bits] at hc
  omega
end Go.Proofs.Ytbcagddgchpheaa
