/- A region that draws its order, by the values of its operations: each operation's value is shown once, out of those that it reads. No conditions. -/
import Derived.Test.YtpppecabpociaaaRegionInv
namespace Go.Proofs.Ytpppecabpociaaa
open Go.RowKit

section
variable {P : Program} {ops : Array Oper} {Q : Exit → Act → World → Prop} {md : Region.Mode}
theorem ready_all {listed : Array Bool} (hac : ∀ (i : Nat) (h : i < ops.size) (e : Edge), e ∈ ops[i].after → e.on < i) (hs : listed.size = ops.size) (hr : Region.ready md ops listed = []) : ∀ k i, i < k → i < ops.size → listed.getD i false = true := by
  intro k
  induction k with
  | zero => intro i h; omega
  | succ k ih =>
    intro i hi ho
    by_cases h : i < k
    · exact ih i h ho
    obtain rfl : i = k := by omega
    cases h1 : listed.getD i false with
    | true => rfl
    | false =>
      exfalso
      have hm : i ∈ Region.ready md ops listed := by
        unfold Region.ready
        simp only [List.mem_filter, List.mem_range, Bool.and_eq_true, Bool.not_eq_true']
        refine ⟨ho, ?_, ?_⟩
        · have hl : i < listed.size := by omega
          simp only [Array.getD, hl, dite_true] at h1 ⊢
          exact h1
        · rw [Array.getElem?_eq_getElem ho]
          simp only [Option.map_some, Option.getD_some, Array.all_eq_true']
          intro e he
          have := hac i ho e he
          rw [ih e.on this (by omega)]; simp
      rw [hr] at hm; simp at hm
theorem acyclic_of (h : ((List.range ops.size).all fun i => (ops[i]?).all fun o => o.after.all fun e => decide (e.on < i)) = true) : ∀ (i : Nat) (h : i < ops.size) (e : Edge), e ∈ ops[i].after → e.on < i := by
  intro i hi e he
  have h1 := List.all_eq_true.1 h i (List.mem_range.2 hi)
  rw [Array.getElem?_eq_getElem hi] at h1
  simp only [Option.all_some, Array.all_eq_true', decide_eq_true_eq] at h1
  exact h1 e he
theorem getD_other {l : Array Bool} {i j : Nat} (hij : i ≠ j) : (l.setIfInBounds i true).getD j false = l.getD j false := by
  rw [Array.getD_eq_getD_getElem?, Array.getD_eq_getD_getElem?, Array.getElem?_setIfInBounds, if_neg hij]
theorem put_get (act : Act) (d s : Nat) (v : Value) : (act.put (some d) v).tmps[s]? = if d = s ∧ s < act.tmps.size then some v else act.tmps[s]? := by
  simp only [Act.put]
  by_cases h : d = s
  · subst h
    by_cases h2 : d < act.tmps.size
    · simp [h2]
    · simp [h2]
  · simp [h, Array.getElem?_setIfInBounds]
/-- Everything but the region's own slots is as it was. -/
def Rest (a act : Act) (D : Nat → Nat) (N : Nat) : Prop := act.defers = a.defers ∧ act.tmps.size = a.tmps.size ∧ ∀ s, (∀ j, j < N → D j ≠ s) → act.tmps[s]? = a.tmps[s]?
theorem wp_region_vals {id : Nat} {a : Act} {w : World} (hm : P.follows .mixedOrders = true) (V : Nat → World → Value → Prop) (D : Nat → Nat)
    (hdst : ∀ i (h : i < ops.size), ops[i].dst = some (D i)) (hgd : ∀ i (h : i < ops.size), ops[i].guard = none) (hin : ∀ i, i < ops.size → D i < a.tmps.size) (hinj : ∀ i j, i < ops.size → j < ops.size → D i = D j → i = j)
    (hac : ∀ (i : Nat) (h : i < ops.size) (e : Edge), e ∈ ops[i].after → e.on < i)
    (hV : ∀ i w1 w2 v, Below w1.heap.size w1 w2 → V i w1 v → V i w2 v)
    (hstep : ∀ i (h : i < ops.size) (act : Act) (w1 : World) (K : Act → World → Prop), Below w.heap.size w w1 → Rest a act D ops.size → (∀ e ∈ ops[i].after, Region.binds .any e = true → ∃ v, act.tmps[D e.on]? = some v ∧ V e.on w1 v) →
      (∀ v w2, Below w1.heap.size w1 w2 → V i w2 v → K (act.put (some (D i)) v) w2) → ops[i].wp P act w1 K Q)
    (hend : ∀ (act : Act) (w1 : World), Below w.heap.size w w1 → Rest a act D ops.size → (∀ i, i < ops.size → ∃ v, act.tmps[D i]? = some v ∧ V i w1 v) → Q .normal act w1) :
    (Code.region id ops true).wp P Q a w := by
  refine wp_region_inv hm (fun listed act w1 => listed.size = ops.size ∧ Below w.heap.size w w1 ∧ Rest a act D ops.size ∧ ∀ i, i < ops.size → listed.getD i false = true → ∃ v, act.tmps[D i]? = some v ∧ V i w1 v) ?_ ?_ ?_
  · refine ⟨by simp, ⟨rfl, rfl, rfl, Nat.le_refl _, fun _ _ => rfl⟩, ⟨rfl, rfl, fun _ _ => rfl⟩, fun i hi h => ?_⟩
    simp only [Array.getD, Array.size_replicate] at h
    split at h <;> simp at h
  · rintro listed act w1 i ⟨hs, hb, hr, hv⟩ hi
    obtain ⟨hlt, _, o, ho, hdep⟩ := ready_spec hi
    have ho' : ops[i]? = some ops[i] := Array.getElem?_eq_getElem hlt
    rw [ho'] at ho
    obtain rfl := Option.some.inj ho
    unfold wpOp
    rw [ho']
    simp only
    rw [if_pos (by simp [Region.wanted, hgd i hlt])]
    refine .inl (hstep i hlt act w1 _ hb hr (fun e he hbd => ?_) (fun v w2 hb2 hv2 => ?_))
    · have := hac i hlt e he
      exact hv e.on (by omega) (hdep e he hbd)
    · refine ⟨by simpa using hs, hb.trans (hb2.mono hb.size), ⟨?_, ?_, fun s hns => ?_⟩, fun j hj hl => ?_⟩
      · exact hr.1
      · simp only [Act.put, Array.size_setIfInBounds]; exact hr.2.1
      · rw [put_get, if_neg (fun h => hns i hlt h.1)]; exact hr.2.2 s hns
      · by_cases e : i = j
        · subst e
          exact ⟨v, by rw [put_get, if_pos ⟨rfl, by rw [hr.2.1]; exact hin i hlt⟩], hv2⟩
        · rw [getD_other e] at hl
          obtain ⟨u, h1, h2⟩ := hv j hj hl
          exact ⟨u, by rw [put_get, if_neg (fun h => e (hinj i j hlt hj h.1))]; exact h1, hV j _ _ _ hb2 h2⟩
  · rintro listed act w1 ⟨hs, hb, hr, hv⟩ hready
    exact hend act w1 hb hr (fun i hi => hv i hi (ready_all hac hs hready (i + 1) i (by omega) hi))
end
end Go.Proofs.Ytpppecabpociaaa
