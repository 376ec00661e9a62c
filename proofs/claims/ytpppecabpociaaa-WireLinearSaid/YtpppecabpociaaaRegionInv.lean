/- A region that draws its order, by an invariant: what holds ahead of it, and is kept by each operation whose operands are there, holds behind it. No conditions. -/
import Derived.Test.YtpppecabpociaaaBase
import Derived.RegionTactic
namespace Go.Proofs.Ytpppecabpociaaa
open Go.RowKit

section
variable {P : Program} {ops : Array Oper} {Q : Exit → Act → World → Prop} {md : Region.Mode}
theorem ready_spec {listed : Array Bool} {i : Nat} (h : i ∈ Region.ready md ops listed) : i < ops.size ∧ listed.getD i true = false ∧ ∃ o, ops[i]? = some o ∧ ∀ e ∈ o.after, Region.binds md e = true → listed.getD e.on false = true := by
  unfold Region.ready at h
  simp only [List.mem_filter, List.mem_range, Bool.and_eq_true, Bool.not_eq_true'] at h
  obtain ⟨h1, h2, h3⟩ := h
  refine ⟨h1, h2, ?_⟩
  cases ho : ops[i]? with
  | none => rw [ho] at h3; simp at h3
  | some o =>
    rw [ho] at h3
    simp only [Option.map_some, Option.getD_some, Array.all_eq_true'] at h3
    refine ⟨o, rfl, fun e he hb => ?_⟩
    have := h3 e he
    rw [hb] at this
    simpa using this
theorem wpAny_inv (I : Array Bool → Act → World → Prop)
    (hstep : ∀ listed a w i, I listed a w → i ∈ Region.ready md ops listed → wpOp P ops Q i (fun a' w' => I (listed.setIfInBounds i true) a' w') a w)
    (hend : ∀ listed a w, I listed a w → Region.ready md ops listed = [] → Q .normal a w) :
    ∀ (fuel : Nat) (listed : Array Bool) (a : Act) (w : World), listed.size = ops.size → listed.toList.count false ≤ fuel → I listed a w → wpAny P md ops Q fuel listed a w := by
  intro fuel
  induction fuel with
  | zero =>
    intro listed a w hs hc hI
    have hr : Region.ready md ops listed = [] := by
      rw [List.eq_nil_iff_forall_not_mem]
      intro i hi
      obtain ⟨h1, h2, _⟩ := ready_spec hi
      have hm : false ∈ listed.toList := by
        have hi' : i < listed.size := by omega
        have e : listed[i] = false := by simpa [Array.getD, hi'] using h2
        rw [← e]; exact Array.mem_toList_iff.2 (Array.getElem_mem hi')
      have := List.count_pos_iff.2 hm
      omega
    exact ⟨hr, hend _ _ _ hI hr⟩
  | succ fuel ih =>
    intro listed a w hs hc hI
    refine ⟨fun hr => hend _ _ _ hI hr, fun i hi => ?_⟩
    obtain ⟨h1, h2, _⟩ := ready_spec hi
    have hi' : i < listed.size := by omega
    have e : listed[i] = false := by simpa [Array.getD, hi'] using h2
    refine wpOp_mono (fun a' w' hI' => ih _ _ _ (by simpa using hs) ?_ hI') (hstep _ _ _ _ hI hi)
    have hl : i < listed.toList.length := by simpa using hi'
    have := List.count_set (a := true) (b := false) (l := listed.toList) hl
    have e2 : listed.toList[i] = false := by simpa using e
    have hm : 0 < listed.toList.count false := List.count_pos_iff.2 (by rw [← e2]; exact List.getElem_mem hl)
    rw [Array.toList_setIfInBounds, this, e2]
    simp only [beq_self_eq_true, if_true, show (true == false) = false from rfl, Bool.false_eq_true, if_false]
    omega
theorem wp_region_inv {id : Nat} {a : Act} {w : World} (hm : P.follows .mixedOrders = true) (I : Array Bool → Act → World → Prop) (h0 : I (Array.replicate ops.size false) a w.drew)
    (hstep : ∀ listed a w i, I listed a w → i ∈ Region.ready .any ops listed → wpOp P ops Q i (fun a' w' => I (listed.setIfInBounds i true) a' w') a w)
    (hend : ∀ listed a w, I listed a w → Region.ready .any ops listed = [] → Q .normal a w) : (Code.region id ops true).wp P Q a w :=
  wp_region_any hm (wpAny_inv I hstep hend ops.size _ a _ (by simp) (by simp) h0)
end
end Go.Proofs.Ytpppecabpociaaa
