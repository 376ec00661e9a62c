/- The law InodeFinds returns true for every directory and name. Conditions: what the files hold fits an int; so do the list's length and the name's length; the list is no longer than its room. -/
import Derived.Test.YteemloillnfaeaaDoorInoT
import Derived.Test.YteemloillnfaeaaDoorInoF
import Derived.Test.YteemloillnfaeaaDoorOpenFiles
import Derived.Test.YteemloillnfaeaaDoorLInodeBack
namespace Go.Proofs.YteemloillnfaeaaDoor
open Go.RowKit Go.Wir Go.Ino
attribute [local go_sem] Oper.semAt_some

/-- The files of a slice with their extents' values, cell by cell. -/
theorem files_list {w : World} {oa : Option Addr} {n c : Nat} {l : List Fil} (h : Files w (.slice oa n c) l) : ∃ ps : List FV, ps.map Prod.fst = l ∧ (∀ p ∈ ps, Exts w p.2 p.1.ext) ∧ ∀ b off, oa = some ⟨b, off, none⟩ → ∀ j u, (filCells ps)[j]? = some u → w.cell? ⟨b, off + j, none⟩ = some u := by
  obtain ⟨oa', c', e, _, hc⟩ := h
  simp only [Value.slice.injEq] at e
  obtain ⟨rfl, -, rfl⟩ := e
  have each : ∀ i, ∃ ve, ∀ h : i < l.length, ∃ b off, oa = some ⟨b, off, none⟩ ∧ b < w.heap.size ∧ w.cell? ⟨b, off + i * 4, none⟩ = some (.string (B l[i].name)) ∧ w.cell? ⟨b, off + i * 4 + 1, none⟩ = some (.bool l[i].shut) ∧ w.cell? ⟨b, off + i * 4 + 2, none⟩ = some (.int .i64 l[i].size) ∧ w.cell? ⟨b, off + i * 4 + 3, none⟩ = some ve ∧ Exts w ve l[i].ext := by
    intro i
    by_cases hi : i < l.length
    · obtain ⟨b, off, ve, h⟩ := hc i hi
      exact ⟨ve, fun _ => ⟨b, off, h⟩⟩
    · exact ⟨.slice none 0 0, fun h => absurd h hi⟩
  obtain ⟨f, hf⟩ := Classical.axiomOfChoice each
  have hlen : (l.mapIdx fun i x => ((x, f i) : FV)).length = l.length := by simp
  refine ⟨l.mapIdx fun i x => (x, f i), ?_, fun p hp => ?_, ?_⟩
  · apply List.ext_getElem
    · simp
    · intro i h1 h2; simp
  · obtain ⟨i, hi, rfl⟩ := List.mem_iff_getElem.1 hp
    rw [hlen] at hi
    obtain ⟨_, _, _, _, _, _, _, _, hx⟩ := hf i hi
    simpa using hx
  · intro b off e j u hu
    have hj : j < (filCells (l.mapIdx fun i x => ((x, f i) : FV))).length := by
      rcases Nat.lt_or_ge j (filCells (l.mapIdx fun i x => ((x, f i) : FV))).length with h | h
      · exact h
      · rw [List.getElem?_eq_none h] at hu; cases hu
    rw [filCells_length, hlen] at hj
    have hi : j / 4 < l.length := by omega
    obtain ⟨g0, g1, g2, g3⟩ := filCells_get (l.mapIdx fun i x => ((x, f i) : FV)) (j / 4) (by rw [hlen]; exact hi)
    obtain ⟨b', off', e', _, k0, k1, k2, k3, _⟩ := hf (j / 4) hi
    rw [e] at e'
    simp only [Option.some.injEq, Addr.mk.injEq, and_true] at e'
    obtain ⟨rfl, rfl⟩ := e'
    simp only [List.getElem_mapIdx] at g0 g1 g2 g3
    rcases (show j = j / 4 * 4 ∨ j = j / 4 * 4 + 1 ∨ j = j / 4 * 4 + 2 ∨ j = j / 4 * 4 + 3 by omega) with hm | hm | hm | hm
    · rw [hm] at hu ⊢
      rw [g0] at hu
      cases hu; exact k0
    · rw [hm] at hu ⊢
      rw [g1] at hu
      cases hu; rw [← Nat.add_assoc]; exact k1
    · rw [hm] at hu ⊢
      rw [g2] at hu
      cases hu; rw [← Nat.add_assoc]; exact k2
    · rw [hm] at hu ⊢
      rw [g3] at hu
      cases hu; rw [← Nat.add_assoc]; exact k3
theorem take_news {w : World} {b off : Nat} {ps : List FV} (h : ∀ j u, (filCells ps)[j]? = some u → w.cell? ⟨b, off + j, none⟩ = some u) (k : Nat) {w' : World} (hb : Below w.heap.size w w') : ∀ ad, some (⟨b, off, none⟩ : Addr) = some ad → ∀ j u, (filCells (ps.take k))[j]? = some u → w'.cell? (ad.add j) = some u := by
  rintro ad e j u hu
  cases e
  have e1 : (⟨b, off, none⟩ : Addr).add j = ⟨b, off + j, none⟩ := by unfold Addr.add; split <;> simp_all
  rw [e1]
  have h1 : (filCells ps)[j]? = some u := by
    conv => lhs; rw [← List.take_append_drop k ps, filCells_append]
    rw [List.getElem?_append_left (by
      rcases Nat.lt_or_ge j (filCells (ps.take k)).length with h | h
      · exact h
      · rw [List.getElem?_eq_none h] at hu; cases hu)]
    exact hu
  exact cell_call hb (h j u h1)
theorem drop_news {w : World} {b off : Nat} {ps : List FV} (h : ∀ j u, (filCells ps)[j]? = some u → w.cell? ⟨b, off + j, none⟩ = some u) (k : Nat) (hk : k ≤ ps.length) {w' : World} (hb : Below w.heap.size w w') : ∀ ad, some (⟨b, off + k * 4, none⟩ : Addr) = some ad → ∀ j u, (filCells (ps.drop k))[j]? = some u → w'.cell? (ad.add j) = some u := by
  rintro ad e j u hu
  cases e
  have e1 : (⟨b, off + k * 4, none⟩ : Addr).add j = ⟨b, off + k * 4 + j, none⟩ := by unfold Addr.add; split <;> simp_all
  rw [e1]
  have h1 : (filCells ps)[k * 4 + j]? = some u := by
    conv => lhs; rw [← List.take_append_drop k ps, filCells_append]
    have hl : (filCells (ps.take k)).length = k * 4 := by rw [filCells_length, List.length_take, Nat.min_eq_left hk]
    rw [List.getElem?_append_right (by omega), hl, show k * 4 + j - k * 4 = j by omega]
    exact hu
  have := cell_call hb (h _ u h1)
  rw [← Nat.add_assoc] at this; exact this
theorem more_len {l : List Fil} {p : Nat} {f : Fil} : (l.take p ++ f :: l.drop p).length = l.length + 1 := by
  rw [List.length_append, List.length_take, List.length_cons, List.length_drop]; omega
theorem more_fit {l : List Fil} {t : Tx} (h : ∀ f ∈ l, FitF f) (ht : nameB t = true) (p : Nat) : ∀ f ∈ l.take p ++ ⟨t, false, 0, []⟩ :: l.drop p, FitF f := by
  intro f hf
  rcases List.mem_append.1 hf with hf | hf
  · exact h f (List.mem_of_mem_take hf)
  rcases List.mem_cons.1 hf with rfl | hf
  · unfold nameB at ht
    simp only [Bool.and_eq_true, decide_eq_true_eq] at ht
    exact ⟨by simp only; omega, by simp only; omega, by simp only; omega, by simp, fun x hx => by cases hx⟩
  · exact h f (List.mem_of_mem_drop hf)
theorem more_files {w w' : World} {base : Nat} {v : Value} {l : List Fil} {ps : List FV} {t : Tx} {p J M : Nat} (hps : ps.map Prod.fst = l) (hpl : ps.length = l.length) (hex : ∀ q ∈ ps, Exts w q.2 q.1.ext) (hp : p ≤ l.length) (hb : Below w.heap.size w w') (hJ : J = p) (hM : M = l.length - p)
    (h : w'.ownsRow base 44 4 v (J + 1 + M) (filCells (ps.take J) ++ [.string (B t), .bool false, .int .i64 0, .slice none 0 0] ++ filCells (ps.drop J))) : Files w' v (l.take p ++ ⟨t, false, 0, []⟩ :: l.drop p) := by
  subst hJ hM
  have e2 : filCells (ps.take J) ++ [.string (B t), .bool false, .int .i64 0, .slice none 0 0] ++ filCells (ps.drop J) = filCells (ps.take J ++ ((⟨t, false, 0, []⟩, .slice none 0 0) : FV) :: ps.drop J) := by
    rw [filCells_append, List.append_assoc]; simp [filCells]
  have e1 : J + 1 + (l.length - J) = (ps.take J ++ ((⟨t, false, 0, []⟩, .slice none 0 0) : FV) :: ps.drop J).length := by
    rw [List.length_append, List.length_take, List.length_cons, List.length_drop]; omega
  rw [e1, e2] at h
  have h3 := own_files h (fun q hq => by
    rcases List.mem_append.1 hq with hq | hq
    · exact (hex q (List.mem_of_mem_take hq)).below hb
    rcases List.mem_cons.1 hq with rfl | hq
    · exact Exts.nil _
    · exact (hex q (List.mem_of_mem_drop hq)).below hb)
  rw [List.map_append, List.map_cons, List.map_take, List.map_drop, hps] at h3
  exact h3
theorem below_grown {W w w' : World} {row : Option Nat} (h : Below W.heap.size W w) (hg : w.grownBy w' row) (hr : ∀ k, row = some k → W.heap.size ≤ k) : Below W.heap.size W w' := h.grown hg h.size hr
theorem more_right (v : Value) (l : List Fil) (hn : l.length ≤ 9223372036854775807) (hfit : ∀ f ∈ l, FitF f) (hr : rightB l 0 4096 = true) (w : World) (hv : Files w v l) :
    Calls Tryd.prog 18 #[v, .int .i64 0, .int .i64 4096] w fun e w' => e = .returned (.bool true) ∧ Below w.heap.size w w' := by
  have := inode_Right v l 0 4096 (by omega) (by omega) hn hfit w hv
  rw [hr] at this; exact this
def SideUp (l : List Fil) (t : Tx) (p : Nat) : Prop := ∀ k (h : k < l.length), (k < p → l[k].name < t) ∧ (p ≤ k → ¬ l[k].name < t)
theorem side_up {l : List Fil} {t : Tx} (hr : rightB l 0 4096 = true) : SideUp l t (placeL l t) := fun k h =>
  ⟨fun h1 => (place_lo k h1).2, fun h1 => place_hi ((rightB_iff _ _ _).1 hr).2.1 k h h1⟩
set_option maxRecDepth 100000 in
set_option maxHeartbeats 6400000 in
theorem walk_InodeFinds (v : Value) (l : List Fil) (name : ByteArray) (w : World) (hv : Files w v l) (hfit : ∀ f ∈ l, FitF f) (hn : l.length ≤ maxLen) (hcap : ∀ oa n c, v = .slice oa n c → n ≤ c) (h3 : name.size ≤ maxLen) :
    Calls Tryd.prog 9 #[v, .string name] w fun e w' => e = .returned (.bool true) ∧ Below w.heap.size w w' := by
  unfold maxLen at hn h3
  obtain ⟨t, rfl⟩ : ∃ t, name = B t := ⟨L name, (B_L name).symm⟩
  obtain ⟨i0, hi, hz0, hz1, hz2⟩ := info_parts (show (Tryd.prog.info? 44).map (fun i => (i.zero, i.size, i.bytes)) = some (some (.agg #[.string ⟨#[]⟩, .bool false, .int .i64 0, .slice none 0 0]), 4, 56) by kernel_rfl)
  obtain ⟨oa, c, rfl, hnil⟩ := hv.form
  have hcp := hcap oa l.length c rfl
  clear hcap
  have Hfit := Lib.hid hfit
  have Hv := Lib.hid hv
  clear hfit hv
  obtain ⟨ab, hab⟩ : ∃ ab, asB l = ab := ⟨_, rfl⟩
  have Hab := Lib.hid hab
  clear hab
  go_enter Tryd.func9, Tryd.ntmps9
  go_wp2_with fail
  refine (law_shown w).mono ?_
  rintro e w1 ⟨rfl, b1⟩
  go_wp2_with fail
  refine (law_as (.slice oa l.length c) l (by omega) Hfit.out _ (Hv.out.below b1)).mono ?_
  rintro e w3 ⟨b2, v2, rfl, -, -⟩
  rw [Hab.out]
  have B3 := Lib.hid (step_call b1 b2)
  clear b1 b2
  obtain ⟨rt, hrt⟩ : ∃ rt, rightB l 0 4096 = rt := ⟨_, rfl⟩
  have Hrt := Lib.hid hrt
  clear hrt
  go_wp2_with fail
  refine (inode_Right (.slice oa l.length c) l 0 4096 (by omega) (by omega) (by omega) Hfit.out _ (Hv.out.below B3.out)).mono ?_
  rintro e w2 ⟨rfl, hb4⟩
  rw [Hrt.out]
  have B2 := Lib.hid (step_call B3.out hb4)
  have Hv2 := Lib.hid (Hv.out.below B2.out)
  clear hb4 B3 Hv
  cases ab
  · go_wp2
    go_ret
    exact ⟨rfl, B2.out⟩
  cases rt
  · go_wp2
    go_ret
    exact ⟨rfl, B2.out⟩
  by_cases hbig : ((B t).size : Int) > 200
  · go_wp2
    go_ret
    exact ⟨rfl, B2.out⟩
  obtain ⟨h64, -⟩ := right_few Hrt.out
  have Hri : Hid (riseB l = true) := Lib.hid (by unfold riseB; exact decide_eq_true ((rightB_iff _ _ _).1 Hrt.out).2.1)
  have HFd := Lib.hid (inode_Find (.slice oa l.length c) l t Hri.out (by omega) w2 Hv2.out)
  have hp := place_le l t
  have Hside := Lib.hid (side_up (t := t) Hrt.out)
  have Hins := Lib.hid (fun h1 h2 h3 => right_insert (l := l) (t := t) Hrt.out h1 h2 h3)
  obtain ⟨fb, hfb⟩ : ∃ fb, foundB l t = fb := ⟨_, rfl⟩
  have Hfb := Lib.hid hfb
  have Hthere : Hid (fb = (match l[placeL l t]? with | some f => decide (f.name = t) | none => false)) := Lib.hid (by
    rw [← hfb]; unfold foundB; cases l[placeL l t]? with
    | none => rfl
    | some f => simp only; rw [Bool.eq_iff_iff, beq_iff_eq, decide_eq_true_eq])
  rw [hfb] at HFd Hins
  generalize placeL l t = p at *
  have HN := Lib.hid (fun w0 => inode_Name (B t) h3 w0)
  rw [L_B] at HN
  clear hfb
  go_wp2_with (first | (go_at_call 22; refine HFd.out.mono ?_; rintro e w4 ⟨rfl, hb4⟩) | fail)
  have B4 := Lib.hid hb4
  clear hb4
  have Hcell2 := Lib.hid Hv2.out
  obtain ⟨_, _, ee, -, hcell⟩ := Hcell2.out
  simp only [Value.slice.injEq, true_and] at ee
  obtain ⟨rfl, rfl⟩ := ee
  have Hcell := Lib.hid hcell
  clear hcell Hcell2
  have k1 : ¬ ((p : Int) > (l.length : Int)) := by omega
  have k2 : ¬ ((p : Int) < 0) := by omega
  go_wp2
  go_loopw [11] (fun i wr => ∃ k : Nat, k ≤ l.length ∧ i = .int .i64 k ∧ Below w2.heap.size w2 wr) (fun i _ => l.length - (intOf i).toNat)
  case atStart => exact ⟨0, by omega, rfl, B4.out⟩
  case round =>
    obtain ⟨k, hk, rfl, hbel⟩ := hrel
    have Hbel := Lib.hid hbel
    by_cases hlt : k < l.length
    · obtain ⟨b, off, ve, rfl, hb, c1, -⟩ := Hcell.out k hlt
      have c1 := cell_below hbel hb c1
      obtain ⟨s1, s2⟩ := Hside.out k hlt
      have hki : (k : Int) < (l.length : Int) := by omega
      have hls := less_B' l[k].name t
      clear hbel
      by_cases hkp : k < p
      · rw [decide_eq_true (s1 hkp)] at hls
        have z1 : (k : Int) < (p : Int) := by omega
        have z2 : ¬ (k : Int) ≥ (p : Int) := by omega
        have z3 : ¬ p ≤ k := by omega
        clear s1 s2
        generalize l[k] = f at *
        go_wp2
        exact ⟨⟨k + 1, by omega, by go_num, Hbel.out⟩, by simp [intOf]; omega⟩
      · rw [decide_eq_false (s2 (by omega))] at hls
        have z1 : ¬ (k : Int) < (p : Int) := by omega
        have z2 : (k : Int) ≥ (p : Int) := by omega
        have z3 : p ≤ k := by omega
        clear s1 s2
        generalize l[k] = f at *
        go_wp2
        exact ⟨⟨k + 1, by omega, by go_num, Hbel.out⟩, by simp [intOf]; omega⟩
    · obtain rfl : k = l.length := by omega
      clear hbel
      by_cases hpl : p < l.length
      · obtain ⟨b, off, ve, rfl, hb, c1, -⟩ := Hcell.out p hpl
        have c1 := cell_below Hbel.out hb c1
        have hpi : (p : Int) < (l.length : Int) := by omega
        have heq : ((B l[p].name).toList == (B t).toList) = fb := by
          rw [Hthere.out, List.getElem?_eq_getElem hpl, toList_B, toList_B]
          simp only
          rw [Bool.eq_iff_iff, beq_iff_eq, decide_eq_true_eq]
        generalize l[p] = f at *
        cases fb
        rotate_left
        · go_wp2
          go_ret
          exact ⟨rfl, step_call B2.out Hbel.out⟩
        obtain ⟨nb, hnb⟩ : ∃ nb, nameB t = nb := ⟨_, rfl⟩
        rw [hnb] at HN
        have Hnb := Lib.hid hnb
        clear hnb
        cases nb
        · go_wp2_with (first | (go_at_call 19; refine (HN.out _).mono ?_; rintro e w5 ⟨rfl, hb5⟩) | fail)
          go_ret
          exact ⟨rfl, step_call B2.out (step_call Hbel.out hb5)⟩
        by_cases h64b : (l.length : Int) ≥ 64
        · go_wp2_with (first | (go_at_call 19; refine (HN.out _).mono ?_; rintro e w5 ⟨rfl, hb5⟩) | fail)
          go_ret
          exact ⟨rfl, step_call B2.out (step_call Hbel.out hb5)⟩
        have Hnm : Hid (nameB t = true) := Hnb
        have h64c : l.length < 64 := by first | omega | (simp; done)
        have Hin : Hid (rightB (l.take p ++ ⟨t, false, 0, []⟩ :: l.drop p) 0 4096 = true) := Lib.hid (by first | exact Hins.out rfl Hnm.out h64c | simpa using Hins.out rfl Hnm.out h64c)
        obtain ⟨ps, hps, hex, hcl⟩ := files_list Hv2.out
        have Hpl : Hid (ps.length = l.length) := Lib.hid (by rw [← hps, List.length_map])
        have Hps := Lib.hid hps
        have Hex := Lib.hid hex
        have hcl := hcl _ _ rfl
        go_wp2_with (first | (go_at_call 19; refine (HN.out _).mono ?_; rintro e wq ⟨rfl, hb5⟩) | fail)
        have Bq2 := Lib.hid (step_call Hbel.out hb5)
        have Bq := Lib.hid (step_call B2.out Bq2.out)
        have HnT := Lib.hid (fun w' h => take_news (w' := w') hcl p (step_call Bq2.out h))
        have HnD := Lib.hid (fun w' h => drop_news (w' := w') hcl p (by have := Hpl.out; omega) (step_call Bq2.out h))
        clear hps hex hcl hb5 c1
        have HlT : Hid ((filCells (ps.take p)).length = p * 4) := Lib.hid (by rw [filCells_length, List.length_take]; have := Hpl.out; omega)
        have HlD : Hid ((filCells (ps.drop p)).length = (l.length - p) * 4) := Lib.hid (by rw [filCells_length, List.length_drop]; have := Hpl.out; omega)
        have HoT : Hid (∀ u ∈ filCells (ps.take p), u.oneCell' = true) := Lib.hid (filCells_one (w := w2) (fun p hp => Hex.out p (by first | exact List.mem_of_mem_take hp | exact absurd hp (by simp))))
        have HoD : Hid (∀ u ∈ filCells (ps.drop p), u.oneCell' = true) := Lib.hid (filCells_one (w := w2) (fun p hp => Hex.out p (by first | exact List.mem_of_mem_drop hp | exact absurd hp (by simp))))
        have kp0 : (0 : Int) ≤ (p : Int) := by omega
        have kpc : (p : Int) ≤ (c : Int) := by omega
        have kcp : ¬ c = p := by omega
        go_wp2
        go_region_held3 (fun w' => Below wq.heap.size wq w')
          (first
            | exact below_drew wq
            | exact step_new (by assumption) _
            | exact below_grown (by assumption) hgrow7 (fun k e => (hown6.lt k e).1)
            | exact below_grown (by assumption) hgrow6 (fun k e => (hown5.lt k e).1)
            | exact below_grown (by assumption) hgrow6 (fun k e => ((hown5.alloc _).lt k e).1)
            | exact below_grown (by assumption) hgrow5 hr5
            | assumption)
          (first
            | (refine step_append_any _ (by rfl) _ _ _ (by rfl) wq.heap.size 44 i0 _ 4 56 Tryd.underlying22 hi hz0 hz1 hz2 rfl (by decide) (.slice (some ⟨wq.heap.size, 0, none⟩) 0 0) 0 [] (by rfl) (own_nil_new _ 4 (heap_alloc_new wq _) (by omega)) (some ⟨b, off, none⟩) p c (filCells (ps.take p)) (by rfl) HlT.out (fun h => (by cases h)) (HnT.out _ (by assumption)) HoT.out (by unfold maxLen; omega) (by omega) (by first | (simp; done) | (simp; omega)) ?_; intro v5 w5 hown5 hgrow5 _; have hr5 : ∀ k, (Value.slice (some ⟨wq.heap.size, 0, none⟩) 0 0).ownBlock = some k → wq.heap.size ≤ k := (fun k e => (by simp [Value.ownBlock] at e; omega)); rw [Nat.zero_add, List.nil_append] at hown5; have hsz5 : wq.heap.size ≤ w5.heap.size := (by have h := hgrow5.size; simp at h; omega))
            | (refine step_append_any _ (by rfl) _ _ _ (by rfl) wq.heap.size 44 i0 _ 4 56 Tryd.underlying22 hi hz0 hz1 hz2 rfl (by decide) (.slice (some ⟨wq.heap.size, 0, none⟩) 0 0) 0 [] (by rfl) (own_nil_new _ 4 ((heap_alloc_old (wq.alloc _) _ (by simp)).trans (heap_alloc_new wq _)) (by omega)) (some ⟨b, off, none⟩) p c (filCells (ps.take p)) (by rfl) HlT.out (fun h => (by cases h)) (HnT.out _ (by assumption)) HoT.out (by unfold maxLen; omega) (by omega) (by first | (simp; done) | (simp; omega)) ?_; intro v5 w5 hown5 hgrow5 _; have hr5 : ∀ k, (Value.slice (some ⟨wq.heap.size, 0, none⟩) 0 0).ownBlock = some k → wq.heap.size ≤ k := (fun k e => (by simp [Value.ownBlock] at e; omega)); rw [Nat.zero_add, List.nil_append] at hown5; have hsz5 : wq.heap.size ≤ w5.heap.size := (by have h := hgrow5.size; simp at h; omega))
            | (refine step_append_any _ (by rfl) _ _ _ (by rfl) wq.heap.size 44 i0 _ 4 56 Tryd.underlying22 hi hz0 hz1 hz2 rfl (by decide) (.slice (some ⟨(wq.heap.size + 1), 0, none⟩) 0 0) 0 [] (by rfl) (own_nil_new _ 4 (by have h := heap_alloc_new (wq.alloc (.cells #[.string (B t), .bool false, .int .i64 0, .slice none 0 0] 44)) (.cells #[] 44); rwa [World.size_alloc] at h) (by omega)) (some ⟨b, off, none⟩) p c (filCells (ps.take p)) (by rfl) HlT.out (fun h => (by cases h)) (HnT.out _ (by assumption)) HoT.out (by unfold maxLen; omega) (by omega) (by first | (simp; done) | (simp; omega)) ?_; intro v5 w5 hown5 hgrow5 _; have hr5 : ∀ k, (Value.slice (some ⟨(wq.heap.size + 1), 0, none⟩) 0 0).ownBlock = some k → wq.heap.size ≤ k := (fun k e => (by simp [Value.ownBlock] at e; omega)); rw [Nat.zero_add, List.nil_append] at hown5; have hsz5 : wq.heap.size ≤ w5.heap.size := (by have h := hgrow5.size; simp at h; omega))
            | (refine step_append_any _ (by rfl) _ _ _ (by rfl) wq.heap.size 44 i0 _ 4 56 Tryd.underlying22 hi hz0 hz1 hz2 rfl (by decide) v5 p (filCells (ps.take p)) (by rfl) hown5 (some ⟨(wq.heap.size + 1), 0, none⟩) 1 1 [.string (B t), .bool false, .int .i64 0, .slice none 0 0] (by rfl) (by rfl) (fun h => (by cases h)) (fun ad e => (by cases e; exact World.news_of_block (cs := #[.string (B t), .bool false, .int .i64 0, .slice none 0 0]) (t := 44) (fr := (0, 0)) ((hgrow5.block (wq.heap.size + 1) (by first | (simp; done) | (simp; omega)) (by simp [Value.ownBlock])).trans (by have h := heap_alloc_new (wq.alloc (.cells #[] 44)) (.cells #[.string (B t), .bool false, .int .i64 0, .slice none 0 0] 44); rwa [World.size_alloc] at h)))) (by simp [Value.oneCell']) (by unfold maxLen; omega) (by omega) (by first | exact hsz5 | (simp; omega)) ?_; intro v6 w6 hown6 hgrow6 _; have hsz6 : wq.heap.size ≤ w6.heap.size := (by have h := hgrow6.size; first | omega | (simp at h; omega)))
            | (refine step_append_any _ (by rfl) _ _ _ (by rfl) wq.heap.size 44 i0 _ 4 56 Tryd.underlying22 hi hz0 hz1 hz2 rfl (by decide) v5 p (filCells (ps.take p)) (by rfl) hown5 (some ⟨wq.heap.size, 0, none⟩) 1 1 [.string (B t), .bool false, .int .i64 0, .slice none 0 0] (by rfl) (by rfl) (fun h => (by cases h)) (fun ad e => (by cases e; exact World.news_of_block (cs := #[.string (B t), .bool false, .int .i64 0, .slice none 0 0]) (t := 44) (fr := (0, 0)) ((hgrow5.block wq.heap.size (by first | (simp; done) | (simp; omega)) (by simp [Value.ownBlock])).trans ((heap_alloc_old (wq.alloc _) _ (by simp)).trans (heap_alloc_new wq _))))) (by simp [Value.oneCell']) (by unfold maxLen; omega) (by omega) (by first | exact hsz5 | (simp; omega)) ?_; intro v6 w6 hown6 hgrow6 _; have hsz6 : wq.heap.size ≤ w6.heap.size := (by have h := hgrow6.size; first | omega | (simp at h; omega)))
            | (refine step_append_any _ (by rfl) _ _ _ (by rfl) wq.heap.size 44 i0 _ 4 56 Tryd.underlying22 hi hz0 hz1 hz2 rfl (by decide) v5 p (filCells (ps.take p)) (by rfl) (hown5.alloc _) (some ⟨w5.heap.size, 0, none⟩) 1 1 [.string (B t), .bool false, .int .i64 0, .slice none 0 0] (by rfl) (by rfl) (fun h => (by cases h)) (fun ad e => (by cases e; exact World.news_of_block (cs := #[.string (B t), .bool false, .int .i64 0, .slice none 0 0]) (t := 44) (fr := (0, 0)) (heap_alloc_new w5 _))) (by simp [Value.oneCell']) (by unfold maxLen; omega) (by omega) (by first | exact hsz5 | (simp; omega)) ?_; intro v6 w6 hown6 hgrow6 _; have hsz6 : wq.heap.size ≤ w6.heap.size := (by have h := hgrow6.size; first | omega | (simp at h; omega)))
            | (refine step_append_any _ (by rfl) _ _ _ (by rfl) wq.heap.size 44 i0 _ 4 56 Tryd.underlying22 hi hz0 hz1 hz2 rfl (by decide) v6 (p + 1) (filCells (ps.take p) ++ [.string (B t), .bool false, .int .i64 0, .slice none 0 0]) (by rfl) hown6 (some ⟨b, off + p * 4, none⟩) (l.length - p) (c - p) (filCells (ps.drop p)) (by rfl) HlD.out (fun h => (by cases h)) (HnD.out _ (by assumption)) HoD.out (by unfold maxLen; omega) (by omega) hsz6 ?_; intro v7 w7 hown7 hgrow7 _)
            | fail)
        all_goals
          have hbw : Below wq.heap.size wq w7 := by assumption
          have HB7 := Lib.hid (step_call Bq.out hbw)
          have HF7 : Hid (Files w7 v7 (l.take p ++ ⟨t, false, 0, []⟩ :: l.drop p)) := Lib.hid (more_files Hps.out Hpl.out Hex.out (by first | omega | (simp; done)) (step_call Bq2.out hbw) (J := p) (M := (l.length - p)) (by first | rfl | omega) (by first | omega | (simp; done)) (by first | exact hown7 | simpa using hown7))
          clear hown5 hgrow5 hown6 hgrow6 hown7 hgrow7 hbw
          go_wp2_with (first | (go_at_call 18; refine (more_right v7 _ (by first | (rw [more_len]; omega) | (simp; done) | (simp; omega)) (fun f hf => more_fit Hfit.out Hnm.out p f (by first | exact hf | simpa using hf)) (by first | exact Hin.out | simpa using Hin.out) _ HF7.out).mono ?_; rintro e w8 ⟨rfl, hb8⟩) | fail)
          go_ret
          exact ⟨rfl, step_call HB7.out hb8⟩
      · have Hpe : Hid (p = l.length) := Lib.hid (by omega)
        have kge : ¬ (p : Int) < (l.length : Int) := by omega
        have hfb0 : fb = false := by rw [Hthere.out, List.getElem?_eq_none (by omega)]
        subst hfb0
        obtain ⟨nb, hnb⟩ : ∃ nb, nameB t = nb := ⟨_, rfl⟩
        rw [hnb] at HN
        have Hnb := Lib.hid hnb
        clear hnb
        cases nb
        · go_wp2_with (first | (go_at_call 19; refine (HN.out _).mono ?_; rintro e w5 ⟨rfl, hb5⟩) | fail)
          go_ret
          exact ⟨rfl, step_call B2.out (step_call Hbel.out hb5)⟩
        by_cases h64b : (l.length : Int) ≥ 64
        · go_wp2_with (first | (go_at_call 19; refine (HN.out _).mono ?_; rintro e w5 ⟨rfl, hb5⟩) | fail)
          go_ret
          exact ⟨rfl, step_call B2.out (step_call Hbel.out hb5)⟩
        rcases Nat.eq_zero_or_pos l.length with h0 | h0
        · obtain rfl : p = l.length := Hpe.out
          obtain rfl : l = [] := List.eq_nil_of_length_eq_zero h0
          rcases oa with _ | a
          · obtain ⟨-, rfl⟩ := hnil rfl
            have Hnm : Hid (nameB t = true) := Hnb
            have h64c : ([] : List Fil).length < 64 := by first | omega | (simp; done)
            have Hin : Hid (rightB (([] : List Fil).take 0 ++ ⟨t, false, 0, []⟩ :: ([] : List Fil).drop 0) 0 4096 = true) := Lib.hid (by first | exact Hins.out rfl Hnm.out h64c | simpa using Hins.out rfl Hnm.out h64c)
            obtain ⟨ps, hps, hex, hcl⟩ := files_list Hv2.out
            have Hpl : Hid (ps.length = ([] : List Fil).length) := Lib.hid (by rw [← hps, List.length_map])
            have Hps := Lib.hid hps
            have Hex := Lib.hid hex
            go_wp2_with (first | (go_at_call 19; refine (HN.out _).mono ?_; rintro e wq ⟨rfl, hb5⟩) | fail)
            have Bq2 := Lib.hid (step_call Hbel.out hb5)
            have Bq := Lib.hid (step_call B2.out Bq2.out)
            clear hps hex hb5
            have HlT : Hid ((filCells (ps.take 0)).length = 0 * 4) := Lib.hid (by rw [filCells_length, List.length_take]; have := Hpl.out; omega)
            have HlD : Hid ((filCells (ps.drop 0)).length = 0 * 4) := Lib.hid (by rw [filCells_length, List.length_drop]; have := Hpl.out; omega)
            have HoT : Hid (∀ u ∈ filCells (ps.take 0), u.oneCell' = true) := Lib.hid (filCells_one (w := w2) (fun p hp => Hex.out p (by first | exact List.mem_of_mem_take hp | exact absurd hp (by simp))))
            have HoD : Hid (∀ u ∈ filCells (ps.drop 0), u.oneCell' = true) := Lib.hid (filCells_one (w := w2) (fun p hp => Hex.out p (by first | exact List.mem_of_mem_drop hp | exact absurd hp (by simp))))
            go_wp2
            go_region_held3 (fun w' => Below wq.heap.size wq w')
              (first
                | exact below_drew wq
                | exact step_new (by assumption) _
                | exact below_grown (by assumption) hgrow7 (fun k e => (hown6.lt k e).1)
                | exact below_grown (by assumption) hgrow6 (fun k e => (hown5.lt k e).1)
                | exact below_grown (by assumption) hgrow6 (fun k e => ((hown5.alloc _).lt k e).1)
                | exact below_grown (by assumption) hgrow5 hr5
                | assumption)
              (first
                | (refine step_append_any _ (by rfl) _ _ _ (by rfl) wq.heap.size 44 i0 _ 4 56 Tryd.underlying22 hi hz0 hz1 hz2 rfl (by decide) (.slice (some ⟨wq.heap.size, 0, none⟩) 0 0) 0 [] (by rfl) (own_nil_new _ 4 (heap_alloc_new wq _) (by omega)) none 0 0 (filCells (ps.take 0)) (by rfl) HlT.out (fun _ => ⟨rfl, rfl⟩) (fun ad e j u hu => (by simp [filCells] at hu)) HoT.out (by unfold maxLen; omega) (by omega) (by first | (simp; done) | (simp; omega)) ?_; intro v5 w5 hown5 hgrow5 _; have hr5 : ∀ k, (Value.slice (some ⟨wq.heap.size, 0, none⟩) 0 0).ownBlock = some k → wq.heap.size ≤ k := (fun k e => (by simp [Value.ownBlock] at e; omega)); rw [Nat.zero_add, List.nil_append] at hown5; have hsz5 : wq.heap.size ≤ w5.heap.size := (by have h := hgrow5.size; simp at h; omega))
                | (refine step_append_any _ (by rfl) _ _ _ (by rfl) wq.heap.size 44 i0 _ 4 56 Tryd.underlying22 hi hz0 hz1 hz2 rfl (by decide) (.slice (some ⟨wq.heap.size, 0, none⟩) 0 0) 0 [] (by rfl) (own_nil_new _ 4 ((heap_alloc_old (wq.alloc _) _ (by simp)).trans (heap_alloc_new wq _)) (by omega)) none 0 0 (filCells (ps.take 0)) (by rfl) HlT.out (fun _ => ⟨rfl, rfl⟩) (fun ad e j u hu => (by simp [filCells] at hu)) HoT.out (by unfold maxLen; omega) (by omega) (by first | (simp; done) | (simp; omega)) ?_; intro v5 w5 hown5 hgrow5 _; have hr5 : ∀ k, (Value.slice (some ⟨wq.heap.size, 0, none⟩) 0 0).ownBlock = some k → wq.heap.size ≤ k := (fun k e => (by simp [Value.ownBlock] at e; omega)); rw [Nat.zero_add, List.nil_append] at hown5; have hsz5 : wq.heap.size ≤ w5.heap.size := (by have h := hgrow5.size; simp at h; omega))
                | (refine step_append_any _ (by rfl) _ _ _ (by rfl) wq.heap.size 44 i0 _ 4 56 Tryd.underlying22 hi hz0 hz1 hz2 rfl (by decide) (.slice (some ⟨(wq.heap.size + 1), 0, none⟩) 0 0) 0 [] (by rfl) (own_nil_new _ 4 (by have h := heap_alloc_new (wq.alloc (.cells #[.string (B t), .bool false, .int .i64 0, .slice none 0 0] 44)) (.cells #[] 44); rwa [World.size_alloc] at h) (by omega)) none 0 0 (filCells (ps.take 0)) (by rfl) HlT.out (fun _ => ⟨rfl, rfl⟩) (fun ad e j u hu => (by simp [filCells] at hu)) HoT.out (by unfold maxLen; omega) (by omega) (by first | (simp; done) | (simp; omega)) ?_; intro v5 w5 hown5 hgrow5 _; have hr5 : ∀ k, (Value.slice (some ⟨(wq.heap.size + 1), 0, none⟩) 0 0).ownBlock = some k → wq.heap.size ≤ k := (fun k e => (by simp [Value.ownBlock] at e; omega)); rw [Nat.zero_add, List.nil_append] at hown5; have hsz5 : wq.heap.size ≤ w5.heap.size := (by have h := hgrow5.size; simp at h; omega))
                | (refine step_append_any _ (by rfl) _ _ _ (by rfl) wq.heap.size 44 i0 _ 4 56 Tryd.underlying22 hi hz0 hz1 hz2 rfl (by decide) v5 0 (filCells (ps.take 0)) (by rfl) hown5 (some ⟨(wq.heap.size + 1), 0, none⟩) 1 1 [.string (B t), .bool false, .int .i64 0, .slice none 0 0] (by rfl) (by rfl) (fun h => (by cases h)) (fun ad e => (by cases e; exact World.news_of_block (cs := #[.string (B t), .bool false, .int .i64 0, .slice none 0 0]) (t := 44) (fr := (0, 0)) ((hgrow5.block (wq.heap.size + 1) (by first | (simp; done) | (simp; omega)) (by simp [Value.ownBlock])).trans (by have h := heap_alloc_new (wq.alloc (.cells #[] 44)) (.cells #[.string (B t), .bool false, .int .i64 0, .slice none 0 0] 44); rwa [World.size_alloc] at h)))) (by simp [Value.oneCell']) (by unfold maxLen; omega) (by omega) (by first | exact hsz5 | (simp; omega)) ?_; intro v6 w6 hown6 hgrow6 _; have hsz6 : wq.heap.size ≤ w6.heap.size := (by have h := hgrow6.size; first | omega | (simp at h; omega)))
                | (refine step_append_any _ (by rfl) _ _ _ (by rfl) wq.heap.size 44 i0 _ 4 56 Tryd.underlying22 hi hz0 hz1 hz2 rfl (by decide) v5 0 (filCells (ps.take 0)) (by rfl) hown5 (some ⟨wq.heap.size, 0, none⟩) 1 1 [.string (B t), .bool false, .int .i64 0, .slice none 0 0] (by rfl) (by rfl) (fun h => (by cases h)) (fun ad e => (by cases e; exact World.news_of_block (cs := #[.string (B t), .bool false, .int .i64 0, .slice none 0 0]) (t := 44) (fr := (0, 0)) ((hgrow5.block wq.heap.size (by first | (simp; done) | (simp; omega)) (by simp [Value.ownBlock])).trans ((heap_alloc_old (wq.alloc _) _ (by simp)).trans (heap_alloc_new wq _))))) (by simp [Value.oneCell']) (by unfold maxLen; omega) (by omega) (by first | exact hsz5 | (simp; omega)) ?_; intro v6 w6 hown6 hgrow6 _; have hsz6 : wq.heap.size ≤ w6.heap.size := (by have h := hgrow6.size; first | omega | (simp at h; omega)))
                | (refine step_append_any _ (by rfl) _ _ _ (by rfl) wq.heap.size 44 i0 _ 4 56 Tryd.underlying22 hi hz0 hz1 hz2 rfl (by decide) v5 0 (filCells (ps.take 0)) (by rfl) (hown5.alloc _) (some ⟨w5.heap.size, 0, none⟩) 1 1 [.string (B t), .bool false, .int .i64 0, .slice none 0 0] (by rfl) (by rfl) (fun h => (by cases h)) (fun ad e => (by cases e; exact World.news_of_block (cs := #[.string (B t), .bool false, .int .i64 0, .slice none 0 0]) (t := 44) (fr := (0, 0)) (heap_alloc_new w5 _))) (by simp [Value.oneCell']) (by unfold maxLen; omega) (by omega) (by first | exact hsz5 | (simp; omega)) ?_; intro v6 w6 hown6 hgrow6 _; have hsz6 : wq.heap.size ≤ w6.heap.size := (by have h := hgrow6.size; first | omega | (simp at h; omega)))
                | (refine step_append_any _ (by rfl) _ _ _ (by rfl) wq.heap.size 44 i0 _ 4 56 Tryd.underlying22 hi hz0 hz1 hz2 rfl (by decide) v6 (0 + 1) (filCells (ps.take 0) ++ [.string (B t), .bool false, .int .i64 0, .slice none 0 0]) (by rfl) hown6 none 0 0 (filCells (ps.drop 0)) (by rfl) HlD.out (fun _ => ⟨rfl, rfl⟩) (fun ad e j u hu => (by rw [List.drop_of_length_le (by have := Hpl.out; first | omega | (simp; omega) | simp_all)] at hu; simp [filCells] at hu)) HoD.out (by unfold maxLen; omega) (by omega) hsz6 ?_; intro v7 w7 hown7 hgrow7 _)
                | fail)
            all_goals
              have hbw : Below wq.heap.size wq w7 := by assumption
              have HB7 := Lib.hid (step_call Bq.out hbw)
              have HF7 : Hid (Files w7 v7 (([] : List Fil).take 0 ++ ⟨t, false, 0, []⟩ :: ([] : List Fil).drop 0)) := Lib.hid (more_files Hps.out Hpl.out Hex.out (by first | omega | (simp; done)) (step_call Bq2.out hbw) (J := 0) (M := 0) (by first | rfl | omega) (by first | omega | (simp; done)) (by first | exact hown7 | simpa using hown7))
              clear hown5 hgrow5 hown6 hgrow6 hown7 hgrow7 hbw
              go_wp2_with (first | (go_at_call 18; refine (more_right v7 _ (by first | (rw [more_len]; omega) | (simp; done) | (simp; omega)) (fun f hf => more_fit Hfit.out Hnm.out 0 f (by first | exact hf | simpa using hf)) (by first | exact Hin.out | simpa using Hin.out) _ HF7.out).mono ?_; rintro e w8 ⟨rfl, hb8⟩) | fail)
              go_ret
              exact ⟨rfl, step_call HB7.out hb8⟩
          · by_cases hcc : c = 0
            · subst hcc
              have Hnm : Hid (nameB t = true) := Hnb
              have h64c : ([] : List Fil).length < 64 := by first | omega | (simp; done)
              have Hin : Hid (rightB (([] : List Fil).take 0 ++ ⟨t, false, 0, []⟩ :: ([] : List Fil).drop 0) 0 4096 = true) := Lib.hid (by first | exact Hins.out rfl Hnm.out h64c | simpa using Hins.out rfl Hnm.out h64c)
              obtain ⟨ps, hps, hex, hcl⟩ := files_list Hv2.out
              have Hpl : Hid (ps.length = ([] : List Fil).length) := Lib.hid (by rw [← hps, List.length_map])
              have Hps := Lib.hid hps
              have Hex := Lib.hid hex
              go_wp2_with (first | (go_at_call 19; refine (HN.out _).mono ?_; rintro e wq ⟨rfl, hb5⟩) | fail)
              have Bq2 := Lib.hid (step_call Hbel.out hb5)
              have Bq := Lib.hid (step_call B2.out Bq2.out)
              clear hps hex hb5
              have HlT : Hid ((filCells (ps.take 0)).length = 0 * 4) := Lib.hid (by rw [filCells_length, List.length_take]; have := Hpl.out; omega)
              have HlD : Hid ((filCells (ps.drop 0)).length = 0 * 4) := Lib.hid (by rw [filCells_length, List.length_drop]; have := Hpl.out; omega)
              have HoT : Hid (∀ u ∈ filCells (ps.take 0), u.oneCell' = true) := Lib.hid (filCells_one (w := w2) (fun p hp => Hex.out p (by first | exact List.mem_of_mem_take hp | exact absurd hp (by simp))))
              have HoD : Hid (∀ u ∈ filCells (ps.drop 0), u.oneCell' = true) := Lib.hid (filCells_one (w := w2) (fun p hp => Hex.out p (by first | exact List.mem_of_mem_drop hp | exact absurd hp (by simp))))
              go_wp2
              go_region_held3 (fun w' => Below wq.heap.size wq w')
                (first
                  | exact below_drew wq
                  | exact step_new (by assumption) _
                  | exact below_grown (by assumption) hgrow7 (fun k e => (hown6.lt k e).1)
                  | exact below_grown (by assumption) hgrow6 (fun k e => (hown5.lt k e).1)
                  | exact below_grown (by assumption) hgrow6 (fun k e => ((hown5.alloc _).lt k e).1)
                  | exact below_grown (by assumption) hgrow5 hr5
                  | assumption)
                (first
                  | (refine step_append_any _ (by rfl) _ _ _ (by rfl) wq.heap.size 44 i0 _ 4 56 Tryd.underlying22 hi hz0 hz1 hz2 rfl (by decide) (.slice (some ⟨wq.heap.size, 0, none⟩) 0 0) 0 [] (by rfl) (own_nil_new _ 4 (heap_alloc_new wq _) (by omega)) (some a) 0 0 (filCells (ps.take 0)) (by rfl) HlT.out (fun h => (by cases h)) (fun ad e j u hu => (by simp [filCells] at hu)) HoT.out (by unfold maxLen; omega) (by omega) (by first | (simp; done) | (simp; omega)) ?_; intro v5 w5 hown5 hgrow5 _; have hr5 : ∀ k, (Value.slice (some ⟨wq.heap.size, 0, none⟩) 0 0).ownBlock = some k → wq.heap.size ≤ k := (fun k e => (by simp [Value.ownBlock] at e; omega)); rw [Nat.zero_add, List.nil_append] at hown5; have hsz5 : wq.heap.size ≤ w5.heap.size := (by have h := hgrow5.size; simp at h; omega))
                  | (refine step_append_any _ (by rfl) _ _ _ (by rfl) wq.heap.size 44 i0 _ 4 56 Tryd.underlying22 hi hz0 hz1 hz2 rfl (by decide) (.slice (some ⟨wq.heap.size, 0, none⟩) 0 0) 0 [] (by rfl) (own_nil_new _ 4 ((heap_alloc_old (wq.alloc _) _ (by simp)).trans (heap_alloc_new wq _)) (by omega)) (some a) 0 0 (filCells (ps.take 0)) (by rfl) HlT.out (fun h => (by cases h)) (fun ad e j u hu => (by simp [filCells] at hu)) HoT.out (by unfold maxLen; omega) (by omega) (by first | (simp; done) | (simp; omega)) ?_; intro v5 w5 hown5 hgrow5 _; have hr5 : ∀ k, (Value.slice (some ⟨wq.heap.size, 0, none⟩) 0 0).ownBlock = some k → wq.heap.size ≤ k := (fun k e => (by simp [Value.ownBlock] at e; omega)); rw [Nat.zero_add, List.nil_append] at hown5; have hsz5 : wq.heap.size ≤ w5.heap.size := (by have h := hgrow5.size; simp at h; omega))
                  | (refine step_append_any _ (by rfl) _ _ _ (by rfl) wq.heap.size 44 i0 _ 4 56 Tryd.underlying22 hi hz0 hz1 hz2 rfl (by decide) (.slice (some ⟨(wq.heap.size + 1), 0, none⟩) 0 0) 0 [] (by rfl) (own_nil_new _ 4 (by have h := heap_alloc_new (wq.alloc (.cells #[.string (B t), .bool false, .int .i64 0, .slice none 0 0] 44)) (.cells #[] 44); rwa [World.size_alloc] at h) (by omega)) (some a) 0 0 (filCells (ps.take 0)) (by rfl) HlT.out (fun h => (by cases h)) (fun ad e j u hu => (by simp [filCells] at hu)) HoT.out (by unfold maxLen; omega) (by omega) (by first | (simp; done) | (simp; omega)) ?_; intro v5 w5 hown5 hgrow5 _; have hr5 : ∀ k, (Value.slice (some ⟨(wq.heap.size + 1), 0, none⟩) 0 0).ownBlock = some k → wq.heap.size ≤ k := (fun k e => (by simp [Value.ownBlock] at e; omega)); rw [Nat.zero_add, List.nil_append] at hown5; have hsz5 : wq.heap.size ≤ w5.heap.size := (by have h := hgrow5.size; simp at h; omega))
                  | (refine step_append_any _ (by rfl) _ _ _ (by rfl) wq.heap.size 44 i0 _ 4 56 Tryd.underlying22 hi hz0 hz1 hz2 rfl (by decide) v5 0 (filCells (ps.take 0)) (by rfl) hown5 (some ⟨(wq.heap.size + 1), 0, none⟩) 1 1 [.string (B t), .bool false, .int .i64 0, .slice none 0 0] (by rfl) (by rfl) (fun h => (by cases h)) (fun ad e => (by cases e; exact World.news_of_block (cs := #[.string (B t), .bool false, .int .i64 0, .slice none 0 0]) (t := 44) (fr := (0, 0)) ((hgrow5.block (wq.heap.size + 1) (by first | (simp; done) | (simp; omega)) (by simp [Value.ownBlock])).trans (by have h := heap_alloc_new (wq.alloc (.cells #[] 44)) (.cells #[.string (B t), .bool false, .int .i64 0, .slice none 0 0] 44); rwa [World.size_alloc] at h)))) (by simp [Value.oneCell']) (by unfold maxLen; omega) (by omega) (by first | exact hsz5 | (simp; omega)) ?_; intro v6 w6 hown6 hgrow6 _; have hsz6 : wq.heap.size ≤ w6.heap.size := (by have h := hgrow6.size; first | omega | (simp at h; omega)))
                  | (refine step_append_any _ (by rfl) _ _ _ (by rfl) wq.heap.size 44 i0 _ 4 56 Tryd.underlying22 hi hz0 hz1 hz2 rfl (by decide) v5 0 (filCells (ps.take 0)) (by rfl) hown5 (some ⟨wq.heap.size, 0, none⟩) 1 1 [.string (B t), .bool false, .int .i64 0, .slice none 0 0] (by rfl) (by rfl) (fun h => (by cases h)) (fun ad e => (by cases e; exact World.news_of_block (cs := #[.string (B t), .bool false, .int .i64 0, .slice none 0 0]) (t := 44) (fr := (0, 0)) ((hgrow5.block wq.heap.size (by first | (simp; done) | (simp; omega)) (by simp [Value.ownBlock])).trans ((heap_alloc_old (wq.alloc _) _ (by simp)).trans (heap_alloc_new wq _))))) (by simp [Value.oneCell']) (by unfold maxLen; omega) (by omega) (by first | exact hsz5 | (simp; omega)) ?_; intro v6 w6 hown6 hgrow6 _; have hsz6 : wq.heap.size ≤ w6.heap.size := (by have h := hgrow6.size; first | omega | (simp at h; omega)))
                  | (refine step_append_any _ (by rfl) _ _ _ (by rfl) wq.heap.size 44 i0 _ 4 56 Tryd.underlying22 hi hz0 hz1 hz2 rfl (by decide) v5 0 (filCells (ps.take 0)) (by rfl) (hown5.alloc _) (some ⟨w5.heap.size, 0, none⟩) 1 1 [.string (B t), .bool false, .int .i64 0, .slice none 0 0] (by rfl) (by rfl) (fun h => (by cases h)) (fun ad e => (by cases e; exact World.news_of_block (cs := #[.string (B t), .bool false, .int .i64 0, .slice none 0 0]) (t := 44) (fr := (0, 0)) (heap_alloc_new w5 _))) (by simp [Value.oneCell']) (by unfold maxLen; omega) (by omega) (by first | exact hsz5 | (simp; omega)) ?_; intro v6 w6 hown6 hgrow6 _; have hsz6 : wq.heap.size ≤ w6.heap.size := (by have h := hgrow6.size; first | omega | (simp at h; omega)))
                  | (refine step_append_any _ (by rfl) _ _ _ (by rfl) wq.heap.size 44 i0 _ 4 56 Tryd.underlying22 hi hz0 hz1 hz2 rfl (by decide) v6 (0 + 1) (filCells (ps.take 0) ++ [.string (B t), .bool false, .int .i64 0, .slice none 0 0]) (by rfl) hown6 (some a) 0 0 (filCells (ps.drop 0)) (by rfl) HlD.out (fun h => (by cases h)) (fun ad e j u hu => (by rw [List.drop_of_length_le (by have := Hpl.out; first | omega | (simp; omega) | simp_all)] at hu; simp [filCells] at hu)) HoD.out (by unfold maxLen; omega) (by omega) hsz6 ?_; intro v7 w7 hown7 hgrow7 _)
                  | fail)
              all_goals
                have hbw : Below wq.heap.size wq w7 := by assumption
                have HB7 := Lib.hid (step_call Bq.out hbw)
                have HF7 : Hid (Files w7 v7 (([] : List Fil).take 0 ++ ⟨t, false, 0, []⟩ :: ([] : List Fil).drop 0)) := Lib.hid (more_files Hps.out Hpl.out Hex.out (by first | omega | (simp; done)) (step_call Bq2.out hbw) (J := 0) (M := 0) (by first | rfl | omega) (by first | omega | (simp; done)) (by first | exact hown7 | simpa using hown7))
                clear hown5 hgrow5 hown6 hgrow6 hown7 hgrow7 hbw
                go_wp2_with (first | (go_at_call 18; refine (more_right v7 _ (by first | (rw [more_len]; omega) | (simp; done) | (simp; omega)) (fun f hf => more_fit Hfit.out Hnm.out 0 f (by first | exact hf | simpa using hf)) (by first | exact Hin.out | simpa using Hin.out) _ HF7.out).mono ?_; rintro e w8 ⟨rfl, hb8⟩) | fail)
                go_ret
                exact ⟨rfl, step_call HB7.out hb8⟩
            · have hcc2 : 0 < c := by omega
              have Hnm : Hid (nameB t = true) := Hnb
              have h64c : ([] : List Fil).length < 64 := by first | omega | (simp; done)
              have Hin : Hid (rightB (([] : List Fil).take 0 ++ ⟨t, false, 0, []⟩ :: ([] : List Fil).drop 0) 0 4096 = true) := Lib.hid (by first | exact Hins.out rfl Hnm.out h64c | simpa using Hins.out rfl Hnm.out h64c)
              obtain ⟨ps, hps, hex, hcl⟩ := files_list Hv2.out
              have Hpl : Hid (ps.length = ([] : List Fil).length) := Lib.hid (by rw [← hps, List.length_map])
              have Hps := Lib.hid hps
              have Hex := Lib.hid hex
              go_wp2_with (first | (go_at_call 19; refine (HN.out _).mono ?_; rintro e wq ⟨rfl, hb5⟩) | fail)
              have Bq2 := Lib.hid (step_call Hbel.out hb5)
              have Bq := Lib.hid (step_call B2.out Bq2.out)
              clear hps hex hb5
              have HlT : Hid ((filCells (ps.take 0)).length = 0 * 4) := Lib.hid (by rw [filCells_length, List.length_take]; have := Hpl.out; omega)
              have HlD : Hid ((filCells (ps.drop 0)).length = 0 * 4) := Lib.hid (by rw [filCells_length, List.length_drop]; have := Hpl.out; omega)
              have HoT : Hid (∀ u ∈ filCells (ps.take 0), u.oneCell' = true) := Lib.hid (filCells_one (w := w2) (fun p hp => Hex.out p (by first | exact List.mem_of_mem_take hp | exact absurd hp (by simp))))
              have HoD : Hid (∀ u ∈ filCells (ps.drop 0), u.oneCell' = true) := Lib.hid (filCells_one (w := w2) (fun p hp => Hex.out p (by first | exact List.mem_of_mem_drop hp | exact absurd hp (by simp))))
              go_wp2
              go_region_held3 (fun w' => Below wq.heap.size wq w')
                (first
                  | exact below_drew wq
                  | exact step_new (by assumption) _
                  | exact below_grown (by assumption) hgrow7 (fun k e => (hown6.lt k e).1)
                  | exact below_grown (by assumption) hgrow6 (fun k e => (hown5.lt k e).1)
                  | exact below_grown (by assumption) hgrow6 (fun k e => ((hown5.alloc _).lt k e).1)
                  | exact below_grown (by assumption) hgrow5 hr5
                  | assumption)
                (first
                  | (refine step_append_any _ (by rfl) _ _ _ (by rfl) wq.heap.size 44 i0 _ 4 56 Tryd.underlying22 hi hz0 hz1 hz2 rfl (by decide) (.slice (some ⟨wq.heap.size, 0, none⟩) 0 0) 0 [] (by rfl) (own_nil_new _ 4 (heap_alloc_new wq _) (by omega)) (some a) 0 c (filCells (ps.take 0)) (by rfl) HlT.out (fun h => (by cases h)) (fun ad e j u hu => (by simp [filCells] at hu)) HoT.out (by unfold maxLen; omega) (by omega) (by first | (simp; done) | (simp; omega)) ?_; intro v5 w5 hown5 hgrow5 _; have hr5 : ∀ k, (Value.slice (some ⟨wq.heap.size, 0, none⟩) 0 0).ownBlock = some k → wq.heap.size ≤ k := (fun k e => (by simp [Value.ownBlock] at e; omega)); rw [Nat.zero_add, List.nil_append] at hown5; have hsz5 : wq.heap.size ≤ w5.heap.size := (by have h := hgrow5.size; simp at h; omega))
                  | (refine step_append_any _ (by rfl) _ _ _ (by rfl) wq.heap.size 44 i0 _ 4 56 Tryd.underlying22 hi hz0 hz1 hz2 rfl (by decide) (.slice (some ⟨wq.heap.size, 0, none⟩) 0 0) 0 [] (by rfl) (own_nil_new _ 4 ((heap_alloc_old (wq.alloc _) _ (by simp)).trans (heap_alloc_new wq _)) (by omega)) (some a) 0 c (filCells (ps.take 0)) (by rfl) HlT.out (fun h => (by cases h)) (fun ad e j u hu => (by simp [filCells] at hu)) HoT.out (by unfold maxLen; omega) (by omega) (by first | (simp; done) | (simp; omega)) ?_; intro v5 w5 hown5 hgrow5 _; have hr5 : ∀ k, (Value.slice (some ⟨wq.heap.size, 0, none⟩) 0 0).ownBlock = some k → wq.heap.size ≤ k := (fun k e => (by simp [Value.ownBlock] at e; omega)); rw [Nat.zero_add, List.nil_append] at hown5; have hsz5 : wq.heap.size ≤ w5.heap.size := (by have h := hgrow5.size; simp at h; omega))
                  | (refine step_append_any _ (by rfl) _ _ _ (by rfl) wq.heap.size 44 i0 _ 4 56 Tryd.underlying22 hi hz0 hz1 hz2 rfl (by decide) (.slice (some ⟨(wq.heap.size + 1), 0, none⟩) 0 0) 0 [] (by rfl) (own_nil_new _ 4 (by have h := heap_alloc_new (wq.alloc (.cells #[.string (B t), .bool false, .int .i64 0, .slice none 0 0] 44)) (.cells #[] 44); rwa [World.size_alloc] at h) (by omega)) (some a) 0 c (filCells (ps.take 0)) (by rfl) HlT.out (fun h => (by cases h)) (fun ad e j u hu => (by simp [filCells] at hu)) HoT.out (by unfold maxLen; omega) (by omega) (by first | (simp; done) | (simp; omega)) ?_; intro v5 w5 hown5 hgrow5 _; have hr5 : ∀ k, (Value.slice (some ⟨(wq.heap.size + 1), 0, none⟩) 0 0).ownBlock = some k → wq.heap.size ≤ k := (fun k e => (by simp [Value.ownBlock] at e; omega)); rw [Nat.zero_add, List.nil_append] at hown5; have hsz5 : wq.heap.size ≤ w5.heap.size := (by have h := hgrow5.size; simp at h; omega))
                  | (refine step_append_any _ (by rfl) _ _ _ (by rfl) wq.heap.size 44 i0 _ 4 56 Tryd.underlying22 hi hz0 hz1 hz2 rfl (by decide) v5 0 (filCells (ps.take 0)) (by rfl) hown5 (some ⟨(wq.heap.size + 1), 0, none⟩) 1 1 [.string (B t), .bool false, .int .i64 0, .slice none 0 0] (by rfl) (by rfl) (fun h => (by cases h)) (fun ad e => (by cases e; exact World.news_of_block (cs := #[.string (B t), .bool false, .int .i64 0, .slice none 0 0]) (t := 44) (fr := (0, 0)) ((hgrow5.block (wq.heap.size + 1) (by first | (simp; done) | (simp; omega)) (by simp [Value.ownBlock])).trans (by have h := heap_alloc_new (wq.alloc (.cells #[] 44)) (.cells #[.string (B t), .bool false, .int .i64 0, .slice none 0 0] 44); rwa [World.size_alloc] at h)))) (by simp [Value.oneCell']) (by unfold maxLen; omega) (by omega) (by first | exact hsz5 | (simp; omega)) ?_; intro v6 w6 hown6 hgrow6 _; have hsz6 : wq.heap.size ≤ w6.heap.size := (by have h := hgrow6.size; first | omega | (simp at h; omega)))
                  | (refine step_append_any _ (by rfl) _ _ _ (by rfl) wq.heap.size 44 i0 _ 4 56 Tryd.underlying22 hi hz0 hz1 hz2 rfl (by decide) v5 0 (filCells (ps.take 0)) (by rfl) hown5 (some ⟨wq.heap.size, 0, none⟩) 1 1 [.string (B t), .bool false, .int .i64 0, .slice none 0 0] (by rfl) (by rfl) (fun h => (by cases h)) (fun ad e => (by cases e; exact World.news_of_block (cs := #[.string (B t), .bool false, .int .i64 0, .slice none 0 0]) (t := 44) (fr := (0, 0)) ((hgrow5.block wq.heap.size (by first | (simp; done) | (simp; omega)) (by simp [Value.ownBlock])).trans ((heap_alloc_old (wq.alloc _) _ (by simp)).trans (heap_alloc_new wq _))))) (by simp [Value.oneCell']) (by unfold maxLen; omega) (by omega) (by first | exact hsz5 | (simp; omega)) ?_; intro v6 w6 hown6 hgrow6 _; have hsz6 : wq.heap.size ≤ w6.heap.size := (by have h := hgrow6.size; first | omega | (simp at h; omega)))
                  | (refine step_append_any _ (by rfl) _ _ _ (by rfl) wq.heap.size 44 i0 _ 4 56 Tryd.underlying22 hi hz0 hz1 hz2 rfl (by decide) v5 0 (filCells (ps.take 0)) (by rfl) (hown5.alloc _) (some ⟨w5.heap.size, 0, none⟩) 1 1 [.string (B t), .bool false, .int .i64 0, .slice none 0 0] (by rfl) (by rfl) (fun h => (by cases h)) (fun ad e => (by cases e; exact World.news_of_block (cs := #[.string (B t), .bool false, .int .i64 0, .slice none 0 0]) (t := 44) (fr := (0, 0)) (heap_alloc_new w5 _))) (by simp [Value.oneCell']) (by unfold maxLen; omega) (by omega) (by first | exact hsz5 | (simp; omega)) ?_; intro v6 w6 hown6 hgrow6 _; have hsz6 : wq.heap.size ≤ w6.heap.size := (by have h := hgrow6.size; first | omega | (simp at h; omega)))
                  | (refine step_append_any _ (by rfl) _ _ _ (by rfl) wq.heap.size 44 i0 _ 4 56 Tryd.underlying22 hi hz0 hz1 hz2 rfl (by decide) v6 (0 + 1) (filCells (ps.take 0) ++ [.string (B t), .bool false, .int .i64 0, .slice none 0 0]) (by rfl) hown6 (some (a.add 0)) 0 c (filCells (ps.drop 0)) (by rfl) HlD.out (fun h => (by cases h)) (fun ad e j u hu => (by rw [List.drop_of_length_le (by have := Hpl.out; first | omega | (simp; omega) | simp_all)] at hu; simp [filCells] at hu)) HoD.out (by unfold maxLen; omega) (by omega) hsz6 ?_; intro v7 w7 hown7 hgrow7 _)
                  | fail)
              all_goals
                have hbw : Below wq.heap.size wq w7 := by assumption
                have HB7 := Lib.hid (step_call Bq.out hbw)
                have HF7 : Hid (Files w7 v7 (([] : List Fil).take 0 ++ ⟨t, false, 0, []⟩ :: ([] : List Fil).drop 0)) := Lib.hid (more_files Hps.out Hpl.out Hex.out (by first | omega | (simp; done)) (step_call Bq2.out hbw) (J := 0) (M := 0) (by first | rfl | omega) (by first | omega | (simp; done)) (by first | exact hown7 | simpa using hown7))
                clear hown5 hgrow5 hown6 hgrow6 hown7 hgrow7 hbw
                go_wp2_with (first | (go_at_call 18; refine (more_right v7 _ (by first | (rw [more_len]; omega) | (simp; done) | (simp; omega)) (fun f hf => more_fit Hfit.out Hnm.out 0 f (by first | exact hf | simpa using hf)) (by first | exact Hin.out | simpa using Hin.out) _ HF7.out).mono ?_; rintro e w8 ⟨rfl, hb8⟩) | fail)
                go_ret
                exact ⟨rfl, step_call HB7.out hb8⟩
        · obtain ⟨b, off, ve, rfl, hb, -⟩ := Hcell.out 0 h0
          by_cases hcc : l.length = c
          · obtain rfl : p = l.length := Hpe.out
            subst hcc
            have Hnm : Hid (nameB t = true) := Hnb
            have h64c : l.length < 64 := by first | omega | (simp; done)
            have Hin : Hid (rightB (l.take l.length ++ ⟨t, false, 0, []⟩ :: l.drop l.length) 0 4096 = true) := Lib.hid (by first | exact Hins.out rfl Hnm.out h64c | simpa using Hins.out rfl Hnm.out h64c)
            obtain ⟨ps, hps, hex, hcl⟩ := files_list Hv2.out
            have Hpl : Hid (ps.length = l.length) := Lib.hid (by rw [← hps, List.length_map])
            have Hps := Lib.hid hps
            have Hex := Lib.hid hex
            have hcl := hcl _ _ rfl
            go_wp2_with (first | (go_at_call 19; refine (HN.out _).mono ?_; rintro e wq ⟨rfl, hb5⟩) | fail)
            have Bq2 := Lib.hid (step_call Hbel.out hb5)
            have Bq := Lib.hid (step_call B2.out Bq2.out)
            have HnT := Lib.hid (fun w' h => take_news (w' := w') hcl l.length (step_call Bq2.out h))
            have HnD := Lib.hid (fun w' h => drop_news (w' := w') hcl l.length (by have := Hpl.out; omega) (step_call Bq2.out h))
            clear hps hex hb5
            have HlT : Hid ((filCells (ps.take l.length)).length = l.length * 4) := Lib.hid (by rw [filCells_length, List.length_take]; have := Hpl.out; omega)
            have HlD : Hid ((filCells (ps.drop l.length)).length = 0 * 4) := Lib.hid (by rw [filCells_length, List.length_drop]; have := Hpl.out; omega)
            have HoT : Hid (∀ u ∈ filCells (ps.take l.length), u.oneCell' = true) := Lib.hid (filCells_one (w := w2) (fun p hp => Hex.out p (by first | exact List.mem_of_mem_take hp | exact absurd hp (by simp))))
            have HoD : Hid (∀ u ∈ filCells (ps.drop l.length), u.oneCell' = true) := Lib.hid (filCells_one (w := w2) (fun p hp => Hex.out p (by first | exact List.mem_of_mem_drop hp | exact absurd hp (by simp))))
            go_wp2
            go_region_held3 (fun w' => Below wq.heap.size wq w')
              (first
                | exact below_drew wq
                | exact step_new (by assumption) _
                | exact below_grown (by assumption) hgrow7 (fun k e => (hown6.lt k e).1)
                | exact below_grown (by assumption) hgrow6 (fun k e => (hown5.lt k e).1)
                | exact below_grown (by assumption) hgrow6 (fun k e => ((hown5.alloc _).lt k e).1)
                | exact below_grown (by assumption) hgrow5 hr5
                | assumption)
              (first
                | (refine step_append_any _ (by rfl) _ _ _ (by rfl) wq.heap.size 44 i0 _ 4 56 Tryd.underlying22 hi hz0 hz1 hz2 rfl (by decide) (.slice (some ⟨wq.heap.size, 0, none⟩) 0 0) 0 [] (by rfl) (own_nil_new _ 4 (heap_alloc_new wq _) (by omega)) (some ⟨b, off, none⟩) l.length l.length (filCells (ps.take l.length)) (by rfl) HlT.out (fun h => (by cases h)) (HnT.out _ (by assumption)) HoT.out (by unfold maxLen; omega) (by omega) (by first | (simp; done) | (simp; omega)) ?_; intro v5 w5 hown5 hgrow5 _; have hr5 : ∀ k, (Value.slice (some ⟨wq.heap.size, 0, none⟩) 0 0).ownBlock = some k → wq.heap.size ≤ k := (fun k e => (by simp [Value.ownBlock] at e; omega)); rw [Nat.zero_add, List.nil_append] at hown5; have hsz5 : wq.heap.size ≤ w5.heap.size := (by have h := hgrow5.size; simp at h; omega))
                | (refine step_append_any _ (by rfl) _ _ _ (by rfl) wq.heap.size 44 i0 _ 4 56 Tryd.underlying22 hi hz0 hz1 hz2 rfl (by decide) (.slice (some ⟨wq.heap.size, 0, none⟩) 0 0) 0 [] (by rfl) (own_nil_new _ 4 ((heap_alloc_old (wq.alloc _) _ (by simp)).trans (heap_alloc_new wq _)) (by omega)) (some ⟨b, off, none⟩) l.length l.length (filCells (ps.take l.length)) (by rfl) HlT.out (fun h => (by cases h)) (HnT.out _ (by assumption)) HoT.out (by unfold maxLen; omega) (by omega) (by first | (simp; done) | (simp; omega)) ?_; intro v5 w5 hown5 hgrow5 _; have hr5 : ∀ k, (Value.slice (some ⟨wq.heap.size, 0, none⟩) 0 0).ownBlock = some k → wq.heap.size ≤ k := (fun k e => (by simp [Value.ownBlock] at e; omega)); rw [Nat.zero_add, List.nil_append] at hown5; have hsz5 : wq.heap.size ≤ w5.heap.size := (by have h := hgrow5.size; simp at h; omega))
                | (refine step_append_any _ (by rfl) _ _ _ (by rfl) wq.heap.size 44 i0 _ 4 56 Tryd.underlying22 hi hz0 hz1 hz2 rfl (by decide) (.slice (some ⟨(wq.heap.size + 1), 0, none⟩) 0 0) 0 [] (by rfl) (own_nil_new _ 4 (by have h := heap_alloc_new (wq.alloc (.cells #[.string (B t), .bool false, .int .i64 0, .slice none 0 0] 44)) (.cells #[] 44); rwa [World.size_alloc] at h) (by omega)) (some ⟨b, off, none⟩) l.length l.length (filCells (ps.take l.length)) (by rfl) HlT.out (fun h => (by cases h)) (HnT.out _ (by assumption)) HoT.out (by unfold maxLen; omega) (by omega) (by first | (simp; done) | (simp; omega)) ?_; intro v5 w5 hown5 hgrow5 _; have hr5 : ∀ k, (Value.slice (some ⟨(wq.heap.size + 1), 0, none⟩) 0 0).ownBlock = some k → wq.heap.size ≤ k := (fun k e => (by simp [Value.ownBlock] at e; omega)); rw [Nat.zero_add, List.nil_append] at hown5; have hsz5 : wq.heap.size ≤ w5.heap.size := (by have h := hgrow5.size; simp at h; omega))
                | (refine step_append_any _ (by rfl) _ _ _ (by rfl) wq.heap.size 44 i0 _ 4 56 Tryd.underlying22 hi hz0 hz1 hz2 rfl (by decide) v5 l.length (filCells (ps.take l.length)) (by rfl) hown5 (some ⟨(wq.heap.size + 1), 0, none⟩) 1 1 [.string (B t), .bool false, .int .i64 0, .slice none 0 0] (by rfl) (by rfl) (fun h => (by cases h)) (fun ad e => (by cases e; exact World.news_of_block (cs := #[.string (B t), .bool false, .int .i64 0, .slice none 0 0]) (t := 44) (fr := (0, 0)) ((hgrow5.block (wq.heap.size + 1) (by first | (simp; done) | (simp; omega)) (by simp [Value.ownBlock])).trans (by have h := heap_alloc_new (wq.alloc (.cells #[] 44)) (.cells #[.string (B t), .bool false, .int .i64 0, .slice none 0 0] 44); rwa [World.size_alloc] at h)))) (by simp [Value.oneCell']) (by unfold maxLen; omega) (by omega) (by first | exact hsz5 | (simp; omega)) ?_; intro v6 w6 hown6 hgrow6 _; have hsz6 : wq.heap.size ≤ w6.heap.size := (by have h := hgrow6.size; first | omega | (simp at h; omega)))
                | (refine step_append_any _ (by rfl) _ _ _ (by rfl) wq.heap.size 44 i0 _ 4 56 Tryd.underlying22 hi hz0 hz1 hz2 rfl (by decide) v5 l.length (filCells (ps.take l.length)) (by rfl) hown5 (some ⟨wq.heap.size, 0, none⟩) 1 1 [.string (B t), .bool false, .int .i64 0, .slice none 0 0] (by rfl) (by rfl) (fun h => (by cases h)) (fun ad e => (by cases e; exact World.news_of_block (cs := #[.string (B t), .bool false, .int .i64 0, .slice none 0 0]) (t := 44) (fr := (0, 0)) ((hgrow5.block wq.heap.size (by first | (simp; done) | (simp; omega)) (by simp [Value.ownBlock])).trans ((heap_alloc_old (wq.alloc _) _ (by simp)).trans (heap_alloc_new wq _))))) (by simp [Value.oneCell']) (by unfold maxLen; omega) (by omega) (by first | exact hsz5 | (simp; omega)) ?_; intro v6 w6 hown6 hgrow6 _; have hsz6 : wq.heap.size ≤ w6.heap.size := (by have h := hgrow6.size; first | omega | (simp at h; omega)))
                | (refine step_append_any _ (by rfl) _ _ _ (by rfl) wq.heap.size 44 i0 _ 4 56 Tryd.underlying22 hi hz0 hz1 hz2 rfl (by decide) v5 l.length (filCells (ps.take l.length)) (by rfl) (hown5.alloc _) (some ⟨w5.heap.size, 0, none⟩) 1 1 [.string (B t), .bool false, .int .i64 0, .slice none 0 0] (by rfl) (by rfl) (fun h => (by cases h)) (fun ad e => (by cases e; exact World.news_of_block (cs := #[.string (B t), .bool false, .int .i64 0, .slice none 0 0]) (t := 44) (fr := (0, 0)) (heap_alloc_new w5 _))) (by simp [Value.oneCell']) (by unfold maxLen; omega) (by omega) (by first | exact hsz5 | (simp; omega)) ?_; intro v6 w6 hown6 hgrow6 _; have hsz6 : wq.heap.size ≤ w6.heap.size := (by have h := hgrow6.size; first | omega | (simp at h; omega)))
                | (refine step_append_any _ (by rfl) _ _ _ (by rfl) wq.heap.size 44 i0 _ 4 56 Tryd.underlying22 hi hz0 hz1 hz2 rfl (by decide) v6 (l.length + 1) (filCells (ps.take l.length) ++ [.string (B t), .bool false, .int .i64 0, .slice none 0 0]) (by rfl) hown6 (some ⟨b, off, none⟩) 0 0 (filCells (ps.drop l.length)) (by rfl) HlD.out (fun h => (by cases h)) (fun ad e j u hu => (by rw [List.drop_of_length_le (by have := Hpl.out; first | omega | (simp; omega) | simp_all)] at hu; simp [filCells] at hu)) HoD.out (by unfold maxLen; omega) (by omega) hsz6 ?_; intro v7 w7 hown7 hgrow7 _)
                | fail)
            all_goals
              have hbw : Below wq.heap.size wq w7 := by assumption
              have HB7 := Lib.hid (step_call Bq.out hbw)
              have HF7 : Hid (Files w7 v7 (l.take l.length ++ ⟨t, false, 0, []⟩ :: l.drop l.length)) := Lib.hid (more_files Hps.out Hpl.out Hex.out (by first | omega | (simp; done)) (step_call Bq2.out hbw) (J := l.length) (M := 0) (by first | rfl | omega) (by first | omega | (simp; done)) (by first | exact hown7 | simpa using hown7))
              clear hown5 hgrow5 hown6 hgrow6 hown7 hgrow7 hbw
              go_wp2_with (first | (go_at_call 18; refine (more_right v7 _ (by first | (rw [more_len]; omega) | (simp; done) | (simp; omega)) (fun f hf => more_fit Hfit.out Hnm.out l.length f (by first | exact hf | simpa using hf)) (by first | exact Hin.out | simpa using Hin.out) _ HF7.out).mono ?_; rintro e w8 ⟨rfl, hb8⟩) | fail)
              go_ret
              exact ⟨rfl, step_call HB7.out hb8⟩
          · have hcc2 : l.length < c := by omega
            have hpc : p < c := by have := Hpe.out; omega
            have Hnm : Hid (nameB t = true) := Hnb
            have h64c : l.length < 64 := by first | omega | (simp; done)
            have Hin : Hid (rightB (l.take p ++ ⟨t, false, 0, []⟩ :: l.drop p) 0 4096 = true) := Lib.hid (by first | exact Hins.out rfl Hnm.out h64c | simpa using Hins.out rfl Hnm.out h64c)
            obtain ⟨ps, hps, hex, hcl⟩ := files_list Hv2.out
            have Hpl : Hid (ps.length = l.length) := Lib.hid (by rw [← hps, List.length_map])
            have Hps := Lib.hid hps
            have Hex := Lib.hid hex
            have hcl := hcl _ _ rfl
            go_wp2_with (first | (go_at_call 19; refine (HN.out _).mono ?_; rintro e wq ⟨rfl, hb5⟩) | fail)
            have Bq2 := Lib.hid (step_call Hbel.out hb5)
            have Bq := Lib.hid (step_call B2.out Bq2.out)
            have HnT := Lib.hid (fun w' h => take_news (w' := w') hcl p (step_call Bq2.out h))
            have HnD := Lib.hid (fun w' h => drop_news (w' := w') hcl p (by have := Hpl.out; omega) (step_call Bq2.out h))
            clear hps hex hb5
            have HlT : Hid ((filCells (ps.take p)).length = p * 4) := Lib.hid (by rw [filCells_length, List.length_take]; have := Hpl.out; omega)
            have HlD : Hid ((filCells (ps.drop p)).length = (l.length - p) * 4) := Lib.hid (by rw [filCells_length, List.length_drop]; have := Hpl.out; omega)
            have HoT : Hid (∀ u ∈ filCells (ps.take p), u.oneCell' = true) := Lib.hid (filCells_one (w := w2) (fun p hp => Hex.out p (by first | exact List.mem_of_mem_take hp | exact absurd hp (by simp))))
            have HoD : Hid (∀ u ∈ filCells (ps.drop p), u.oneCell' = true) := Lib.hid (filCells_one (w := w2) (fun p hp => Hex.out p (by first | exact List.mem_of_mem_drop hp | exact absurd hp (by simp))))
            have kp0 : (0 : Int) ≤ (p : Int) := by omega
            have kpc : (p : Int) ≤ (c : Int) := by omega
            have kcp : ¬ c = p := by omega
            go_wp2
            go_region_held3 (fun w' => Below wq.heap.size wq w')
              (first
                | exact below_drew wq
                | exact step_new (by assumption) _
                | exact below_grown (by assumption) hgrow7 (fun k e => (hown6.lt k e).1)
                | exact below_grown (by assumption) hgrow6 (fun k e => (hown5.lt k e).1)
                | exact below_grown (by assumption) hgrow6 (fun k e => ((hown5.alloc _).lt k e).1)
                | exact below_grown (by assumption) hgrow5 hr5
                | assumption)
              (first
                | (refine step_append_any _ (by rfl) _ _ _ (by rfl) wq.heap.size 44 i0 _ 4 56 Tryd.underlying22 hi hz0 hz1 hz2 rfl (by decide) (.slice (some ⟨wq.heap.size, 0, none⟩) 0 0) 0 [] (by rfl) (own_nil_new _ 4 (heap_alloc_new wq _) (by omega)) (some ⟨b, off, none⟩) p c (filCells (ps.take p)) (by rfl) HlT.out (fun h => (by cases h)) (HnT.out _ (by assumption)) HoT.out (by unfold maxLen; omega) (by omega) (by first | (simp; done) | (simp; omega)) ?_; intro v5 w5 hown5 hgrow5 _; have hr5 : ∀ k, (Value.slice (some ⟨wq.heap.size, 0, none⟩) 0 0).ownBlock = some k → wq.heap.size ≤ k := (fun k e => (by simp [Value.ownBlock] at e; omega)); rw [Nat.zero_add, List.nil_append] at hown5; have hsz5 : wq.heap.size ≤ w5.heap.size := (by have h := hgrow5.size; simp at h; omega))
                | (refine step_append_any _ (by rfl) _ _ _ (by rfl) wq.heap.size 44 i0 _ 4 56 Tryd.underlying22 hi hz0 hz1 hz2 rfl (by decide) (.slice (some ⟨wq.heap.size, 0, none⟩) 0 0) 0 [] (by rfl) (own_nil_new _ 4 ((heap_alloc_old (wq.alloc _) _ (by simp)).trans (heap_alloc_new wq _)) (by omega)) (some ⟨b, off, none⟩) p c (filCells (ps.take p)) (by rfl) HlT.out (fun h => (by cases h)) (HnT.out _ (by assumption)) HoT.out (by unfold maxLen; omega) (by omega) (by first | (simp; done) | (simp; omega)) ?_; intro v5 w5 hown5 hgrow5 _; have hr5 : ∀ k, (Value.slice (some ⟨wq.heap.size, 0, none⟩) 0 0).ownBlock = some k → wq.heap.size ≤ k := (fun k e => (by simp [Value.ownBlock] at e; omega)); rw [Nat.zero_add, List.nil_append] at hown5; have hsz5 : wq.heap.size ≤ w5.heap.size := (by have h := hgrow5.size; simp at h; omega))
                | (refine step_append_any _ (by rfl) _ _ _ (by rfl) wq.heap.size 44 i0 _ 4 56 Tryd.underlying22 hi hz0 hz1 hz2 rfl (by decide) (.slice (some ⟨(wq.heap.size + 1), 0, none⟩) 0 0) 0 [] (by rfl) (own_nil_new _ 4 (by have h := heap_alloc_new (wq.alloc (.cells #[.string (B t), .bool false, .int .i64 0, .slice none 0 0] 44)) (.cells #[] 44); rwa [World.size_alloc] at h) (by omega)) (some ⟨b, off, none⟩) p c (filCells (ps.take p)) (by rfl) HlT.out (fun h => (by cases h)) (HnT.out _ (by assumption)) HoT.out (by unfold maxLen; omega) (by omega) (by first | (simp; done) | (simp; omega)) ?_; intro v5 w5 hown5 hgrow5 _; have hr5 : ∀ k, (Value.slice (some ⟨(wq.heap.size + 1), 0, none⟩) 0 0).ownBlock = some k → wq.heap.size ≤ k := (fun k e => (by simp [Value.ownBlock] at e; omega)); rw [Nat.zero_add, List.nil_append] at hown5; have hsz5 : wq.heap.size ≤ w5.heap.size := (by have h := hgrow5.size; simp at h; omega))
                | (refine step_append_any _ (by rfl) _ _ _ (by rfl) wq.heap.size 44 i0 _ 4 56 Tryd.underlying22 hi hz0 hz1 hz2 rfl (by decide) v5 p (filCells (ps.take p)) (by rfl) hown5 (some ⟨(wq.heap.size + 1), 0, none⟩) 1 1 [.string (B t), .bool false, .int .i64 0, .slice none 0 0] (by rfl) (by rfl) (fun h => (by cases h)) (fun ad e => (by cases e; exact World.news_of_block (cs := #[.string (B t), .bool false, .int .i64 0, .slice none 0 0]) (t := 44) (fr := (0, 0)) ((hgrow5.block (wq.heap.size + 1) (by first | (simp; done) | (simp; omega)) (by simp [Value.ownBlock])).trans (by have h := heap_alloc_new (wq.alloc (.cells #[] 44)) (.cells #[.string (B t), .bool false, .int .i64 0, .slice none 0 0] 44); rwa [World.size_alloc] at h)))) (by simp [Value.oneCell']) (by unfold maxLen; omega) (by omega) (by first | exact hsz5 | (simp; omega)) ?_; intro v6 w6 hown6 hgrow6 _; have hsz6 : wq.heap.size ≤ w6.heap.size := (by have h := hgrow6.size; first | omega | (simp at h; omega)))
                | (refine step_append_any _ (by rfl) _ _ _ (by rfl) wq.heap.size 44 i0 _ 4 56 Tryd.underlying22 hi hz0 hz1 hz2 rfl (by decide) v5 p (filCells (ps.take p)) (by rfl) hown5 (some ⟨wq.heap.size, 0, none⟩) 1 1 [.string (B t), .bool false, .int .i64 0, .slice none 0 0] (by rfl) (by rfl) (fun h => (by cases h)) (fun ad e => (by cases e; exact World.news_of_block (cs := #[.string (B t), .bool false, .int .i64 0, .slice none 0 0]) (t := 44) (fr := (0, 0)) ((hgrow5.block wq.heap.size (by first | (simp; done) | (simp; omega)) (by simp [Value.ownBlock])).trans ((heap_alloc_old (wq.alloc _) _ (by simp)).trans (heap_alloc_new wq _))))) (by simp [Value.oneCell']) (by unfold maxLen; omega) (by omega) (by first | exact hsz5 | (simp; omega)) ?_; intro v6 w6 hown6 hgrow6 _; have hsz6 : wq.heap.size ≤ w6.heap.size := (by have h := hgrow6.size; first | omega | (simp at h; omega)))
                | (refine step_append_any _ (by rfl) _ _ _ (by rfl) wq.heap.size 44 i0 _ 4 56 Tryd.underlying22 hi hz0 hz1 hz2 rfl (by decide) v5 p (filCells (ps.take p)) (by rfl) (hown5.alloc _) (some ⟨w5.heap.size, 0, none⟩) 1 1 [.string (B t), .bool false, .int .i64 0, .slice none 0 0] (by rfl) (by rfl) (fun h => (by cases h)) (fun ad e => (by cases e; exact World.news_of_block (cs := #[.string (B t), .bool false, .int .i64 0, .slice none 0 0]) (t := 44) (fr := (0, 0)) (heap_alloc_new w5 _))) (by simp [Value.oneCell']) (by unfold maxLen; omega) (by omega) (by first | exact hsz5 | (simp; omega)) ?_; intro v6 w6 hown6 hgrow6 _; have hsz6 : wq.heap.size ≤ w6.heap.size := (by have h := hgrow6.size; first | omega | (simp at h; omega)))
                | (refine step_append_any _ (by rfl) _ _ _ (by rfl) wq.heap.size 44 i0 _ 4 56 Tryd.underlying22 hi hz0 hz1 hz2 rfl (by decide) v6 (p + 1) (filCells (ps.take p) ++ [.string (B t), .bool false, .int .i64 0, .slice none 0 0]) (by rfl) hown6 (some ⟨b, off + p * 4, none⟩) (l.length - p) (c - p) (filCells (ps.drop p)) (by rfl) HlD.out (fun h => (by cases h)) (HnD.out _ (by assumption)) HoD.out (by unfold maxLen; omega) (by omega) hsz6 ?_; intro v7 w7 hown7 hgrow7 _)
                | fail)
            all_goals
              have hbw : Below wq.heap.size wq w7 := by assumption
              have HB7 := Lib.hid (step_call Bq.out hbw)
              have HF7 : Hid (Files w7 v7 (l.take p ++ ⟨t, false, 0, []⟩ :: l.drop p)) := Lib.hid (more_files Hps.out Hpl.out Hex.out (by first | omega | (simp; done)) (step_call Bq2.out hbw) (J := p) (M := (l.length - p)) (by first | rfl | omega) (by first | omega | (simp; done)) (by first | exact hown7 | simpa using hown7))
              clear hown5 hgrow5 hown6 hgrow6 hown7 hgrow7 hbw
              go_wp2_with (first | (go_at_call 18; refine (more_right v7 _ (by first | (rw [more_len]; omega) | (simp; done) | (simp; omega)) (fun f hf => more_fit Hfit.out Hnm.out p f (by first | exact hf | simpa using hf)) (by first | exact Hin.out | simpa using Hin.out) _ HF7.out).mono ?_; rintro e w8 ⟨rfl, hb8⟩) | fail)
              go_ret
              exact ⟨rfl, step_call HB7.out hb8⟩
end Go.Proofs.YteemloillnfaeaaDoor
