/- Chapter 6: codexref6's Dirty. Condition: at most 1024 blocks may be kept. -/
import Derived.Test.YtikkdhfbihejbaaCchZ
namespace Go.Proofs.Ytikkdhfbihejbaa
open Go.RowKit Go.Cch
attribute [local go_sem] Oper.semAt_some

theorem s3_drew {w : World} {b1 o1 b2 o2 b3 o3 : Nat} {v1 v2 v3 : Value} (h1 : w.cell? ⟨b1, o1, none⟩ = some v1) (h2 : w.cell? ⟨b2, o2, none⟩ = some v2) (h3 : w.cell? ⟨b3, o3, none⟩ = some v3) : Below w.heap.size w w.drew ∧ w.drew.cell? ⟨b1, o1, none⟩ = some v1 ∧ w.drew.cell? ⟨b2, o2, none⟩ = some v2 ∧ w.drew.cell? ⟨b3, o3, none⟩ = some v3 := ⟨below_drew w, h1, h2, h3⟩
theorem s3_new {W w : World} {b1 o1 b2 o2 b3 o3 : Nat} {v1 v2 v3 : Value} (h : Below W.heap.size W w ∧ w.cell? ⟨b1, o1, none⟩ = some v1 ∧ w.cell? ⟨b2, o2, none⟩ = some v2 ∧ w.cell? ⟨b3, o3, none⟩ = some v3) (o : Obj) :
    Below W.heap.size W (w.alloc o) ∧ (w.alloc o).cell? ⟨b1, o1, none⟩ = some v1 ∧ (w.alloc o).cell? ⟨b2, o2, none⟩ = some v2 ∧ (w.alloc o).cell? ⟨b3, o3, none⟩ = some v3 := ⟨step_new h.1 o, cell_alloc o h.2.1, cell_alloc o h.2.2.1, cell_alloc o h.2.2.2⟩
theorem s3_grown {W w w' : World} {b1 o1 b2 o2 o3 : Nat} {v1 v2 v3 : Value} {row : Option Nat} (h : Below W.heap.size W w ∧ w.cell? ⟨b1, o1, none⟩ = some v1 ∧ w.cell? ⟨b2, o2, none⟩ = some v2 ∧ w.cell? ⟨b2, o3, none⟩ = some v3) (hg : w.grownBy w' row) (hr : ∀ k, row = some k → W.heap.size ≤ k) (hb1 : b1 < W.heap.size) (hb2 : b2 < W.heap.size) :
    Below W.heap.size W w' ∧ w'.cell? ⟨b1, o1, none⟩ = some v1 ∧ w'.cell? ⟨b2, o2, none⟩ = some v2 ∧ w'.cell? ⟨b2, o3, none⟩ = some v3 := by
  have hl1 : b1 < w.heap.size := Nat.lt_of_lt_of_le hb1 h.1.size
  have hl2 : b2 < w.heap.size := Nat.lt_of_lt_of_le hb2 h.1.size
  have hn1 : some b1 ≠ row := fun e => by have := hr b1 e.symm; omega
  have hn2 : some b2 ≠ row := fun e => by have := hr b2 e.symm; omega
  exact ⟨h.1.grown hg h.1.size hr, (hg.cell_far ⟨b1, o1, none⟩ hl1 hn1).trans h.2.1, (hg.cell_far ⟨b2, o2, none⟩ hl2 hn2).trans h.2.2.1, (hg.cell_far ⟨b2, o3, none⟩ hl2 hn2).trans h.2.2.2⟩
/-- Parts of a row of writes, read later. -/
theorem wr_take_news {w : World} {base g cap : Nat} {o : List Wr} (h : w.ownsRow base 59 2 (.slice (some ⟨g, 0, none⟩) o.length cap) o.length (wrCells o)) (j : Nat) :
    ∀ W', Below w.heap.size w W' → ∀ ad, some (⟨g, 0, none⟩ : Addr) = some ad → ∀ i u, (wrCells (o.take j))[i]? = some u → W'.cell? (ad.add i) = some u := by
  rintro W' hb ad e i u hu
  cases e
  have hg := (h.lt g rfl).2
  have e1 : (⟨g, 0, none⟩ : Addr).add i = ⟨g, i, none⟩ := by unfold Addr.add; split <;> simp_all
  rw [e1]
  refine cell_below hb hg ?_
  have hsplit : wrCells o = wrCells (o.take j) ++ wrCells (o.drop j) := by rw [wrCells, wrCells, wrCells, ← List.flatMap_append, List.take_append_drop]
  have := h.cells (g := g) rfl i u (by
    rw [hsplit, List.getElem?_append_left (List.getElem?_eq_some_iff.1 hu).1]
    exact hu)
  rwa [e1] at this
theorem wr_drop_news {w : World} {base g cap : Nat} {o : List Wr} (h : w.ownsRow base 59 2 (.slice (some ⟨g, 0, none⟩) o.length cap) o.length (wrCells o)) (j : Nat) (hj : j ≤ o.length) :
    ∀ W', Below w.heap.size w W' → ∀ ad, some (⟨g, j * 2, none⟩ : Addr) = some ad → ∀ i u, (wrCells (o.drop j))[i]? = some u → W'.cell? (ad.add i) = some u := by
  rintro W' hb ad e i u hu
  cases e
  have hg := (h.lt g rfl).2
  have e1 : (⟨g, j * 2, none⟩ : Addr).add i = ⟨g, j * 2 + i, none⟩ := by unfold Addr.add; split <;> simp_all
  have e2 : (⟨g, 0, none⟩ : Addr).add (j * 2 + i) = ⟨g, j * 2 + i, none⟩ := by unfold Addr.add; split <;> simp_all
  rw [e1]
  refine cell_below hb hg ?_
  have hsplit : wrCells o = wrCells (o.take j) ++ wrCells (o.drop j) := by rw [wrCells, wrCells, wrCells, ← List.flatMap_append, List.take_append_drop]
  have hl : (wrCells (o.take j)).length = j * 2 := by rw [wrCells, flat_len wrC_len, List.length_take]; congr 1; omega
  have := h.cells (g := g) rfl (j * 2 + i) u (by
    rw [hsplit, List.getElem?_append_right (by omega), hl, show j * 2 + i - j * 2 = i by omega]
    exact hu)
  rwa [e2] at this
theorem own_cases2 {w : World} {base : Nat} {e : TypeId} {size n c : Nat} {oa : Option Addr} {xs : List Value} (h : w.ownsRow base e size (.slice oa n c) n xs) : (oa = none ∧ n = 0 ∧ c = 0) ∨ ∃ g, oa = some ⟨g, 0, none⟩ ∧ n ≤ c := by
  rcases h.2 with ⟨h0, h1⟩ | ⟨g, cap, cur, h0, _, _, h1, _⟩
  · simp only [Value.slice.injEq] at h0
    exact .inl ⟨h0.1, h1, h0.2.2⟩
  · simp only [Value.slice.injEq, true_and] at h0
    exact .inr ⟨g, h0.1, by omega⟩
/-- One more is put in where it belongs. -/
theorem ins_next {l : List Kd} {k : Nat} {D : List Kd} {E : List Wr} (hE : D.map wrOf = E) (hp : D.Perm ((l.take k).filter Kd.dirty)) (hs : D.Pairwise fun a b => a.pos ≤ b.pos) (hk : k < l.length) (hd : l[k].dirty = true) {i : Nat} (hi : i ≤ E.length) (h1 : ∀ j (hj : j < E.length), j < i → E[j].1 < l[k].pos) (h2 : ∀ hj : i < E.length, ¬ E[i].1 < l[k].pos) :
    ∃ D' : List Kd, D'.map wrOf = E.take i ++ wrOf l[k] :: E.drop i ∧ D'.Perm ((l.take (k + 1)).filter Kd.dirty) ∧ D'.Pairwise fun a b => a.pos ≤ b.pos := by
  subst hE
  rw [List.length_map] at hi
  refine ⟨insK D i l[k], by unfold insK; rw [List.map_append, List.map_cons, List.map_take, List.map_drop], ?_, ins_sorted hs hi (fun j hj hji => ?_) (fun hj => ?_)⟩
  · refine (ins_perm D i l[k]).trans ?_
    rw [List.take_succ_eq_append_getElem hk, List.filter_append]
    have : [l[k]].filter Kd.dirty = [l[k]] := by rw [List.filter_cons, if_pos hd]; rfl
    rw [this]
    exact (List.Perm.cons _ hp).trans (List.perm_append_singleton _ _).symm
  · have := h1 j (by simpa using hj) hji
    simpa [wrOf] using this
  · have := h2 (by simpa using hj)
    simpa [wrOf] using this
set_option maxRecDepth 100000 in
set_option maxHeartbeats 6400000 in
theorem ref_Dirty {w : World} {K rb : Nat} {v : Value} {c : Ch} (h : RAt w K rb v c) (hc : c.Ok) (hm : c.most ≤ 1024) :
    Calls Try.prog 22 #[.pointer (some ⟨rb, 0, none⟩)] w fun e w' => ∃ v', e = .returned v' ∧ WrRow w' v' ((dirtyC c).map wrOf) ∧ Below w.heap.size w w' := by
  obtain ⟨i0, hi, hz0, hz1, hz2⟩ := info_parts Try.info_wr6
  have hl : c.l.length ≤ 1024 := Nat.le_trans hc.many hm
  obtain ⟨oac, cpc, rfl⟩ := h.form
  obtain ⟨c0, -, -, -, -⟩ := h.cells
  have H := Lib.hid h
  have Hend : Hid (∀ D : List Kd, D.Perm ((c.l.take c.l.length).filter Kd.dirty) → (D.Pairwise fun a b => a.pos ≤ b.pos) → D = dirtyC c) := Lib.hid (fun D h1 h2 => dirty_is hc.apart (by rw [List.take_length] at h1; exact h1) h2)
  generalize dirtyC c = DC at *
  clear h hc
  go_enter Try.func22, Try.ntmps22
  go_wp2
  go_loopw [3, 4] (fun ov kv wr => ∃ (k : Nat) (D : List Kd), k ≤ c.l.length ∧ kv = .int .i64 k ∧ D.Perm ((c.l.take k).filter Kd.dirty) ∧ (D.Pairwise fun a b => a.pos ≤ b.pos) ∧ wr.ownsRow w.heap.size 59 2 ov (D.map wrOf).length (wrCells (D.map wrOf)) ∧ Below w.heap.size w wr) (fun _ kv _ => c.l.length - (intOf kv).toNat)
  case atStart => exact ⟨0, [], by omega, rfl, List.Perm.refl _, List.Pairwise.nil, World.ownsRow_nil _ _ _ _, Below.refl _ _⟩
  case round =>
    obtain ⟨k, D, hk, rfl, hperm, hsort, hown, hbel⟩ := hrel
    obtain ⟨wo, rfl⟩ : ∃ wo : World, wo = wr := ⟨_, rfl⟩
    have hDl : D.length ≤ 1024 := by
      rw [hperm.length_eq]
      exact Nat.le_trans (List.length_filter_le _ _) (by rw [List.length_take]; omega)
    have hEl : (D.map wrOf).length = D.length := List.length_map ..
    have hrw := H.out.below hbel
    have c0 := cell_call hbel c0
    have Hperm := Lib.hid hperm
    have Hsort := Lib.hid hsort
    clear hperm hsort
    by_cases hkl : k < c.l.length
    · obtain ⟨gc, rfl, -, e0, e1, e2, e3⟩ := hrw.at hkl
      have Hown0 := Lib.hid hown
      have Hbel := Lib.hid hbel
      clear hrw hown hbel e3
      cases hd : c.l[k].dirty with
      | false =>
        rw [hd] at e2
        have hperm2 : D.Perm ((c.l.take (k + 1)).filter Kd.dirty) := by
          rw [List.take_succ_eq_append_getElem hkl, List.filter_append]
          have : [c.l[k]].filter Kd.dirty = [] := by rw [List.filter_cons, if_neg (by rw [hd]; simp)]; rfl
          rw [this, List.append_nil]
          exact Hperm.out
        have Hperm2 := Lib.hid hperm2
        clear hperm2 hd Hperm
        go_wp2
        go_roundw
        case rel => exact ⟨k + 1, D, by omega, by go_num, Hperm2.out, Hsort.out, Hown0.out, Hbel.out⟩
        case measure => simp [intOf]; omega
      | true =>
        rw [hd] at e2
        generalize hE : D.map wrOf = E at *
        have HinsAll := Lib.hid (fun i hi h1 h2 => ins_next (i := i) hE Hperm.out Hsort.out hkl hd hi h1 h2)
        have Hown := Hown0
        have hEl2 : E.length ≤ 1024 := by omega
        clear hE hd Hperm Hsort hEl Hown0
        obtain ⟨oa, lc, rfl⟩ := own_form Hown.out
        have Hfr := Lib.hid (own_frow wrC_len Hown.out)
        generalize c.l[k] = x at *
        have C0 := Lib.hid c0
        have K0 := Lib.hid e0
        have K1 := Lib.hid e1
        clear e1
        go_wp2
        go_loopw [5] (fun iv wr => ∃ i : Nat, i ≤ E.length ∧ iv = .int .i64 i ∧ (∀ j (hj : j < E.length), j < i → E[j].1 < x.pos) ∧ Below wo.heap.size wo wr) (fun iv _ => E.length - (intOf iv).toNat)
        case atStart => exact ⟨0, by omega, rfl, fun _ _ h => absurd h (Nat.not_lt_zero _), Below.refl _ _⟩
        case round =>
          obtain ⟨j, hj, rfl, hlt, hb2⟩ := hrel
          have Hlt := Lib.hid hlt
          have Hb2 := Lib.hid hb2
          have k0 := cell_call hb2 C0.out
          have k1 := cell_call hb2 K0.out
          have k2 := cell_call hb2 K1.out
          clear hlt c0 e0
          by_cases hjo : j < E.length
          · obtain ⟨g, go, rfl, hg, hcell⟩ := Hfr.out.at hjo
            have kj := cell_call hb2 (show wo.cell? ⟨g, go + j * 2, none⟩ = some (.int .i64 E[j].1) from hcell 0 _ rfl)
            have hg0 : decide ((j : Int) < (E.length : Int)) = true := by simp; omega
            have hj0 : (j : Int) < (E.length : Int) := by omega
            clear hb2 hcell
            by_cases hoj : E[j].1 < x.pos
            · have hls : decide (E[j].1 < x.pos) = true := decide_eq_true hoj
              have Hnx : Hid (∀ m (hm : m < E.length), m < j + 1 → E[m].1 < x.pos) := Lib.hid (fun m hm hmj => by
                by_cases e : m = j
                · subst e; exact hoj
                · exact Hlt.out m hm (by omega))
              generalize E[j] = q at *
              go_wp2
              go_quiet (fail)
              go_wp2
              go_roundw
              case rel => exact ⟨j + 1, by omega, by go_num, Hnx.out, below_to_drewN Hb2.out _⟩
              case measure => simp [intOf]; omega
            · have hls : decide (E[j].1 < x.pos) = false := decide_eq_false hoj
              have Hins := Lib.hid (HinsAll.out j (by omega) Hlt.out (fun _ => by first | exact hoj | omega))
              obtain ⟨lcap, hcap⟩ : ∃ u, u = lc ∧ E.length ≤ lc := by
                rcases own_cases2 Hown.out with ⟨h, _⟩ | ⟨g', h, h2⟩
                · cases h
                · exact ⟨_, rfl, h2⟩
              have q1 : (0 : Int) ≤ (j : Int) := by omega
              have q2 : (j : Int) ≤ (lc : Int) := by omega
              have q3 : (E.length : Int) ≤ (lc : Int) := by omega
              have q4 : (j : Int) ≤ (E.length : Int) := by omega
              have q5 : ¬ lc = j := by omega
              obtain rfl : go = 0 := by
                rcases own_cases2 Hown.out with ⟨h, _⟩ | ⟨g', h, _⟩
                · cases h
                · cases h; rfl
              rw [Nat.zero_add] at kj
              clear hoj HinsAll hcap
              generalize E[j] = q at *
              go_wp2
              go_quiet (fail)
              have Hbq := Lib.hid (below_to_drewN Hb2.out nq)
              have kq0 := cell_call Hbq.out C0.out
              have kq1 := cell_call Hbq.out K0.out
              have kq2 := cell_call Hbq.out K1.out
              clear k0 k1 k2
              generalize wr.drewN nq = wq at Hbq kq0 kq1 kq2 ⊢
              have Hq := Lib.hid (own_below Hown.out Hbq.out)
              have hbq : gc < wq.heap.size := lt_of_cell kq1
              have hbr : rb < wq.heap.size := lt_of_cell kq0
              go_wp2
              have HnT := Lib.hid (wr_take_news Hq.out j)
              have HnD := Lib.hid (wr_drop_news Hq.out j (by omega))
              go_region_held3 (fun w' => Below wq.heap.size wq w' ∧ w'.cell? ⟨rb, 0, none⟩ = some (.slice (some ⟨gc, 0, none⟩) c.l.length cpc) ∧ w'.cell? ⟨gc, k * 4, none⟩ = some (.int .i64 x.pos) ∧ w'.cell? ⟨gc, k * 4 + 1, none⟩ = some (.string (B x.data)))
                (first
                  | exact s3_drew kq0 kq1 kq2
                  | exact s3_new (by assumption) _
                  | exact s3_grown (by assumption) hgrow7 (fun k e => (hown6.lt k e).1) (by omega) (by omega)
                  | exact s3_grown (by assumption) hgrow6 (fun k e => (hown5.lt k e).1) (by omega) (by omega)
                  | exact s3_grown (by assumption) hgrow6 (fun k e => ((hown5.alloc _).lt k e).1) (by omega) (by omega)
                  | exact s3_grown (by assumption) hgrow5 hr5 (by omega) (by omega)
                  | assumption)
                (first
                  | (refine step_append_any _ (by rfl) _ _ _ (by rfl) wq.heap.size 59 i0 _ 2 24 Try.underlying54 hi hz0 hz1 hz2 rfl (by decide) (.slice (some ⟨wq.heap.size, 0, none⟩) 0 0) 0 [] (by rfl) (own_nil_new _ 2 (heap_alloc_new wq _) (by omega)) (some ⟨g, 0, none⟩) j lc (wrCells (E.take j)) (by rfl) (by first | (simp; done) | (rw [wrCells, flat_len wrC_len, List.length_take]; congr 1; omega)) (fun h => (by cases h)) (HnT.out _ (by go_split_ands; assumption)) (wr_one _) (by unfold maxLen; omega) (by omega) (by first | (simp; done) | (simp; omega)) ?_; intro v5 w5 hown5 hgrow5 _; have hr5 : ∀ k, (Value.slice (some ⟨wq.heap.size, 0, none⟩) 0 0).ownBlock = some k → wq.heap.size ≤ k := (fun k e => (by simp [Value.ownBlock] at e; omega)); have hown5 : w5.ownsRow wq.heap.size 59 2 v5 j (wrCells (E.take j)) := (by simpa using hown5); have hsz5 : wq.heap.size ≤ w5.heap.size := (by have h := hgrow5.size; simp at h; omega))
                  | (refine step_append_any _ (by rfl) _ _ _ (by rfl) wq.heap.size 59 i0 _ 2 24 Try.underlying54 hi hz0 hz1 hz2 rfl (by decide) (.slice (some ⟨wq.heap.size, 0, none⟩) 0 0) 0 [] (by rfl) (own_nil_new _ 2 ((heap_alloc_old (wq.alloc _) _ (by simp)).trans (heap_alloc_new wq _)) (by omega)) (some ⟨g, 0, none⟩) j lc (wrCells (E.take j)) (by rfl) (by first | (simp; done) | (rw [wrCells, flat_len wrC_len, List.length_take]; congr 1; omega)) (fun h => (by cases h)) (HnT.out _ (by go_split_ands; assumption)) (wr_one _) (by unfold maxLen; omega) (by omega) (by first | (simp; done) | (simp; omega)) ?_; intro v5 w5 hown5 hgrow5 _; have hr5 : ∀ k, (Value.slice (some ⟨wq.heap.size, 0, none⟩) 0 0).ownBlock = some k → wq.heap.size ≤ k := (fun k e => (by simp [Value.ownBlock] at e; omega)); have hown5 : w5.ownsRow wq.heap.size 59 2 v5 j (wrCells (E.take j)) := (by simpa using hown5); have hsz5 : wq.heap.size ≤ w5.heap.size := (by have h := hgrow5.size; simp at h; omega))
                  | (refine step_append_any _ (by rfl) _ _ _ (by rfl) wq.heap.size 59 i0 _ 2 24 Try.underlying54 hi hz0 hz1 hz2 rfl (by decide) (.slice (some ⟨(wq.heap.size + 1), 0, none⟩) 0 0) 0 [] (by rfl) (own_nil_new _ 2 (by have h := heap_alloc_new (wq.alloc (.cells #[.int .i64 x.pos, .string (B x.data)] 59)) (.cells #[] 59); rwa [World.size_alloc] at h) (by omega)) (some ⟨g, 0, none⟩) j lc (wrCells (E.take j)) (by rfl) (by first | (simp; done) | (rw [wrCells, flat_len wrC_len, List.length_take]; congr 1; omega)) (fun h => (by cases h)) (HnT.out _ (by go_split_ands; assumption)) (wr_one _) (by unfold maxLen; omega) (by omega) (by first | (simp; done) | (simp; omega)) ?_; intro v5 w5 hown5 hgrow5 _; have hr5 : ∀ k, (Value.slice (some ⟨(wq.heap.size + 1), 0, none⟩) 0 0).ownBlock = some k → wq.heap.size ≤ k := (fun k e => (by simp [Value.ownBlock] at e; omega)); have hown5 : w5.ownsRow wq.heap.size 59 2 v5 j (wrCells (E.take j)) := (by simpa using hown5); have hsz5 : wq.heap.size ≤ w5.heap.size := (by have h := hgrow5.size; simp at h; omega))
                  | (refine step_append_any _ (by rfl) _ _ _ (by rfl) wq.heap.size 59 i0 _ 2 24 Try.underlying54 hi hz0 hz1 hz2 rfl (by decide) v5 j (wrCells (E.take j)) (by rfl) hown5 (some ⟨(wq.heap.size + 1), 0, none⟩) 1 1 [.int .i64 x.pos, .string (B x.data)] (by rfl) (by rfl) (fun h => (by cases h)) (fun ad e => (by cases e; exact World.news_of_block (cs := #[.int .i64 x.pos, .string (B x.data)]) (t := 59) (fr := (0, 0)) ((hgrow5.block (wq.heap.size + 1) (by first | (simp; done) | (simp; omega)) (by simp [Value.ownBlock])).trans (by have h := heap_alloc_new (wq.alloc (.cells #[] 59)) (.cells #[.int .i64 x.pos, .string (B x.data)] 59); rwa [World.size_alloc] at h)))) (by simp [Value.oneCell']) (by unfold maxLen; omega) (by omega) (by first | exact hsz5 | (simp; omega)) ?_; intro v6 w6 hown6 hgrow6 _; have hsz6 : wq.heap.size ≤ w6.heap.size := (by have h := hgrow6.size; first | omega | (simp at h; omega)))
                  | (refine step_append_any _ (by rfl) _ _ _ (by rfl) wq.heap.size 59 i0 _ 2 24 Try.underlying54 hi hz0 hz1 hz2 rfl (by decide) v5 j (wrCells (E.take j)) (by rfl) hown5 (some ⟨wq.heap.size, 0, none⟩) 1 1 [.int .i64 x.pos, .string (B x.data)] (by rfl) (by rfl) (fun h => (by cases h)) (fun ad e => (by cases e; exact World.news_of_block (cs := #[.int .i64 x.pos, .string (B x.data)]) (t := 59) (fr := (0, 0)) ((hgrow5.block wq.heap.size (by first | (simp; done) | (simp; omega)) (by simp [Value.ownBlock])).trans ((heap_alloc_old (wq.alloc _) _ (by simp)).trans (heap_alloc_new wq _))))) (by simp [Value.oneCell']) (by unfold maxLen; omega) (by omega) (by first | exact hsz5 | (simp; omega)) ?_; intro v6 w6 hown6 hgrow6 _; have hsz6 : wq.heap.size ≤ w6.heap.size := (by have h := hgrow6.size; first | omega | (simp at h; omega)))
                  | (refine step_append_any _ (by rfl) _ _ _ (by rfl) wq.heap.size 59 i0 _ 2 24 Try.underlying54 hi hz0 hz1 hz2 rfl (by decide) v5 j (wrCells (E.take j)) (by rfl) (hown5.alloc _) (some ⟨w5.heap.size, 0, none⟩) 1 1 [.int .i64 x.pos, .string (B x.data)] (by rfl) (by rfl) (fun h => (by cases h)) (fun ad e => (by cases e; exact World.news_of_block (cs := #[.int .i64 x.pos, .string (B x.data)]) (t := 59) (fr := (0, 0)) (heap_alloc_new w5 _))) (by simp [Value.oneCell']) (by unfold maxLen; omega) (by omega) (by first | exact hsz5 | (simp; omega)) ?_; intro v6 w6 hown6 hgrow6 _; have hsz6 : wq.heap.size ≤ w6.heap.size := (by have h := hgrow6.size; first | omega | (simp at h; omega)))
                  | (refine step_append_any _ (by rfl) _ _ _ (by rfl) wq.heap.size 59 i0 _ 2 24 Try.underlying54 hi hz0 hz1 hz2 rfl (by decide) v6 (j + 1) (wrCells (E.take j) ++ [.int .i64 x.pos, .string (B x.data)]) (by rfl) hown6 (some ⟨g, j * 2, none⟩) (E.length - j) (lc - j) (wrCells (E.drop j)) (by rfl) (by first | (simp; done) | (rw [wrCells, flat_len wrC_len, List.length_drop]; done) | (rw [wrCells, flat_len wrC_len, List.length_drop]; congr 1; omega)) (fun h => (by cases h)) (HnD.out _ (by go_split_ands; assumption)) (wr_one _) (by unfold maxLen; omega) (by omega) hsz6 ?_; intro v7 w7 hown7 hgrow7 _; obtain ⟨oa7, cp7, rfl⟩ := own_form hown7)
                  | fail)
              all_goals
                have hbw : Below wq.heap.size wq w7 := by go_split_ands; assumption
                have HB7 := Lib.hid (step_call (step_call Hbel.out Hbq.out) hbw)
                obtain ⟨D', hD1, hD2, hD3⟩ := Hins.out
                have HD2 := Lib.hid hD2
                have HD3 := Lib.hid hD3
                have Ho7 : Hid (w7.ownsRow w.heap.size 59 2 (.slice oa7 (j + 1 + (E.length - j)) cp7) (D'.map wrOf).length (wrCells (D'.map wrOf))) := Lib.hid (by
                  have h := own_base hown7 (step_call Hbel.out Hbq.out).size
                  have e2 : wrCells (E.take j) ++ [.int .i64 x.pos, .string (B x.data)] ++ wrCells (E.drop j) = wrCells (D'.map wrOf) := by rw [hD1]; simp [wrC, wrOf]
                  have e1 : j + 1 + (E.length - j) = (D'.map wrOf).length := by rw [hD1]; simp; try omega
                  rw [← e1, ← e2]
                  exact h)
                clear hown5 hgrow5 hown6 hgrow6 hown7 hgrow7 hbw hD1 hD2 hD3
                go_wp2
                go_roundw
                case rel => exact ⟨k + 1, D', by omega, by go_num, HD2.out, HD3.out, Ho7.out, HB7.out⟩
                case measure => simp [intOf]; omega
          · obtain rfl : j = E.length := by omega
            have Hins := Lib.hid (HinsAll.out E.length (Nat.le_refl _) Hlt.out (fun h => absurd h (Nat.lt_irrefl _)))
            have hg0 : decide ((E.length : Int) < (E.length : Int)) = false := by simp
            clear hb2 HinsAll
            rcases own_cases2 Hown.out with ⟨rfl, h0, rfl⟩ | ⟨g, rfl, hcap⟩
            · obtain rfl : E = [] := List.eq_nil_of_length_eq_zero h0
              clear h0
              go_wp2
              go_quiet (fail)
              have Hbq := Lib.hid (below_to_drewN Hb2.out nq)
              have kq0 := cell_call Hbq.out C0.out
              have kq1 := cell_call Hbq.out K0.out
              have kq2 := cell_call Hbq.out K1.out
              clear k0 k1 k2
              generalize wr.drewN nq = wq at Hbq kq0 kq1 kq2 ⊢
              have Hq := Lib.hid (own_below Hown.out Hbq.out)
              have hbq : gc < wq.heap.size := lt_of_cell kq1
              have hbr : rb < wq.heap.size := lt_of_cell kq0
              go_wp2

              go_region_held3 (fun w' => Below wq.heap.size wq w' ∧ w'.cell? ⟨rb, 0, none⟩ = some (.slice (some ⟨gc, 0, none⟩) c.l.length cpc) ∧ w'.cell? ⟨gc, k * 4, none⟩ = some (.int .i64 x.pos) ∧ w'.cell? ⟨gc, k * 4 + 1, none⟩ = some (.string (B x.data)))
                (first
                  | exact s3_drew kq0 kq1 kq2
                  | exact s3_new (by assumption) _
                  | exact s3_grown (by assumption) hgrow7 (fun k e => (hown6.lt k e).1) (by omega) (by omega)
                  | exact s3_grown (by assumption) hgrow6 (fun k e => (hown5.lt k e).1) (by omega) (by omega)
                  | exact s3_grown (by assumption) hgrow6 (fun k e => ((hown5.alloc _).lt k e).1) (by omega) (by omega)
                  | exact s3_grown (by assumption) hgrow5 hr5 (by omega) (by omega)
                  | assumption)
                (first
                  | (refine step_append_any _ (by rfl) _ _ _ (by rfl) wq.heap.size 59 i0 _ 2 24 Try.underlying54 hi hz0 hz1 hz2 rfl (by decide) (.slice (some ⟨wq.heap.size, 0, none⟩) 0 0) 0 [] (by rfl) (own_nil_new _ 2 (heap_alloc_new wq _) (by omega)) none 0 0 (wrCells (([] : List Wr).take 0)) (by rfl) (by first | (simp; done) | (rw [wrCells, flat_len wrC_len, List.length_take]; congr 1; omega)) (fun _ => ⟨rfl, rfl⟩) (fun ad e => (by cases e)) (wr_one _) (by unfold maxLen; omega) (by omega) (by first | (simp; done) | (simp; omega)) ?_; intro v5 w5 hown5 hgrow5 _; have hr5 : ∀ k, (Value.slice (some ⟨wq.heap.size, 0, none⟩) 0 0).ownBlock = some k → wq.heap.size ≤ k := (fun k e => (by simp [Value.ownBlock] at e; omega)); have hown5 : w5.ownsRow wq.heap.size 59 2 v5 0 (wrCells (([] : List Wr).take 0)) := (by simpa using hown5); have hsz5 : wq.heap.size ≤ w5.heap.size := (by have h := hgrow5.size; simp at h; omega))
                  | (refine step_append_any _ (by rfl) _ _ _ (by rfl) wq.heap.size 59 i0 _ 2 24 Try.underlying54 hi hz0 hz1 hz2 rfl (by decide) (.slice (some ⟨wq.heap.size, 0, none⟩) 0 0) 0 [] (by rfl) (own_nil_new _ 2 ((heap_alloc_old (wq.alloc _) _ (by simp)).trans (heap_alloc_new wq _)) (by omega)) none 0 0 (wrCells (([] : List Wr).take 0)) (by rfl) (by first | (simp; done) | (rw [wrCells, flat_len wrC_len, List.length_take]; congr 1; omega)) (fun _ => ⟨rfl, rfl⟩) (fun ad e => (by cases e)) (wr_one _) (by unfold maxLen; omega) (by omega) (by first | (simp; done) | (simp; omega)) ?_; intro v5 w5 hown5 hgrow5 _; have hr5 : ∀ k, (Value.slice (some ⟨wq.heap.size, 0, none⟩) 0 0).ownBlock = some k → wq.heap.size ≤ k := (fun k e => (by simp [Value.ownBlock] at e; omega)); have hown5 : w5.ownsRow wq.heap.size 59 2 v5 0 (wrCells (([] : List Wr).take 0)) := (by simpa using hown5); have hsz5 : wq.heap.size ≤ w5.heap.size := (by have h := hgrow5.size; simp at h; omega))
                  | (refine step_append_any _ (by rfl) _ _ _ (by rfl) wq.heap.size 59 i0 _ 2 24 Try.underlying54 hi hz0 hz1 hz2 rfl (by decide) (.slice (some ⟨(wq.heap.size + 1), 0, none⟩) 0 0) 0 [] (by rfl) (own_nil_new _ 2 (by have h := heap_alloc_new (wq.alloc (.cells #[.int .i64 x.pos, .string (B x.data)] 59)) (.cells #[] 59); rwa [World.size_alloc] at h) (by omega)) none 0 0 (wrCells (([] : List Wr).take 0)) (by rfl) (by first | (simp; done) | (rw [wrCells, flat_len wrC_len, List.length_take]; congr 1; omega)) (fun _ => ⟨rfl, rfl⟩) (fun ad e => (by cases e)) (wr_one _) (by unfold maxLen; omega) (by omega) (by first | (simp; done) | (simp; omega)) ?_; intro v5 w5 hown5 hgrow5 _; have hr5 : ∀ k, (Value.slice (some ⟨(wq.heap.size + 1), 0, none⟩) 0 0).ownBlock = some k → wq.heap.size ≤ k := (fun k e => (by simp [Value.ownBlock] at e; omega)); have hown5 : w5.ownsRow wq.heap.size 59 2 v5 0 (wrCells (([] : List Wr).take 0)) := (by simpa using hown5); have hsz5 : wq.heap.size ≤ w5.heap.size := (by have h := hgrow5.size; simp at h; omega))
                  | (refine step_append_any _ (by rfl) _ _ _ (by rfl) wq.heap.size 59 i0 _ 2 24 Try.underlying54 hi hz0 hz1 hz2 rfl (by decide) v5 0 (wrCells (([] : List Wr).take 0)) (by rfl) hown5 (some ⟨(wq.heap.size + 1), 0, none⟩) 1 1 [.int .i64 x.pos, .string (B x.data)] (by rfl) (by rfl) (fun h => (by cases h)) (fun ad e => (by cases e; exact World.news_of_block (cs := #[.int .i64 x.pos, .string (B x.data)]) (t := 59) (fr := (0, 0)) ((hgrow5.block (wq.heap.size + 1) (by first | (simp; done) | (simp; omega)) (by simp [Value.ownBlock])).trans (by have h := heap_alloc_new (wq.alloc (.cells #[] 59)) (.cells #[.int .i64 x.pos, .string (B x.data)] 59); rwa [World.size_alloc] at h)))) (by simp [Value.oneCell']) (by unfold maxLen; omega) (by omega) (by first | exact hsz5 | (simp; omega)) ?_; intro v6 w6 hown6 hgrow6 _; have hsz6 : wq.heap.size ≤ w6.heap.size := (by have h := hgrow6.size; first | omega | (simp at h; omega)))
                  | (refine step_append_any _ (by rfl) _ _ _ (by rfl) wq.heap.size 59 i0 _ 2 24 Try.underlying54 hi hz0 hz1 hz2 rfl (by decide) v5 0 (wrCells (([] : List Wr).take 0)) (by rfl) hown5 (some ⟨wq.heap.size, 0, none⟩) 1 1 [.int .i64 x.pos, .string (B x.data)] (by rfl) (by rfl) (fun h => (by cases h)) (fun ad e => (by cases e; exact World.news_of_block (cs := #[.int .i64 x.pos, .string (B x.data)]) (t := 59) (fr := (0, 0)) ((hgrow5.block wq.heap.size (by first | (simp; done) | (simp; omega)) (by simp [Value.ownBlock])).trans ((heap_alloc_old (wq.alloc _) _ (by simp)).trans (heap_alloc_new wq _))))) (by simp [Value.oneCell']) (by unfold maxLen; omega) (by omega) (by first | exact hsz5 | (simp; omega)) ?_; intro v6 w6 hown6 hgrow6 _; have hsz6 : wq.heap.size ≤ w6.heap.size := (by have h := hgrow6.size; first | omega | (simp at h; omega)))
                  | (refine step_append_any _ (by rfl) _ _ _ (by rfl) wq.heap.size 59 i0 _ 2 24 Try.underlying54 hi hz0 hz1 hz2 rfl (by decide) v5 0 (wrCells (([] : List Wr).take 0)) (by rfl) (hown5.alloc _) (some ⟨w5.heap.size, 0, none⟩) 1 1 [.int .i64 x.pos, .string (B x.data)] (by rfl) (by rfl) (fun h => (by cases h)) (fun ad e => (by cases e; exact World.news_of_block (cs := #[.int .i64 x.pos, .string (B x.data)]) (t := 59) (fr := (0, 0)) (heap_alloc_new w5 _))) (by simp [Value.oneCell']) (by unfold maxLen; omega) (by omega) (by first | exact hsz5 | (simp; omega)) ?_; intro v6 w6 hown6 hgrow6 _; have hsz6 : wq.heap.size ≤ w6.heap.size := (by have h := hgrow6.size; first | omega | (simp at h; omega)))
                  | (refine step_append_any _ (by rfl) _ _ _ (by rfl) wq.heap.size 59 i0 _ 2 24 Try.underlying54 hi hz0 hz1 hz2 rfl (by decide) v6 (0 + 1) (wrCells (([] : List Wr).take 0) ++ [.int .i64 x.pos, .string (B x.data)]) (by rfl) hown6 none 0 0 (wrCells (([] : List Wr).drop 0)) (by rfl) (by first | (simp; done) | (rw [wrCells, flat_len wrC_len, List.length_drop]; done) | (rw [wrCells, flat_len wrC_len, List.length_drop]; congr 1; omega)) (fun _ => ⟨rfl, rfl⟩) (fun ad e => (by cases e)) (wr_one _) (by unfold maxLen; omega) (by omega) hsz6 ?_; intro v7 w7 hown7 hgrow7 _; obtain ⟨oa7, cp7, rfl⟩ := own_form hown7)
                  | fail)
              all_goals
                have hbw : Below wq.heap.size wq w7 := by go_split_ands; assumption
                have HB7 := Lib.hid (step_call (step_call Hbel.out Hbq.out) hbw)
                obtain ⟨D', hD1, hD2, hD3⟩ := Hins.out
                have HD2 := Lib.hid hD2
                have HD3 := Lib.hid hD3
                have Ho7 : Hid (w7.ownsRow w.heap.size 59 2 (.slice oa7 (0 + 1 + 0) cp7) (D'.map wrOf).length (wrCells (D'.map wrOf))) := Lib.hid (by
                  have h := own_base hown7 (step_call Hbel.out Hbq.out).size
                  have e2 : wrCells (([] : List Wr).take 0) ++ [.int .i64 x.pos, .string (B x.data)] ++ wrCells (([] : List Wr).drop 0) = wrCells (D'.map wrOf) := by rw [hD1]; simp [wrC, wrOf]
                  have e1 : 0 + 1 + 0 = (D'.map wrOf).length := by rw [hD1]; simp; try omega
                  rw [← e1, ← e2]
                  exact h)
                clear hown5 hgrow5 hown6 hgrow6 hown7 hgrow7 hbw hD1 hD2 hD3
                go_wp2
                go_roundw
                case rel => exact ⟨k + 1, D', by omega, by go_num, HD2.out, HD3.out, Ho7.out, HB7.out⟩
                case measure => simp [intOf]; omega
            · by_cases hcl : lc = E.length
              · subst hcl
                have q1 : (0 : Int) ≤ (E.length : Int) := by omega
                go_wp2
                go_quiet (fail)
                have Hbq := Lib.hid (below_to_drewN Hb2.out nq)
                have kq0 := cell_call Hbq.out C0.out
                have kq1 := cell_call Hbq.out K0.out
                have kq2 := cell_call Hbq.out K1.out
                clear k0 k1 k2
                generalize wr.drewN nq = wq at Hbq kq0 kq1 kq2 ⊢
                have Hq := Lib.hid (own_below Hown.out Hbq.out)
                have hbq : gc < wq.heap.size := lt_of_cell kq1
                have hbr : rb < wq.heap.size := lt_of_cell kq0
                go_wp2
                have HnT := Lib.hid (wr_take_news Hq.out E.length)
                go_region_held3 (fun w' => Below wq.heap.size wq w' ∧ w'.cell? ⟨rb, 0, none⟩ = some (.slice (some ⟨gc, 0, none⟩) c.l.length cpc) ∧ w'.cell? ⟨gc, k * 4, none⟩ = some (.int .i64 x.pos) ∧ w'.cell? ⟨gc, k * 4 + 1, none⟩ = some (.string (B x.data)))
                  (first
                    | exact s3_drew kq0 kq1 kq2
                    | exact s3_new (by assumption) _
                    | exact s3_grown (by assumption) hgrow7 (fun k e => (hown6.lt k e).1) (by omega) (by omega)
                    | exact s3_grown (by assumption) hgrow6 (fun k e => (hown5.lt k e).1) (by omega) (by omega)
                    | exact s3_grown (by assumption) hgrow6 (fun k e => ((hown5.alloc _).lt k e).1) (by omega) (by omega)
                    | exact s3_grown (by assumption) hgrow5 hr5 (by omega) (by omega)
                    | assumption)
                  (first
                    | (refine step_append_any _ (by rfl) _ _ _ (by rfl) wq.heap.size 59 i0 _ 2 24 Try.underlying54 hi hz0 hz1 hz2 rfl (by decide) (.slice (some ⟨wq.heap.size, 0, none⟩) 0 0) 0 [] (by rfl) (own_nil_new _ 2 (heap_alloc_new wq _) (by omega)) (some ⟨g, 0, none⟩) E.length E.length (wrCells (E.take E.length)) (by rfl) (by first | (simp; done) | (rw [wrCells, flat_len wrC_len, List.length_take]; congr 1; omega)) (fun h => (by cases h)) (HnT.out _ (by go_split_ands; assumption)) (wr_one _) (by unfold maxLen; omega) (by omega) (by first | (simp; done) | (simp; omega)) ?_; intro v5 w5 hown5 hgrow5 _; have hr5 : ∀ k, (Value.slice (some ⟨wq.heap.size, 0, none⟩) 0 0).ownBlock = some k → wq.heap.size ≤ k := (fun k e => (by simp [Value.ownBlock] at e; omega)); have hown5 : w5.ownsRow wq.heap.size 59 2 v5 E.length (wrCells (E.take E.length)) := (by simpa using hown5); have hsz5 : wq.heap.size ≤ w5.heap.size := (by have h := hgrow5.size; simp at h; omega))
                    | (refine step_append_any _ (by rfl) _ _ _ (by rfl) wq.heap.size 59 i0 _ 2 24 Try.underlying54 hi hz0 hz1 hz2 rfl (by decide) (.slice (some ⟨wq.heap.size, 0, none⟩) 0 0) 0 [] (by rfl) (own_nil_new _ 2 ((heap_alloc_old (wq.alloc _) _ (by simp)).trans (heap_alloc_new wq _)) (by omega)) (some ⟨g, 0, none⟩) E.length E.length (wrCells (E.take E.length)) (by rfl) (by first | (simp; done) | (rw [wrCells, flat_len wrC_len, List.length_take]; congr 1; omega)) (fun h => (by cases h)) (HnT.out _ (by go_split_ands; assumption)) (wr_one _) (by unfold maxLen; omega) (by omega) (by first | (simp; done) | (simp; omega)) ?_; intro v5 w5 hown5 hgrow5 _; have hr5 : ∀ k, (Value.slice (some ⟨wq.heap.size, 0, none⟩) 0 0).ownBlock = some k → wq.heap.size ≤ k := (fun k e => (by simp [Value.ownBlock] at e; omega)); have hown5 : w5.ownsRow wq.heap.size 59 2 v5 E.length (wrCells (E.take E.length)) := (by simpa using hown5); have hsz5 : wq.heap.size ≤ w5.heap.size := (by have h := hgrow5.size; simp at h; omega))
                    | (refine step_append_any _ (by rfl) _ _ _ (by rfl) wq.heap.size 59 i0 _ 2 24 Try.underlying54 hi hz0 hz1 hz2 rfl (by decide) (.slice (some ⟨(wq.heap.size + 1), 0, none⟩) 0 0) 0 [] (by rfl) (own_nil_new _ 2 (by have h := heap_alloc_new (wq.alloc (.cells #[.int .i64 x.pos, .string (B x.data)] 59)) (.cells #[] 59); rwa [World.size_alloc] at h) (by omega)) (some ⟨g, 0, none⟩) E.length E.length (wrCells (E.take E.length)) (by rfl) (by first | (simp; done) | (rw [wrCells, flat_len wrC_len, List.length_take]; congr 1; omega)) (fun h => (by cases h)) (HnT.out _ (by go_split_ands; assumption)) (wr_one _) (by unfold maxLen; omega) (by omega) (by first | (simp; done) | (simp; omega)) ?_; intro v5 w5 hown5 hgrow5 _; have hr5 : ∀ k, (Value.slice (some ⟨(wq.heap.size + 1), 0, none⟩) 0 0).ownBlock = some k → wq.heap.size ≤ k := (fun k e => (by simp [Value.ownBlock] at e; omega)); have hown5 : w5.ownsRow wq.heap.size 59 2 v5 E.length (wrCells (E.take E.length)) := (by simpa using hown5); have hsz5 : wq.heap.size ≤ w5.heap.size := (by have h := hgrow5.size; simp at h; omega))
                    | (refine step_append_any _ (by rfl) _ _ _ (by rfl) wq.heap.size 59 i0 _ 2 24 Try.underlying54 hi hz0 hz1 hz2 rfl (by decide) v5 E.length (wrCells (E.take E.length)) (by rfl) hown5 (some ⟨(wq.heap.size + 1), 0, none⟩) 1 1 [.int .i64 x.pos, .string (B x.data)] (by rfl) (by rfl) (fun h => (by cases h)) (fun ad e => (by cases e; exact World.news_of_block (cs := #[.int .i64 x.pos, .string (B x.data)]) (t := 59) (fr := (0, 0)) ((hgrow5.block (wq.heap.size + 1) (by first | (simp; done) | (simp; omega)) (by simp [Value.ownBlock])).trans (by have h := heap_alloc_new (wq.alloc (.cells #[] 59)) (.cells #[.int .i64 x.pos, .string (B x.data)] 59); rwa [World.size_alloc] at h)))) (by simp [Value.oneCell']) (by unfold maxLen; omega) (by omega) (by first | exact hsz5 | (simp; omega)) ?_; intro v6 w6 hown6 hgrow6 _; have hsz6 : wq.heap.size ≤ w6.heap.size := (by have h := hgrow6.size; first | omega | (simp at h; omega)))
                    | (refine step_append_any _ (by rfl) _ _ _ (by rfl) wq.heap.size 59 i0 _ 2 24 Try.underlying54 hi hz0 hz1 hz2 rfl (by decide) v5 E.length (wrCells (E.take E.length)) (by rfl) hown5 (some ⟨wq.heap.size, 0, none⟩) 1 1 [.int .i64 x.pos, .string (B x.data)] (by rfl) (by rfl) (fun h => (by cases h)) (fun ad e => (by cases e; exact World.news_of_block (cs := #[.int .i64 x.pos, .string (B x.data)]) (t := 59) (fr := (0, 0)) ((hgrow5.block wq.heap.size (by first | (simp; done) | (simp; omega)) (by simp [Value.ownBlock])).trans ((heap_alloc_old (wq.alloc _) _ (by simp)).trans (heap_alloc_new wq _))))) (by simp [Value.oneCell']) (by unfold maxLen; omega) (by omega) (by first | exact hsz5 | (simp; omega)) ?_; intro v6 w6 hown6 hgrow6 _; have hsz6 : wq.heap.size ≤ w6.heap.size := (by have h := hgrow6.size; first | omega | (simp at h; omega)))
                    | (refine step_append_any _ (by rfl) _ _ _ (by rfl) wq.heap.size 59 i0 _ 2 24 Try.underlying54 hi hz0 hz1 hz2 rfl (by decide) v5 E.length (wrCells (E.take E.length)) (by rfl) (hown5.alloc _) (some ⟨w5.heap.size, 0, none⟩) 1 1 [.int .i64 x.pos, .string (B x.data)] (by rfl) (by rfl) (fun h => (by cases h)) (fun ad e => (by cases e; exact World.news_of_block (cs := #[.int .i64 x.pos, .string (B x.data)]) (t := 59) (fr := (0, 0)) (heap_alloc_new w5 _))) (by simp [Value.oneCell']) (by unfold maxLen; omega) (by omega) (by first | exact hsz5 | (simp; omega)) ?_; intro v6 w6 hown6 hgrow6 _; have hsz6 : wq.heap.size ≤ w6.heap.size := (by have h := hgrow6.size; first | omega | (simp at h; omega)))
                    | (refine step_append_any _ (by rfl) _ _ _ (by rfl) wq.heap.size 59 i0 _ 2 24 Try.underlying54 hi hz0 hz1 hz2 rfl (by decide) v6 (E.length + 1) (wrCells (E.take E.length) ++ [.int .i64 x.pos, .string (B x.data)]) (by rfl) hown6 (some ⟨g, 0, none⟩) 0 0 (wrCells (E.drop E.length)) (by rfl) (by first | (simp; done) | (rw [wrCells, flat_len wrC_len, List.length_drop]; done) | (rw [wrCells, flat_len wrC_len, List.length_drop]; congr 1; omega)) (fun h => (by cases h)) (fun ad e i u hu => (by simp at hu)) (wr_one _) (by unfold maxLen; omega) (by omega) hsz6 ?_; intro v7 w7 hown7 hgrow7 _; obtain ⟨oa7, cp7, rfl⟩ := own_form hown7)
                    | fail)
                all_goals
                  have hbw : Below wq.heap.size wq w7 := by go_split_ands; assumption
                  have HB7 := Lib.hid (step_call (step_call Hbel.out Hbq.out) hbw)
                  obtain ⟨D', hD1, hD2, hD3⟩ := Hins.out
                  have HD2 := Lib.hid hD2
                  have HD3 := Lib.hid hD3
                  have Ho7 : Hid (w7.ownsRow w.heap.size 59 2 (.slice oa7 (E.length + 1 + 0) cp7) (D'.map wrOf).length (wrCells (D'.map wrOf))) := Lib.hid (by
                    have h := own_base hown7 (step_call Hbel.out Hbq.out).size
                    have e2 : wrCells (E.take E.length) ++ [.int .i64 x.pos, .string (B x.data)] ++ wrCells (E.drop E.length) = wrCells (D'.map wrOf) := by rw [hD1]; simp [wrC, wrOf]
                    have e1 : E.length + 1 + 0 = (D'.map wrOf).length := by rw [hD1]; simp; try omega
                    rw [← e1, ← e2]
                    exact h)
                  clear hown5 hgrow5 hown6 hgrow6 hown7 hgrow7 hbw hD1 hD2 hD3
                  go_wp2
                  go_roundw
                  case rel => exact ⟨k + 1, D', by omega, by go_num, HD2.out, HD3.out, Ho7.out, HB7.out⟩
                  case measure => simp [intOf]; omega
              · have q1 : (0 : Int) ≤ (E.length : Int) := by omega
                have q2 : (E.length : Int) ≤ (lc : Int) := by omega
                have q5 : ¬ lc = E.length := hcl
                go_wp2
                go_quiet (fail)
                have Hbq := Lib.hid (below_to_drewN Hb2.out nq)
                have kq0 := cell_call Hbq.out C0.out
                have kq1 := cell_call Hbq.out K0.out
                have kq2 := cell_call Hbq.out K1.out
                clear k0 k1 k2
                generalize wr.drewN nq = wq at Hbq kq0 kq1 kq2 ⊢
                have Hq := Lib.hid (own_below Hown.out Hbq.out)
                have hbq : gc < wq.heap.size := lt_of_cell kq1
                have hbr : rb < wq.heap.size := lt_of_cell kq0
                go_wp2
                have HnT := Lib.hid (wr_take_news Hq.out E.length)
                have HnD := Lib.hid (wr_drop_news Hq.out E.length (Nat.le_refl _))
                go_region_held3 (fun w' => Below wq.heap.size wq w' ∧ w'.cell? ⟨rb, 0, none⟩ = some (.slice (some ⟨gc, 0, none⟩) c.l.length cpc) ∧ w'.cell? ⟨gc, k * 4, none⟩ = some (.int .i64 x.pos) ∧ w'.cell? ⟨gc, k * 4 + 1, none⟩ = some (.string (B x.data)))
                  (first
                    | exact s3_drew kq0 kq1 kq2
                    | exact s3_new (by assumption) _
                    | exact s3_grown (by assumption) hgrow7 (fun k e => (hown6.lt k e).1) (by omega) (by omega)
                    | exact s3_grown (by assumption) hgrow6 (fun k e => (hown5.lt k e).1) (by omega) (by omega)
                    | exact s3_grown (by assumption) hgrow6 (fun k e => ((hown5.alloc _).lt k e).1) (by omega) (by omega)
                    | exact s3_grown (by assumption) hgrow5 hr5 (by omega) (by omega)
                    | assumption)
                  (first
                    | (refine step_append_any _ (by rfl) _ _ _ (by rfl) wq.heap.size 59 i0 _ 2 24 Try.underlying54 hi hz0 hz1 hz2 rfl (by decide) (.slice (some ⟨wq.heap.size, 0, none⟩) 0 0) 0 [] (by rfl) (own_nil_new _ 2 (heap_alloc_new wq _) (by omega)) (some ⟨g, 0, none⟩) E.length lc (wrCells (E.take E.length)) (by rfl) (by first | (simp; done) | (rw [wrCells, flat_len wrC_len, List.length_take]; congr 1; omega)) (fun h => (by cases h)) (HnT.out _ (by go_split_ands; assumption)) (wr_one _) (by unfold maxLen; omega) (by omega) (by first | (simp; done) | (simp; omega)) ?_; intro v5 w5 hown5 hgrow5 _; have hr5 : ∀ k, (Value.slice (some ⟨wq.heap.size, 0, none⟩) 0 0).ownBlock = some k → wq.heap.size ≤ k := (fun k e => (by simp [Value.ownBlock] at e; omega)); have hown5 : w5.ownsRow wq.heap.size 59 2 v5 E.length (wrCells (E.take E.length)) := (by simpa using hown5); have hsz5 : wq.heap.size ≤ w5.heap.size := (by have h := hgrow5.size; simp at h; omega))
                    | (refine step_append_any _ (by rfl) _ _ _ (by rfl) wq.heap.size 59 i0 _ 2 24 Try.underlying54 hi hz0 hz1 hz2 rfl (by decide) (.slice (some ⟨wq.heap.size, 0, none⟩) 0 0) 0 [] (by rfl) (own_nil_new _ 2 ((heap_alloc_old (wq.alloc _) _ (by simp)).trans (heap_alloc_new wq _)) (by omega)) (some ⟨g, 0, none⟩) E.length lc (wrCells (E.take E.length)) (by rfl) (by first | (simp; done) | (rw [wrCells, flat_len wrC_len, List.length_take]; congr 1; omega)) (fun h => (by cases h)) (HnT.out _ (by go_split_ands; assumption)) (wr_one _) (by unfold maxLen; omega) (by omega) (by first | (simp; done) | (simp; omega)) ?_; intro v5 w5 hown5 hgrow5 _; have hr5 : ∀ k, (Value.slice (some ⟨wq.heap.size, 0, none⟩) 0 0).ownBlock = some k → wq.heap.size ≤ k := (fun k e => (by simp [Value.ownBlock] at e; omega)); have hown5 : w5.ownsRow wq.heap.size 59 2 v5 E.length (wrCells (E.take E.length)) := (by simpa using hown5); have hsz5 : wq.heap.size ≤ w5.heap.size := (by have h := hgrow5.size; simp at h; omega))
                    | (refine step_append_any _ (by rfl) _ _ _ (by rfl) wq.heap.size 59 i0 _ 2 24 Try.underlying54 hi hz0 hz1 hz2 rfl (by decide) (.slice (some ⟨(wq.heap.size + 1), 0, none⟩) 0 0) 0 [] (by rfl) (own_nil_new _ 2 (by have h := heap_alloc_new (wq.alloc (.cells #[.int .i64 x.pos, .string (B x.data)] 59)) (.cells #[] 59); rwa [World.size_alloc] at h) (by omega)) (some ⟨g, 0, none⟩) E.length lc (wrCells (E.take E.length)) (by rfl) (by first | (simp; done) | (rw [wrCells, flat_len wrC_len, List.length_take]; congr 1; omega)) (fun h => (by cases h)) (HnT.out _ (by go_split_ands; assumption)) (wr_one _) (by unfold maxLen; omega) (by omega) (by first | (simp; done) | (simp; omega)) ?_; intro v5 w5 hown5 hgrow5 _; have hr5 : ∀ k, (Value.slice (some ⟨(wq.heap.size + 1), 0, none⟩) 0 0).ownBlock = some k → wq.heap.size ≤ k := (fun k e => (by simp [Value.ownBlock] at e; omega)); have hown5 : w5.ownsRow wq.heap.size 59 2 v5 E.length (wrCells (E.take E.length)) := (by simpa using hown5); have hsz5 : wq.heap.size ≤ w5.heap.size := (by have h := hgrow5.size; simp at h; omega))
                    | (refine step_append_any _ (by rfl) _ _ _ (by rfl) wq.heap.size 59 i0 _ 2 24 Try.underlying54 hi hz0 hz1 hz2 rfl (by decide) v5 E.length (wrCells (E.take E.length)) (by rfl) hown5 (some ⟨(wq.heap.size + 1), 0, none⟩) 1 1 [.int .i64 x.pos, .string (B x.data)] (by rfl) (by rfl) (fun h => (by cases h)) (fun ad e => (by cases e; exact World.news_of_block (cs := #[.int .i64 x.pos, .string (B x.data)]) (t := 59) (fr := (0, 0)) ((hgrow5.block (wq.heap.size + 1) (by first | (simp; done) | (simp; omega)) (by simp [Value.ownBlock])).trans (by have h := heap_alloc_new (wq.alloc (.cells #[] 59)) (.cells #[.int .i64 x.pos, .string (B x.data)] 59); rwa [World.size_alloc] at h)))) (by simp [Value.oneCell']) (by unfold maxLen; omega) (by omega) (by first | exact hsz5 | (simp; omega)) ?_; intro v6 w6 hown6 hgrow6 _; have hsz6 : wq.heap.size ≤ w6.heap.size := (by have h := hgrow6.size; first | omega | (simp at h; omega)))
                    | (refine step_append_any _ (by rfl) _ _ _ (by rfl) wq.heap.size 59 i0 _ 2 24 Try.underlying54 hi hz0 hz1 hz2 rfl (by decide) v5 E.length (wrCells (E.take E.length)) (by rfl) hown5 (some ⟨wq.heap.size, 0, none⟩) 1 1 [.int .i64 x.pos, .string (B x.data)] (by rfl) (by rfl) (fun h => (by cases h)) (fun ad e => (by cases e; exact World.news_of_block (cs := #[.int .i64 x.pos, .string (B x.data)]) (t := 59) (fr := (0, 0)) ((hgrow5.block wq.heap.size (by first | (simp; done) | (simp; omega)) (by simp [Value.ownBlock])).trans ((heap_alloc_old (wq.alloc _) _ (by simp)).trans (heap_alloc_new wq _))))) (by simp [Value.oneCell']) (by unfold maxLen; omega) (by omega) (by first | exact hsz5 | (simp; omega)) ?_; intro v6 w6 hown6 hgrow6 _; have hsz6 : wq.heap.size ≤ w6.heap.size := (by have h := hgrow6.size; first | omega | (simp at h; omega)))
                    | (refine step_append_any _ (by rfl) _ _ _ (by rfl) wq.heap.size 59 i0 _ 2 24 Try.underlying54 hi hz0 hz1 hz2 rfl (by decide) v5 E.length (wrCells (E.take E.length)) (by rfl) (hown5.alloc _) (some ⟨w5.heap.size, 0, none⟩) 1 1 [.int .i64 x.pos, .string (B x.data)] (by rfl) (by rfl) (fun h => (by cases h)) (fun ad e => (by cases e; exact World.news_of_block (cs := #[.int .i64 x.pos, .string (B x.data)]) (t := 59) (fr := (0, 0)) (heap_alloc_new w5 _))) (by simp [Value.oneCell']) (by unfold maxLen; omega) (by omega) (by first | exact hsz5 | (simp; omega)) ?_; intro v6 w6 hown6 hgrow6 _; have hsz6 : wq.heap.size ≤ w6.heap.size := (by have h := hgrow6.size; first | omega | (simp at h; omega)))
                    | (refine step_append_any _ (by rfl) _ _ _ (by rfl) wq.heap.size 59 i0 _ 2 24 Try.underlying54 hi hz0 hz1 hz2 rfl (by decide) v6 (E.length + 1) (wrCells (E.take E.length) ++ [.int .i64 x.pos, .string (B x.data)]) (by rfl) hown6 (some ⟨g, E.length * 2, none⟩) 0 (lc - E.length) (wrCells (E.drop E.length)) (by rfl) (by first | (simp; done) | (rw [wrCells, flat_len wrC_len, List.length_drop]; done) | (rw [wrCells, flat_len wrC_len, List.length_drop]; congr 1; omega)) (fun h => (by cases h)) (HnD.out _ (by go_split_ands; assumption)) (wr_one _) (by unfold maxLen; omega) (by omega) hsz6 ?_; intro v7 w7 hown7 hgrow7 _; obtain ⟨oa7, cp7, rfl⟩ := own_form hown7)
                    | fail)
                all_goals
                  have hbw : Below wq.heap.size wq w7 := by go_split_ands; assumption
                  have HB7 := Lib.hid (step_call (step_call Hbel.out Hbq.out) hbw)
                  obtain ⟨D', hD1, hD2, hD3⟩ := Hins.out
                  have HD2 := Lib.hid hD2
                  have HD3 := Lib.hid hD3
                  have Ho7 : Hid (w7.ownsRow w.heap.size 59 2 (.slice oa7 (E.length + 1 + 0) cp7) (D'.map wrOf).length (wrCells (D'.map wrOf))) := Lib.hid (by
                    have h := own_base hown7 (step_call Hbel.out Hbq.out).size
                    have e2 : wrCells (E.take E.length) ++ [.int .i64 x.pos, .string (B x.data)] ++ wrCells (E.drop E.length) = wrCells (D'.map wrOf) := by rw [hD1]; simp [wrC, wrOf]
                    have e1 : E.length + 1 + 0 = (D'.map wrOf).length := by rw [hD1]; simp; try omega
                    rw [← e1, ← e2]
                    exact h)
                  clear hown5 hgrow5 hown6 hgrow6 hown7 hgrow7 hbw hD1 hD2 hD3
                  go_wp2
                  go_roundw
                  case rel => exact ⟨k + 1, D', by omega, by go_num, HD2.out, HD3.out, Ho7.out, HB7.out⟩
                  case measure => simp [intOf]; omega
    · obtain rfl : k = c.l.length := by omega
      obtain rfl := Hend.out D Hperm.out Hsort.out
      have Hown := Lib.hid hown
      have Hbel := Lib.hid hbel
      obtain ⟨oo, oc, rfl⟩ := own_form hown
      clear hrw hown hbel
      go_wp2
      go_ret
      exact ⟨_, rfl, own_frow wrC_len Hown.out, Hbel.out⟩
end Go.Proofs.Ytikkdhfbihejbaa
