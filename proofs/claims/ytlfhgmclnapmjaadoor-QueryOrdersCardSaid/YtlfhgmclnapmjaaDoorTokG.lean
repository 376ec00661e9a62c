/- Chapter 11: codexref11.Terms. Condition: the text is at most 10^6 bytes. -/
import Derived.Test.YtlfhgmclnapmjaaDoorTokC
import Derived.Test.YtlfhgmclnapmjaaDoorTokSet
import Derived.Test.YtlfhgmclnapmjaaDoorStepAny
import Derived.Sort.Walk0
namespace Go.Proofs.YtlfhgmclnapmjaaDoor
open Go.RowKit Go.Utf Go.Lib
attribute [local go_sem] Oper.semAt_some

def SetOf (o xs : List Tx) : Prop := o.Pairwise (· < ·) ∧ (∀ x, x ∈ o ↔ x ∈ xs) ∧ o.length ≤ xs.length
theorem SetOf.nil : SetOf [] [] := ⟨List.Pairwise.nil, fun _ => Iff.rfl, Nat.le_refl _⟩
theorem insT_length (o : List Tx) (k : Nat) (t : Tx) : (insT o k t).length ≤ o.length + 1 := by
  unfold insT
  split
  · rw [List.length_append, List.length_take, List.length_cons, List.length_drop]; omega
  · omega
theorem SetOf.next {o xs : List Tx} {k : Nat} {t : Tx} (h : SetOf o xs) (hk : AtT o k t) : SetOf (insT o k t) (xs ++ [t]) := by
  obtain ⟨h1, h2⟩ := insT_ok h.1 hk
  refine ⟨h1, fun x => ?_, ?_⟩
  · rw [h2, h.2.1]; simp
  · have := insT_length o k t
    have := h.2.2
    rw [List.length_append, List.length_singleton]; omega
def LtUp (o : List Tx) (k : Nat) (t : Tx) : Prop := ∀ j (h : j < o.length), j < k → o[j] < t
/-- A part of a row of texts, read later. -/
theorem own_take_news {w : World} {base g cap : Nat} {o : List Tx} (h : w.ownsRow base 9 1 (.slice (some ⟨g, 0, none⟩) o.length cap) o.length (txtCells o)) (j : Nat) :
    ∀ W', Below w.heap.size w W' → ∀ ad, some (⟨g, 0, none⟩ : Addr) = some ad → ∀ i u, (txtCells (o.take j))[i]? = some u → W'.cell? (ad.add i) = some u := by
  rintro W' hb ad e i u hu
  cases e
  have hg := (h.lt g rfl).2
  have e1 : (⟨g, 0, none⟩ : Addr).add i = ⟨g, i, none⟩ := by unfold Addr.add; split <;> simp_all
  rw [e1]
  refine cell_below hb hg ?_
  have := h.cells (g := g) rfl i u (by
    rw [txtCells, List.map_take] at hu
    rw [List.getElem?_take] at hu
    split at hu
    · exact hu
    · cases hu)
  rwa [e1] at this
theorem own_drop_news {w : World} {base g cap : Nat} {o : List Tx} (h : w.ownsRow base 9 1 (.slice (some ⟨g, 0, none⟩) o.length cap) o.length (txtCells o)) (j : Nat) :
    ∀ W', Below w.heap.size w W' → ∀ ad, some (⟨g, j, none⟩ : Addr) = some ad → ∀ i u, (txtCells (o.drop j))[i]? = some u → W'.cell? (ad.add i) = some u := by
  rintro W' hb ad e i u hu
  cases e
  have hg := (h.lt g rfl).2
  have e1 : (⟨g, j, none⟩ : Addr).add i = ⟨g, j + i, none⟩ := by unfold Addr.add; split <;> simp_all
  have e2 : (⟨g, 0, none⟩ : Addr).add (j + i) = ⟨g, j + i, none⟩ := by unfold Addr.add; split <;> simp_all
  rw [e1]
  refine cell_below hb hg ?_
  have := h.cells (g := g) rfl (j + i) u (by
    rw [txtCells, List.map_drop, List.getElem?_drop] at hu
    exact hu)
  rwa [e2] at this
theorem txtCells_one (l : List Tx) : ∀ u ∈ txtCells l, u.oneCell' = true := by
  intro u hu
  obtain ⟨x, _, rfl⟩ := List.mem_map.1 hu
  simp [Value.oneCell']
theorem txtCells_append (a b : List Tx) : txtCells (a ++ b) = txtCells a ++ txtCells b := by simp [txtCells]
theorem txtCells_len (l : List Tx) : (txtCells l).length = l.length * 1 := by simp [txtCells]
theorem own_cases {w : World} {base : Nat} {e : TypeId} {size n c : Nat} {oa : Option Addr} {xs : List Value} (h : w.ownsRow base e size (.slice oa n c) n xs) : (oa = none ∧ n = 0 ∧ c = 0) ∨ ∃ g, oa = some ⟨g, 0, none⟩ ∧ n ≤ c := by
  rcases h.2 with ⟨h0, h1⟩ | ⟨g, cap, cur, h0, _, _, h1, _⟩
  · simp only [Value.slice.injEq] at h0
    exact .inl ⟨h0.1, h1, h0.2.2⟩
  · simp only [Value.slice.injEq, true_and] at h0
    exact .inr ⟨g, h0.1, by omega⟩
set_option maxRecDepth 100000 in
set_option maxHeartbeats 6400000 in
theorem ref11_Terms (s : ByteArray) (hs : s.size ≤ 1000000) (w : World) :
    Calls Tryd.prog 21 #[.string s] w fun e w' => ∃ v, e = .returned v ∧ Below w.heap.size w w' ∧ w'.ownsRow w.heap.size 9 1 v (termsL (L s)).length (txtCells (termsL (L s))) := by
  obtain ⟨i0, hi, hz0, hz1, hz2⟩ := info_parts infoStr
  have HW := Lib.hid (ref11_Tokens s hs w)
  have hcnt := tokens_count s hs
  have Hend : Hid (∀ out : List Tx, SetOf out ((tokensL (L s)).map Prod.fst) → out = termsL (L s)) := Lib.hid (fun out h => by
    obtain ⟨k1, k2⟩ := set_of ((tokensL (L s)).map Prod.fst)
    exact rising_same h.1 k1 (fun x => (h.2.1 x).trans (k2 x).symm))
  generalize tokensL (L s) = ts at HW hcnt Hend
  generalize termsL (L s) = tms at Hend ⊢
  go_enter Tryd.func21, Tryd.ntmps21
  go_wp2_with fail
  refine HW.out.mono ?_
  rintro e w1 ⟨v, rfl, hb1, hown⟩
  obtain ⟨oa, oc, rfl, hcells⟩ := own_toks hown
  have Hcells := Lib.hid hcells
  have Hb1 := Lib.hid hb1
  have Hsz := Lib.hid hb1.size
  clear hcells hown hb1
  go_wp2
  go_loopw [3, 5] (fun l i wr => ∃ (k : Nat) (o : List Tx), k ≤ ts.length ∧ i = .int .i64 k ∧ SetOf o ((ts.take k).map Prod.fst) ∧ wr.ownsRow w1.heap.size 9 1 l o.length (txtCells o) ∧ Below w1.heap.size w1 wr) (fun _ i _ => ts.length - (intOf i).toNat)
  case atStart => exact ⟨0, [], by omega, rfl, SetOf.nil, World.ownsRow_nil _ _ _ _, Below.refl _ _⟩
  case round =>
    obtain ⟨i, o, hik, rfl, hset, hown, hbel⟩ := hrel
    obtain ⟨wo, rfl⟩ : ∃ wo : World, wo = wr := ⟨_, rfl⟩
    have hol : o.length ≤ i := by have := hset.2.2; simp only [List.length_map, List.length_take] at this; omega
    have Hset := Lib.hid hset
    by_cases h1 : i < ts.length
    · obtain ⟨b, off, rfl, hb, k1, _⟩ := Hcells.out i h1
      have k1 := cell_below hbel hb k1
      have hnext : (ts.take (i + 1)).map Prod.fst = (ts.take i).map Prod.fst ++ [ts[i].1] := by
        rw [List.take_succ_eq_append_getElem h1, List.map_append]; rfl
      have Hnext := Lib.hid hnext
      clear hnext
      generalize ts[i] = tk at k1 Hnext
      obtain ⟨t, pz⟩ := tk
      simp only at k1 Hnext
      obtain ⟨la, lc, rfl, hcl⟩ := txt_row (own_row hown)
      have Hcl := Lib.hid hcl
      have Hown := Lib.hid hown
      have Hbel := Lib.hid hbel
      have K1 := Lib.hid k1
      have hbz := hbel.size
      clear hset hown hbel hcl k1
      go_wp2
      go_loopw [6] (fun kv wr => ∃ j : Nat, j ≤ o.length ∧ kv = .int .i64 j ∧ LtUp o j t ∧ Below wo.heap.size wo wr) (fun kv _ => o.length - (intOf kv).toNat)
      case atStart => exact ⟨0, by omega, rfl, fun _ _ h => absurd h (Nat.not_lt_zero _), Below.refl _ _⟩
      case round =>
        obtain ⟨j, hj, rfl, hlt, hb2⟩ := hrel
        have Hlt := Lib.hid hlt
        have Hb2 := Lib.hid hb2
        have k1 := cell_call hb2 K1.out
        clear hlt
        by_cases hjo : j < o.length
        · obtain ⟨g, go, rfl, hg, hcap, kj⟩ := Hcl.out j hjo
          have kjo := kj
          have kj := cell_call hb2 kj
          have hg0 : decide ((j : Int) < (o.length : Int)) = true := by simp; omega
          have hj0 : (j : Int) < (o.length : Int) := by omega
          have Hkeep : Hid (LtUp o (j + 1) t ∨ ¬ o[j] < t) := Lib.hid (by
            by_cases h : o[j] < t
            · refine .inl fun m hm hmj => ?_
              by_cases e : m = j
              · subst e; exact h
              · exact Hlt.out m hm (by omega)
            · exact .inr h)
          have hls : Op.bytesLess (B o[j]).toList (B t).toList = decide (o[j] < t) := less_B _ _
          clear hb2
          by_cases hoj : o[j] < t
          · rw [decide_eq_true hoj] at hls
            have Hnx : Hid (LtUp o (j + 1) t) := Lib.hid (by
              rcases Hkeep.out with h | h
              · exact h
              · exact absurd hoj h)
            clear hoj
            generalize o[j] = x at kj hls
            go_wp2
            go_quiet (fail)
            go_wp2
            go_roundw
            case rel => exact ⟨j + 1, by omega, by go_num, Hnx.out, below_to_drewN Hb2.out _⟩
            case measure => simp [intOf]; omega
          · rw [decide_eq_false hoj] at hls
            have Hat : Hid (AtT o j t) := Lib.hid ⟨by omega, fun m hm hmj => Hlt.out m hm hmj, fun _ => hoj⟩
            clear hoj
            by_cases heq : o[j] = t
            · have hins : Hid (insT o j t = o) := Lib.hid (by
                unfold insT
                rw [if_neg]
                rintro (h | h)
                · omega
                · exact h (by rw [List.getElem?_eq_getElem hjo, heq]))
              rw [heq] at kj hls
              have he1 : ((j : Int) == (o.length : Int)) = false := by rw [beq_eq_false_iff_ne]; omega
              have he2 : ((B t).toList == (B t).toList) = true := by simp
              clear heq
              go_wp2
              go_quiet (fail)
              go_wp2
              go_quiet (fail)
              go_wp2
              go_roundw
              case rel => exact ⟨i + 1, insT o j t, by omega, by go_num, by rw [Hnext.out]; exact Hset.out.next Hat.out, by rw [hins.out]; exact own_below Hown.out (below_to_drewN Hb2.out _), step_call Hbel.out (below_to_drewN Hb2.out _)⟩
              case measure => simp [intOf]; omega
            · have hins : Hid (insT o j t = o.take j ++ t :: o.drop j) := Lib.hid (by
                unfold insT
                rw [if_pos]
                exact .inr (by rw [List.getElem?_eq_getElem hjo]; simpa using heq))
              have he1 : ((j : Int) == (o.length : Int)) = false := by rw [beq_eq_false_iff_ne]; omega
              have he2 : ((B o[j]).toList == (B t).toList) = false := by rw [toList_B, toList_B, beq_eq_false_iff_ne]; exact heq
              have q1 : (0 : Int) ≤ (j : Int) := by omega
              have q2 : (j : Int) ≤ (lc : Int) := by omega
              have q3 : (o.length : Int) ≤ (lc : Int) := by omega
              have q4 : (j : Int) ≤ (o.length : Int) := by omega
              have q5 : ¬ lc = j := by omega
              clear heq
              generalize o[j] = x at kj kjo hls he2
              obtain rfl : go = 0 := by
                rcases own_cases Hown.out with ⟨h, _⟩ | ⟨g', h, _⟩
                · cases h
                · cases h; rfl
              rw [Nat.zero_add] at kj kjo
              go_wp2
              go_quiet (fail)
              have Hbq := Lib.hid (below_to_drewN Hb2.out nq)
              have kj1 := cell_call Hbq.out kjo
              have kq1 := cell_call Hbq.out K1.out
              clear kj k1 kjo
              generalize wr.drewN nq = wq1 at Hbq kj1 kq1 ⊢
              go_wp2
              go_quiet (fail)
              have Hbq := Lib.hid (below_to_drewN Hbq.out nq)
              have kq := cell_call Hbq.out K1.out
              clear kj1 kq1
              generalize wq1.drewN nq = wq at Hbq kq ⊢
              have Hq := Lib.hid (own_below Hown.out Hbq.out)
              have hbq : b < wq.heap.size := lt_of_cell kq
              go_wp2
              have HnT := Lib.hid (own_take_news Hq.out j)
              have HnD := Lib.hid (own_drop_news Hq.out j)
              go_region_held3 (fun w' => Below wq.heap.size wq w' ∧ w'.cell? ⟨b, off + i * 2, none⟩ = some (.string (B t)))
                (first
                  | exact h1_drew kq
                  | exact h1_new (by assumption) _
                  | exact h1_grown (by assumption) hgrow7 (fun k e => (hown6.lt k e).1) (by omega)
                  | exact h1_grown (by assumption) hgrow6 (fun k e => (hown5.lt k e).1) (by omega)
                  | exact h1_grown (by assumption) hgrow6 (fun k e => ((hown5.alloc _).lt k e).1) (by omega)
                  | exact h1_grown (by assumption) hgrow5 hr5 (by omega)
                  | assumption)
                (first
                  | (refine step_append_any _ (by rfl) _ _ _ (by rfl) wq.heap.size 9 i0 _ 1 16 Tryd.underlying41 hi hz0 hz1 hz2 rfl (by decide) (.slice (some ⟨wq.heap.size, 0, none⟩) 0 0) 0 [] (by rfl) (own_nil_new _ 1 (heap_alloc_new wq _) (by omega)) (some ⟨g, 0, none⟩) j lc (txtCells (o.take j)) (by rfl) (by simp [txtCells]; try omega) (fun h => (by cases h)) (HnT.out _ (by go_split_ands; assumption)) (txtCells_one _) (by unfold maxLen; omega) (by omega) (by first | (simp; done) | (simp; omega)) ?_; intro v5 w5 hown5 hgrow5 _; have hr5 : ∀ k, (Value.slice (some ⟨wq.heap.size, 0, none⟩) 0 0).ownBlock = some k → wq.heap.size ≤ k := (fun k e => (by simp [Value.ownBlock] at e; omega)); have hown5 : w5.ownsRow wq.heap.size 9 1 v5 j (txtCells (o.take j)) := (by simpa using hown5); have hsz5 : wq.heap.size ≤ w5.heap.size := (by have h := hgrow5.size; simp at h; omega))
                  | (refine step_append_any _ (by rfl) _ _ _ (by rfl) wq.heap.size 9 i0 _ 1 16 Tryd.underlying41 hi hz0 hz1 hz2 rfl (by decide) (.slice (some ⟨wq.heap.size, 0, none⟩) 0 0) 0 [] (by rfl) (own_nil_new _ 1 ((heap_alloc_old (wq.alloc _) _ (by simp)).trans (heap_alloc_new wq _)) (by omega)) (some ⟨g, 0, none⟩) j lc (txtCells (o.take j)) (by rfl) (by simp [txtCells]; try omega) (fun h => (by cases h)) (HnT.out _ (by go_split_ands; assumption)) (txtCells_one _) (by unfold maxLen; omega) (by omega) (by first | (simp; done) | (simp; omega)) ?_; intro v5 w5 hown5 hgrow5 _; have hr5 : ∀ k, (Value.slice (some ⟨wq.heap.size, 0, none⟩) 0 0).ownBlock = some k → wq.heap.size ≤ k := (fun k e => (by simp [Value.ownBlock] at e; omega)); have hown5 : w5.ownsRow wq.heap.size 9 1 v5 j (txtCells (o.take j)) := (by simpa using hown5); have hsz5 : wq.heap.size ≤ w5.heap.size := (by have h := hgrow5.size; simp at h; omega))
                  | (refine step_append_any _ (by rfl) _ _ _ (by rfl) wq.heap.size 9 i0 _ 1 16 Tryd.underlying41 hi hz0 hz1 hz2 rfl (by decide) (.slice (some ⟨(wq.heap.size + 1), 0, none⟩) 0 0) 0 [] (by rfl) (own_nil_new _ 1 (by have h := heap_alloc_new (wq.alloc (.cells #[.string (B t)] 9)) (.cells #[] 9); rwa [World.size_alloc] at h) (by omega)) (some ⟨g, 0, none⟩) j lc (txtCells (o.take j)) (by rfl) (by simp [txtCells]; try omega) (fun h => (by cases h)) (HnT.out _ (by go_split_ands; assumption)) (txtCells_one _) (by unfold maxLen; omega) (by omega) (by first | (simp; done) | (simp; omega)) ?_; intro v5 w5 hown5 hgrow5 _; have hr5 : ∀ k, (Value.slice (some ⟨(wq.heap.size + 1), 0, none⟩) 0 0).ownBlock = some k → wq.heap.size ≤ k := (fun k e => (by simp [Value.ownBlock] at e; omega)); have hown5 : w5.ownsRow wq.heap.size 9 1 v5 j (txtCells (o.take j)) := (by simpa using hown5); have hsz5 : wq.heap.size ≤ w5.heap.size := (by have h := hgrow5.size; simp at h; omega))
                  | (refine step_append_any _ (by rfl) _ _ _ (by rfl) wq.heap.size 9 i0 _ 1 16 Tryd.underlying41 hi hz0 hz1 hz2 rfl (by decide) v5 j (txtCells (o.take j)) (by rfl) hown5 (some ⟨(wq.heap.size + 1), 0, none⟩) 1 1 [.string (B t)] (by rfl) (by rfl) (fun h => (by cases h)) (fun ad e => (by cases e; exact World.news_of_block (cs := #[.string (B t)]) (t := 9) (fr := (0, 0)) ((hgrow5.block (wq.heap.size + 1) (by first | (simp; done) | (simp; omega)) (by simp [Value.ownBlock])).trans (by have h := heap_alloc_new (wq.alloc (.cells #[] 9)) (.cells #[.string (B t)] 9); rwa [World.size_alloc] at h)))) (by simp [Value.oneCell']) (by unfold maxLen; omega) (by omega) (by first | exact hsz5 | (simp; omega)) ?_; intro v6 w6 hown6 hgrow6 _; have hsz6 : wq.heap.size ≤ w6.heap.size := (by have h := hgrow6.size; first | omega | (simp at h; omega)))
                  | (refine step_append_any _ (by rfl) _ _ _ (by rfl) wq.heap.size 9 i0 _ 1 16 Tryd.underlying41 hi hz0 hz1 hz2 rfl (by decide) v5 j (txtCells (o.take j)) (by rfl) hown5 (some ⟨wq.heap.size, 0, none⟩) 1 1 [.string (B t)] (by rfl) (by rfl) (fun h => (by cases h)) (fun ad e => (by cases e; exact World.news_of_block (cs := #[.string (B t)]) (t := 9) (fr := (0, 0)) ((hgrow5.block wq.heap.size (by first | (simp; done) | (simp; omega)) (by simp [Value.ownBlock])).trans ((heap_alloc_old (wq.alloc _) _ (by simp)).trans (heap_alloc_new wq _))))) (by simp [Value.oneCell']) (by unfold maxLen; omega) (by omega) (by first | exact hsz5 | (simp; omega)) ?_; intro v6 w6 hown6 hgrow6 _; have hsz6 : wq.heap.size ≤ w6.heap.size := (by have h := hgrow6.size; first | omega | (simp at h; omega)))
                  | (refine step_append_any _ (by rfl) _ _ _ (by rfl) wq.heap.size 9 i0 _ 1 16 Tryd.underlying41 hi hz0 hz1 hz2 rfl (by decide) v5 j (txtCells (o.take j)) (by rfl) (hown5.alloc _) (some ⟨w5.heap.size, 0, none⟩) 1 1 [.string (B t)] (by rfl) (by rfl) (fun h => (by cases h)) (fun ad e => (by cases e; exact World.news_of_block (cs := #[.string (B t)]) (t := 9) (fr := (0, 0)) (heap_alloc_new w5 _))) (by simp [Value.oneCell']) (by unfold maxLen; omega) (by omega) (by first | exact hsz5 | (simp; omega)) ?_; intro v6 w6 hown6 hgrow6 _; have hsz6 : wq.heap.size ≤ w6.heap.size := (by have h := hgrow6.size; first | omega | (simp at h; omega)))
                  | (refine step_append_any _ (by rfl) _ _ _ (by rfl) wq.heap.size 9 i0 _ 1 16 Tryd.underlying41 hi hz0 hz1 hz2 rfl (by decide) v6 (j + 1) (txtCells (o.take j) ++ [.string (B t)]) (by rfl) hown6 (some ⟨g, j, none⟩) (o.length - j) (lc - j) (txtCells (o.drop j)) (by rfl) (by simp [txtCells]; try omega) (fun h => (by cases h)) (HnD.out _ (by go_split_ands; assumption)) (txtCells_one _) (by unfold maxLen; omega) (by omega) hsz6 ?_; intro v7 w7 hown7 hgrow7 _)
                  | fail)
              all_goals
                have hbw : Below wq.heap.size wq w7 := by go_split_ands; assumption
                have HB7 := Lib.hid (step_call (step_call Hbel.out Hbq.out) hbw)
                have Ho7 : Hid (w7.ownsRow w1.heap.size 9 1 v7 (insT o j t).length (txtCells (insT o j t))) := Lib.hid (by
                  have h := own_base hown7 (step_call Hbel.out Hbq.out).size
                  have e2 : txtCells (o.take j) ++ [.string (B t)] ++ txtCells (o.drop j) = txtCells (o.take j ++ t :: o.drop j) := by rw [txtCells_append]; simp [txtCells]
                  have e1 : j + 1 + (o.length - j) = (o.take j ++ t :: o.drop j).length := by simp; try omega
                  rw [hins.out, ← e1, ← e2]
                  exact h)
                clear hown5 hgrow5 hown6 hgrow6 hown7 hgrow7 hbw
                go_wp2
                go_roundw
                case rel => exact ⟨i + 1, insT o j t, by omega, by go_num, by rw [Hnext.out]; exact Hset.out.next Hat.out, Ho7.out, HB7.out⟩
                case measure => simp [intOf]; omega
        · obtain rfl : j = o.length := by omega
          have Hat : Hid (AtT o o.length t) := Lib.hid ⟨by omega, fun m hm hmj => Hlt.out m hm hmj, fun h => absurd h (Nat.lt_irrefl _)⟩
          have hg0 : decide ((o.length : Int) < (o.length : Int)) = false := by simp
          have he1 : ((o.length : Int) == (o.length : Int)) = true := by simp
          have hins : Hid (insT o o.length t = o.take o.length ++ t :: o.drop o.length) := Lib.hid (by
            unfold insT
            rw [if_pos]
            exact .inl rfl)
          clear hb2
          rcases own_cases Hown.out with ⟨rfl, h0, rfl⟩ | ⟨g, rfl, hcap⟩
          · obtain rfl : o = [] := List.eq_nil_of_length_eq_zero h0
            clear h0 hins
            have hins : Hid (insT [] 0 t = ([] : List Tx).take 0 ++ t :: ([] : List Tx).drop 0) := Lib.hid (by unfold insT; rw [if_pos (.inl rfl)])
            go_wp2
            go_quiet (fail)
            have Hbq := Lib.hid (below_to_drewN Hb2.out nq)
            have kq1 := cell_call Hbq.out K1.out
            clear k1
            generalize wr.drewN nq = wq1 at Hbq kq1 ⊢
            go_wp2
            go_quiet (fail)
            have Hbq := Lib.hid (below_to_drewN Hbq.out nq)
            have kq := cell_call Hbq.out K1.out
            clear kq1
            generalize wq1.drewN nq = wq at Hbq kq ⊢
            have Hq := Lib.hid (own_below Hown.out Hbq.out)
            have hbq : b < wq.heap.size := lt_of_cell kq
            go_wp2
            go_region_held3 (fun w' => Below wq.heap.size wq w' ∧ w'.cell? ⟨b, off + i * 2, none⟩ = some (.string (B t)))
              (first
                | exact h1_drew kq
                | exact h1_new (by assumption) _
                | exact h1_grown (by assumption) hgrow7 (fun k e => (hown6.lt k e).1) (by omega)
                | exact h1_grown (by assumption) hgrow6 (fun k e => (hown5.lt k e).1) (by omega)
                | exact h1_grown (by assumption) hgrow6 (fun k e => ((hown5.alloc _).lt k e).1) (by omega)
                | exact h1_grown (by assumption) hgrow5 hr5 (by omega)
                | assumption)
              (first
                | (refine step_append_any _ (by rfl) _ _ _ (by rfl) wq.heap.size 9 i0 _ 1 16 Tryd.underlying41 hi hz0 hz1 hz2 rfl (by decide) (.slice (some ⟨wq.heap.size, 0, none⟩) 0 0) 0 [] (by rfl) (own_nil_new _ 1 (heap_alloc_new wq _) (by omega)) none 0 0 (txtCells (([] : List Tx).take 0)) (by rfl) (by simp [txtCells]; try omega) (fun _ => ⟨rfl, rfl⟩) (fun ad e => (by cases e)) (txtCells_one _) (by unfold maxLen; omega) (by omega) (by first | (simp; done) | (simp; omega)) ?_; intro v5 w5 hown5 hgrow5 _; have hr5 : ∀ k, (Value.slice (some ⟨wq.heap.size, 0, none⟩) 0 0).ownBlock = some k → wq.heap.size ≤ k := (fun k e => (by simp [Value.ownBlock] at e; omega)); have hown5 : w5.ownsRow wq.heap.size 9 1 v5 0 (txtCells (([] : List Tx).take 0)) := (by simpa using hown5); have hsz5 : wq.heap.size ≤ w5.heap.size := (by have h := hgrow5.size; simp at h; omega))
                | (refine step_append_any _ (by rfl) _ _ _ (by rfl) wq.heap.size 9 i0 _ 1 16 Tryd.underlying41 hi hz0 hz1 hz2 rfl (by decide) (.slice (some ⟨wq.heap.size, 0, none⟩) 0 0) 0 [] (by rfl) (own_nil_new _ 1 ((heap_alloc_old (wq.alloc _) _ (by simp)).trans (heap_alloc_new wq _)) (by omega)) none 0 0 (txtCells (([] : List Tx).take 0)) (by rfl) (by simp [txtCells]; try omega) (fun _ => ⟨rfl, rfl⟩) (fun ad e => (by cases e)) (txtCells_one _) (by unfold maxLen; omega) (by omega) (by first | (simp; done) | (simp; omega)) ?_; intro v5 w5 hown5 hgrow5 _; have hr5 : ∀ k, (Value.slice (some ⟨wq.heap.size, 0, none⟩) 0 0).ownBlock = some k → wq.heap.size ≤ k := (fun k e => (by simp [Value.ownBlock] at e; omega)); have hown5 : w5.ownsRow wq.heap.size 9 1 v5 0 (txtCells (([] : List Tx).take 0)) := (by simpa using hown5); have hsz5 : wq.heap.size ≤ w5.heap.size := (by have h := hgrow5.size; simp at h; omega))
                | (refine step_append_any _ (by rfl) _ _ _ (by rfl) wq.heap.size 9 i0 _ 1 16 Tryd.underlying41 hi hz0 hz1 hz2 rfl (by decide) (.slice (some ⟨(wq.heap.size + 1), 0, none⟩) 0 0) 0 [] (by rfl) (own_nil_new _ 1 (by have h := heap_alloc_new (wq.alloc (.cells #[.string (B t)] 9)) (.cells #[] 9); rwa [World.size_alloc] at h) (by omega)) none 0 0 (txtCells (([] : List Tx).take 0)) (by rfl) (by simp [txtCells]; try omega) (fun _ => ⟨rfl, rfl⟩) (fun ad e => (by cases e)) (txtCells_one _) (by unfold maxLen; omega) (by omega) (by first | (simp; done) | (simp; omega)) ?_; intro v5 w5 hown5 hgrow5 _; have hr5 : ∀ k, (Value.slice (some ⟨(wq.heap.size + 1), 0, none⟩) 0 0).ownBlock = some k → wq.heap.size ≤ k := (fun k e => (by simp [Value.ownBlock] at e; omega)); have hown5 : w5.ownsRow wq.heap.size 9 1 v5 0 (txtCells (([] : List Tx).take 0)) := (by simpa using hown5); have hsz5 : wq.heap.size ≤ w5.heap.size := (by have h := hgrow5.size; simp at h; omega))
                | (refine step_append_any _ (by rfl) _ _ _ (by rfl) wq.heap.size 9 i0 _ 1 16 Tryd.underlying41 hi hz0 hz1 hz2 rfl (by decide) v5 0 (txtCells (([] : List Tx).take 0)) (by rfl) hown5 (some ⟨(wq.heap.size + 1), 0, none⟩) 1 1 [.string (B t)] (by rfl) (by rfl) (fun h => (by cases h)) (fun ad e => (by cases e; exact World.news_of_block (cs := #[.string (B t)]) (t := 9) (fr := (0, 0)) ((hgrow5.block (wq.heap.size + 1) (by first | (simp; done) | (simp; omega)) (by simp [Value.ownBlock])).trans (by have h := heap_alloc_new (wq.alloc (.cells #[] 9)) (.cells #[.string (B t)] 9); rwa [World.size_alloc] at h)))) (by simp [Value.oneCell']) (by unfold maxLen; omega) (by omega) (by first | exact hsz5 | (simp; omega)) ?_; intro v6 w6 hown6 hgrow6 _; have hsz6 : wq.heap.size ≤ w6.heap.size := (by have h := hgrow6.size; first | omega | (simp at h; omega)))
                | (refine step_append_any _ (by rfl) _ _ _ (by rfl) wq.heap.size 9 i0 _ 1 16 Tryd.underlying41 hi hz0 hz1 hz2 rfl (by decide) v5 0 (txtCells (([] : List Tx).take 0)) (by rfl) hown5 (some ⟨wq.heap.size, 0, none⟩) 1 1 [.string (B t)] (by rfl) (by rfl) (fun h => (by cases h)) (fun ad e => (by cases e; exact World.news_of_block (cs := #[.string (B t)]) (t := 9) (fr := (0, 0)) ((hgrow5.block wq.heap.size (by first | (simp; done) | (simp; omega)) (by simp [Value.ownBlock])).trans ((heap_alloc_old (wq.alloc _) _ (by simp)).trans (heap_alloc_new wq _))))) (by simp [Value.oneCell']) (by unfold maxLen; omega) (by omega) (by first | exact hsz5 | (simp; omega)) ?_; intro v6 w6 hown6 hgrow6 _; have hsz6 : wq.heap.size ≤ w6.heap.size := (by have h := hgrow6.size; first | omega | (simp at h; omega)))
                | (refine step_append_any _ (by rfl) _ _ _ (by rfl) wq.heap.size 9 i0 _ 1 16 Tryd.underlying41 hi hz0 hz1 hz2 rfl (by decide) v5 0 (txtCells (([] : List Tx).take 0)) (by rfl) (hown5.alloc _) (some ⟨w5.heap.size, 0, none⟩) 1 1 [.string (B t)] (by rfl) (by rfl) (fun h => (by cases h)) (fun ad e => (by cases e; exact World.news_of_block (cs := #[.string (B t)]) (t := 9) (fr := (0, 0)) (heap_alloc_new w5 _))) (by simp [Value.oneCell']) (by unfold maxLen; omega) (by omega) (by first | exact hsz5 | (simp; omega)) ?_; intro v6 w6 hown6 hgrow6 _; have hsz6 : wq.heap.size ≤ w6.heap.size := (by have h := hgrow6.size; first | omega | (simp at h; omega)))
                | (refine step_append_any _ (by rfl) _ _ _ (by rfl) wq.heap.size 9 i0 _ 1 16 Tryd.underlying41 hi hz0 hz1 hz2 rfl (by decide) v6 (0 + 1) (txtCells (([] : List Tx).take 0) ++ [.string (B t)]) (by rfl) hown6 none 0 0 (txtCells (([] : List Tx).drop 0)) (by rfl) (by simp [txtCells]; try omega) (fun _ => ⟨rfl, rfl⟩) (fun ad e => (by cases e)) (txtCells_one _) (by unfold maxLen; omega) (by omega) hsz6 ?_; intro v7 w7 hown7 hgrow7 _)
                | fail)
            all_goals
              have hbw : Below wq.heap.size wq w7 := by go_split_ands; assumption
              have HB7 := Lib.hid (step_call (step_call Hbel.out Hbq.out) hbw)
              have Ho7 : Hid (w7.ownsRow w1.heap.size 9 1 v7 (insT [] 0 t).length (txtCells (insT [] 0 t))) := Lib.hid (by
                have h := own_base hown7 (step_call Hbel.out Hbq.out).size
                have e2 : txtCells (([] : List Tx).take 0) ++ [.string (B t)] ++ txtCells (([] : List Tx).drop 0) = txtCells (([] : List Tx).take 0 ++ t :: ([] : List Tx).drop 0) := by rw [txtCells_append]; simp [txtCells]
                have e1 : 0 + 1 + 0 = (([] : List Tx).take 0 ++ t :: ([] : List Tx).drop 0).length := by simp; try omega
                rw [hins.out, ← e1, ← e2]
                exact h)
              clear hown5 hgrow5 hown6 hgrow6 hown7 hgrow7 hbw
              go_wp2
              go_roundw
              case rel => exact ⟨i + 1, insT [] 0 t, by omega, by go_num, by rw [Hnext.out]; exact Hset.out.next Hat.out, Ho7.out, HB7.out⟩
              case measure => simp [intOf]; omega
          · by_cases hcl : lc = o.length
            · subst hcl
              have q1 : (0 : Int) ≤ (o.length : Int) := by omega
              go_wp2
              go_quiet (fail)
              have Hbq := Lib.hid (below_to_drewN Hb2.out nq)
              have kq1 := cell_call Hbq.out K1.out
              clear k1
              generalize wr.drewN nq = wq1 at Hbq kq1 ⊢
              go_wp2
              go_quiet (fail)
              have Hbq := Lib.hid (below_to_drewN Hbq.out nq)
              have kq := cell_call Hbq.out K1.out
              clear kq1
              generalize wq1.drewN nq = wq at Hbq kq ⊢
              have Hq := Lib.hid (own_below Hown.out Hbq.out)
              have hbq : b < wq.heap.size := lt_of_cell kq
              go_wp2
              have HnT := Lib.hid (own_take_news Hq.out o.length)
              have HnD := Lib.hid (own_drop_news Hq.out o.length)
              go_region_held3 (fun w' => Below wq.heap.size wq w' ∧ w'.cell? ⟨b, off + i * 2, none⟩ = some (.string (B t)))
                (first
                  | exact h1_drew kq
                  | exact h1_new (by assumption) _
                  | exact h1_grown (by assumption) hgrow7 (fun k e => (hown6.lt k e).1) (by omega)
                  | exact h1_grown (by assumption) hgrow6 (fun k e => (hown5.lt k e).1) (by omega)
                  | exact h1_grown (by assumption) hgrow6 (fun k e => ((hown5.alloc _).lt k e).1) (by omega)
                  | exact h1_grown (by assumption) hgrow5 hr5 (by omega)
                  | assumption)
                (first
                  | (refine step_append_any _ (by rfl) _ _ _ (by rfl) wq.heap.size 9 i0 _ 1 16 Tryd.underlying41 hi hz0 hz1 hz2 rfl (by decide) (.slice (some ⟨wq.heap.size, 0, none⟩) 0 0) 0 [] (by rfl) (own_nil_new _ 1 (heap_alloc_new wq _) (by omega)) (some ⟨g, 0, none⟩) o.length o.length (txtCells (o.take o.length)) (by rfl) (by simp [txtCells]; try omega) (fun h => (by cases h)) (HnT.out _ (by go_split_ands; assumption)) (txtCells_one _) (by unfold maxLen; omega) (by omega) (by first | (simp; done) | (simp; omega)) ?_; intro v5 w5 hown5 hgrow5 _; have hr5 : ∀ k, (Value.slice (some ⟨wq.heap.size, 0, none⟩) 0 0).ownBlock = some k → wq.heap.size ≤ k := (fun k e => (by simp [Value.ownBlock] at e; omega)); have hown5 : w5.ownsRow wq.heap.size 9 1 v5 o.length (txtCells (o.take o.length)) := (by simpa using hown5); have hsz5 : wq.heap.size ≤ w5.heap.size := (by have h := hgrow5.size; simp at h; omega))
                  | (refine step_append_any _ (by rfl) _ _ _ (by rfl) wq.heap.size 9 i0 _ 1 16 Tryd.underlying41 hi hz0 hz1 hz2 rfl (by decide) (.slice (some ⟨wq.heap.size, 0, none⟩) 0 0) 0 [] (by rfl) (own_nil_new _ 1 ((heap_alloc_old (wq.alloc _) _ (by simp)).trans (heap_alloc_new wq _)) (by omega)) (some ⟨g, 0, none⟩) o.length o.length (txtCells (o.take o.length)) (by rfl) (by simp [txtCells]; try omega) (fun h => (by cases h)) (HnT.out _ (by go_split_ands; assumption)) (txtCells_one _) (by unfold maxLen; omega) (by omega) (by first | (simp; done) | (simp; omega)) ?_; intro v5 w5 hown5 hgrow5 _; have hr5 : ∀ k, (Value.slice (some ⟨wq.heap.size, 0, none⟩) 0 0).ownBlock = some k → wq.heap.size ≤ k := (fun k e => (by simp [Value.ownBlock] at e; omega)); have hown5 : w5.ownsRow wq.heap.size 9 1 v5 o.length (txtCells (o.take o.length)) := (by simpa using hown5); have hsz5 : wq.heap.size ≤ w5.heap.size := (by have h := hgrow5.size; simp at h; omega))
                  | (refine step_append_any _ (by rfl) _ _ _ (by rfl) wq.heap.size 9 i0 _ 1 16 Tryd.underlying41 hi hz0 hz1 hz2 rfl (by decide) (.slice (some ⟨(wq.heap.size + 1), 0, none⟩) 0 0) 0 [] (by rfl) (own_nil_new _ 1 (by have h := heap_alloc_new (wq.alloc (.cells #[.string (B t)] 9)) (.cells #[] 9); rwa [World.size_alloc] at h) (by omega)) (some ⟨g, 0, none⟩) o.length o.length (txtCells (o.take o.length)) (by rfl) (by simp [txtCells]; try omega) (fun h => (by cases h)) (HnT.out _ (by go_split_ands; assumption)) (txtCells_one _) (by unfold maxLen; omega) (by omega) (by first | (simp; done) | (simp; omega)) ?_; intro v5 w5 hown5 hgrow5 _; have hr5 : ∀ k, (Value.slice (some ⟨(wq.heap.size + 1), 0, none⟩) 0 0).ownBlock = some k → wq.heap.size ≤ k := (fun k e => (by simp [Value.ownBlock] at e; omega)); have hown5 : w5.ownsRow wq.heap.size 9 1 v5 o.length (txtCells (o.take o.length)) := (by simpa using hown5); have hsz5 : wq.heap.size ≤ w5.heap.size := (by have h := hgrow5.size; simp at h; omega))
                  | (refine step_append_any _ (by rfl) _ _ _ (by rfl) wq.heap.size 9 i0 _ 1 16 Tryd.underlying41 hi hz0 hz1 hz2 rfl (by decide) v5 o.length (txtCells (o.take o.length)) (by rfl) hown5 (some ⟨(wq.heap.size + 1), 0, none⟩) 1 1 [.string (B t)] (by rfl) (by rfl) (fun h => (by cases h)) (fun ad e => (by cases e; exact World.news_of_block (cs := #[.string (B t)]) (t := 9) (fr := (0, 0)) ((hgrow5.block (wq.heap.size + 1) (by first | (simp; done) | (simp; omega)) (by simp [Value.ownBlock])).trans (by have h := heap_alloc_new (wq.alloc (.cells #[] 9)) (.cells #[.string (B t)] 9); rwa [World.size_alloc] at h)))) (by simp [Value.oneCell']) (by unfold maxLen; omega) (by omega) (by first | exact hsz5 | (simp; omega)) ?_; intro v6 w6 hown6 hgrow6 _; have hsz6 : wq.heap.size ≤ w6.heap.size := (by have h := hgrow6.size; first | omega | (simp at h; omega)))
                  | (refine step_append_any _ (by rfl) _ _ _ (by rfl) wq.heap.size 9 i0 _ 1 16 Tryd.underlying41 hi hz0 hz1 hz2 rfl (by decide) v5 o.length (txtCells (o.take o.length)) (by rfl) hown5 (some ⟨wq.heap.size, 0, none⟩) 1 1 [.string (B t)] (by rfl) (by rfl) (fun h => (by cases h)) (fun ad e => (by cases e; exact World.news_of_block (cs := #[.string (B t)]) (t := 9) (fr := (0, 0)) ((hgrow5.block wq.heap.size (by first | (simp; done) | (simp; omega)) (by simp [Value.ownBlock])).trans ((heap_alloc_old (wq.alloc _) _ (by simp)).trans (heap_alloc_new wq _))))) (by simp [Value.oneCell']) (by unfold maxLen; omega) (by omega) (by first | exact hsz5 | (simp; omega)) ?_; intro v6 w6 hown6 hgrow6 _; have hsz6 : wq.heap.size ≤ w6.heap.size := (by have h := hgrow6.size; first | omega | (simp at h; omega)))
                  | (refine step_append_any _ (by rfl) _ _ _ (by rfl) wq.heap.size 9 i0 _ 1 16 Tryd.underlying41 hi hz0 hz1 hz2 rfl (by decide) v5 o.length (txtCells (o.take o.length)) (by rfl) (hown5.alloc _) (some ⟨w5.heap.size, 0, none⟩) 1 1 [.string (B t)] (by rfl) (by rfl) (fun h => (by cases h)) (fun ad e => (by cases e; exact World.news_of_block (cs := #[.string (B t)]) (t := 9) (fr := (0, 0)) (heap_alloc_new w5 _))) (by simp [Value.oneCell']) (by unfold maxLen; omega) (by omega) (by first | exact hsz5 | (simp; omega)) ?_; intro v6 w6 hown6 hgrow6 _; have hsz6 : wq.heap.size ≤ w6.heap.size := (by have h := hgrow6.size; first | omega | (simp at h; omega)))
                  | (refine step_append_any _ (by rfl) _ _ _ (by rfl) wq.heap.size 9 i0 _ 1 16 Tryd.underlying41 hi hz0 hz1 hz2 rfl (by decide) v6 (o.length + 1) (txtCells (o.take o.length) ++ [.string (B t)]) (by rfl) hown6 (some ⟨g, 0, none⟩) 0 0 (txtCells (o.drop o.length)) (by rfl) (by simp [txtCells]; try omega) (fun h => (by cases h)) (fun ad e i u hu => (by simp [txtCells] at hu)) (txtCells_one _) (by unfold maxLen; omega) (by omega) hsz6 ?_; intro v7 w7 hown7 hgrow7 _)
                  | fail)
              all_goals
                have hbw : Below wq.heap.size wq w7 := by go_split_ands; assumption
                have HB7 := Lib.hid (step_call (step_call Hbel.out Hbq.out) hbw)
                have Ho7 : Hid (w7.ownsRow w1.heap.size 9 1 v7 (insT o o.length t).length (txtCells (insT o o.length t))) := Lib.hid (by
                  have h := own_base hown7 (step_call Hbel.out Hbq.out).size
                  have e2 : txtCells (o.take o.length) ++ [.string (B t)] ++ txtCells (o.drop o.length) = txtCells (o.take o.length ++ t :: o.drop o.length) := by rw [txtCells_append]; simp [txtCells]
                  have e1 : o.length + 1 + 0 = (o.take o.length ++ t :: o.drop o.length).length := by simp; try omega
                  rw [hins.out, ← e1, ← e2]
                  exact h)
                clear hown5 hgrow5 hown6 hgrow6 hown7 hgrow7 hbw
                go_wp2
                go_roundw
                case rel => exact ⟨i + 1, insT o o.length t, by omega, by go_num, by rw [Hnext.out]; exact Hset.out.next Hat.out, Ho7.out, HB7.out⟩
                case measure => simp [intOf]; omega
            · have q1 : (0 : Int) ≤ (o.length : Int) := by omega
              have q2 : (o.length : Int) ≤ (lc : Int) := by omega
              have q5 : ¬ lc = o.length := hcl
              go_wp2
              go_quiet (fail)
              have Hbq := Lib.hid (below_to_drewN Hb2.out nq)
              have kq1 := cell_call Hbq.out K1.out
              clear k1
              generalize wr.drewN nq = wq1 at Hbq kq1 ⊢
              go_wp2
              go_quiet (fail)
              have Hbq := Lib.hid (below_to_drewN Hbq.out nq)
              have kq := cell_call Hbq.out K1.out
              clear kq1
              generalize wq1.drewN nq = wq at Hbq kq ⊢
              have Hq := Lib.hid (own_below Hown.out Hbq.out)
              have hbq : b < wq.heap.size := lt_of_cell kq
              go_wp2
              have HnT := Lib.hid (own_take_news Hq.out o.length)
              have HnD := Lib.hid (own_drop_news Hq.out o.length)
              go_region_held3 (fun w' => Below wq.heap.size wq w' ∧ w'.cell? ⟨b, off + i * 2, none⟩ = some (.string (B t)))
                (first
                  | exact h1_drew kq
                  | exact h1_new (by assumption) _
                  | exact h1_grown (by assumption) hgrow7 (fun k e => (hown6.lt k e).1) (by omega)
                  | exact h1_grown (by assumption) hgrow6 (fun k e => (hown5.lt k e).1) (by omega)
                  | exact h1_grown (by assumption) hgrow6 (fun k e => ((hown5.alloc _).lt k e).1) (by omega)
                  | exact h1_grown (by assumption) hgrow5 hr5 (by omega)
                  | assumption)
                (first
                  | (refine step_append_any _ (by rfl) _ _ _ (by rfl) wq.heap.size 9 i0 _ 1 16 Tryd.underlying41 hi hz0 hz1 hz2 rfl (by decide) (.slice (some ⟨wq.heap.size, 0, none⟩) 0 0) 0 [] (by rfl) (own_nil_new _ 1 (heap_alloc_new wq _) (by omega)) (some ⟨g, 0, none⟩) o.length lc (txtCells (o.take o.length)) (by rfl) (by simp [txtCells]; try omega) (fun h => (by cases h)) (HnT.out _ (by go_split_ands; assumption)) (txtCells_one _) (by unfold maxLen; omega) (by omega) (by first | (simp; done) | (simp; omega)) ?_; intro v5 w5 hown5 hgrow5 _; have hr5 : ∀ k, (Value.slice (some ⟨wq.heap.size, 0, none⟩) 0 0).ownBlock = some k → wq.heap.size ≤ k := (fun k e => (by simp [Value.ownBlock] at e; omega)); have hown5 : w5.ownsRow wq.heap.size 9 1 v5 o.length (txtCells (o.take o.length)) := (by simpa using hown5); have hsz5 : wq.heap.size ≤ w5.heap.size := (by have h := hgrow5.size; simp at h; omega))
                  | (refine step_append_any _ (by rfl) _ _ _ (by rfl) wq.heap.size 9 i0 _ 1 16 Tryd.underlying41 hi hz0 hz1 hz2 rfl (by decide) (.slice (some ⟨wq.heap.size, 0, none⟩) 0 0) 0 [] (by rfl) (own_nil_new _ 1 ((heap_alloc_old (wq.alloc _) _ (by simp)).trans (heap_alloc_new wq _)) (by omega)) (some ⟨g, 0, none⟩) o.length lc (txtCells (o.take o.length)) (by rfl) (by simp [txtCells]; try omega) (fun h => (by cases h)) (HnT.out _ (by go_split_ands; assumption)) (txtCells_one _) (by unfold maxLen; omega) (by omega) (by first | (simp; done) | (simp; omega)) ?_; intro v5 w5 hown5 hgrow5 _; have hr5 : ∀ k, (Value.slice (some ⟨wq.heap.size, 0, none⟩) 0 0).ownBlock = some k → wq.heap.size ≤ k := (fun k e => (by simp [Value.ownBlock] at e; omega)); have hown5 : w5.ownsRow wq.heap.size 9 1 v5 o.length (txtCells (o.take o.length)) := (by simpa using hown5); have hsz5 : wq.heap.size ≤ w5.heap.size := (by have h := hgrow5.size; simp at h; omega))
                  | (refine step_append_any _ (by rfl) _ _ _ (by rfl) wq.heap.size 9 i0 _ 1 16 Tryd.underlying41 hi hz0 hz1 hz2 rfl (by decide) (.slice (some ⟨(wq.heap.size + 1), 0, none⟩) 0 0) 0 [] (by rfl) (own_nil_new _ 1 (by have h := heap_alloc_new (wq.alloc (.cells #[.string (B t)] 9)) (.cells #[] 9); rwa [World.size_alloc] at h) (by omega)) (some ⟨g, 0, none⟩) o.length lc (txtCells (o.take o.length)) (by rfl) (by simp [txtCells]; try omega) (fun h => (by cases h)) (HnT.out _ (by go_split_ands; assumption)) (txtCells_one _) (by unfold maxLen; omega) (by omega) (by first | (simp; done) | (simp; omega)) ?_; intro v5 w5 hown5 hgrow5 _; have hr5 : ∀ k, (Value.slice (some ⟨(wq.heap.size + 1), 0, none⟩) 0 0).ownBlock = some k → wq.heap.size ≤ k := (fun k e => (by simp [Value.ownBlock] at e; omega)); have hown5 : w5.ownsRow wq.heap.size 9 1 v5 o.length (txtCells (o.take o.length)) := (by simpa using hown5); have hsz5 : wq.heap.size ≤ w5.heap.size := (by have h := hgrow5.size; simp at h; omega))
                  | (refine step_append_any _ (by rfl) _ _ _ (by rfl) wq.heap.size 9 i0 _ 1 16 Tryd.underlying41 hi hz0 hz1 hz2 rfl (by decide) v5 o.length (txtCells (o.take o.length)) (by rfl) hown5 (some ⟨(wq.heap.size + 1), 0, none⟩) 1 1 [.string (B t)] (by rfl) (by rfl) (fun h => (by cases h)) (fun ad e => (by cases e; exact World.news_of_block (cs := #[.string (B t)]) (t := 9) (fr := (0, 0)) ((hgrow5.block (wq.heap.size + 1) (by first | (simp; done) | (simp; omega)) (by simp [Value.ownBlock])).trans (by have h := heap_alloc_new (wq.alloc (.cells #[] 9)) (.cells #[.string (B t)] 9); rwa [World.size_alloc] at h)))) (by simp [Value.oneCell']) (by unfold maxLen; omega) (by omega) (by first | exact hsz5 | (simp; omega)) ?_; intro v6 w6 hown6 hgrow6 _; have hsz6 : wq.heap.size ≤ w6.heap.size := (by have h := hgrow6.size; first | omega | (simp at h; omega)))
                  | (refine step_append_any _ (by rfl) _ _ _ (by rfl) wq.heap.size 9 i0 _ 1 16 Tryd.underlying41 hi hz0 hz1 hz2 rfl (by decide) v5 o.length (txtCells (o.take o.length)) (by rfl) hown5 (some ⟨wq.heap.size, 0, none⟩) 1 1 [.string (B t)] (by rfl) (by rfl) (fun h => (by cases h)) (fun ad e => (by cases e; exact World.news_of_block (cs := #[.string (B t)]) (t := 9) (fr := (0, 0)) ((hgrow5.block wq.heap.size (by first | (simp; done) | (simp; omega)) (by simp [Value.ownBlock])).trans ((heap_alloc_old (wq.alloc _) _ (by simp)).trans (heap_alloc_new wq _))))) (by simp [Value.oneCell']) (by unfold maxLen; omega) (by omega) (by first | exact hsz5 | (simp; omega)) ?_; intro v6 w6 hown6 hgrow6 _; have hsz6 : wq.heap.size ≤ w6.heap.size := (by have h := hgrow6.size; first | omega | (simp at h; omega)))
                  | (refine step_append_any _ (by rfl) _ _ _ (by rfl) wq.heap.size 9 i0 _ 1 16 Tryd.underlying41 hi hz0 hz1 hz2 rfl (by decide) v5 o.length (txtCells (o.take o.length)) (by rfl) (hown5.alloc _) (some ⟨w5.heap.size, 0, none⟩) 1 1 [.string (B t)] (by rfl) (by rfl) (fun h => (by cases h)) (fun ad e => (by cases e; exact World.news_of_block (cs := #[.string (B t)]) (t := 9) (fr := (0, 0)) (heap_alloc_new w5 _))) (by simp [Value.oneCell']) (by unfold maxLen; omega) (by omega) (by first | exact hsz5 | (simp; omega)) ?_; intro v6 w6 hown6 hgrow6 _; have hsz6 : wq.heap.size ≤ w6.heap.size := (by have h := hgrow6.size; first | omega | (simp at h; omega)))
                  | (refine step_append_any _ (by rfl) _ _ _ (by rfl) wq.heap.size 9 i0 _ 1 16 Tryd.underlying41 hi hz0 hz1 hz2 rfl (by decide) v6 (o.length + 1) (txtCells (o.take o.length) ++ [.string (B t)]) (by rfl) hown6 (some ⟨g, o.length, none⟩) 0 (lc - o.length) (txtCells (o.drop o.length)) (by rfl) (by simp [txtCells]; try omega) (fun h => (by cases h)) (HnD.out _ (by go_split_ands; assumption)) (txtCells_one _) (by unfold maxLen; omega) (by omega) hsz6 ?_; intro v7 w7 hown7 hgrow7 _)
                  | fail)
              all_goals
                have hbw : Below wq.heap.size wq w7 := by go_split_ands; assumption
                have HB7 := Lib.hid (step_call (step_call Hbel.out Hbq.out) hbw)
                have Ho7 : Hid (w7.ownsRow w1.heap.size 9 1 v7 (insT o o.length t).length (txtCells (insT o o.length t))) := Lib.hid (by
                  have h := own_base hown7 (step_call Hbel.out Hbq.out).size
                  have e2 : txtCells (o.take o.length) ++ [.string (B t)] ++ txtCells (o.drop o.length) = txtCells (o.take o.length ++ t :: o.drop o.length) := by rw [txtCells_append]; simp [txtCells]
                  have e1 : o.length + 1 + 0 = (o.take o.length ++ t :: o.drop o.length).length := by simp; try omega
                  rw [hins.out, ← e1, ← e2]
                  exact h)
                clear hown5 hgrow5 hown6 hgrow6 hown7 hgrow7 hbw
                go_wp2
                go_roundw
                case rel => exact ⟨i + 1, insT o o.length t, by omega, by go_num, by rw [Hnext.out]; exact Hset.out.next Hat.out, Ho7.out, HB7.out⟩
                case measure => simp [intOf]; omega
    · obtain rfl : i = ts.length := by omega
      rw [List.take_length] at Hset
      obtain rfl := Hend.out _ Hset.out
      obtain ⟨la, lc, rfl⟩ := own_form hown
      have HB := Lib.hid (Hb1.out.trans (hbel.mono Hsz.out))
      have Ho := Lib.hid hown
      clear hown hbel hset
      go_wp2
      go_ret
      exact ⟨_, rfl, HB.out, own_base Ho.out Hsz.out⟩
end Go.Proofs.YtlfhgmclnapmjaaDoor
