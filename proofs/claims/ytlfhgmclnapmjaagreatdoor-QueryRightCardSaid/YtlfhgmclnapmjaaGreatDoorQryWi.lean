/- Chapter 17: codexref17.With: texts that rise, and one more. Conditions: the texts lie in a row of the caller's own. -/
import Derived.Test.YtlfhgmclnapmjaaGreatDoorTokG
import Derived.Test.YtlfhgmclnapmjaaGreatDoorQryTm
namespace Go.Proofs.YtlfhgmclnapmjaaGreatDoor
open Go.RowKit Go.Utf Go.Qry Go.Lib
attribute [local go_sem] Oper.semAt_some

theorem b_drew (w : World) : Below w.heap.size w w.drew ∧ w.heap.size ≤ w.drew.heap.size := ⟨below_drew w, Nat.le_refl _⟩
theorem b_new {W w : World} (h : Below W.heap.size W w ∧ W.heap.size ≤ w.heap.size) (o : Obj) : Below W.heap.size W (w.alloc o) ∧ W.heap.size ≤ (w.alloc o).heap.size := ⟨step_new h.1 o, (step_new h.1 o).size⟩
theorem b_grown {W w w' : World} {row : Option Nat} (h : Below W.heap.size W w ∧ W.heap.size ≤ w.heap.size) (hg : w.grownBy w' row) (hr : ∀ k, row = some k → W.heap.size ≤ k) : Below W.heap.size W w' ∧ W.heap.size ≤ w'.heap.size := ⟨h.1.grown hg h.1.size hr, (h.1.grown hg h.1.size hr).size⟩
set_option maxRecDepth 100000 in
set_option maxHeartbeats 6400000 in
theorem ref17_With (o : List Tx) (t : Tx) (v : Value) (base : Nat) (w : World) (hrise : o.Pairwise (· < ·)) (hol : o.length ≤ 1000000000000) (hown : w.ownsRow base 9 1 v o.length (txtCells o)) (hbase : base ≤ w.heap.size) :
    Calls Tryz.prog 29 #[v, .string (B t)] w fun e w' => ∃ v' o', e = .returned v' ∧ Below w.heap.size w w' ∧ o'.Pairwise (· < ·) ∧ (∀ x, x ∈ o' ↔ x ∈ o ∨ x = t) ∧ o'.length ≤ o.length + 1 ∧ w'.ownsRow base 9 1 v' o'.length (txtCells o') := by
  obtain ⟨i0, hi, hz0, hz1, hz2⟩ := info_parts infoStr
  obtain ⟨la, lc, rfl, hcl⟩ := txt_row (own_row hown)
  have Hcl := Lib.hid hcl
  have Hown := Lib.hid hown
  have Hrise := Lib.hid hrise
  clear hown hcl hrise
  go_enter Tryz.func29, Tryz.ntmps29
  go_wp2
  go_loopw [5] (fun kv wr => ∃ j : Nat, j ≤ o.length ∧ kv = .int .i64 j ∧ LtUp o j t ∧ Below w.heap.size w wr) (fun kv _ => o.length - (intOf kv).toNat)
  case atStart => exact ⟨0, by omega, rfl, fun _ _ h => absurd h (Nat.not_lt_zero _), Below.refl _ _⟩
  case round =>
    obtain ⟨j, hj, rfl, hlt, hb2⟩ := hrel
    have Hlt := Lib.hid hlt
    have Hb2 := Lib.hid hb2
    clear hlt
    by_cases hjo : j < o.length
    · obtain ⟨g, go, rfl, hg, hcap, kj⟩ := Hcl.out j hjo
      have kjo := kj
      have kj := cell_call hb2 kj
      have hg0 : decide ((j : Int) < (o.length : Int)) = true := by simp; omega
      have hj0 : (j : Int) < (o.length : Int) := by omega
      have Hkeep : Hid (LtUp o (j + 1) t ∨ ¬ o[j] < t) := Lib.hid (by
        by_cases h : o[j] < t
        · refine .inl fun m hm hmj => ?_
          by_cases e : m = j
          · subst e; exact h
          · exact Hlt.out m hm (by omega)
        · exact .inr h)
      have hls : Op.bytesLess (B o[j]).toList (B t).toList = decide (o[j] < t) := less_B _ _
      clear hb2
      by_cases hoj : o[j] < t
      · rw [decide_eq_true hoj] at hls
        have Hnx : Hid (LtUp o (j + 1) t) := Lib.hid (by
          rcases Hkeep.out with h | h
          · exact h
          · exact absurd hoj h)
        clear hoj
        generalize o[j] = x at kj hls
        go_wp2
        go_roundw
        case rel => exact ⟨j + 1, by omega, by go_num, Hnx.out, Hb2.out⟩
        case measure => simp [intOf]; omega
      · rw [decide_eq_false hoj] at hls
        have Hat : Hid (AtT o j t) := Lib.hid ⟨by omega, fun m hm hmj => Hlt.out m hm hmj, fun _ => hoj⟩
        clear hoj
        by_cases heq : o[j] = t
        · have Hmem : Hid (∀ x, x ∈ o ↔ x ∈ o ∨ x = t) := Lib.hid (fun x => ⟨.inl, fun h => by
            rcases h with h | h
            · exact h
            · rw [h, ← heq]; exact List.getElem_mem hjo⟩)
          rw [heq] at kj hls
          have he2 : ((B t).toList == (B t).toList) = true := by simp
          clear heq
          go_wp2
          go_ret
          exact ⟨_, o, rfl, Hb2.out, Hrise.out, Hmem.out, by omega, own_below Hown.out Hb2.out⟩
        · have hins : Hid (insT o j t = o.take j ++ t :: o.drop j) := Lib.hid (by
            unfold insT
            rw [if_pos]
            exact .inr (by rw [List.getElem?_eq_getElem hjo]; simpa using heq))
          have he2 : ((B o[j]).toList == (B t).toList) = false := by rw [toList_B, toList_B, beq_eq_false_iff_ne]; exact heq
          have q1 : (0 : Int) ≤ (j : Int) := by omega
          have q2 : (j : Int) ≤ (lc : Int) := by omega
          have q3 : (o.length : Int) ≤ (lc : Int) := by omega
          have q4 : (j : Int) ≤ (o.length : Int) := by omega
          have q5 : ¬ lc = j := by omega
          clear heq
          generalize o[j] = x at kj kjo hls he2
          obtain rfl : go = 0 := by
            rcases own_cases Hown.out with ⟨h, _⟩ | ⟨g', h, _⟩
            · cases h
            · cases h; rfl
          rw [Nat.zero_add] at kj kjo
          have Hq := Lib.hid (own_below Hown.out Hb2.out)
          go_wp2
          have HnT := Lib.hid (own_take_news Hq.out j)
          have HnD := Lib.hid (own_drop_news Hq.out j)
          go_region_held3 (fun w' => Below wr.heap.size wr w' ∧ wr.heap.size ≤ w'.heap.size)
            (first
              | exact b_drew wr
              | exact b_new (by assumption) _
              | exact b_grown (by assumption) hgrow7 (fun k e => (hown6.lt k e).1)
              | exact b_grown (by assumption) hgrow6 (fun k e => (hown5.lt k e).1)
              | exact b_grown (by assumption) hgrow6 (fun k e => ((hown5.alloc _).lt k e).1)
              | exact b_grown (by assumption) hgrow5 hr5
              | assumption)
            (first
              | (refine step_append_any _ (by rfl) _ _ _ (by rfl) wr.heap.size 9 i0 _ 1 16 Tryz.underlying34 hi hz0 hz1 hz2 rfl (by decide) (.slice (some ⟨wr.heap.size, 0, none⟩) 0 0) 0 [] (by rfl) (own_nil_new _ 1 (heap_alloc_new wr _) (by omega)) (some ⟨g, 0, none⟩) j lc (txtCells (o.take j)) (by rfl) (by simp [txtCells]; try omega) (fun h => (by cases h)) (HnT.out _ (by go_split_ands; assumption)) (txtCells_one _) (by unfold maxLen; omega) (by omega) (by first | (simp; done) | (simp; omega)) ?_; intro v5 w5 hown5 hgrow5 _; have hr5 : ∀ k, (Value.slice (some ⟨wr.heap.size, 0, none⟩) 0 0).ownBlock = some k → wr.heap.size ≤ k := (fun k e => (by simp [Value.ownBlock] at e; omega)); have hown5 : w5.ownsRow wr.heap.size 9 1 v5 j (txtCells (o.take j)) := (by simpa using hown5); have hsz5 : wr.heap.size ≤ w5.heap.size := (by have h := hgrow5.size; simp at h; omega))
              | (refine step_append_any _ (by rfl) _ _ _ (by rfl) wr.heap.size 9 i0 _ 1 16 Tryz.underlying34 hi hz0 hz1 hz2 rfl (by decide) (.slice (some ⟨wr.heap.size, 0, none⟩) 0 0) 0 [] (by rfl) (own_nil_new _ 1 ((heap_alloc_old (wr.alloc _) _ (by simp)).trans (heap_alloc_new wr _)) (by omega)) (some ⟨g, 0, none⟩) j lc (txtCells (o.take j)) (by rfl) (by simp [txtCells]; try omega) (fun h => (by cases h)) (HnT.out _ (by go_split_ands; assumption)) (txtCells_one _) (by unfold maxLen; omega) (by omega) (by first | (simp; done) | (simp; omega)) ?_; intro v5 w5 hown5 hgrow5 _; have hr5 : ∀ k, (Value.slice (some ⟨wr.heap.size, 0, none⟩) 0 0).ownBlock = some k → wr.heap.size ≤ k := (fun k e => (by simp [Value.ownBlock] at e; omega)); have hown5 : w5.ownsRow wr.heap.size 9 1 v5 j (txtCells (o.take j)) := (by simpa using hown5); have hsz5 : wr.heap.size ≤ w5.heap.size := (by have h := hgrow5.size; simp at h; omega))
              | (refine step_append_any _ (by rfl) _ _ _ (by rfl) wr.heap.size 9 i0 _ 1 16 Tryz.underlying34 hi hz0 hz1 hz2 rfl (by decide) (.slice (some ⟨(wr.heap.size + 1), 0, none⟩) 0 0) 0 [] (by rfl) (own_nil_new _ 1 (by have h := heap_alloc_new (wr.alloc (.cells #[.string (B t)] 9)) (.cells #[] 9); rwa [World.size_alloc] at h) (by omega)) (some ⟨g, 0, none⟩) j lc (txtCells (o.take j)) (by rfl) (by simp [txtCells]; try omega) (fun h => (by cases h)) (HnT.out _ (by go_split_ands; assumption)) (txtCells_one _) (by unfold maxLen; omega) (by omega) (by first | (simp; done) | (simp; omega)) ?_; intro v5 w5 hown5 hgrow5 _; have hr5 : ∀ k, (Value.slice (some ⟨(wr.heap.size + 1), 0, none⟩) 0 0).ownBlock = some k → wr.heap.size ≤ k := (fun k e => (by simp [Value.ownBlock] at e; omega)); have hown5 : w5.ownsRow wr.heap.size 9 1 v5 j (txtCells (o.take j)) := (by simpa using hown5); have hsz5 : wr.heap.size ≤ w5.heap.size := (by have h := hgrow5.size; simp at h; omega))
              | (refine step_append_any _ (by rfl) _ _ _ (by rfl) wr.heap.size 9 i0 _ 1 16 Tryz.underlying34 hi hz0 hz1 hz2 rfl (by decide) v5 j (txtCells (o.take j)) (by rfl) hown5 (some ⟨(wr.heap.size + 1), 0, none⟩) 1 1 [.string (B t)] (by rfl) (by rfl) (fun h => (by cases h)) (fun ad e => (by cases e; exact World.news_of_block (cs := #[.string (B t)]) (t := 9) (fr := (0, 0)) ((hgrow5.block (wr.heap.size + 1) (by first | (simp; done) | (simp; omega)) (by simp [Value.ownBlock])).trans (by have h := heap_alloc_new (wr.alloc (.cells #[] 9)) (.cells #[.string (B t)] 9); rwa [World.size_alloc] at h)))) (by simp [Value.oneCell']) (by unfold maxLen; omega) (by omega) (by first | exact hsz5 | (simp; omega)) ?_; intro v6 w6 hown6 hgrow6 _; have hsz6 : wr.heap.size ≤ w6.heap.size := (by have h := hgrow6.size; first | omega | (simp at h; omega)))
              | (refine step_append_any _ (by rfl) _ _ _ (by rfl) wr.heap.size 9 i0 _ 1 16 Tryz.underlying34 hi hz0 hz1 hz2 rfl (by decide) v5 j (txtCells (o.take j)) (by rfl) hown5 (some ⟨wr.heap.size, 0, none⟩) 1 1 [.string (B t)] (by rfl) (by rfl) (fun h => (by cases h)) (fun ad e => (by cases e; exact World.news_of_block (cs := #[.string (B t)]) (t := 9) (fr := (0, 0)) ((hgrow5.block wr.heap.size (by first | (simp; done) | (simp; omega)) (by simp [Value.ownBlock])).trans ((heap_alloc_old (wr.alloc _) _ (by simp)).trans (heap_alloc_new wr _))))) (by simp [Value.oneCell']) (by unfold maxLen; omega) (by omega) (by first | exact hsz5 | (simp; omega)) ?_; intro v6 w6 hown6 hgrow6 _; have hsz6 : wr.heap.size ≤ w6.heap.size := (by have h := hgrow6.size; first | omega | (simp at h; omega)))
              | (refine step_append_any _ (by rfl) _ _ _ (by rfl) wr.heap.size 9 i0 _ 1 16 Tryz.underlying34 hi hz0 hz1 hz2 rfl (by decide) v5 j (txtCells (o.take j)) (by rfl) (hown5.alloc _) (some ⟨w5.heap.size, 0, none⟩) 1 1 [.string (B t)] (by rfl) (by rfl) (fun h => (by cases h)) (fun ad e => (by cases e; exact World.news_of_block (cs := #[.string (B t)]) (t := 9) (fr := (0, 0)) (heap_alloc_new w5 _))) (by simp [Value.oneCell']) (by unfold maxLen; omega) (by omega) (by first | exact hsz5 | (simp; omega)) ?_; intro v6 w6 hown6 hgrow6 _; have hsz6 : wr.heap.size ≤ w6.heap.size := (by have h := hgrow6.size; first | omega | (simp at h; omega)))
              | (refine step_append_any _ (by rfl) _ _ _ (by rfl) wr.heap.size 9 i0 _ 1 16 Tryz.underlying34 hi hz0 hz1 hz2 rfl (by decide) v6 (j + 1) (txtCells (o.take j) ++ [.string (B t)]) (by rfl) hown6 (some ⟨g, j, none⟩) (o.length - j) (lc - j) (txtCells (o.drop j)) (by rfl) (by simp [txtCells]; try omega) (fun h => (by cases h)) (HnD.out _ (by go_split_ands; assumption)) (txtCells_one _) (by unfold maxLen; omega) (by omega) hsz6 ?_; intro v7 w7 hown7 hgrow7 _)
              | fail)
          all_goals
            have hbw : Below wr.heap.size wr w7 := by go_split_ands; assumption
            have HB7 := Lib.hid (step_call Hb2.out hbw)
            have Ho7 : Hid (w7.ownsRow base 9 1 v7 (insT o j t).length (txtCells (insT o j t))) := Lib.hid (by
              have h := own_base hown7 (Nat.le_trans hbase Hb2.out.size)
              have e2 : txtCells (o.take j) ++ [.string (B t)] ++ txtCells (o.drop j) = txtCells (o.take j ++ t :: o.drop j) := by rw [txtCells_append]; simp [txtCells]
              have e1 : j + 1 + (o.length - j) = (o.take j ++ t :: o.drop j).length := by simp; try omega
              rw [hins.out, ← e1, ← e2]
              exact h)
            clear hown5 hgrow5 hown6 hgrow6 hown7 hgrow7 hbw
            have Hok := insT_ok Hrise.out Hat.out
            have Hln := insT_length o j t
            go_wp2
            go_ret
            exact ⟨_, insT o j t, rfl, HB7.out, Hok.1, Hok.2, Hln, Ho7.out⟩
    · obtain rfl : j = o.length := by omega
      have Hat : Hid (AtT o o.length t) := Lib.hid ⟨by omega, fun m hm hmj => Hlt.out m hm hmj, fun h => absurd h (Nat.lt_irrefl _)⟩
      have hg0 : decide ((o.length : Int) < (o.length : Int)) = false := by simp
      have hins : Hid (insT o o.length t = o.take o.length ++ t :: o.drop o.length) := Lib.hid (by
        unfold insT
        rw [if_pos]
        exact .inl rfl)
      clear hb2
      rcases own_cases Hown.out with ⟨rfl, h0, rfl⟩ | ⟨g, rfl, hcap⟩
      · obtain rfl : o = [] := List.eq_nil_of_length_eq_zero h0
        clear h0 hins
        have hins : Hid (insT [] 0 t = ([] : List Tx).take 0 ++ t :: ([] : List Tx).drop 0) := Lib.hid (by unfold insT; rw [if_pos (.inl rfl)])
        have Hq := Lib.hid (own_below Hown.out Hb2.out)
        go_wp2
        go_region_held3 (fun w' => Below wr.heap.size wr w' ∧ wr.heap.size ≤ w'.heap.size)
          (first
            | exact b_drew wr
            | exact b_new (by assumption) _
            | exact b_grown (by assumption) hgrow7 (fun k e => (hown6.lt k e).1)
            | exact b_grown (by assumption) hgrow6 (fun k e => (hown5.lt k e).1)
            | exact b_grown (by assumption) hgrow6 (fun k e => ((hown5.alloc _).lt k e).1)
            | exact b_grown (by assumption) hgrow5 hr5
            | assumption)
          (first
            | (refine step_append_any _ (by rfl) _ _ _ (by rfl) wr.heap.size 9 i0 _ 1 16 Tryz.underlying34 hi hz0 hz1 hz2 rfl (by decide) (.slice (some ⟨wr.heap.size, 0, none⟩) 0 0) 0 [] (by rfl) (own_nil_new _ 1 (heap_alloc_new wr _) (by omega)) none 0 0 (txtCells (([] : List Tx).take 0)) (by rfl) (by simp [txtCells]; try omega) (fun _ => ⟨rfl, rfl⟩) (fun ad e => (by cases e)) (txtCells_one _) (by unfold maxLen; omega) (by omega) (by first | (simp; done) | (simp; omega)) ?_; intro v5 w5 hown5 hgrow5 _; have hr5 : ∀ k, (Value.slice (some ⟨wr.heap.size, 0, none⟩) 0 0).ownBlock = some k → wr.heap.size ≤ k := (fun k e => (by simp [Value.ownBlock] at e; omega)); have hown5 : w5.ownsRow wr.heap.size 9 1 v5 0 (txtCells (([] : List Tx).take 0)) := (by simpa using hown5); have hsz5 : wr.heap.size ≤ w5.heap.size := (by have h := hgrow5.size; simp at h; omega))
            | (refine step_append_any _ (by rfl) _ _ _ (by rfl) wr.heap.size 9 i0 _ 1 16 Tryz.underlying34 hi hz0 hz1 hz2 rfl (by decide) (.slice (some ⟨wr.heap.size, 0, none⟩) 0 0) 0 [] (by rfl) (own_nil_new _ 1 ((heap_alloc_old (wr.alloc _) _ (by simp)).trans (heap_alloc_new wr _)) (by omega)) none 0 0 (txtCells (([] : List Tx).take 0)) (by rfl) (by simp [txtCells]; try omega) (fun _ => ⟨rfl, rfl⟩) (fun ad e => (by cases e)) (txtCells_one _) (by unfold maxLen; omega) (by omega) (by first | (simp; done) | (simp; omega)) ?_; intro v5 w5 hown5 hgrow5 _; have hr5 : ∀ k, (Value.slice (some ⟨wr.heap.size, 0, none⟩) 0 0).ownBlock = some k → wr.heap.size ≤ k := (fun k e => (by simp [Value.ownBlock] at e; omega)); have hown5 : w5.ownsRow wr.heap.size 9 1 v5 0 (txtCells (([] : List Tx).take 0)) := (by simpa using hown5); have hsz5 : wr.heap.size ≤ w5.heap.size := (by have h := hgrow5.size; simp at h; omega))
            | (refine step_append_any _ (by rfl) _ _ _ (by rfl) wr.heap.size 9 i0 _ 1 16 Tryz.underlying34 hi hz0 hz1 hz2 rfl (by decide) (.slice (some ⟨(wr.heap.size + 1), 0, none⟩) 0 0) 0 [] (by rfl) (own_nil_new _ 1 (by have h := heap_alloc_new (wr.alloc (.cells #[.string (B t)] 9)) (.cells #[] 9); rwa [World.size_alloc] at h) (by omega)) none 0 0 (txtCells (([] : List Tx).take 0)) (by rfl) (by simp [txtCells]; try omega) (fun _ => ⟨rfl, rfl⟩) (fun ad e => (by cases e)) (txtCells_one _) (by unfold maxLen; omega) (by omega) (by first | (simp; done) | (simp; omega)) ?_; intro v5 w5 hown5 hgrow5 _; have hr5 : ∀ k, (Value.slice (some ⟨(wr.heap.size + 1), 0, none⟩) 0 0).ownBlock = some k → wr.heap.size ≤ k := (fun k e => (by simp [Value.ownBlock] at e; omega)); have hown5 : w5.ownsRow wr.heap.size 9 1 v5 0 (txtCells (([] : List Tx).take 0)) := (by simpa using hown5); have hsz5 : wr.heap.size ≤ w5.heap.size := (by have h := hgrow5.size; simp at h; omega))
            | (refine step_append_any _ (by rfl) _ _ _ (by rfl) wr.heap.size 9 i0 _ 1 16 Tryz.underlying34 hi hz0 hz1 hz2 rfl (by decide) v5 0 (txtCells (([] : List Tx).take 0)) (by rfl) hown5 (some ⟨(wr.heap.size + 1), 0, none⟩) 1 1 [.string (B t)] (by rfl) (by rfl) (fun h => (by cases h)) (fun ad e => (by cases e; exact World.news_of_block (cs := #[.string (B t)]) (t := 9) (fr := (0, 0)) ((hgrow5.block (wr.heap.size + 1) (by first | (simp; done) | (simp; omega)) (by simp [Value.ownBlock])).trans (by have h := heap_alloc_new (wr.alloc (.cells #[] 9)) (.cells #[.string (B t)] 9); rwa [World.size_alloc] at h)))) (by simp [Value.oneCell']) (by unfold maxLen; omega) (by omega) (by first | exact hsz5 | (simp; omega)) ?_; intro v6 w6 hown6 hgrow6 _; have hsz6 : wr.heap.size ≤ w6.heap.size := (by have h := hgrow6.size; first | omega | (simp at h; omega)))
            | (refine step_append_any _ (by rfl) _ _ _ (by rfl) wr.heap.size 9 i0 _ 1 16 Tryz.underlying34 hi hz0 hz1 hz2 rfl (by decide) v5 0 (txtCells (([] : List Tx).take 0)) (by rfl) hown5 (some ⟨wr.heap.size, 0, none⟩) 1 1 [.string (B t)] (by rfl) (by rfl) (fun h => (by cases h)) (fun ad e => (by cases e; exact World.news_of_block (cs := #[.string (B t)]) (t := 9) (fr := (0, 0)) ((hgrow5.block wr.heap.size (by first | (simp; done) | (simp; omega)) (by simp [Value.ownBlock])).trans ((heap_alloc_old (wr.alloc _) _ (by simp)).trans (heap_alloc_new wr _))))) (by simp [Value.oneCell']) (by unfold maxLen; omega) (by omega) (by first | exact hsz5 | (simp; omega)) ?_; intro v6 w6 hown6 hgrow6 _; have hsz6 : wr.heap.size ≤ w6.heap.size := (by have h := hgrow6.size; first | omega | (simp at h; omega)))
            | (refine step_append_any _ (by rfl) _ _ _ (by rfl) wr.heap.size 9 i0 _ 1 16 Tryz.underlying34 hi hz0 hz1 hz2 rfl (by decide) v5 0 (txtCells (([] : List Tx).take 0)) (by rfl) (hown5.alloc _) (some ⟨w5.heap.size, 0, none⟩) 1 1 [.string (B t)] (by rfl) (by rfl) (fun h => (by cases h)) (fun ad e => (by cases e; exact World.news_of_block (cs := #[.string (B t)]) (t := 9) (fr := (0, 0)) (heap_alloc_new w5 _))) (by simp [Value.oneCell']) (by unfold maxLen; omega) (by omega) (by first | exact hsz5 | (simp; omega)) ?_; intro v6 w6 hown6 hgrow6 _; have hsz6 : wr.heap.size ≤ w6.heap.size := (by have h := hgrow6.size; first | omega | (simp at h; omega)))
            | (refine step_append_any _ (by rfl) _ _ _ (by rfl) wr.heap.size 9 i0 _ 1 16 Tryz.underlying34 hi hz0 hz1 hz2 rfl (by decide) v6 (0 + 1) (txtCells (([] : List Tx).take 0) ++ [.string (B t)]) (by rfl) hown6 none 0 0 (txtCells (([] : List Tx).drop 0)) (by rfl) (by simp [txtCells]; try omega) (fun _ => ⟨rfl, rfl⟩) (fun ad e => (by cases e)) (txtCells_one _) (by unfold maxLen; omega) (by omega) hsz6 ?_; intro v7 w7 hown7 hgrow7 _)
            | fail)
        all_goals
          have hbw : Below wr.heap.size wr w7 := by go_split_ands; assumption
          have HB7 := Lib.hid (step_call Hb2.out hbw)
          have Ho7 : Hid (w7.ownsRow base 9 1 v7 (insT [] 0 t).length (txtCells (insT [] 0 t))) := Lib.hid (by
            have h := own_base hown7 (Nat.le_trans hbase Hb2.out.size)
            have e2 : txtCells (([] : List Tx).take 0) ++ [.string (B t)] ++ txtCells (([] : List Tx).drop 0) = txtCells (([] : List Tx).take 0 ++ t :: ([] : List Tx).drop 0) := by rw [txtCells_append]; simp [txtCells]
            have e1 : 0 + 1 + 0 = (([] : List Tx).take 0 ++ t :: ([] : List Tx).drop 0).length := by simp; try omega
            rw [hins.out, ← e1, ← e2]
            exact h)
          clear hown5 hgrow5 hown6 hgrow6 hown7 hgrow7 hbw
          have Hok := insT_ok Hrise.out Hat.out
          have Hln := insT_length [] 0 t
          go_wp2
          go_ret
          exact ⟨_, insT [] 0 t, rfl, HB7.out, Hok.1, Hok.2, Hln, Ho7.out⟩
      · by_cases hcl : lc = o.length
        · subst hcl
          have q1 : (0 : Int) ≤ (o.length : Int) := by omega
          have Hq := Lib.hid (own_below Hown.out Hb2.out)
          go_wp2
          have HnT := Lib.hid (own_take_news Hq.out o.length)
          have HnD := Lib.hid (own_drop_news Hq.out o.length)
          go_region_held3 (fun w' => Below wr.heap.size wr w' ∧ wr.heap.size ≤ w'.heap.size)
            (first
              | exact b_drew wr
              | exact b_new (by assumption) _
              | exact b_grown (by assumption) hgrow7 (fun k e => (hown6.lt k e).1)
              | exact b_grown (by assumption) hgrow6 (fun k e => (hown5.lt k e).1)
              | exact b_grown (by assumption) hgrow6 (fun k e => ((hown5.alloc _).lt k e).1)
              | exact b_grown (by assumption) hgrow5 hr5
              | assumption)
            (first
              | (refine step_append_any _ (by rfl) _ _ _ (by rfl) wr.heap.size 9 i0 _ 1 16 Tryz.underlying34 hi hz0 hz1 hz2 rfl (by decide) (.slice (some ⟨wr.heap.size, 0, none⟩) 0 0) 0 [] (by rfl) (own_nil_new _ 1 (heap_alloc_new wr _) (by omega)) (some ⟨g, 0, none⟩) o.length o.length (txtCells (o.take o.length)) (by rfl) (by simp [txtCells]; try omega) (fun h => (by cases h)) (HnT.out _ (by go_split_ands; assumption)) (txtCells_one _) (by unfold maxLen; omega) (by omega) (by first | (simp; done) | (simp; omega)) ?_; intro v5 w5 hown5 hgrow5 _; have hr5 : ∀ k, (Value.slice (some ⟨wr.heap.size, 0, none⟩) 0 0).ownBlock = some k → wr.heap.size ≤ k := (fun k e => (by simp [Value.ownBlock] at e; omega)); have hown5 : w5.ownsRow wr.heap.size 9 1 v5 o.length (txtCells (o.take o.length)) := (by simpa using hown5); have hsz5 : wr.heap.size ≤ w5.heap.size := (by have h := hgrow5.size; simp at h; omega))
              | (refine step_append_any _ (by rfl) _ _ _ (by rfl) wr.heap.size 9 i0 _ 1 16 Tryz.underlying34 hi hz0 hz1 hz2 rfl (by decide) (.slice (some ⟨wr.heap.size, 0, none⟩) 0 0) 0 [] (by rfl) (own_nil_new _ 1 ((heap_alloc_old (wr.alloc _) _ (by simp)).trans (heap_alloc_new wr _)) (by omega)) (some ⟨g, 0, none⟩) o.length o.length (txtCells (o.take o.length)) (by rfl) (by simp [txtCells]; try omega) (fun h => (by cases h)) (HnT.out _ (by go_split_ands; assumption)) (txtCells_one _) (by unfold maxLen; omega) (by omega) (by first | (simp; done) | (simp; omega)) ?_; intro v5 w5 hown5 hgrow5 _; have hr5 : ∀ k, (Value.slice (some ⟨wr.heap.size, 0, none⟩) 0 0).ownBlock = some k → wr.heap.size ≤ k := (fun k e => (by simp [Value.ownBlock] at e; omega)); have hown5 : w5.ownsRow wr.heap.size 9 1 v5 o.length (txtCells (o.take o.length)) := (by simpa using hown5); have hsz5 : wr.heap.size ≤ w5.heap.size := (by have h := hgrow5.size; simp at h; omega))
              | (refine step_append_any _ (by rfl) _ _ _ (by rfl) wr.heap.size 9 i0 _ 1 16 Tryz.underlying34 hi hz0 hz1 hz2 rfl (by decide) (.slice (some ⟨(wr.heap.size + 1), 0, none⟩) 0 0) 0 [] (by rfl) (own_nil_new _ 1 (by have h := heap_alloc_new (wr.alloc (.cells #[.string (B t)] 9)) (.cells #[] 9); rwa [World.size_alloc] at h) (by omega)) (some ⟨g, 0, none⟩) o.length o.length (txtCells (o.take o.length)) (by rfl) (by simp [txtCells]; try omega) (fun h => (by cases h)) (HnT.out _ (by go_split_ands; assumption)) (txtCells_one _) (by unfold maxLen; omega) (by omega) (by first | (simp; done) | (simp; omega)) ?_; intro v5 w5 hown5 hgrow5 _; have hr5 : ∀ k, (Value.slice (some ⟨(wr.heap.size + 1), 0, none⟩) 0 0).ownBlock = some k → wr.heap.size ≤ k := (fun k e => (by simp [Value.ownBlock] at e; omega)); have hown5 : w5.ownsRow wr.heap.size 9 1 v5 o.length (txtCells (o.take o.length)) := (by simpa using hown5); have hsz5 : wr.heap.size ≤ w5.heap.size := (by have h := hgrow5.size; simp at h; omega))
              | (refine step_append_any _ (by rfl) _ _ _ (by rfl) wr.heap.size 9 i0 _ 1 16 Tryz.underlying34 hi hz0 hz1 hz2 rfl (by decide) v5 o.length (txtCells (o.take o.length)) (by rfl) hown5 (some ⟨(wr.heap.size + 1), 0, none⟩) 1 1 [.string (B t)] (by rfl) (by rfl) (fun h => (by cases h)) (fun ad e => (by cases e; exact World.news_of_block (cs := #[.string (B t)]) (t := 9) (fr := (0, 0)) ((hgrow5.block (wr.heap.size + 1) (by first | (simp; done) | (simp; omega)) (by simp [Value.ownBlock])).trans (by have h := heap_alloc_new (wr.alloc (.cells #[] 9)) (.cells #[.string (B t)] 9); rwa [World.size_alloc] at h)))) (by simp [Value.oneCell']) (by unfold maxLen; omega) (by omega) (by first | exact hsz5 | (simp; omega)) ?_; intro v6 w6 hown6 hgrow6 _; have hsz6 : wr.heap.size ≤ w6.heap.size := (by have h := hgrow6.size; first | omega | (simp at h; omega)))
              | (refine step_append_any _ (by rfl) _ _ _ (by rfl) wr.heap.size 9 i0 _ 1 16 Tryz.underlying34 hi hz0 hz1 hz2 rfl (by decide) v5 o.length (txtCells (o.take o.length)) (by rfl) hown5 (some ⟨wr.heap.size, 0, none⟩) 1 1 [.string (B t)] (by rfl) (by rfl) (fun h => (by cases h)) (fun ad e => (by cases e; exact World.news_of_block (cs := #[.string (B t)]) (t := 9) (fr := (0, 0)) ((hgrow5.block wr.heap.size (by first | (simp; done) | (simp; omega)) (by simp [Value.ownBlock])).trans ((heap_alloc_old (wr.alloc _) _ (by simp)).trans (heap_alloc_new wr _))))) (by simp [Value.oneCell']) (by unfold maxLen; omega) (by omega) (by first | exact hsz5 | (simp; omega)) ?_; intro v6 w6 hown6 hgrow6 _; have hsz6 : wr.heap.size ≤ w6.heap.size := (by have h := hgrow6.size; first | omega | (simp at h; omega)))
              | (refine step_append_any _ (by rfl) _ _ _ (by rfl) wr.heap.size 9 i0 _ 1 16 Tryz.underlying34 hi hz0 hz1 hz2 rfl (by decide) v5 o.length (txtCells (o.take o.length)) (by rfl) (hown5.alloc _) (some ⟨w5.heap.size, 0, none⟩) 1 1 [.string (B t)] (by rfl) (by rfl) (fun h => (by cases h)) (fun ad e => (by cases e; exact World.news_of_block (cs := #[.string (B t)]) (t := 9) (fr := (0, 0)) (heap_alloc_new w5 _))) (by simp [Value.oneCell']) (by unfold maxLen; omega) (by omega) (by first | exact hsz5 | (simp; omega)) ?_; intro v6 w6 hown6 hgrow6 _; have hsz6 : wr.heap.size ≤ w6.heap.size := (by have h := hgrow6.size; first | omega | (simp at h; omega)))
              | (refine step_append_any _ (by rfl) _ _ _ (by rfl) wr.heap.size 9 i0 _ 1 16 Tryz.underlying34 hi hz0 hz1 hz2 rfl (by decide) v6 (o.length + 1) (txtCells (o.take o.length) ++ [.string (B t)]) (by rfl) hown6 (some ⟨g, 0, none⟩) 0 0 (txtCells (o.drop o.length)) (by rfl) (by simp [txtCells]; try omega) (fun h => (by cases h)) (fun ad e i u hu => (by simp [txtCells] at hu)) (txtCells_one _) (by unfold maxLen; omega) (by omega) hsz6 ?_; intro v7 w7 hown7 hgrow7 _)
              | fail)
          all_goals
            have hbw : Below wr.heap.size wr w7 := by go_split_ands; assumption
            have HB7 := Lib.hid (step_call Hb2.out hbw)
            have Ho7 : Hid (w7.ownsRow base 9 1 v7 (insT o o.length t).length (txtCells (insT o o.length t))) := Lib.hid (by
              have h := own_base hown7 (Nat.le_trans hbase Hb2.out.size)
              have e2 : txtCells (o.take o.length) ++ [.string (B t)] ++ txtCells (o.drop o.length) = txtCells (o.take o.length ++ t :: o.drop o.length) := by rw [txtCells_append]; simp [txtCells]
              have e1 : o.length + 1 + 0 = (o.take o.length ++ t :: o.drop o.length).length := by simp; try omega
              rw [hins.out, ← e1, ← e2]
              exact h)
            clear hown5 hgrow5 hown6 hgrow6 hown7 hgrow7 hbw
            have Hok := insT_ok Hrise.out Hat.out
            have Hln := insT_length o o.length t
            go_wp2
            go_ret
            exact ⟨_, insT o o.length t, rfl, HB7.out, Hok.1, Hok.2, Hln, Ho7.out⟩
        · have q1 : (0 : Int) ≤ (o.length : Int) := by omega
          have q2 : (o.length : Int) ≤ (lc : Int) := by omega
          have q5 : ¬ lc = o.length := hcl
          have Hq := Lib.hid (own_below Hown.out Hb2.out)
          go_wp2
          have HnT := Lib.hid (own_take_news Hq.out o.length)
          have HnD := Lib.hid (own_drop_news Hq.out o.length)
          go_region_held3 (fun w' => Below wr.heap.size wr w' ∧ wr.heap.size ≤ w'.heap.size)
            (first
              | exact b_drew wr
              | exact b_new (by assumption) _
              | exact b_grown (by assumption) hgrow7 (fun k e => (hown6.lt k e).1)
              | exact b_grown (by assumption) hgrow6 (fun k e => (hown5.lt k e).1)
              | exact b_grown (by assumption) hgrow6 (fun k e => ((hown5.alloc _).lt k e).1)
              | exact b_grown (by assumption) hgrow5 hr5
              | assumption)
            (first
              | (refine step_append_any _ (by rfl) _ _ _ (by rfl) wr.heap.size 9 i0 _ 1 16 Tryz.underlying34 hi hz0 hz1 hz2 rfl (by decide) (.slice (some ⟨wr.heap.size, 0, none⟩) 0 0) 0 [] (by rfl) (own_nil_new _ 1 (heap_alloc_new wr _) (by omega)) (some ⟨g, 0, none⟩) o.length lc (txtCells (o.take o.length)) (by rfl) (by simp [txtCells]; try omega) (fun h => (by cases h)) (HnT.out _ (by go_split_ands; assumption)) (txtCells_one _) (by unfold maxLen; omega) (by omega) (by first | (simp; done) | (simp; omega)) ?_; intro v5 w5 hown5 hgrow5 _; have hr5 : ∀ k, (Value.slice (some ⟨wr.heap.size, 0, none⟩) 0 0).ownBlock = some k → wr.heap.size ≤ k := (fun k e => (by simp [Value.ownBlock] at e; omega)); have hown5 : w5.ownsRow wr.heap.size 9 1 v5 o.length (txtCells (o.take o.length)) := (by simpa using hown5); have hsz5 : wr.heap.size ≤ w5.heap.size := (by have h := hgrow5.size; simp at h; omega))
              | (refine step_append_any _ (by rfl) _ _ _ (by rfl) wr.heap.size 9 i0 _ 1 16 Tryz.underlying34 hi hz0 hz1 hz2 rfl (by decide) (.slice (some ⟨wr.heap.size, 0, none⟩) 0 0) 0 [] (by rfl) (own_nil_new _ 1 ((heap_alloc_old (wr.alloc _) _ (by simp)).trans (heap_alloc_new wr _)) (by omega)) (some ⟨g, 0, none⟩) o.length lc (txtCells (o.take o.length)) (by rfl) (by simp [txtCells]; try omega) (fun h => (by cases h)) (HnT.out _ (by go_split_ands; assumption)) (txtCells_one _) (by unfold maxLen; omega) (by omega) (by first | (simp; done) | (simp; omega)) ?_; intro v5 w5 hown5 hgrow5 _; have hr5 : ∀ k, (Value.slice (some ⟨wr.heap.size, 0, none⟩) 0 0).ownBlock = some k → wr.heap.size ≤ k := (fun k e => (by simp [Value.ownBlock] at e; omega)); have hown5 : w5.ownsRow wr.heap.size 9 1 v5 o.length (txtCells (o.take o.length)) := (by simpa using hown5); have hsz5 : wr.heap.size ≤ w5.heap.size := (by have h := hgrow5.size; simp at h; omega))
              | (refine step_append_any _ (by rfl) _ _ _ (by rfl) wr.heap.size 9 i0 _ 1 16 Tryz.underlying34 hi hz0 hz1 hz2 rfl (by decide) (.slice (some ⟨(wr.heap.size + 1), 0, none⟩) 0 0) 0 [] (by rfl) (own_nil_new _ 1 (by have h := heap_alloc_new (wr.alloc (.cells #[.string (B t)] 9)) (.cells #[] 9); rwa [World.size_alloc] at h) (by omega)) (some ⟨g, 0, none⟩) o.length lc (txtCells (o.take o.length)) (by rfl) (by simp [txtCells]; try omega) (fun h => (by cases h)) (HnT.out _ (by go_split_ands; assumption)) (txtCells_one _) (by unfold maxLen; omega) (by omega) (by first | (simp; done) | (simp; omega)) ?_; intro v5 w5 hown5 hgrow5 _; have hr5 : ∀ k, (Value.slice (some ⟨(wr.heap.size + 1), 0, none⟩) 0 0).ownBlock = some k → wr.heap.size ≤ k := (fun k e => (by simp [Value.ownBlock] at e; omega)); have hown5 : w5.ownsRow wr.heap.size 9 1 v5 o.length (txtCells (o.take o.length)) := (by simpa using hown5); have hsz5 : wr.heap.size ≤ w5.heap.size := (by have h := hgrow5.size; simp at h; omega))
              | (refine step_append_any _ (by rfl) _ _ _ (by rfl) wr.heap.size 9 i0 _ 1 16 Tryz.underlying34 hi hz0 hz1 hz2 rfl (by decide) v5 o.length (txtCells (o.take o.length)) (by rfl) hown5 (some ⟨(wr.heap.size + 1), 0, none⟩) 1 1 [.string (B t)] (by rfl) (by rfl) (fun h => (by cases h)) (fun ad e => (by cases e; exact World.news_of_block (cs := #[.string (B t)]) (t := 9) (fr := (0, 0)) ((hgrow5.block (wr.heap.size + 1) (by first | (simp; done) | (simp; omega)) (by simp [Value.ownBlock])).trans (by have h := heap_alloc_new (wr.alloc (.cells #[] 9)) (.cells #[.string (B t)] 9); rwa [World.size_alloc] at h)))) (by simp [Value.oneCell']) (by unfold maxLen; omega) (by omega) (by first | exact hsz5 | (simp; omega)) ?_; intro v6 w6 hown6 hgrow6 _; have hsz6 : wr.heap.size ≤ w6.heap.size := (by have h := hgrow6.size; first | omega | (simp at h; omega)))
              | (refine step_append_any _ (by rfl) _ _ _ (by rfl) wr.heap.size 9 i0 _ 1 16 Tryz.underlying34 hi hz0 hz1 hz2 rfl (by decide) v5 o.length (txtCells (o.take o.length)) (by rfl) hown5 (some ⟨wr.heap.size, 0, none⟩) 1 1 [.string (B t)] (by rfl) (by rfl) (fun h => (by cases h)) (fun ad e => (by cases e; exact World.news_of_block (cs := #[.string (B t)]) (t := 9) (fr := (0, 0)) ((hgrow5.block wr.heap.size (by first | (simp; done) | (simp; omega)) (by simp [Value.ownBlock])).trans ((heap_alloc_old (wr.alloc _) _ (by simp)).trans (heap_alloc_new wr _))))) (by simp [Value.oneCell']) (by unfold maxLen; omega) (by omega) (by first | exact hsz5 | (simp; omega)) ?_; intro v6 w6 hown6 hgrow6 _; have hsz6 : wr.heap.size ≤ w6.heap.size := (by have h := hgrow6.size; first | omega | (simp at h; omega)))
              | (refine step_append_any _ (by rfl) _ _ _ (by rfl) wr.heap.size 9 i0 _ 1 16 Tryz.underlying34 hi hz0 hz1 hz2 rfl (by decide) v5 o.length (txtCells (o.take o.length)) (by rfl) (hown5.alloc _) (some ⟨w5.heap.size, 0, none⟩) 1 1 [.string (B t)] (by rfl) (by rfl) (fun h => (by cases h)) (fun ad e => (by cases e; exact World.news_of_block (cs := #[.string (B t)]) (t := 9) (fr := (0, 0)) (heap_alloc_new w5 _))) (by simp [Value.oneCell']) (by unfold maxLen; omega) (by omega) (by first | exact hsz5 | (simp; omega)) ?_; intro v6 w6 hown6 hgrow6 _; have hsz6 : wr.heap.size ≤ w6.heap.size := (by have h := hgrow6.size; first | omega | (simp at h; omega)))
              | (refine step_append_any _ (by rfl) _ _ _ (by rfl) wr.heap.size 9 i0 _ 1 16 Tryz.underlying34 hi hz0 hz1 hz2 rfl (by decide) v6 (o.length + 1) (txtCells (o.take o.length) ++ [.string (B t)]) (by rfl) hown6 (some ⟨g, o.length, none⟩) 0 (lc - o.length) (txtCells (o.drop o.length)) (by rfl) (by simp [txtCells]; try omega) (fun h => (by cases h)) (HnD.out _ (by go_split_ands; assumption)) (txtCells_one _) (by unfold maxLen; omega) (by omega) hsz6 ?_; intro v7 w7 hown7 hgrow7 _)
              | fail)
          all_goals
            have hbw : Below wr.heap.size wr w7 := by go_split_ands; assumption
            have HB7 := Lib.hid (step_call Hb2.out hbw)
            have Ho7 : Hid (w7.ownsRow base 9 1 v7 (insT o o.length t).length (txtCells (insT o o.length t))) := Lib.hid (by
              have h := own_base hown7 (Nat.le_trans hbase Hb2.out.size)
              have e2 : txtCells (o.take o.length) ++ [.string (B t)] ++ txtCells (o.drop o.length) = txtCells (o.take o.length ++ t :: o.drop o.length) := by rw [txtCells_append]; simp [txtCells]
              have e1 : o.length + 1 + 0 = (o.take o.length ++ t :: o.drop o.length).length := by simp; try omega
              rw [hins.out, ← e1, ← e2]
              exact h)
            clear hown5 hgrow5 hown6 hgrow6 hown7 hgrow7 hbw
            have Hok := insT_ok Hrise.out Hat.out
            have Hln := insT_length o o.length t
            go_wp2
            go_ret
            exact ⟨_, insT o o.length t, rfl, HB7.out, Hok.1, Hok.2, Hln, Ho7.out⟩
end Go.Proofs.YtlfhgmclnapmjaaGreatDoor
