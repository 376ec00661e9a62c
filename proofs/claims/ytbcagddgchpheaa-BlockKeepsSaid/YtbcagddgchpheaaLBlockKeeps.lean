/- The law BlockKeeps returns true for every number and acts. Condition: numbers and lengths fit an int. -/
import Derived.Test.YtbcagddgchpheaaBlkT
import Derived.Test.YtbcagddgchpheaaBlkR
import Derived.Test.YtbcagddgchpheaaBlkS
namespace Go.Proofs.Ytbcagddgchpheaa
open Go.RowKit Go.Blk

theorem crashL_none (c : Nat) : ∀ (l : List (Nat × Txt)) (k : Nat) (dk : List Txt), crashL [] (-1) c k l dk = dk
  | [], _, _ => rfl
  | p :: l, k, dk => by
    simp only [crashL]
    rw [if_neg (by simp), if_neg (by omega)]
    exact crashL_none c l (k + 1) dk
theorem crashL_every (n : Nat) (torn : Int) (c : Nat) : ∀ (l : List (Nat × Txt)) (k : Nat) (dk : List Txt), k + l.length ≤ n → crashL (List.replicate n true) torn c k l dk = lay dk l
  | [], _, _, _ => rfl
  | p :: l, k, dk, h => by
    simp only [List.length_cons] at h
    simp only [crashL]
    rw [if_pos (by simp [List.getD_eq_getElem?_getD, show k < n by omega])]
    exact crashL_every n torn c l (k + 1) _ (by omega)
/-- What would have been read, of the first k blocks. -/
def rdL (d : Dv) (k : Nat) : List Txt := (List.range k).map fun i => readT d (i : Nat)
theorem rdL_length (d : Dv) (k : Nat) : (rdL d k).length = k := by simp [rdL]
theorem rdL_succ (d : Dv) (k : Nat) : rdL d (k + 1) = rdL d k ++ [readT d (k : Nat)] := by simp [rdL, List.range_succ]
theorem rdL_all {d : Dv} (h : d.dead = false) : rdL d d.disk.length = lay d.disk d.pend := by
  apply List.ext_getElem
  · rw [rdL_length, lay_length]
  · intro i h1 h2
    rw [rdL_length] at h1
    have := lay_get d.pend d.disk i h1
    rw [List.getD_eq_getElem?_getD, List.getElem?_eq_getElem h2, Option.getD_some] at this
    rw [this]
    simp only [rdL, List.getElem_map, List.getElem_range]
    unfold readT inD
    rw [h]
    have e : (decide ((0 : Int) ≤ (i : Int)) && decide ((i : Int) < (d.disk.length : Int))) = true := by simp; omega
    rw [e]
    simp
theorem readE_in {d : Dv} (h : d.dead = false) (i : Nat) (hi : i < d.disk.length) : readE d (i : Nat) = 0 := by
  unfold readE inD
  rw [h]
  have e : (decide ((0 : Int) ≤ (i : Int)) && decide ((i : Int) < (d.disk.length : Int))) = true := by simp; omega
  rw [e]; rfl
theorem readT_len {d : Dv} (ok : d.Ok) (i : Nat) : (readT d (i : Nat)).length ≤ 256 := by
  unfold readT
  split
  · simp
  · split
    · rename_i hi
      unfold inD at hi
      rw [Bool.and_eq_true, decide_eq_true_eq, decide_eq_true_eq] at hi
      have := lastW_all (P := fun s => s.length = 256) d.pend (i : Int).toNat (d.disk.getD (i : Int).toNat []) (getD_all ok.disk _ (by omega)) (fun p hp => (ok.pend p hp).2)
      omega
    · simp
theorem cell1_newK (w : World) (x : Value) (t : TypeId) : ∀ (j : Nat) u, [x][j]? = some u → (w.alloc (.cells #[x] t)).cell? ((⟨w.heap.size, 0, none⟩ : Addr).add j) = some u := by
  intro j u hu
  have hh := heap_alloc_new w (.cells #[x] t)
  match j, hu with
  | 0, hu => simp at hu; subst hu; rw [show ((⟨w.heap.size, 0, none⟩ : Addr).add 0) = ⟨w.heap.size, 0, none⟩ from rfl, Lib.cell_of_heap hh]; rfl
  | j + 1, hu => simp at hu
theorem Try.info_bool : (Try.prog.info? 4).map (fun i => (i.zero, i.size, i.bytes)) = some (some (.bool false), 1, 1) := by kernel_rfl
/-- A row of true, as a crash takes it. -/
theorem own_bools {w : World} {base n : Nat} {v : Value} (h : w.ownsRow base 4 1 v n (List.replicate n (.bool true))) : Row w v ((List.replicate n true).map Value.bool) := by
  rw [List.map_replicate]
  rcases h.2 with ⟨rfl, h0⟩ | ⟨g, cap, cur, rfl, hg, hh, h1, h2, h3, h4⟩
  · exact .inl ⟨none, 0, rfl, by rw [h0]; rfl⟩
  · refine .inr ⟨g, 0, cap, by simp, by simpa using h1, (h.lt g rfl).2, fun i hi => ?_⟩
    rw [List.length_replicate] at hi
    rw [Lib.cell_of_heap hh, Nat.zero_add]
    have : cur.toList[i]? = (List.replicate n (Value.bool true))[i]? := by rw [← h4, List.getElem?_take, Nat.mul_one, if_pos hi]
    rw [← Array.getElem?_toList, this]
    simp [hi]
theorem mut_old {T : TypeId} {w w' : World} {g : Nat} {od op : Option Nat} {d : Dv} (m : Mut T w w' g od op d) : ∃ op', DevAt T w' g od op' d ∧ (∀ k, ownV g od op' k → ownV g od op k ∨ w.heap.size ≤ k) ∧ Chg (ownV g od op) w w' := by
  obtain ⟨op', m1, m2, m3⟩ := m
  refine ⟨op', m1, fun k hk => ?_, m3⟩
  rcases hk with hk | hk | hk
  · exact .inl (.inl hk)
  · exact .inl (.inr (.inl hk))
  · rcases m2 k hk with h5 | h5
    · exact .inl (.inr (.inr h5))
    · exact .inr h5
set_option maxRecDepth 100000 in
set_option maxHeartbeats 3200000 in
theorem core_BlockKeeps (n : Int) (v : Value) (l : List Act) (w : World) (hn1 : -9223372036854775808 ≤ n) (hn2 : n ≤ 9223372036854775807) (h : Acts w v l) (hl : l.length ≤ 9223372036854775807) (hf : ∀ a ∈ l, Fit a) :
    Calls Try.prog 4 #[.int .i64 n, v] w fun e w' => e = .returned (.bool true) ∧ Below w.heap.size w w' := by
  have Hsh := Lib.hid (law_shown w)
  have H := Lib.hid h
  have Hf := Lib.hid hf
  obtain ⟨oa, c, rfl⟩ := h.form
  clear h hf
  have Hsm := Lib.hid (fun w' (b : Below w.heap.size w w') => law_small _ l w' (H.out.below b) hl Hf.out)
  cases hsm : smallB l with
  | false =>
    rw [hsm] at Hsm
    clear hsm
    go_enter Try.func4, Try.ntmps4
    go_wp2_with fail
    refine Hsh.out.mono ?_
    rintro e w1 ⟨rfl, hb⟩
    have HB := Lib.hid hb
    clear hb
    go_wp2_with fail
    refine (Hsm.out _ HB.out).mono ?_
    rintro e w2 ⟨rfl, rfl⟩
    go_wp2
    go_ret
    exact ⟨rfl, HB.out⟩
  | true =>
    obtain ⟨hl60, hok⟩ := small_ok hsm Hf.out
    rw [hsm] at Hsm
    have Hok := Lib.hid hok
    clear hsm hok
    obtain ⟨i0, hi, hz0, hz1, hz2⟩ := info_parts Try.info_str
    obtain ⟨j0, hj, hy0, hy1, hy2⟩ := info_parts Try.info_bool
    go_enter Try.func4, Try.ntmps4
    go_wp2_with fail
    refine Hsh.out.mono ?_
    rintro e w1 ⟨rfl, hb⟩
    have HB := Lib.hid hb
    clear hb
    go_wp2_with fail
    refine (Hsm.out _ HB.out).mono ?_
    rintro e w2 ⟨rfl, rfl⟩
    have Hmk := Lib.hid (fun w' (b : Below w.heap.size w w') => law_made n _ l w' hn1 hn2 (H.out.below b) hl60 Hok.out)
    obtain ⟨hD, hP⟩ := made_facts n l hl60 Hok.out
    generalize doesAll (newD (1 + pickN n 12)) l = D at *
    have HD := Lib.hid hD
    have hDn := hD.n1
    clear hD
    go_wp2_with fail
    refine (Hmk.out _ HB.out).mono ?_
    rintro e w3 ⟨g1, od1, op1, rfl, hd1, hlo1, hb3⟩
    have HB3 := Lib.hid (step_call HB.out hb3)
    go_wp2_with fail
    refine (Hmk.out _ HB3.out).mono ?_
    rintro e w4 ⟨g2, od2, op2, rfl, hd2, hlo2, hb4⟩
    have HB4 := Lib.hid (step_call HB3.out hb4)
    have HV1 : Hid (∀ k, ownV g1 od1 op1 k → w.heap.size ≤ k ∧ k < w3.heap.size) := Lib.hid (fun k hk => ⟨Nat.le_trans HB.out.size (hlo1 k hk), hd1.lt k hk⟩)
    have HV2 : Hid (∀ k, ownV g2 od2 op2 k → w3.heap.size ≤ k ∧ k < w4.heap.size) := Lib.hid (fun k hk => ⟨hlo2 k hk, hd2.lt k hk⟩)
    have Hd1 := Lib.hid (hd1.below hb4)
    have Hd2 := Lib.hid hd2
    have Hz3 := Lib.hid hb4.size
    clear hd1 hd2 hlo1 hlo2 hb3 hb4
    go_wp2_with fail
    refine (dev_Disk D g1 od1 op1 _ Hd1.out (by omega)).mono ?_
    rintro e w5 ⟨hb5, vd, rfl, hvd⟩
    have HB5 := Lib.hid (step_call HB4.out hb5)
    have Hvd := Lib.hid hvd
    have Hd15 := Lib.hid (Hd1.out.below hb5)
    have Hd25 := Lib.hid (Hd2.out.below hb5)
    have Hz5 := Lib.hid hb5.size
    obtain ⟨ad, cd, rfl⟩ := own_formQ hvd
    have HF1 : Hid ((crashD D [] (-1) 0).disk = D.disk ∧ (crashD D [] (-1) 0).pend = [] ∧ (crashD D [] (-1) 0).dead = false) := Lib.hid ⟨crashL_none _ _ _ _, rfl, rfl⟩
    clear hb5 hvd
    go_wp2_with fail
    refine (dev_Dead D g1 od1 op1 _ Hd15.out).mono ?_
    rintro e w6 ⟨rfl, rfl⟩
    cases hdead : D.dead with
    | true =>
      clear hdead
      have hcr := dev_Crash D (.slice none 0 0) [] (-1) 0 g1 od1 op1 _ Hd15.out HD.out (by omega) (.inl ⟨none, 0, rfl, rfl⟩) (fun h => by simp at h) (by simp)
      have Hcr := Lib.hid hcr
      clear hcr
      generalize crashD D [] (-1) 0 = F1 at *
      go_wp2_with fail
      refine Hcr.out.mono ?_
      rintro e w8 ⟨rfl, hm⟩
      obtain ⟨op1', hd8, _, hc8⟩ := mut_old hm
      have HB8 := Lib.hid (HB5.out.trans (hc8.below HB5.out.size (fun k hk => (HV1.out k hk).1)))
      have Hd8 := Lib.hid hd8
      have Hvd8 := Lib.hid (own_chg Hvd.out hc8 (fun k hk hv => by have := (Hvd.out.lt k hk).1; have := (HV1.out k hv).2; have := Hz3.out; omega))
      clear hm hd8 hc8
      go_wp2_with fail
      refine (dev_Disk F1 g1 od1 op1' _ Hd8.out (by rw [HF1.out.1]; omega)).mono ?_
      rintro e w9 ⟨hb9, va, rfl, hva⟩
      have HB9 := Lib.hid (step_call HB8.out hb9)
      have Hd9 := Lib.hid (Hd8.out.below hb9)
      rw [HF1.out.1] at hva
      have Hsame := Lib.hid (law_sameTexts va _ D.disk (by omega) w9 (own_row hva) (own_row (own_kept4 Hvd8.out hb9)))
      clear hb9 hva
      go_wp2_with fail
      refine Hsame.out.mono ?_
      rintro e w10 ⟨rfl, hb10⟩
      have HB10 := Lib.hid (step_call HB9.out hb10)
      have Hdd := Lib.hid (dev_Dead F1 g1 od1 op1' _ (Hd9.out.below hb10))
      rw [HF1.out.2.2] at Hdd
      clear hb10
      go_wp2_with (go_at_call 16; refine Hdd.out.mono ?_; rintro e w11 ⟨rfl, rfl⟩)
      go_ret
      exact ⟨rfl, HB10.out⟩
    | false =>
      have Hdead := Lib.hid hdead
      clear hdead
      go_wp2
      go_loopw [12, 13] (fun x12 x13 wr => ∃ k : Nat, k ≤ D.disk.length ∧ x13 = .int .i64 k ∧ wr.ownsRow w5.heap.size 9 1 x12 k (txtCells (rdL D k)) ∧ Below w5.heap.size w5 wr) (fun _ x13 _ => D.disk.length - (intOf x13).toNat)
      case atStart => exact ⟨0, by omega, rfl, World.ownsRow_nil _ _ _ _, Below.refl _ _⟩
      case round =>
        obtain ⟨k, hk, rfl, hown, hbel⟩ := hrel
        have Hown := Lib.hid hown
        have Hbel := Lib.hid hbel
        obtain ⟨ax, cx, rfl⟩ := own_formQ hown
        have Hd2r := Lib.hid (Hd25.out.below hbel)
        clear hown hbel
        by_cases hlt : k < D.disk.length
        · have Hr := Lib.hid (dev_Read D (k : Nat) g2 od2 op2 wr Hd2r.out HD.out (by omega) (by omega) (by omega))
          rw [readE_in Hdead.out k hlt] at Hr
          have hsl := readT_len HD.out k
          have hcat : Hid (txtCells (rdL D k) ++ [.string (B (readT D (k : Nat)))] = txtCells (rdL D (k + 1))) := Lib.hid (by rw [rdL_succ]; simp [txtCells])
          generalize readT D (k : Nat) = s at *
          have hk1 : (k : Int) < (D.disk.length : Int) := by omega
          go_wp2_with fail
          refine (dev_Blocks D g2 od2 op2 _ Hd2r.out).mono ?_
          rintro e wx ⟨rfl, rfl⟩
          go_wp2_with fail
          refine Hr.out.mono ?_
          rintro e w7 ⟨rfl, hb7⟩
          have Hb7 := Lib.hid (Hbel.out.trans (hb7.mono Hbel.out.size))
          have hown7 := Lib.hid ((own_kept4 Hown.out hb7).alloc (.cells #[.string (B s)] 9))
          have hnew := Lib.hid (cell1_newK w7 (.string (B s)) 9)
          clear hb7
          go_wp2_with (at_builtin; go_must (refine wpList_append_where _ rfl (.tmp 75) (.tmp 77) 39 rfl w5.heap.size 9 i0 (.string ⟨#[]⟩) 1 16 Try.underlying39 hi hz0 hz1 hz2 rfl (by decide) _ _ _ rfl hown7.out ⟨w7.heap.size, 0, none⟩ 1 1 [.string (B s)] rfl rfl hnew.out ?c2 ?c3 ?c4 ?c5 ?_))
          case c2 => simp [Value.oneCell']
          case c3 => unfold maxLen; omega
          case c4 => omega
          case c5 => have := Hb7.out.size; simp; omega
          intro v9 w9 hown9 hgrow9 _
          rw [hcat.out] at hown9
          have Hown9 := Lib.hid hown9
          have Hb9 := Lib.hid ((Hb7.out.alloc Hb7.out.size (.cells #[.string (B s)] 9)).grown hgrow9 (by have := Hb7.out.size; simp; omega) (fun q hq => (Hown.out.lt q hq).1))
          clear hown9 hgrow9
          go_wp2
          go_roundw
          case rel => exact ⟨k + 1, by omega, by go_num, Hown9.out, Hb9.out⟩
          case measure => simp [intOf]; omega
        · obtain rfl : k = D.disk.length := by omega
          obtain ⟨wA, rfl⟩ : ∃ wo : World, wo = wr := ⟨_, rfl⟩
          go_wp2_with fail
          refine (dev_Blocks D g2 od2 op2 _ Hd2r.out).mono ?_
          rintro e wx ⟨rfl, rfl⟩
          go_wp2
          go_loopw [16, 17] (fun x16 x17 wr => ∃ k : Nat, k ≤ D.pend.length ∧ x17 = .int .i64 k ∧ wr.ownsRow wA.heap.size 4 1 x16 k (List.replicate k (.bool true)) ∧ Below wA.heap.size wA wr) (fun _ x17 _ => D.pend.length - (intOf x17).toNat)
          case atStart => exact ⟨0, by omega, rfl, World.ownsRow_nil _ _ _ _, Below.refl _ _⟩
          case round =>
            obtain ⟨k2, hk2, rfl, hown, hbel⟩ := hrel
            have Hown2 := Lib.hid hown
            have Hbel2 := Lib.hid hbel
            obtain ⟨ay, cy, rfl⟩ := own_formQ hown
            have Hd2s := Lib.hid (Hd2r.out.below hbel)
            have Hd1s := Lib.hid ((Hd15.out.below Hbel.out).below hbel)
            clear hown hbel
            go_wp2_with fail
            refine (dev_Pending D g2 od2 op2 _ Hd2s.out (by omega)).mono ?_
            rintro e w7 ⟨hb7, vp, rfl, hvp⟩
            obtain ⟨ap, cp, rfl⟩ := own_formQ hvp
            have Hb7 := Lib.hid hb7
            clear hb7 hvp
            by_cases hlt2 : k2 < D.pend.length
            · have hk3 : (k2 : Int) < (D.pend.length : Int) := by omega
              have hcat : Hid (List.replicate k2 (Value.bool true) ++ [.bool true] = List.replicate (k2 + 1) (.bool true)) := Lib.hid (List.replicate_succ').symm
              have Hb8 := Lib.hid (Hbel2.out.trans (Hb7.out.mono Hbel2.out.size))
              have hown7 := Lib.hid ((own_kept4 Hown2.out Hb7.out).alloc (.cells #[.bool true] 4))
              have hnew := Lib.hid (cell1_newK w7 (.bool true) 4)
              go_wp2_with (at_builtin; go_must (refine wpList_append_where _ rfl (.tmp 86) (.tmp 87) 35 rfl wA.heap.size 4 j0 (.bool false) 1 1 Try.underlying35 hj hy0 hy1 hy2 rfl (by decide) _ _ _ rfl hown7.out ⟨w7.heap.size, 0, none⟩ 1 1 [.bool true] rfl rfl hnew.out ?d2 ?d3 ?d4 ?d5 ?_))
              case d2 => simp [Value.oneCell']
              case d3 => unfold maxLen; omega
              case d4 => omega
              case d5 => have := Hb8.out.size; simp; omega
              intro v9 w9 hown9 hgrow9 _
              rw [hcat.out] at hown9
              have Hown9 := Lib.hid hown9
              have Hb9 := Lib.hid ((Hb8.out.alloc Hb8.out.size (.cells #[.bool true] 4)).grown hgrow9 (by have := Hb8.out.size; simp; omega) (fun q hq => (Hown2.out.lt q hq).1))
              clear hown9 hgrow9
              go_wp2
              go_roundw
              case rel => exact ⟨k2 + 1, by omega, by go_num, Hown9.out, Hb9.out⟩
              case measure => simp [intOf]; omega
            · obtain rfl : k2 = D.pend.length := by omega
              have s34 := Lib.hid Hz3.out
              have s45 := Lib.hid Hz5.out
              have s5A := Lib.hid Hbel.out.size
              have HB7 := Lib.hid (step_call (step_call (step_call HB5.out Hbel.out) Hbel2.out) Hb7.out)
              have HsA7 := Lib.hid (Nat.le_trans Hbel2.out.size Hb7.out.size)
              have Hd17 := Lib.hid (Hd1s.out.below Hb7.out)
              have Hd27 := Lib.hid (Hd2s.out.below Hb7.out)
              have Hvk7 := Lib.hid (own_kept4 Hown2.out Hb7.out)
              have Hvd7 := Lib.hid (own_kept4 (own_kept4 (own_kept4 Hvd.out Hbel.out) Hbel2.out) Hb7.out)
              have Hvb7 := Lib.hid (own_kept4 (own_kept4 Hown.out Hbel2.out) Hb7.out)
              have Hcr1 := Lib.hid (dev_Crash D (.slice none 0 0) [] (-1) 0 g1 od1 op1 _ Hd17.out HD.out (by omega) (.inl ⟨none, 0, rfl, rfl⟩) (fun h => by simp at h) (by simp))
              have Hcr2 := Lib.hid (fun w' (hd : DevAt 64 w' g2 od2 op2 D) hk hq => dev_Crash D (.slice ay D.pend.length cy) (List.replicate D.pend.length true) 0 256 g2 od2 op2 w' hd HD.out (by omega) hk hq (by simp; omega))
              have HF2 : Hid ((crashD D (List.replicate D.pend.length true) 0 256).disk = rdL D D.disk.length ∧ (crashD D (List.replicate D.pend.length true) 0 256).pend = []) := Lib.hid ⟨by rw [rdL_all Hdead.out]; exact crashL_every _ _ _ _ _ _ (by omega), rfl⟩
              generalize crashD D [] (-1) 0 = F1 at *
              generalize crashD D (List.replicate D.pend.length true) 0 256 = F2 at *
              go_wp2_with fail
              refine Hcr1.out.mono ?_
              rintro e w8 ⟨rfl, hm⟩
              obtain ⟨op1', hd8, hn8, hc8⟩ := mut_old hm
              have HB8 := Lib.hid (HB7.out.trans (hc8.below HB7.out.size (fun k hk => (HV1.out k hk).1)))
              have Hd18 := Lib.hid hd8
              have Hn8 := Lib.hid hn8
              have Hd28 := Lib.hid (Hd27.out.keep hc8 (fun k hk hv => by have := (HV1.out k hv).2; have := (HV2.out k hk).1; omega))
              have Hvk8 := Lib.hid (own_chg Hvk7.out hc8 (fun k hk hv => by have := (Hvk7.out.lt k hk).1; have := (HV1.out k hv).2; have := s34.out; have := s45.out; have := s5A.out; omega))
              have Hvd8 := Lib.hid (own_chg Hvd7.out hc8 (fun k hk hv => by have := (Hvd7.out.lt k hk).1; have := (HV1.out k hv).2; have := s34.out; omega))
              have Hvb8 := Lib.hid (own_chg Hvb7.out hc8 (fun k hk hv => by have := (Hvb7.out.lt k hk).1; have := (HV1.out k hv).2; have := s34.out; have := s45.out; omega))
              have Hc2 := Lib.hid (Hcr2.out _ Hd28.out (own_bools Hvk8.out) (fun _ q hq hv => by have := (Hvk8.out.lt q hq).1; have := (HV2.out q hv).2; have := s45.out; have := s5A.out; omega))
              clear hm hd8 hn8 hc8
              go_wp2_with fail
              refine Hc2.out.mono ?_
              rintro e w9 ⟨rfl, hm⟩
              obtain ⟨op2', hd9, hn9, hc9⟩ := mut_old hm
              have HB9 := Lib.hid (HB8.out.trans (hc9.below HB8.out.size (fun k hk => by have := (HV2.out k hk).1; have := HB3.out.size; omega)))
              have Hd29 := Lib.hid hd9
              have Hd19 := Lib.hid (Hd18.out.keep hc9 (fun k hk hv => by
                have h1 := HV2.out k hv
                have := s45.out; have := s5A.out; have := HsA7.out
                rcases Hn8.out k hk with h2 | h2
                · have := (HV1.out k h2).2; omega
                · omega))
              have Hvd9 := Lib.hid (own_chg Hvd8.out hc9 (fun k hk hv => by have := (Hvd8.out.lt k hk).1; have := (HV2.out k hv).2; omega))
              have Hvb9 := Lib.hid (own_chg Hvb8.out hc9 (fun k hk hv => by have := (Hvb8.out.lt k hk).1; have := (HV2.out k hv).2; have := s45.out; omega))
              clear hm hd9 hn9 hc9
              go_wp2_with fail
              refine (dev_Disk F1 g1 od1 op1' _ Hd19.out (by rw [HF1.out.1]; omega)).mono ?_
              rintro e w10 ⟨hb10, va, rfl, hva⟩
              have HB10 := Lib.hid (step_call HB9.out hb10)
              have Hd1A := Lib.hid (Hd19.out.below hb10)
              have Hd2A := Lib.hid (Hd29.out.below hb10)
              have Hvb10 := Lib.hid (own_kept4 Hvb9.out hb10)
              rw [HF1.out.1] at hva
              have Hsame := Lib.hid (law_sameTexts va _ D.disk (by omega) w10 (own_row hva) (own_row (own_kept4 Hvd9.out hb10)))
              clear hb10 hva
              go_wp2_with fail
              refine Hsame.out.mono ?_
              rintro e w11 ⟨rfl, hb11⟩
              have HB11 := Lib.hid (step_call HB10.out hb11)
              have Hd1B := Lib.hid (Hd1A.out.below hb11)
              have Hd2B := Lib.hid (Hd2A.out.below hb11)
              have Hvb11 := Lib.hid (own_kept4 Hvb10.out hb11)
              clear hb11
              go_wp2_with (first
                | (go_at_call 18; refine (dev_Disk F2 g2 od2 op2' _ Hd2B.out (by rw [HF2.out.1, rdL_length]; omega)).mono ?_; rintro e w12 ⟨hb12, vc, rfl, hvc⟩; rw [HF2.out.1] at hvc; have Hs2 := Lib.hid (law_sameTexts vc _ (rdL D D.disk.length) (by rw [rdL_length]; omega) w12 (own_row hvc) (own_row (l := rdL D D.disk.length) (by rw [rdL_length]; exact own_kept4 Hvb11.out hb12))); have HB12 := Lib.hid (step_call HB11.out hb12); have Hd1C := Lib.hid (Hd1B.out.below hb12); have Hd2C := Lib.hid (Hd2B.out.below hb12); clear hb12 hvc)
                | (go_at_call 17; refine Hs2.out.mono ?_; rintro e w13 ⟨rfl, hb13⟩; have HB13 := Lib.hid (step_call HB12.out hb13); have Hd1D := Lib.hid (Hd1C.out.below hb13); have Hd2D := Lib.hid (Hd2C.out.below hb13); clear hb13)
                | (go_at_call 20; refine (dev_Pending F2 g2 od2 op2' _ Hd2D.out (by rw [HF2.out.2]; simp)).mono ?_; rintro e w14 ⟨hb14, vq, rfl, hvq⟩; simp only [HF2.out.2, List.length_nil] at hvq; obtain ⟨aq, cq, rfl⟩ := own_formQ hvq; have HB14 := Lib.hid (step_call HB13.out hb14); have Hd1E := Lib.hid (Hd1D.out.below hb14); clear hb14 hvq)
                | (go_at_call 20; refine (dev_Pending F1 g1 od1 op1' _ Hd1E.out (by rw [HF1.out.2.1]; simp)).mono ?_; rintro e w15 ⟨hb15, vr, rfl, hvr⟩; simp only [HF1.out.2.1, List.length_nil] at hvr; obtain ⟨ar, cr, rfl⟩ := own_formQ hvr; have HB15 := Lib.hid (step_call HB14.out hb15); clear hb15 hvr))
              go_ret
              exact ⟨rfl, HB15.out⟩
theorem walk_BlockKeeps (n : Int) (v : Value) (l : List Act) (w : World) (hn : (Lit.int .i64 n).wf = true) (h : Acts w v l) (hf : ∀ a ∈ l, Fit a) (hl : l.length ≤ maxLen) :
    Calls Try.prog 4 #[.int .i64 n, v] w fun e w' => e = .returned (.bool true) ∧ Below w.heap.size w w' := by
  unfold maxLen at hl
  exact core_BlockKeeps n v l w (bounds_i64 hn).1 (bounds_i64 hn).2 h (by omega) hf
end Go.Proofs.Ytbcagddgchpheaa
