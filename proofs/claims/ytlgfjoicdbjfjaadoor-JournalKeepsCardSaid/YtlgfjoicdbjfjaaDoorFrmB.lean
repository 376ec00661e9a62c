/- Chapter 3: the program's sum and read of a head. Conditions: lengths. -/
import Derived.Test.YtlgfjoicdbjfjaaDoorFrmA
import Derived.Test.YtlgfjoicdbjfjaaDoorWireCrc
import Derived.WalkMore
namespace Go.Proofs.YtlgfjoicdbjfjaaDoor
open Go.RowKit Go.Wir Go.Blk Go.Frm

theorem own_one (w : World) (x : Value) (t : TypeId) : (w.alloc (.cells #[x] t)).ownsRow w.heap.size t 1 (.slice (some ⟨w.heap.size, 0, none⟩) 1 1) 1 [x] :=
  ⟨by simp, .inr ⟨w.heap.size, 1, #[x], rfl, Nat.le_refl _, heap_alloc_new w _, by omega, by unfold maxLen; omega, by simp, by simp⟩⟩
theorem Tryd.info_strF : (Tryd.prog.info? 9).map (fun i => (i.zero, i.size, i.bytes)) = some (some (.string ⟨#[]⟩), 1, 16) := by kernel_rfl
theorem Tryd.info_intF : (Tryd.prog.info? 3).map (fun i => (i.zero, i.size, i.bytes)) = some (some (.int .i64 0), 1, 8) := by kernel_rfl
theorem txtCells_oneF (l : List Txt) : ∀ u ∈ txtCells l, u.oneCell' = true := by
  intro u hu
  obtain ⟨s, _, rfl⟩ := List.mem_map.1 hu
  rfl
theorem addr_add (b off j : Nat) : (⟨b, off, none⟩ : Addr).add j = ⟨b, off + j, none⟩ := by unfold Addr.add; split <;> simp_all
theorem txt_news {w : World} {b off : Nat} {l : List Txt} (h : ∀ i (hi : i < l.length), w.cell? ⟨b, off + i, none⟩ = some (.string (B l[i]))) : ∀ j u, (txtCells l)[j]? = some u → w.cell? ((⟨b, off, none⟩ : Addr).add j) = some u := by
  intro j u hu
  rw [addr_add]
  have hj : j < l.length := by
    have := (List.getElem?_eq_some_iff.1 hu).1
    rwa [txtCells_length] at this
  rw [h j hj, ← hu]
  simp [txtCells, hj]
theorem parts_flatten (l : List Txt) : partsL (l.map B) = l.flatten := by
  unfold partsL
  rw [List.flatMap_map]
  induction l with
  | nil => rfl
  | cons x l ih =>
    rw [List.flatMap_cons, List.flatten_cons, ih, L_B]
set_option maxRecDepth 100000 in
set_option maxHeartbeats 400000 in
theorem frame_sum (h : Txt) (l : List Txt) (v : Value) (hh : h.length ≤ 1000000) (h0 : 0 < l.length) (hl : l.length ≤ 100000) (h256 : ∀ s ∈ l, s.length ≤ 1000000) (w : World) (hr : Row w v (txtV l)) :
    Calls Tryd.prog 50 #[.string (B h), v] w fun e w' => e = .returned (.string (B (sumT h l))) ∧ Below w.heap.size w w' := by
  obtain ⟨i0, hi, hz0, hz1, hz2⟩ := info_parts Tryd.info_strF
  obtain ⟨oa, cap, rfl, hcell⟩ := txt_row hr
  obtain ⟨b, off, rfl, hb, hcap, _⟩ := hcell 0 h0
  have hcell2 : ∀ i (hi : i < l.length), (w.alloc (.cells #[.string (B h)] 9)).cell? ⟨b, off + i, none⟩ = some (.string (B l[i])) := fun i hi => by
    obtain ⟨b', off', e, _, _, hc⟩ := hcell i hi
    simp only [Option.some.injEq, Addr.mk.injEq, and_true] at e
    obtain ⟨rfl, rfl⟩ := e
    exact cell_alloc _ hc
  have Hnews := Lib.hid (txt_news hcell2)
  have hown := own_one w (.string (B h)) 9
  have Hlt := Lib.hid (crc_lt (h ++ l.flatten))
  clear hcell hcell2 hr
  go_enter Tryd.func50, Tryd.ntmps50
  go_wp2_with (at_builtin; go_must (refine wpList_append_where _ rfl _ _ 44 rfl w.heap.size 9 i0 (.string ⟨#[]⟩) 1 16 Tryd.underlying44 hi hz0 hz1 hz2 rfl (by decide) _ _ _ rfl hown ⟨b, off, none⟩ l.length cap (txtCells l) rfl (by rw [txtCells_length, Nat.mul_one]) Hnews.out (txtCells_oneF l) ?c3 ?c4 ?c5 ?_))
  case c3 => unfold maxLen; omega
  case c4 => omega
  case c5 => simp
  intro v' w1 hown' hgrow _
  have hb1 := (step_new (Below.refl w.heap.size w) (.cells #[.string (B h)] 9)).grown hgrow (by simp) (fun q hq => by
    simp only [Value.ownBlock, Option.some.injEq] at hq
    omega)
  have hrow : Row w1 v' (txtV (h :: l)) := own_row (l := h :: l) (by rw [List.length_cons, Nat.add_comm]; exact hown')
  have hrow2 : Row w1 v' (((h :: l).map B).map Value.string) := by
    rw [List.map_map]; exact hrow
  have Hcrc := Lib.hid (wire_Crc v' ((h :: l).map B) w1 hrow2 (by simp; omega) (by
    intro s hs
    obtain ⟨t, ht, rfl⟩ := List.mem_map.1 hs
    rw [size_B]
    rcases List.mem_cons.1 ht with rfl | ht
    · omega
    · have := h256 t ht; omega))
  rw [parts_flatten, List.flatten_cons] at Hcrc
  have Hb1 := Lib.hid hb1
  have HS : Hid (fixedL (crc (h ++ l.flatten)) = sumT h l) := Lib.hid rfl
  clear hown' hgrow hb1 hrow hrow2 hown
  generalize crc (h ++ l.flatten) = c at *
  go_wp2_with fail
  refine Hcrc.out.mono ?_
  rintro e w2 ⟨rfl, hb2⟩
  have Hb2 := Lib.hid (step_call Hb1.out hb2)
  have hlt : (c : Int) < 4294967296 := by have := Hlt.out; omega
  clear hb2
  go_wp2_with fail
  refine (wire_Fixed _ (by omega) hlt w2).mono ?_
  rintro e w3 ⟨rfl, hb3⟩
  have Hb3 := Lib.hid (step_call Hb2.out hb3)
  clear hb3
  go_wp2
  go_ret
  exact ⟨by rw [← HS.out]; rfl, Hb3.out⟩
def ReadPost (s : Txt) (base : Nat) (e : Ending) (w' : World) : Prop := match readL s with
  | none => ∃ (n : Int) (v : Value), e = .returned (.tuple #[.int .u64 n, v, .bool false])
  | some (seq, at') => ∃ v, e = .returned (.tuple #[.int .u64 (seq : Nat), v, .bool true]) ∧ w'.ownsRow base 3 1 v at'.length (numCells at')
theorem ReadPost.no {s : Txt} {base : Nat} {w' : World} (h : readB s = false) (n : Int) (v : Value) : ReadPost s base (.returned (.tuple #[.int .u64 n, v, .bool false])) w' := by
  unfold ReadPost readL; rw [h]; exact ⟨n, v, rfl⟩
theorem or64 (hi lo : Nat) (h1 : hi < 4294967296) (h2 : lo < 4294967296) : bits .or .u64 ((hi : Int) * 4294967296) (lo : Int) = ((lo + 4294967296 * hi : Nat) : Int) := by
  rw [u64_or _ _ (by omega) (by omega) (by omega) (by omega), Int.toNat_natCast, show ((hi : Int) * 4294967296).toNat = 4294967296 * hi by omega, nat_join 32 (4294967296 * hi) lo (by omega) (by omega)]; omega
theorem rest_eq (s : Txt) : (B s).extract 4 248 = B ((s.take 248).drop 4) := by rw [extract_B, L_B, List.drop_take]
theorem suffix_eq (s : Txt) (hs : s.length = 256) : (decide ((⟨#[67, 68, 88, 69]⟩ : ByteArray).size ≤ (B s).size) && decide ((L (B s)).drop ((B s).size - (⟨#[67, 68, 88, 69]⟩ : ByteArray).size) = L ⟨#[67, 68, 88, 69]⟩)) = decide (s.drop 252 = endT) := by
  rw [size_B, hs, L_B]
  rfl
theorem prefix_eq (s : Txt) (_ : s.length = 256) : (L ⟨#[67, 68, 88, 84]⟩).isPrefixOf (L (B s)) = decide (s.take 4 = magicT) := by
  rw [L_B, Bool.eq_iff_iff, List.isPrefixOf_iff_prefix, decide_eq_true_eq, List.prefix_iff_eq_take]
  exact eq_comm
theorem own_kept {w w' : World} {base : Nat} {e : TypeId} {size : Nat} {v : Value} {n : Nat} {xs : List Value} (h : w.ownsRow base e size v n xs) (b : Below w.heap.size w w') : w'.ownsRow base e size v n xs := own_chg h (A := fun _ => False) (Chg.of_below b) (fun _ _ h => h)
theorem cell1_new (w : World) (x : Value) (t : TypeId) : ∀ (j : Nat) u, [x][j]? = some u → (w.alloc (.cells #[x] t)).cell? ((⟨w.heap.size, 0, none⟩ : Addr).add j) = some u := by
  intro j u hu
  have hh := heap_alloc_new w (.cells #[x] t)
  match j, hu with
  | 0, hu => simp at hu; subst hu; rw [show ((⟨w.heap.size, 0, none⟩ : Addr).add 0) = ⟨w.heap.size, 0, none⟩ from rfl, Lib.cell_of_heap hh]; rfl
  | j + 1, hu => simp at hu
set_option maxRecDepth 100000 in
set_option maxHeartbeats 1600000 in
theorem frame_read (s : Txt) (_ : s.length ≤ 9223372036854775807) (w : World) :
    Calls Tryd.prog 61 #[.string (B s)] w fun e w' => Below w.heap.size w w' ∧ ReadPost s w.heap.size e w' := by
  by_cases hl : s.length = 256
  · have hsz : (B s).size = 256 := by rw [size_B]; exact hl
    have hne : (((B s).size : Int) != 256) = false := by rw [hsz]; rfl
    have Hpre := Lib.hid (fun w => has_prefix (B s) ⟨#[67, 68, 88, 84]⟩ w)
    rw [prefix_eq s hl] at Hpre
    have Hsuf := Lib.hid (fun w => has_suffix (B s) ⟨#[67, 68, 88, 69]⟩ (by omega) (by decide) w)
    rw [suffix_eq s hl] at Hsuf
    have Hl := Lib.hid hl
    have hle : (248 : Int) ≤ ((B s).size : Int) := by omega
    clear hl hsz
    by_cases hp : s.take 4 = magicT
    · by_cases hq : s.drop 252 = endT
      · have Hform : Hid (formB s = true) := Lib.hid (by unfold formB; rw [decide_eq_true Hl.out, decide_eq_true hp, decide_eq_true hq]; rfl)
        rw [decide_eq_true hp] at Hpre
        rw [decide_eq_true hq] at Hsuf
        clear hp hq
        go_enter Tryd.func61, Tryd.ntmps61
        go_wp2_with fail
        go_step3
        go_wp2_with (first
          | (go_at_call 55
             refine (Hpre.out _).mono ?_
             rintro e w1 ⟨rfl, hb1⟩
             have Hb1 := Lib.hid hb1
             clear hb1)
          | (go_at_call 67
             refine (Hsuf.out _).mono ?_
             rintro e w2 ⟨rfl, hb2⟩
             have Hb2 := Lib.hid (step_call Hb1.out hb2)
             clear hb2))
        have Htk := Lib.hid (show (s.take 248).length = 248 by rw [List.length_take, Hl.out]; rfl)
        have Hx0 := Lib.hid (rest_eq s)
        have Hn0 := Lib.hid (numAt_take s 4 248 (by omega))
        have Hn1 := Lib.hid (numAt_take s 8 248 (by omega))
        have Hn2 := Lib.hid (numAt_take s 12 248 (by omega))
        have HnK := Lib.hid (fun k (h : k < 48) => numAt_take s (16 + 4 * k) 248 (by omega))
        have Hseq : Hid (seqAt s = numAt s 4 + 4294967296 * numAt s 8) := Lib.hid rfl
        have Hlo := Lib.hid (numAt_lt s 4)
        have Hhi := Lib.hid (numAt_lt s 8)
        have HB := Lib.hid (show readB s = (decide (1 ≤ numAt s 12 ∧ numAt s 12 ≤ 48) && ((numsAt s (numAt s 12)).all (fun b => decide (b < 4096)) && allZero (restT s (numAt s 12)))) by unfold readB; rw [Hform.out]; rfl)
        have HR : Hid (∀ n, restT s n = (s.take 248).drop (16 + 4 * n)) := Lib.hid (fun _ => rfl)
        have HL : Hid (readL s = if readB s then some (seqAt s, numsAt s (numAt s 12)) else none) := Lib.hid rfl
        have hTF : Hid (∀ i w, i + 4 ≤ 248 → Calls Tryd.prog 52 #[.string (B ((s.take 248).drop i))] w fun e w' => e = .returned (.tuple #[.int .u32 (numAt (s.take 248) i : Nat), .string (B ((s.take 248).drop (i + 4))), .bool true]) ∧ Below w.heap.size w w') :=
          Lib.hid (fun i w hi => wire_ToFixed_at (s.take 248) i (by rw [Htk.out]; omega) (by rw [Htk.out]; exact hi) w)
        generalize s.take 248 = t at *
        generalize numAt s 4 = n4 at *
        generalize numAt s 8 = n8 at *
        generalize numAt s 12 = n at *
        go_wp2_with fail
        rw [Hx0.out]
        refine (hTF.out 4 _ (by omega)).mono ?_
        rw [Hn0.out]
        rintro e w3 ⟨rfl, hb3⟩
        have Hb3 := Lib.hid (step_call Hb2.out hb3)
        clear hb3
        go_wp2_with fail
        refine (hTF.out 8 _ (by omega)).mono ?_
        rw [Hn1.out]
        rintro e w4 ⟨rfl, hb4⟩
        have Hb4 := Lib.hid (step_call Hb3.out hb4)
        clear hb4
        go_wp2_with fail
        refine (hTF.out 12 _ (by omega)).mono ?_
        rw [Hn2.out]
        rintro e w5 ⟨rfl, hb5⟩
        have Hb5 := Lib.hid (step_call Hb4.out hb5)
        clear hb5
        by_cases hn : 1 ≤ n ∧ n ≤ 48
        · obtain ⟨hn1, hn2⟩ := hn
          have Hn := Lib.hid (show 1 ≤ n ∧ n ≤ 48 from ⟨hn1, hn2⟩)
          obtain ⟨i0, hi, hz0, hz1, hz2⟩ := info_parts Tryd.info_intF
          go_wp2
          go_step3
          go_wp2
          go_loopw [6, 12] (fun x6 x12 wr => ∃ k : Nat, k ≤ n ∧ x6 = .string (B (t.drop (16 + 4 * k))) ∧ wr.ownsRow w.heap.size 3 1 x12 k (numCells (numsAt s k)) ∧ (numsAt s k).all (fun b => decide (b < 4096)) = true ∧ Below w.heap.size w wr) (fun x6 _ _ => match x6 with | .string b => b.size | _ => 0)
          case atStart => exact ⟨0, by omega, rfl, World.ownsRow_nil _ _ _ _, rfl, Hb5.out⟩
          case round =>
            obtain ⟨k, hk, rfl, hown, hall, hbel⟩ := hrel
            have Hall := Lib.hid hall
            have Hbel := Lib.hid hbel
            have hbz := hbel.size
            obtain ⟨ax, cx, rfl⟩ := own_form hown
            have Hown := Lib.hid hown
            clear hall hbel hown
            by_cases hlt : k < n
            · have hkn : ((k : Int) == (n : Int)) = false := by rw [beq_eq_false_iff_ne]; omega
              have Htf := Lib.hid (hTF.out (16 + 4 * k) wr (by omega))
              rw [HnK.out k (by omega)] at Htf
              have Hnb := Lib.hid (numAt_lt s (16 + 4 * k))
              have Hsucc := Lib.hid (numsAt_succ s k)
              have Hlen := Lib.hid (numsAt_length s k)
              have Hlenn := Lib.hid (numsAt_length s (k + 1))
              have Hbig : Hid (4096 ≤ numAt s (16 + 4 * k) → (numsAt s n).all (fun b => decide (b < 4096)) = false) := Lib.hid (fun h => by
                rw [← Bool.not_eq_true, List.all_eq_true]
                intro hh
                have := hh (numAt s (16 + 4 * k)) (List.mem_map.2 ⟨k, by simpa using hlt, rfl⟩)
                have := of_decide_eq_true this
                omega)
              generalize numAt s (16 + 4 * k) = b at *
              go_wp2_with fail
              refine Htf.out.mono ?_
              rintro e w6 ⟨rfl, hb6⟩
              have Hb6 := Lib.hid hb6
              have hb6s := hb6.size
              clear hb6
              by_cases hbb : b < 4096
              · have hbi : (b : Int) < 4096 := by omega
                have Hown6 := Lib.hid ((own_kept Hown.out Hb6.out).alloc (.cells #[.int .i64 (b : Int)] 3))
                have hcat : Hid (numCells (numsAt s k) ++ [.int .i64 (b : Int)] = numCells (numsAt s (k + 1))) := Lib.hid (by rw [Hsucc.out]; simp [numCells])
                have hall1 : Hid ((numsAt s (k + 1)).all (fun b => decide (b < 4096)) = true) := Lib.hid (by rw [Hsucc.out, List.all_append, Hall.out]; simpa using hbb)
                have hnews := Lib.hid (cell1_new w6 (.int .i64 (b : Int)) 3)
                have hmod : (b : Int) % 4294967296 = (b : Int) := by omega
                go_wp2_with (at_builtin; go_must (refine wpList_append_where _ rfl _ _ 38 rfl w.heap.size 3 i0 (.int .i64 0) 1 8 Tryd.underlying38 hi hz0 hz1 hz2 rfl (by decide) _ _ _ rfl Hown6.out ⟨w6.heap.size, 0, none⟩ 1 1 [.int .i64 (b : Int)] rfl rfl ?c1 ?c2 ?c3 ?c4 ?c5 ?_))
                case c1 => exact hnews.out
                case c2 => simp [Value.oneCell']
                case c3 => unfold maxLen; omega
                case c4 => omega
                case c5 => simp; omega
                intro v' w7 hown7 hgrow7 _
                have hb7 : Below w.heap.size w w7 := (step_new (step_call Hbel.out Hb6.out) _).grown hgrow7 (by simp; omega) (fun q hq => (Hown.out.lt q hq).1)
                rw [hcat.out] at hown7
                have Hown7 := Lib.hid hown7
                have Hb7 := Lib.hid hb7
                clear hown7 hb7 hgrow7
                go_wp2
                go_roundw
                case rel => exact ⟨k + 1, by omega, rfl, Hown7.out, hall1.out, Hb7.out⟩
                case measure =>
                  show (B (t.drop (16 + 4 * k + 4))).size < (B (t.drop (16 + 4 * k))).size
                  rw [size_B, size_B, List.length_drop, List.length_drop, Htk.out]; omega
              · have Hno : Hid (readB s = false) := Lib.hid (by rw [HB.out, Hbig.out (by omega)]; simp)
                have hbi : (4096 : Int) ≤ (b : Int) := by omega
                go_wp2
                try rw [Exit.noGoto_ret]
                go_ret3
                exact ⟨step_call Hbel.out Hb6.out, ReadPost.no Hno.out _ _⟩
            · obtain rfl : k = n := by omega
              have hkn : ((k : Int) == (k : Int)) = true := by simp
              have Hzero := Lib.hid (trim_zeros (t.drop (16 + 4 * k)) (by rw [List.length_drop, Htk.out]; omega) wr)
              rw [← HR.out] at Hzero
              have hlo := Hlo.out
              have hhi := Hhi.out
              have Hor := or64 n8 n4 hhi hlo
              rw [← Hseq.out] at Hor
              have HB2 : Hid (readB s = allZero (restT s k)) := Lib.hid (by rw [HB.out, Hall.out, decide_eq_true Hn.out]; rfl)
              have Hlen := Lib.hid (numsAt_length s k)
              rw [HR.out] at Hzero
              go_wp2_with fail
              refine Hzero.out.mono ?_
              rintro e w6 ⟨tt, htt, rfl, hb6⟩
              have Hb6 := Lib.hid (step_call Hbel.out hb6)
              have Hown6 := Lib.hid (own_kept Hown.out hb6)
              rw [← HR.out] at htt
              have Htt := Lib.hid htt
              clear hb6 htt
              cases hz : allZero (restT s k) with
              | true =>
                have h1 : tt = [] := of_decide_eq_true (by rw [Htt.out, hz])
                have h2 : (B tt).toList.isEmpty = true := by rw [toList_B, h1]; rfl
                have Hfin : Hid (readL s = some (seqAt s, numsAt s k)) := Lib.hid (by rw [HL.out, HB2.out, hz, if_pos rfl])
                clear hz h1
                go_wp2
                try rw [Exit.noGoto_ret]
                go_ret3
                refine ⟨Hb6.out, ?_⟩
                unfold ReadPost
                rw [Hfin.out]
                refine ⟨_, rfl, ?_⟩
                rw [Hlen.out]
                exact Hown6.out
              | false =>
                have h1 : tt ≠ [] := of_decide_eq_false (by rw [Htt.out, hz])
                have h2 : (B tt).toList.isEmpty = false := by rw [toList_B]; cases tt with
                  | nil => exact absurd rfl h1
                  | cons => rfl
                have Hno : Hid (readB s = false) := Lib.hid (by rw [HB2.out, hz])
                clear hz h1
                go_wp2
                try rw [Exit.noGoto_ret]
                go_ret3
                exact ⟨Hb6.out, ReadPost.no Hno.out _ _⟩
        · have Hno : Hid (readB s = false) := Lib.hid (by rw [HB.out, decide_eq_false hn]; rfl)
          by_cases h1 : n < 1
          · clear hn
            go_wp2
            try rw [Exit.noGoto_ret]
            go_ret3
            exact ⟨Hb5.out, ReadPost.no Hno.out _ _⟩
          · have h2 : 48 < n := by omega
            clear hn
            go_wp2
            try rw [Exit.noGoto_ret]
            go_ret3
            exact ⟨Hb5.out, ReadPost.no Hno.out _ _⟩
      · have Hno : Hid (readB s = false) := Lib.hid (by unfold readB formB; rw [decide_eq_false hq]; simp)
        rw [decide_eq_true hp] at Hpre
        rw [decide_eq_false hq] at Hsuf
        clear hp hq
        go_enter Tryd.func61, Tryd.ntmps61
        go_wp2_with fail
        go_step3
        go_wp2_with (first
          | (go_at_call 55
             refine (Hpre.out _).mono ?_
             rintro e w1 ⟨rfl, hb1⟩
             have Hb1 := Lib.hid hb1
             clear hb1)
          | (go_at_call 67
             refine (Hsuf.out _).mono ?_
             rintro e w2 ⟨rfl, hb2⟩
             have Hb2 := Lib.hid (step_call Hb1.out hb2)
             clear hb2))
        try rw [Exit.noGoto_ret]
        go_ret3
        exact ⟨Hb2.out, ReadPost.no Hno.out _ _⟩
    · have Hno : Hid (readB s = false) := Lib.hid (by unfold readB formB; rw [decide_eq_false hp]; simp)
      rw [decide_eq_false hp] at Hpre
      clear hp
      go_enter Tryd.func61, Tryd.ntmps61
      go_wp2_with fail
      go_step3
      go_wp2_with (go_at_call 55; refine (Hpre.out _).mono ?_; rintro e w1 ⟨rfl, hb1⟩; have Hb1 := Lib.hid hb1; clear hb1)
      try rw [Exit.noGoto_ret]
      go_ret3
      exact ⟨Hb1.out, ReadPost.no Hno.out _ _⟩
  · have hne : (((B s).size : Int) != 256) = true := by rw [size_B, bne_iff_ne]; omega
    have Hno : Hid (readB s = false) := Lib.hid (by unfold readB formB; rw [decide_eq_false hl]; rfl)
    clear hl
    go_enter Tryd.func61, Tryd.ntmps61
    go_wp2_with fail
    go_step3
    go_wp2
    try rw [Exit.noGoto_ret]
    go_ret3
    exact ⟨Below.refl _ _, ReadPost.no Hno.out _ _⟩
end Go.Proofs.YtlgfjoicdbjfjaaDoor
