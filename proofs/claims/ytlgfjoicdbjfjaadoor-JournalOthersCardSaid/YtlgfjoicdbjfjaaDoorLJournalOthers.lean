/- The law JournalOthers returns true for every acts, places and text. Condition: numbers and lengths fit an int. -/
import Derived.Test.YtlgfjoicdbjfjaaDoorJrnZ
namespace Go.Proofs.YtlgfjoicdbjfjaaDoor
open Go.RowKit Go.Wir Go.Blk Go.Frm Go.Jrn

theorem set1O {w : World} {g : Nat} {x0 x1 : Value} {ty : TypeId} (v : Value) (h : w.heap[g]? = some (.cells #[x0, x1] ty (0, 0))) : (w.setCell ⟨g, 1, none⟩ v).heap[g]? = some (.cells #[x0, v] ty (0, 0)) := by simp [World.setCell, Array.getElem?_modify, h]
set_option maxRecDepth 100000 in
set_option maxHeartbeats 6400000 in
theorem core_JournalOthers (v : Value) (l : List Act4) (va : Value) (at0 : List Int) (s : Txt) (w : World) (h : Acts4 w v l) (hl : l.length ≤ 9223372036854775807) (hf : ∀ a ∈ l, Fit4 a) (hat : Row w va (at0.map (Value.int .i64))) (hab : ∀ b ∈ at0, -9223372036854775808 ≤ b ∧ b ≤ 9223372036854775807) (hs : s.length ≤ 9223372036854775807) :
    Calls Tryd.prog 4 #[v, va, .string (B s)] w fun e w' => e = .returned (.bool true) ∧ Below w.heap.size w w' := by
  have Hsh := Lib.hid (law_shown4 w)
  have H := Lib.hid h
  have Hf := Lib.hid hf
  obtain ⟨oa, c, rfl⟩ := h.form
  obtain ⟨ob, cb, rfl⟩ := row_len4 hat
  have Hat := Lib.hid hat
  rw [List.length_map] at Hat ⊢
  clear h hf hat
  have hcz := size_B s
  have Hsm := Lib.hid (fun w' (b : Below w.heap.size w w') => law_small4 _ l w' (H.out.below b) hl Hf.out)
  by_cases hbad : smallB4 l = false ∨ 48 < at0.length ∨ at0.length = 0 ∨ 600 < s.length
  · generalize smallB4 l = sm at *
    have h4 : sm = false ∨ (sm = true ∧ 48 < at0.length) ∨ (sm = true ∧ at0.length = 0 ∧ ¬ 48 < at0.length) ∨ (sm = true ∧ ¬ 48 < at0.length ∧ 0 < at0.length ∧ 600 < s.length) := by
      cases sm with
      | false => exact .inl rfl
      | true =>
        right
        have h5 : 48 < at0.length ∨ at0.length = 0 ∨ 600 < s.length := by
          rcases hbad with h | h
          · exact absurd h (by simp)
          · exact h
        by_cases p1 : 48 < at0.length
        · exact .inl ⟨rfl, p1⟩
        · by_cases p2 : at0.length = 0
          · exact .inr (.inl ⟨rfl, p2, p1⟩)
          · exact .inr (.inr ⟨rfl, p1, by omega, by omega⟩)
    rcases h4 with rfl | ⟨rfl, h1⟩ | ⟨rfl, h1, h2⟩ | ⟨rfl, h1, h2, h3⟩
    all_goals
      clear hbad
      have k1 : (48 : Int) < (at0.length : Int) ∨ ¬ (48 : Int) < (at0.length : Int) := by omega
      have k2 : ((at0.length : Int) == 0) = true ∨ ((at0.length : Int) == 0) = false := by cases ((at0.length : Int) == 0) <;> simp
      have k3 : (600 : Int) < ((B s).size : Int) ∨ ¬ (600 : Int) < ((B s).size : Int) := by omega
      have K1 := Lib.hid k1
      have K2 := Lib.hid k2
      have K3 := Lib.hid k3
      clear k1 k2 k3
      go_enter Tryd.func4, Tryd.ntmps4
      go_wp2_with fail
      refine Hsh.out.mono ?_
      rintro e w1 ⟨rfl, hb⟩
      have HB := Lib.hid hb
      clear hb
      go_wp2_with fail
      refine (Hsm.out _ HB.out).mono ?_
      rintro e w2 ⟨rfl, rfl⟩
      rcases K1.out with k1 | k1 <;> rcases K2.out with k2 | k2 <;> rcases K3.out with k3 | k3
      all_goals
        first
        | (exfalso; simp at k2; omega)
        | (go_wp2; go_ret; exact ⟨rfl, HB.out⟩)
  · have hsm : smallB4 l = true := by cases hq : smallB4 l; exact absurd (.inl hq) hbad; rfl
    have hb1 : at0.length ≤ 48 := by omega
    have hb2 : 0 < at0.length := by omega
    have hb3 : s.length ≤ 600 := by omega
    obtain ⟨iw, hwi, hwz0, hwz1, hwz2⟩ := info_parts Tryd.info_wr
    clear hbad hs
    have kz : ((at0.length : Int) == 0) = false := by rw [beq_eq_false_iff_ne]; omega
    have k48 : ¬ (48 : Int) < (at0.length : Int) := by omega
    have k600 : ¬ (600 : Int) < ((B s).size : Int) := by omega
    obtain ⟨hl30, hok⟩ := small_ok4 hsm Hf.out
    rw [hsm] at Hsm
    have Hok := Lib.hid hok
    have Hab := Lib.hid hab
    clear hsm hok hab
    go_enter Tryd.func4, Tryd.ntmps4
    go_wp2_with fail
    refine Hsh.out.mono ?_
    rintro e w1 ⟨rfl, hb⟩
    have HB := Lib.hid hb
    have HBg := Lib.hid (law_begin w w1 hb)
    clear hb
    go_wp2_with fail
    refine (Hsm.out _ HB.out).mono ?_
    rintro e w2 ⟨rfl, rfl⟩
    go_wp2_with fail
    refine HBg.out.mono ?_
    rintro e w3 ⟨g, od, d0, jb, j0, wb, rfl, lw3, hrd, hfu, hpd⟩
    have L3 := Lib.hid lw3
    have W3 := Lib.hid (⟨⟨[], hrd⟩, hfu⟩ : Works 2 (fun _ => zeros) d0 j0)
    clear lw3 hrd hfu hpd HBg Hsm HB
    go_wp2
    go_loopw [11] (fun i wr => ∃ k : Nat, k ≤ l.length ∧ i = .int .i64 k ∧ ∃ d j m, Works (2 + 2 * k) m d j ∧ LiveW w wr g od d jb j wb noneR) (fun i _ => l.length - (intOf i).toNat)
    case atStart => exact ⟨0, by omega, rfl, d0, j0, _, W3.out, L3.out⟩
    case round =>
      obtain ⟨k, hk, rfl, d, j, m, hW, hL⟩ := hrel
      obtain ⟨hdo, hjf, hpe, hdl, hhm⟩ := hW.facts
      have W4 := Lib.hid hW
      have L4 := Lib.hid hL
      have Do := Lib.hid hdo
      have Jf := Lib.hid hjf
      obtain ⟨c0, c1, _⟩ := hL.cells
      clear hW hdo hjf
      by_cases hlt : k < l.length
      · obtain ⟨b, off, cap, hv, hb, hcell⟩ := H.out.row (by omega)
        simp only [Value.slice.injEq] at hv
        obtain ⟨rfl, _, rfl⟩ := hv
        obtain ⟨vk, vb, e0, e1, e2, e3, e4, e5, hr, hr2⟩ := ActAt4.below (hcell k hlt) hL.size
        have hbw : b < wr.heap.size := lt_of_cell e0
        have Hbo := Lib.hid (show b < w.heap.size from hb)
        have ha := Hok.out l[k] (List.getElem_mem hlt)
        have hk1 : (k : Int) < (l.length : Int) := by omega
        have hwr := law_writes l[k] ha vk vb wr.drew (hr2.below (below_drew wr))
        unfold actV at hwr
        have HWr := Lib.hid hwr
        have hwl := writesJ_length l[k]
        have hwf := Lib.hid (writesJ_fitW ha)
        have Hst := Lib.hid (W4.out.any (l := writesJ l[k]) (by omega))
        have L5 : Hid (LiveW w wr.drew g od d jb j wb (fun k => noneR k ∨ k < w.heap.size)) := Lib.hid (hL.drew 1).1.old
        clear hcell hr hr2 ha hL hwr
        generalize l[k] = a at *
        generalize writesJ a = x at *
        go_wp2_with fail
        go_region_held3 (fun w' => w'.cell? ⟨wb, 1, none⟩ = some (.pointer (some ⟨jb, 0, none⟩)) ∧ w'.cell? ⟨b, off + k * 6, none⟩ = some (.int .i64 a.op) ∧ w'.cell? ⟨b, off + k * 6 + 1, none⟩ = some (.int .i64 a.n) ∧ w'.cell? ⟨b, off + k * 6 + 2, none⟩ = some (.int .i64 a.pos) ∧ w'.cell? ⟨b, off + k * 6 + 3, none⟩ = some vk ∧ w'.cell? ⟨b, off + k * 6 + 4, none⟩ = some vb ∧ w'.cell? ⟨b, off + k * 6 + 5, none⟩ = some (.string (B a.data)))
          (first | with_reducible exact h7o_drew c1 e0 e1 e2 e3 e4 e5 | with_reducible exact h7o_call hb4 (by assumption) | with_reducible exact h7o_blk hw6 hx6 (h7o_drew c1 e0 e1 e2 e3 e4 e5) | with_reducible assumption | fail)
          (first
            | (go_at_call 13; go_must (refine HWr.out.mono ?_); rintro e w4 ⟨vx, rfl, hb4, hown4⟩; obtain ⟨ax, cx, rfl⟩ := own_form hown4; have HC := Lib.hid (w_commitV L5.out hb4 Do.out Jf.out (by omega) (by omega) x _ hown4 hwf.out (by omega)))
            | (go_at_call 14; go_must (refine HC.out.mono ?_); rintro e w6 ⟨rfl, l6, _, k6, _⟩; have L6 := Lib.hid (l6.less (R' := noneR) (fun k hk => .inl hk)); have hw6 := l6.blk.trans L5.out.blk.symm; have hx6 := k6 b (.inr Hbo.out))
            | fail)
        all_goals
          obtain ⟨m', hm'⟩ := Hst.out
          go_wp2
          go_roundw
          case rel => exact ⟨k + 1, by omega, by go_num, _, _, m', hm'.mono (by omega), L6.out⟩
          case measure => simp [intOf]; omega
      · obtain rfl : k = l.length := by omega
        have HHm := Lib.hid (law_home hL Do.out (by omega))
        have Hhm := Lib.hid hhm
        rw [hhm] at HHm
        clear hL hhm
        go_wp2_with fail
        refine HHm.out.mono ?_
        rintro e w5 ⟨vw, rfl, own5, b5⟩
        obtain ⟨aw, cw, rfl⟩ := own_form own5
        have Own5 := Lib.hid own5
        have B5 := Lib.hid b5
        clear own5 b5
        go_wp2
        obtain ⟨gw, capw, hvw, hgw1, hgw2, hW5⟩ := WantAt.of_own (homeM_length m) Own5.out
        simp only [Value.slice.injEq, true_and] at hvw
        obtain ⟨rfl, rfl⟩ := hvw
        have HW5 := Lib.hid hW5
        have Hg1 := Lib.hid hgw1
        have Hg2 := Lib.hid hgw2
        have HTl := Lib.hid (dataJ_length s)
        have HFn := Lib.hid (fun (n : Int) (h1 : -9223372036854775808 ≤ n) (h2 : n ≤ 9223372036854775807) (w : World) => law_fine n s h1 h2 (by omega) w)
        have HfT : Hid (∀ i, fineT s i = UInt8.ofNat i :: (dataJ s).drop 1) := Lib.hid (fun _ => rfl)
        have HatC : Hid (∀ i (hi : i < at0.length), ∃ b off, ob = some ⟨b, off, none⟩ ∧ b < w.heap.size ∧ at0.length ≤ cb ∧ w.cell? ⟨b, off + i, none⟩ = some (.int .i64 at0[i])) := Lib.hid (fun i hi => by
          rcases Hat.out with ⟨o, c, h, h0⟩ | ⟨b, off, c, h, hc, hlt, hcell⟩
          · have := congrArg List.length h0; simp at this; rw [this] at hi; simp at hi
          · simp only [Value.slice.injEq] at h
            obtain ⟨rfl, _, rfl⟩ := h
            rw [List.length_map] at hc
            exact ⟨b, off, rfl, hlt, hc, by rw [hcell i (by rw [List.length_map]; exact hi)]; simp⟩)
        have Hwsz := Lib.hid (show w.heap.size ≤ wr.heap.size from L4.out.size.size)
        have Hbw := Lib.hid (step_call L4.out.size B5.out)
        clear hW5 hgw1 hgw2 hlt hk
        generalize dataJ s = T at *
        have HT1 : Hid ((T.drop 1).length = 255) := Lib.hid (by rw [List.length_drop, HTl.out])
        have HxT : Hid ((B T).extract 1 256 = B (T.drop 1)) := Lib.hid (by rw [extract_B, L_B, List.take_of_length_le (by rw [List.length_drop, HTl.out]; exact Nat.le_refl _)])
        generalize T.drop 1 = T1 at *
        obtain ⟨wo, rfl⟩ : ∃ wo : World, wo = wr := ⟨_, rfl⟩
        go_loopw [14, 13] (fun i x wz => ∃ k : Nat, k ≤ at0.length ∧ i = .int .i64 k ∧ wz.ownsRow w5.heap.size 47 2 x k (wrI (finesF s 0 (at0.take k))) ∧ Below wo.heap.size wo wz ∧ WantAt wz wo.heap.size gw cw (setsL (homeM m) (finesF s 0 (at0.take k))) ∧ Below w.heap.size w wz ∧ w5.heap.size ≤ wz.heap.size) (fun i _ _ => at0.length - (intOf i).toNat)
        case atStart => exact ⟨0, by omega, rfl, World.ownsRow_nil _ _ _ _, B5.out, HW5.out, Hbw.out, Nat.le_refl _⟩
        case round =>
          obtain ⟨k, hk, rfl, hx, hbz, hwz, hbw, h5z⟩ := hrel
          have H5 := Lib.hid h5z
          obtain ⟨ax, cx, rfl⟩ := own_form hx
          have Hx := Lib.hid hx
          have Hbz := Lib.hid hbz
          have Hwz := Lib.hid hwz
          have Hbw := Lib.hid hbw
          by_cases hlt : k < at0.length
          · obtain ⟨b, off, rfl, hb1, hb2, hb3⟩ := HatC.out k hlt
            have c0 := cell_call hbw hb3
            have hab := Hab.out at0[k] (List.getElem_mem hlt)
            have HF := Lib.hid (HFn.out at0[k] hab.1 hab.2 wr)
            have hsn := finesF_snoc s at0 0 k hlt
            rw [Nat.zero_add] at hsn
            have Hsn := Lib.hid hsn
            have Hft : Hid (B [UInt8.ofNat k] ++ B T1 = B (fineT s k)) := Lib.hid (by rw [B_append, HfT.out k]; rfl)
            have Hfl := Lib.hid (fineT_length s k)
            clear hsn
            have hpk := pickJ_lt at0[k] 18 (by omega)
            have hk1 : (k : Int) < (at0.length : Int) := by omega
            clear hx hbz hwz hbw hb3 hab
            generalize fineT s k = ft at *
            generalize at0[k] = n at *
            generalize pickJ n 18 = pk at *
            obtain ⟨q, hq⟩ : ∃ q : Int, q = ((52 + pk : Nat) : Int) := ⟨_, rfl⟩
            rw [← hq] at HF Hsn
            have hq0 : (0 : Int) ≤ q - 52 := by omega
            have hq1 : q - 52 < (18 : Int) := by omega
            have hq3 : IntKind.i64.wrap (q - 52) = q - 52 := IntWalk.i64_in _ (by omega)
            have hq2 : (q - 52).toNat = pk := by omega
            have Hq2 := Lib.hid hq2
            clear hq hq2
            go_wp2_with fail
            refine HF.out.mono ?_
            rintro e w6 ⟨rfl, hb6⟩
            have b6 := step_new hb6 (.cells #[.int .i64 q, .string (B T)] 47)
            have g6 := heap_alloc_new w6 (.cells #[.int .i64 q, .string (B T)] 47)
            have B6 := Lib.hid b6
            have Hf6 := Lib.hid (show wr.heap.size ≤ w6.heap.size from hb6.size)
            clear b6 hb6
            go_upto_region 18 with fail
            generalize w6.alloc (.cells #[.int .i64 q, .string (B T)] 47) = w7 at *
            generalize w6.heap.size = fb at *
            obtain ⟨i0, i1, f0, f1⟩ := cells2 g6
            have G6 := Lib.hid g6
            clear g6
            have hc : (convert 49 9 (.slice (some ⟨w7.heap.size, 0, none⟩) 1 1)).run Tryd.prog ((w7.alloc (.cells #[.int .u8 (k : Int)] 5)).drew) = .ok (.string (B [UInt8.ofNat k])) ((w7.alloc (.cells #[.int .u8 (k : Int)] 5)).drew) := by
              have h := conv1 w7.drew (k : Int)
              rw [one_str] at h
              exact h
            have hTs : (B T).size = 256 := by rw [size_B, HTl.out]
            have hx1 := HxT.out
            have hs2 : (B T1).size = 255 := by rw [size_B, HT1.out]
            have hs1 : (B [UInt8.ofNat k]).size = 1 := rfl
            have hxx := Hft.out
            have hcs : ¬ 9223372036854775807 < (B [UInt8.ofNat k]).size + (B T1).size := by rw [hs1, hs2]; omega
            have j1 : (w7.alloc (.cells #[.int .u8 (k : Int)] 5)).cell? ⟨fb, 1, none⟩ = some (.string (B T)) := cell_alloc _ i1
            have j1d : (w7.alloc (.cells #[.int .u8 (k : Int)] 5)).drew.cell? ⟨fb, 1, none⟩ = some (.string (B T)) := j1
            have l1 : (w7.alloc (.cells #[.int .u8 (k : Int)] 5)).drew.frozen? ⟨fb, 1, none⟩ = false := Lib.frozen_of_heap (w := (w7.alloc (.cells #[.int .u8 (k : Int)] 5)).drew) (((step_new (Below.refl w7.heap.size w7) (.cells #[.int .u8 (k : Int)] 5)).block fb (lt_of_cell i1)).trans G6.out) 1
            have g8 := set1O (.string (B ft)) (((step_new (Below.refl w7.heap.size w7) (.cells #[.int .u8 (k : Int)] 5)).block fb (lt_of_cell i1)).trans G6.out)
            have b8 := below_to_drew (below_set (step_new B6.out (.cells #[.int .u8 (k : Int)] 5)) fb 1 (.string (B ft)) Hf6.out)
            have g8' : ((w7.alloc (.cells #[.int .u8 (k : Int)] 5)).setCell ⟨fb, 1, none⟩ (.string (B ft))).drew.heap[fb]? = some (.cells #[.int .i64 q, .string (B ft)] 47 (0, 0)) := g8
            have G8 := Lib.hid g8'
            have B8 := Lib.hid b8
            clear g8 g8' b8
            go_region
            generalize ((w7.alloc (.cells #[.int .u8 (k : Int)] 5)).setCell ⟨fb, 1, none⟩ (.string (B ft))).drew = w8 at *
            obtain ⟨i0, i1, _, _⟩ := cells2 G8.out
            have Ho := Lib.hid ((own_kept Hx.out B8.out).alloc (.cells #[.int .i64 q, .string (B ft)] 47))
            have Hb8 := Lib.hid (step_new B8.out (.cells #[.int .i64 q, .string (B ft)] 47))
            have Hf8 : Hid (fb < w8.heap.size) := Lib.hid (lt_of_cell i0)
            have Hbz8 := Lib.hid (step_call Hbz.out Hb8.out)
            clear hc hx1 hs2 hs1 hxx hcs j1 j1d l1
            go_wp2_with (at_builtin; go_must (refine wpList_append_own _ rfl _ _ 35 rfl w5.heap.size 47 iw (.agg #[.int .i64 0, .string ⟨#[]⟩]) 2 24 Tryd.underlying35 hwi hwz0 hwz1 hwz2 rfl (by decide) _ _ _ rfl Ho.out ⟨w8.heap.size, 0, none⟩ 1 1 [.int .i64 q, .string (B ft)] rfl rfl ?_ ?_ ?_ ?_ ?_ ?_))
            · exact World.news_of_block (cs := #[.int .i64 q, .string (B ft)]) (t := 47) (fr := (0, 0)) (heap_alloc_new w8 _)
            · simp [Value.oneCell']
            · unfold maxLen; omega
            · omega
            · exact Nat.le_trans H5.out Hb8.out.size
            intro v9 w9 hown9 hgrow9 _
            obtain ⟨av, cv, rfl⟩ := own_form hown9
            have hgw9 : w9.heap[gw]? = (w8.alloc (.cells #[.int .i64 q, .string (B ft)] 47)).heap[gw]? := hgrow9.block gw (by have := Hg2.out; have := H5.out; have := Hb8.out.size; omega) (fun e => by have := (Hx.out.lt gw e.symm).1; have := Hg2.out; omega)
            have hfb9 : w9.heap[fb]? = (w8.alloc (.cells #[.int .i64 q, .string (B ft)] 47)).heap[fb]? := hgrow9.block fb (by have := Hf8.out; simp; omega) (fun e => by have := (Hx.out.lt fb e.symm).2; have := Hf6.out; omega)
            have hw9 := (Hwz.out.below Hb8.out).keep hgw9
            have g9 := hfb9.trans (((step_new (Below.refl w8.heap.size w8) (.cells #[.int .i64 q, .string (B ft)] 47)).block fb Hf8.out).trans G8.out)
            obtain ⟨i0, i1, _, _⟩ := cells2 g9
            obtain ⟨mv, m0, m1, m3⟩ : ∃ u, w9.cell? ⟨gw, (q - 52).toNat, none⟩ = some u ∧ w9.frozen? ⟨gw, (q - 52).toNat, none⟩ = false ∧ 18 ≤ cw := ⟨_, (hw9.cell (q - 52).toNat (by omega)).1, (hw9.cell (q - 52).toNat (by omega)).2.1, (hw9.cell (q - 52).toNat (by omega)).2.2.2⟩
            have hb9 := Hbz8.out.grown hgrow9 (Nat.le_trans Hbz.out.size Hb8.out.size) (fun r hr => by have := (Ho.out.lt r hr).1; have := B5.out.size; omega)
            have hbw9 := (step_call Hbw.out Hb8.out).grown hgrow9 (Nat.le_trans Hbw.out.size Hb8.out.size) (fun r hr => by have := (Ho.out.lt r hr).1; have := B5.out.size; have := Hwsz.out; omega)
            have hx9 : w9.ownsRow w5.heap.size 47 2 (.slice av (k + 1) cv) (k + 1) (wrI (finesF s 0 (at0.take (k + 1)))) := by
              rw [Hsn.out, wrI_append]; exact hown9
            have hne9 : (Value.slice av (k + 1) cv).ownBlock ≠ some (⟨gw, (q - 52).toNat, none⟩ : Addr).block := fun e => by have := (hx9.lt gw e).1; have := Hg2.out; omega
            have Hx10 := Lib.hid (ownsRow_setCell_other hx9 hne9 (.string (B ft)))
            have Hw10 : Hid (WantAt (w9.setCell ⟨gw, (q - 52).toNat, none⟩ (.string (B ft))) wo.heap.size gw cw (setsL (homeM m) (finesF s 0 (at0.take (k + 1))))) := Lib.hid (by
              rw [Hsn.out, setsL_snoc]
              exact hw9.set (q - 52).toNat (by omega) ft)
            have Hb10 := Lib.hid (below_set hb9 gw (q - 52).toNat (.string (B ft)) Hg1.out)
            have Hbw10 := Lib.hid (below_set hbw9 gw (q - 52).toNat (.string (B ft)) (Nat.le_trans Hwsz.out Hg1.out))
            have Hs10 : Hid (w5.heap.size ≤ (w9.setCell ⟨gw, (q - 52).toNat, none⟩ (.string (B ft))).heap.size) := Lib.hid (by have := H5.out; have := Hb8.out.size; have := hgrow9.size; simp [World.setCell]; omega)
            clear hgrow9 hown9 hgw9 hfb9 hw9 g9 hb9 hbw9 hx9 hne9
            go_wp2
            go_roundw
            case rel => exact ⟨k + 1, by omega, by go_num, Hx10.out, Hb10.out, Hw10.out, Hbw10.out, Hs10.out⟩
            case measure => simp [intOf]; omega
          · obtain rfl : k = at0.length := by omega
            rw [List.take_of_length_le (Nat.le_refl _)] at hx hwz
            have hA := L4.out.moreA (A := fun k => (Value.slice ax at0.length cx).ownBlock = some k ∨ k = gw) hbz (fun k hk => by
              rcases hk with hk | rfl
              · exact ⟨Nat.le_trans B5.out.size (hx.lt k hk).1, (hx.lt k hk).2⟩
              · exact ⟨Hg1.out, Nat.lt_of_lt_of_le Hg2.out h5z⟩)
            have hgood := finesF_good s at0 hb2 hb1
            have hlen := finesF_length s at0 0
            have hws : Wrs wr (.slice ax at0.length cx) (finesF s 0 at0) := own_wrI (by rw [hlen]; exact hx)
            have HC := Lib.hid (w_commitR hA Do.out Jf.out (by omega) (by omega) (finesF s 0 at0) (.slice ax at0.length cx) hws (fun k hk => .inr (.inl hk)) (fun p hp => by
              have h3 := hgood.2.2 p hp
              exact ⟨by omega, by omega, by omega⟩) (by omega))
            rcases W4.out.commit (l := finesF s 0 at0) (by omega) with ⟨_, _, _, hng⟩ | ⟨_, q1, q2, _, _⟩
            · exact absurd hgood hng
            obtain ⟨f1, f2, f3, f4, f5⟩ := q2.facts
            rw [homeM_upd _ _ hgood.2.2] at f5
            rw [q1] at HC
            generalize finesF s 0 at0 = X at *
            generalize (commit d j X).2.1 = d' at *
            generalize (commit d j X).2.2 = j' at *
            have F1 := Lib.hid f1
            have F5 := Lib.hid f5
            have Hwz := Lib.hid hwz
            obtain ⟨c0, c1, _⟩ := hA.cells
            clear hA hx hbz hwz hbw h5z hgood hlen hws q1 q2 f1 f2 f4 f5
            go_wp2_with fail
            refine HC.out.mono ?_
            rintro e w6 ⟨rfl, l6, k6⟩
            have w6w := Hwz.out.keep (k6 gw (.inr (.inr rfl)))
            have HHm6 := Lib.hid (law_home l6 F1.out (by omega))
            rw [F5.out] at HHm6
            have hwl := Hwz.out.1
            have Hwl := Lib.hid hwl
            have L6 := Lib.hid l6
            have W6 := Lib.hid w6w
            clear l6 k6 w6w hwl
            generalize setsL (homeM m) X = Lw at *
            go_wp2_with (first
              | (go_at_call 16; refine HHm6.out.mono ?_; rintro e w9 ⟨vh2, rfl, own9, b9⟩; obtain ⟨ah2, ch2, rfl⟩ := own_form own9; have hs9 := law_sameTexts4 (.slice ah2 18 ch2) (.slice (some ⟨gw, 0, none⟩) 18 cw) Lw Lw (by rw [Hwl.out]; omega) (by rw [Hwl.out]; omega) w9 (own_row (by rw [Hwl.out]; exact own9)) (W6.out.below b9).row; rw [decide_eq_true rfl] at hs9; have HS := Lib.hid hs9; have B9 := Lib.hid (step_call L6.out.size b9); clear own9 b9 hs9)
              | (go_at_call 18; refine HS.out.mono ?_; rintro e w10 ⟨rfl, b10⟩; have B10 := Lib.hid (step_call B9.out b10); clear b10)
              | fail)
            go_ret
            exact ⟨rfl, B10.out⟩
theorem walk_JournalOthers (v : Value) (l : List Act4) (va : Value) (at0 : List Int) (s : ByteArray) (w : World) (h : Acts4 w v l) (hf : ∀ a ∈ l, Fit4 a) (hl : l.length ≤ maxLen) (hat : Row w va (at0.map (Value.int .i64))) (hab : ∀ n ∈ at0, (Lit.int .i64 n).wf = true) (hs : s.size ≤ maxLen) :
    Calls Tryd.prog 4 #[v, va, .string s] w fun e w' => e = .returned (.bool true) ∧ Below w.heap.size w w' := by
  unfold maxLen at hl hs
  have h1 := core_JournalOthers v l va at0 (L s) w h (by omega) hf hat (fun n hn => bounds_i64J (hab n hn)) (by rw [length_L]; omega)
  rwa [B_L] at h1
end Go.Proofs.YtlgfjoicdbjfjaaDoor
