/- The law BlockOthers returns true for every number, acts, crash and place. Condition: numbers and lengths fit an int. -/
import Derived.Test.YtbcagddgchpheaaBlkT
import Derived.Test.YtbcagddgchpheaaBlkR
import Derived.Test.YtbcagddgchpheaaBlkS
import Derived.Deep.QuietTactic
import Derived.BigQuiet
import Derived.Deep.RegionHeld3
namespace Go.Proofs.Ytbcagddgchpheaa
open Go.RowKit Go.Blk

/-- Block i behind a crash, where one write of t was pending there. -/
def tornT (a : Act) (t old : Txt) : Txt := if a.keep.getD 0 false then t else if a.pos = 0 then t.take (cutN a.n) ++ old.drop (cutN a.n) else old
theorem others_plain {d : Dv} (hd : d.dead = false) (hp : d.pend = []) (i : Nat) (hi : i < d.disk.length) (t : Txt) (ht : t.length = 256) (a : Act) :
    writeE (fuseD d (-1)) (i : Nat) t = 0 ∧ (writeD (fuseD d (-1)) (i : Nat) t).pend.length = 1 ∧ (writeD (fuseD d (-1)) (i : Nat) t).disk = d.disk ∧ readT (writeD (fuseD d (-1)) (i : Nat) t) (i : Nat) = t ∧
    (crashD (writeD (fuseD d (-1)) (i : Nat) t) a.keep a.pos a.n).disk = d.disk.set i (tornT a t d.disk[i]) := by
  have hin : inD (fuseD d (-1)) (i : Nat) = true := by
    unfold inD fuseD
    simp; omega
  have hok : turnOk (fuseD d (-1)) = true := by unfold turnOk fuseD; simp
  have hdd : (fuseD d (-1)).dead = false := hd
  have htd : turnD (fuseD d (-1)) = { d with fuse := -1 } := by
    unfold turnD fuseD
    simp
  have hW : writeD (fuseD d (-1)) (i : Nat) t = { d with fuse := -1, pend := [(i, t)] } := by
    unfold writeD
    rw [if_neg (by rw [hdd]; simp), if_pos hin, if_pos ht, if_pos hok, htd]
    simp only [fuseD, hp, List.nil_append, Int.toNat_natCast]
  refine ⟨?_, by rw [hW]; rfl, by rw [hW], ?_, ?_⟩
  · unfold writeE
    rw [if_neg (by rw [hdd]; simp), if_pos hin, if_pos ht, if_pos hok]
  · rw [hW]
    unfold readT
    rw [if_neg (by simp [hd]), if_pos (by unfold inD; simp; omega)]
    simp [lastW]
  · rw [hW]
    unfold crashD
    simp only [crashL]
    unfold tornT
    by_cases h1 : a.keep.getD 0 false = true
    · rw [if_pos h1, if_pos h1]
    · rw [if_neg h1, if_neg h1]
      by_cases h2 : a.pos = 0
      · rw [if_pos (by simp [h2]), if_pos h2]
        congr 2
        rw [List.getD_eq_getElem?_getD, List.getElem?_eq_getElem hi, Option.getD_some]
      · rw [if_neg (by simp; omega), if_neg h2, List.set_getElem_self]
theorem torn_cases (a : Act) (old : Txt) (_ : old.length = 256) : ∀ j (_ : j < 256), (tornT a (fullT 120) old)[j]? = some 120 ∨ (tornT a (fullT 120) old)[j]? = old[j]? := by
  intro j hj
  have hf : (fullT 120)[j]? = some 120 := by rw [fullT, List.getElem?_replicate, if_pos hj]
  have hc := cutN_le a.n
  unfold tornT
  split
  · exact .inl hf
  · split
    · by_cases h : j < cutN a.n
      · left
        rw [List.getElem?_append_left (by rw [List.length_take, fullT, List.length_replicate]; omega), List.getElem?_take, if_pos h, hf]
      · right
        have hl : ((fullT 120).take (cutN a.n)).length = cutN a.n := by rw [List.length_take, fullT, List.length_replicate]; omega
        rw [List.getElem?_append_right (by omega), hl, List.getElem?_drop, show cutN a.n + (j - cutN a.n) = j by omega]
    · exact .inr rfl
theorem byte_cases {T old : Txt} {k : Nat} (e1 : k < (B T).size) (e2 : k < (B old).size) (h : T[k]? = some 120 ∨ T[k]? = old[k]?) : ((((B T)[k]'e1).toNat : Int) != 120) = false ∨ (((((B T)[k]'e1).toNat : Int) != 120) = true ∧ ((((B T)[k]'e1).toNat : Int) != (((B old)[k]'e2).toNat : Int)) = false) := by
  have k1 : k < T.length := by rw [← size_B]; exact e1
  have k2 : k < old.length := by rw [← size_B]; exact e2
  have g1 : (B T)[k]'e1 = T[k] := rfl
  have g2 : (B old)[k]'e2 = old[k] := rfl
  rw [g1, g2]
  rw [List.getElem?_eq_getElem k1, List.getElem?_eq_getElem k2] at h
  by_cases hb : T[k] = 120
  · left; rw [hb]; rfl
  · right
    rcases h with h | h
    · exact absurd (Option.some.inj h) hb
    · refine ⟨?_, by rw [Option.some.inj h]; simp⟩
      rw [bne_iff_ne]
      intro h5
      exact hb (UInt8.toNat_inj.1 (by have : (120 : UInt8).toNat = 120 := rfl; omega))
theorem keep_cases {w : World} {o : Option Addr} {c : Nat} {keep : List Bool} (h : Row w (.slice o keep.length c) (keep.map Value.bool)) : (keep.length = 0 ∧ keep.getD 0 false = false) ∨ (0 < keep.length ∧ ∃ b off, o = some ⟨b, off, none⟩ ∧ w.cell? ⟨b, off, none⟩ = some (.bool (keep.getD 0 false))) := by
  cases keep with
  | nil => exact .inl ⟨rfl, rfl⟩
  | cons x l =>
    right
    refine ⟨by simp, ?_⟩
    rcases h with ⟨_, _, _, h0⟩ | ⟨b, off, cap, h1, _, hb, hc⟩
    · simp at h0
    · simp only [Value.slice.injEq] at h1
      exact ⟨b, off, h1.1, by have := hc 0 (by simp); simpa using this⟩
theorem boxed (w : World) (a : Act) (vk : Value) : (w.alloc (.cells #[.int .i64 a.op, .int .i64 a.pos, .int .i64 a.n, vk, .string (B a.data)] 37)).cell? ⟨w.heap.size, 1, none⟩ = some (.int .i64 a.pos) ∧
    (w.alloc (.cells #[.int .i64 a.op, .int .i64 a.pos, .int .i64 a.n, vk, .string (B a.data)] 37)).cell? ⟨w.heap.size, 2, none⟩ = some (.int .i64 a.n) ∧
    (w.alloc (.cells #[.int .i64 a.op, .int .i64 a.pos, .int .i64 a.n, vk, .string (B a.data)] 37)).cell? ⟨w.heap.size, 3, none⟩ = some vk ∧
    (w.alloc (.cells #[.int .i64 a.op, .int .i64 a.pos, .int .i64 a.n, vk, .string (B a.data)] 37)).cell? ⟨w.heap.size, 4, none⟩ = some (.string (B a.data)) := by
  have hh := heap_alloc_new w (.cells #[.int .i64 a.op, .int .i64 a.pos, .int .i64 a.n, vk, .string (B a.data)] 37)
  refine ⟨?_, ?_, ?_, ?_⟩ <;> (rw [Lib.cell_of_heap hh]; rfl)
set_option maxRecDepth 100000 in
set_option maxHeartbeats 3200000 in
theorem core_BlockOthers (n : Int) (v : Value) (l : List Act) (a : Act) (vk : Value) (at0 : Int) (w : World) (hn1 : -9223372036854775808 ≤ n) (hn2 : n ≤ 9223372036854775807) (h : Acts w v l) (hl : l.length ≤ 9223372036854775807) (hf : ∀ a ∈ l, Fit a) (hk : Row w vk (a.keep.map Value.bool)) (hfa : Fit a) (ha1 : -9223372036854775808 ≤ at0) (ha2 : at0 ≤ 9223372036854775807) :
    Calls Try.prog 5 #[.int .i64 n, v, .agg #[.int .i64 a.op, .int .i64 a.pos, .int .i64 a.n, vk, .string (B a.data)], .int .i64 at0] w fun e w' => e = .returned (.bool true) ∧ Below w.heap.size w w' := by
  have Hsh := Lib.hid (fun w => law_shown w)
  have H := Lib.hid h
  have Hf := Lib.hid hf
  have Hk := Lib.hid hk
  obtain ⟨oa, c, rfl⟩ := h.form
  obtain ⟨f1, f2, f3, f4, f5, f6, f7, f8⟩ := hfa
  obtain ⟨ok, ck, rfl⟩ : ∃ o c, vk = .slice o a.keep.length c := by
    rcases hk with ⟨o, c, rfl, h0⟩ | ⟨b, off, cap, rfl, _⟩
    · have : a.keep.length = 0 := by have := congrArg List.length h0; simpa using this
      exact ⟨o, c, by rw [this]⟩
    · exact ⟨_, _, by rw [List.length_map]⟩
  clear h hf hk
  have Hsm := Lib.hid (fun w' (b : Below w.heap.size w w') => law_small _ l w' (H.out.below b) hl Hf.out)
  have hds := size_B a.data
  cases hsm : smallB l with
  | false =>
    rw [hsm] at Hsm
    clear hsm
    go_enter Try.func5, Try.ntmps5
    go_wp2_with fail
    refine (Hsh.out _).mono ?_
    rintro e w1 ⟨rfl, hb⟩
    have HB := Lib.hid (step_call (step_new (Below.refl _ w) _) hb)
    have b0 := cell_call hb (boxed w a (.slice ok a.keep.length ck)).1
    have b1 := cell_call hb (boxed w a (.slice ok a.keep.length ck)).2.1
    have b2 := cell_call hb (boxed w a (.slice ok a.keep.length ck)).2.2.1
    have b3 := cell_call hb (boxed w a (.slice ok a.keep.length ck)).2.2.2
    clear hb
    go_wp2_with fail
    refine (Hsm.out _ HB.out).mono ?_
    rintro e w2 ⟨rfl, rfl⟩
    go_wp2
    go_ret
    exact ⟨rfl, HB.out⟩
  | true =>
    obtain ⟨hl60, hok⟩ := small_ok hsm Hf.out
    rw [hsm] at Hsm
    have Hok := Lib.hid hok
    clear hsm hok
    by_cases h2 : 200 < a.keep.length
    · have h2' : (200 : Int) < (a.keep.length : Int) := by omega
      go_enter Try.func5, Try.ntmps5
      go_wp2_with fail
      refine (Hsh.out _).mono ?_
      rintro e w1 ⟨rfl, hb⟩
      have HB := Lib.hid (step_call (step_new (Below.refl _ w) _) hb)
      have b0 := cell_call hb (boxed w a (.slice ok a.keep.length ck)).1
      have b1 := cell_call hb (boxed w a (.slice ok a.keep.length ck)).2.1
      have b2 := cell_call hb (boxed w a (.slice ok a.keep.length ck)).2.2.1
      have b3 := cell_call hb (boxed w a (.slice ok a.keep.length ck)).2.2.2
      clear hb
      go_wp2_with fail
      refine (Hsm.out _ HB.out).mono ?_
      rintro e w2 ⟨rfl, rfl⟩
      go_wp2
      go_ret
      exact ⟨rfl, HB.out⟩
    have h2' : (a.keep.length : Int) ≤ 200 := by omega
    by_cases h6 : 600 < a.data.length
    · have h6' : (600 : Int) < (a.data.length : Int) := by omega
      go_enter Try.func5, Try.ntmps5
      go_wp2_with fail
      refine (Hsh.out _).mono ?_
      rintro e w1 ⟨rfl, hb⟩
      have HB := Lib.hid (step_call (step_new (Below.refl _ w) _) hb)
      have b0 := cell_call hb (boxed w a (.slice ok a.keep.length ck)).1
      have b1 := cell_call hb (boxed w a (.slice ok a.keep.length ck)).2.1
      have b2 := cell_call hb (boxed w a (.slice ok a.keep.length ck)).2.2.1
      have b3 := cell_call hb (boxed w a (.slice ok a.keep.length ck)).2.2.2
      clear hb
      go_wp2_with fail
      refine (Hsm.out _ HB.out).mono ?_
      rintro e w2 ⟨rfl, rfl⟩
      go_wp2
      go_ret
      exact ⟨rfl, HB.out⟩
    have h6' : (a.data.length : Int) ≤ 600 := by omega
    go_enter Try.func5, Try.ntmps5
    go_wp2_with fail
    refine (Hsh.out _).mono ?_
    rintro e w1 ⟨rfl, hb⟩
    have HB := Lib.hid (step_call (step_new (Below.refl _ w) _) hb)
    have b0 := cell_call hb (boxed w a (.slice ok a.keep.length ck)).1
    have b1 := cell_call hb (boxed w a (.slice ok a.keep.length ck)).2.1
    have b2 := cell_call hb (boxed w a (.slice ok a.keep.length ck)).2.2.1
    have b3 := cell_call hb (boxed w a (.slice ok a.keep.length ck)).2.2.2
    clear hb
    go_wp2_with fail
    refine (Hsm.out _ HB.out).mono ?_
    rintro e w2 ⟨rfl, rfl⟩
    have Hmk := Lib.hid (live_made (w0 := w1) n _ l (Below.refl _ w1) hn1 hn2 (H.out.below HB.out) hl60 Hok.out)
    go_wp2_with fail
    refine Hmk.out.mono ?_
    rintro e w3 ⟨g, od, rfl, hV⟩
    obtain ⟨hD, hP⟩ := made_facts n l hl60 Hok.out
    generalize doesAll (newD (1 + pickN n 12)) l = D at *
    have HV := Lib.hid hV
    have HD := Lib.hid hD
    have Hw01 := Lib.hid (lt_of_cell b0)
    have Hb0 := Lib.hid b0
    have Hb1 := Lib.hid b1
    have Hb2 := Lib.hid b2
    clear hV hD b0 b1 b2 b3
    go_wp2_with fail
    refine (live_Dead HV.out).mono ?_
    rintro e w4 ⟨rfl, rfl⟩
    cases hdead : D.dead with
    | true =>
      clear hdead
      go_wp2
      go_ret
      exact ⟨rfl, HB.out.trans (HV.out.size.mono HB.out.size)⟩
    | false =>
      have Hfl := Lib.hid (live_Flush HV.out HD.out (by omega))
      have HF := Lib.hid (flush_ok HD.out)
      by_cases h0 : flushE D = 0
      · have HG := Lib.hid (flush_good h0)
        rw [h0] at Hfl
        generalize flushD D = F at *
        clear hdead h0
        have hFn := HF.out.n1
        have hF0 := HF.out.n0
        have Hpk := Lib.hid (fun w => law_pick at0 F.disk.length ha1 ha2 (by omega) (by omega) w)
        have hii := pickN_lt at0 F.disk.length (by omega)
        generalize pickN at0 F.disk.length = i at *
        have hx256 : (fullT 120).length = 256 := by rw [fullT, List.length_replicate]
        obtain ⟨p1, p2, p3, p4, p5⟩ := others_plain HG.out.1 HG.out.2 i hii (fullT 120) hx256 a
        have Hful := Lib.hid (fun w => law_full 120 w)
        have hGok := fuse_ok HF.out (-1) (by omega)
        have hWok := write_ok hGok (i : Nat) (fullT 120)
        have HCok := Lib.hid (crash_ok hWok a.keep a.pos a.n)
        have HGok := Lib.hid hGok
        have HWok := Lib.hid hWok
        have HGp : Hid ((fuseD F (-1)).pend.length = 0) := Lib.hid (by show F.pend.length = 0; rw [HG.out.2]; rfl)
        have hT : Hid (∀ j (hj : j < 256), (tornT a (fullT 120) F.disk[i])[j]? = some 120 ∨ (tornT a (fullT 120) F.disk[i])[j]? = (F.disk[i])[j]?) := Lib.hid (torn_cases a F.disk[i] (HF.out.disk _ (List.getElem_mem hii)))
        clear hGok hWok
        go_wp2_with (go_at_call 25; refine Hfl.out.mono ?_; rintro e w5 ⟨rfl, hV, _⟩; have HV5 := Lib.hid hV; clear hV)
        refine (live_Disk HV5.out (by omega)).mono ?_
        rintro e w6 ⟨vd, rfl, hd, hV, _⟩
        have HV6 := Lib.hid hV
        obtain ⟨bd, cd, curd, hvd, _⟩ := own_txt hd HF.out.n0
        subst hvd
        have Hd6 := Lib.hid hd
        clear hV hd
        go_wp2_with fail
        refine (live_Blocks HV6.out).mono ?_
        rintro e w7 ⟨rfl, rfl⟩
        go_wp2_with fail
        refine (Hpk.out _).mono ?_
        rintro e w7 ⟨rfl, rfl⟩
        go_wp2_with fail
        refine (live_Fuse HV6.out (-1)).mono ?_
        rintro e w7 ⟨rfl, hV, hk7⟩
        have HV7 := Lib.hid hV
        have Hd7 := Lib.hid (own_keeps Hd6.out (fun q h => .inr h) hk7)
        clear hV hk7
        go_wp2_with fail
        refine (Hful.out _).mono ?_
        rintro e w8 ⟨rfl, hb8⟩
        have HV8 := Lib.hid (HV7.out.call hb8).1
        have Hd8 := Lib.hid (own_kept4 Hd7.out hb8)
        clear hb8
        have Hwr := Lib.hid (live_Write HV8.out HGok.out (by rw [HGp.out]; omega) (i : Nat) (B (fullT 120)) (by omega) (by omega) (by rw [size_B, hx256]; omega))
        rw [L_B, p1] at Hwr
        have Hp2 := Lib.hid p2
        have Hp3 := Lib.hid p3
        have Hp4 := Lib.hid p4
        have Hp5 := Lib.hid p5
        clear p1 p2 p3 p4 p5
        generalize fuseD F (-1) = G at *
        generalize writeD G (i : Nat) (fullT 120) = Wd at *
        have Htl := Lib.hid hx256
        clear hx256
        generalize htt : fullT 120 = t at *
        have Htt := Lib.hid htt
        clear htt
        go_wp2_with fail
        refine Hwr.out.mono ?_
        rintro e w9 ⟨rfl, hV, hk9⟩
        have HV9 := Lib.hid hV
        have Hd9 := Lib.hid (own_keeps Hd8.out (fun q h => .inr h) hk9)
        clear hV hk9
        go_wp2_with (go_at_call 20; refine (live_Pending HV9.out (by rw [Hp2.out]; omega)).mono ?_; rintro e w10 ⟨vq, rfl, hvq, hV, hk10⟩; have HV10 := Lib.hid (hV.less (R' := fun k => noneR k ∨ (Value.slice (some ⟨bd, 0, none⟩) F.disk.length cd).ownBlock = some k) (fun k h => .inl h)); have Hd10 := Lib.hid (own_keeps Hd9.out (fun q h => .inr h) hk10); rw [Hp2.out] at hvq; obtain ⟨aq, cq, rfl⟩ := own_formQ hvq; clear hV hk10 hvq)
        have Hrd := Lib.hid (live_Read HV10.out HWok.out (by rw [Hp2.out]; omega) (i : Nat) (by omega) (by omega))
        rw [Hp4.out] at Hrd
        refine Hrd.out.mono ?_
        rintro e w11 ⟨rfl, hV, hk11⟩
        have HV11 := Lib.hid hV
        have Hd11 := Lib.hid (own_keeps Hd10.out (fun q h => .inr h) hk11)
        have c0 := cell_below hV.size Hw01.out Hb0.out
        have c1 := cell_below hV.size Hw01.out Hb1.out
        have c2 := cell_below hV.size Hw01.out Hb2.out
        have Hcr := Lib.hid (live_Crash HV11.out HWok.out (by rw [Hp2.out]; omega) (.slice ok a.keep.length ck) a.keep a.pos a.n (Hk.out.below (HB.out.trans (hV.size.mono HB.out.size))) (fun h0 q hq => .inl (by
          rcases Hk.out with ⟨o, c, h1, h3⟩ | ⟨b, off, cap, h1, _, hb, _⟩
          · have := congrArg List.length h3; simp at this; rw [this] at h0; simp at h0
          · rw [h1] at hq
            obtain rfl : b = q := by simpa [Value.ownBlock] using hq
            have := HB.out.size; omega)) (by omega))
        clear hV hk11
        generalize crashD Wd a.keep a.pos a.n = C at *
        go_wp2_with fail
        refine Hcr.out.mono ?_
        rintro e w12 ⟨rfl, hV, hk12⟩
        have HV12 := Lib.hid hV
        have Hd12 := Lib.hid (own_keeps Hd11.out (fun q h => .inr h) hk12)
        clear hV hk12 c0 c1 c2
        go_wp2_with fail
        refine (live_Disk HV12.out (by rw [Hp5.out, List.length_set]; omega)).mono ?_
        rintro e w13 ⟨va, rfl, hva, hV, hk13⟩
        have HV13 := Lib.hid hV
        have hvb := own_keeps Hd12.out (fun q h => .inr h) hk13
        rw [Hp5.out] at hva
        obtain ⟨ba, ca, cura, rfl, hba, _, _, _, hca, _⟩ := own_txt hva (by rw [List.length_set]; omega)
        obtain ⟨bd', cd', curd', e1, hbd, _, _, _, hcb, _⟩ := own_txt hvb HF.out.n0
        simp only [Value.slice.injEq, Option.some.injEq, Addr.mk.injEq, and_true, true_and] at e1
        obtain ⟨rfl, rfl⟩ := e1
        have Hca := Lib.hid hca
        have Hcb := Lib.hid hcb
        have HB13 := Lib.hid (HB.out.trans (hV.size.mono HB.out.size))
        have Hx0 := Lib.hid (cell_below hV.size Hw01.out Hb0.out)
        have Hx2 := Lib.hid (cell_below hV.size Hw01.out Hb2.out)
        have hw13 := hV.size.size
        rw [List.length_set]
        have hold : F.disk[i].length = 256 := HF.out.disk _ (List.getElem_mem hii)
        have Hold := Lib.hid hold
        clear hV hk13 hvb hva hca hcb hold
        have HTl : Hid ((tornT a t F.disk[i]).length = 256) := Lib.hid (HCok.out.disk _ (by rw [Hp5.out]; exact List.mem_iff_getElem.2 ⟨i, by rw [List.length_set]; exact hii, List.getElem_set_self _⟩))
        have HT1 : Hid (a.keep.getD 0 false = true → tornT a t F.disk[i] = t) := Lib.hid (fun h => by unfold tornT; rw [if_pos h])
        have HT2 : Hid (a.keep.getD 0 false = false → a.pos ≠ 0 → tornT a t F.disk[i] = F.disk[i]) := Lib.hid (fun h h2 => by unfold tornT; rw [if_neg (by rw [h]; simp), if_neg h2])
        generalize hTT : tornT a t F.disk[i] = T at *
        clear hTT
        go_wp2
        go_loopw [18] (fun x18 wr => ∃ k : Nat, k ≤ F.disk.length ∧ x18 = .int .i64 k ∧ Below w13.heap.size w13 wr) (fun x18 _ => F.disk.length - (intOf x18).toNat)
        case atStart => exact ⟨0, by omega, rfl, Below.refl _ _⟩
        case round =>
          obtain ⟨k, hk, rfl, hbel⟩ := hrel
          have Hbel := Lib.hid hbel
          by_cases hlt : k < F.disk.length
          · have d1 := cell_below hbel hba (Hca.out k (by rw [List.length_set]; exact hlt))
            have d2 := cell_below hbel hbd (Hcb.out k hlt)
            have hk1 : (k : Int) < (F.disk.length : Int) := by omega
            by_cases hki : k = i
            · have hg : ((k : Int) != (i : Int)) = false := by rw [hki]; simp
              clear hbel d1 d2 hki
              go_wp2
              go_quiet (fail)
              go_wp2
              go_roundw
              case rel => exact ⟨k + 1, by omega, by go_num, below_drewN Hbel.out _⟩
              case measure => simp [intOf]; omega
            · have hg : ((k : Int) != (i : Int)) = true := by rw [bne_iff_ne]; omega
              rw [List.getElem_set_ne (by omega)] at d1
              have d1n : ∀ n, (wr.drewN n).cell? ⟨ba, k, none⟩ = some (.string (B F.disk[k])) := fun _ => d1
              have d2n : ∀ n, (wr.drewN n).cell? ⟨bd, k, none⟩ = some (.string (B F.disk[k])) := fun _ => d2
              clear hbel
              generalize F.disk[k] = s at *
              go_wp2
              go_quiet (fail)
              go_wp2
              go_roundw
              case rel => exact ⟨k + 1, by omega, by go_num, below_drewN Hbel.out _⟩
              case measure => simp [intOf]; omega
          · obtain rfl : k = F.disk.length := by omega
            obtain ⟨wA, rfl⟩ : ∃ wo : World, wo = wr := ⟨_, rfl⟩
            have h01 := Hw01.out
            have hx0 := cell_below hbel (by omega) Hx0.out
            have hx2 := cell_below hbel (by omega) Hx2.out
            have da := cell_below hbel hba (Hca.out i (by rw [List.length_set]; exact hii))
            have db := cell_below hbel hbd (Hcb.out i hii)
            rw [List.getElem_set_self] at da
            have HBA := Lib.hid (step_call HB13.out hbel)
            have hcase := keep_cases (Hk.out.below HBA.out)
            generalize F.disk[i] = old at *
            have hii2 : (i : Int) < (F.disk.length : Int) := by omega
            clear h01 hbel hlt
            rcases hcase with ⟨hk0, hkv⟩ | ⟨hk0, kb, koff, rfl, hkc⟩
            rotate_left
            · have hk1 : (0 : Int) < (a.keep.length : Int) := by omega
              cases hkv : a.keep.getD 0 false with
              | true =>
                rw [hkv] at hkc
                rw [HT1.out hkv] at da
                clear hkv hk0
                go_wp2
                go_region_held3 (fun w' => w'.cell? ⟨ba, i, none⟩ = some (.string (B t)))
                  (first | exact cell_call hb9 (by assumption) | exact da | assumption | go_keep)
                  (first | (go_at_call 28; refine (Hful.out _).mono ?_; rintro e w9 ⟨rfl, hb9⟩; have HB9 : Hid (Below wA.heap.size wA w9) := Lib.hid (by first | exact hb9 | exact step_call (below_drew _) hb9)))
                all_goals
                  go_wp2
                  go_ret
                  first
                    | exact ⟨rfl, step_call HBA.out HB9.out⟩
                    | exact ⟨rfl, (step_call HBA.out HB9.out).drew⟩
                    | exact ⟨rfl, below_drewN (step_call HBA.out HB9.out) _⟩
              | false =>
                rw [hkv] at hkc
                have HT3 := Lib.hid (HT2.out hkv)
                clear hkv hk0
                go_wp2
                have hsT := size_B T
                rw [HTl.out] at hsT
                have hsO := size_B old
                rw [Hold.out] at hsO
                go_loopw [20] (fun x20 wr => ∃ k : Nat, k ≤ 256 ∧ x20 = .int .i64 k ∧ Below wA.heap.size wA wr) (fun x20 _ => 256 - (intOf x20).toNat)
                case atStart => exact ⟨0, by omega, rfl, Below.refl _ _⟩
                case round =>
                  obtain ⟨k3, hk3, rfl, hbel⟩ := hrel
                  have HbelB := Lib.hid hbel
                  have da := cell_call hbel da
                  have db := cell_call hbel db
                  have x0 := cell_call hbel hx0
                  by_cases hlt : k3 < 256
                  · have e1 : k3 < (B T).size := by omega
                    have e2 : k3 < (B old).size := by omega
                    have hk1 : (k3 : Int) < 256 := by omega
                    have dan : ∀ n, (wr.drewN n).cell? ⟨ba, i, none⟩ = some (.string (B T)) := fun _ => da
                    have dbn : ∀ n, (wr.drewN n).cell? ⟨bd, i, none⟩ = some (.string (B old)) := fun _ => db
                    have hT3 := byte_cases e1 e2 (hT.out k3 hlt)
                    clear hbel
                    rcases hT3 with hg | ⟨hg, hg2⟩
                    all_goals
                      go_wp2
                      go_quiet (fail)
                      go_wp2
                      go_roundw
                      case rel => exact ⟨k3 + 1, by omega, by go_num, below_drewN HbelB.out _⟩
                      case measure => simp [intOf]; omega
                  · obtain rfl : k3 = 256 := by omega
                    clear hbel
                    by_cases hp0 : a.pos = 0
                    · have hq : (a.pos == 0) = true := by rw [hp0]; rfl
                      clear hp0
                      go_wp2
                      go_quiet (fail)
                      go_wp2
                      go_ret
                      exact ⟨rfl, below_drewN (step_call HBA.out HbelB.out) _⟩
                    · have hq : (a.pos == 0) = false := by rw [beq_eq_false_iff_ne]; exact hp0
                      rw [HT3.out hp0] at da
                      have dan : ∀ n, (wr.drewN n).cell? ⟨ba, i, none⟩ = some (.string (B old)) := fun _ => da
                      have dbn : ∀ n, (wr.drewN n).cell? ⟨bd, i, none⟩ = some (.string (B old)) := fun _ => db
                      have x0n : ∀ n, (wr.drewN n).cell? ⟨w.heap.size, 1, none⟩ = some (.int .i64 a.pos) := fun _ => x0
                      clear hp0
                      go_wp2
                      go_quiet (fail)
                      go_wp2
                      go_ret
                      exact ⟨rfl, below_drewN (step_call HBA.out HbelB.out) _⟩
            · have hk1 : (a.keep.length : Int) ≤ 0 := by omega
              have HT3 := Lib.hid (HT2.out hkv)
              clear hkv hk0
              go_wp2
              have hsT := size_B T
              rw [HTl.out] at hsT
              have hsO := size_B old
              rw [Hold.out] at hsO
              go_loopw [20] (fun x20 wr => ∃ k : Nat, k ≤ 256 ∧ x20 = .int .i64 k ∧ Below wA.heap.size wA wr) (fun x20 _ => 256 - (intOf x20).toNat)
              case atStart => exact ⟨0, by omega, rfl, Below.refl _ _⟩
              case round =>
                obtain ⟨k3, hk3, rfl, hbel⟩ := hrel
                have HbelB := Lib.hid hbel
                have da := cell_call hbel da
                have db := cell_call hbel db
                have x0 := cell_call hbel hx0
                by_cases hlt : k3 < 256
                · have e1 : k3 < (B T).size := by omega
                  have e2 : k3 < (B old).size := by omega
                  have hk1 : (k3 : Int) < 256 := by omega
                  have dan : ∀ n, (wr.drewN n).cell? ⟨ba, i, none⟩ = some (.string (B T)) := fun _ => da
                  have dbn : ∀ n, (wr.drewN n).cell? ⟨bd, i, none⟩ = some (.string (B old)) := fun _ => db
                  have hT3 := byte_cases e1 e2 (hT.out k3 hlt)
                  clear hbel
                  rcases hT3 with hg | ⟨hg, hg2⟩
                  all_goals
                    go_wp2
                    go_quiet (fail)
                    go_wp2
                    go_roundw
                    case rel => exact ⟨k3 + 1, by omega, by go_num, below_drewN HbelB.out _⟩
                    case measure => simp [intOf]; omega
                · obtain rfl : k3 = 256 := by omega
                  clear hbel
                  by_cases hp0 : a.pos = 0
                  · have hq : (a.pos == 0) = true := by rw [hp0]; rfl
                    clear hp0
                    go_wp2
                    go_quiet (fail)
                    go_wp2
                    go_ret
                    exact ⟨rfl, below_drewN (step_call HBA.out HbelB.out) _⟩
                  · have hq : (a.pos == 0) = false := by rw [beq_eq_false_iff_ne]; exact hp0
                    rw [HT3.out hp0] at da
                    have dan : ∀ n, (wr.drewN n).cell? ⟨ba, i, none⟩ = some (.string (B old)) := fun _ => da
                    have dbn : ∀ n, (wr.drewN n).cell? ⟨bd, i, none⟩ = some (.string (B old)) := fun _ => db
                    have x0n : ∀ n, (wr.drewN n).cell? ⟨w.heap.size, 1, none⟩ = some (.int .i64 a.pos) := fun _ => x0
                    clear hp0
                    go_wp2
                    go_quiet (fail)
                    go_wp2
                    go_ret
                    exact ⟨rfl, below_drewN (step_call HBA.out HbelB.out) _⟩
      · have hg := flush_bad h0
        rw [hg.1] at Hfl
        clear hg h0 hdead
        go_wp2_with (go_at_call 25; refine Hfl.out.mono ?_; rintro e w5 ⟨rfl, hV, _⟩; have HV5 := Lib.hid hV; clear hV)
        go_ret
        exact ⟨rfl, HB.out.trans (HV5.out.size.mono HB.out.size)⟩
theorem walk_BlockOthers (n : Int) (v : Value) (l : List Act) (a : Act) (vk : Value) (at0 : Int) (w : World) (hn : (Lit.int .i64 n).wf = true) (h : Acts w v l) (hf : ∀ a ∈ l, Fit a) (hl : l.length ≤ maxLen) (hk : Row w vk (a.keep.map Value.bool)) (hfa : Fit a) (ha : (Lit.int .i64 at0).wf = true) :
    Calls Try.prog 5 #[.int .i64 n, v, .agg #[.int .i64 a.op, .int .i64 a.pos, .int .i64 a.n, vk, .string (B a.data)], .int .i64 at0] w fun e w' => e = .returned (.bool true) ∧ Below w.heap.size w w' := by
  unfold maxLen at hl
  exact core_BlockOthers n v l a vk at0 w (bounds_i64 hn).1 (bounds_i64 hn).2 h (by omega) hf hk hfa (bounds_i64 ha).1 (bounds_i64 ha).2
end Go.Proofs.Ytbcagddgchpheaa
