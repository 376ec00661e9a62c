/- The law BlockTears returns true for every texts and number. Condition: lengths and the number fit an int. -/
import Derived.Test.YtbcagddgchpheaaBlkM
namespace Go.Proofs.Ytbcagddgchpheaa
open Go.RowKit Go.Blk

/-- A block of a text. -/
def blockT (s : Txt) : Txt := (List.range 256).map (dataB s)
theorem blockT_length (s : Txt) : (blockT s).length = 256 := by simp [blockT]
theorem law_data0 (s : ByteArray) (hs : s.size ≤ 9223372036854775807) (w : World) :
    Calls Try.prog 29 #[.agg #[.int .i64 0, .int .i64 0, .int .i64 0, .slice none 0 0, .string s]] w fun e w' => e = .returned (.string (B (blockT (L s)))) ∧ Below w.heap.size w w' :=
  law_data ⟨0, 0, 0, [], L s⟩ (.slice none 0 0) (by simp) (by simp) (by exact hs) w
def T0 (o : Txt) : Dv := ⟨[zeros], [(0, o)], -1, false⟩
def T1 (o : Txt) : Dv := ⟨[o], [], -1, false⟩
def T2 (o n : Txt) : Dv := ⟨[o], [(0, n)], -1, false⟩
def T3 (o n : Txt) (c : Nat) : Dv := ⟨[n.take c ++ o.drop c], [], -1, false⟩
theorem t0 (o : Txt) (h : o.length = 256) : writeD (newD 1) 0 o = T0 o := by
  unfold writeD inD turnOk turnD T0 newD; rw [h]; rfl
theorem t1 (o : Txt) : flushD (T0 o) = T1 o := by
  unfold flushD turnOk turnD T0 T1; rfl
theorem t2 (o n : Txt) (h : n.length = 256) : writeD (T1 o) 0 n = T2 o n := by
  unfold writeD inD turnOk turnD T1 T2; rw [h]; rfl
theorem t3 (o n : Txt) (cut : Int) : crashD (T2 o n) [false] 0 cut = T3 o n (cutN cut) := by
  unfold crashD T2 T3; rfl
theorem okT (o n : Txt) (ho : o.length = 256) (hn : n.length = 256) : (newD 1).Ok ∧ (T0 o).Ok ∧ (T1 o).Ok ∧ (T2 o n).Ok := by
  have k0 := newD_ok 1 (by omega) (by omega)
  have k1 := write_ok k0 0 o
  rw [t0 o ho] at k1
  have k2 := flush_ok k1
  rw [t1] at k2
  have k3 := write_ok k2 0 n
  rw [t2 o n hn] at k3
  exact ⟨k0, k1, k2, k3⟩
theorem tornB (O N : Txt) (c : Nat) (hO : O.length = 256) (hc : c ≤ 256) (x : Txt) (hx : x = N.take c ++ O.drop c) : ((B x).toList == ((B N).extract 0 c ++ (B O).extract c 256).toList) = true := by
  rw [beq_iff_eq]
  congr 1
  apply ByteArray.ext
  rw [ByteArray.data_append, ByteArray.data_extract, ByteArray.data_extract]
  apply Array.toList_inj.1
  rw [Array.toList_append, Array.toList_extract, Array.toList_extract]
  show x = (N.drop 0).take (c - 0) ++ (O.drop c).take (256 - c)
  rw [hx, List.drop_zero, Nat.sub_zero, List.take_of_length_le (l := O.drop c) (by rw [List.length_drop]; omega)]
set_option maxRecDepth 100000 in
set_option maxHeartbeats 1600000 in
theorem core_BlockTears (was s : ByteArray) (cut : Int) (h1 : was.size ≤ 9223372036854775807) (h2 : s.size ≤ 9223372036854775807) (hc1 : -9223372036854775808 ≤ cut) (hc2 : cut ≤ 9223372036854775807) (w : World) :
    Calls Try.prog 8 #[.string was, .string s, .int .i64 cut] w fun e w' => e = .returned (.bool true) ∧ Below w.heap.size w w' := by
  have Hsh := Lib.hid (law_shown w)
  by_cases hw : 600 < was.size
  · go_enter Try.func8, Try.ntmps8
    go_wp2_with fail
    refine Hsh.out.mono ?_
    rintro e w1 ⟨rfl, hb⟩
    have HB := Lib.hid hb
    clear hb
    go_wp2
    go_ret
    exact ⟨rfl, HB.out⟩
  by_cases hs : 600 < s.size
  · go_enter Try.func8, Try.ntmps8
    go_wp2_with fail
    refine Hsh.out.mono ?_
    rintro e w1 ⟨rfl, hb⟩
    have HB := Lib.hid hb
    clear hb
    go_wp2
    go_ret
    exact ⟨rfl, HB.out⟩
  go_enter Try.func8, Try.ntmps8
  go_wp2_with fail
  refine Hsh.out.mono ?_
  rintro e w1 ⟨rfl, hb⟩
  have HB := Lib.hid hb
  clear hb
  have Hnew := Lib.hid (live_New (w0 := w) (w := w1) 1 (by omega) (by omega) HB.out)
  go_wp2_with fail
  refine Hnew.out.mono ?_
  rintro e w2 ⟨g, od, rfl, hV⟩
  have HV := Lib.hid hV
  clear hV
  go_wp2_with fail
  refine (law_data0 was h1 w2).mono ?_
  rintro e w3 ⟨rfl, hb⟩
  generalize hO : blockT (L was) = O
  have hlO : O.length = 256 := by rw [← hO, blockT_length]
  have HlO := Lib.hid hlO
  have hsO : (B O).size = 256 := by rw [size_B, hlO]
  have HV := Lib.hid (HV.out.call hb).1
  clear hO hlO hb
  go_wp2_with fail
  refine (law_data0 s h2 w3).mono ?_
  rintro e w4 ⟨rfl, hb⟩
  generalize hO : blockT (L s) = N
  have hlN : N.length = 256 := by rw [← hO, blockT_length]
  have HlN := Lib.hid hlN
  have hsN : (B N).size = 256 := by rw [size_B, hlN]
  have HV := Lib.hid (HV.out.call hb).1
  clear hO hlN hb
  have Hok := Lib.hid (okT O N HlO.out HlN.out)
  go_wp2_with fail
  refine (live_Write HV.out Hok.out.1 (by simp [newD]) 0 (B O) (by omega) (by omega) (by omega)).mono ?_
  rintro e w5 ⟨rfl, hV, _⟩
  rw [show L (B O) = O from rfl, t0 O HlO.out] at hV
  have HV := Lib.hid hV
  clear hV
  go_wp2_with fail
  refine (live_Flush HV.out Hok.out.2.1 (by simp [T0])).mono ?_
  rintro e w6 ⟨rfl, hV, _⟩
  rw [t1] at hV
  have HV := Lib.hid hV
  clear hV
  go_wp2_with fail
  refine (live_Write HV.out Hok.out.2.2.1 (by simp [T1]) 0 (B N) (by omega) (by omega) (by omega)).mono ?_
  rintro e w7 ⟨rfl, hV, _⟩
  rw [show L (B N) = N from rfl, t2 O N HlN.out] at hV
  have HV := Lib.hid hV
  clear hV
  go_wp2_with fail
  have hbk : w7.heap.size < (w7.alloc (.cells #[.bool false] 4)).heap.size := by simp
  have hcb : (w7.alloc (.cells #[.bool false] 4)).cell? ⟨w7.heap.size, 0, none⟩ = some (.bool false) := by rw [Lib.cell_of_heap (heap_alloc_new w7 _)]; rfl
  refine (live_Crash (HV.out.more ((Below.refl _ _).alloc (Nat.le_refl _) (.cells #[.bool false] 4)) (.slice (some ⟨w7.heap.size, 0, none⟩) 1 1) (fun k hk => by
    simp only [Value.ownBlock, Option.some.injEq] at hk
    subst hk
    exact ⟨Nat.le_refl _, hbk⟩)) Hok.out.2.2.2 (by simp [T2]) _ [false] 0 cut (.inr ⟨w7.heap.size, 0, 1, rfl, Nat.le_refl _, hbk, fun i hi => by
      have : i = 0 := by simp at hi; omega
      subst this
      exact hcb⟩) (fun _ q hq => .inr (.inr hq)) (by simp)).mono ?_
  rintro e w8 ⟨rfl, hV, _⟩
  rw [t3] at hV
  have HV := Lib.hid (hV.less (R' := noneR) (fun _ h => h.elim))
  clear hV hbk hcb
  go_wp2_with fail
  have hck : min (max cut 0) 256 = ((cutN cut : Nat) : Int) := by unfold cutN; omega
  rw [hck]
  have hcl := cutN_le cut
  clear hck
  generalize cutN cut = c at *
  have hc0 : (0 : Int) ≤ (c : Int) := by omega
  have hc9 : (c : Int) ≤ 256 := by omega
  have hc7 : (c : Int) ≤ ((256 : Nat) : Int) := by omega
  have hc6 : ¬ (9223372036854775807 : Int) < (c : Int) + (256 - (c : Int)) := by omega
  go_region_with ((go_at_call 18; refine (live_Disk (w0 := w) (d := T3 O N c) (R := noneR) (by first | exact HV.out | exact (HV.out.call (below_drew _)).1 | assumption) (by simp [T3])).mono ?_; rintro e w9 ⟨vd, rfl, hd, hV9, _⟩; obtain ⟨bd, cd, curd, hvd, hbd, _, _, _, hcd, _⟩ := own_txt hd (by simp [T3]); have d0 := hcd 0 (by simp [T3]); have hvd : vd = .slice (some ⟨bd, 0, none⟩) 1 cd := hvd; have hV9 := hV9.less (R' := noneR) (fun _ h => h.elim); have HB9 : Hid (Below w.heap.size w w9) := Lib.hid hV9.size; clear hcd hd; subst hvd))
  all_goals
    go_wp2
    go_ret
    exact ⟨ret_bool (tornB O N c HlO.out hcl _ rfl), HB9.out⟩
theorem walk_BlockTears (was s : ByteArray) (cut : Int) (h1 : was.size ≤ maxLen) (h2 : s.size ≤ maxLen) (hc : (Lit.int .i64 cut).wf = true) (w : World) :
    Calls Try.prog 8 #[.string was, .string s, .int .i64 cut] w fun e w' => e = .returned (.bool true) ∧ Below w.heap.size w w' := by
  have hb : -9223372036854775808 ≤ cut ∧ cut ≤ 9223372036854775807 := by
    simp [Lit.wf, IntKind.min, IntKind.max, IntKind.signed, IntKind.bits] at hc
    omega
  unfold maxLen at h1 h2
  exact core_BlockTears was s cut (by omega) (by omega) hb.1 hb.2 w
end Go.Proofs.Ytbcagddgchpheaa
