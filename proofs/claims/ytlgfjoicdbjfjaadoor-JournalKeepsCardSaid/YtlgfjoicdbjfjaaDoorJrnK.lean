/- Chapter 4: Format. Conditions: a device that may be. -/
import Derived.Test.YtlgfjoicdbjfjaaDoorJrnI
import Derived.Deep.AppendLies
namespace Go.Proofs.YtlgfjoicdbjfjaaDoor
open Go.RowKit Go.Wir Go.Blk Go.Frm Go.Jrn

def nogs (k : Nat) : List (Nat × Txt) := (List.range k).map fun i => (i + 1, zeros)
theorem nogs_length (k : Nat) : (nogs k).length = k := by simp [nogs]
theorem nogs_snoc (k : Nat) : wrCells (nogs (k + 1)) = wrCells (nogs k) ++ [.int .i64 ((k + 1 : Nat) : Int), .string (B zeros)] := by
  unfold nogs
  rw [List.range_succ, List.map_append, wrCells_append]; rfl
theorem formW_nat (log : Nat) : intW (nogs (log + 1) ++ [(0, slotT ⟨1, 1, log, 0⟩)]) = formW log := by
  unfold formW intW nogs
  rw [List.map_append, List.map_map]; rfl
theorem formW_fit (log : Nat) (hl : log ≤ 4096) : FitW (formW log) := by
  intro p hp
  unfold formW at hp
  rcases List.mem_append.1 hp with hp | hp
  · obtain ⟨i, hi, rfl⟩ := List.mem_map.1 hp
    rw [List.mem_range] at hi
    exact ⟨by show -9223372036854775808 ≤ ((i + 1 : Nat) : Int); omega, by show ((i + 1 : Nat) : Int) ≤ 9223372036854775807; omega, by show zeros.length ≤ _; rw [zeros_length]; omega⟩
  · rw [List.mem_singleton.1 hp]
    exact ⟨by show -9223372036854775808 ≤ (0 : Int); omega, by show (0 : Int) ≤ 9223372036854775807; omega, by show (slotT _).length ≤ _; rw [slotT_length]; omega⟩
section
variable {w0 w w' : World} {g : Nat} {od : Option Nat} {d : Dv} {R : Nat → Prop}
set_option maxRecDepth 100000 in
set_option maxHeartbeats 1600000 in
theorem jr_Format (h : Live w0 w g od d R) (ok : d.Ok) (log : Nat) (hlog : log ≤ 4096) (hp : d.pend.length ≤ 5000) :
    Calls Tryd.prog 31 #[.pointer (some ⟨g, 0, none⟩), .int .i64 (log : Nat)] w fun e w' => e = .returned (.int .i64 ((formE d log).1 : Nat)) ∧ Live w0 w' g od (formE d log).2 R ∧ Keeps R w w' := by
  have H := Lib.hid h
  have Hok := Lib.hid ok
  have HB := Lib.hid (live_Blocks h)
  have HF : Hid (formE d log = if 50 ≤ log ∧ log + 3 ≤ d.disk.length then lays d (formW log) else (2, d)) := Lib.hid rfl
  have hn1 := ok.n1
  clear h ok
  generalize hN : d.disk.length = n at *
  have HN := Lib.hid hN
  clear hN
  by_cases h50 : 50 ≤ log
  · by_cases h3 : log + 3 ≤ n
    · have HF1 : Hid (formE d log = lays d (formW log)) := Lib.hid (by rw [HF.out, if_pos ⟨h50, h3⟩])
      have HT : Hid (∀ w, Calls Tryd.prog 42 #[.agg #[.int .u64 1, .int .u64 1, .int .i64 (log : Nat), .int .i64 0]] w fun e w' => e = .returned (.string (B (slotT ⟨1, 1, log, 0⟩))) ∧ Below w.heap.size w w') :=
        Lib.hid (fun w => slot_text ⟨1, 1, log, 0⟩ ⟨by simp, by simp, by simp only; omega, by simp⟩ w)
      obtain ⟨iw, hwi, hwz0, hwz1, hwz2⟩ := info_parts Tryd.info_wr
      have HWn := Lib.hid (formW_nat log)
      have HWf := Lib.hid (formW_fit log hlog)
      have hWl : (formW log).length = log + 2 := by simp [formW]
      have HWl := Lib.hid hWl
      have HLy : Hid (lays d (formW log) = if (wrs d (formW log)).1 = 0 then (flushE (wrs d (formW log)).2, flushD (wrs d (formW log)).2) else wrs d (formW log)) := Lib.hid rfl
      clear hWl
      have hq1 : ¬ (log : Int) < 50 := by omega
      have hq2 : ¬ (n : Int) - 2 - 1 < (log : Int) := by omega
      go_enter Tryd.func31, Tryd.ntmps31
      go_wp2_with fail
      refine HB.out.mono ?_
      rintro e w1 ⟨rfl, rfl⟩
      go_wp2
      go_loopw [20, 5] (fun x20 x5 wr => ∃ k : Nat, k ≤ log + 1 ∧ x20 = .int .i64 k ∧ wr.ownsRow w.heap.size 47 2 x5 k (wrCells (nogs k)) ∧ Below w.heap.size w wr) (fun x20 _ _ => log + 1 - (intOf x20).toNat)
      case atStart => exact ⟨0, by omega, rfl, World.ownsRow_nil _ _ _ _, Below.refl _ _⟩
      case round =>
        obtain ⟨k, hk, rfl, hown, hbel⟩ := hrel
        obtain ⟨ax, cx, rfl⟩ := own_form hown
        have hbz := hbel.size
        by_cases hlt : k < log + 1
        · have hst := nogs_snoc k
          simp only [Int.natCast_add, Int.cast_ofNat_Int] at hst
          have Hst := Lib.hid hst
          have Hbel := Lib.hid hbel
          have Hown := Lib.hid hown
          have HNo := Lib.hid (noughts wr)
          clear hst hbel hown
          generalize zeros = zr at *
          go_wp2_with fail
          refine HNo.out.mono ?_
          rintro e wq ⟨rfl, hbq⟩
          have Hbq := Lib.hid (step_new (step_call Hbel.out hbq) (.cells #[.int .i64 ((k : Int) + 1), .string (B zr)] 47))
          have Hoq := Lib.hid ((own_kept Hown.out hbq).alloc (.cells #[.int .i64 ((k : Int) + 1), .string (B zr)] 47))
          clear hbq
          go_wp2_with (at_builtin; go_must (refine wpList_append_own _ rfl _ _ 35 rfl w.heap.size 47 iw (.agg #[.int .i64 0, .string ⟨#[]⟩]) 2 24 Tryd.underlying35 hwi hwz0 hwz1 hwz2 rfl (by decide) _ _ _ rfl Hoq.out ⟨wq.heap.size, 0, none⟩ 1 1 [.int .i64 ((k : Int) + 1), .string (B zr)] rfl rfl ?d1 ?d2 ?d3 ?d4 ?d5 ?_))
          case d1 => exact World.news_of_block (cs := #[.int .i64 ((k : Int) + 1), .string (B zr)]) (t := 47) (fr := (0, 0)) (heap_alloc_new wq _)
          case d2 => simp [Value.oneCell']
          case d3 => unfold maxLen; omega
          case d4 => omega
          case d5 => exact Hbq.out.size
          intro v8 w8 hown8 hgrow8 _
          have Hb8 := Lib.hid (Hbq.out.grown hgrow8 Hbq.out.size (fun q hq => (Hoq.out.lt q hq).1))
          rw [← Hst.out] at hown8
          have Hown8 := Lib.hid hown8
          clear hown8 hgrow8
          go_wp2
          go_roundw
          case rel => exact ⟨k + 1, by omega, by go_num, Hown8.out, Hb8.out⟩
          case measure => simp [intOf]; omega
        · obtain rfl : k = log + 1 := by omega
          have Hbel := Lib.hid hbel
          have Hown := Lib.hid hown
          clear hbel hown
          generalize slotT ⟨1, 1, log, 0⟩ = tx at *
          go_wp2_with fail
          refine (HT.out _).mono ?_
          rintro e wq ⟨rfl, hbq⟩
          have Hbq := Lib.hid (step_new (step_call Hbel.out hbq) (.cells #[.int .i64 0, .string (B tx)] 47))
          have Hoq := Lib.hid ((own_kept Hown.out hbq).alloc (.cells #[.int .i64 0, .string (B tx)] 47))
          clear hbq
          go_wp2_with (at_builtin; go_must (refine wpList_append_own _ rfl _ _ 35 rfl w.heap.size 47 iw (.agg #[.int .i64 0, .string ⟨#[]⟩]) 2 24 Tryd.underlying35 hwi hwz0 hwz1 hwz2 rfl (by decide) _ _ _ rfl Hoq.out ⟨wq.heap.size, 0, none⟩ 1 1 [.int .i64 0, .string (B tx)] rfl rfl ?e1 ?e2 ?e3 ?e4 ?e5 ?_))
          case e1 => exact World.news_of_block (cs := #[.int .i64 0, .string (B tx)]) (t := 47) (fr := (0, 0)) (heap_alloc_new wq _)
          case e2 => simp [Value.oneCell']
          case e3 => unfold maxLen; omega
          case e4 => omega
          case e5 => exact Hbq.out.size
          intro v8 w8 hown8 hgrow8 _
          have hb8 := Hbq.out.grown hgrow8 Hbq.out.size (fun q hq => (Hoq.out.lt q hq).1)
          have hown9 : w8.ownsRow w.heap.size 47 2 v8 (nogs (log + 1) ++ [(0, tx)]).length (wrCells (nogs (log + 1) ++ [(0, tx)])) := by
            rw [wrCells_append, List.length_append, nogs_length]; exact hown8
          have l8 := H.out.more hb8 v8 (fun k hk => own_some hown9 k hk)
          have k8 := (H.out.call hb8).2
          have hw8 := own_wrs hown9
          rw [HWn.out] at hw8
          have HWr := Lib.hid (jr_writes l8 Hok.out v8 (formW log) hw8 (fun k hk => .inr hk) HWf.out (by rw [HWl.out]; omega))
          have Hwo := Lib.hid (wrs_ok (formW log) d Hok.out)
          have K8 := Lib.hid k8
          clear hown8 hgrow8 hb8 hown9 l8 k8 hw8
          generalize lays d (formW log) = LY at *
          generalize wrs d (formW log) = r at *
          obtain ⟨r1, r2⟩ := r
          simp only at HLy HWr Hwo
          go_wp2_with fail
          refine HWr.out.mono ?_
          rintro e w9 ⟨rfl, l9, k9⟩
          have L9 := Lib.hid l9
          have K9 := Lib.hid (K8.out.trans (k9.less (R' := R) (fun k hk => .inl hk)))
          clear l9 k9
          by_cases hE : r1 = 0
          · subst hE
            have HQ : Hid (LY = (flushE r2, flushD r2)) := Lib.hid (by rw [HLy.out]; rfl)
            have HFl := Lib.hid (live_Flush L9.out Hwo.out.1 (by have := Hwo.out.2.1; rw [HWl.out] at this; omega))
            go_wp2_with fail
            refine HFl.out.mono ?_
            rintro e w10 ⟨rfl, l10, k10⟩
            have L10 := Lib.hid (l10.less (R' := R) (fun k hk => .inl hk))
            have K10 := Lib.hid (K9.out.trans (k10.less (R' := R) (fun k hk => .inl hk)))
            clear l10 k10
            go_wp2
            go_ret
            exact ⟨by rw [HF1.out, HQ.out]; rfl, by rw [HF1.out, HQ.out]; exact L10.out, K10.out⟩
          · have HQ : Hid (LY = (r1, r2)) := Lib.hid (by rw [HLy.out, if_neg hE])
            have hq : ((r1 : Int) != 0) = true := by rw [bne_iff_ne]; omega
            clear hE
            go_wp2
            go_ret
            exact ⟨by rw [HF1.out, HQ.out]; rfl, by rw [HF1.out, HQ.out]; exact L9.out.less (fun k hk => .inl hk), K9.out⟩
    · have HF1 : Hid (formE d log = (2, d)) := Lib.hid (by rw [HF.out, if_neg (fun h => h3 h.2)])
      have hq1 : ¬ (log : Int) < 50 := by omega
      have hq2 : (n : Int) - 2 - 1 < (log : Int) := by omega
      go_enter Tryd.func31, Tryd.ntmps31
      go_wp2_with fail
      refine HB.out.mono ?_
      rintro e w1 ⟨rfl, rfl⟩
      go_wp2
      go_ret
      exact ⟨by rw [HF1.out]; rfl, by rw [HF1.out]; exact H.out, Keeps.refl _ _⟩
  · have HF1 : Hid (formE d log = (2, d)) := Lib.hid (by rw [HF.out, if_neg (fun h => h50 h.1)])
    have hq1 : (log : Int) < 50 := by omega
    go_enter Tryd.func31, Tryd.ntmps31
    go_wp2
    go_ret
    exact ⟨by rw [HF1.out]; rfl, by rw [HF1.out]; exact H.out, Keeps.refl _ _⟩
end
end Go.Proofs.YtlgfjoicdbjfjaaDoor
