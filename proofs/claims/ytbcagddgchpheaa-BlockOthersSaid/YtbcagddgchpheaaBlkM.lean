/- The law's own examples of chapter 1: shown. No conditions. -/
import Derived.Test.YtbcagddgchpheaaBlkL
import Derived.Deep.DeepCutAuto
namespace Go.Proofs.Ytbcagddgchpheaa
open Go.RowKit Go.Blk

def D1 : Dv := ⟨[fullT 0, fullT 0], [(0, fullT 97)], -1, false⟩
def D2 : Dv := ⟨[fullT 0, fullT 0], [(0, fullT 97), (0, fullT 98)], -1, false⟩
def D3 : Dv := ⟨[(fullT 98).take 3 ++ (fullT 97).drop 3, fullT 0], [], -1, false⟩
def D4 : Dv := ⟨[(fullT 98).take 3 ++ (fullT 97).drop 3, fullT 0], [], 1, false⟩
def D5 : Dv := ⟨[(fullT 98).take 3 ++ (fullT 97).drop 3, fullT 0], [(0, fullT 97)], 0, false⟩
def D6 : Dv := ⟨[(fullT 98).take 3 ++ (fullT 97).drop 3, fullT 0], [(0, fullT 97)], 0, true⟩
theorem len_full (c : UInt8) : (fullT c).length = 256 := List.length_replicate ..
theorem zeros_full : zeros = fullT 0 := rfl
theorem s1 : writeD (newD 2) 0 (fullT 97) = D1 := by
  unfold writeD inD turnOk turnD D1 newD; rw [len_full]; rfl
theorem s1e : writeE (newD 2) 0 (fullT 97) = 0 := by
  unfold writeE inD turnOk newD; rw [len_full]; rfl
theorem s2 : writeD D1 0 (fullT 98) = D2 := by
  unfold writeD inD turnOk turnD D1 D2; rw [len_full]; rfl
theorem s3 : crashD D2 [true] 1 3 = D3 := by
  unfold D2 D3; rfl
theorem s3a : writeD D3 2 (fullT 97) = D3 := by
  unfold writeD inD turnOk turnD D3; rfl
theorem s3ae : writeE D3 2 (fullT 97) = 2 := by
  unfold writeE inD turnOk D3; rfl
theorem s3b : writeD D3 0 [120] = D3 := by
  unfold writeD inD turnOk turnD D3; rfl
theorem s3be : writeE D3 0 [120] = 3 := by
  unfold writeE inD turnOk D3; rfl
theorem s4 : fuseD D3 1 = D4 := by
  unfold D3 D4; rfl
theorem s5 : writeD D4 0 (fullT 97) = D5 := by
  unfold writeD inD turnOk turnD D4 D5; rw [len_full]; rfl
theorem s5e : writeE D4 0 (fullT 97) = 0 := by
  unfold writeE inD turnOk D4; rw [len_full]; rfl
theorem s6 : writeD D5 1 (fullT 97) = D6 := by
  unfold writeD inD turnOk turnD D5 D6; rw [len_full]; rfl
theorem s6e : writeE D5 1 (fullT 97) = 4 := by
  unfold writeE inD turnOk D5; rw [len_full]; rfl
theorem r0 : readT (newD 2) 0 = fullT 0 ∧ readE (newD 2) 0 = 0 := ⟨rfl, rfl⟩
theorem r1 : readT D1 0 = fullT 97 ∧ readE D1 0 = 0 := ⟨rfl, rfl⟩
theorem r3 : readT D3 0 = (fullT 98).take 3 ++ (fullT 97).drop 3 ∧ readE D3 0 = 0 := ⟨rfl, rfl⟩
theorem r6 : readT D6 0 = [] ∧ readE D6 0 = 4 := ⟨rfl, rfl⟩
theorem ok0 : (newD 2).Ok := newD_ok 2 (by omega) (by omega)
theorem ok1 : D1.Ok := by rw [← s1]; exact write_ok ok0 _ _
theorem ok2 : D2.Ok := by rw [← s2]; exact write_ok ok1 _ _
theorem ok3 : D3.Ok := by rw [← s3]; exact crash_ok ok2 _ _ _
theorem ok4 : D4.Ok := by rw [← s4]; exact fuse_ok ok3 _ (by omega)
theorem ok5 : D5.Ok := by rw [← s5]; exact write_ok ok4 _ _
theorem ok6 : D6.Ok := by rw [← s6]; exact write_ok ok5 _ _
theorem cut3 (A A2 U : Txt) (hA : fullT 97 = A) (hB : fullT 98 = A2) (hU : A2.take 3 ++ A.drop 3 = U) : (B U).toList = ((⟨#[98, 98, 98]⟩ : ByteArray) ++ (B A).extract 3 256).toList := by
  congr 1
  apply ByteArray.ext
  rw [ByteArray.data_append, ByteArray.data_extract]
  apply Array.toList_inj.1
  rw [Array.toList_append, Array.toList_extract]
  show U = [98, 98, 98] ++ (A.drop 3).take (256 - 3)
  rw [← hU, ← hA, ← hB, fullT, fullT, List.take_replicate, List.drop_replicate, List.take_replicate]
  rfl
theorem hs_call {w8 w w' : World} {bp bd : Nat} {x y z : Value} (hb : Below w.heap.size w w') (h : w.cell? ⟨bp, 0, none⟩ = some x ∧ w.cell? ⟨bp, 1, none⟩ = some y ∧ w.cell? ⟨bd, 0, none⟩ = some z ∧ Below w8.heap.size w8 w) :
    w'.cell? ⟨bp, 0, none⟩ = some x ∧ w'.cell? ⟨bp, 1, none⟩ = some y ∧ w'.cell? ⟨bd, 0, none⟩ = some z ∧ Below w8.heap.size w8 w' := ⟨cell_call hb h.1, cell_call hb h.2.1, cell_call hb h.2.2.1, step_call h.2.2.2 hb⟩
theorem hs_drew {w8 w : World} {bp bd n : Nat} {x y z : Value} (h : w.cell? ⟨bp, 0, none⟩ = some x ∧ w.cell? ⟨bp, 1, none⟩ = some y ∧ w.cell? ⟨bd, 0, none⟩ = some z ∧ Below w8.heap.size w8 w) :
    (w.drewN n).cell? ⟨bp, 0, none⟩ = some x ∧ (w.drewN n).cell? ⟨bp, 1, none⟩ = some y ∧ (w.drewN n).cell? ⟨bd, 0, none⟩ = some z ∧ Below w8.heap.size w8 (w.drewN n) := ⟨h.1, h.2.1, h.2.2.1, below_drewN h.2.2.2 n⟩
set_option maxRecDepth 100000 in
set_option maxHeartbeats 1600000 in
theorem law_shown (w : World) :
    Calls Try.prog 9 #[] w fun e w' => e = .returned (.bool true) ∧ Below w.heap.size w w' := by
  have Hnew := Lib.hid (live_New (w0 := w) (w := w) 2 (by omega) (by omega) (Below.refl _ _))
  have Hbad := Lib.hid (fun w => dev_New_bad 0 (by omega) w)
  obtain ⟨w0, hw0⟩ : ∃ x, x = w := ⟨_, rfl⟩
  rw [← hw0]
  have Hw0 := Lib.hid hw0
  rw [← hw0] at Hnew
  go_enter Try.func9, Try.ntmps9
  go_wp2_with fail
  try rw [← hw0]
  clear hw0
  refine Hnew.out.mono ?_
  rintro e w1 ⟨g, od, rfl, hV⟩
  have HV := Lib.hid hV
  clear hV
  go_wp2_with fail
  refine (Hbad.out _).mono ?_
  rintro e w2 ⟨rfl, rfl⟩
  go_wp2_with fail
  refine (live_full HV.out 97).mono ?_
  rintro e w2 ⟨rfl, hV, _⟩
  generalize hA : fullT 97 = A
  have hsA : (B A).size = 256 := by rw [← hA, size_B, len_full]
  have HA := Lib.hid hA
  clear hA
  have HV := Lib.hid hV
  clear hV
  go_wp2_with fail
  refine (live_full HV.out 98).mono ?_
  rintro e w3 ⟨rfl, hV, _⟩
  generalize hB : fullT 98 = A2
  have hsB : (B A2).size = 256 := by rw [← hB, size_B, len_full]
  have HB := Lib.hid hB
  clear hB
  have HV := Lib.hid hV
  clear hV
  go_wp2_with fail
  refine (live_Read HV.out ok0 (by simp [newD]) 0 (by omega) (by omega)).mono ?_
  rintro e w4 ⟨rfl, hV, _⟩
  have HV := Lib.hid hV
  clear hV
  rw [r0.1, r0.2]
  generalize hZ : fullT 0 = Z
  have HZ := Lib.hid hZ
  clear hZ
  go_wp2_with fail
  refine (live_Write HV.out ok0 (by simp [newD]) 0 (B A) (by omega) (by omega) (by omega)).mono ?_
  rintro e w5 ⟨rfl, hV, _⟩
  rw [show L (B A) = fullT 97 from HA.out.symm] at hV ⊢
  rw [s1] at hV
  rw [s1e]
  have HV := Lib.hid hV
  clear hV
  go_wp2_with fail
  refine (live_Read HV.out ok1 (by simp [D1]) 0 (by omega) (by omega)).mono ?_
  rintro e w6 ⟨rfl, hV, _⟩
  have HV := Lib.hid hV
  clear hV
  rw [r1.1, r1.2, HA.out]
  go_wp2_with fail
  refine (live_Pending HV.out (by simp [D1])).mono ?_
  rintro e w7 ⟨vp, rfl, hp0, hV, _⟩
  have HV := Lib.hid hV
  clear hV
  go_wp2_with fail
  refine (live_Disk HV.out (by simp [D1])).mono ?_
  rintro e w8 ⟨vd, rfl, hd, hV, hK⟩
  have hp := own_keeps hp0 (fun k hk => .inr hk) hK
  clear hp0
  have HV := Lib.hid hV
  clear hV hK
  obtain ⟨bp, cp, hvp, hbp, hcp⟩ := own_wr hp (by simp [D1])
  obtain ⟨bd, cd, curd, hvd, hbd, _, _, _, hcd, _⟩ := own_txt hd (by simp [D1])
  have p0 : w8.cell? ⟨bp, 0, none⟩ = some (.int .i64 0) := (hcp 0 (by simp [D1])).1
  have p1 : w8.cell? ⟨bp, 1, none⟩ = some (.string (B A)) := by rw [← HA.out]; exact (hcp 0 (by simp [D1])).2
  have d0 : w8.cell? ⟨bd, 0, none⟩ = some (.string (B Z)) := by rw [← HZ.out]; exact hcd 0 (by simp [D1])
  clear hcp hcd hp hd
  have hvp : vp = .slice (some ⟨bp, 0, none⟩) 1 cp := hvp
  have hvd : vd = .slice (some ⟨bd, 0, none⟩) 2 cd := hvd
  subst hvp
  subst hvd
  have HV := Lib.hid (HV.out.less (R' := noneR) (fun _ h => h.elim))
  have hs0 : w8.cell? ⟨bp, 0, none⟩ = some (.int .i64 0) ∧ w8.cell? ⟨bp, 1, none⟩ = some (.string (B A)) ∧ w8.cell? ⟨bd, 0, none⟩ = some (.string (B Z)) ∧ Below w8.heap.size w8 w8 := ⟨p0, p1, d0, Below.refl _ _⟩
  go_upto_region 12 with fail
  go_cut [105] (fun s wx => s = .bool false ∧ Live w0 wx g od D1 noneR)
  case first =>
    have hf0 := fun w => law_full 0 w
    simp only [HZ.out] at hf0
    have Hf0 := Lib.hid hf0
    clear hf0
    go_region_held3 (fun w' => w'.cell? ⟨bp, 0, none⟩ = some (.int .i64 0) ∧ w'.cell? ⟨bp, 1, none⟩ = some (.string (B A)) ∧ w'.cell? ⟨bd, 0, none⟩ = some (.string (B Z)) ∧ Below w8.heap.size w8 w')
      (first | assumption | exact hs0 | exact hs_call hbv (by assumption) | exact hs_drew (by assumption))
      ((go_at_call 28; refine (Hf0.out _).mono ?_; rintro e w9 ⟨rfl, hbv⟩; have HB9 : Hid (Below w8.heap.size w8 w9) := Lib.hid (by first | exact hbv | exact step_call (below_drew _) hbv | exact step_call HB9.out hbv | exact step_call (below_drewN HB9.out _) hbv)))
    all_goals go_wp2
    all_goals (go_meet; exact ⟨rfl, (HV.out.call HB9.out).1⟩)
  case rest =>
  obtain ⟨rfl, hV⟩ := hcut
  have HV := Lib.hid hV
  clear hV hs0 p0 p1 d0
  clear Hnew Hbad
  go_wp2_with fail
  refine (live_Write HV.out ok1 (by simp [D1]) 0 (B A2) (by omega) (by omega) (by omega)).mono ?_
  rintro e w10 ⟨rfl, hV, _⟩
  rw [show L (B A2) = fullT 98 from HB.out.symm, s2] at hV
  have HV := Lib.hid hV
  clear hV
  go_wp2_with fail
  have hbk : w10.heap.size < (w10.alloc (.cells #[.bool true] 4)).heap.size := by simp
  have hcb : (w10.alloc (.cells #[.bool true] 4)).cell? ⟨w10.heap.size, 0, none⟩ = some (.bool true) := by rw [Lib.cell_of_heap (heap_alloc_new w10 _)]; rfl
  refine (live_Crash (HV.out.more ((Below.refl _ _).alloc (Nat.le_refl _) (.cells #[.bool true] 4)) (.slice (some ⟨w10.heap.size, 0, none⟩) 1 1) (fun k hk => by
    simp only [Value.ownBlock, Option.some.injEq] at hk
    subst hk
    exact ⟨Nat.le_refl _, hbk⟩)) ok2 (by simp [D2]) _ [true] 1 3 (.inr ⟨w10.heap.size, 0, 1, rfl, Nat.le_refl _, hbk, fun i hi => by
      have : i = 0 := by simp at hi; omega
      subst this
      exact hcb⟩) (fun _ q hq => .inr (.inr hq)) (by simp)).mono ?_
  rintro e w11 ⟨rfl, hV, _⟩
  rw [s3] at hV
  have HV := Lib.hid (hV.less (R' := noneR) (fun _ h => h.elim))
  clear hV hbk hcb
  go_wp2_with fail
  refine (live_Read HV.out ok3 (by simp [D3]) 0 (by omega) (by omega)).mono ?_
  rintro e w12 ⟨rfl, hV, _⟩
  have HV := Lib.hid hV
  clear hV
  rw [r3.1, r3.2, HA.out, HB.out]
  generalize hU : A2.take 3 ++ A.drop 3 = U
  have hUU := cut3 A A2 U HA.out HB.out hU
  have HU := Lib.hid hU
  clear hU
  go_wp2_with fail
  clear hUU
  refine (live_Write HV.out ok3 (by simp [D3]) 2 (B A) (by omega) (by omega) (by omega)).mono ?_
  rintro e w13 ⟨rfl, hV, _⟩
  rw [show L (B A) = fullT 97 from HA.out.symm] at hV ⊢
  rw [s3a] at hV
  rw [s3ae]
  have HV := Lib.hid hV
  clear hV
  go_wp2_with fail
  refine (live_Write HV.out ok3 (by simp [D3]) 0 ⟨#[120]⟩ (by omega) (by omega) (by decide)).mono ?_
  rintro e w14 ⟨rfl, hV, _⟩
  rw [show L ⟨#[120]⟩ = [120] from rfl] at hV ⊢
  rw [s3b] at hV
  rw [s3be]
  have HV := Lib.hid hV
  clear hV
  go_wp2_with fail
  refine (live_Fuse HV.out 1).mono ?_
  rintro e w15 ⟨rfl, hV, _⟩
  rw [s4] at hV
  have HV := Lib.hid hV
  clear hV
  go_wp2_with fail
  refine (live_Write HV.out ok4 (by simp [D4]) 0 (B A) (by omega) (by omega) (by omega)).mono ?_
  rintro e w16 ⟨rfl, hV, _⟩
  rw [show L (B A) = fullT 97 from HA.out.symm] at hV ⊢
  rw [s5] at hV
  rw [s5e]
  have HV := Lib.hid hV
  clear hV
  go_wp2_with fail
  refine (live_Write HV.out ok5 (by simp [D5]) 1 (B A) (by omega) (by omega) (by omega)).mono ?_
  rintro e w17 ⟨rfl, hV, _⟩
  rw [show L (B A) = fullT 97 from HA.out.symm] at hV ⊢
  rw [s6] at hV
  rw [s6e]
  have HV := Lib.hid hV
  clear hV
  go_wp2_with fail
  refine (live_Read HV.out ok6 (by simp [D6]) 0 (by omega) (by omega)).mono ?_
  rintro e w18 ⟨rfl, hV, _⟩
  have HV := Lib.hid hV
  clear hV
  rw [r6.1, r6.2]
  go_wp2_with fail
  refine (live_Dead HV.out).mono ?_
  rintro e w19 ⟨rfl, rfl⟩
  rw [show D6.dead = true from rfl]
  go_wp2_with fail
  refine (live_Blocks HV.out).mono ?_
  rintro e w20 ⟨rfl, rfl⟩
  rw [show D6.disk.length = 2 from rfl]
  go_wp2
  go_ret
  exact ⟨rfl, HV.out.size⟩
end Go.Proofs.Ytbcagddgchpheaa
