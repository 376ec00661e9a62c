/- Chapter 8: a directory's bytes, by the document's answer: codexref8.number, bytes. Conditions: few files, each small. -/
import Derived.Test.YteemloillnfaeaaDoorInoG
import Derived.Test.YteemloillnfaeaaDoorInoRd
import Derived.Test.YteemloillnfaeaaDoorRef2Text
import Derived.Test.YteemloillnfaeaaDoorRef2Var
namespace Go.Ino
open Go.Wir
def headF (f : Fil) : Tx := textL f.name ++ varL (if f.shut then 1 else 0) ++ varL f.size.toNat ++ varL f.ext.length
theorem fileL_head (f : Fil) : fileL f = headF f ++ f.ext.flatMap extL := rfl
theorem textL_len (l : Tx) : (textL l).length ≤ 10 + l.length := by
  unfold textL; have := (varL_length l.length).2; rw [List.length_append]; omega
theorem headF_len {f : Fil} (h : f.name.length ≤ 24) : (headF f).length ≤ 64 := by
  have h1 := textL_len f.name
  have h2 := (varL_length (if f.shut then 1 else 0)).2
  have h3 := (varL_length f.size.toNat).2
  have h4 := (varL_length f.ext.length).2
  unfold headF
  simp only [List.length_append]; omega
theorem extsL_len (xs : List Ext) : (xs.flatMap extL).length ≤ 20 * xs.length := by
  induction xs with
  | nil => simp
  | cons x xs ih =>
    have h1 := (varL_length x.1.toNat).2
    have h2 := (varL_length x.2.toNat).2
    have e : (extL x).length = (varL x.1.toNat).length + (varL x.2.toNat).length := by unfold extL; rw [List.length_append]
    rw [List.flatMap_cons, List.length_append, List.length_cons, e]; omega
theorem fileL_len {f : Fil} (h : FewF 24 f) : (fileL f).length ≤ 400 := by
  have h1 := headF_len h.1
  have h2 := extsL_len f.ext
  have h3 := h.2.2.2.1
  rw [fileL_head, List.length_append]; omega
theorem filesL_len : ∀ (fs : List Fil), (∀ f ∈ fs, FewF 24 f) → (fs.flatMap fileL).length ≤ 400 * fs.length
  | [], _ => by simp
  | f :: fs, h => by
    have h1 := fileL_len (h f (by simp))
    have h2 := filesL_len fs (fun g hg => h g (by simp [hg]))
    rw [List.flatMap_cons, List.length_append, List.length_cons]; omega
/-- The bytes up to some file; up to some extent. -/
def upL (l : List Fil) (k : Nat) : Tx := [67, 68, 88, 73] ++ varL l.length ++ (l.take k).flatMap fileL
theorem upL_len {l : List Fil} (k : Nat) (h : ∀ f ∈ l, FewF 24 f) (hl : l.length ≤ 64) : (upL l k).length ≤ 25614 := by
  have h1 := (varL_length l.length).2
  have h2 := filesL_len (l.take k) (fun f hf => h f (List.mem_of_mem_take hf))
  have h3 : (l.take k).length ≤ 64 := by rw [List.length_take]; omega
  unfold upL
  simp only [List.length_append, List.length_cons, List.length_nil]; omega
theorem upL_next {l : List Fil} {k : Nat} (h : k < l.length) : upL l (k + 1) = upL l k ++ headF l[k] ++ l[k].ext.flatMap extL := by
  unfold upL
  rw [List.take_succ_eq_append_getElem h, List.flatMap_append, List.flatMap_cons, List.flatMap_nil, List.append_nil, fileL_head]
  simp only [List.append_assoc]
theorem upL_end (l : List Fil) : upL l l.length = bytesL l := by unfold upL bytesL; rw [List.take_length]
theorem upE_next {xs : List Ext} {j : Nat} (h : j < xs.length) : (xs.take (j + 1)).flatMap extL = (xs.take j).flatMap extL ++ varL xs[j].1.toNat ++ varL xs[j].2.toNat := by
  rw [List.take_succ_eq_append_getElem h, List.flatMap_append, List.flatMap_cons, List.flatMap_nil, List.append_nil, List.append_assoc]; rfl
theorem upE_len (xs : List Ext) (j : Nat) (h : xs.length ≤ 16) : ((xs.take j).flatMap extL).length ≤ 320 := by
  have h1 := extsL_len (xs.take j)
  rw [List.length_take] at h1; omega
end Go.Ino
namespace Go.Proofs.YteemloillnfaeaaDoor
open Go.RowKit Go.Ino Go.Wir
theorem ref8_number (n : Int) (h0 : 0 ≤ n) (h1 : n ≤ 9223372036854775807) (w : World) :
    Calls Tryd.prog 52 #[.int .i64 n] w fun e w' => e = .returned (.string (B (varL n.toNat))) ∧ Below w.heap.size w w' := by
  have q1 : IntKind.u64.wrap n = n := by rw [IntKind.wrap_u64]; omega
  go_enter Tryd.func52, Tryd.ntmps52
  go_wp2_with (go_at_call 77; refine (ref2_Var n h0 (by omega) _).mono ?_; rintro e w1 ⟨rfl, hb⟩)
  go_ret
  exact ⟨rfl, hb⟩
theorem ref8_numT (n : Int) (h0 : 0 ≤ n) (h1 : n ≤ 9223372036854775807) : ∃ T : ByteArray, T.size ≤ 10 ∧ T = B (varL n.toNat) ∧ Hid (∀ w, Calls Tryd.prog 52 #[.int .i64 n] w fun e w' => e = .returned (.string T) ∧ Below w.heap.size w w') :=
  ⟨_, by rw [size_B]; exact (varL_length _).2, rfl, Lib.hid (fun w => ref8_number n h0 h1 w)⟩
theorem ref8_txtT (t : Tx) (h : t.length ≤ 1000000) : ∃ T : ByteArray, T.size ≤ 10 + t.length ∧ T = B (textL t) ∧ Hid (∀ w, Calls Tryd.prog 53 #[.string (B t)] w fun e w' => e = .returned (.string T) ∧ Below w.heap.size w w') :=
  ⟨_, by rw [size_B]; exact textL_len t, rfl, Lib.hid (fun w => by have := ref2_Text (B t) (by rw [size_B]; omega) w; rw [L_B] at this; exact this)⟩
theorem size_app (a b : Tx) : (B a ++ B b).size = a.length + b.length := by rw [B_append, size_B, List.length_append]
set_option maxRecDepth 100000 in
set_option maxHeartbeats 6400000 in
theorem ref8_bytes (v : Value) (l : List Fil) (hl : l.length ≤ 64) (hs : ∀ f ∈ l, FewF 24 f) (w : World) (hv : Files w v l) :
    Calls Tryd.prog 28 #[v] w fun e w' => e = .returned (.string (B (bytesL l))) ∧ Below w.heap.size w w' := by
  obtain ⟨oa, c, rfl, _, hcell⟩ := hv
  have Hcell := Lib.hid hcell
  have Hs := Lib.hid hs
  clear hcell hs
  have hv10 := (varL_length l.length).2
  have hv11 : (B (varL l.length)).size ≤ 10 := by rw [size_B]; exact hv10
  go_enter Tryd.func28, Tryd.ntmps28
  go_wp2_with (go_at_call 52; refine (ref8_number _ (by omega) (by omega) _).mono ?_; rintro e w1 ⟨rfl, hb1⟩)
  have Hb1 := Lib.hid hb1
  have Hup := Lib.hid (fun k => upL_len k Hs.out hl)
  have H0 : Hid (B [67, 68, 88, 73] ++ B (varL l.length) = B (upL l 0)) := Lib.hid (by rw [B_append]; unfold upL; simp)
  clear hb1 hv10 hv11
  go_loopw [3, 4] (fun s i wr => ∃ k : Nat, k ≤ l.length ∧ i = .int .i64 k ∧ s = .string (B (upL l k)) ∧ Below w.heap.size w wr) (fun _ i _ => l.length - (intOf i).toNat)
  case atStart => exact ⟨0, by omega, rfl, congrArg Value.string H0.out, Hb1.out⟩
  case round =>
    obtain ⟨k, hk, rfl, rfl, hbel⟩ := hrel
    have Hbel := Lib.hid hbel
    by_cases hlt : k < l.length
    · obtain ⟨b, off, ve, rfl, hb, c1, c2, c3, c4, hex⟩ := Hcell.out k hlt
      have c4w := Lib.hid c4
      have c1 := cell_below hbel hb c1
      have c2 := cell_below hbel hb c2
      have c3 := cell_below hbel hb c3
      have c4 := cell_below hbel hb c4
      have Hnext := Lib.hid (upL_next hlt)
      have hS := Hup.out k
      obtain ⟨f1, f2, f3, f4, f5⟩ := Hs.out l[k] (List.getElem_mem hlt)
      have F5 := Lib.hid f5
      obtain ⟨ob, oc, rfl, -⟩ := hex.form
      have Hex := Lib.hid (exts_cells hex)
      have hki : (k : Int) < (l.length : Int) := by omega
      clear hbel hex f5
      generalize upL l k = S at *
      generalize l[k] = f at *
      obtain ⟨nm, sh, sz, xs⟩ := f
      simp only at c1 c2 c3 c4 f1 f2 f3 f4
      have s0 := size_B S
      have HS := Lib.hid hS
      obtain ⟨T1, hs1, hE1, HT⟩ := ref8_txtT nm (by omega)
      obtain ⟨T3, hs3, hE3, HN3⟩ := ref8_numT sz (by omega) (by omega)
      obtain ⟨T4, hs4, hE4, HN4⟩ := ref8_numT (xs.length : Int) (by omega) (by omega)
      cases sh
      · obtain ⟨T2, hs2, hE2, HN2⟩ := ref8_numT 0 (by omega) (by omega)
        have HE := Lib.hid (show B S ++ T1 ++ T2 ++ T3 ++ T4 = B (S ++ headF ⟨nm, false, sz, xs⟩) by
          rw [hE1, hE2, hE3, hE4]; simp only [B_append, headF, List.append_assoc]; rfl)
        have r1 : ¬ 9223372036854775807 < (B S).size + T1.size := by omega
        have r2 : ¬ 9223372036854775807 < (B S).size + T1.size + T2.size := by omega
        have r3 : ¬ 9223372036854775807 < (B S).size + T1.size + T2.size + T3.size := by omega
        have r4 : ¬ 9223372036854775807 < (B S).size + T1.size + T2.size + T3.size + T4.size := by omega
        clear hE1 hE2 hE3 hE4 s0 hS
        go_wp2
        go_region_held3 (fun w' => Below wr.heap.size wr w' ∧ w'.cell? ⟨b, off + k * 4, none⟩ = some (.string (B nm)) ∧ w'.cell? ⟨b, off + k * 4 + 2, none⟩ = some (.int .i64 sz) ∧ w'.cell? ⟨b, off + k * 4 + 3, none⟩ = some (.slice ob xs.length oc))
          (first | assumption | (refine ⟨below_drew wr, ?_, ?_, ?_⟩ <;> assumption) | (go_split_ands; refine ⟨?_, ?_, ?_, ?_⟩ <;> first | exact step_call (by assumption) hb1 | exact cell_call hb1 (by assumption)))
          (first
            | (go_at_call 53; with_reducible refine (HT.out _).mono ?_; rintro e w5 ⟨rfl, hb1⟩)
            | (go_at_call 52; with_reducible refine (HN2.out _).mono ?_; rintro e w5 ⟨rfl, hb1⟩)
            | (go_at_call 52; with_reducible refine (HN3.out _).mono ?_; rintro e w5 ⟨rfl, hb1⟩)
            | (go_at_call 52; with_reducible refine (HN4.out _).mono ?_; rintro e w5 ⟨rfl, hb1⟩)
            | fail)
        all_goals
          have Hbz := Lib.hid (step_call Hbel.out (by go_split_ands; assumption))
          clear r1 r2 r3 r4 c1 c3 c4
          go_wp2
          rw [HE.out]
          rename World => wo
          go_loopw [3, 6] (fun s i wr => ∃ j : Nat, j ≤ xs.length ∧ i = .int .i64 j ∧ s = .string (B (S ++ headF ⟨nm, false, sz, xs⟩ ++ (xs.take j).flatMap extL)) ∧ Below w.heap.size w wr) (fun _ i _ => xs.length - (intOf i).toNat)
          case atStart => exact ⟨0, by omega, rfl, by simp, Hbz.out⟩
          case round =>
            obtain ⟨j, hj, rfl, rfl, hbel⟩ := hrel
            have Hbel2 := Lib.hid hbel
            have c4 := cell_below hbel hb c4w.out
            by_cases hjl : j < xs.length
            · obtain ⟨eb, eo, rfl, heb, x1c, x2c⟩ := Hex.out j hjl
              have x1c := cell_below hbel heb x1c
              have x2c := cell_below hbel heb x2c
              have hx := F5.out xs[j] (List.getElem_mem hjl)
              have HL : Hid ((S ++ headF ⟨nm, false, sz, xs⟩ ++ (xs.take j).flatMap extL).length ≤ 26100) := Lib.hid (by
                have h1 := headF_len (f := ⟨nm, false, sz, xs⟩) f1
                have h2 := upE_len xs j f4
                have h3 := HS.out
                rw [List.length_append, List.length_append]; omega)
              have Hnx := Lib.hid (upE_next hjl)
              have hjn : (j : Int) < (xs.length : Int) := by omega
              clear hbel
              generalize xs[j] = x at *
              obtain ⟨y1, y2⟩ := x
              unfold smallE at hx
              simp only at hx x1c x2c Hnx
              obtain ⟨U1, hu1, hE1, HU1⟩ := ref8_numT y1 (by omega) (by omega)
              obtain ⟨U2, hu2, hE2, HU2⟩ := ref8_numT y2 (by omega) (by omega)
              have HE2 := Lib.hid (show B (S ++ headF ⟨nm, false, sz, xs⟩ ++ (xs.take j).flatMap extL) ++ U1 ++ U2 = B (S ++ headF ⟨nm, false, sz, xs⟩ ++ (xs.take (j + 1)).flatMap extL) by
                rw [hE1, hE2, Hnx.out]; simp only [B_append, List.append_assoc])
              have r1 : ¬ 9223372036854775807 < (B (S ++ headF ⟨nm, false, sz, xs⟩ ++ (xs.take j).flatMap extL)).size + U1.size := by rw [size_B]; have := HL.out; omega
              have r2 : ¬ 9223372036854775807 < (B (S ++ headF ⟨nm, false, sz, xs⟩ ++ (xs.take j).flatMap extL)).size + U1.size + U2.size := by rw [size_B]; have := HL.out; omega
              clear hE1 hE2
              generalize B (S ++ headF ⟨nm, false, sz, xs⟩ ++ (xs.take j).flatMap extL) = Z at *
              go_wp2
              go_region_held3 (fun w' => Below wr.heap.size wr w' ∧ w'.cell? ⟨b, off + k * 4 + 3, none⟩ = some (.slice (some ⟨eb, eo, none⟩) xs.length oc) ∧ w'.cell? ⟨eb, eo + j * 2, none⟩ = some (.int .i64 y1) ∧ w'.cell? ⟨eb, eo + j * 2 + 1, none⟩ = some (.int .i64 y2))
                (first | assumption | (refine ⟨below_drew wr, ?_, ?_, ?_⟩ <;> assumption) | (go_split_ands; refine ⟨?_, ?_, ?_, ?_⟩ <;> first | exact step_call (by assumption) hb1 | exact cell_call hb1 (by assumption)))
                (first
                  | (go_at_call 52; with_reducible refine (HU1.out _).mono ?_; rintro e w5 ⟨rfl, hb1⟩)
                  | (go_at_call 52; with_reducible refine (HU2.out _).mono ?_; rintro e w5 ⟨rfl, hb1⟩)
                  | fail)
              all_goals
                clear r1 r2
                go_wp2
                go_roundw
                case rel => exact ⟨j + 1, by omega, by go_num, by rw [HE2.out], step_call Hbel2.out (by go_split_ands; assumption)⟩
                case measure => simp [intOf]; omega
            · obtain rfl : j = xs.length := by omega
              have HEN : Hid (S ++ headF ⟨nm, false, sz, xs⟩ ++ (xs.take xs.length).flatMap extL = upL l (k + 1)) := Lib.hid (by rw [Hnext.out, List.take_length])
              clear hbel
              go_wp2
              go_roundw
              case rel => exact ⟨k + 1, by omega, by go_num, by rw [HEN.out], Hbel2.out⟩
              case measure => simp [intOf]; omega
      · obtain ⟨T2, hs2, hE2, HN2⟩ := ref8_numT 1 (by omega) (by omega)
        have HE := Lib.hid (show B S ++ T1 ++ T2 ++ T3 ++ T4 = B (S ++ headF ⟨nm, true, sz, xs⟩) by
          rw [hE1, hE2, hE3, hE4]; simp only [B_append, headF, List.append_assoc]; rfl)
        have r1 : ¬ 9223372036854775807 < (B S).size + T1.size := by omega
        have r2 : ¬ 9223372036854775807 < (B S).size + T1.size + T2.size := by omega
        have r3 : ¬ 9223372036854775807 < (B S).size + T1.size + T2.size + T3.size := by omega
        have r4 : ¬ 9223372036854775807 < (B S).size + T1.size + T2.size + T3.size + T4.size := by omega
        clear hE1 hE2 hE3 hE4 s0 hS
        go_wp2
        go_region_held3 (fun w' => Below wr.heap.size wr w' ∧ w'.cell? ⟨b, off + k * 4, none⟩ = some (.string (B nm)) ∧ w'.cell? ⟨b, off + k * 4 + 2, none⟩ = some (.int .i64 sz) ∧ w'.cell? ⟨b, off + k * 4 + 3, none⟩ = some (.slice ob xs.length oc))
          (first | assumption | (refine ⟨below_drew wr, ?_, ?_, ?_⟩ <;> assumption) | (go_split_ands; refine ⟨?_, ?_, ?_, ?_⟩ <;> first | exact step_call (by assumption) hb1 | exact cell_call hb1 (by assumption)))
          (first
            | (go_at_call 53; with_reducible refine (HT.out _).mono ?_; rintro e w5 ⟨rfl, hb1⟩)
            | (go_at_call 52; with_reducible refine (HN2.out _).mono ?_; rintro e w5 ⟨rfl, hb1⟩)
            | (go_at_call 52; with_reducible refine (HN3.out _).mono ?_; rintro e w5 ⟨rfl, hb1⟩)
            | (go_at_call 52; with_reducible refine (HN4.out _).mono ?_; rintro e w5 ⟨rfl, hb1⟩)
            | fail)
        all_goals
          have Hbz := Lib.hid (step_call Hbel.out (by go_split_ands; assumption))
          clear r1 r2 r3 r4 c1 c3 c4
          go_wp2
          rw [HE.out]
          rename World => wo
          go_loopw [3, 6] (fun s i wr => ∃ j : Nat, j ≤ xs.length ∧ i = .int .i64 j ∧ s = .string (B (S ++ headF ⟨nm, true, sz, xs⟩ ++ (xs.take j).flatMap extL)) ∧ Below w.heap.size w wr) (fun _ i _ => xs.length - (intOf i).toNat)
          case atStart => exact ⟨0, by omega, rfl, by simp, Hbz.out⟩
          case round =>
            obtain ⟨j, hj, rfl, rfl, hbel⟩ := hrel
            have Hbel2 := Lib.hid hbel
            have c4 := cell_below hbel hb c4w.out
            by_cases hjl : j < xs.length
            · obtain ⟨eb, eo, rfl, heb, x1c, x2c⟩ := Hex.out j hjl
              have x1c := cell_below hbel heb x1c
              have x2c := cell_below hbel heb x2c
              have hx := F5.out xs[j] (List.getElem_mem hjl)
              have HL : Hid ((S ++ headF ⟨nm, true, sz, xs⟩ ++ (xs.take j).flatMap extL).length ≤ 26100) := Lib.hid (by
                have h1 := headF_len (f := ⟨nm, true, sz, xs⟩) f1
                have h2 := upE_len xs j f4
                have h3 := HS.out
                rw [List.length_append, List.length_append]; omega)
              have Hnx := Lib.hid (upE_next hjl)
              have hjn : (j : Int) < (xs.length : Int) := by omega
              clear hbel
              generalize xs[j] = x at *
              obtain ⟨y1, y2⟩ := x
              unfold smallE at hx
              simp only at hx x1c x2c Hnx
              obtain ⟨U1, hu1, hE1, HU1⟩ := ref8_numT y1 (by omega) (by omega)
              obtain ⟨U2, hu2, hE2, HU2⟩ := ref8_numT y2 (by omega) (by omega)
              have HE2 := Lib.hid (show B (S ++ headF ⟨nm, true, sz, xs⟩ ++ (xs.take j).flatMap extL) ++ U1 ++ U2 = B (S ++ headF ⟨nm, true, sz, xs⟩ ++ (xs.take (j + 1)).flatMap extL) by
                rw [hE1, hE2, Hnx.out]; simp only [B_append, List.append_assoc])
              have r1 : ¬ 9223372036854775807 < (B (S ++ headF ⟨nm, true, sz, xs⟩ ++ (xs.take j).flatMap extL)).size + U1.size := by rw [size_B]; have := HL.out; omega
              have r2 : ¬ 9223372036854775807 < (B (S ++ headF ⟨nm, true, sz, xs⟩ ++ (xs.take j).flatMap extL)).size + U1.size + U2.size := by rw [size_B]; have := HL.out; omega
              clear hE1 hE2
              generalize B (S ++ headF ⟨nm, true, sz, xs⟩ ++ (xs.take j).flatMap extL) = Z at *
              go_wp2
              go_region_held3 (fun w' => Below wr.heap.size wr w' ∧ w'.cell? ⟨b, off + k * 4 + 3, none⟩ = some (.slice (some ⟨eb, eo, none⟩) xs.length oc) ∧ w'.cell? ⟨eb, eo + j * 2, none⟩ = some (.int .i64 y1) ∧ w'.cell? ⟨eb, eo + j * 2 + 1, none⟩ = some (.int .i64 y2))
                (first | assumption | (refine ⟨below_drew wr, ?_, ?_, ?_⟩ <;> assumption) | (go_split_ands; refine ⟨?_, ?_, ?_, ?_⟩ <;> first | exact step_call (by assumption) hb1 | exact cell_call hb1 (by assumption)))
                (first
                  | (go_at_call 52; with_reducible refine (HU1.out _).mono ?_; rintro e w5 ⟨rfl, hb1⟩)
                  | (go_at_call 52; with_reducible refine (HU2.out _).mono ?_; rintro e w5 ⟨rfl, hb1⟩)
                  | fail)
              all_goals
                clear r1 r2
                go_wp2
                go_roundw
                case rel => exact ⟨j + 1, by omega, by go_num, by rw [HE2.out], step_call Hbel2.out (by go_split_ands; assumption)⟩
                case measure => simp [intOf]; omega
            · obtain rfl : j = xs.length := by omega
              have HEN : Hid (S ++ headF ⟨nm, true, sz, xs⟩ ++ (xs.take xs.length).flatMap extL = upL l (k + 1)) := Lib.hid (by rw [Hnext.out, List.take_length])
              clear hbel
              go_wp2
              go_roundw
              case rel => exact ⟨k + 1, by omega, by go_num, by rw [HEN.out], Hbel2.out⟩
              case measure => simp [intOf]; omega
    · obtain rfl : k = l.length := by omega
      go_wp2
      go_ret
      exact ⟨by rw [upL_end]; rfl, hbel⟩
end Go.Proofs.YteemloillnfaeaaDoor
