/- Chapter 8: a directory's bytes, by the program: inode.number, bytes. Conditions: few files, each small. -/
import Derived.Test.YteemloillnfaeaaDoorInoH
import Derived.Test.YteemloillnfaeaaDoorBld2
import Derived.Test.YteemloillnfaeaaDoorWireText
namespace Go.Proofs.YteemloillnfaeaaDoor
open Go.RowKit Go.Ino Go.Wir
theorem row1i (w : World) (b : Nat) (hb : b = w.heap.size) (v : Value) (t : TypeId) : Row (w.alloc (.cells #[v] t)) (.slice (some ⟨b, 0, none⟩) 1 1) [v] := by subst hb; exact Row.new w [v] t
theorem wire_Var1i (v : Value) (n : Nat) (hn : n ≤ 9223372036854775807) (w : World) (h : Row w v [.int .u64 (n : Nat)]) :
    Calls Tryd.prog 72 #[v] w fun e w' => e = .returned (.string (B (varL n))) ∧ Below w.heap.size w w' := by
  have := wire_Var v [n] w h (by simp) (fun m hm => by simp only [List.mem_singleton] at hm; subst hm; unfold FitsN; omega)
  rw [show varsL [n] = varL n by simp [varsL]] at this
  exact this
theorem wire_Text1i (v : Value) (t : Tx) (ha : t.length ≤ 1099511627000) (w : World) (h : Row w v [.string (B t)]) :
    Calls Tryd.prog 46 #[v] w fun e w' => e = .returned (.string (B (textL t))) ∧ Below w.heap.size w w' := by
  have := wire_Text v [B t] w h (by simp [sizes, size_B]; omega)
  rw [show textsL [B t] = textL t by simp [textsL, L_B]] at this
  exact this
theorem ino_number (n : Int) (h0 : 0 ≤ n) (h1 : n ≤ 9223372036854775807) (w : World) :
    Calls Tryd.prog 45 #[.int .i64 n] w fun e w' => e = .returned (.string (B (varL n.toNat))) ∧ Below w.heap.size w w' := by
  obtain ⟨m, rfl⟩ : ∃ m : Nat, n = (m : Int) := ⟨n.toNat, by omega⟩
  have hm : m ≤ 9223372036854775807 := by omega
  have q1 : IntKind.u64.wrap (m : Int) = (m : Int) := by rw [IntKind.wrap_u64]; omega
  go_enter Tryd.func45, Tryd.ntmps45
  go_wp2_with (go_at_call 72; refine (wire_Var1i _ m hm _ (row1i _ _ (by simp) _ _)).mono ?_; rintro e w1 ⟨rfl, hb⟩)
  go_ret
  exact ⟨rfl, step_alloc (Below.refl _ _) hb⟩
theorem ino_numT (n : Int) (h0 : 0 ≤ n) (h1 : n ≤ 9223372036854775807) : ∃ T : ByteArray, T.size ≤ 10 ∧ T = B (varL n.toNat) ∧ Hid (∀ w, Calls Tryd.prog 45 #[.int .i64 n] w fun e w' => e = .returned (.string T) ∧ Below w.heap.size w w') :=
  ⟨_, by rw [size_B]; exact (varL_length _).2, rfl, Lib.hid (fun w => ino_number n h0 h1 w)⟩
theorem ino_txtT (t : Tx) (h : t.length ≤ 1000000) : ∃ T : ByteArray, T.size ≤ 10 + t.length ∧ T = B (textL t) ∧ Hid (∀ v w, Row w v [.string (B t)] → Calls Tryd.prog 46 #[v] w fun e w' => e = .returned (.string T) ∧ Below w.heap.size w w') :=
  ⟨_, by rw [size_B]; exact textL_len t, rfl, Lib.hid (fun v w h2 => wire_Text1i v t (by omega) w h2)⟩
set_option maxRecDepth 100000 in
set_option maxHeartbeats 6400000 in
theorem ino_bytes (v : Value) (l : List Fil) (hl : l.length ≤ 64) (hs : ∀ f ∈ l, FewF 24 f) (w : World) (hv : Files w v l) :
    Calls Tryd.prog 26 #[v] w fun e w' => e = .returned (.string (B (bytesL l))) ∧ Below w.heap.size w w' := by
  obtain ⟨oa, c, rfl, _, hcell⟩ := hv
  have Hcell := Lib.hid hcell
  have Hs := Lib.hid hs
  clear hcell hs
  obtain ⟨T0, hs0, hE0, HN0⟩ := ino_numT (l.length : Int) (by omega) (by omega)
  have Hup := Lib.hid (fun k => upL_len k Hs.out hl)
  have H0 : Hid (L (B [67, 68, 88, 73] ++ T0) = upL l 0) := Lib.hid (by rw [hE0, B_append, L_B]; unfold upL; simp)
  have hO := One.new w w (Below.refl _ _)
  clear hE0
  go_enter Tryd.func26, Tryd.ntmps26
  go_wp2_with (first
    | (go_at_call 45; refine (HN0.out _).mono ?_; rintro e w1 ⟨rfl, hb1⟩; have hO1 := hO.call hb1)
    | (go_at_call 44; refine (bld_write _ _ _ _ _ hO1.bld (by simp only [List.length_nil, ByteArray.size_append']; show 0 + (4 + T0.size) ≤ _; omega)).mono ?_; rintro e w2 ⟨rfl, o2, hB2, ho2, hc2⟩; have HO2 := Lib.hid (hO1.write hB2 ho2 hc2))
    | fail)
  have HO3 : Hid (One w w2 w.heap.size o2 (upL l 0)) := Lib.hid (by rw [← H0.out]; exact HO2.out)
  clear hO hO1 hB2 ho2 hc2 hb1
  go_loopw [16] (fun i wr => ∃ (k : Nat) (o : Option Nat), k ≤ l.length ∧ i = .int .i64 k ∧ One w wr w.heap.size o (upL l k)) (fun i _ => l.length - (intOf i).toNat)
  case atStart => exact ⟨0, o2, by omega, rfl, HO3.out⟩
  case round =>
    obtain ⟨k, o, hk, rfl, hO⟩ := hrel
    have HO := Lib.hid hO
    have hbel := hO.bel
    by_cases hlt : k < l.length
    · obtain ⟨b, off, ve, rfl, hb, c1, c2, c3, c4, hex⟩ := Hcell.out k hlt
      have c1 := cell_below hbel hb c1
      have c2 := cell_below hbel hb c2
      have c3 := cell_below hbel hb c3
      have c4 := cell_below hbel hb c4
      have Hnext := Lib.hid (upL_next hlt)
      have hS := Hup.out k
      obtain ⟨f1, f2, f3, f4, f5⟩ := Hs.out l[k] (List.getElem_mem hlt)
      have F5 := Lib.hid f5
      obtain ⟨ob, oc, rfl, -⟩ := hex.form
      have Hex := Lib.hid (exts_cells hex)
      have hki : (k : Int) < (l.length : Int) := by omega
      clear hbel hex f5 hO
      generalize upL l k = S at *
      generalize l[k] = f at *
      obtain ⟨nm, sh, sz, xs⟩ := f
      simp only at c1 c2 c3 c4 f1 f2 f3 f4
      have HS := Lib.hid hS
      obtain ⟨T1, hs1, hE1, HT⟩ := ino_txtT nm (by omega)
      obtain ⟨T3, hs3, hE3, HN3⟩ := ino_numT sz (by omega) (by omega)
      obtain ⟨T4, hs4, hE4, HN4⟩ := ino_numT (xs.length : Int) (by omega) (by omega)
      cases sh
      · obtain ⟨T2, hs2, hE2, HN2⟩ := ino_numT 0 (by omega) (by omega)
        have HE := Lib.hid (show L (T1 ++ T2 ++ T3 ++ T4) = headF ⟨nm, false, sz, xs⟩ by
          rw [hE1, hE2, hE3, hE4]; simp only [B_append, L_B, headF]; rfl)
        have r2 : ¬ 9223372036854775807 < T1.size + T2.size := by omega
        have r3 : ¬ 9223372036854775807 < T1.size + T2.size + T3.size := by omega
        have r4 : ¬ 9223372036854775807 < T1.size + T2.size + T3.size + T4.size := by omega
        have r5 : S.length + (T1.size + T2.size + T3.size + T4.size) ≤ 140737488355328 := by omega
        have R5 := Lib.hid r5
        clear hE1 hE2 hE3 hE4 r5
        have HF := Lib.hid (heap_alloc_new wr (.cells #[.string (B nm), .bool false, .int .i64 sz, .slice ob xs.length oc] 44))
        have d1 : (wr.alloc (.cells #[.string (B nm), .bool false, .int .i64 sz, .slice ob xs.length oc] 44)).cell? ⟨wr.heap.size, 0, none⟩ = some (.string (B nm)) := by rw [Lib.cell_of_heap HF.out]; rfl
        have d3 : (wr.alloc (.cells #[.string (B nm), .bool false, .int .i64 sz, .slice ob xs.length oc] 44)).cell? ⟨wr.heap.size, 2, none⟩ = some (.int .i64 sz) := by rw [Lib.cell_of_heap HF.out]; rfl
        have d4 : (wr.alloc (.cells #[.string (B nm), .bool false, .int .i64 sz, .slice ob xs.length oc] 44)).cell? ⟨wr.heap.size, 3, none⟩ = some (.slice ob xs.length oc) := by rw [Lib.cell_of_heap HF.out]; rfl
        have HOf := Lib.hid (HO.out.alloc (.cells #[.string (B nm), .bool false, .int .i64 sz, .slice ob xs.length oc] 44))
        have Hne : Hid (¬ (wr.heap.size = w.heap.size ∨ o = some wr.heap.size)) := Lib.hid (fun h => Nat.lt_irrefl _ (own_lt HO.out.bld _ h))
        go_wp2
        go_region_held3 (fun w' => w'.cell? ⟨wr.heap.size, 0, none⟩ = some (.string (B nm)) ∧ w'.cell? ⟨wr.heap.size, 2, none⟩ = some (.int .i64 sz) ∧ w'.cell? ⟨wr.heap.size, 3, none⟩ = some (.slice ob xs.length oc))
          (first | assumption | exact ⟨d1, d3, d4⟩ | (refine ⟨?_, ?_, ?_⟩ <;> assumption) | (go_split_ands; refine ⟨?_, ?_, ?_⟩ <;> first | exact cell_call hb1 (by assumption) | exact cell_chg hc' Hne.out (by assumption) | exact cell_alloc _ (by assumption)))
          (first
            | (go_at_call 46
               refine (HT.out _ _ (by first | exact (row1i _ _ (by simp) _ _).below (below_drew _) | exact row1i _ _ (by simp) _ _ | exact ((row1i _ _ (by simp) _ _).below ((Below.refl _ _).alloc (Nat.le_refl _) _)).below (below_drew _))).mono ?_
               rintro e w5 ⟨rfl, hb1⟩
               have HB1 : Hid (One w w5 w.heap.size o S) := Lib.hid (by first | exact ((HOf.out.alloc _).call (below_drew _)).call hb1 | exact (((HOf.out.alloc _).alloc _).call (below_drew _)).call hb1))
            | (go_at_call 45; with_reducible refine (HN2.out _).mono ?_; rintro e w5 ⟨rfl, hb1⟩; have HB2 := Lib.hid (HB1.out.call hb1))
            | (go_at_call 45; with_reducible refine (HN3.out _).mono ?_; rintro e w5 ⟨rfl, hb1⟩; have HB3 := Lib.hid (HB2.out.call hb1))
            | (go_at_call 45; with_reducible refine (HN4.out _).mono ?_; rintro e w5 ⟨rfl, hb1⟩; have HB4 := Lib.hid (HB3.out.call hb1))
            | (go_at_call 44
               refine (bld_write _ _ _ _ _ HB4.out.bld (by simp only [ByteArray.size_append']; exact R5.out)).mono ?_
               rintro e w6 ⟨rfl, o', hB', ho', hc'⟩
               have HB5 := Lib.hid (HB4.out.write hB' ho' hc'))
            | fail)
        all_goals
          have HB6 : Hid (One w w6 w.heap.size o' (S ++ headF ⟨nm, false, sz, xs⟩)) := Lib.hid (by rw [← HE.out]; exact HB5.out)
          clear r2 r3 r4 d1 d3 d4
          go_wp2
          go_loopw [42] (fun i wr => ∃ (j : Nat) (o : Option Nat), j ≤ xs.length ∧ i = .int .i64 j ∧ One w wr w.heap.size o (S ++ headF ⟨nm, false, sz, xs⟩ ++ (xs.take j).flatMap extL)) (fun i _ => xs.length - (intOf i).toNat)
          case atStart => exact ⟨0, o', by omega, rfl, by simpa using HB6.out⟩
          case round =>
            obtain ⟨j, oj, hj, rfl, hOj⟩ := hrel
            have HOj := Lib.hid hOj
            by_cases hjl : j < xs.length
            · obtain ⟨eb, eo, rfl, heb, x1c, x2c⟩ := Hex.out j hjl
              have x1c := cell_below hOj.bel heb x1c
              have x2c := cell_below hOj.bel heb x2c
              have hx := F5.out xs[j] (List.getElem_mem hjl)
              have HL : Hid ((S ++ headF ⟨nm, false, sz, xs⟩ ++ (xs.take j).flatMap extL).length ≤ 26100) := Lib.hid (by
                have h1 := headF_len (f := ⟨nm, false, sz, xs⟩) f1
                have h2 := upE_len xs j f4
                have h3 := HS.out
                rw [List.length_append, List.length_append]; omega)
              have Hnx := Lib.hid (upE_next hjl)
              have hjn : (j : Int) < (xs.length : Int) := by omega
              clear hOj
              generalize xs[j] = x at *
              obtain ⟨y1, y2⟩ := x
              unfold smallE at hx
              simp only at hx x1c x2c Hnx
              obtain ⟨U1, hu1, hE1, HU1⟩ := ino_numT y1 (by omega) (by omega)
              obtain ⟨U2, hu2, hE2, HU2⟩ := ino_numT y2 (by omega) (by omega)
              have HE2 := Lib.hid (show S ++ headF ⟨nm, false, sz, xs⟩ ++ (xs.take j).flatMap extL ++ L (U1 ++ U2) = S ++ headF ⟨nm, false, sz, xs⟩ ++ (xs.take (j + 1)).flatMap extL by
                rw [hE1, hE2, Hnx.out]; simp only [B_append, L_B, List.append_assoc])
              have r1 : ¬ 9223372036854775807 < U1.size + U2.size := by omega
              have hZ := HL.out
              generalize hZ0 : S ++ headF ⟨nm, false, sz, xs⟩ ++ (xs.take j).flatMap extL = Z at *
              have R5 : Hid (Z.length + (U1.size + U2.size) ≤ 140737488355328) := Lib.hid (by omega)
              clear hE1 hE2 hZ hZ0
              have HF2 := Lib.hid (heap_alloc_new wr (.cells #[.int .i64 y1, .int .i64 y2] 46))
              have d1 : (wr.alloc (.cells #[.int .i64 y1, .int .i64 y2] 46)).cell? ⟨wr.heap.size, 0, none⟩ = some (.int .i64 y1) := by rw [Lib.cell_of_heap HF2.out]; rfl
              have d2 : (wr.alloc (.cells #[.int .i64 y1, .int .i64 y2] 46)).cell? ⟨wr.heap.size, 1, none⟩ = some (.int .i64 y2) := by rw [Lib.cell_of_heap HF2.out]; rfl
              have HOx := Lib.hid (HOj.out.alloc (.cells #[.int .i64 y1, .int .i64 y2] 46))
              have Hne2 : Hid (¬ (wr.heap.size = w.heap.size ∨ oj = some wr.heap.size)) := Lib.hid (fun h => Nat.lt_irrefl _ (own_lt HOj.out.bld _ h))
              go_wp2
              go_region_held3 (fun w' => w'.cell? ⟨wr.heap.size, 0, none⟩ = some (.int .i64 y1) ∧ w'.cell? ⟨wr.heap.size, 1, none⟩ = some (.int .i64 y2))
                (first | assumption | exact ⟨d1, d2⟩ | (refine ⟨?_, ?_⟩ <;> assumption) | (go_split_ands; refine ⟨?_, ?_⟩ <;> first | exact cell_call hb2 (by assumption) | exact cell_chg hc2 Hne2.out (by assumption) | exact cell_alloc _ (by assumption)))
                (first
                  | (go_at_call 45; with_reducible refine (HU1.out _).mono ?_; rintro e w7 ⟨rfl, hb2⟩; have HC1 := Lib.hid ((HOx.out.call (below_drew _)).call hb2))
                  | (go_at_call 45; with_reducible refine (HU2.out _).mono ?_; rintro e w7 ⟨rfl, hb2⟩; have HC2 := Lib.hid (HC1.out.call hb2))
                  | (go_at_call 44; refine (bld_write _ _ _ _ _ HC2.out.bld (by simp only [ByteArray.size_append']; exact R5.out)).mono ?_; rintro e w8 ⟨rfl, o2', hB2, ho2, hc2⟩; have HC3 := Lib.hid (HC2.out.write hB2 ho2 hc2))
                  | fail)
              all_goals
                clear r1 d1 d2
                go_wp2
                go_roundw
                case rel => exact ⟨j + 1, o2', by omega, by go_num, by rw [← HE2.out]; exact HC3.out⟩
                case measure => simp [intOf]; omega
            · obtain rfl : j = xs.length := by omega
              have HEN : Hid (S ++ headF ⟨nm, false, sz, xs⟩ ++ (xs.take xs.length).flatMap extL = upL l (k + 1)) := Lib.hid (by rw [Hnext.out, List.take_length])
              rw [HEN.out] at HOj
              clear hOj
              go_wp2
              go_roundw
              case rel => exact ⟨k + 1, oj, by omega, by go_num, HOj.out⟩
              case measure => simp [intOf]; omega
      · obtain ⟨T2, hs2, hE2, HN2⟩ := ino_numT 1 (by omega) (by omega)
        have HE := Lib.hid (show L (T1 ++ T2 ++ T3 ++ T4) = headF ⟨nm, true, sz, xs⟩ by
          rw [hE1, hE2, hE3, hE4]; simp only [B_append, L_B, headF]; rfl)
        have r2 : ¬ 9223372036854775807 < T1.size + T2.size := by omega
        have r3 : ¬ 9223372036854775807 < T1.size + T2.size + T3.size := by omega
        have r4 : ¬ 9223372036854775807 < T1.size + T2.size + T3.size + T4.size := by omega
        have r5 : S.length + (T1.size + T2.size + T3.size + T4.size) ≤ 140737488355328 := by omega
        have R5 := Lib.hid r5
        clear hE1 hE2 hE3 hE4 r5
        have HF := Lib.hid (heap_alloc_new wr (.cells #[.string (B nm), .bool true, .int .i64 sz, .slice ob xs.length oc] 44))
        have d1 : (wr.alloc (.cells #[.string (B nm), .bool true, .int .i64 sz, .slice ob xs.length oc] 44)).cell? ⟨wr.heap.size, 0, none⟩ = some (.string (B nm)) := by rw [Lib.cell_of_heap HF.out]; rfl
        have d3 : (wr.alloc (.cells #[.string (B nm), .bool true, .int .i64 sz, .slice ob xs.length oc] 44)).cell? ⟨wr.heap.size, 2, none⟩ = some (.int .i64 sz) := by rw [Lib.cell_of_heap HF.out]; rfl
        have d4 : (wr.alloc (.cells #[.string (B nm), .bool true, .int .i64 sz, .slice ob xs.length oc] 44)).cell? ⟨wr.heap.size, 3, none⟩ = some (.slice ob xs.length oc) := by rw [Lib.cell_of_heap HF.out]; rfl
        have HOf := Lib.hid (HO.out.alloc (.cells #[.string (B nm), .bool true, .int .i64 sz, .slice ob xs.length oc] 44))
        have Hne : Hid (¬ (wr.heap.size = w.heap.size ∨ o = some wr.heap.size)) := Lib.hid (fun h => Nat.lt_irrefl _ (own_lt HO.out.bld _ h))
        go_wp2
        go_region_held3 (fun w' => w'.cell? ⟨wr.heap.size, 0, none⟩ = some (.string (B nm)) ∧ w'.cell? ⟨wr.heap.size, 2, none⟩ = some (.int .i64 sz) ∧ w'.cell? ⟨wr.heap.size, 3, none⟩ = some (.slice ob xs.length oc))
          (first | assumption | exact ⟨d1, d3, d4⟩ | (refine ⟨?_, ?_, ?_⟩ <;> assumption) | (go_split_ands; refine ⟨?_, ?_, ?_⟩ <;> first | exact cell_call hb1 (by assumption) | exact cell_chg hc' Hne.out (by assumption) | exact cell_alloc _ (by assumption)))
          (first
            | (go_at_call 46
               refine (HT.out _ _ (by first | exact (row1i _ _ (by simp) _ _).below (below_drew _) | exact row1i _ _ (by simp) _ _ | exact ((row1i _ _ (by simp) _ _).below ((Below.refl _ _).alloc (Nat.le_refl _) _)).below (below_drew _))).mono ?_
               rintro e w5 ⟨rfl, hb1⟩
               have HB1 : Hid (One w w5 w.heap.size o S) := Lib.hid (by first | exact ((HOf.out.alloc _).call (below_drew _)).call hb1 | exact (((HOf.out.alloc _).alloc _).call (below_drew _)).call hb1))
            | (go_at_call 45; with_reducible refine (HN2.out _).mono ?_; rintro e w5 ⟨rfl, hb1⟩; have HB2 := Lib.hid (HB1.out.call hb1))
            | (go_at_call 45; with_reducible refine (HN3.out _).mono ?_; rintro e w5 ⟨rfl, hb1⟩; have HB3 := Lib.hid (HB2.out.call hb1))
            | (go_at_call 45; with_reducible refine (HN4.out _).mono ?_; rintro e w5 ⟨rfl, hb1⟩; have HB4 := Lib.hid (HB3.out.call hb1))
            | (go_at_call 44
               refine (bld_write _ _ _ _ _ HB4.out.bld (by simp only [ByteArray.size_append']; exact R5.out)).mono ?_
               rintro e w6 ⟨rfl, o', hB', ho', hc'⟩
               have HB5 := Lib.hid (HB4.out.write hB' ho' hc'))
            | fail)
        all_goals
          have HB6 : Hid (One w w6 w.heap.size o' (S ++ headF ⟨nm, true, sz, xs⟩)) := Lib.hid (by rw [← HE.out]; exact HB5.out)
          clear r2 r3 r4 d1 d3 d4
          go_wp2
          go_loopw [42] (fun i wr => ∃ (j : Nat) (o : Option Nat), j ≤ xs.length ∧ i = .int .i64 j ∧ One w wr w.heap.size o (S ++ headF ⟨nm, true, sz, xs⟩ ++ (xs.take j).flatMap extL)) (fun i _ => xs.length - (intOf i).toNat)
          case atStart => exact ⟨0, o', by omega, rfl, by simpa using HB6.out⟩
          case round =>
            obtain ⟨j, oj, hj, rfl, hOj⟩ := hrel
            have HOj := Lib.hid hOj
            by_cases hjl : j < xs.length
            · obtain ⟨eb, eo, rfl, heb, x1c, x2c⟩ := Hex.out j hjl
              have x1c := cell_below hOj.bel heb x1c
              have x2c := cell_below hOj.bel heb x2c
              have hx := F5.out xs[j] (List.getElem_mem hjl)
              have HL : Hid ((S ++ headF ⟨nm, true, sz, xs⟩ ++ (xs.take j).flatMap extL).length ≤ 26100) := Lib.hid (by
                have h1 := headF_len (f := ⟨nm, true, sz, xs⟩) f1
                have h2 := upE_len xs j f4
                have h3 := HS.out
                rw [List.length_append, List.length_append]; omega)
              have Hnx := Lib.hid (upE_next hjl)
              have hjn : (j : Int) < (xs.length : Int) := by omega
              clear hOj
              generalize xs[j] = x at *
              obtain ⟨y1, y2⟩ := x
              unfold smallE at hx
              simp only at hx x1c x2c Hnx
              obtain ⟨U1, hu1, hE1, HU1⟩ := ino_numT y1 (by omega) (by omega)
              obtain ⟨U2, hu2, hE2, HU2⟩ := ino_numT y2 (by omega) (by omega)
              have HE2 := Lib.hid (show S ++ headF ⟨nm, true, sz, xs⟩ ++ (xs.take j).flatMap extL ++ L (U1 ++ U2) = S ++ headF ⟨nm, true, sz, xs⟩ ++ (xs.take (j + 1)).flatMap extL by
                rw [hE1, hE2, Hnx.out]; simp only [B_append, L_B, List.append_assoc])
              have r1 : ¬ 9223372036854775807 < U1.size + U2.size := by omega
              have hZ := HL.out
              generalize hZ0 : S ++ headF ⟨nm, true, sz, xs⟩ ++ (xs.take j).flatMap extL = Z at *
              have R5 : Hid (Z.length + (U1.size + U2.size) ≤ 140737488355328) := Lib.hid (by omega)
              clear hE1 hE2 hZ hZ0
              have HF2 := Lib.hid (heap_alloc_new wr (.cells #[.int .i64 y1, .int .i64 y2] 46))
              have d1 : (wr.alloc (.cells #[.int .i64 y1, .int .i64 y2] 46)).cell? ⟨wr.heap.size, 0, none⟩ = some (.int .i64 y1) := by rw [Lib.cell_of_heap HF2.out]; rfl
              have d2 : (wr.alloc (.cells #[.int .i64 y1, .int .i64 y2] 46)).cell? ⟨wr.heap.size, 1, none⟩ = some (.int .i64 y2) := by rw [Lib.cell_of_heap HF2.out]; rfl
              have HOx := Lib.hid (HOj.out.alloc (.cells #[.int .i64 y1, .int .i64 y2] 46))
              have Hne2 : Hid (¬ (wr.heap.size = w.heap.size ∨ oj = some wr.heap.size)) := Lib.hid (fun h => Nat.lt_irrefl _ (own_lt HOj.out.bld _ h))
              go_wp2
              go_region_held3 (fun w' => w'.cell? ⟨wr.heap.size, 0, none⟩ = some (.int .i64 y1) ∧ w'.cell? ⟨wr.heap.size, 1, none⟩ = some (.int .i64 y2))
                (first | assumption | exact ⟨d1, d2⟩ | (refine ⟨?_, ?_⟩ <;> assumption) | (go_split_ands; refine ⟨?_, ?_⟩ <;> first | exact cell_call hb2 (by assumption) | exact cell_chg hc2 Hne2.out (by assumption) | exact cell_alloc _ (by assumption)))
                (first
                  | (go_at_call 45; with_reducible refine (HU1.out _).mono ?_; rintro e w7 ⟨rfl, hb2⟩; have HC1 := Lib.hid ((HOx.out.call (below_drew _)).call hb2))
                  | (go_at_call 45; with_reducible refine (HU2.out _).mono ?_; rintro e w7 ⟨rfl, hb2⟩; have HC2 := Lib.hid (HC1.out.call hb2))
                  | (go_at_call 44; refine (bld_write _ _ _ _ _ HC2.out.bld (by simp only [ByteArray.size_append']; exact R5.out)).mono ?_; rintro e w8 ⟨rfl, o2', hB2, ho2, hc2⟩; have HC3 := Lib.hid (HC2.out.write hB2 ho2 hc2))
                  | fail)
              all_goals
                clear r1 d1 d2
                go_wp2
                go_roundw
                case rel => exact ⟨j + 1, o2', by omega, by go_num, by rw [← HE2.out]; exact HC3.out⟩
                case measure => simp [intOf]; omega
            · obtain rfl : j = xs.length := by omega
              have HEN : Hid (S ++ headF ⟨nm, true, sz, xs⟩ ++ (xs.take xs.length).flatMap extL = upL l (k + 1)) := Lib.hid (by rw [Hnext.out, List.take_length])
              rw [HEN.out] at HOj
              clear hOj
              go_wp2
              go_roundw
              case rel => exact ⟨k + 1, oj, by omega, by go_num, HOj.out⟩
              case measure => simp [intOf]; omega
    · obtain rfl : k = l.length := by omega
      rw [upL_end] at HO
      clear hO hbel
      go_wp2_with (go_at_call 47; refine (bld_string _ _ _ _ HO.out.bld).mono ?_; rintro e w5 ⟨rfl, hc⟩)
      go_ret
      exact ⟨rfl, bld_string_below HO.out.low HO.out.bel hc⟩
end Go.Proofs.YteemloillnfaeaaDoor
