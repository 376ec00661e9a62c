/- Chapter 11: token.Terms. Conditions: the tables; the text is at most 10^6 bytes. -/
import Derived.Test.YtpibflpmhhgbkaaDoorTokC
import Derived.Test.YtpibflpmhhgbkaaDoorTokSort
namespace Go.Proofs.YtpibflpmhhgbkaaDoor
open Go.RowKit Go.Utf Go.Lib Go.Shelf
attribute [local go_sem] Oper.semAt_some

def termsL (l : List UInt8) : List (List UInt8) := Lib.compact (((tokensL l).map Prod.fst).mergeSort fun x y => decide (x ≤ y))
theorem tokens_count (s : ByteArray) (hs : s.size ≤ 1000000) : (tokensL (L s)).length ≤ 1000000 := by
  have h1 := toks_length 0 (wordsL (L s))
  have h2 := words_count (L s)
  rw [length_L] at h2
  unfold tokensL; omega
theorem below_own {K base size n : Nat} {W A C : World} {e : TypeId} {v : Value} {xs : List Value} (h : Below K W A) (ho : A.ownsRow base e size v n xs) (hg : A.grownBy C v.ownBlock) (hn : K ≤ base) (hK : K ≤ A.heap.size) : Below K W C := by
  refine h.grown hg hK fun j ej => ?_
  rcases ho.2 with ⟨rfl, _⟩ | ⟨g, cap, cur, rfl, h1, _, _⟩
  · simp [Value.ownBlock] at ej
  · obtain rfl : g = j := by simpa [Value.ownBlock] using ej
    omega
theorem step_at {K : Nat} {W A : World} (h : Below K W A) (o : Obj) (hK : K ≤ A.heap.size) : Below K W (A.alloc o) := h.alloc hK o
theorem infoStr : (Tryd.prog.info? 9).map (fun i => (i.zero, i.size, i.bytes)) = some (some (.string ⟨#[]⟩), 1, 16) := by kernel_rfl
set_option maxRecDepth 100000 in
set_option maxHeartbeats 6400000 in
theorem token_Terms (s : ByteArray) (hs : s.size ≤ 1000000) (w : World) (hT : Tabs w) :
    Calls Tryd.prog 13 #[.string s] w fun e w' => ∃ v, e = .returned v ∧ Below w.heap.size w w' ∧ w'.ownsRow w.heap.size 9 1 v (termsL (L s)).length (txtCells (termsL (L s))) := by
  obtain ⟨i0, hi, hz0, hz1, hz2⟩ := info_parts infoStr
  have HT := Lib.hid (token_Tokens s hs w hT)
  have hcnt := tokens_count s hs
  have Hterm : Hid (termsL (L s) = Lib.compact (((tokensL (L s)).map Prod.fst).mergeSort fun x y => decide (x ≤ y))) := Lib.hid rfl
  clear hT
  generalize tokensL (L s) = ts at HT hcnt Hterm
  generalize termsL (L s) = tms at Hterm ⊢
  go_enter Tryd.func13, Tryd.ntmps13
  go_wp2_with fail
  refine HT.out.mono ?_
  rintro e w1 ⟨v, rfl, hb1, hown⟩
  obtain ⟨oa, oc, rfl, hcells⟩ := own_toks hown
  have Hcells := Lib.hid hcells
  have Hb1 := Lib.hid hb1
  have Hsz := Lib.hid hb1.size
  clear hcells hown hb1
  go_wp2
  go_loopw [3, 9] (fun l i wr => ∃ k : Nat, k ≤ ts.length ∧ i = .int .i64 k ∧ wr.ownsRow w1.heap.size 9 1 l k (txtCells ((ts.take k).map Prod.fst)) ∧ Below w1.heap.size w1 wr) (fun _ i _ => ts.length - (intOf i).toNat)
  case atStart => exact ⟨0, by omega, rfl, World.ownsRow_nil _ _ _ _, Below.refl _ _⟩
  case round =>
    obtain ⟨k, hk, rfl, hown, hbel⟩ := hrel
    obtain ⟨la, lc, rfl⟩ := own_form hown
    by_cases h1 : k < ts.length
    · obtain ⟨b, off, rfl, hb, k1, k2⟩ := Hcells.out k h1
      have k1 := cell_below hbel hb k1
      have k2 := cell_below hbel hb k2
      have hnext : (ts.take (k + 1)).map Prod.fst = (ts.take k).map Prod.fst ++ [ts[k].1] := by
        rw [List.take_succ_eq_append_getElem h1, List.map_append]; rfl
      have Hnext := Lib.hid hnext
      clear hnext
      generalize ts[k] = tk at k1 k2 Hnext
      obtain ⟨t, pz⟩ := tk
      simp only at k1 k2 Hnext
      have Hbel := Lib.hid hbel
      have hsz := hbel.size
      have Ho := Lib.hid ((hown.alloc (.cells #[.string (B t), .int .i64 (pz : Nat)] 32)).alloc (.cells #[.string (B t)] 9))
      have hn1 := cell_one_new (wr.alloc (.cells #[.string (B t), .int .i64 (pz : Nat)] 32)) (.string (B t)) 9
      rw [World.size_alloc] at hn1
      have Hn1 := Lib.hid hn1
      clear hbel hown hn1
      go_wp2_with (at_builtin; go_must (refine wpList_append_own _ rfl _ _ 27 rfl w1.heap.size 9 i0 (.string ⟨#[]⟩) 1 16 Tryd.underlying27 hi hz0 hz1 hz2 rfl (by decide) _ _ _ rfl Ho.out ⟨wr.heap.size + 1, 0, none⟩ 1 1 [.string (B t)] rfl rfl ?c1 ?c2 ?c3 ?c4 ?c5 ?_))
      case c1 => exact Hn1.out
      case c2 => simp [Value.oneCell']
      case c3 => unfold maxLen; omega
      case c4 => omega
      case c5 => simp; omega
      intro v' w5 hown' hgrow _
      have Hb5 := Lib.hid (below_own (step_at (step_at Hbel.out (.cells #[.string (B t), .int .i64 (pz : Nat)] 32) hsz) (.cells #[.string (B t)] 9) (by simp; omega)) Ho.out hgrow (Nat.le_refl _) (by simp; omega))
      have Ho5 := Lib.hid hown'
      clear hown' hgrow
      go_wp2
      go_roundw
      case rel =>
        refine ⟨k + 1, by omega, by go_num, ?_, Hb5.out⟩
        rw [Hnext.out]
        simpa [txtCells] using Ho5.out
      case measure => simp [intOf]; omega
    · have hk' : k = ts.length := by omega
      subst hk'
      rw [List.take_length] at hown
      have hown2 : wr.ownsRow w1.heap.size 9 1 (.slice la ts.length lc) (ts.map Prod.fst).length (txtCells (ts.map Prod.fst)) := by rw [List.length_map]; exact hown
      have HS := Lib.hid (str_sort hown2 (by rw [List.length_map]; omega) w.heap.size Hsz.out (Nat.le_trans Hsz.out hbel.size))
      have HB := Lib.hid (Hb1.out.trans (hbel.mono Hsz.out))
      clear hown hown2 hbel
      go_wp2_with fail
      refine HS.out.mono ?_
      rintro e w2 ⟨rfl, ho2, hb2⟩
      have ho3 : w2.ownsRow w1.heap.size 9 1 (.slice la ts.length lc) ((ts.map Prod.fst).mergeSort fun x y => decide (x ≤ y)).length (txtCells ((ts.map Prod.fst).mergeSort fun x y => decide (x ≤ y))) := by rw [List.length_mergeSort]; exact ho2
      have HC := Lib.hid (str_compact ho3 (by rw [List.length_mergeSort, List.length_map]; omega) w.heap.size Hsz.out)
      have HB2 := Lib.hid (HB.out.trans hb2)
      clear ho2 ho3 hb2
      go_wp2_with fail
      refine HC.out.mono ?_
      rintro e w3 ⟨v3, rfl, ho4, hb3⟩
      obtain ⟨la3, lc3, rfl⟩ := own_form ho4
      have HB3 := Lib.hid (HB2.out.trans hb3)
      have Ho4 := Lib.hid ho4
      clear ho4 hb3
      go_wp2
      go_ret
      refine ⟨_, rfl, HB3.out, ?_⟩
      rw [Hterm.out]
      exact own_base Ho4.out Hsz.out
end Go.Proofs.YtpibflpmhhgbkaaDoor
