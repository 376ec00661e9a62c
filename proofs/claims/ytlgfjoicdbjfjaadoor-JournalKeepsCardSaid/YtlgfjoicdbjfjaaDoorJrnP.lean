/- Chapter 4's law: the writes of an act. Conditions: numbers and lengths fit. -/
import Derived.Test.YtlgfjoicdbjfjaaDoorJrnM
import Derived.Laws.BytesArg
import Derived.Deep.AppendLies
namespace Go.Proofs.YtlgfjoicdbjfjaaDoor
open Go.RowKit Go.Wir Go.Blk Go.Frm Go.Jrn

/-- Rows of writes at any numbers. -/
def wrI (l : List Wr) : List Value := l.flatMap fun p => [.int .i64 p.1, .string (B p.2)]
theorem wrI_append (a b : List Wr) : wrI (a ++ b) = wrI a ++ wrI b := by simp [wrI]
theorem wrI_get (es : List Wr) (i : Nat) (h : i < es.length) : (wrI es)[i * 2]? = some (.int .i64 es[i].1) ∧ (wrI es)[i * 2 + 1]? = some (.string (B es[i].2)) := by
  unfold wrI
  induction es generalizing i with
  | nil => simp at h
  | cons e es ih =>
    cases i with
    | zero => simp
    | succ i =>
      have := ih i (by simpa using h)
      simp only [List.flatMap_cons, List.getElem_cons_succ]
      rw [show (i + 1) * 2 = i * 2 + 2 by omega]
      simpa using this
theorem own_wrI {w : World} {base : Nat} {v : Value} {l : List Wr} (h : w.ownsRow base 47 2 v l.length (wrI l)) : Wrs w v l := by
  rcases h.2 with ⟨rfl, h0⟩ | ⟨g, cap, cur, rfl, hg, hh, h1, h2, h3, h4⟩
  · exact .inl ⟨none, 0, rfl, List.eq_nil_of_length_eq_zero h0⟩
  · refine .inr ⟨g, 0, cap, rfl, (h.lt g rfl).2, fun i hi => ?_⟩
    obtain ⟨e1, e2⟩ := wrI_get l i hi
    have k1 : cur[i * 2]? = (wrI l)[i * 2]? := by rw [← h4, List.getElem?_take, if_pos (by omega), Array.getElem?_toList]
    have k2 : cur[i * 2 + 1]? = (wrI l)[i * 2 + 1]? := by rw [← h4, List.getElem?_take, if_pos (by omega), Array.getElem?_toList]
    rw [Nat.zero_add]
    exact ⟨by rw [Lib.cell_of_heap hh, k1, e1], by rw [Lib.cell_of_heap hh, k2, e2]⟩
theorem conv1 (w : World) (a : Int) :
    (convert 49 9 (.slice (some ⟨w.heap.size, 0, none⟩) 1 1)).run Tryd.prog (w.alloc (.cells #[.int .u8 a] 5)) = .ok (.string (strOfNums [a])) (w.alloc (.cells #[.int .u8 a] 5)) := by
  refine run_convert_bytes_arg (P := Tryd.prog) _ 49 5 Tryd.underlying49 Tryd.underlying5 w.heap.size 0 1 1 [a] rfl (fun i hi => ?_) 9 Tryd.underlying9
  have hb : (w.alloc (.cells #[.int .u8 a] 5)).heap[w.heap.size]? = some (.cells #[.int .u8 a] 5 (0, 0)) := heap_alloc_new w _
  simp only [World.cell?, hb, Nat.zero_add]
  have : i = 0 := by omega
  subst this; rfl
theorem one_str (k : Nat) : strOfNums [(k : Int)] = B [UInt8.ofNat k] := by
  unfold strOfNums B
  simp
theorem cut_str (k : Nat) (t : Txt) : (B [UInt8.ofNat k] ++ B t).extract 0 (min (256 : Int) (((B [UInt8.ofNat k]).size : Int) + ((B t).size : Int))).toNat = B ((UInt8.ofNat k :: t).take 256) := by
  rw [B_append, extract_take, L_B, size_B, size_B]
  congr 1
  show (UInt8.ofNat k :: t).take _ = _
  by_cases h : 1 + t.length ≤ 256
  · rw [List.take_of_length_le (by simp; omega), List.take_of_length_le (by simp; omega)]
  · congr 1
    simp only [List.length_cons, List.length_nil]; omega
theorem tmod_zero (b : Int) (n : Int) : (b.tmod n = 0) ↔ b % n = 0 := ⟨fun h => Int.emod_eq_zero_of_dvd (Int.dvd_of_tmod_eq_zero h), fun h => Int.tmod_eq_zero_of_dvd (Int.dvd_of_emod_eq_zero h)⟩
theorem pick_eq (c : Int) (n : Nat) : pickJ c n = pickN c n := rfl
/-- The act in memory. -/
def actV (a : Act4) (vk vb : Value) : Value := .agg #[.int .i64 a.op, .int .i64 a.n, .int .i64 a.pos, vk, vb, .string (B a.data)]
structure AOk (a : Act4) : Prop where
  op : -9223372036854775808 ≤ a.op ∧ a.op ≤ 9223372036854775807
  n : -9223372036854775808 ≤ a.n ∧ a.n ≤ 9223372036854775807
  pos : -9223372036854775808 ≤ a.pos ∧ a.pos ≤ 9223372036854775807
  blocks : ∀ b ∈ a.blocks, -9223372036854775808 ≤ b ∧ b ≤ 9223372036854775807
  keep : a.keep.length ≤ 100000
  blk : a.blocks.length ≤ 100000
  data : a.data.length ≤ 100000
theorem writesJ_fit {a : Act4} (h : AOk a) : ∀ p ∈ writesJ a, -9223372036854775808 ≤ p.1 ∧ p.1 ≤ 9223372036854775807 ∧ p.2.length ≤ 9223372036854775807 := fun p hp => by
  have := wrsF_fit a.data (a.blocks.take 52) 0 (fun b hb => h.blocks b (List.mem_of_mem_take hb)) p hp
  exact ⟨this.1, this.2.1, by omega⟩
set_option maxRecDepth 100000 in
set_option maxHeartbeats 3200000 in
theorem law_writes (a : Act4) (ha : AOk a) (vk vb : Value) (w : World) (hb : Row w vb (a.blocks.map (Value.int .i64))) :
    Calls Tryd.prog 13 #[actV a vk vb] w fun e w' => ∃ v, e = .returned v ∧ Below w.heap.size w w' ∧ w'.ownsRow w.heap.size 47 2 v (writesJ a).length (wrI (writesJ a)) := by
  obtain ⟨iw, hwi, hwz0, hwz1, hwz2⟩ := info_parts Tryd.info_wr
  have Ha := Lib.hid ha
  have HD := Lib.hid (fun w => law_data4 a.data (by have := ha.data; omega) w)
  have hW : Hid (writesJ a = wrsF a.data 0 (a.blocks.take 52)) := Lib.hid rfl
  obtain ⟨ob, cb, hvb⟩ : ∃ ob cb, vb = .slice ob a.blocks.length cb := by
    rcases hb with ⟨o, c, rfl, h0⟩ | ⟨b, off, c, rfl, _⟩
    · have : a.blocks.length = 0 := by have := congrArg List.length h0; simpa using this
      exact ⟨o, c, by rw [this]⟩
    · exact ⟨_, _, by rw [List.length_map]⟩
  subst hvb
  have Hcell : Hid (∀ i (hi : i < a.blocks.length), ∃ b off, ob = some ⟨b, off, none⟩ ∧ b < w.heap.size ∧ a.blocks.length ≤ cb ∧ w.cell? ⟨b, off + i, none⟩ = some (.int .i64 a.blocks[i])) := Lib.hid (fun i hi => by
    rcases hb with ⟨o, c, h, h0⟩ | ⟨b, off, c, h, hc, hlt, hcell⟩
    · have := congrArg List.length h0; simp at this; rw [this] at hi; simp at hi
    · simp only [Value.slice.injEq] at h
      obtain ⟨rfl, _, rfl⟩ := h
      rw [List.length_map] at hc
      exact ⟨b, off, rfl, hlt, hc, by rw [hcell i (by rw [List.length_map]; exact hi)]; simp⟩)
  have hbl := ha.blk
  have hdl := ha.data
  clear hb ha
  unfold actV
  go_enter Tryd.func13, Tryd.ntmps13
  go_wp2
  have b0 := step_new (Below.refl w.heap.size w) (.cells #[.int .i64 a.op, .int .i64 a.n, .int .i64 a.pos, vk, .slice ob a.blocks.length cb, .string (B a.data)] 40)
  have g0 := heap_alloc_new w (.cells #[.int .i64 a.op, .int .i64 a.n, .int .i64 a.pos, vk, .slice ob a.blocks.length cb, .string (B a.data)] 40)
  generalize w.alloc (.cells #[.int .i64 a.op, .int .i64 a.n, .int .i64 a.pos, vk, .slice ob a.blocks.length cb, .string (B a.data)] 40) = W at *
  have p4 : W.cell? ⟨w.heap.size, 4, none⟩ = some (.slice ob a.blocks.length cb) := by rw [Lib.cell_of_heap g0]; rfl
  have p5 : W.cell? ⟨w.heap.size, 5, none⟩ = some (.string (B a.data)) := by rw [Lib.cell_of_heap g0]; rfl
  have P4 := Lib.hid p4
  have P5 := Lib.hid p5
  have B0 := Lib.hid b0
  clear p4 p5 b0 g0
  go_loopw [4, 3] (fun x4 x3 wr => ∃ k : Nat, k ≤ a.blocks.length ∧ k ≤ 52 ∧ x4 = .int .i64 k ∧ wr.ownsRow W.heap.size 47 2 x3 k (wrI (wrsF a.data 0 (a.blocks.take k))) ∧ Below W.heap.size W wr) (fun x4 _ _ => 52 - (intOf x4).toNat)
  case atStart => exact ⟨0, by omega, by omega, rfl, World.ownsRow_nil _ _ _ _, Below.refl _ _⟩
  case round =>
    obtain ⟨k, hk, hk52, rfl, hown, hbel⟩ := hrel
    obtain ⟨ax, cx, rfl⟩ := own_form hown
    have p4 := cell_call hbel P4.out
    have p5 := cell_call hbel P5.out
    by_cases hlt : k < a.blocks.length ∧ k < 52
    · obtain ⟨hlt1, hlt2⟩ := hlt
      obtain ⟨b, off, rfl, hbw, hbc, e1⟩ := Hcell.out k hlt1
      have e1 := cell_below hbel (Nat.lt_of_lt_of_le hbw B0.out.size) (cell_below B0.out hbw e1)
      have hbk := Ha.out.blocks a.blocks[k] (List.getElem_mem hlt1)
      have Hsn := Lib.hid (show wrI (wrsF a.data 0 (a.blocks.take (k + 1))) = wrI (wrsF a.data 0 (a.blocks.take k)) ++ [.int .i64 (wrJ a.data k a.blocks[k]).1, .string (B (wrJ a.data k a.blocks[k]).2)] by
        rw [wrsF_snoc a.data a.blocks 0 k hlt1, wrI_append, Nat.zero_add]; rfl)
      have Hown := Lib.hid hown
      have Hbel := Lib.hid hbel
      have hki : (k : Int) < (a.blocks.length : Int) := by omega
      have hki2 : (k : Int) < 52 := by omega
      clear hown hbel
      generalize a.blocks[k] = bk at *
      have hpk := pickN_lt bk 18 (by omega)
      have HPk := Lib.hid (fun w => law_pick bk 18 hbk.1 hbk.2 (by omega) (by omega) w)
      have HN : Hid ((wrJ a.data k bk).1 = if bk % 41 = 0 ∧ bk ≠ 0 then bk else ((52 + pickN bk 18 : Nat) : Int)) := Lib.hid rfl
      have HT : Hid ((wrJ a.data k bk).2 = (UInt8.ofNat k :: (if bk % 43 = 0 ∧ bk ≠ 0 then a.data else dataJ a.data)).take 256) := Lib.hid rfl
      have H41 := Lib.hid (tmod_zero bk 41)
      have H43 := Lib.hid (tmod_zero bk 43)
      generalize (wrJ a.data k bk).1 = N at *
      generalize (wrJ a.data k bk).2 = T at *
      generalize pickN bk 18 = pk at *
      obtain ⟨hbk1, hbk2⟩ := hbk
      by_cases hz : bk = 0
      · subst hz
        have hN : Hid (N = ((52 + pk : Nat) : Int)) := Lib.hid (by rw [HN.out, if_neg (fun h => h.2 rfl)])
        have hT : Hid (T = (UInt8.ofNat k :: dataJ a.data).take 256) := Lib.hid (by rw [HT.out, if_neg (fun h => h.2 rfl)])
        clear HN HT
        have hcs : ¬ 9223372036854775807 < (B [UInt8.ofNat k]).size + (B (dataJ a.data)).size := by rw [size_B, size_B]; have := dataJ_length a.data; simp only [List.length_cons, List.length_nil]; omega
        have hx := cut_str k (dataJ a.data)
        rw [← hT.out] at hx
        go_wp2_with fail
        refine (HPk.out _).mono ?_
        rintro e w2 ⟨rfl, rfl⟩
        go_wp2_with fail
        refine (HD.out _).mono ?_
        rintro e w3 ⟨rfl, hb3⟩
        have p4 := cell_call hb3 p4
        have p5 := cell_call hb3 p5
        have e1 := cell_call hb3 e1
        have hc := conv1 w3 (k : Int)
        rw [one_str] at hc
        have Ho := Lib.hid (((own_kept Hown.out hb3).alloc (.cells #[.int .u8 (k : Int)] 5)).alloc (.cells #[.int .i64 (52 + (pk : Int)), .string (B T)] 47))
        have Hb5 := Lib.hid (step_new (step_new (step_call Hbel.out hb3) (.cells #[.int .u8 (k : Int)] 5)) (.cells #[.int .i64 (52 + (pk : Int)), .string (B T)] 47))
        clear hb3
        go_wp2_with (at_builtin; go_must (refine wpList_append_own _ rfl _ _ 35 rfl W.heap.size 47 iw (.agg #[.int .i64 0, .string ⟨#[]⟩]) 2 24 Tryd.underlying35 hwi hwz0 hwz1 hwz2 rfl (by decide) _ _ _ rfl Ho.out ⟨w3.heap.size + 1, 0, none⟩ 1 1 [.int .i64 (52 + (pk : Int)), .string (B T)] rfl rfl ?_ ?_ ?_ ?_ ?_ ?_))
        · exact World.news_of_block (cs := #[.int .i64 (52 + (pk : Int)), .string (B T)]) (t := 47) (fr := (0, 0)) (by have h := heap_alloc_new (w3.alloc (.cells #[.int .u8 (k : Int)] 5)) (.cells #[.int .i64 (52 + (pk : Int)), .string (B T)] 47); rwa [World.size_alloc] at h)
        · simp [Value.oneCell']
        · unfold maxLen; omega
        · omega
        · exact Hb5.out.size
        intro v8 w8 hown8 hgrow8 _
        have Hb8 := Lib.hid (Hb5.out.grown hgrow8 Hb5.out.size (fun q hq => (Ho.out.lt q hq).1))
        have Hown8 : Hid (w8.ownsRow W.heap.size 47 2 v8 (k + 1) (wrI (wrsF a.data 0 (a.blocks.take (k + 1))))) := Lib.hid (by rw [Hsn.out, hN.out]; first | exact hown8 | (push_cast; exact hown8))
        clear hown8 hgrow8
        go_wp2
        go_roundw
        case rel => exact ⟨k + 1, by omega, by omega, by go_num, Hown8.out, Hb8.out⟩
        case measure => simp [intOf]; omega
      · have q2 : (bk != 0) = true := by rw [bne_iff_ne]; exact hz
        by_cases c1 : bk % 41 = 0
        · have q1 : (bk.tmod 41 == 0) = true := by rw [beq_iff_eq]; exact H41.out.2 c1
          have hN : Hid (N = bk) := Lib.hid (by rw [HN.out, if_pos ⟨c1, hz⟩])
          clear c1 HN
          by_cases c2 : bk % 43 = 0
          · have q3 : (bk.tmod 43 == 0) = true := by rw [beq_iff_eq]; exact H43.out.2 c2
            have hT : Hid (T = (UInt8.ofNat k :: a.data).take 256) := Lib.hid (by rw [HT.out, if_pos ⟨c2, hz⟩])
            clear c2 HT hz
            have hcs : ¬ 9223372036854775807 < (B [UInt8.ofNat k]).size + (B a.data).size := by rw [size_B, size_B]; have := dataJ_length a.data; simp only [List.length_cons, List.length_nil]; omega
            have hx := cut_str k a.data
            rw [← hT.out] at hx
            go_wp2_with fail
            refine (HPk.out _).mono ?_
            rintro e w2 ⟨rfl, rfl⟩
            go_wp2_with fail
            refine (HD.out _).mono ?_
            rintro e w3 ⟨rfl, hb3⟩
            have p4 := cell_call hb3 p4
            have p5 := cell_call hb3 p5
            have e1 := cell_call hb3 e1
            have hc := conv1 w3 (k : Int)
            rw [one_str] at hc
            have Ho := Lib.hid (((own_kept Hown.out hb3).alloc (.cells #[.int .u8 (k : Int)] 5)).alloc (.cells #[.int .i64 bk, .string (B T)] 47))
            have Hb5 := Lib.hid (step_new (step_new (step_call Hbel.out hb3) (.cells #[.int .u8 (k : Int)] 5)) (.cells #[.int .i64 bk, .string (B T)] 47))
            clear hb3
            go_wp2_with (at_builtin; go_must (refine wpList_append_own _ rfl _ _ 35 rfl W.heap.size 47 iw (.agg #[.int .i64 0, .string ⟨#[]⟩]) 2 24 Tryd.underlying35 hwi hwz0 hwz1 hwz2 rfl (by decide) _ _ _ rfl Ho.out ⟨w3.heap.size + 1, 0, none⟩ 1 1 [.int .i64 bk, .string (B T)] rfl rfl ?_ ?_ ?_ ?_ ?_ ?_))
            · exact World.news_of_block (cs := #[.int .i64 bk, .string (B T)]) (t := 47) (fr := (0, 0)) (by have h := heap_alloc_new (w3.alloc (.cells #[.int .u8 (k : Int)] 5)) (.cells #[.int .i64 bk, .string (B T)] 47); rwa [World.size_alloc] at h)
            · simp [Value.oneCell']
            · unfold maxLen; omega
            · omega
            · exact Hb5.out.size
            intro v8 w8 hown8 hgrow8 _
            have Hb8 := Lib.hid (Hb5.out.grown hgrow8 Hb5.out.size (fun q hq => (Ho.out.lt q hq).1))
            have Hown8 : Hid (w8.ownsRow W.heap.size 47 2 v8 (k + 1) (wrI (wrsF a.data 0 (a.blocks.take (k + 1))))) := Lib.hid (by rw [Hsn.out, hN.out]; first | exact hown8 | (push_cast; exact hown8))
            clear hown8 hgrow8
            go_wp2
            go_roundw
            case rel => exact ⟨k + 1, by omega, by omega, by go_num, Hown8.out, Hb8.out⟩
            case measure => simp [intOf]; omega
          · have q3 : (bk.tmod 43 == 0) = false := by rw [beq_eq_false_iff_ne]; exact fun h => c2 (H43.out.1 h)
            have hT : Hid (T = (UInt8.ofNat k :: dataJ a.data).take 256) := Lib.hid (by rw [HT.out, if_neg (fun h => c2 h.1)])
            clear c2 HT hz
            have hcs : ¬ 9223372036854775807 < (B [UInt8.ofNat k]).size + (B (dataJ a.data)).size := by rw [size_B, size_B]; have := dataJ_length a.data; simp only [List.length_cons, List.length_nil]; omega
            have hx := cut_str k (dataJ a.data)
            rw [← hT.out] at hx
            go_wp2_with fail
            refine (HPk.out _).mono ?_
            rintro e w2 ⟨rfl, rfl⟩
            go_wp2_with fail
            refine (HD.out _).mono ?_
            rintro e w3 ⟨rfl, hb3⟩
            have p4 := cell_call hb3 p4
            have p5 := cell_call hb3 p5
            have e1 := cell_call hb3 e1
            have hc := conv1 w3 (k : Int)
            rw [one_str] at hc
            have Ho := Lib.hid (((own_kept Hown.out hb3).alloc (.cells #[.int .u8 (k : Int)] 5)).alloc (.cells #[.int .i64 bk, .string (B T)] 47))
            have Hb5 := Lib.hid (step_new (step_new (step_call Hbel.out hb3) (.cells #[.int .u8 (k : Int)] 5)) (.cells #[.int .i64 bk, .string (B T)] 47))
            clear hb3
            go_wp2_with (at_builtin; go_must (refine wpList_append_own _ rfl _ _ 35 rfl W.heap.size 47 iw (.agg #[.int .i64 0, .string ⟨#[]⟩]) 2 24 Tryd.underlying35 hwi hwz0 hwz1 hwz2 rfl (by decide) _ _ _ rfl Ho.out ⟨w3.heap.size + 1, 0, none⟩ 1 1 [.int .i64 bk, .string (B T)] rfl rfl ?_ ?_ ?_ ?_ ?_ ?_))
            · exact World.news_of_block (cs := #[.int .i64 bk, .string (B T)]) (t := 47) (fr := (0, 0)) (by have h := heap_alloc_new (w3.alloc (.cells #[.int .u8 (k : Int)] 5)) (.cells #[.int .i64 bk, .string (B T)] 47); rwa [World.size_alloc] at h)
            · simp [Value.oneCell']
            · unfold maxLen; omega
            · omega
            · exact Hb5.out.size
            intro v8 w8 hown8 hgrow8 _
            have Hb8 := Lib.hid (Hb5.out.grown hgrow8 Hb5.out.size (fun q hq => (Ho.out.lt q hq).1))
            have Hown8 : Hid (w8.ownsRow W.heap.size 47 2 v8 (k + 1) (wrI (wrsF a.data 0 (a.blocks.take (k + 1))))) := Lib.hid (by rw [Hsn.out, hN.out]; first | exact hown8 | (push_cast; exact hown8))
            clear hown8 hgrow8
            go_wp2
            go_roundw
            case rel => exact ⟨k + 1, by omega, by omega, by go_num, Hown8.out, Hb8.out⟩
            case measure => simp [intOf]; omega
        · have q1 : (bk.tmod 41 == 0) = false := by rw [beq_eq_false_iff_ne]; exact fun h => c1 (H41.out.1 h)
          have hN : Hid (N = ((52 + pk : Nat) : Int)) := Lib.hid (by rw [HN.out, if_neg (fun h => c1 h.1)])
          clear c1 HN
          by_cases c2 : bk % 43 = 0
          · have q3 : (bk.tmod 43 == 0) = true := by rw [beq_iff_eq]; exact H43.out.2 c2
            have hT : Hid (T = (UInt8.ofNat k :: a.data).take 256) := Lib.hid (by rw [HT.out, if_pos ⟨c2, hz⟩])
            clear c2 HT hz
            have hcs : ¬ 9223372036854775807 < (B [UInt8.ofNat k]).size + (B a.data).size := by rw [size_B, size_B]; have := dataJ_length a.data; simp only [List.length_cons, List.length_nil]; omega
            have hx := cut_str k a.data
            rw [← hT.out] at hx
            go_wp2_with fail
            refine (HPk.out _).mono ?_
            rintro e w2 ⟨rfl, rfl⟩
            go_wp2_with fail
            refine (HD.out _).mono ?_
            rintro e w3 ⟨rfl, hb3⟩
            have p4 := cell_call hb3 p4
            have p5 := cell_call hb3 p5
            have e1 := cell_call hb3 e1
            have hc := conv1 w3 (k : Int)
            rw [one_str] at hc
            have Ho := Lib.hid (((own_kept Hown.out hb3).alloc (.cells #[.int .u8 (k : Int)] 5)).alloc (.cells #[.int .i64 (52 + (pk : Int)), .string (B T)] 47))
            have Hb5 := Lib.hid (step_new (step_new (step_call Hbel.out hb3) (.cells #[.int .u8 (k : Int)] 5)) (.cells #[.int .i64 (52 + (pk : Int)), .string (B T)] 47))
            clear hb3
            go_wp2_with (at_builtin; go_must (refine wpList_append_own _ rfl _ _ 35 rfl W.heap.size 47 iw (.agg #[.int .i64 0, .string ⟨#[]⟩]) 2 24 Tryd.underlying35 hwi hwz0 hwz1 hwz2 rfl (by decide) _ _ _ rfl Ho.out ⟨w3.heap.size + 1, 0, none⟩ 1 1 [.int .i64 (52 + (pk : Int)), .string (B T)] rfl rfl ?_ ?_ ?_ ?_ ?_ ?_))
            · exact World.news_of_block (cs := #[.int .i64 (52 + (pk : Int)), .string (B T)]) (t := 47) (fr := (0, 0)) (by have h := heap_alloc_new (w3.alloc (.cells #[.int .u8 (k : Int)] 5)) (.cells #[.int .i64 (52 + (pk : Int)), .string (B T)] 47); rwa [World.size_alloc] at h)
            · simp [Value.oneCell']
            · unfold maxLen; omega
            · omega
            · exact Hb5.out.size
            intro v8 w8 hown8 hgrow8 _
            have Hb8 := Lib.hid (Hb5.out.grown hgrow8 Hb5.out.size (fun q hq => (Ho.out.lt q hq).1))
            have Hown8 : Hid (w8.ownsRow W.heap.size 47 2 v8 (k + 1) (wrI (wrsF a.data 0 (a.blocks.take (k + 1))))) := Lib.hid (by rw [Hsn.out, hN.out]; first | exact hown8 | (push_cast; exact hown8))
            clear hown8 hgrow8
            go_wp2
            go_roundw
            case rel => exact ⟨k + 1, by omega, by omega, by go_num, Hown8.out, Hb8.out⟩
            case measure => simp [intOf]; omega
          · have q3 : (bk.tmod 43 == 0) = false := by rw [beq_eq_false_iff_ne]; exact fun h => c2 (H43.out.1 h)
            have hT : Hid (T = (UInt8.ofNat k :: dataJ a.data).take 256) := Lib.hid (by rw [HT.out, if_neg (fun h => c2 h.1)])
            clear c2 HT hz
            have hcs : ¬ 9223372036854775807 < (B [UInt8.ofNat k]).size + (B (dataJ a.data)).size := by rw [size_B, size_B]; have := dataJ_length a.data; simp only [List.length_cons, List.length_nil]; omega
            have hx := cut_str k (dataJ a.data)
            rw [← hT.out] at hx
            go_wp2_with fail
            refine (HPk.out _).mono ?_
            rintro e w2 ⟨rfl, rfl⟩
            go_wp2_with fail
            refine (HD.out _).mono ?_
            rintro e w3 ⟨rfl, hb3⟩
            have p4 := cell_call hb3 p4
            have p5 := cell_call hb3 p5
            have e1 := cell_call hb3 e1
            have hc := conv1 w3 (k : Int)
            rw [one_str] at hc
            have Ho := Lib.hid (((own_kept Hown.out hb3).alloc (.cells #[.int .u8 (k : Int)] 5)).alloc (.cells #[.int .i64 (52 + (pk : Int)), .string (B T)] 47))
            have Hb5 := Lib.hid (step_new (step_new (step_call Hbel.out hb3) (.cells #[.int .u8 (k : Int)] 5)) (.cells #[.int .i64 (52 + (pk : Int)), .string (B T)] 47))
            clear hb3
            go_wp2_with (at_builtin; go_must (refine wpList_append_own _ rfl _ _ 35 rfl W.heap.size 47 iw (.agg #[.int .i64 0, .string ⟨#[]⟩]) 2 24 Tryd.underlying35 hwi hwz0 hwz1 hwz2 rfl (by decide) _ _ _ rfl Ho.out ⟨w3.heap.size + 1, 0, none⟩ 1 1 [.int .i64 (52 + (pk : Int)), .string (B T)] rfl rfl ?_ ?_ ?_ ?_ ?_ ?_))
            · exact World.news_of_block (cs := #[.int .i64 (52 + (pk : Int)), .string (B T)]) (t := 47) (fr := (0, 0)) (by have h := heap_alloc_new (w3.alloc (.cells #[.int .u8 (k : Int)] 5)) (.cells #[.int .i64 (52 + (pk : Int)), .string (B T)] 47); rwa [World.size_alloc] at h)
            · simp [Value.oneCell']
            · unfold maxLen; omega
            · omega
            · exact Hb5.out.size
            intro v8 w8 hown8 hgrow8 _
            have Hb8 := Lib.hid (Hb5.out.grown hgrow8 Hb5.out.size (fun q hq => (Ho.out.lt q hq).1))
            have Hown8 : Hid (w8.ownsRow W.heap.size 47 2 v8 (k + 1) (wrI (wrsF a.data 0 (a.blocks.take (k + 1))))) := Lib.hid (by rw [Hsn.out, hN.out]; first | exact hown8 | (push_cast; exact hown8))
            clear hown8 hgrow8
            go_wp2
            go_roundw
            case rel => exact ⟨k + 1, by omega, by omega, by go_num, Hown8.out, Hb8.out⟩
            case measure => simp [intOf]; omega
    · have hkk : wrsF a.data 0 (a.blocks.take k) = writesJ a ∧ k = (writesJ a).length := by
        have h1 : a.blocks.take k = a.blocks.take 52 := by
          by_cases h5 : k < a.blocks.length
          · rw [show k = 52 by omega]
          · rw [List.take_of_length_le (by omega), List.take_of_length_le (by omega)]
        rw [hW.out, ← h1]
        exact ⟨rfl, by rw [wrsF_length, List.length_take]; omega⟩
      rw [hkk.1] at hown
      have hown2 : wr.ownsRow W.heap.size 47 2 (.slice ax k cx) (writesJ a).length (wrI (writesJ a)) := by rw [← hkk.2]; exact hown
      have Hown := Lib.hid (own_base hown2 B0.out.size)
      have Hbel := Lib.hid (B0.out.trans (hbel.mono B0.out.size))
      rcases (show (a.blocks.length : Int) ≤ (k : Int) ∨ ((k : Int) < (a.blocks.length : Int) ∧ (52 : Int) ≤ (k : Int)) by omega) with h1 | ⟨h1, h2⟩
      all_goals
        clear hown hown2 hbel hkk hlt
        go_wp2
        go_ret
        exact ⟨_, rfl, Hbel.out, Hown.out⟩
end Go.Proofs.YtlgfjoicdbjfjaaDoor
