/- The law's own helpers of chapter 1: small, sameTexts, made. Conditions: as the acts'. -/
import Derived.Test.YtbcagddgchpheaaBlkI
namespace Go.Proofs.Ytbcagddgchpheaa
open Go.RowKit Go.Blk

/-- An act in memory, at cell o of block b. -/
def ActAt (w : World) (b o : Nat) (a : Act) : Prop := ∃ vk, w.cell? ⟨b, o, none⟩ = some (.int .i64 a.op) ∧ w.cell? ⟨b, o + 1, none⟩ = some (.int .i64 a.pos) ∧ w.cell? ⟨b, o + 2, none⟩ = some (.int .i64 a.n) ∧ w.cell? ⟨b, o + 3, none⟩ = some vk ∧ w.cell? ⟨b, o + 4, none⟩ = some (.string (B a.data)) ∧ Row w vk (a.keep.map Value.bool)
/-- A slice of acts. -/
def Acts (w : World) (v : Value) (acs : List Act) : Prop := (∃ a cap, v = .slice a 0 cap ∧ acs = []) ∨ ∃ b off cap, v = .slice (some ⟨b, off, none⟩) acs.length cap ∧ b < w.heap.size ∧ ∀ i (h : i < acs.length), ActAt w b (off + i * 5) acs[i]
theorem Acts.row {w : World} {v : Value} {acs : List Act} (h : Acts w v acs) (h0 : 0 < acs.length) : ∃ b off cap, v = .slice (some ⟨b, off, none⟩) acs.length cap ∧ b < w.heap.size ∧ ∀ i (h : i < acs.length), ActAt w b (off + i * 5) acs[i] := by
  rcases h with ⟨a, cap, rfl, h⟩ | h
  · subst h; simp at h0
  · exact h
theorem Acts.form {w : World} {v : Value} {acs : List Act} (h : Acts w v acs) : ∃ oa c, v = .slice oa acs.length c := by
  rcases h with ⟨a, cap, rfl, h⟩ | ⟨b, off, cap, rfl, _⟩
  · exact ⟨a, cap, by rw [h]; rfl⟩
  · exact ⟨_, _, rfl⟩
def actS (a : Act) : Bool := decide (a.data.length ≤ 600) && decide (a.keep.length ≤ 200)
def smallB (l : List Act) : Bool := decide (l.length ≤ 60) && l.all actS
theorem row_len {w : World} {v : Value} {vs : List Value} (h : Row w v vs) : ∃ oa c, v = .slice oa vs.length c := by
  rcases h with ⟨a, cap, rfl, h⟩ | ⟨b, off, cap, rfl, _⟩
  · exact ⟨a, cap, by rw [h]; rfl⟩
  · exact ⟨_, _, rfl⟩
/-- Acts whose numbers fit and whose texts and flags have a length. -/
def Fit (a : Act) : Prop := -9223372036854775808 ≤ a.op ∧ a.op ≤ 9223372036854775807 ∧ -9223372036854775808 ≤ a.pos ∧ a.pos ≤ 9223372036854775807 ∧ -9223372036854775808 ≤ a.n ∧ a.n ≤ 9223372036854775807 ∧ a.keep.length ≤ 9223372036854775807 ∧ a.data.length ≤ 9223372036854775807
theorem small_ok {l : List Act} (h : smallB l = true) (hf : ∀ a ∈ l, Fit a) : l.length ≤ 60 ∧ ∀ a ∈ l, a.Ok := by
  unfold smallB at h
  rw [Bool.and_eq_true, decide_eq_true_eq, List.all_eq_true] at h
  refine ⟨h.1, fun a ha => ?_⟩
  have h1 := h.2 a ha
  unfold actS at h1
  rw [Bool.and_eq_true, decide_eq_true_eq, decide_eq_true_eq] at h1
  obtain ⟨f1, f2, f3, f4, f5, f6, _⟩ := hf a ha
  exact ⟨f1, f2, f3, f4, f5, f6, by omega, by omega⟩
set_option maxRecDepth 100000 in
set_option maxHeartbeats 800000 in
theorem law_small (v : Value) (l : List Act) (w : World) (h : Acts w v l) (hn : l.length ≤ 9223372036854775807) (hf : ∀ a ∈ l, Fit a) :
    Calls Try.prog 10 #[v] w fun e w' => e = .returned (.bool (smallB l)) ∧ w = w' := by
  have H := Lib.hid h
  have Hf := Lib.hid hf
  obtain ⟨oa, c, rfl⟩ := h.form
  clear h hf
  by_cases h60 : 60 < l.length
  · have hR : Hid (smallB l = false) := Lib.hid (by unfold smallB; rw [decide_eq_false (by omega)]; rfl)
    go_enter Try.func10, Try.ntmps10
    go_wp2
    go_ret
    exact ⟨by rw [hR.out]; rfl, rfl⟩
  · have HR : Hid (smallB l = l.all actS) := Lib.hid (by unfold smallB; rw [decide_eq_true (by omega)]; rfl)
    generalize smallB l = R at *
    go_enter Try.func10, Try.ntmps10
    go_wp2
    go_loop [3] (fun i => ∃ k : Nat, k ≤ l.length ∧ i = .int .i64 k ∧ l.all actS = (l.drop k).all actS) (fun i => l.length - (intOf i).toNat)
    case atStart => exact ⟨0, by omega, rfl, by rw [List.drop_zero]⟩
    case round =>
      obtain ⟨k, hk, rfl, hl⟩ := hrel
      have Hl := Lib.hid hl
      clear hl
      by_cases hlt : k < l.length
      · obtain ⟨b, off, cap, hv, hb, hcell⟩ := H.out.row (by omega)
        simp only [Value.slice.injEq] at hv
        obtain ⟨rfl, _, rfl⟩ := hv
        obtain ⟨vk, c0, c1, c2, c3, c4, hr⟩ := hcell k hlt
        obtain ⟨ok, ck, rfl⟩ := row_len hr
        rw [List.length_map] at c3
        have hff := Hf.out l[k] (List.getElem_mem hlt)
        have hd := List.drop_eq_getElem_cons hlt
        have hl2 := Hl.out
        rw [hd, List.all_cons] at hl2
        have Hl2 := Lib.hid hl2
        have hfd : l[k].data.length ≤ 9223372036854775807 := hff.2.2.2.2.2.2.2
        have hfk : l[k].keep.length ≤ 9223372036854775807 := hff.2.2.2.2.2.2.1
        have hact : actS l[k] = (decide (l[k].data.length ≤ 600) && decide (l[k].keep.length ≤ 200)) := rfl
        have Hact := Lib.hid hact
        clear hcell hr hd hl2 hff hact c0 c1 c2
        generalize l[k] = a at *
        have hsz := size_B a.data
        have hk1 : (k : Int) < (l.length : Int) := by omega
        by_cases h6 : 600 < a.data.length
        · have hR : Hid (R = false) := Lib.hid (by rw [HR.out, Hl2.out, Hact.out, decide_eq_false (p := a.data.length ≤ 600) (by omega)]; rfl)
          go_wp2
          go_ret
          exact ⟨by rw [hR.out]; rfl, rfl⟩
        · by_cases h2 : 200 < a.keep.length
          · have hR : Hid (R = false) := Lib.hid (by rw [HR.out, Hl2.out, Hact.out, decide_eq_false (p := a.keep.length ≤ 200) (by omega), Bool.and_false]; rfl)
            go_wp2
            go_ret
            exact ⟨by rw [hR.out]; rfl, rfl⟩
          · have hR : Hid (l.all actS = (l.drop (k + 1)).all actS) := Lib.hid (by rw [Hl2.out, Hact.out, decide_eq_true (p := a.data.length ≤ 600) (by omega), decide_eq_true (p := a.keep.length ≤ 200) (by omega)]; rfl)
            go_wp2
            go_round
            case rel => exact ⟨k + 1, by omega, by go_num, hR.out⟩
            case measure => simp [intOf]; omega
      · obtain rfl : k = l.length := by omega
        have hR : Hid (R = true) := Lib.hid (by rw [HR.out, Hl.out, List.drop_length]; rfl)
        go_wp2
        go_ret
        exact ⟨by rw [hR.out]; rfl, rfl⟩
def txtV (l : List Txt) : List Value := l.map fun s => Value.string (B s)
theorem own_row {w : World} {base : Nat} {v : Value} {l : List Txt} (h : w.ownsRow base 9 1 v l.length (txtCells l)) : Row w v (txtV l) := by
  rcases h.2 with ⟨rfl, h0⟩ | ⟨g, cap, cur, rfl, hg, hh, h1, h2, h3, h4⟩
  · exact .inl ⟨none, 0, rfl, by simp [txtV, List.eq_nil_of_length_eq_zero h0]⟩
  · refine .inr ⟨g, 0, cap, by simp [txtV], by simpa [txtV] using h1, (h.lt g rfl).2, fun i hi => ?_⟩
    have hi' : i < l.length := by simpa [txtV] using hi
    rw [Lib.cell_of_heap hh, Nat.zero_add]
    have : cur.toList[i]? = (txtCells l)[i]? := by rw [← h4, List.getElem?_take, Nat.mul_one, if_pos hi']
    rw [← Array.getElem?_toList, this]
    simp [txtCells, txtV, hi']
set_option maxRecDepth 100000 in
set_option maxHeartbeats 800000 in
theorem law_sameTexts (va vb : Value) (l : List Txt) (hn : l.length ≤ 9223372036854775807) (w : World) (ha : Row w va (txtV l)) (hb : Row w vb (txtV l)) :
    Calls Try.prog 17 #[va, vb] w fun e w' => e = .returned (.bool true) ∧ Below w.heap.size w w' := by
  have hl : (txtV l).length = l.length := by simp [txtV]
  obtain ⟨o1, k1, rfl⟩ := row_len ha
  obtain ⟨o2, k2, rfl⟩ := row_len hb
  rw [hl] at ha hb ⊢
  have Ha : Hid (∀ i (hi : i < l.length), ∃ b off, o1 = some ⟨b, off, none⟩ ∧ b < w.heap.size ∧ w.cell? ⟨b, off + i, none⟩ = some (.string (B l[i]))) := Lib.hid (fun i hi => by
    rcases ha with ⟨a, cap, h, h0⟩ | ⟨b, off, cap, h, _, hbl, hc⟩
    · have := congrArg List.length h0; rw [hl, List.length_nil] at this; omega
    · simp only [Value.slice.injEq] at h
      have := hc i (by rw [hl]; exact hi)
      exact ⟨b, off, h.1, hbl, by rw [this]; simp [txtV]⟩)
  have Hb : Hid (∀ i (hi : i < l.length), ∃ b off, o2 = some ⟨b, off, none⟩ ∧ b < w.heap.size ∧ w.cell? ⟨b, off + i, none⟩ = some (.string (B l[i]))) := Lib.hid (fun i hi => by
    rcases hb with ⟨a, cap, h, h0⟩ | ⟨b, off, cap, h, _, hbl, hc⟩
    · have := congrArg List.length h0; rw [hl, List.length_nil] at this; omega
    · simp only [Value.slice.injEq] at h
      have := hc i (by rw [hl]; exact hi)
      exact ⟨b, off, h.1, hbl, by rw [this]; simp [txtV]⟩)
  have hne : ((l.length : Int) != (l.length : Int)) = false := by simp
  clear ha hb hl
  go_enter Try.func17, Try.ntmps17
  go_wp2
  clear hne
  go_loopw [5] (fun i wr => ∃ k : Nat, k ≤ l.length ∧ i = .int .i64 k ∧ Below w.heap.size w wr) (fun i _ => l.length - (intOf i).toNat)
  case atStart => exact ⟨0, by omega, rfl, Below.refl _ _⟩
  case round =>
    obtain ⟨k, hk, rfl, hbel⟩ := hrel
    by_cases hlt : k < l.length
    · obtain ⟨b1, f1, rfl, hb1, d1⟩ := Ha.out k hlt
      obtain ⟨b2, f2, rfl, hb2, d2⟩ := Hb.out k hlt
      have d1 := cell_below hbel hb1 d1
      have d2 := cell_below hbel hb2 d2
      have Hbel := Lib.hid hbel
      clear hbel
      generalize l[k] = x at *
      have e1 : ((B x).toList != (B x).toList) = false := by simp
      have hk1 : (k : Int) < (l.length : Int) := by omega
      go_wp2
      go_quiet (fail)
      go_wp2
      go_roundw
      case rel => exact ⟨k + 1, by omega, by go_num, below_drewN Hbel.out _⟩
      case measure => simp [intOf]; omega
    · obtain rfl : k = l.length := by omega
      go_wp2
      go_ret
      exact ⟨rfl, hbel⟩
def doesAll (d : Dv) (l : List Act) : Dv := l.foldl doesD d
theorem doesAll_step (d : Dv) (l : List Act) (k : Nat) (h : k < l.length) : doesAll d (l.take (k + 1)) = doesD (doesAll d (l.take k)) l[k] := by
  unfold doesAll
  rw [List.take_succ_eq_append_getElem h, List.foldl_append]
  rfl
theorem doesAll_ok {d : Dv} (h : d.Ok) (l : List Act) (hl : ∀ a ∈ l, a.Ok) : (doesAll d l).Ok := by
  induction l generalizing d with
  | nil => exact h
  | cons a l ih => exact ih (doesD_ok h a (hl a (by simp)).n1) (fun x hx => hl x (by simp [hx]))
theorem doesAll_pend (d : Dv) (l : List Act) : (doesAll d l).pend.length ≤ d.pend.length + l.length := by
  induction l generalizing d with
  | nil => simp [doesAll]
  | cons a l ih =>
    have h1 := ih (doesD d a)
    have h2 := does_pend d a
    show (doesAll (doesD d a) l).pend.length ≤ _
    rw [List.length_cons]; omega
end Go.Proofs.Ytbcagddgchpheaa
