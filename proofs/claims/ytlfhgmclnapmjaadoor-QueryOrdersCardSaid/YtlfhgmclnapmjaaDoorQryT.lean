/- Chapter 17: codexref17.Begins. Conditions: a length that fits. Chapter 17: codexref17.Count. Conditions: the places' bounds. Chapter 17: codexref17.every, Matches. Conditions: the tokens' bounds, a short query. -/
import Derived.Test.YtlfhgmclnapmjaaDoorQryO
import Derived.Deep.RegionWith
namespace Go.Proofs.YtlfhgmclnapmjaaDoor
open Go.RowKit Go.Utf Go.Qry
attribute [local go_sem] Oper.semAt_some

def numT (f : Tx × Nat → Bool) (l : Tks) : Nat := (l.filter f).length
theorem numT_snoc (f : Tx × Nat → Bool) (l : Tks) (k : Nat) (h : k < l.length) : numT f (l.take (k + 1)) = numT f (l.take k) + (if f l[k] then 1 else 0) := by
  unfold numT
  rw [List.take_add_one, List.getElem?_eq_getElem h, List.filter_append, List.length_append]
  congr 1
  simp only [Option.toList, List.filter_cons, List.filter_nil]
  split <;> rfl
theorem numT_le (f : Tx × Nat → Bool) (l : Tks) (k : Nat) : numT f (l.take k) ≤ l.length := by
  unfold numT
  have h1 := List.length_filter_le f (l.take k)
  have h2 := List.length_take_le' k l
  omega
def prefF (s : Tx) (t : Tx × Nat) : Bool := s.isPrefixOf t.1
theorem begins_num (s : Tx) (l : Tks) (h : s ≠ []) : beginsN s l = numT (prefF s) l := by
  unfold beginsN; rw [if_neg h]; rfl
theorem pref_bytes (b a : ByteArray) : ((a.extract 0 b.size).toList == b.toList) = (L b).isPrefixOf (L a) := by
  rw [extract_take, toList_B, toList_L, Bool.eq_iff_iff, List.isPrefixOf_iff_prefix, beq_iff_eq, List.prefix_iff_eq_take, length_L]
  exact eq_comm
theorem pref_short (b a : ByteArray) (h : ¬ b.size ≤ a.size) : (L b).isPrefixOf (L a) = false := by
  rw [← Bool.not_eq_true, List.isPrefixOf_iff_prefix]
  intro hp
  have := hp.length_le
  rw [length_L, length_L] at this
  exact h this
set_option maxRecDepth 100000 in
set_option maxHeartbeats 1600000 in
theorem ref17_Begins (bs : ByteArray) (v : Value) (l : Tks) (hn : l.length ≤ 1000000) (w : World) (hv : Toks w v l) :
    Calls Tryd.prog 38 #[.string bs, v] w fun e w' => e = .returned (.int .i64 (beginsN (L bs) l : Nat)) ∧ Below w.heap.size w w' := by
  obtain ⟨oa, oc, rfl, hcell⟩ := hv
  have Hcell := Lib.hid hcell
  clear hcell
  by_cases h0 : L bs = []
  · have Hf : Hid (beginsN (L bs) l = 0) := Lib.hid (by rw [h0]; rfl)
    have hne : (bs.toList != []) = false := by rw [toList_L, h0]; rfl
    have hem : bs.toList.isEmpty = true := by rw [toList_L, h0]; rfl
    clear h0
    go_enter Tryd.func38, Tryd.ntmps38
    go_wp2
    go_loopw [5, 6] (fun x5 x6 wr => x5 = .int .i64 0 ∧ x6 = .int .i64 0 ∧ Below w.heap.size w wr) (fun _ _ _ => 0)
    case atStart => exact ⟨rfl, rfl, Below.refl _ _⟩
    case round =>
      obtain ⟨rfl, rfl, hbel⟩ := hrel
      have Hbel := Lib.hid hbel
      clear hbel
      by_cases hl : 0 < l.length
      · have hli : (0 : Int) < (l.length : Int) := by omega
        go_wp2
        go_ret
        exact ⟨by rw [Hf.out]; rfl, Hbel.out⟩
      · have hli : ¬ (0 : Int) < (l.length : Int) := by omega
        go_wp2
        go_ret
        exact ⟨by rw [Hf.out]; rfl, Hbel.out⟩
  · have Hf := Lib.hid (begins_num (L bs) l h0)
    have hne : (bs.toList != []) = true := by rw [toList_L, bne_iff_ne]; exact h0
    have hem : bs.toList.isEmpty = false := by rw [toList_L]; cases he : L bs with | nil => exact absurd he h0 | cons => rfl
    have Hsl := Lib.hid (numT_le (prefF (L bs)) l)
    clear h0
    go_enter Tryd.func38, Tryd.ntmps38
    go_wp2
    go_loopw [5, 6] (fun x5 x6 wr => ∃ k : Nat, k ≤ l.length ∧ x6 = .int .i64 k ∧ x5 = .int .i64 (numT (prefF (L bs)) (l.take k) : Nat) ∧ Below w.heap.size w wr) (fun _ x6 _ => l.length - (intOf x6).toNat)
    case atStart => exact ⟨0, by omega, rfl, rfl, Below.refl _ _⟩
    case round =>
      obtain ⟨k, hk, rfl, rfl, hbel⟩ := hrel
      have hle0 := Hsl.out k
      by_cases hlt : k < l.length
      · obtain ⟨b1, f1, rfl, hb1, d1, d1'⟩ := Hcell.out k hlt
        have d1 := cell_below hbel hb1 d1
        have Hsn := Lib.hid (numT_snoc (prefF (L bs)) l k hlt)
        have Hbel := Lib.hid hbel
        clear hbel d1'
        generalize l[k] = x at *
        obtain ⟨x, q⟩ := x
        simp only at d1 Hsn
        have Hpf : Hid (prefF (L bs) (x, q) = (L bs).isPrefixOf (L (B x))) := Lib.hid rfl
        generalize B x = bx at *
        rw [Hpf.out] at Hsn
        have he := pref_bytes bs bx
        have Hps := Lib.hid (pref_short bs bx)
        clear Hpf
        generalize hcb : numT (prefF (L bs)) (l.take (k + 1)) = c1 at *
        have Hcb := Lib.hid hcb
        clear hcb
        generalize numT (prefF (L bs)) (l.take k) = c0 at *
        generalize (L bs).isPrefixOf (L bx) = c at *
        have hk1 : (k : Int) < (l.length : Int) := by omega
        by_cases hz : bs.size ≤ bx.size
        · have hzi : (bs.size : Int) ≤ (bx.size : Int) := by omega
          clear Hps
          cases c
          all_goals
            go_wp2
            go_roundw
            case rel => exact ⟨k + 1, by omega, by go_num, by rw [Hcb.out, Hsn.out]; go_num, Hbel.out⟩
            case measure => simp [intOf]; omega
        · have hzi : ¬ (bs.size : Int) ≤ (bx.size : Int) := by omega
          obtain rfl := Hps.out hz
          clear Hps
          go_wp2
          go_roundw
          case rel => exact ⟨k + 1, by omega, by go_num, by rw [Hcb.out, Hsn.out]; go_num, Hbel.out⟩
          case measure => simp [intOf]; omega
      · obtain rfl : k = l.length := by omega
        rw [List.take_of_length_le (Nat.le_refl _), ← Hf.out]
        go_wp2
        go_ret
        exact ⟨rfl, hbel⟩
end Go.Proofs.YtlfhgmclnapmjaaDoor
namespace Go.Proofs.YtlfhgmclnapmjaaDoor
open Go.RowKit Go.Utf Go.Qry
attribute [local go_sem] Oper.semAt_some

theorem has_contains (l : Tks) (x : Tx) (a b : Nat) : hasT l x ((a : Int) + (b : Int)) = l.contains (x, a + b) := by
  unfold hasT
  rw [Bool.eq_iff_iff, List.any_eq_true, List.contains_iff_mem]
  constructor
  · rintro ⟨⟨c, d⟩, h1, h2⟩
    simp only [Bool.and_eq_true, decide_eq_true_eq] at h2
    obtain ⟨rfl, h3⟩ := h2
    obtain rfl : d = a + b := by omega
    exact h1
  · intro h
    exact ⟨_, h, by simp⟩
def headT (p : Tks) : Tx := (p.head?.map Prod.fst).getD []
theorem headT_get (p : Tks) (h : 0 < p.length) : headT p = p[0].1 := by
  cases p with
  | nil => simp at h
  | cons x p => rfl
def isAt (p l : Tks) (t : Tx × Nat) (k : Nat) : Bool := decide (t.1 = headT p) && ((p.take k).drop 1).all fun x => l.contains (x.1, t.2 + x.2)
theorem isAt_one (p l : Tks) (t : Tx × Nat) : isAt p l t 1 = decide (t.1 = headT p) := by
  unfold isAt
  rw [List.drop_of_length_le (by rw [List.length_take]; omega), List.all_nil, Bool.and_true]
theorem isAt_snoc (p l : Tks) (t : Tx × Nat) (k : Nat) (h : k < p.length) (hk : 1 ≤ k) : isAt p l t (k + 1) = (isAt p l t k && hasT l p[k].1 ((t.2 : Int) + (p[k].2 : Int))) := by
  unfold isAt
  rw [List.take_add_one, List.getElem?_eq_getElem h, List.drop_append_of_le_length (by rw [List.length_take]; omega), List.all_append, has_contains, Bool.and_assoc]
  simp
theorem isAt_end (p l : Tks) (t : Tx × Nat) : isAt p l t p.length = oneB p l t := by
  unfold isAt oneB
  rw [List.take_of_length_le (Nat.le_refl _), List.drop_one]
  rfl
theorem isAt_no (p l : Tks) (t : Tx × Nat) (k : Nat) (h : isAt p l t k = false) : oneB p l t = false := by
  rw [← isAt_end]
  unfold isAt at *
  rw [List.take_of_length_le (Nat.le_refl _)]
  rw [Bool.and_eq_false_iff] at *
  rcases h with h | h
  · exact .inl h
  · refine .inr ?_
    rw [List.all_eq_false] at *
    obtain ⟨x, h1, h2⟩ := h
    refine ⟨x, ?_, h2⟩
    rw [List.drop_take] at h1
    exact List.mem_of_mem_take h1
theorem count_num (p l : Tks) (h : p ≠ []) : countN p l = numT (oneB p l) l := by
  unfold countN; rw [if_neg h]; rfl
/-- A phrase's tokens, by their numbers. -/
def ptT (p : Tks) (k : Nat) : Tx := (p[k]?.getD ([], 0)).1
def ppT (p : Tks) (k : Nat) : Nat := (p[k]?.getD ([], 0)).2
theorem pt_get (p : Tks) (k : Nat) (h : k < p.length) : ptT p k = p[k].1 ∧ ppT p k = p[k].2 := by
  unfold ptT ppT; rw [List.getElem?_eq_getElem h]; exact ⟨rfl, rfl⟩
theorem pt_step (p l : Tks) (t : Tx × Nat) (k : Nat) (h : k < p.length) (hk : 1 ≤ k) : isAt p l t (k + 1) = (isAt p l t k && hasT l (ptT p k) ((t.2 : Int) + (ppT p k : Int))) := by
  rw [(pt_get p k h).1, (pt_get p k h).2]; exact isAt_snoc p l t k h hk
theorem pt_cells {w : World} {oa : Option Addr} {p : Tks} (hp0 : 0 < p.length) (h : ∀ i (hi : i < p.length), ∃ b off, oa = some ⟨b, off, none⟩ ∧ b < w.heap.size ∧ w.cell? ⟨b, off + i * 2, none⟩ = some (.string (B p[i].1)) ∧ w.cell? ⟨b, off + i * 2 + 1, none⟩ = some (.int .i64 (p[i].2 : Nat))) :
    ∃ b off, oa = some ⟨b, off, none⟩ ∧ b < w.heap.size ∧ ∀ i, i < p.length → w.cell? ⟨b, off + i * 2, none⟩ = some (.string (B (ptT p i))) ∧ w.cell? ⟨b, off + i * 2 + 1, none⟩ = some (.int .i64 (ppT p i : Nat)) := by
  obtain ⟨b, off, e, hb, -, -⟩ := h 0 hp0
  refine ⟨b, off, e, hb, fun i hi => ?_⟩
  obtain ⟨b', off', e', -, h1, h2⟩ := h i hi
  rw [e] at e'
  simp only [Option.some.injEq, Addr.mk.injEq, and_true] at e'
  obtain ⟨rfl, rfl⟩ := e'
  rw [(pt_get p i hi).1, (pt_get p i hi).2]
  exact ⟨h1, h2⟩
set_option maxRecDepth 100000 in
set_option maxHeartbeats 1600000 in
theorem ref17_Count (vp vl : Value) (p l : Tks) (hpb : ∀ x ∈ p, x.2 ≤ 1000000) (hlb : ∀ x ∈ l, x.2 ≤ 1000000) (hnp : p.length ≤ 1000000) (hnl : l.length ≤ 1000000) (w : World) (hp : Toks w vp p) (hl : Toks w vl l) :
    Calls Tryd.prog 37 #[vp, vl] w fun e w' => e = .returned (.int .i64 (countN p l : Nat)) ∧ Below w.heap.size w w' := by
  have Hst := Lib.hid (fun (t : Tx) (z : Int) (w' : World) (hb : Below w.heap.size w w') => ref17_Stands vl l t z (by omega) w' (hl.below hb))
  obtain ⟨pa, pc, rfl, hpc⟩ := hp
  obtain ⟨la, lc, rfl, hlc⟩ := hl
  have Hpc := Lib.hid hpc
  have Hlc := Lib.hid hlc
  have Hpb := Lib.hid hpb
  have Hlb := Lib.hid hlb
  clear hpc hlc hpb hlb
  by_cases h0 : p = []
  · subst h0
    have Hf : Hid (countN [] l = 0) := Lib.hid rfl
    clear Hst Hpc Hlc Hpb Hlb
    go_enter Tryd.func37, Tryd.ntmps37
    go_wp2
    go_loopw [5, 6] (fun x5 x6 wr => x5 = .int .i64 0 ∧ x6 = .int .i64 0 ∧ Below w.heap.size w wr) (fun _ _ _ => 0)
    case atStart => exact ⟨rfl, rfl, Below.refl _ _⟩
    case round =>
      obtain ⟨rfl, rfl, hbel⟩ := hrel
      have Hbel := Lib.hid hbel
      clear hbel
      by_cases hl : 0 < l.length
      · have hli : (0 : Int) < (l.length : Int) := by omega
        go_wp2
        go_ret
        exact ⟨by rw [Hf.out]; rfl, Hbel.out⟩
      · have hli : ¬ (0 : Int) < (l.length : Int) := by omega
        go_wp2
        go_ret
        exact ⟨by rw [Hf.out]; rfl, Hbel.out⟩
  · have Hf := Lib.hid (count_num p l h0)
    have hp0 : 0 < p.length := by
      rcases Nat.eq_zero_or_pos p.length with h | h
      · exact absurd (List.eq_nil_of_length_eq_zero h) h0
      · exact h
    have Hsl := Lib.hid (numT_le (oneB p l) l)
    have hp0i : (0 : Int) < (p.length : Int) := by omega
    clear h0
    have Hpp : Hid (∀ k, k < p.length → ppT p k ≤ 1000000) := Lib.hid (fun k hk => by rw [(pt_get p k hk).2]; exact Hpb.out _ (List.getElem_mem hk))
    obtain ⟨pb, pf, rfl, hpb, hcl⟩ := pt_cells hp0 Hpc.out
    have Hcl := Lib.hid hcl
    have Hh : Hid (headT p = ptT p 0) := Lib.hid (by rw [headT_get p hp0, (pt_get p 0 hp0).1])
    have Hs := Lib.hid (fun t => pt_step p l t)
    have He := Lib.hid (fun t => isAt_end p l t)
    have Hno := Lib.hid (fun t => isAt_no p l t)
    have Ho := Lib.hid (fun t => isAt_one p l t)
    clear hcl Hpb Hpc
    generalize p.length = P at *
    go_enter Tryd.func37, Tryd.ntmps37
    go_wp2
    go_loopw [5, 6] (fun x5 x6 wr => ∃ k : Nat, k ≤ l.length ∧ x6 = .int .i64 k ∧ x5 = .int .i64 (numT (oneB p l) (l.take k) : Nat) ∧ Below w.heap.size w wr) (fun _ x6 _ => l.length - (intOf x6).toNat)
    case atStart => exact ⟨0, by omega, rfl, rfl, Below.refl _ _⟩
    case round =>
      obtain ⟨i, hi, rfl, rfl, hbel⟩ := hrel
      have hle0 := Hsl.out i
      by_cases hlt : i < l.length
      · obtain ⟨b1, f1, rfl, hb1, d1, d1'⟩ := Hlc.out i hlt
        have k1 := cell_below hbel hb1 d1
        have k2 := cell_below hbel hb1 d1'
        have e0 := cell_below hbel hpb (Hcl.out 0 hp0).1
        have Hsn := Lib.hid (numT_snoc (oneB p l) l i hlt)
        have Hbel := Lib.hid hbel
        have htb := Hlb.out l[i] (List.getElem_mem hlt)
        have Ho := Lib.hid (Ho.out l[i])
        have Hs := Lib.hid (Hs.out l[i])
        have He := Lib.hid (He.out l[i])
        have Hno := Lib.hid (Hno.out l[i])
        have e1 : ((B l[i].1).toList == (B (ptT p 0)).toList) = decide (l[i].1 = ptT p 0) := by rw [toList_B, toList_B, Bool.eq_iff_iff, beq_iff_eq, decide_eq_true_eq]
        have D2 := Lib.hid d1'
        clear hbel d1 d1'
        generalize hcb : numT (oneB p l) (l.take (i + 1)) = c1 at *
        have Hcb := Lib.hid hcb
        clear hcb
        generalize numT (oneB p l) (l.take i) = c0 at *
        generalize l[i] = x at *
        obtain ⟨x, q⟩ := x
        simp only at k1 k2 D2 htb Ho Hs e1
        rw [Hh.out] at Ho
        generalize decide (x = ptT p 0) = cc at *
        have hk1 : (i : Int) < (l.length : Int) := by omega
        simp only [Nat.zero_mul, Nat.add_zero] at e0
        generalize oneB p l (x, q) = one at *
        clear Hh Hsl Hlb Hlc
        go_wp2
        go_quiet (fail)
        go_wp2
        generalize hW : wr.drewN _ = wd at *
        have Hb1 : Hid (b1 < w.heap.size) := Lib.hid hb1
        have Hbd : Hid (Below w.heap.size w wd) := Lib.hid (by rw [← hW]; exact below_to_drewN Hbel.out _)
        clear k2 hW e0 k1 Hbel
        go_loopw [7, 8] (fun x7 x8 wi => ∃ k : Nat, 1 ≤ k ∧ k ≤ P ∧ x8 = .int .i64 k ∧ x7 = .bool (isAt p l (x, q) k) ∧ Below w.heap.size w wi) (fun _ x8 _ => P - (intOf x8).toNat)
        case atStart => exact ⟨1, by omega, by omega, rfl, by rw [Ho.out], Hbd.out⟩
        case round =>
          obtain ⟨k, hk1', hkP, rfl, rfl, hbi⟩ := hrel
          by_cases hlt2 : k < P
          · have hki : (k : Int) < (P : Int) := by omega
            have Hs := Lib.hid (Hs.out k hlt2 hk1')
            have Hno := Lib.hid (Hno.out k)
            generalize hcc : isAt p l (x, q) (k + 1) = cc1 at *
            have Hcc := Lib.hid hcc
            clear hcc
            generalize isAt p l (x, q) k = ck at *
            cases ck
            · have Hn := Lib.hid (Hno.out rfl)
              rw [Hn.out] at Hsn
              clear Hno
              go_wp2
              go_roundw
              case rel => exact ⟨i + 1, by omega, by go_num, by rw [Hcb.out, Hsn.out]; go_num, hbi⟩
              case measure => simp [intOf]; omega
            · clear Hno
              have k2 := cell_below hbi hb1 D2.out
              have c0' := cell_below hbi hpb (Hcl.out k hlt2).1
              have c1' := cell_below hbi hpb (Hcl.out k hlt2).2
              have hpk := Hpp.out k hlt2
              have Hbi := Lib.hid hbi
              have HC := Lib.hid (fun (w' : World) (hb : Below wr.heap.size wr w') => Hst.out (ptT p k) ((q : Int) + (ppT p k : Int)) w' (step_call Hbi.out hb))
              generalize ptT p k = y at *
              generalize ppT p k = z at *
              have hw1 : IntKind.i64.wrap ((q : Int) + (z : Int)) = (q : Int) + (z : Int) := IntWalk.i64_in _ (by omega)
              generalize hasT l y ((q : Int) + (z : Int)) = hz at *
              clear hbi
              go_wp2
              go_region_with (go_at_call 67; refine (HC.out _ (by first | exact Below.refl _ _ | exact below_drew _ | exact below_to_drewN (Below.refl _ _) _)).mono ?_; rintro e w3 ⟨rfl, hb3⟩)
              all_goals
                go_wp2
                go_roundw
                case rel => exact ⟨k + 1, by omega, by omega, by go_num, by rw [Hcc.out, Hs.out]; rfl, step_call (step_call Hbi.out (below_drew _)) hb3⟩
                case measure => simp [intOf]; omega
          · obtain rfl : k = P := by omega
            rw [He.out]
            have Hbi := Lib.hid hbi
            clear hbi
            cases one
            all_goals
              go_wp2
              go_roundw
              case rel => exact ⟨i + 1, by omega, by go_num, by rw [Hcb.out, Hsn.out]; go_num, Hbi.out⟩
              case measure => simp [intOf]; omega
      · obtain rfl : i = l.length := by omega
        rw [List.take_of_length_le (Nat.le_refl _), ← Hf.out]
        go_wp2
        go_ret
        exact ⟨rfl, hbel⟩
end Go.Proofs.YtlfhgmclnapmjaaDoor
namespace Go.Proofs.YtlfhgmclnapmjaaDoor
open Go.RowKit Go.Utf Go.Qry
attribute [local go_sem] Oper.semAt_some

theorem short_text {q : Qy} (h : shortB q = true) : q.text.length ≤ 1000 := by
  rw [shortB_eq, Bool.and_eq_true, decide_eq_true_eq] at h; exact h.1
theorem shortR_mem {l : List Qy} (h : shortR l = true) : l.length ≤ 1200 ∧ ∀ k ∈ l, shortB k = true := by
  unfold shortR at h
  rw [Bool.and_eq_true, decide_eq_true_eq, List.all_eq_true] at h; exact h
theorem short_lists {q : Qy} (h : shortB q = true) : shortR q.must = true ∧ shortR q.should = true ∧ shortR q.nots = true := by
  rw [shortB_eq, Bool.and_eq_true, Bool.and_eq_true, Bool.and_eq_true] at h; exact h.2
theorem allQ_snoc (l : List Qy) (f : Qy → Bool) (k : Nat) (h : k < l.length) : (l.take (k + 1)).all f = ((l.take k).all f && f l[k]) := by
  rw [List.take_add_one, List.getElem?_eq_getElem h, List.all_append]
  simp
theorem anyQ_snoc (l : List Qy) (f : Qy → Bool) (k : Nat) (h : k < l.length) : (l.take (k + 1)).any f = ((l.take k).any f || f l[k]) := by
  rw [List.take_add_one, List.getElem?_eq_getElem h, List.any_append]
  simp
theorem anyQ_hit (l : List Qy) (f : Qy → Bool) (k : Nat) (h : k < l.length) (h1 : f l[k] = true) : l.any f = true := by
  rw [List.any_eq_true]
  exact ⟨l[k], List.getElem_mem h, h1⟩
theorem allQ_no (l : List Qy) (f : Qy → Bool) (k : Nat) (h : k < l.length) (h1 : f l[k] = false) : l.all f = false := by
  rw [List.all_eq_false]
  exact ⟨l[k], List.getElem_mem h, by rw [h1]; simp⟩
theorem bool_no1 {l : Tks} {a b c : List Qy} (h : a.all (matB l) = false) : boolM l a b c = false := by unfold boolM; rw [h]; rfl
theorem bool_no2 {l : Tks} {a b c : List Qy} (h : c.any (matB l) = true) : boolM l a b c = false := by unfold boolM; rw [h]; simp
theorem bool_yes {l : Tks} {a b c : List Qy} (h1 : a.all (matB l) = true) (h2 : c.any (matB l) = false) (h : 0 < a.length ∨ b.length = 0 ∨ b.any (matB l) = true) : boolM l a b c = true := by
  unfold boolM
  rw [h1, h2]
  rcases h with h | h | h
  · rw [decide_eq_true h]; simp
  · rw [decide_eq_true h]; simp
  · rw [h]; simp
theorem bool_no3 {l : Tks} {a b c : List Qy} (h : ¬ 0 < a.length) (h2 : ¬ b.length = 0) (h3 : b.any (matB l) = false) : boolM l a b c = false := by
  unfold boolM
  rw [decide_eq_false h, decide_eq_false h2, h3]; simp
def RMat (m : Nat) (l : Tks) (vl : Value) : Prop := ∀ (q : Qy) (vm vs vn : Value) (w : World), QVal w m q vm vs vn → shortB q = true → Toks w vl l → Calls Tryd.prog 14 #[qV q vm vs vn, vl] w fun e w' => e = .returned (.bool (matB l q)) ∧ Below w.heap.size w w'
set_option maxRecDepth 100000 in
set_option maxHeartbeats 1600000 in
theorem ref17_every (n : Nat) (l : Tks) (vl : Value) (ih : ∀ m, m < n → RMat m l vl) (q : Qy) (vm vs vn : Value) (w : World) (h : QVal w n q vm vs vn) (hs : shortB q = true) (hl : Toks w vl l) :
    Calls Tryd.prog 39 #[qV q vm vs vn, vl] w fun e w' => e = .returned (.bool (boolM l q.must q.should q.nots)) ∧ Below w.heap.size w w' := by
  obtain ⟨om, cm, rfl, lm, hm1⟩ := h.must.form
  obtain ⟨os, cs, rfl, ls, hs1⟩ := h.should.form
  obtain ⟨on, cn, rfl, ln, hn1⟩ := h.nots.form
  have Hmust := Lib.hid hm1
  have Hshould := Lib.hid hs1
  have Hnots := Lib.hid hn1
  have IH := Lib.hid ih
  have HL := Lib.hid hl
  obtain ⟨r1, r2, r3⟩ := short_lists hs
  obtain ⟨hlm, r1⟩ := shortR_mem r1
  obtain ⟨hls, r2⟩ := shortR_mem r2
  obtain ⟨hln, r3⟩ := shortR_mem r3
  have R2 := Lib.hid r1
  have R3 := Lib.hid r2
  have R4 := Lib.hid r3
  have b0 := step_new (Below.refl w.heap.size w) (.cells #[.int .i64 q.kind, .string (B q.text), .slice om q.must.length cm, .slice os q.should.length cs, .slice on q.nots.length cn] 24)
  have Hb0 := Lib.hid b0
  obtain ⟨-, -, a2, a3, a4⟩ := boxedQ w q (.slice om q.must.length cm) (.slice os q.should.length cs) (.slice on q.nots.length cn) 24
  have Z2 := Lib.hid a2
  have Z3 := Lib.hid a3
  have Z4 := Lib.hid a4
  clear ih hm1 hs1 hn1 b0 a2 a3 a4 h hs hl r1 r2 r3 lm ls ln
  show Calls Tryd.prog 39 #[.agg #[.int .i64 q.kind, .string (B q.text), .slice om q.must.length cm, .slice os q.should.length cs, .slice on q.nots.length cn], vl] w _
  go_enter Tryd.func39, Tryd.ntmps39
  go_wp2
  generalize w.alloc (.cells #[.int .i64 q.kind, .string (B q.text), .slice om q.must.length cm, .slice os q.should.length cs, .slice on q.nots.length cn] 24) = w1 at *
  go_loopw [5] (fun x5 wr => ∃ b : Nat, b ≤ q.must.length ∧ x5 = .int .i64 b ∧ (q.must.take b).all (matB l) = true ∧ Below w1.heap.size w1 wr) (fun x5 _ => q.must.length - (intOf x5).toNat)
  case atStart => exact ⟨0, by omega, rfl, rfl, Below.refl _ _⟩
  case round =>
    obtain ⟨b, hb, rfl, hal, hbel⟩ := hrel
    have Hal := Lib.hid hal
    have Hbel := Lib.hid hbel
    have zc := cell_call hbel Z2.out
    clear hal
    by_cases hlt : b < q.must.length
    · obtain ⟨bb, off, k, um, us, un, hnk, rfl, hbb, hcc, c0, c1, c2, c3, c4, hv⟩ := Hmust.out b hlt
      have hbw := Hb0.out.trans (hbel.mono Hb0.out.size)
      have c0 := cell_below hbw hbb c0
      have c1 := cell_below hbw hbb c1
      have c2 := cell_below hbw hbb c2
      have c3 := cell_below hbw hbb c3
      have c4 := cell_below hbw hbb c4
      have Hst := Lib.hid (allQ_snoc q.must (matB l) b hlt)
      have Hbad := Lib.hid (fun h => bool_no1 (l := l) (a := q.must) (b := q.should) (c := q.nots) (allQ_no q.must (matB l) b hlt h))
      have hki : (b : Int) < (q.must.length : Int) := by omega
      have Hv := Lib.hid (hv.below hbw)
      have Hlr := Lib.hid (HL.out.below hbw)
      have hsu := R2.out q.must[b] (List.getElem_mem hlt)
      clear hbel hv hbw
      generalize q.must[b] = u at *
      have HC := Lib.hid (fun (w' : World) (hb : Below wr.heap.size wr w') => IH.out k (by omega) u _ _ _ w' (Hv.out.below hb) hsu (Hlr.out.below hb))
      clear hsu
      unfold qV at HC
      generalize matB l u = mu at *
      cases mu
      case false =>
        have Hn0 := Lib.hid (Hbad.out rfl)
        clear Hbad
        go_wp2_with (go_at_call 14; refine (HC.out _ (by first | exact Below.refl _ _ | exact below_drew _)).mono ?_; rintro e w2 ⟨rfl, hb2⟩)
        go_ret
        exact ⟨by rw [Hn0.out]; rfl, step_call Hb0.out (step_call Hbel.out hb2)⟩
      case true =>
        clear Hbad
        go_wp2_with (go_at_call 14; refine (HC.out _ (by first | exact Below.refl _ _ | exact below_drew _)).mono ?_; rintro e w2 ⟨rfl, hb2⟩)
        go_roundw
        case rel => exact ⟨b + 1, by omega, by go_num, by rw [Hst.out, Hal.out]; rfl, step_call Hbel.out hb2⟩
        case measure => simp [intOf]; omega
    · obtain rfl : b = q.must.length := by omega
      have E1 : Hid (q.must.all (matB l) = true) := Lib.hid (by have := Hal.out; rwa [List.take_of_length_le (Nat.le_refl _)] at this)
      have HB1 := Lib.hid hbel
      clear Hal hbel Hbel hlt hb
      go_wp2
      clear zc
      go_loopw [7] (fun x7 wr => ∃ b : Nat, b ≤ q.nots.length ∧ x7 = .int .i64 b ∧ (q.nots.take b).any (matB l) = false ∧ Below w1.heap.size w1 wr) (fun x7 _ => q.nots.length - (intOf x7).toNat)
      case atStart => exact ⟨0, by omega, rfl, rfl, HB1.out⟩
      case round =>
        obtain ⟨b, hb, rfl, hal, hbel⟩ := hrel
        have Hal := Lib.hid hal
        have Hbel := Lib.hid hbel
        have zc := cell_call hbel Z4.out
        clear hal
        by_cases hlt : b < q.nots.length
        · obtain ⟨bb, off, k, um, us, un, hnk, rfl, hbb, hcc, c0, c1, c2, c3, c4, hv⟩ := Hnots.out b hlt
          have hbw := Hb0.out.trans (hbel.mono Hb0.out.size)
          have c0 := cell_below hbw hbb c0
          have c1 := cell_below hbw hbb c1
          have c2 := cell_below hbw hbb c2
          have c3 := cell_below hbw hbb c3
          have c4 := cell_below hbw hbb c4
          have Hst := Lib.hid (anyQ_snoc q.nots (matB l) b hlt)
          have Hbad := Lib.hid (fun h => bool_no2 (l := l) (a := q.must) (b := q.should) (c := q.nots) (anyQ_hit q.nots (matB l) b hlt h))
          have hki : (b : Int) < (q.nots.length : Int) := by omega
          have Hv := Lib.hid (hv.below hbw)
          have Hlr := Lib.hid (HL.out.below hbw)
          have hsu := R4.out q.nots[b] (List.getElem_mem hlt)
          clear hbel hv hbw
          generalize q.nots[b] = u at *
          have HC := Lib.hid (fun (w' : World) (hb : Below wr.heap.size wr w') => IH.out k (by omega) u _ _ _ w' (Hv.out.below hb) hsu (Hlr.out.below hb))
          clear hsu
          unfold qV at HC
          generalize matB l u = mu at *
          cases mu
          case true =>
            have Hn0 := Lib.hid (Hbad.out rfl)
            clear Hbad
            go_wp2_with (go_at_call 14; refine (HC.out _ (by first | exact Below.refl _ _ | exact below_drew _)).mono ?_; rintro e w2 ⟨rfl, hb2⟩)
            go_ret
            exact ⟨by rw [Hn0.out]; rfl, step_call Hb0.out (step_call Hbel.out hb2)⟩
          case false =>
            clear Hbad
            go_wp2_with (go_at_call 14; refine (HC.out _ (by first | exact Below.refl _ _ | exact below_drew _)).mono ?_; rintro e w2 ⟨rfl, hb2⟩)
            go_roundw
            case rel => exact ⟨b + 1, by omega, by go_num, by rw [Hst.out, Hal.out]; rfl, step_call Hbel.out hb2⟩
            case measure => simp [intOf]; omega
        · obtain rfl : b = q.nots.length := by omega
          have E2 : Hid (q.nots.any (matB l) = false) := Lib.hid (by have := Hal.out; rwa [List.take_of_length_le (Nat.le_refl _)] at this)
          have HB2 := Lib.hid hbel
          clear Hal hbel Hbel hlt hb
          have zm := cell_call HB2.out Z2.out
          have zs := cell_call HB2.out Z3.out
          by_cases h1 : 0 < q.must.length
          · have h1i : (0 : Int) < (q.must.length : Int) := by omega
            have Hy := Lib.hid (bool_yes (b := q.should) E1.out E2.out (.inl h1))
            go_wp2
            go_ret
            exact ⟨by rw [Hy.out]; rfl, step_call Hb0.out HB2.out⟩
          · have h1i : ¬ (0 : Int) < (q.must.length : Int) := by omega
            by_cases h2 : q.should.length = 0
            · have h2i : ((q.should.length : Int) == 0) = true := by simp [h2]
              have Hy := Lib.hid (bool_yes (b := q.should) E1.out E2.out (.inr (.inl h2)))
              clear h2
              go_wp2
              go_ret
              exact ⟨by rw [Hy.out]; rfl, step_call Hb0.out HB2.out⟩
            · have h2i : ((q.should.length : Int) == 0) = false := by rw [beq_eq_false_iff_ne]; omega
              have Hn3 := Lib.hid (fun h => bool_no3 (l := l) (c := q.nots) h1 h2 h)
              clear h2
              go_wp2
              clear zm zs
              go_loopw [9] (fun x9 wr => ∃ b : Nat, b ≤ q.should.length ∧ x9 = .int .i64 b ∧ (q.should.take b).any (matB l) = false ∧ Below w1.heap.size w1 wr) (fun x9 _ => q.should.length - (intOf x9).toNat)
              case atStart => exact ⟨0, by omega, rfl, rfl, HB2.out⟩
              case round =>
                obtain ⟨b, hb, rfl, hal, hbel⟩ := hrel
                have Hal := Lib.hid hal
                have Hbel := Lib.hid hbel
                have zc := cell_call hbel Z3.out
                clear hal
                by_cases hlt : b < q.should.length
                · obtain ⟨bb, off, k, um, us, un, hnk, rfl, hbb, hcc, c0, c1, c2, c3, c4, hv⟩ := Hshould.out b hlt
                  have hbw := Hb0.out.trans (hbel.mono Hb0.out.size)
                  have c0 := cell_below hbw hbb c0
                  have c1 := cell_below hbw hbb c1
                  have c2 := cell_below hbw hbb c2
                  have c3 := cell_below hbw hbb c3
                  have c4 := cell_below hbw hbb c4
                  have Hst := Lib.hid (anyQ_snoc q.should (matB l) b hlt)
                  have Hbad := Lib.hid (fun h => bool_yes (l := l) (a := q.must) (b := q.should) (c := q.nots) E1.out E2.out (.inr (.inr (anyQ_hit q.should (matB l) b hlt h))))
                  have hki : (b : Int) < (q.should.length : Int) := by omega
                  have Hv := Lib.hid (hv.below hbw)
                  have Hlr := Lib.hid (HL.out.below hbw)
                  have hsu := R3.out q.should[b] (List.getElem_mem hlt)
                  clear hbel hv hbw
                  generalize q.should[b] = u at *
                  have HC := Lib.hid (fun (w' : World) (hb : Below wr.heap.size wr w') => IH.out k (by omega) u _ _ _ w' (Hv.out.below hb) hsu (Hlr.out.below hb))
                  clear hsu
                  unfold qV at HC
                  generalize matB l u = mu at *
                  cases mu
                  case true =>
                    have Hn0 := Lib.hid (Hbad.out rfl)
                    clear Hbad
                    go_wp2_with (go_at_call 14; refine (HC.out _ (by first | exact Below.refl _ _ | exact below_drew _)).mono ?_; rintro e w2 ⟨rfl, hb2⟩)
                    go_ret
                    exact ⟨by rw [Hn0.out]; rfl, step_call Hb0.out (step_call Hbel.out hb2)⟩
                  case false =>
                    clear Hbad
                    go_wp2_with (go_at_call 14; refine (HC.out _ (by first | exact Below.refl _ _ | exact below_drew _)).mono ?_; rintro e w2 ⟨rfl, hb2⟩)
                    go_roundw
                    case rel => exact ⟨b + 1, by omega, by go_num, by rw [Hst.out, Hal.out]; rfl, step_call Hbel.out hb2⟩
                    case measure => simp [intOf]; omega
                · obtain rfl : b = q.should.length := by omega
                  have E3 : Hid (q.should.any (matB l) = false) := Lib.hid (by have := Hal.out; rwa [List.take_of_length_le (Nat.le_refl _)] at this)
                  have HB3 := Lib.hid hbel
                  clear Hal hbel Hbel hlt hb
                  have Hy := Lib.hid (Hn3.out E3.out)
                  clear Hn3
                  go_wp2
                  go_ret
                  exact ⟨by rw [Hy.out]; rfl, step_call Hb0.out HB3.out⟩
theorem Toks.take {w : World} {oa : Option Addr} {c : Nat} {l : Tks} (h : Toks w (.slice oa l.length c) l) (k : Nat) (hk : k ≤ l.length) : Toks w (.slice oa k c) (l.take k) := by
  obtain ⟨oa', c', e, hc⟩ := h
  simp only [Value.slice.injEq, true_and] at e
  obtain ⟨rfl, rfl⟩ := e
  have hlen : (l.take k).length = k := by rw [List.length_take]; omega
  refine ⟨oa, c, by rw [hlen], fun i hi => ?_⟩
  have hi' : i < l.length := by omega
  have := hc i hi'
  rw [List.getElem_take]
  exact this
theorem phrase_pos (t : Tx) (ht : t.length ≤ 1000000) : ∀ x ∈ phraseL t, x.2 ≤ 1000000 := by
  intro x hx
  obtain ⟨i, hi, rfl⟩ := List.mem_iff_getElem.1 hx
  rw [phrase_get]
  have := token_pos t ht i (by rwa [phrase_length] at hi)
  simp only
  omega
theorem phrase_len (t : Tx) (ht : t.length ≤ 1000000) : (phraseL t).length ≤ 1000000 := by
  rw [phrase_length]
  have := tokens_count (B t) (by rw [size_B]; exact ht)
  rwa [L_B] at this
theorem mat_two (l : Tks) (q : Qy) (h : q.kind = 2) : (phraseL q.text = [] → matB l q = false) ∧ (phraseL q.text ≠ [] → matB l q = decide (0 < countN ((phraseL q.text).take 1) l)) := by
  rw [matB_eq, if_neg (by omega), if_pos h]
  constructor
  · intro e; rw [e]; rfl
  · intro e
    rw [count_stands (fun hz => by rw [List.getElem_take]; exact phrase_first _ _), decide_eq_true e, decide_eq_true (by cases hp : phraseL q.text with | nil => exact absurd hp e | cons x xs => simp)]
theorem mat_three (l : Tks) (q : Qy) (h : q.kind = 3) : matB l q = decide (0 < countN (phraseL q.text) l) := by
  rw [matB_eq, if_neg (by omega), if_neg (by omega), if_pos h, count_stands (fun hz => phrase_first _ _)]
theorem mat_four (l : Tks) (q : Qy) (h : q.kind = 4) : matB l q = decide (0 < beginsN (foldL q.text) l) := by
  rw [matB_eq, if_neg (by omega), if_neg (by omega), if_neg (by omega), if_pos h, begins_pref]
theorem mat_five (l : Tks) (q : Qy) (h : q.kind = 5) : matB l q = boolM l q.must q.should q.nots := by
  rw [matB_eq, if_neg (by omega), if_neg (by omega), if_neg (by omega), if_neg (by omega), if_pos h]
theorem mat_one (l : Tks) (q : Qy) (h : q.kind = 1) : matB l q = true := by rw [matB_eq, if_pos h]
theorem mat_none (l : Tks) (q : Qy) (h1 : q.kind ≠ 1) (h2 : q.kind ≠ 2) (h3 : q.kind ≠ 3) (h4 : q.kind ≠ 4) (h5 : q.kind ≠ 5) : matB l q = false := by
  rw [matB_eq, if_neg h1, if_neg h2, if_neg h3, if_neg h4, if_neg h5]
set_option maxRecDepth 100000 in
set_option maxHeartbeats 1600000 in
theorem ref17_Matches (l : Tks) (vl : Value) (hlb : ∀ x ∈ l, x.2 ≤ 1000000) (hnl : l.length ≤ 1000000) (n : Nat) : RMat n l vl := by
  induction n using Nat.strongRecOn with
  | _ n ih =>
    intro q vm vs vn w h hs hl
    have ht := short_text hs
    have HE := Lib.hid (fun (w' : World) (hb : Below w.heap.size w w') => ref17_every n l vl ih q vm vs vn w' (h.below hb) hs (hl.below hb))
    have HP := Lib.hid (fun (w' : World) => ref17_Phrase q.text (by omega) w')
    have HF := ref10_Folded (B q.text) (by rw [size_B]; omega)
    rw [L_B] at HF
    have HF := Lib.hid HF
    have HCn := Lib.hid (fun (vp : Value) (p : Tks) (h1 : ∀ x ∈ p, x.2 ≤ 1000000) (h2 : p.length ≤ 1000000) (w' : World) (hb : Below w.heap.size w w') (hp : Toks w' vp p) => ref17_Count vp vl p l h1 hlb h2 hnl w' hp (hl.below hb))
    have HBg := Lib.hid (fun (bs : ByteArray) (w' : World) (hb : Below w.heap.size w w') => ref17_Begins bs vl l hnl w' (hl.below hb))
    have Hpp := Lib.hid (phrase_pos q.text (by omega))
    have hpl := phrase_len q.text (by omega)
    have b0 := step_new (Below.refl w.heap.size w) (.cells #[.int .i64 q.kind, .string (B q.text), vm, vs, vn] 24)
    have Hb0 := Lib.hid b0
    obtain ⟨a0, a1, a2, a3, a4⟩ := boxedQ w q vm vs vn 24
    have M2 := Lib.hid (mat_two l q)
    have M3 := Lib.hid (mat_three l q)
    have M4 := Lib.hid (mat_four l q)
    have M5 := Lib.hid (mat_five l q)
    have M1 := Lib.hid (mat_one l q)
    have M0 := Lib.hid (mat_none l q)
    unfold qV at HE
    show Calls Tryd.prog 14 #[.agg #[.int .i64 q.kind, .string (B q.text), vm, vs, vn], vl] w _
    clear ih h hs hl b0 ht hlb
    generalize matB l q = mm at *
    generalize q.kind = K at *
    generalize q.text = t at *
    generalize boolM l q.must q.should q.nots = bm at *
    rcases (show K = 1 ∨ K = 2 ∨ K = 3 ∨ K = 4 ∨ K = 5 ∨ (K ≠ 1 ∧ K ≠ 2 ∧ K ≠ 3 ∧ K ≠ 4 ∧ K ≠ 5) by omega) with rfl | rfl | rfl | rfl | rfl | ⟨k1, k2, k3, k4, k5⟩
    · have Hm := Lib.hid (M1.out rfl)
      clear a1 a2 a3 a4
      go_enter Tryd.func14, Tryd.ntmps14
      go_wp2
      go_ret
      exact ⟨by rw [Hm.out]; rfl, Hb0.out⟩
    · obtain ⟨m0, m1⟩ := M2.out rfl
      have Hm0 := Lib.hid m0
      have Hm1 := Lib.hid m1
      clear a2 a3 a4 m0 m1
      go_enter Tryd.func14, Tryd.ntmps14
      go_wp2_with fail
      refine (HP.out _).mono ?_
      rintro e w2 ⟨v, rfl, hb2, hown⟩
      have B2 := Lib.hid (step_call Hb0.out hb2)
      generalize phraseL t = p at *
      clear hb2 a0 a1
      by_cases h0 : p = []
      · have Hn := Lib.hid (Hm0.out h0)
        have hz : decide (0 < p.length) = false := by rw [h0]; rfl
        rw [hz]
        clear h0 hown hz Hm0 Hm1
        go_wp2
        go_ret
        exact ⟨by rw [Hn.out]; rfl, B2.out⟩
      · have hp0 : 0 < p.length := by
          rcases Nat.eq_zero_or_pos p.length with h | h
          · exact absurd (List.eq_nil_of_length_eq_zero h) h0
          · exact h
        have hz : decide (0 < p.length) = true := decide_eq_true hp0
        have Hy := Lib.hid (Hm1.out h0)
        have Ht := own_toks hown
        rcases hown.2 with ⟨e, e0⟩ | ⟨g, cap, cur, e, hg, hh, h1, h2, h3, h4⟩
        · exfalso; omega
        · subst e
          have hc1 : 1 ≤ cap := by omega
          have hz' : ∀ x ∈ p.take 1, x.2 ≤ 1000000 := fun x hx => Hpp.out x (List.mem_of_mem_take hx)
          have HC := Lib.hid (fun (w' : World) (hb : Below w2.heap.size w2 w') => HCn.out (.slice (some ⟨g, 0, none⟩) 1 cap) (p.take 1) hz' (by rw [List.length_take]; omega) w' (step_call B2.out hb) ((Ht.take 1 hp0).below hb))
          clear h0 hown Ht hg hh h1 h2 h3 h4 hz' Hm0 Hm1
          generalize countN (p.take 1) l = C at *
          rw [hz]
          clear hz
          by_cases hC : 0 < C
          · have hCi : (0 : Int) < (C : Int) := by omega
            rw [decide_eq_true hC] at Hy
            go_wp2_with (go_at_call 37; refine (HC.out _ (by first | exact Below.refl _ _ | exact below_drew _)).mono ?_; rintro e w3 ⟨rfl, hb3⟩)
            go_ret
            exact ⟨by rw [Hy.out]; rfl, step_call B2.out hb3⟩
          · have hCi : ¬ (0 : Int) < (C : Int) := by omega
            rw [decide_eq_false hC] at Hy
            go_wp2_with (go_at_call 37; refine (HC.out _ (by first | exact Below.refl _ _ | exact below_drew _)).mono ?_; rintro e w3 ⟨rfl, hb3⟩)
            go_ret
            exact ⟨by rw [Hy.out]; rfl, step_call B2.out hb3⟩
    · have Hy := Lib.hid (M3.out rfl)
      clear a2 a3 a4
      go_enter Tryd.func14, Tryd.ntmps14
      go_wp2_with fail
      refine (HP.out _).mono ?_
      rintro e w2 ⟨v, rfl, hb2, hown⟩
      have B2 := Lib.hid (step_call Hb0.out hb2)
      generalize phraseL t = p at *
      have Ht := own_toks hown
      have HC := Lib.hid (fun (w' : World) (hb : Below w2.heap.size w2 w') => HCn.out v p Hpp.out hpl w' (step_call B2.out hb) (Ht.below hb))
      clear hb2 a0 a1 hown Ht
      generalize countN p l = C at *
      by_cases hC : 0 < C
      · have hCi : (0 : Int) < (C : Int) := by omega
        rw [decide_eq_true hC] at Hy
        go_wp2_with (go_at_call 37; refine (HC.out _ (by first | exact Below.refl _ _ | exact below_drew _)).mono ?_; rintro e w3 ⟨rfl, hb3⟩)
        go_ret
        exact ⟨by rw [Hy.out]; rfl, step_call B2.out hb3⟩
      · have hCi : ¬ (0 : Int) < (C : Int) := by omega
        rw [decide_eq_false hC] at Hy
        go_wp2_with (go_at_call 37; refine (HC.out _ (by first | exact Below.refl _ _ | exact below_drew _)).mono ?_; rintro e w3 ⟨rfl, hb3⟩)
        go_ret
        exact ⟨by rw [Hy.out]; rfl, step_call B2.out hb3⟩
    · have Hy := Lib.hid (M4.out rfl)
      clear a2 a3 a4
      go_enter Tryd.func14, Tryd.ntmps14
      go_wp2_with fail
      refine (HF.out _).mono ?_
      rintro e w2 ⟨rfl, hb2⟩
      have B2 := Lib.hid (step_call Hb0.out hb2)
      have HC := HBg.out (B (foldL t)) w2 B2.out
      rw [L_B] at HC
      have HC := Lib.hid HC
      clear hb2 a0 a1
      generalize beginsN (foldL t) l = C at *
      go_wp2_with fail
      refine HC.out.mono ?_
      rintro e w3 ⟨rfl, hb3⟩
      have B3 := Lib.hid (step_call B2.out hb3)
      clear hb3
      by_cases hC : 0 < C
      · have hCi : (0 : Int) < (C : Int) := by omega
        rw [decide_eq_true hC] at Hy
        go_wp2
        go_ret
        exact ⟨by rw [Hy.out]; rfl, B3.out⟩
      · have hCi : ¬ (0 : Int) < (C : Int) := by omega
        rw [decide_eq_false hC] at Hy
        go_wp2
        go_ret
        exact ⟨by rw [Hy.out]; rfl, B3.out⟩
    · have Hy := Lib.hid (M5.out rfl)
      go_enter Tryd.func14, Tryd.ntmps14
      go_wp2_with fail
      refine (HE.out _ Hb0.out).mono ?_
      rintro e w2 ⟨rfl, hb2⟩
      have B2 := Lib.hid (step_call Hb0.out hb2)
      clear hb2 a0 a1 a2 a3 a4
      go_wp2
      go_ret
      exact ⟨by rw [Hy.out]; rfl, B2.out⟩
    · have Hm := Lib.hid (M0.out k1 k2 k3 k4 k5)
      have q1 : (K == 1) = false := by rw [beq_eq_false_iff_ne]; omega
      have q2 : (K == 2) = false := by rw [beq_eq_false_iff_ne]; omega
      have q3 : (K == 3) = false := by rw [beq_eq_false_iff_ne]; omega
      have q4 : (K == 4) = false := by rw [beq_eq_false_iff_ne]; omega
      have q5 : (K == 5) = false := by rw [beq_eq_false_iff_ne]; omega
      clear k1 k2 k3 k4 k5 a1 a2 a3 a4
      go_enter Tryd.func14, Tryd.ntmps14
      go_wp2
      go_ret
      exact ⟨by rw [Hm.out]; rfl, Hb0.out⟩
end Go.Proofs.YtlfhgmclnapmjaaDoor
