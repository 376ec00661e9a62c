/- Chapter 4: Open. Conditions: a device that may be; the slot that counts is one of a log of 50 blocks, its numbers fit. -/
import Derived.Test.YtlgfjoicdbjfjaaDoorJrnF
import Derived.Test.YtlgfjoicdbjfjaaDoorJrnH
import Derived.Deep.LoopGhost
namespace Go.Proofs.YtlgfjoicdbjfjaaDoor
open Go.RowKit Go.Wir Go.Blk Go.Frm Go.Jrn

def stepC (cur : Option (Sl × Nat)) (c : Option Sl) (k : Nat) : Option (Sl × Nat) := match c with
  | none => cur
  | some s => match cur with
    | none => some (s, k)
    | some (x, p) => if x.e < s.e then some (s, k) else some (x, p)
def curK (d : Dv) : Nat → Option (Sl × Nat)
  | 0 => none
  | k + 1 => stepC (curK d k) (cand d k) k
theorem curK_two (d : Dv) : curK d 2 = Go.Jrn.choose d := by
  show stepC (stepC none (cand d 0) 0) (cand d 1) 1 = Go.Jrn.choose d
  unfold Go.Jrn.choose
  cases h0 : cand d 0 with
  | none => cases h1 : cand d 1 <;> rfl
  | some a => cases h1 : cand d 1 <;> rfl
def posI : Option (Sl × Nat) → Int
  | none => -1
  | some (_, p) => (p : Int)
def slI : Option (Sl × Nat) → Sl
  | none => ⟨0, 0, 0, 0⟩
  | some (x, _) => x
theorem jcs_slot (g : Nat) (x y : Sl) (pos : Int) (k : Nat) : (((((jcs g y pos 0 0).setIfInBounds 1 (.int .u64 (x.e : Nat))).setIfInBounds 2 (.int .u64 (x.s : Nat))).setIfInBounds 3 (.int .i64 (x.log : Nat))).setIfInBounds 4 (.int .i64 (x.p : Nat))).setIfInBounds 5 (.int .i64 (k : Nat)) = jcs g x (k : Nat) 0 0 := by
  unfold jcs; simp
theorem jcs_next (g : Nat) (x : Sl) (pos : Int) : (jcs g x pos 0 0).setIfInBounds 6 (.int .u64 (x.s : Nat)) = jcs g x pos x.s 0 := by
  unfold jcs; simp
theorem read_256e {d : Dv} (ok : d.Ok) (ha : d.dead = false) (i : Nat) (hi : i < d.disk.length) : (readT d (i : Int)).length = 256 ∧ readE d (i : Int) = 0 := by
  have hin : inD d (i : Int) = true := by unfold inD; rw [decide_eq_true (by omega), decide_eq_true (by omega)]; rfl
  constructor
  · unfold readT
    rw [ha, hin]
    exact lastW_all (P := fun s => s.length = 256) _ _ _ (getD_all (P := fun s => s.length = 256) ok.disk _ (by omega)) (fun p hp => (ok.pend p hp).2)
  · unfold readE; rw [ha, hin]; rfl
theorem frame_room {d : Dv} {j : Jn} {ws : List (Nat × Txt)} (h : frameR d j = some ws) : ws.length + 1 ≤ j.x.log - j.used ∧ ws.length ≤ 48 := by
  unfold frameR at h
  split at h
  · cases h
  · rename_i seq ws' hu
    have hf := unpL_few hu
    split at h
    · simp only [Option.some.injEq] at h
      subst h
      refine ⟨?_, hf⟩
      have hl := readsL_length d j
      cases hr : readsL d j with
      | nil => rw [hr] at hu; simp [unpL] at hu
      | cons x l =>
        rw [hr] at hu hl
        rw [List.length_cons] at hl
        simp only [unpL] at hu
        split at hu
        · cases hu
        · split at hu
          · cases hu
          · split at hu
            · split at hu
              · simp only [Except.ok.injEq, Prod.mk.injEq] at hu
                rw [← hu.2, List.length_zip, List.length_take]; omega
              · cases hu
            · cases hu
    · cases h
theorem frame_fit {d : Dv} {j : Jn} {ws : List (Nat × Txt)} (ok : d.Ok) (h : frameR d j = some ws) : FitW (intW ws) := by
  have hall : ws.all (fun p => homeB j d.disk.length ((p.1 : Nat) : Int)) = true ∧ ∃ seq, unpL (readsL d j) = .ok (seq, ws) := by
    unfold frameR at h
    split at h
    · cases h
    · rename_i seq ws' hu
      split at h
      · rename_i hh
        simp only [Option.some.injEq] at h
        subst h
        exact ⟨hh.2, _, hu⟩
      · cases h
  obtain ⟨ha, seq, hu⟩ := hall
  rw [List.all_eq_true] at ha
  have hn1 := ok.n1
  intro p hp
  obtain ⟨q, hq, rfl⟩ := List.mem_map.1 hp
  have h1 := ha q hq
  unfold homeB at h1
  rw [Bool.and_eq_true, decide_eq_true_eq, decide_eq_true_eq] at h1
  have h2 : q.2.length ≤ 256 := by
    have hr : ∀ s ∈ readsL d j, s.length ≤ 256 := fun s hs => by
      unfold readsL at hs
      obtain ⟨i, _, rfl⟩ := List.mem_map.1 hs
      exact read_256 ok _
    cases hrl : readsL d j with
    | nil => rw [hrl] at hu; simp [unpL] at hu
    | cons x l =>
      rw [hrl] at hu hr
      simp only [unpL] at hu
      split at hu
      · cases hu
      · split at hu
        · cases hu
        · split at hu
          · split at hu
            · simp only [Except.ok.injEq, Prod.mk.injEq] at hu
              rw [← hu.2] at hq
              have := (List.of_mem_zip (a := q.1) (b := q.2) hq).2
              exact hr _ (List.mem_cons_of_mem _ (List.mem_of_mem_take this))
            · cases hu
          · cases hu
  exact ⟨by show -9223372036854775808 ≤ ((q.1 : Nat) : Int); omega, by show ((q.1 : Nat) : Int) ≤ 9223372036854775807; omega, by show q.2.length ≤ 9223372036854775807; omega⟩
/-- What Open tells, and what it leaves. -/
def OpenPost (w0 w : World) (g : Nat) (od : Option Nat) (R : Nat → Prop) (r : Nat × Dv × Option Jn) (e : Ending) (w' : World) : Prop :=
  Keeps R w w' ∧ (if r.1 = 0 then ∃ jb j', r.2.2 = some j' ∧ e = .returned (.tuple #[.pointer (some ⟨jb, 0, none⟩), .int .i64 0]) ∧ LiveJ w0 w' g od r.2.1 jb j' R ∧ w.heap.size ≤ jb
    else e = .returned (.tuple #[.pointer none, .int .i64 (r.1 : Nat)]) ∧ Live w0 w' g od r.2.1 R)
theorem OpenPost.bad {w0 w w' : World} {g : Nat} {od : Option Nat} {R : Nat → Prop} {r : Nat × Dv × Option Jn} {c : Nat} {d : Dv} {o : Option Jn} (hr : r = (c, d, o)) (hc : c ≠ 0) (hk : Keeps R w w') (hl : Live w0 w' g od d R) : OpenPost w0 w g od R r (.returned (.tuple #[.pointer none, .int .i64 (c : Nat)])) w' := by
  subst hr
  exact ⟨hk, by rw [if_neg hc]; exact ⟨rfl, hl⟩⟩
theorem OpenPost.good {w0 w w' : World} {g : Nat} {od : Option Nat} {R : Nat → Prop} {r : Nat × Dv × Option Jn} {d : Dv} {j : Jn} {jb : Nat} (hr : r = (0, d, some j)) (hk : Keeps R w w') (hl : LiveJ w0 w' g od d jb j R) (hb : w.heap.size ≤ jb) : OpenPost w0 w g od R r (.returned (.tuple #[.pointer (some ⟨jb, 0, none⟩), .int .i64 0])) w' := by
  subst hr
  exact ⟨hk, by rw [if_pos rfl]; exact ⟨jb, j, rfl, rfl, hl, hb⟩⟩
section
variable {w0 w w' : World} {g : Nat} {od : Option Nat} {d : Dv} {R : Nat → Prop}
/-- A new block beside the device. -/
theorem LiveC.box (h : Live w0 w g od d R) (cs : Array Value) (T : TypeId) : LiveC w0 (w.alloc (.cells cs T)) g od d w.heap.size T cs R ∧ Keeps R w (w.alloc (.cells cs T)) := by
  have b := step_new (Below.refl w.heap.size w) (.cells cs T)
  have h1 := (h.more b (.slice (some ⟨w.heap.size, 0, none⟩) 0 0) (fun k hk => by simp only [Value.ownBlock, Option.some.injEq] at hk; subst hk; exact ⟨Nat.le_refl _, by simp⟩)).less (R' := fun k => R k ∨ k = w.heap.size) (fun k hk => by
    rcases hk with hk | rfl
    · exact .inl hk
    · exact .inr rfl)
  have hlt : ∀ k, R k → k < w.heap.size := by obtain ⟨op, _, _, h3, _⟩ := h; exact h3
  exact ⟨⟨h1, fun hr => Nat.lt_irrefl _ (hlt _ hr), h.size.size, heap_alloc_new w _⟩, (h.call b).2⟩
set_option maxRecDepth 100000 in
set_option maxHeartbeats 3200000 in
theorem jr_Open {K : Nat} (h : Live w0 w g od d R) (ok : d.Ok) (hn2 : 2 ≤ d.disk.length) (hp : d.pend.length ≤ 200) (hK : K ≤ 800000) (hch : ∀ x p, Go.Jrn.choose d = some (x, p) → JFit K ⟨x, p, x.s, 0⟩) :
    Calls Tryd.prog 23 #[.pointer (some ⟨g, 0, none⟩)] w fun e w' => OpenPost w0 w g od R (openP d) e w' := by
  have H := Lib.hid h
  have Hok := Lib.hid ok
  have hn1 := ok.n1
  have HB := Lib.hid (LiveC.box h (jcs g ⟨0, 0, 0, 0⟩ (-1) 0 0) 65)
  have ev : jcs g ⟨0, 0, 0, 0⟩ (-1) 0 0 = #[.pointer (some ⟨g, 0, none⟩), .int .u64 0, .int .u64 0, .int .i64 0, .int .i64 0, .int .i64 (-1), .int .u64 0, .int .i64 0] := rfl
  have Hch := Lib.hid hch
  clear h ok hch
  go_enter Tryd.func23, Tryd.ntmps23
  go_wp2_with fail
  rw [← ev]
  obtain ⟨b1, k1⟩ := HB.out
  have hjb : w.heap.size ≤ w.heap.size := Nat.le_refl _
  generalize w.alloc (.cells (jcs g ⟨0, 0, 0, 0⟩ (-1) 0 0) 65) = W at *
  generalize hj : w.heap.size = jb at *
  have HJb := Lib.hid hj
  have B1 := Lib.hid b1
  have K1 := Lib.hid k1
  clear hj hjb HB ev
  refine (live_Blocks b1.live).mono ?_
  rintro e w2 ⟨rfl, rfl⟩
  clear b1 k1
  generalize hnn : d.disk.length = n at *
  have Hnn := Lib.hid hnn
  clear hnn
  have hmin : min (2 : Int) (n : Int) = 2 := by omega
  go_wp2
  try rw [hmin]
  clear hmin
  by_cases hdead : d.dead = true
  · have HO : Hid (openP d = (4, d, none)) := Lib.hid (dead_open hdead)
    have HRd := Lib.hid (live_ReadB B1.out.live Hok.out (by omega) 0 (by omega) (by omega))
    have hre : readE d 0 = 4 := by unfold readE; rw [hdead]; rfl
    rw [hre] at HRd
    clear hre hdead
    go_loopw [20] (fun x20 wr => x20 = .int .i64 0 ∧ wr = W) (fun x20 _ => 2 - (intOf x20).toNat)
    case atStart => exact ⟨rfl, rfl⟩
    case round =>
      obtain ⟨rfl, rfl⟩ := hrel
      go_wp2_with fail
      refine HRd.out.mono ?_
      rintro e w3 ⟨rfl, hb3⟩
      obtain ⟨j3, k3⟩ := LiveC.call B1.out hb3
      have L3 := Lib.hid (j3.live.less (R' := R) (fun k hk => .inl hk))
      have K3 := Lib.hid (K1.out.trans k3)
      clear hb3 j3 k3
      go_wp2
      go_ret2
      exact OpenPost.bad (c := 4) HO.out (by omega) K3.out L3.out
  have hal : d.dead = false := by cases hh : d.dead with | true => exact absurd hh hdead | false => rfl
  have Hal := Lib.hid hal
  clear hdead hal
  go_loopw [20] (fun x20 wr => ∃ k : Nat, k ≤ 2 ∧ x20 = .int .i64 k ∧ LiveC w0 wr g od d jb 65 (jcs g (slI (curK d k)) (posI (curK d k)) 0 0) R ∧ Keeps R w wr) (fun x20 _ => 2 - (intOf x20).toNat)
  case atStart => exact ⟨0, by omega, rfl, B1.out, K1.out⟩
  case round =>
    obtain ⟨k, hk, rfl, hlive, hkeep⟩ := hrel
    by_cases hlt : k < 2
    · have hkn : k < d.disk.length := by rw [Hnn.out]; omega
      obtain ⟨h256, hrE⟩ := read_256e Hok.out Hal.out k hkn
      have HRd := Lib.hid (live_ReadB hlive.live Hok.out (by omega) (k : Int) (by omega) (by omega))
      rw [hrE] at HRd
      have Hcand : Hid (cand d k = if okB (readT d (k : Int)) n then some (slotOf (readT d (k : Int))) else none) := Lib.hid (by rw [← Hnn.out]; rfl)
      have Hcur : Hid (curK d (k + 1) = stepC (curK d k) (cand d k) k) := Lib.hid rfl
      have HL := Lib.hid hlive
      have HK := Lib.hid hkeep
      have H256 := Lib.hid h256
      clear hlive hkeep h256 hrE hkn
      generalize readT d (k : Int) = t at *
      go_wp2_with fail
      refine HRd.out.mono ?_
      rintro e w3 ⟨rfl, hb3⟩
      obtain ⟨j3, k3⟩ := LiveC.call HL.out hb3
      have J3 := Lib.hid j3
      have K3 := Lib.hid (HK.out.trans k3)
      have HBl := Lib.hid (live_Blocks j3.live)
      rw [Hnn.out] at HBl
      clear hb3 j3 k3
      go_wp2_with fail
      refine HBl.out.mono ?_
      rintro e w4 ⟨rfl, rfl⟩
      have HTs := Lib.hid (journal_toSlot t n H256.out (by omega) w3)
      go_wp2_with fail
      refine HTs.out.mono ?_
      rintro e w5 ⟨x, rfl, hx, hb5⟩
      obtain ⟨j5, k5⟩ := LiveC.call J3.out (step_new hb5 (.cells #[.int .u64 (x.e : Nat), .int .u64 (x.s : Nat), .int .i64 (x.log : Nat), .int .i64 (x.p : Nat)] 63))
      have s5 := heap_alloc_new w5 (.cells #[.int .u64 (x.e : Nat), .int .u64 (x.s : Nat), .int .i64 (x.log : Nat), .int .i64 (x.p : Nat)] 63)
      have hsz5 : w5.heap.size ≠ jb := fun e => by have := LiveC.jlt J3.out; have := hb5.size; omega
      have Hx := Lib.hid hx
      have K5 := Lib.hid (K3.out.trans k5)
      unfold slV
      go_wp2_with fail
      generalize w5.alloc (.cells #[.int .u64 (x.e : Nat), .int .u64 (x.s : Nat), .int .i64 (x.log : Nat), .int .i64 (x.p : Nat)] 63) = W5 at *
      generalize w5.heap.size = sb at *
      obtain ⟨q0, q1, q2, q3, _, _, _, _⟩ := cells4 s5
      clear hb5 s5 k5 hx
      generalize hcur : curK d k = cur at *
      generalize okB t n = b at *
      cases b with
      | false =>
        have Hnew : Hid (curK d (k + 1) = cur) := Lib.hid (by rw [Hcur.out, Hcand.out]; rfl)
        have J5 := Lib.hid j5
        clear j5 hcur
        go_region
        all_goals
          go_wp2
          go_roundw
          case rel => exact ⟨k + 1, by omega, by go_num, by rw [Hnew.out]; exact (LiveC.call J5.out (below_drew _)).1, K5.out.trans (LiveC.call J5.out (below_drew _)).2⟩
          case measure => simp [intOf]; omega
      | true =>
        have hxs := Hx.out rfl
        have Hc2 : Hid (cand d k = some x) := Lib.hid (by rw [Hcand.out, if_pos rfl, hxs])
        clear hxs
        have e1 := (LiveC.cell j5 1 (.int .u64 ((slI cur).e : Nat)) rfl).1
        have e5 := (LiveC.cell j5 5 (.int .i64 (posI cur)) rfl).1
        have z1 := (LiveC.cell j5 1 (.int .u64 ((slI cur).e : Nat)) rfl)
        have z2 := (LiveC.cell j5 2 (.int .u64 ((slI cur).s : Nat)) rfl)
        have z3 := (LiveC.cell j5 3 (.int .i64 ((slI cur).log : Nat)) rfl)
        have z4 := (LiveC.cell j5 4 (.int .i64 ((slI cur).p : Nat)) rfl)
        have z5 := (LiveC.cell j5 5 (.int .i64 (posI cur)) rfl)
        obtain ⟨_, g1⟩ := z1
        obtain ⟨h2, g2⟩ := z2
        obtain ⟨h3, g3⟩ := z3
        obtain ⟨h4, g4⟩ := z4
        obtain ⟨_, g5⟩ := z5
        have Hfin : Hid (∀ wz : World, wz = ((((((W5.setCell ⟨jb, 1, none⟩ (.int .u64 (x.e : Nat))).setCell ⟨jb, 2, none⟩ (.int .u64 (x.s : Nat))).setCell ⟨jb, 3, none⟩ (.int .i64 (x.log : Nat))).setCell ⟨jb, 4, none⟩ (.int .i64 (x.p : Nat))).setCell ⟨jb, 5, none⟩ (.int .i64 (k : Nat))).drew) → LiveC w0 wz g od d jb 65 (jcs g x (k : Nat) 0 0) R ∧ Keeps R w wz) := Lib.hid (fun wz hz => by
          obtain ⟨u1, v1⟩ := LiveC.set j5 1 (.int .u64 (x.e : Nat))
          obtain ⟨u2, v2⟩ := LiveC.set u1 2 (.int .u64 (x.s : Nat))
          obtain ⟨u3, v3⟩ := LiveC.set u2 3 (.int .i64 (x.log : Nat))
          obtain ⟨u4, v4⟩ := LiveC.set u3 4 (.int .i64 (x.p : Nat))
          obtain ⟨u5, v5⟩ := LiveC.set u4 5 (.int .i64 (k : Nat))
          rw [jcs_slot] at u5
          obtain ⟨u6, v6⟩ := LiveC.call u5 (below_drew _)
          rw [hz]
          exact ⟨u6, (((((K5.out.trans v1).trans v2).trans v3).trans v4).trans v5).trans v6⟩)
        have J5 := Lib.hid j5
        clear j5
        cases cur with
        | none =>
          have Hnew : Hid (curK d (k + 1) = some (x, k)) := Lib.hid (by rw [Hcur.out, Hc2.out]; rfl)
          clear hcur
          simp only [posI, slI] at e1 e5
          go_region
          all_goals
            go_wp2
            go_roundw
            case rel =>
              obtain ⟨r1, r2⟩ := Hfin.out _ rfl
              exact ⟨k + 1, by omega, by go_num, by rw [Hnew.out]; exact r1, r2⟩
            case measure => simp [intOf]; omega
        | some y =>
          obtain ⟨y, p⟩ := y
          simp only [posI, slI] at e1 e5
          by_cases hlt2 : y.e < x.e
          · have Hnew : Hid (curK d (k + 1) = some (x, k)) := Lib.hid (by rw [Hcur.out, Hc2.out]; show (if y.e < x.e then _ else _) = _; rw [if_pos hlt2])
            clear hcur
            go_region
            all_goals
              go_wp2
              go_roundw
              case rel =>
                obtain ⟨r1, r2⟩ := Hfin.out _ rfl
                exact ⟨k + 1, by omega, by go_num, by rw [Hnew.out]; exact r1, r2⟩
              case measure => simp [intOf]; omega
          · have Hnew : Hid (curK d (k + 1) = some (y, p)) := Lib.hid (by rw [Hcur.out, Hc2.out]; show (if y.e < x.e then _ else _) = _; rw [if_neg hlt2])
            clear hcur
            go_region
            all_goals
              go_wp2
              go_roundw
              case rel => exact ⟨k + 1, by omega, by go_num, by rw [Hnew.out]; exact (LiveC.call J5.out (below_drew _)).1, K5.out.trans (LiveC.call J5.out (below_drew _)).2⟩
              case measure => simp [intOf]; omega
    · obtain rfl : k = 2 := by omega
      rw [curK_two] at hlive
      have HK := Lib.hid hkeep
      clear hkeep
      cases hc : Go.Jrn.choose d with
      | none =>
        rw [hc] at hlive
        have HO : Hid (openP d = (10, d, none)) := Lib.hid (by unfold openP; rw [Hal.out, hc]; rfl)
        have e5 := (LiveC.cell hlive 5 (.int .i64 (-1)) rfl).1
        have L := Lib.hid (hlive.live.less (R' := R) (fun k hk => .inl hk))
        clear hlive hc
        go_wp2
        go_ret2
        exact OpenPost.bad (c := 10) HO.out (by omega) HK.out L.out
      | some q =>
        obtain ⟨x, p⟩ := q
        rw [hc] at hlive
        simp only [slI, posI] at hlive
        have Hfit := Lib.hid (Hch.out x p hc)
        have HO : Hid (openP d = (if (replay 60 d ⟨x, p, x.s, 0⟩).1 = 0 then
          (if (ckpt (replay 60 d ⟨x, p, x.s, 0⟩).2.1 (replay 60 d ⟨x, p, x.s, 0⟩).2.2).1 = 0 then (0, (ckpt (replay 60 d ⟨x, p, x.s, 0⟩).2.1 (replay 60 d ⟨x, p, x.s, 0⟩).2.2).2.1, some (ckpt (replay 60 d ⟨x, p, x.s, 0⟩).2.1 (replay 60 d ⟨x, p, x.s, 0⟩).2.2).2.2)
           else ((ckpt (replay 60 d ⟨x, p, x.s, 0⟩).2.1 (replay 60 d ⟨x, p, x.s, 0⟩).2.2).1, (ckpt (replay 60 d ⟨x, p, x.s, 0⟩).2.1 (replay 60 d ⟨x, p, x.s, 0⟩).2.2).2.1, none))
          else ((replay 60 d ⟨x, p, x.s, 0⟩).1, (replay 60 d ⟨x, p, x.s, 0⟩).2.1, none))) := Lib.hid (by unfold openP; rw [Hal.out, hc]; rfl)
        have e5 := (LiveC.cell hlive 5 (.int .i64 (p : Nat)) rfl).1
        have e2 := (LiveC.cell hlive 2 (.int .u64 (x.s : Nat)) rfl).1
        obtain ⟨e6, f6⟩ := LiveC.cell hlive 6 (.int .u64 0) rfl
        obtain ⟨u6, v6⟩ := LiveC.set hlive 6 (.int .u64 (x.s : Nat))
        rw [jcs_next] at u6
        have U6 : Hid (LiveJ w0 (wr.setCell ⟨jb, 6, none⟩ (.int .u64 (x.s : Nat))) g od d jb ⟨x, p, x.s, 0⟩ R) := Lib.hid u6
        have V6 := Lib.hid (HK.out.trans v6)
        clear hlive hc u6 v6
        go_wp2
        generalize wr.setCell ⟨jb, 6, none⟩ (.int .u64 (x.s : Nat)) = wz at *
        generalize hrp : replay 60 d ⟨x, p, x.s, 0⟩ = rp at *
        have Hrp := Lib.hid hrp
        clear hrp e5 e2 e6 f6
        go_loopg [10] 60 (fun gk x10 wq => ∃ (d1 : Dv) (j1 : Jn), rp = replay gk d1 j1 ∧ LiveJ w0 wq g od d1 jb j1 R ∧ Keeps R w wq ∧ d1.Ok ∧ JFit (K + 60) j1 ∧ j1.next ≤ K + j1.used ∧ 60 ≤ gk + j1.used ∧ d1.pend.length + 48 * gk ≤ 3080)
        case atStart =>
          refine ⟨d, ⟨x, p, x.s, 0⟩, Hrp.out.symm, U6.out, V6.out, Hok.out, Hfit.out.mono (by omega), ?_, by omega, by omega⟩
          have := Hfit.out.next
          exact this
        case round =>
          obtain ⟨d1, j1, hrp1, hj1, hk1, hok1, hfit1, hnx1, hgk, hpd1⟩ := hrel
          have hus := hfit1.used
          obtain ⟨gk', rfl⟩ : ∃ q, gk = q + 1 := ⟨gk - 1, by omega⟩
          have HFr := Lib.hid (jr_frame hj1 hok1 hfit1 (by omega) (by omega))
          have HR1 : Hid (rp = match frameR d1 j1 with
            | none => (0, d1, j1)
            | some ws => if (wrs d1 (intW' ws)).1 = 0 then replay gk' (wrs d1 (intW' ws)).2 (advJ j1 ws.length) else ((wrs d1 (intW' ws)).1, (wrs d1 (intW' ws)).2, j1)) := Lib.hid (by rw [hrp1]; rfl)
          have J1 := Lib.hid hj1
          have K1 := Lib.hid hk1
          have Hok1 := Lib.hid hok1
          have Hfit1 := Lib.hid hfit1
          clear hrp1 hj1 hk1 hok1 hfit1
          go_wp2_with fail
          refine HFr.out.mono ?_
          rintro e w3 ⟨hpost, hb3⟩
          obtain ⟨j3, k3⟩ := LiveC.call J1.out hb3
          have J3 := Lib.hid j3
          have K3 := Lib.hid (K1.out.trans k3)
          have Hb3 := Lib.hid hb3
          unfold FramePost at hpost
          clear j3 k3 hb3 HFr
          cases hf : frameR d1 j1 with
          | none =>
            rw [hf] at hpost HR1
            simp only at hpost HR1
            obtain ⟨v3, rfl⟩ := hpost
            have HCk := Lib.hid (jr_Checkpoint J3.out Hok1.out Hfit1.out (by omega) (by omega))
            rw [HR1.out] at HO
            simp only at HO
            clear hf
            generalize hck : ckpt d1 j1 = c at *
            obtain ⟨c1, c2, c3⟩ := c
            simp only at HCk HO
            clear hck
            go_wp2_with fail
            refine HCk.out.mono ?_
            rintro e w4 ⟨rfl, j4, k4⟩
            have J4 := Lib.hid j4
            have K4 := Lib.hid (K3.out.trans k4)
            clear j4 k4
            by_cases hE : c1 = 0
            · have HO2 : Hid (openP d = (0, c2, some c3)) := Lib.hid (by rw [HO.out, if_pos trivial, if_pos hE])
              have hq : ((c1 : Int) != 0) = false := by rw [hE]; rfl
              clear hE
              go_wp2
              go_ret2
              exact OpenPost.good HO2.out K4.out J4.out (Nat.le_of_eq HJb.out)
            · have HO2 : Hid (openP d = (c1, c2, none)) := Lib.hid (by rw [HO.out, if_pos trivial, if_neg hE])
              have hq : ((c1 : Int) != 0) = true := by rw [bne_iff_ne]; omega
              have L4 := Lib.hid (J4.out.live.less (R' := R) (fun k hk => .inl hk))
              have HE := Lib.hid hE
              clear hE
              go_wp2
              go_ret2
              exact OpenPost.bad HO2.out HE.out K4.out L4.out
          | some ws =>
            rw [hf] at hpost HR1
            simp only at hpost HR1
            obtain ⟨v3, rfl, hown3⟩ := hpost
            obtain ⟨hroom, h48⟩ := frame_room hf
            have hlg := Hfit1.out.log
            have HfW := Lib.hid (frame_fit Hok1.out hf)
            have j4 := LiveC.more J1.out Hb3.out v3 (fun k hk => own_some hown3 k hk)
            have HWr := Lib.hid (jr_writes j4.live Hok1.out v3 (intW ws) (own_wrs hown3) (fun k hk => .inl (.inr hk)) HfW.out (by rw [intW_length]; omega))
            have Hwo := Lib.hid (wrs_ok (intW ws) d1 Hok1.out)
            have hii : intW' ws = intW ws := rfl
            rw [hii] at HR1
            obtain ⟨oa, cap, hv3⟩ := own_form hown3
            subst hv3
            have J4 := Lib.hid j4
            have hul : j1.used + (ws.length + 1) ≤ 50 := by omega
            have hfit2 : JFit (K + 60) (advJ j1 ws.length) := ⟨Hfit1.out.log, Hfit1.out.pl, hul, Hfit1.out.pos, by show j1.next + 1 ≤ K + 60; omega, Hfit1.out.e⟩
            have Hfit2 := Lib.hid hfit2
            clear hf j4 hown3 hii hfit2 hlg
            generalize wrs d1 (intW ws) = r at *
            obtain ⟨r1, d2⟩ := r
            simp only at HWr Hwo HR1
            have hpd2 : d2.pend.length + 48 * gk' ≤ 3080 := by have := Hwo.out.2.1; rw [intW_length] at this; omega
            go_wp2_with fail
            refine HWr.out.mono ?_
            rintro e w4 ⟨rfl, l4, k4⟩
            obtain ⟨j5, k5⟩ := LiveC.dev J4.out l4 k4
            have J5 := Lib.hid (LiveC.less j5 (R' := R) (fun k hk => .inl hk))
            have K5 := Lib.hid (K3.out.trans (k5.less (R' := R) (fun k hk => .inl hk)))
            clear l4 k4 j5 k5
            by_cases hE : r1 = 0
            · have HR2 : Hid (rp = replay gk' d2 (advJ j1 ws.length)) := Lib.hid (by rw [HR1.out, if_pos hE])
              have hq : ((r1 : Int) != 0) = false := by rw [hE]; rfl
              have HAd := Lib.hid (jr_advance J5.out Hfit1.out (by omega) ws.length (by omega))
              clear hE
              go_wp2_with fail
              refine HAd.out.mono ?_
              rintro e w5 ⟨rfl, j6, k6⟩
              have J6 := Lib.hid j6
              have K6 := Lib.hid (K5.out.trans k6)
              clear j6 k6
              go_wp2
              go_roundg gk'
              case rel => exact ⟨d2, advJ j1 ws.length, HR2.out, J6.out, K6.out, Hwo.out.1, Hfit2.out, by show j1.next + 1 ≤ K + (j1.used + (ws.length + 1)); omega, by show 60 ≤ gk' + (j1.used + (ws.length + 1)); omega, hpd2⟩
              case measure => omega
            · have HR2 : Hid (rp = (r1, d2, j1)) := Lib.hid (by rw [HR1.out, if_neg hE])
              have HO2 : Hid (openP d = (r1, d2, none)) := Lib.hid (by rw [HO.out, HR2.out]; simp only; rw [if_neg hE])
              have hq : ((r1 : Int) != 0) = true := by rw [bne_iff_ne]; omega
              have L5 := Lib.hid (J5.out.live.less (R' := R) (fun k hk => .inl hk))
              have HE := Lib.hid hE
              clear hE
              go_wp2
              go_ret2
              exact OpenPost.bad HO2.out HE.out K5.out L5.out
end
end Go.Proofs.YtlgfjoicdbjfjaaDoor
