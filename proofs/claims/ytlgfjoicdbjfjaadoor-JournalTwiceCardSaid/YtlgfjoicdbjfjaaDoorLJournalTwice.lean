/- The law JournalTwice returns true for every acts. Condition: numbers and lengths fit an int. -/
import Derived.Test.YtlgfjoicdbjfjaaDoorJrnZ
namespace Go.Jrn
open Go.Wir Go.Blk Go.Frm

theorem St.mono {K K' : Nat} {d : Dv} {j : Jn} (h : St K d j) (hK : K ≤ K') : St K' d j := by
  obtain ⟨hf, hs⟩ := h
  refine ⟨hf.mono hK, ?_⟩
  rcases hs with ⟨m, fs, hs⟩ | hs
  · exact .inl ⟨m, fs, hs.mono hK⟩
  · exact .inr (hs.mono hK (fun _ h => h))
/-- Opened twice behind a crash. -/
theorem St.twice {K : Nat} {d : Dv} {j : Jn} (h : St K d j) (hK : K ≤ 700000) : ∃ d1 j1 d2 j2, openP (crashD d [] (-1) 0) = (0, d1, some j1) ∧ (crashD d [] (-1) 0).Ok ∧ (crashD d [] (-1) 0).disk.length = 70 ∧ (∀ y p, Go.Jrn.choose (crashD d [] (-1) 0) = some (y, p) → JFit K ⟨y, p, y.s, 0⟩) ∧
    d1.Ok ∧ d1.pend = [] ∧ d1.disk.length = 70 ∧ (∀ y p, Go.Jrn.choose d1 = some (y, p) → JFit (K + 1) ⟨y, p, y.s, 0⟩) ∧ openP d1 = (0, d2, some j2) ∧ d2.Ok ∧ d2.pend = [] ∧ homeL d2 = homeL d1 ∧ j2.next = j1.next ∧ j1.used = 0 ∧ j2.used = 0 := by
  obtain ⟨m, x, pos, fs, hI⟩ := h.crash [] (-1) 0
  obtain ⟨d1, j1, m1, e1, r1, p1, f1⟩ := h.reopen (by omega) [] (-1) 0
  rcases open_spec r1.inv (by omega) r1.ok r1.alive p1 with ⟨d2, j2, e2, r2, p2, n2, _⟩ | ⟨_, _, _, hbad⟩
  · exact ⟨d1, j1, d2, j2, e1, crash_ok h.ok.1 _ _ _, hI.len, inv_choose hI (by omega) rfl rfl, r1.ok, p1, r1.inv.len, inv_choose r1.inv (by omega) r1.alive p1, e2, r2.ok, p2, by rw [r2.toUp.homeL, r1.toUp.homeL], by rw [n2, r1.next], r1.used, r2.used⟩
  · exact absurd f1 hbad
end Go.Jrn
namespace Go.Proofs.YtlgfjoicdbjfjaaDoor
open Go.RowKit Go.Wir Go.Blk Go.Frm Go.Jrn
section
variable {w0 w w' : World} {g : Nat} {od : Option Nat} {d d' : Dv} {jb ja : Nat} {j j' : Jn} {wb : Nat} {R : Nat → Prop} {T T' : TypeId} {cs cs' : Array Value}
/-- Another block that is kept, in the place of the one beside the device. -/
theorem LiveC.swap (h : LiveC w0 w g od d jb T cs R) (hr : R ja) (hlo : w0.heap.size ≤ ja) (hb : w.heap[ja]? = some (.cells cs' T' (0, 0))) : LiveC w0 w g od d ja T' cs' (fun k => (R k ∧ k ≠ ja) ∨ k = jb) :=
  ⟨h.live.less (fun k hk => by
    rcases hk with (hk | hk) | hk
    · exact .inl hk.1
    · exact .inr hk
    · exact .inl (hk ▸ hr)), fun hk => by
    rcases hk with hk | hk
    · exact hk.2 rfl
    · exact h.nr (hk ▸ hr), hlo, hb⟩
/-- The law's pair beside a journal that was opened anew. -/
theorem LiveW.opened (h : LiveW w0 w g od d jb j wb R) (k : Keeps (fun k => (R k ∨ k = wb) ∨ k = jb) w w') (lj : LiveJ w0 w' g od d' ja j' (fun k => (R k ∨ k = wb) ∨ k = jb)) : LiveW w0 w' g od d' jb j wb (fun k => R k ∨ k = ja) := by
  have hnr := lj.nr
  have hs := lj.live
  refine ⟨⟨hs.less (fun k hk => ?_), fun hk => ?_, h.jr.lo, (k jb (.inr rfl)).trans h.jr.blk⟩, fun hk => ?_, h.lo, (k wb (.inl (.inr rfl))).trans h.blk⟩
  · rcases hk with ((hk | hk) | hk) | hk
    · exact .inl (.inl (.inl hk))
    · exact .inr hk
    · exact .inl (.inl (.inr hk))
    · exact .inl (.inr hk)
  · rcases hk with (hk | hk) | hk
    · exact h.jr.nr (.inl hk)
    · exact hnr (.inr hk.symm)
    · exact h.jr.nr (.inr hk)
  · rcases hk with hk | hk
    · exact h.nr hk
    · exact hnr (.inl (.inr hk.symm))
end
set_option maxRecDepth 100000 in
set_option maxHeartbeats 6400000 in
theorem core_JournalTwice (v : Value) (l : List Act4) (w : World) (h : Acts4 w v l) (hl : l.length ≤ 9223372036854775807) (hf : ∀ a ∈ l, Fit4 a) :
    Calls Tryd.prog 6 #[v] w fun e w' => e = .returned (.bool true) ∧ Below w.heap.size w w' := by
  have Hsh := Lib.hid (law_shown4 w)
  have H := Lib.hid h
  have Hf := Lib.hid hf
  obtain ⟨oa, c, rfl⟩ := h.form
  clear h hf
  have Hsm := Lib.hid (fun w' (b : Below w.heap.size w w') => law_small4 _ l w' (H.out.below b) hl Hf.out)
  cases hsm : smallB4 l with
  | false =>
    rw [hsm] at Hsm
    clear hsm
    go_enter Tryd.func6, Tryd.ntmps6
    go_wp2_with fail
    refine Hsh.out.mono ?_
    rintro e w1 ⟨rfl, hb⟩
    have HB := Lib.hid hb
    clear hb
    go_wp2_with fail
    refine (Hsm.out _ HB.out).mono ?_
    rintro e w2 ⟨rfl, rfl⟩
    go_wp2
    go_ret
    exact ⟨rfl, HB.out⟩
  | true =>
    obtain ⟨hl30, hok⟩ := small_ok4 hsm Hf.out
    rw [hsm] at Hsm
    have Hok := Lib.hid hok
    clear hsm hok
    go_enter Tryd.func6, Tryd.ntmps6
    go_wp2_with fail
    refine Hsh.out.mono ?_
    rintro e w1 ⟨rfl, hb⟩
    have HB := Lib.hid hb
    have HBg := Lib.hid (law_begin w w1 hb)
    clear hb
    go_wp2_with fail
    refine (Hsm.out _ HB.out).mono ?_
    rintro e w2 ⟨rfl, rfl⟩
    go_wp2_with fail
    refine HBg.out.mono ?_
    rintro e w3 ⟨g, od, d0, jb0, j0, wb, rfl, lw3, hrd, hfu, hpd⟩
    have L3 := Lib.hid lw3
    have W3 := Lib.hid (⟨hrd.toUp.fit, .inl ⟨_, [], hrd⟩⟩ : St 2 d0 j0)
    clear lw3 hrd hfu hpd HBg Hsm HB
    go_wp2
    go_loopw [7] (fun i wr => ∃ k : Nat, k ≤ l.length ∧ i = .int .i64 k ∧ ∃ d jb j, St (2 + 2 * k) d j ∧ LiveW w wr g od d jb j wb noneR) (fun i _ => l.length - (intOf i).toNat)
    case atStart => exact ⟨0, by omega, rfl, d0, jb0, j0, W3.out, L3.out⟩
    case round =>
      obtain ⟨k, hk, rfl, d, jb, j, hS, hL⟩ := hrel
      have W4 := Lib.hid hS
      have L4 := Lib.hid hL
      obtain ⟨c0, c1, _⟩ := hL.cells
      clear hS
      by_cases hlt : k < l.length
      · obtain ⟨b, off, cap, hv, hb, hcell⟩ := H.out.row (by omega)
        simp only [Value.slice.injEq] at hv
        obtain ⟨rfl, _, rfl⟩ := hv
        have hat := hcell k hlt
        obtain ⟨vk0, vb0, _, _, _, e3', _, _, hr0, _⟩ := hat
        obtain ⟨vk, vb, e0, e1, e2, e3, e4, e5, hr, hr2⟩ := ActAt4.below (hcell k hlt) hL.size
        have hvk : vk = vk0 := by
          have h1 := cell_call hL.size e3'
          rw [e3] at h1
          exact Option.some.inj h1
        subst hvk
        have hold : 0 < l[k].keep.length → ∀ q, vk.ownBlock = some q → q < w.heap.size := fun h0 q hq => by
          rcases hr0 with ⟨_, _, _, hn⟩ | ⟨b1, off1, cap1, rfl, _, hb1, _⟩
          · have := congrArg List.length hn
            simp at this
            rw [this] at h0
            simp at h0
          · simp only [Value.ownBlock, Option.some.injEq] at hq
            omega
        have ha := Hok.out l[k] (List.getElem_mem hlt)
        have HDo := Lib.hid (w_does hL W4.out (by omega) l[k] ha vk vb hr hr2 hold)
        have hk1 : (k : Int) < (l.length : Int) := by omega
        have Hst := Lib.hid (W4.out.does (by omega) l[k])
        clear hcell hr hr2 hr0 e3' ha hL hold
        generalize doesJ d j l[k] = r at *
        obtain ⟨re, d', j'⟩ := r
        go_wp2_with fail
        refine HDo.out.mono ?_
        rintro e w5 ⟨jb', rfl, l5⟩
        have L5 := Lib.hid l5
        clear l5
        go_wp2
        go_roundw
        case rel => exact ⟨k + 1, by omega, by go_num, d', jb', j', Hst.out.mono (by omega), L5.out⟩
        case measure => simp [intOf]; omega
      · obtain rfl : k = l.length := by omega
        obtain ⟨d1, j1, d2, j2, q1, q2, q3, q4, q5, q6, q7, q8, q9, q10, q11, q12, q13, q14, q15⟩ := W4.out.twice (by omega)
        obtain ⟨hok, hdl, hpe⟩ := W4.out.ok
        have HCr := Lib.hid (live_Crash hL.jr.live hok (by omega) (.slice none 0 0) [] (-1) 0 (.inl ⟨none, 0, rfl, rfl⟩) (fun h0 => by simp at h0) (by simp))
        have Q1 := Lib.hid q1
        have Q2 := Lib.hid q2
        have Q3 := Lib.hid q3
        have Q4 := Lib.hid q4
        have Q5 := Lib.hid q5
        have Q6 := Lib.hid q6
        have Q7 := Lib.hid q7
        have Q8 := Lib.hid q8
        have Q9 := Lib.hid q9
        have Q10 := Lib.hid q10
        have Q11 := Lib.hid q11
        have Q12 := Lib.hid q12
        have Q13 := Lib.hid q13
        have Q14 := Lib.hid q14
        have Q15 := Lib.hid q15
        have Hcp : Hid ((crashD d [] (-1) 0).pend.length ≤ 200) := Lib.hid (Nat.zero_le _)
        clear q1 q2 q3 q4 q5 q6 q7 q8 q9 q10 q11 q12 q13 q14 q15 hL hok hdl hpe
        generalize crashD d [] (-1) 0 = dc at *
        go_wp2_with fail
        refine HCr.out.mono ?_
        rintro e w5 ⟨rfl, l5, k5⟩
        have L5 := (LiveW.dev L4.out l5 k5).1
        obtain ⟨i0, i1, _⟩ := L5.cells
        have HOp := Lib.hid (jr_Open l5 Q2.out (by rw [Q3.out]; omega) Hcp.out (by omega) Q4.out)
        rw [Q1.out] at HOp
        have HL5 := Lib.hid L5
        clear l5 k5 L5
        go_wp2_with fail
        refine HOp.out.mono ?_
        rintro e w6 ⟨k6, hpost⟩
        rw [if_pos rfl] at hpost
        obtain ⟨ja, jx, hjx, rfl, lj6, _⟩ := hpost
        simp only [Option.some.injEq] at hjx
        subst hjx
        have L6 := HL5.out.opened k6 lj6
        have HHm := Lib.hid (law_home L6 Q5.out (by rw [Q6.out]; exact Nat.zero_le _))
        have Jlo := Lib.hid lj6.lo
        have Jb6 := Lib.hid lj6.blk
        have HL6 := Lib.hid L6
        clear k6 lj6 L6
        go_wp2_with fail
        refine HHm.out.mono ?_
        rintro e w7 ⟨vh, rfl, own7, b7⟩
        obtain ⟨ah, ch, rfl⟩ := own_form own7
        have L7 := HL6.out.more b7 (.slice ah 18 ch) (fun k hk => own7.lt k hk)
        have hlt6 : ja < w6.heap.size := HL6.out.rlt ja (.inr rfl)
        have jb7 := (b7.block ja hlt6).trans Jb6.out
        have Own7 := Lib.hid own7
        have HL7 := Lib.hid L7
        have Jb7 := Lib.hid jb7
        have HSq := Lib.hid (jr_Seq (LiveC.swap L7.jr (.inl (.inl (.inr rfl))) Jlo.out jb7))
        obtain ⟨i0, i1, _⟩ := L7.cells
        have HOp2 := Lib.hid (jr_Open L7.jr.live Q5.out (by rw [Q7.out]; omega) (by rw [Q6.out]; exact Nat.zero_le _) (by omega) Q8.out)
        rw [Q9.out] at HOp2
        clear own7 b7 L7 jb7
        go_wp2_with (first
          | (go_at_call 11; refine HSq.out.mono ?_; rintro e wq ⟨rfl, rfl⟩)
          | fail)
        refine HOp2.out.mono ?_
        rintro e w8 ⟨k8, hpost⟩
        rw [if_pos rfl] at hpost
        obtain ⟨jc, jx, hjx, rfl, lj8, _⟩ := hpost
        simp only [Option.some.injEq] at hjx
        subst hjx
        have L8 := HL7.out.opened k8 lj8
        have own8 := own_keeps Own7.out (fun k hk => .inl (.inl (.inr hk))) k8
        have jb8 := (k8 ja (.inl (.inl (.inl (.inr rfl))))).trans Jb7.out
        have HHm2 := Lib.hid (law_home L8 Q10.out (by rw [Q11.out]; exact Nat.zero_le _))
        rw [Q12.out] at HHm2
        have Own8 := Lib.hid own8
        have HL8 := Lib.hid L8
        have Jb8 := Lib.hid jb8
        have Lj8 := Lib.hid lj8
        clear k8 lj8 L8 own8 jb8
        have Hm18 := Lib.hid (homeL_length d1)
        generalize homeL d1 = hm at *
        have HST : Hid (∀ (wz : World) (b1 b2 : Nat) (va vb : Value), wz.ownsRow b1 9 1 va 18 (txtCells hm) → wz.ownsRow b2 9 1 vb 18 (txtCells hm) → Calls Tryd.prog 18 #[va, vb] wz fun e w' => e = .returned (.bool true) ∧ Below wz.heap.size wz w') := Lib.hid (fun wz b1 b2 va vb h1 h2 => by
          have h3 := law_sameTexts4 va vb hm hm (by rw [Hm18.out]; omega) (by rw [Hm18.out]; omega) wz (own_row (by rw [Hm18.out]; exact h1)) (own_row (by rw [Hm18.out]; exact h2))
          rwa [decide_eq_true rfl] at h3)
        go_wp2_with (first
          | (go_at_call 16; refine HHm2.out.mono ?_; rintro e w9 ⟨vh2, rfl, own9, b9⟩; obtain ⟨ah2, ch2, rfl⟩ := own_form own9; have HS := Lib.hid (HST.out w9 _ _ _ _ own9 (own_kept Own8.out b9)); have B9 := Lib.hid b9; clear own9 b9)
          | fail)
        refine HS.out.mono ?_
        rintro e w10 ⟨rfl, b10⟩
        have Lj10 := Lib.hid (LiveC.call Lj8.out (step_call B9.out b10)).1
        have jb10 := ((step_call B9.out b10).block ja (HL8.out.rlt ja (.inl (.inl (.inr rfl))))).trans Jb8.out
        have HSq3 := Lib.hid (jr_Seq Lj10.out)
        have HUs3 := Lib.hid (jr_Used Lj10.out)
        have HUs4 := Lib.hid (jr_Used (LiveC.swap Lj10.out (.inl (.inl (.inl (.inr rfl)))) Jlo.out jb10))
        have Hsz := Lib.hid (LiveC.size Lj10.out)
        rw [Q13.out] at HSq3
        rw [Q15.out] at HUs3
        rw [Q14.out] at HUs4
        clear b10 jb10
        have e9 : ((j1.next : Int) == (j1.next : Int)) = true := by simp
        go_wp2_with (first
          | (go_at_call 11; refine HSq3.out.mono ?_; rintro e wq ⟨rfl, rfl⟩)
          | (go_at_call 12; refine HUs3.out.mono ?_; rintro e wq ⟨rfl, rfl⟩)
          | (go_at_call 12; refine HUs4.out.mono ?_; rintro e wq ⟨rfl, rfl⟩)
          | fail)
        go_ret
        exact ⟨rfl, Hsz.out⟩
theorem walk_JournalTwice (v : Value) (l : List Act4) (w : World) (h : Acts4 w v l) (hf : ∀ a ∈ l, Fit4 a) (hl : l.length ≤ maxLen) :
    Calls Tryd.prog 6 #[v] w fun e w' => e = .returned (.bool true) ∧ Below w.heap.size w w' :=
  core_JournalTwice v l w h (by unfold maxLen at hl; omega) hf
end Go.Proofs.YtlgfjoicdbjfjaaDoor
