/- Chapter 4's law: begin, fine. No conditions. Chapter 4's examples (the law's head): they hold. No conditions. Chapter 4's law: shown. No conditions. -/
import Derived.Test.YtlgfjoicdbjfjaaDoorJrnN
import Derived.Test.YtlgfjoicdbjfjaaDoorJrnJ
namespace Go.Proofs.YtlgfjoicdbjfjaaDoor
open Go.RowKit Go.Wir Go.Blk Go.Frm Go.Jrn

theorem set2J {w : World} {g : Nat} {x0 x1 : Value} {ty : TypeId} (v0 v1 : Value) (h : w.heap[g]? = some (.cells #[x0, x1] ty (0, 0))) : ((w.setCell ⟨g, 0, none⟩ v0).setCell ⟨g, 1, none⟩ v1).heap[g]? = some (.cells #[v0, v1] ty (0, 0)) := by simp [World.setCell, Array.getElem?_modify, h]
set_option maxRecDepth 100000 in
set_option maxHeartbeats 1600000 in
theorem law_begin (w0 w : World) (hw : Below w0.heap.size w0 w) : Calls Tryd.prog 10 #[] w fun e w' => ∃ g od d jb j wb, e = .returned (.tuple #[.pointer (some ⟨wb, 0, none⟩), .bool true]) ∧ LiveW w0 w' g od d jb j wb noneR ∧ Ready 70 (fun _ => zeros) 2 d j [] ∧ d.fuse = -1 ∧ d.pend = [] := by
  obtain ⟨d1, d', j', hf, ho, hrd, hpd, hfu, hok1, hl1, hp1, hch⟩ := begin_plain
  have HRd := Lib.hid hrd
  have HNw := Lib.hid (live_New (w0 := w0) (w := w) 70 (by omega) (by omega) hw)
  have Hok0 := Lib.hid (newD_ok 70 (by omega) (by omega))
  have Hf := Lib.hid hf
  have Ho := Lib.hid ho
  have Hpd := Lib.hid hpd
  have Hfu := Lib.hid hfu
  have Hok1 := Lib.hid hok1
  have Hl1 := Lib.hid hl1
  have Hp1 := Lib.hid hp1
  have Hch := Lib.hid hch
  have Hz0 : Hid ((newD 70).pend.length ≤ 5000) := Lib.hid (by simp [newD])
  clear hf ho hrd hpd hfu hok1 hl1 hp1 hch
  generalize newD 70 = d0 at *
  go_enter Tryd.func10, Tryd.ntmps10
  go_wp2_with fail
  refine HNw.out.mono ?_
  rintro e w1 ⟨g, od, rfl, l1⟩
  have L1 := Lib.hid l1
  have HFm := Lib.hid (jr_Format l1 Hok0.out 50 (by omega) Hz0.out)
  rw [Hf.out] at HFm
  simp only at HFm
  clear l1
  go_wp2_with fail
  refine HFm.out.mono ?_
  rintro e w2 ⟨rfl, l2, _⟩
  have HOp := Lib.hid (jr_Open (K := 1) l2 Hok1.out (by rw [Hl1.out]; omega) (by rw [Hp1.out]; exact Nat.zero_le _) (by omega) Hch.out)
  rw [Ho.out] at HOp
  clear l2
  go_wp2_with fail
  refine HOp.out.mono ?_
  rintro e w3 ⟨_, hpost⟩
  rw [if_pos rfl] at hpost
  obtain ⟨jb, j2, hj2, rfl, lj, _⟩ := hpost
  simp only [Option.some.injEq] at hj2
  subst hj2
  have b3 := step_new (Below.refl w3.heap.size w3) (.cells #[.pointer (some ⟨g, 0, none⟩), .pointer (some ⟨jb, 0, none⟩)] 32)
  have l4 := LiveC.more lj b3 (.slice (some ⟨w3.heap.size, 0, none⟩) 0 0) (fun k hk => by simp only [Value.ownBlock, Option.some.injEq] at hk; subst hk; exact ⟨Nat.le_refl _, by simp⟩)
  have hsz := lj.size.size
  have LW : Hid (LiveW w0 (w3.alloc (.cells #[.pointer (some ⟨g, 0, none⟩), .pointer (some ⟨jb, 0, none⟩)] 32)) g od d' jb j' w3.heap.size noneR) :=
    Lib.hid ⟨LiveC.less l4 (fun k hk => by
      rcases hk with hk | rfl
      · exact .inl hk
      · exact .inr rfl), fun h => h, hsz, heap_alloc_new w3 _⟩
  clear b3 l4 lj hsz
  go_wp2
  go_ret2
  exact ⟨g, od, d', jb, j', w3.heap.size, rfl, LW.out, HRd.out, Hfu.out, Hpd.out⟩
set_option maxRecDepth 100000 in
theorem law_fine (n : Int) (s : Txt) (h1 : -9223372036854775808 ≤ n) (h2 : n ≤ 9223372036854775807) (hs : s.length ≤ 100000) (w : World) :
    Calls Tryd.prog 17 #[.int .i64 n, .string (B s)] w fun e w' => e = .returned (.agg #[.int .i64 ((52 + pickJ n 18 : Nat) : Int), .string (B (dataJ s))]) ∧ Below w.heap.size w w' := by
  have hpk := pickN_lt n 18 (by omega)
  have HPk := Lib.hid (fun w => law_pick n 18 h1 h2 (by omega) (by omega) w)
  have HD := Lib.hid (fun w => law_data4 s (by omega) w)
  have hpe : pickJ n 18 = pickN n 18 := rfl
  rw [hpe]
  clear hpe
  generalize pickN n 18 = pk at *
  go_enter Tryd.func17, Tryd.ntmps17
  go_wp2_with fail
  refine (HPk.out _).mono ?_
  rintro e w2 ⟨rfl, rfl⟩
  have g0 := heap_alloc_new w (.cells #[.int .i64 0, .string ⟨#[]⟩] 47)
  have b0 := step_new (Below.refl w.heap.size w) (.cells #[.int .i64 0, .string ⟨#[]⟩] 47)
  have hz0 : w.heap.size < (w.alloc (.cells #[.int .i64 0, .string ⟨#[]⟩] 47)).heap.size := by simp
  go_wp2_with fail
  generalize w.alloc (.cells #[.int .i64 0, .string ⟨#[]⟩] 47) = W at *
  refine (HD.out _).mono ?_
  rintro e w3 ⟨rfl, hb3⟩
  have g3 := (hb3.block w.heap.size hz0).trans g0
  obtain ⟨c0, c1, f0, f1⟩ := cells2 g3
  have Hb3 := Lib.hid (b0.trans (hb3.mono b0.size))
  have G3 := Lib.hid g3
  clear g0 b0 hb3 g3
  go_wp2
  refine bodyPost_ret_by (results_cell_row rfl _ _ w.heap.size _ _ _ _ (by rfl) (set2J _ _ G3.out) Tryd.underlying47 rfl (by kernel_rfl)) rfl ⟨?_, ?_⟩
  · simp
  · exact below_set (below_set Hb3.out _ _ _ (Nat.le_refl _)) _ _ _ (Nat.le_refl _)
end Go.Proofs.YtlgfjoicdbjfjaaDoor
namespace Go.Proofs.YtlgfjoicdbjfjaaDoor
open Go.RowKit Go.Wir Go.Blk Go.Frm Go.Jrn

theorem fullT_length (c : UInt8) : (fullT c).length = 256 := List.length_replicate ..
theorem open_none : openP (newD 60) = (10, newD 60, none) ∧ Go.Jrn.choose (newD 60) = none := by
  have hz : ∀ b, b < 60 → readT (newD 60) ((b : Nat) : Int) = zeros := fun b hb => by
    have hin : inD (newD 60) ((b : Nat) : Int) = true := by unfold inD; rw [decide_eq_true (by omega), decide_eq_true (by simp [newD]; omega)]; rfl
    unfold readT
    rw [hin, Int.toNat_natCast]
    show (newD 60).disk.getD b [] = zeros
    simp only [newD, List.getD_eq_getElem?_getD]
    rw [List.getElem?_replicate, if_pos hb]; rfl
  have h0 : cand (newD 60) 0 = none := by unfold cand; rw [hz 0 (by omega), okB_zeros]; rfl
  have h1 : cand (newD 60) 1 = none := by unfold cand; rw [hz 1 (by omega), okB_zeros]; rfl
  have hc : Go.Jrn.choose (newD 60) = none := by unfold Go.Jrn.choose; rw [h0, h1]
  refine ⟨?_, hc⟩
  unfold openP
  rw [hc]; rfl
def shW : List Wr := [(53, fullT 97), (59, fullT 98)]
theorem shW_good : GoodW 60 shW := by
  refine ⟨by simp [shW], by simp [shW], fun p hp => ?_⟩
  simp only [shW, List.mem_cons, List.not_mem_nil, or_false] at hp
  rcases hp with rfl | rfl
  · exact ⟨by decide, by decide, fullT_length _⟩
  · exact ⟨by decide, by decide, fullT_length _⟩
/-- The examples, in plain words. -/
theorem shown_plain : ∃ d1 d2 j2 d3 j3, formE (newD 60) 58 = (2, newD 60) ∧ formE (newD 60) 50 = (0, d1) ∧ d1.Ok ∧ d1.disk.length = 60 ∧ d1.pend = [] ∧ (∀ x p, Go.Jrn.choose d1 = some (x, p) → JFit 1 ⟨x, p, x.s, 0⟩) ∧
    openP d1 = (0, d2, some j2) ∧ d2.Ok ∧ d2.pend.length ≤ 50 ∧ JFit 2 j2 ∧ j2.next = 1 ∧ j2.used = 0 ∧ commit d2 j2 shW = (0, d3, j3) ∧ d3.Ok ∧ d3.pend.length ≤ 50 ∧ JFit 4 j3 ∧ j3.next = 2 ∧ j3.used = 3 ∧ readT d3 53 = fullT 97 ∧ readE d3 53 = 0 ∧ commit d3 j3 [(51, fullT 97)] = (2, d3, j3) := by
  obtain ⟨d1, h1, h2, h3, h4, h5, hI⟩ := form_spec 60 (by omega) (by omega)
  have hch := choose_spec hI (by omega) h3 h4
  rcases open_spec hI (by omega) h2 h3 h4 with ⟨d2, j2, ho, hr, hp2, hnx, hf2⟩ | ⟨_, _, _, hbad⟩
  rotate_left
  · exact absurd h5 hbad
  have hcm := hr.commit (l := shW) (by omega)
  rcases hcm with ⟨_, _, hng⟩ | ⟨_, ⟨fs', c1, c2, c3, c4, _⟩ | ⟨_, _, hfu⟩⟩
  · exact absurd shW_good hng
  · have hu : j2.used = 0 := hr.used
    have hlen3 := c2.inv.len
    have hin : inD (commit d2 j2 shW).2.1 53 = true := by unfold inD; rw [decide_eq_true (by omega), decide_eq_true (by omega)]; rfl
    refine ⟨d1, d2, j2, (commit d2 j2 shW).2.1, (commit d2 j2 shW).2.2, ?_, h1, h2, hI.len, h4, ?_, ho, hr.ok, by rw [hp2]; exact Nat.zero_le _, hr.toUp.fit, by rw [hnx]; rfl, hu, ?_, c2.ok, c2.few, c2.toUp.fit, by rw [c3, hnx]; rfl, ?_, ?_, ?_, ?_⟩
    · unfold formE; rw [if_neg (by simp [newD])]
    · intro x p hx
      rw [hch] at hx
      simp only [Option.some.injEq, Prod.mk.injEq] at hx
      obtain ⟨rfl, rfl⟩ := hx
      exact ⟨rfl, by simp, by simp, by simp, by simp, by simp⟩
    · rw [← c1]
    · rcases c4 with c4 | c4 <;> rw [c4]
      · rw [hu]; rfl
      · rfl
    · unfold readT
      rw [c2.alive, hin]
      have := c2.now 53 (by omega) (by omega)
      show lastW (commit d2 j2 shW).2.1.pend 53 ((commit d2 j2 shW).2.1.disk.getD 53 []) = _
      rw [this]; rfl
    · unfold readE; rw [c2.alive, hin]; rfl
    · have hck : checkE (commit d2 j2 shW).2.2 (commit d2 j2 shW).2.1.disk.length [(51, fullT 97)] = 2 := by
        unfold checkE
        rw [if_neg (by simp)]
        unfold badH homeB
        rw [c2.inv.log]; rfl
      unfold commit at hck ⊢
      rw [hck]; rfl
  · exact absurd (hf2 h5) hfu
section
variable {w0 w w' : World} {g : Nat} {od : Option Nat} {d : Dv} {R : Nat → Prop}
theorem Live.range (h : Live w0 w g od d R) (b : Below w.heap.size w w') : Live w0 w' g od d (fun k => R k ∨ (w.heap.size ≤ k ∧ k < w'.heap.size)) := by
  obtain ⟨op, h1, h2, h3, h4⟩ := h
  refine ⟨op, h1.below b, fun k hk => ⟨(h2 k hk).1, fun hr => ?_⟩, fun k hk => ?_, step_call h4 b⟩
  · rcases hr with hr | hr
    · exact (h2 k hk).2 hr
    · have := h1.lt k hk; omega
  · rcases hk with hk | hk
    · exact Nat.lt_of_lt_of_le (h3 k hk) b.size
    · exact hk.2
theorem dev_heap {T : TypeId} {op : Option Nat} (h : DevAt T w g od op d) (hk : ∀ k, ownV g od op k → w'.heap[k]? = w.heap[k]?) : DevAt T w' g od op d := by
  obtain ⟨vd, vp, a1, a2, a3, a4, a5, a6, a7, a8⟩ := h
  exact ⟨vd, vp, (hk g (.inl rfl)).trans a1, own_keeps a2 (R := ownV g od op) (fun k e => .inr (.inl (a3.symm.trans e))) hk, a3, own_keeps a4 (R := ownV g od op) (fun k e => .inr (.inr (a5.symm.trans e))) hk, a5, a6, a7, a8⟩
end
end Go.Proofs.YtlgfjoicdbjfjaaDoor
namespace Go.Proofs.YtlgfjoicdbjfjaaDoor
open Go.RowKit Go.Wir Go.Blk Go.Frm Go.Jrn

theorem wrs_two (w : World) (i k : Int) (s t : Txt) (ty : TypeId) : Wrs (w.alloc (.cells #[.int .i64 i, .string (B s), .int .i64 k, .string (B t)] ty)) (.slice (some ⟨w.heap.size, 0, none⟩) 2 2) [(i, s), (k, t)] := by
  have hb := heap_alloc_new w (.cells #[.int .i64 i, .string (B s), .int .i64 k, .string (B t)] ty)
  refine .inr ⟨w.heap.size, 0, 2, rfl, by simp, fun q hq => ?_⟩
  have : q = 0 ∨ q = 1 := by simp at hq; omega
  rcases this with rfl | rfl
  · exact ⟨by rw [Lib.cell_of_heap hb]; rfl, by rw [Lib.cell_of_heap hb]; rfl⟩
  · exact ⟨by rw [Lib.cell_of_heap hb]; rfl, by rw [Lib.cell_of_heap hb]; rfl⟩
set_option maxRecDepth 100000 in
set_option maxHeartbeats 3200000 in
theorem law_shown4 (w : World) : Calls Tryd.prog 8 #[] w fun e w' => e = .returned (.bool true) ∧ Below w.heap.size w w' := by
  obtain ⟨d1, d2, j2, d3, j3, q1, q2, q3, q4, q5, q6, q7, q8, q9, q10, q11, q12, q13, q14, q15, q16, q17, q18, q19, q20, q21⟩ := shown_plain
  obtain ⟨n1, n2⟩ := open_none
  have Q1 := Lib.hid q1
  have Q2 := Lib.hid q2
  have Q3 := Lib.hid q3
  have Q4 := Lib.hid q4
  have Q5 := Lib.hid q5
  have Q6 := Lib.hid q6
  have Q7 := Lib.hid q7
  have Q8 := Lib.hid q8
  have Q9 := Lib.hid q9
  have Q10 := Lib.hid q10
  have Q11 := Lib.hid q11
  have Q12 := Lib.hid q12
  have Q13 := Lib.hid q13
  have Q14 := Lib.hid q14
  have Q15 := Lib.hid q15
  have Q16 := Lib.hid q16
  have Q17 := Lib.hid q17
  have Q18 := Lib.hid q18
  have Q19 := Lib.hid q19
  have Q20 := Lib.hid q20
  have Q21 := Lib.hid q21
  have N1 := Lib.hid n1
  have N2 := Lib.hid n2
  have Hok0 := Lib.hid (newD_ok 60 (by omega) (by omega))
  have Hz0 : Hid ((newD 60).pend.length = 0) := Lib.hid (by simp [newD])
  have Hl0 : Hid ((newD 60).disk.length = 60) := Lib.hid (by simp [newD])
  have HNw := Lib.hid (live_New (w0 := w) (w := w) 60 (by omega) (by omega) (Below.refl _ _))
  have HNc := Lib.hid (fun (w1 : World) => live_New (w0 := w1) (w := w1) 60 (by omega) (by omega) (Below.refl _ _))
  have HFa := Lib.hid (fun w => law_full 97 w)
  have HFb := Lib.hid (fun w => law_full 98 w)
  have HshW : Hid (shW = [(53, fullT 97), (59, fullT 98)]) := Lib.hid rfl
  have HshF : Hid (FitW shW) := Lib.hid (fun p hp => by
    have := shW_good.2.2 p hp
    exact ⟨by omega, by omega, by omega⟩)
  have Hla := Lib.hid (fullT_length 97)
  have Hlb := Lib.hid (fullT_length 98)
  clear q1 q2 q3 q4 q5 q6 q7 q8 q9 q10 q11 q12 q13 q14 q15 q16 q17 q18 q19 q20 q21 n1 n2
  generalize newD 60 = d0 at *
  generalize fullT 97 = A at *
  generalize fullT 98 = Bq at *
  go_enter Tryd.func8, Tryd.ntmps8
  go_wp2_with fail
  refine HNw.out.mono ?_
  rintro e w1 ⟨gd, odd, rfl, ld1⟩
  have Ld1 := Lib.hid ld1
  clear ld1
  go_wp2_with fail
  refine (HNc.out w1).mono ?_
  rintro e w2 ⟨gc, odc, rfl, lc2⟩
  obtain ⟨opc, dc, ownc, _, bc⟩ := lc2
  have ld2 := Ld1.out.range bc
  have Dc := Lib.hid dc
  have Oc := Lib.hid (fun k (hk : ownV gc odc opc k) => (show w1.heap.size ≤ k ∧ k < w2.heap.size from ⟨(ownc k hk).1, dc.lt k hk⟩))
  have Hsz := Lib.hid (show w.heap.size ≤ w1.heap.size from Ld1.out.size.size)
  have HF1 := Lib.hid (jr_Format ld2 Hok0.out 58 (by omega) (by rw [Hz0.out]; omega))
  rw [Q1.out] at HF1
  simp only at HF1
  clear dc ownc bc ld2
  go_wp2_with fail
  refine HF1.out.mono ?_
  rintro e w3 ⟨rfl, ld3, kd3⟩
  have Kd3 := Lib.hid kd3
  have HF2 := Lib.hid (jr_Format ld3 Hok0.out 50 (by omega) (by rw [Hz0.out]; omega))
  rw [Q2.out] at HF2
  simp only at HF2
  clear ld3 kd3
  go_wp2_with fail
  refine HF2.out.mono ?_
  rintro e w4 ⟨rfl, ld4, kd4⟩
  have Kd4 := Lib.hid (Kd3.out.trans kd4)
  obtain ⟨opd, dd, ownd, ltd, bd⟩ := ld4
  have dc4 : DevAt 80 w4 gc odc opc d0 := dev_heap Dc.out (fun k hk => Kd4.out k (.inr (Oc.out k hk)))
  have lc4 : Live w w4 gc odc d0 (ownV gd odd opd) := ⟨opc, dc4, fun k hk => ⟨Nat.le_trans Hsz.out (Oc.out k hk).1, fun hr => (ownd k hr).2 (.inr (Oc.out k hk))⟩, fun k hk => dd.lt k hk, bd⟩
  have HOc := Lib.hid (jr_Open (K := 1) lc4 Hok0.out (by rw [Hl0.out]; omega) (by rw [Hz0.out]; omega) (by omega) (fun x p hx => by rw [N2.out] at hx; cases hx))
  rw [N1.out] at HOc
  have Dd := Lib.hid dd
  have Od := Lib.hid (fun k hk => (ownd k hk).1)
  clear kd4 dd ownd ltd bd dc4 lc4
  go_wp2_with fail
  refine HOc.out.mono ?_
  rintro e w5 ⟨k5, hpost⟩
  rw [if_neg (by omega)] at hpost
  obtain ⟨rfl, lc5⟩ := hpost
  have dd5 := dev_heap Dd.out k5
  have ld5 : Live w w5 gd odd d1 noneR := ⟨opd, dd5, fun k hk => ⟨Od.out k hk, fun h => h⟩, fun _ h => h.elim, lc5.size⟩
  have HOd := Lib.hid (jr_Open (K := 1) ld5 Q3.out (by rw [Q4.out]; omega) (by rw [Q5.out]; exact Nat.zero_le _) (by omega) Q6.out)
  rw [Q7.out] at HOd
  clear k5 lc5 dd5 ld5
  go_wp2_with fail
  refine HOd.out.mono ?_
  rintro e w6 ⟨_, hpost⟩
  rw [if_pos rfl] at hpost
  obtain ⟨jb, jx, hjx, rfl, lj6, _⟩ := hpost
  simp only [Option.some.injEq] at hjx
  subst hjx
  have HHm := Lib.hid (jr_Home lj6 (by rw [Q10.out.log]; omega))
  have HSq := Lib.hid (jr_Seq lj6)
  have HUs := Lib.hid (jr_Used lj6)
  rw [Q10.out.log] at HHm
  rw [Q11.out] at HSq
  rw [Q12.out] at HUs
  have L6 := Lib.hid lj6
  clear lj6
  go_wp2_with (first
    | (go_at_call 32; refine HHm.out.mono ?_; rintro e wq ⟨rfl, rfl⟩)
    | (go_at_call 11; refine HSq.out.mono ?_; rintro e wq ⟨rfl, rfl⟩)
    | (go_at_call 12; refine HUs.out.mono ?_; rintro e wq ⟨rfl, rfl⟩)
    | fail)
  refine (HFa.out _).mono ?_
  rintro e w7 ⟨rfl, hb7⟩
  have Hb7 := Lib.hid hb7
  clear hb7
  go_wp2_with fail
  refine (HFb.out _).mono ?_
  rintro e w8 ⟨rfl, hb8⟩
  obtain ⟨l8, _⟩ := LiveC.call L6.out (step_call Hb7.out hb8)
  have b9 := step_new (Below.refl w8.heap.size w8) (.cells #[.int .i64 53, .string (B A), .int .i64 59, .string (B Bq)] 47)
  have l9 := LiveC.more l8 b9 (.slice (some ⟨w8.heap.size, 0, none⟩) 2 2) (fun k hk => by simp only [Value.ownBlock, Option.some.injEq] at hk; subst hk; exact ⟨Nat.le_refl _, by simp⟩)
  have HCm := Lib.hid (jr_Commit (K := 2) l9 Q8.out Q10.out (by omega) (by have := Q9.out; omega) (.slice (some ⟨w8.heap.size, 0, none⟩) 2 2) shW (by rw [HshW.out]; exact wrs_two w8 53 59 A Bq _) (fun k hk => .inr hk) HshF.out (by rw [HshW.out]; simp))
  rw [Q13.out] at HCm
  clear hb8 l8 b9 l9
  go_wp2_with fail
  refine HCm.out.mono ?_
  rintro e w10 ⟨rfl, l10, _⟩
  have L10 := Lib.hid (LiveC.less l10 (R' := noneR) (fun k hk => hk.elim))
  obtain ⟨⟨c0, _⟩, _⟩ := LiveJ.cells l10
  have HRd := Lib.hid (live_ReadB l10.live Q14.out (by have := Q15.out; omega) 53 (by omega) (by omega))
  rw [Q19.out, Q20.out] at HRd
  clear l10
  go_wp2_with fail
  refine HRd.out.mono ?_
  rintro e w11 ⟨rfl, hb11⟩
  obtain ⟨l11, _⟩ := LiveC.call L10.out hb11
  have HSq2 := Lib.hid (jr_Seq l11)
  have HUs2 := Lib.hid (jr_Used l11)
  rw [Q17.out] at HSq2
  rw [Q18.out] at HUs2
  have L11 := Lib.hid l11
  clear hb11 l11
  go_wp2_with (first
    | (go_at_call 11; refine HSq2.out.mono ?_; rintro e wq ⟨rfl, rfl⟩)
    | (go_at_call 12; refine HUs2.out.mono ?_; rintro e wq ⟨rfl, rfl⟩)
    | fail)
  refine (HFa.out _).mono ?_
  rintro e w12 ⟨rfl, hb12⟩
  have Hb12 := Lib.hid hb12
  clear hb12
  go_wp2_with fail
  refine (HFa.out _).mono ?_
  rintro e w13 ⟨rfl, hb13⟩
  obtain ⟨l13, _⟩ := LiveC.call L11.out (step_call Hb12.out hb13)
  have b14 := step_new (Below.refl w13.heap.size w13) (.cells #[.int .i64 51, .string (B A)] 47)
  have l14 := LiveC.more l13 b14 (.slice (some ⟨w13.heap.size, 0, none⟩) 1 1) (fun k hk => by simp only [Value.ownBlock, Option.some.injEq] at hk; subst hk; exact ⟨Nat.le_refl _, by simp⟩)
  have HCm2 := Lib.hid (jr_Commit (K := 4) l14 Q14.out Q16.out (by omega) (by have := Q15.out; omega) (.slice (some ⟨w13.heap.size, 0, none⟩) 1 1) [(51, A)] (wrs_new w13 51 A _) (fun k hk => .inr hk) (fun p hp => by
    rw [List.mem_singleton.1 hp]
    exact ⟨by show (-9223372036854775808 : Int) ≤ 51; omega, by show (51 : Int) ≤ 9223372036854775807; omega, by show A.length ≤ _; rw [Hla.out]; omega⟩) (by simp))
  rw [Q21.out] at HCm2
  clear hb13 l13 b14 l14
  go_wp2_with fail
  refine HCm2.out.mono ?_
  rintro e w15 ⟨rfl, l15, _⟩
  have hb15 := Lib.hid l15.size
  clear l15
  go_wp2
  go_ret
  exact ⟨rfl, hb15.out⟩
end Go.Proofs.YtlgfjoicdbjfjaaDoor
