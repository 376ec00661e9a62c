/- Chapter 4: what JournalPromotes sees, in plain words. No conditions. Chapter 4: a journal at work under commits, in plain words. No conditions. -/
import Derived.Test.YtlgfjoicdbjfjaaDoorJrnSt
namespace Go.Jrn
open Go.Wir Go.Blk Go.Frm

theorem Up.readE {n K : Nat} {m : Nat → Txt} {d : Dv} {j : Jn} {fs : List (List Wr)} (h : Up n m K d j fs) (b : Nat) (hb : b < n) : readE d (b : Int) = 0 := by
  have hin : inD d ((b : Nat) : Int) = true := by unfold inD; rw [decide_eq_true (by omega), decide_eq_true (by rw [h.inv.len]; omega)]; rfl
  unfold Go.Blk.readE; rw [h.alive, hin]; rfl
theorem Up.readT {n K : Nat} {m : Nat → Txt} {d : Dv} {j : Jn} {fs : List (List Wr)} (h : Up n m K d j fs) (b : Nat) (h52 : 52 ≤ b) (hb : b < n) : readT d (b : Int) = m b := by
  have hin : inD d ((b : Nat) : Int) = true := by unfold inD; rw [decide_eq_true (by omega), decide_eq_true (by rw [h.inv.len]; omega)]; rfl
  unfold Go.Blk.readT; rw [h.alive, hin, Int.toNat_natCast]
  exact h.now b h52 hb
/-- What lies in the log. -/
theorem Up.inLog {n K : Nat} {m : Nat → Txt} {d : Dv} {j : Jn} {fs' : List (List Wr)} {l : List Wr} (h : Up n m K d j (fs' ++ [l])) (p : Wr) (hp : p ∈ l) : ∃ i, 2 ≤ i ∧ i < 52 ∧ d.disk.getD i [] = p.2 := by
  have hroom := h.inv.room
  obtain ⟨i, hi, rfl⟩ := List.mem_iff_getElem.1 hp
  have ht : total (fs' ++ [l]) = total fs' + (l.length + 1) := by rw [total_append]; rfl
  have hF : framesT j.x.s (fs' ++ [l]) = framesT j.x.s fs' ++ frameT (j.x.s + fs'.length) l := by rw [framesT_append]; simp [framesT]
  have hl := loc_lt j.x (total fs' + (i + 1))
  refine ⟨loc j.x (total fs' + (i + 1)), hl.1, hl.2, ?_⟩
  rw [h.inv.logs _ (by omega), hF, List.getD_eq_getElem?_getD, List.getElem?_append_right (by rw [framesT_length]; omega), framesT_length, Nat.add_sub_cancel_left]
  unfold frameT
  rw [List.getElem?_cons_succ]
  simp [datas, hi]
/-- A device whose fuse is out: nothing more is laid down. -/
theorem fuse0 {d : Dv} (ha : d.dead = false) : flushE (fuseD d 0) = 4 ∧ (flushD (fuseD d 0)).disk = d.disk ∧ (flushD (fuseD d 0)).pend = d.pend ∧ (flushD (fuseD d 0)).fuse = 0 := by
  have h0 : (fuseD d 0).fuse = 0 := rfl
  have h1 : (fuseD d 0).dead = false := ha
  have h2 : turnOk (fuseD d 0) = false := by unfold turnOk; rw [h0]; rfl
  refine ⟨?_, ?_, ?_, ?_⟩
  · unfold flushE; rw [h1, h2]; rfl
  · unfold flushD; rw [h1, h2]; simp only [Bool.false_eq_true, if_false]; exact (turn_same _).1
  · unfold flushD; rw [h1, h2]; simp only [Bool.false_eq_true, if_false]; exact (turn_same _).2
  · unfold flushD; rw [h1, h2]; simp only [Bool.false_eq_true, if_false]; unfold turnD; rw [h0]; rfl
theorem promotes_plain {d : Dv} {j : Jn} (h : Ready 70 (fun _ => zeros) 2 d j []) (hf : d.fuse = -1) (b : Nat) (t : Txt) (h1 : 52 ≤ b) (h2 : b < 70) (ht : t.length = 256) :
    ∃ d2 j2 d6 j6, commit d j [((b : Int), t)] = (0, d2, j2) ∧ d2.Ok ∧ d2.dead = false ∧ d2.pend.length ≤ 50 ∧ d2.disk.length = 70 ∧ readT d2 (b : Int) = t ∧ readE d2 (b : Int) = 0 ∧ (∃ i, 2 ≤ i ∧ i < 52 ∧ d2.disk.getD i [] = t) ∧
      flushE (fuseD d2 0) = 4 ∧ (flushD (fuseD d2 0)).Ok ∧ (flushD (fuseD d2 0)).pend.length ≤ 50 ∧ (flushD (fuseD d2 0)).disk.length = 70 ∧
      (∀ x p, Go.Jrn.choose (crashD (flushD (fuseD d2 0)) [] (-1) 0) = some (x, p) → JFit 4 ⟨x, p, x.s, 0⟩) ∧
      openP (crashD (flushD (fuseD d2 0)) [] (-1) 0) = (0, d6, some j6) ∧ d6.Ok ∧ d6.pend.length ≤ 50 ∧ d6.disk.length = 70 ∧ readT d6 (b : Int) = t ∧ readE d6 (b : Int) = 0 := by
  have hg : GoodW 70 [((b : Int), t)] := ⟨by simp, by simp, fun p hp => by
    rw [List.mem_singleton.1 hp]
    exact ⟨by show (52 : Int) ≤ (b : Int); omega, by show (b : Int) < ((70 : Nat) : Int); omega, ht⟩⟩
  rcases h.commit (l := [((b : Int), t)]) (by omega) with ⟨_, _, hng⟩ | ⟨_, ⟨fs', c1, c2, c3, c4, c5⟩ | ⟨_, _, hfu⟩⟩
  · exact absurd hg hng
  · have hm : upd (fun _ => zeros) [((b : Int), t)] b = t := by
      unfold upd
      show lastW [((b : Int).toNat, t)] b zeros = t
      simp [lastW]
    obtain ⟨f1, f2, f3, f4⟩ := fuse0 (d := (commit d j [((b : Int), t)]).2.1) c2.alive
    have hcr : (crashD (flushD (fuseD (commit d j [((b : Int), t)]).2.1 0)) [] (-1) 0).disk = (crashD (commit d j [((b : Int), t)]).2.1 [] (-1) 0).disk := by
      show crashL _ _ _ _ _ _ = crashL _ _ _ _ _ _
      rw [f2, f3]
    obtain ⟨m, x, pos, fs, rfl, hI⟩ := c2.toUp.crash [] (-1) 0
    rw [← hcr] at hI
    have hok4 := flush_ok (fuse_ok c2.ok 0 (by omega))
    rcases open_spec hI (by omega) (crash_ok hok4 [] (-1) 0) rfl rfl with ⟨d6, j6, e6, r6, _, _, _⟩ | ⟨_, _, _, hbad⟩
    rotate_left
    · exact absurd rfl hbad
    refine ⟨(commit d j [((b : Int), t)]).2.1, (commit d j [((b : Int), t)]).2.2, d6, j6, by rw [← c1], c2.ok, c2.alive, c2.few, c2.inv.len, ?_, c2.toUp.readE b h2, ?_, f1, hok4, by rw [f3]; exact c2.few, by rw [f2]; exact c2.inv.len, fun y p hx => ?_, e6, r6.ok, r6.few, r6.inv.len, ?_, r6.toUp.readE b h2⟩
    · rw [c2.toUp.readT b h1 h2]; exact hm
    · exact c2.toUp.inLog ((b : Int), t) (List.mem_singleton.2 rfl)
    · rw [choose_spec hI (by omega) rfl rfl] at hx
      simp only [Option.some.injEq, Prod.mk.injEq] at hx
      obtain ⟨rfl, rfl⟩ := hx
      exact ⟨hI.log, hI.pl, by simp, hI.pos1, by show x.s ≤ 4; have := hI.ks; omega, hI.ke⟩
    · rw [r6.toUp.readT b h1 h2]; exact hm
  · exact absurd hf hfu
end Go.Jrn
namespace Go.Jrn
open Go.Wir Go.Blk Go.Frm

/-- At work, the fuse not set. -/
def Works (K : Nat) (m : Nat → Txt) (d : Dv) (j : Jn) : Prop := (∃ fs, Ready 70 m K d j fs) ∧ d.fuse = -1
section
variable {K : Nat} {m : Nat → Txt} {d : Dv} {j : Jn} {l : List Wr}
theorem Works.facts (h : Works K m d j) : d.Ok ∧ JFit K j ∧ d.pend.length ≤ 50 ∧ d.disk.length = 70 ∧ homeL d = homeM m := by
  obtain ⟨⟨fs, h⟩, _⟩ := h
  exact ⟨h.ok, h.toUp.fit, h.few, h.inv.len, h.toUp.homeL⟩
theorem Works.mono {K' : Nat} (h : Works K m d j) (hK : K ≤ K') : Works K' m d j := by
  obtain ⟨⟨fs, h⟩, hf⟩ := h
  exact ⟨⟨fs, h.mono hK⟩, hf⟩
theorem Works.commit (h : Works K m d j) (hK : K ≤ 999998) :
    ((Go.Jrn.commit d j l).1 ≠ 0 ∧ (Go.Jrn.commit d j l).2.1 = d ∧ (Go.Jrn.commit d j l).2.2 = j ∧ ¬ GoodW 70 l) ∨
    (GoodW 70 l ∧ (Go.Jrn.commit d j l).1 = 0 ∧ Works (K + 2) (upd m l) (Go.Jrn.commit d j l).2.1 (Go.Jrn.commit d j l).2.2 ∧ (Go.Jrn.commit d j l).2.2.next = j.next + 1 ∧ ((Go.Jrn.commit d j l).2.2.used = j.used + (l.length + 1) ∨ (Go.Jrn.commit d j l).2.2.used = l.length + 1)) := by
  obtain ⟨⟨fs, h⟩, hf⟩ := h
  rcases h.commit (l := l) hK with ⟨h1, h2, h3⟩ | ⟨hg, ⟨fs', c1, c2, c3, c4, c5⟩ | ⟨_, _, hfu⟩⟩
  · left
    rw [h2]
    exact ⟨h1, rfl, rfl, h3⟩
  · exact .inr ⟨hg, c1, ⟨⟨_, c2⟩, c5 hf⟩, c3, c4⟩
  · exact absurd hf hfu
theorem Works.any (h : Works K m d j) (hK : K ≤ 999998) : ∃ m', Works (K + 2) m' (Go.Jrn.commit d j l).2.1 (Go.Jrn.commit d j l).2.2 := by
  rcases h.commit (l := l) hK with ⟨_, h2, h3, _⟩ | ⟨_, _, c, _⟩
  · rw [h2, h3]; exact ⟨m, h.mono (by omega)⟩
  · exact ⟨_, c⟩
theorem Works.ckpt (h : Works K m d j) (hK : K ≤ 999998) : (Go.Jrn.ckpt d j).1 = 0 ∧ (Go.Jrn.ckpt d j).2.2.used = 0 := by
  obtain ⟨⟨fs, h⟩, hf⟩ := h
  rcases h.toUp.ckpt (by omega) with ⟨c1, _, c3, _, _⟩ | ⟨_, _, _, c4⟩
  · exact ⟨c1, by rw [c3]; rfl⟩
  · exact absurd hf c4
theorem commit_codes (d : Dv) (j : Jn) (l : List Wr) (h : Works K m d j) (hK : K ≤ 999998) : (Go.Jrn.commit d j l).1 ≤ 20 := by
  rcases h.commit (l := l) hK with ⟨_, _, _, _⟩ | ⟨_, c, _⟩
  · obtain ⟨⟨fs, h⟩, hf⟩ := h
    rcases h.commit (l := l) hK with ⟨h1, h2, h3⟩ | ⟨hg, ⟨fs', c1, _⟩ | ⟨c1, _⟩⟩
    · rw [h2]
      show checkE j d.disk.length l ≤ 20
      unfold checkE
      split
      · omega
      · have : ∀ l : List Wr, badH j d.disk.length l ≤ 20 := by
          intro l
          induction l with
          | nil => simp [badH]
          | cons p l ih =>
            unfold badH
            split
            · split <;> omega
            · omega
        exact this l
    · omega
    · omega
  · omega
end
/-! the writes of JournalOthers -/
def fineT (s : Txt) (i : Nat) : Txt := UInt8.ofNat i :: (dataJ s).drop 1
def finesF (s : Txt) : Nat → List Int → List Wr
  | _, [] => []
  | i, b :: l => (((52 + pickJ b 18 : Nat) : Int), fineT s i) :: finesF s (i + 1) l
theorem fineT_length (s : Txt) (i : Nat) : (fineT s i).length = 256 := by unfold fineT; rw [List.length_cons, List.length_drop, dataJ_length]
theorem finesF_length (s : Txt) : ∀ (l : List Int) (i : Nat), (finesF s i l).length = l.length
  | [], _ => rfl
  | b :: l, i => by rw [finesF, List.length_cons, finesF_length s l, List.length_cons]
theorem finesF_snoc (s : Txt) : ∀ (l : List Int) (i k : Nat) (hk : k < l.length), finesF s i (l.take (k + 1)) = finesF s i (l.take k) ++ [(((52 + pickJ l[k] 18 : Nat) : Int), fineT s (i + k))]
  | [], _, _, hk => by simp at hk
  | b :: l, i, 0, _ => by simp [finesF]
  | b :: l, i, k + 1, hk => by
    simp only [List.take_succ_cons, finesF, List.cons_append, List.getElem_cons_succ]
    rw [finesF_snoc s l (i + 1) k (by simpa using hk), show i + 1 + k = i + (k + 1) by omega]
theorem finesF_mem (s : Txt) : ∀ (l : List Int) (i : Nat) (p : Wr), p ∈ finesF s i l → 52 ≤ p.1 ∧ p.1 < ((70 : Nat) : Int) ∧ p.2.length = 256
  | [], _, p, hp => by simp [finesF] at hp
  | b :: l, i, p, hp => by
    rw [finesF] at hp
    rcases List.mem_cons.1 hp with rfl | hp
    · have := pickJ_lt b 18 (by omega)
      exact ⟨by show (52 : Int) ≤ ((52 + pickJ b 18 : Nat) : Int); omega, by show ((52 + pickJ b 18 : Nat) : Int) < ((70 : Nat) : Int); omega, fineT_length s i⟩
    · exact finesF_mem s l (i + 1) p hp
theorem finesF_good (s : Txt) (l : List Int) (h0 : 0 < l.length) (h1 : l.length ≤ 48) : GoodW 70 (finesF s 0 l) := ⟨by rw [finesF_length]; exact h0, by rw [finesF_length]; exact h1, finesF_mem s l 0⟩
theorem setsL_snoc (L : List Txt) (l : List Wr) (p : Wr) : setsL L (l ++ [p]) = (setsL L l).set (p.1 - 52).toNat p.2 := by unfold setsL; rw [List.foldl_append]; rfl

/-! behind a crash -/
/-- What a crash may leave: a journal of one of two states of home. -/
def KEnd (K : Nat) (d : Dv) (m1 m2 : Nat → Txt) : Prop := d.Ok ∧ d.disk.length = 70 ∧ d.pend.length ≤ 200 ∧ ∀ keep torn cut, ∃ m x pos fs, (m = m1 ∨ m = m2) ∧ Inv 70 m K (crashD d keep torn cut).disk x pos fs
theorem KEnd.of_ready {K : Nat} {m : Nat → Txt} {d : Dv} {j : Jn} {fs : List (List Wr)} (h : Ready 70 m K d j fs) : KEnd K d m m :=
  ⟨h.ok, h.inv.len, Nat.le_trans h.few (by omega), fun keep torn cut => by
    obtain ⟨m', x, pos, fs', hm, hI⟩ := h.toUp.crash keep torn cut
    exact ⟨m', x, pos, fs', .inl hm, hI⟩⟩
theorem KEnd.of_gone {K : Nat} {m1 m2 : Nat → Txt} {d : Dv} (h : Gone 70 K (fun a => a = m1 ∨ a = m2) d) : KEnd K d m1 m2 :=
  ⟨h.ok, h.len, h.few, fun keep torn cut => h.crash keep torn cut⟩
theorem KEnd.mono {K K' : Nat} {m1 m2 : Nat → Txt} {d : Dv} (h : KEnd K d m1 m2) (hK : K ≤ K') : KEnd K' d m1 m2 :=
  ⟨h.1, h.2.1, h.2.2.1, fun keep torn cut => by
    obtain ⟨m, x, pos, fs, hm, hI⟩ := h.2.2.2 keep torn cut
    exact ⟨m, x, pos, fs, hm, hI.mono hK⟩⟩
theorem inv_choose {K : Nat} {m : Nat → Txt} {d : Dv} {x : Sl} {pos : Nat} {fs : List (List Wr)} (hI : Inv 70 m K d.disk x pos fs) (hK : K ≤ 999999) (ha : d.dead = false) (hp : d.pend = []) : ∀ y p, Go.Jrn.choose d = some (y, p) → JFit K ⟨y, p, y.s, 0⟩ := fun y p hx => by
  rw [choose_spec hI (by omega) ha hp] at hx
  simp only [Option.some.injEq, Prod.mk.injEq] at hx
  obtain ⟨rfl, rfl⟩ := hx
  exact ⟨hI.log, hI.pl, by simp, hI.pos1, by show x.s ≤ K; have := hI.ks; omega, hI.ke⟩
/-- A crash, the fuse set anew, and an opening; a second crash, where it fails. -/
theorem KEnd.open1 {K : Nat} {m1 m2 : Nat → Txt} {d : Dv} (h : KEnd K d m1 m2) (hK : K ≤ 900000) (keep : List Bool) (torn cut f : Int) (hf : f ≤ 9223372036854775807) :
    ∃ m, (m = m1 ∨ m = m2) ∧ (fuseD (crashD d keep torn cut) f).Ok ∧ (fuseD (crashD d keep torn cut) f).pend = [] ∧ (fuseD (crashD d keep torn cut) f).disk.length = 70 ∧
    (∀ y p, Go.Jrn.choose (fuseD (crashD d keep torn cut) f) = some (y, p) → JFit K ⟨y, p, y.s, 0⟩) ∧
    ((∃ d' j', openP (fuseD (crashD d keep torn cut) f) = (0, d', some j') ∧ d'.Ok ∧ d'.pend = [] ∧ homeL d' = homeM m) ∨
     (∃ d', openP (fuseD (crashD d keep torn cut) f) = (4, d', none) ∧ d'.Ok ∧ d'.pend.length ≤ 200 ∧ d'.disk.length = 70 ∧
      ∀ keep2 torn2 cut2, ∃ d2 j2, (crashD d' keep2 torn2 cut2).Ok ∧ (crashD d' keep2 torn2 cut2).pend = [] ∧ (crashD d' keep2 torn2 cut2).disk.length = 70 ∧ (∀ y p, Go.Jrn.choose (crashD d' keep2 torn2 cut2) = some (y, p) → JFit (K + 1) ⟨y, p, y.s, 0⟩) ∧
        openP (crashD d' keep2 torn2 cut2) = (0, d2, some j2) ∧ d2.Ok ∧ d2.pend = [] ∧ homeL d2 = homeM m)) := by
  obtain ⟨m, x, pos, fs, hm, hI⟩ := h.2.2.2 keep torn cut
  have hok := fuse_ok (crash_ok h.1 keep torn cut) f hf
  have hI' : Inv 70 m K (fuseD (crashD d keep torn cut) f).disk x pos fs := hI
  refine ⟨m, hm, hok, rfl, hI'.len, inv_choose hI' (by omega) rfl rfl, ?_⟩
  rcases open_spec hI' (by omega) hok rfl rfl with ⟨d', j', e, r, hp, _, _⟩ | ⟨d', e, hg, _⟩
  · exact .inl ⟨d', j', e, r.ok, hp, r.toUp.homeL⟩
  · refine .inr ⟨d', e, hg.ok, hg.few, hg.len, fun keep2 torn2 cut2 => ?_⟩
    obtain ⟨m', x2, pos2, fs2, rfl, hI2⟩ := hg.crash keep2 torn2 cut2
    have hok2 := crash_ok hg.ok keep2 torn2 cut2
    rcases open_spec hI2 (by omega) hok2 rfl rfl with ⟨d2, j2, e2, r2, hp2, _, _⟩ | ⟨_, _, _, hbad⟩
    · exact ⟨d2, j2, hok2, rfl, hI2.len, inv_choose hI2 (by omega) rfl rfl, e2, r2.ok, hp2, r2.toUp.homeL⟩
    · exact absurd rfl hbad
theorem checkE_not4 (j : Jn) (n : Nat) (l : List Wr) : checkE j n l ≠ 4 := by
  have hb : ∀ l : List Wr, badH j n l ≠ 4 := by
    intro l
    induction l with
    | nil => simp [badH]
    | cons p l ih =>
      unfold badH
      split
      · split
        · exact ih
        · omega
      · omega
  unfold checkE
  split
  · omega
  · exact hb l
/-- A commit of a journal at work, the fuse set or not. -/
theorem Ready.three {K : Nat} {m : Nat → Txt} {d : Dv} {j : Jn} {fs : List (List Wr)} {l : List Wr} (h : Ready 70 m K d j fs) (hK : K ≤ 999998) :
    (Go.Jrn.commit d j l).1 ≤ 20 ∧
    (((Go.Jrn.commit d j l).1 ≠ 0 ∧ (Go.Jrn.commit d j l).1 ≠ 4 ∧ ∃ fs', Ready 70 m (K + 2) (Go.Jrn.commit d j l).2.1 (Go.Jrn.commit d j l).2.2 fs') ∨
    (GoodW 70 l ∧ (Go.Jrn.commit d j l).1 = 0 ∧ ∃ fs', Ready 70 (upd m l) (K + 2) (Go.Jrn.commit d j l).2.1 (Go.Jrn.commit d j l).2.2 fs') ∨
    (GoodW 70 l ∧ (Go.Jrn.commit d j l).1 = 4 ∧ KEnd (K + 2) (Go.Jrn.commit d j l).2.1 m (upd m l))) := by
  rcases h.commit (l := l) hK with ⟨h1, h2, h3⟩ | ⟨hg, ⟨fs', c1, c2, _⟩ | ⟨c1, c2, _⟩⟩
  · rw [h2]
    refine ⟨?_, .inl ⟨h1, checkE_not4 _ _ _, fs, h.mono (by omega)⟩⟩
    show checkE j d.disk.length l ≤ 20
    have hb : ∀ l : List Wr, badH j d.disk.length l ≤ 20 := by
      intro l
      induction l with
      | nil => simp [badH]
      | cons p l ih =>
        unfold badH
        split
        · split <;> omega
        · omega
    unfold checkE
    split
    · omega
    · exact hb l
  · exact ⟨by omega, .inr (.inl ⟨hg, c1, _, c2⟩)⟩
  · exact ⟨by omega, .inr (.inr ⟨hg, c1, KEnd.of_gone c2⟩)⟩
end Go.Jrn
