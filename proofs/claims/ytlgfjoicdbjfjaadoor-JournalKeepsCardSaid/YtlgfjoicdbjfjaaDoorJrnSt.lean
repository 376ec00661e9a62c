/- Chapter 4: a journal's states under acts: at work, or the power gone. No conditions. -/
import Derived.Test.YtlgfjoicdbjfjaaDoorJrnActs
namespace Go.Jrn
open Go.Wir Go.Blk Go.Frm

/-- A journal whose numbers fit. -/
structure JFit (K : Nat) (j : Jn) : Prop where
  log : j.x.log = 50
  pl : j.x.p < 50
  used : j.used ≤ 50
  pos : j.pos ≤ 1
  next : j.next ≤ K
  e : j.x.e ≤ K
section
variable {n K : Nat} {m : Nat → Txt} {d : Dv} {j : Jn} {fs : List (List Wr)} {l : List Wr}
theorem JFit.mono {K' : Nat} (h : JFit K j) (hK : K ≤ K') : JFit K' j := { h with next := Nat.le_trans h.next hK, e := Nat.le_trans h.e hK }
theorem Up.fit (h : Up n m K d j fs) : JFit K j := by
  have h1 := h.inv.room
  have h2 := h.inv.ks
  exact ⟨h.inv.log, h.inv.pl, by rw [h.used]; omega, h.inv.pos1, by rw [h.next]; exact h2, h.inv.ke⟩
theorem ckJ_fit (h : JFit K j) : JFit (K + 1) (ckJ j) := by
  have h1 := h.next; have h2 := h.e; have h3 := h.log
  refine ⟨h.log, ?_, Nat.zero_le _, ?_, ?_, ?_⟩
  · show (j.x.p + j.used) % j.x.log < 50; rw [h.log]; omega
  · show 1 - j.pos ≤ 1; omega
  · show j.next ≤ K + 1; omega
  · show j.x.e + 1 ≤ K + 1; omega
theorem ckpt_j (d : Dv) (j : Jn) : (ckpt d j).2.2 = j ∨ (ckpt d j).2.2 = ckJ j := by
  unfold ckpt
  split
  · split
    · exact .inr rfl
    · exact .inl rfl
  · exact .inl rfl
theorem ckpt_fit (h : JFit K j) (d : Dv) : JFit (K + 1) (ckpt d j).2.2 := by
  rcases ckpt_j d j with e | e <;> rw [e]
  · exact h.mono (Nat.le_succ K)
  · exact ckJ_fit h
theorem comMain_fit (h : JFit K j) (d : Dv) (hr : j.used + (l.length + 2) ≤ 50) : JFit (K + 1) (comMain d j l).2.2 := by
  have key : (comMain d j l).2.2 = j ∨ (comMain d j l).2.2 = advJ j l.length := by
    unfold comMain
    split
    · split
      · exact .inr rfl
      · exact .inl rfl
    · exact .inl rfl
  rcases key with e | e <;> rw [e]
  · exact h.mono (Nat.le_succ K)
  · have h1 := h.next; have h2 := h.e
    exact ⟨h.log, h.pl, by show j.used + (l.length + 1) ≤ 50; omega, h.pos, by show j.next + 1 ≤ K + 1; omega, by show j.x.e ≤ K + 1; omega⟩
theorem check_len {k : Nat} (h : checkE j k l = 0) : 0 < l.length ∧ l.length ≤ 48 := by
  unfold checkE at h
  split at h
  · cases h
  · omega
theorem commit_fit (h : JFit K j) (d : Dv) (l : List Wr) : JFit (K + 2) (commit d j l).2.2 := by
  unfold commit
  split
  · rename_i hc
    have hl := (check_len hc).2
    split
    · unfold comPre at *
      split
      · rename_i hf
        rcases ckpt_j d j with e | e
        · rename_i h0
          rw [if_pos hf] at h0
          have : (ckpt d j).2.2 = ckJ j := by
            have h1 := h0
            unfold ckpt at h1 ⊢
            split
            · split
              · rfl
              · rename_i a b; rw [if_pos a, if_neg b] at h1; exact absurd h1 b
            · rename_i a; rw [if_neg a] at h1; exact absurd h1 a
          rw [this]
          exact comMain_fit (ckJ_fit h) _ (by show 0 + (l.length + 2) ≤ 50; omega)
        · rw [e]
          exact comMain_fit (ckJ_fit h) _ (by show 0 + (l.length + 2) ≤ 50; omega)
      · rename_i hf
        have : ¬ 50 < j.used + (l.length + 2) := by
          unfold fullB at hf
          rw [decide_eq_true_eq, h.log] at hf
          exact hf
        exact (comMain_fit h _ (by omega)).mono (by omega)
    · unfold comPre
      split
      · exact (ckpt_fit h d).mono (by omega)
      · exact h.mono (by omega)
  · exact h.mono (by omega)
/-! the power is gone -/
theorem dead_write (h : d.dead = true) (i : Int) (s : Txt) : writeE d i s = 4 ∧ writeD d i s = d := by
  unfold writeE writeD; rw [h]; exact ⟨rfl, rfl⟩
theorem dead_lays (h : d.dead = true) (p : Wr) (l : List Wr) : lays d (p :: l) = (4, d) := by
  have hw : wrs d (p :: l) = (4, d) := by
    rw [wrs, (dead_write h _ _).1, (dead_write h _ _).2]; rfl
  unfold lays
  rw [hw]; rfl
theorem dead_ckpt (h : d.dead = true) (j : Jn) : ckpt d j = (4, d, j) := by
  have h1 : ckD1 d j = (4, d) := dead_lays h _ _
  unfold ckpt
  rw [h1]; rfl
theorem dead_commit (h : d.dead = true) (j : Jn) (l : List Wr) : ∃ e, commit d j l = (e, d, j) ∧ e ≠ 0 ∧ (e = 4 ∨ e = checkE j d.disk.length l) := by
  unfold commit
  split
  · rename_i hc
    have hl := (check_len hc).1
    have hp : comPre d j l = (4, d, j) ∨ comPre d j l = (0, d, j) := by
      unfold comPre
      split
      · exact .inl (dead_ckpt h j)
      · exact .inr rfl
    rcases hp with hp | hp
    · rw [hp]; exact ⟨4, rfl, by omega, .inl rfl⟩
    · rw [hp, if_pos rfl]
      refine ⟨4, ?_, by omega, .inl rfl⟩
      have h1 : comD1 d j l = (4, d) := by
        unfold comD1 logW
        obtain ⟨p, q, he⟩ : ∃ p q, logF j 1 (datas l ++ [zeros]) = p :: q := by
          cases hq : logF j 1 (datas l ++ [zeros]) with
          | nil => have := congrArg List.length hq; rw [logF_length, logL_length] at this; simp at this
          | cons p q => exact ⟨p, q, rfl⟩
        rw [he]; exact dead_lays h _ _
      show comMain d j l = (4, d, j)
      unfold comMain
      rw [h1]; rfl
  · rename_i hc
    exact ⟨_, rfl, hc, .inr rfl⟩
theorem dead_open (h : d.dead = true) : openP d = (4, d, none) := by unfold openP; rw [h]; rfl
/-! the fuse -/
theorem Ready.fuse (h : Ready n m K d j fs) (f : Int) (hf : f ≤ 9223372036854775807) : Ready n m K (fuseD d f) j fs :=
  { h with ok := fuse_ok h.ok f hf, alive := h.alive, inv := h.inv, pend := h.pend, few := h.few, now := h.now, zero := h.zero, clean := h.clean }
theorem Gone.fuse {M : (Nat → Txt) → Prop} (h : Gone n K M d) (f : Int) (hf : f ≤ 9223372036854775807) : Gone n K M (fuseD d f) :=
  { h with ok := fuse_ok h.ok f hf, dead := h.dead, len := h.len, few := h.few, safe := h.safe }
/-- At work, or gone. -/
def St (K : Nat) (d : Dv) (j : Jn) : Prop := JFit K j ∧ ((∃ m fs, Ready 70 m K d j fs) ∨ Gone 70 K (fun _ => True) d)
theorem St.ok (h : St K d j) : d.Ok ∧ d.disk.length = 70 ∧ d.pend.length ≤ 200 := by
  obtain ⟨_, ⟨m, fs, h⟩ | h⟩ := h
  · exact ⟨h.ok, h.inv.len, Nat.le_trans h.few (by omega)⟩
  · exact ⟨h.ok, h.len, h.few⟩
theorem St.crash (h : St K d j) (keep : List Bool) (torn cut : Int) : ∃ m x pos fs, Inv 70 m K (crashD d keep torn cut).disk x pos fs := by
  obtain ⟨_, ⟨m, fs, h⟩ | h⟩ := h
  · obtain ⟨m', x, pos, fs', _, hI⟩ := h.toUp.crash keep torn cut
    exact ⟨m', x, pos, fs', hI⟩
  · obtain ⟨m', x, pos, fs', _, hI⟩ := h.crash keep torn cut
    exact ⟨m', x, pos, fs', hI⟩
def doesJ (d : Dv) (j : Jn) (a : Act4) : Nat × Dv × Jn :=
  if pickJ a.op 9 = 6 then ckpt d j
  else if pickJ a.op 9 = 7 then (0, fuseD d ((pickJ a.n 60 : Nat) : Int), j)
  else if pickJ a.op 9 = 8 then ((openP (crashD d a.keep a.pos a.n)).1, (openP (crashD d a.keep a.pos a.n)).2.1, (openP (crashD d a.keep a.pos a.n)).2.2.getD j)
  else commit d j (writesJ a)
theorem pickJ_lt (c : Int) (n : Nat) (h : 0 < n) : pickJ c n < n := by
  unfold pickJ
  have h1 := Int.emod_lt_of_pos (if c < 0 then -(c + 1) else c) (show (0 : Int) < n by omega)
  have h2 := Int.emod_nonneg (if c < 0 then -(c + 1) else c) (show (n : Int) ≠ 0 by omega)
  omega
/-- Behind a crash the journal is opened. -/
theorem St.reopen (h : St K d j) (hK : K ≤ 999990) (keep : List Bool) (torn cut : Int) : ∃ d' j' m, openP (crashD d keep torn cut) = (0, d', some j') ∧ Ready 70 m (K + 1) d' j' [] ∧ d'.pend = [] ∧ d'.fuse = -1 := by
  obtain ⟨m, x, pos, fs, hI⟩ := h.crash keep torn cut
  rcases open_spec hI (by omega) (crash_ok h.ok.1 keep torn cut) rfl rfl with ⟨d', j', e, h1, h2, _, h4⟩ | ⟨_, _, _, h3⟩
  · exact ⟨d', j', m, e, h1, h2, h4 rfl⟩
  · exact absurd rfl h3
theorem St.does (h : St K d j) (hK : K ≤ 999990) (a : Act4) : St (K + 2) (doesJ d j a).2.1 (doesJ d j a).2.2 := by
  have hd := id h
  obtain ⟨hf, hs⟩ := h
  unfold doesJ
  split
  · refine ⟨(ckpt_fit hf d).mono (by omega), ?_⟩
    rcases hs with ⟨m, fs, hs⟩ | hs
    · rcases hs.toUp.ckpt (by omega) with ⟨c1, c2, c3, _, c5⟩ | ⟨c1, c2, c3, c4⟩
      · exact .inl ⟨m, [], c2.mono (by omega)⟩
      · exact .inr (c2.mono (by omega) (fun _ _ => trivial))
    · rw [dead_ckpt hs.dead]
      exact .inr (hs.mono (by omega) (fun _ _ => trivial))
  · split
    · have hp := pickJ_lt a.n 60 (by omega)
      refine ⟨hf.mono (by omega), ?_⟩
      rcases hs with ⟨m, fs, hs⟩ | hs
      · exact .inl ⟨m, fs, (hs.fuse _ (by omega)).mono (by omega)⟩
      · exact .inr ((hs.fuse _ (by omega)).mono (by omega) (fun _ _ => trivial))
    · split
      · obtain ⟨d', j', m, e, h1, _, _⟩ := hd.reopen hK a.keep a.pos a.n
        rw [e]
        exact ⟨h1.toUp.fit.mono (by omega), .inl ⟨m, [], h1.mono (by omega)⟩⟩
      · refine ⟨commit_fit hf d _, ?_⟩
        rcases hs with ⟨m, fs, hs⟩ | hs
        · rcases hs.commit (l := writesJ a) (by omega) with ⟨_, c2, _⟩ | ⟨_, ⟨fs', _, c3, _⟩ | ⟨_, c3, _⟩⟩
          · rw [c2]; exact .inl ⟨m, fs, hs.mono (by omega)⟩
          · exact .inl ⟨_, _, c3⟩
          · exact .inr (c3.mono (Nat.le_refl _) (fun _ _ => trivial))
        · obtain ⟨e, he, _⟩ := dead_commit hs.dead j (writesJ a)
          rw [he]
          exact .inr (hs.mono (by omega) (fun _ _ => trivial))
def doesAllJ (s : Dv × Jn) (l : List Act4) : Dv × Jn := l.foldl (fun s a => ((doesJ s.1 s.2 a).2.1, (doesJ s.1 s.2 a).2.2)) s
end
end Go.Jrn
