/- Chapter 4: Commit with its checkpoint; Open behind a crash: home is what it was. No conditions. -/
import Derived.Test.YtlgfjoicdbjfjaaDoorJrnCom
namespace Go.Jrn
open Go.Wir Go.Blk Go.Frm

section
variable {n K : Nat} {m : Nat → Txt} {d : Dv} {j : Jn} {fs : List (List Wr)} {l : List Wr}
theorem Up.mono {K' : Nat} (h : Up n m K d j fs) (hK : K ≤ K') : Up n m K' d j fs := { h with inv := h.inv.mono hK }
theorem Ready.mono {K' : Nat} (h : Ready n m K d j fs) (hK : K ≤ K') : Ready n m K' d j fs := { h with inv := h.inv.mono hK }
theorem Gone.mono {K' : Nat} {M M' : (Nat → Txt) → Prop} (h : Gone n K M d) (hK : K ≤ K') (hM : ∀ m, M m → M' m) : Gone n K' M' d := { h with safe := h.safe.mono hK hM }
theorem badH_good (h : j.x.log = 50) (hn : d.disk.length = n) : ∀ (l : List Wr), badH j n l = 0 ↔ ∀ p ∈ l, 52 ≤ p.1 ∧ p.1 < (n : Int) ∧ p.2.length = 256
  | [] => by simp [badH]
  | p :: l => by
    have ih := badH_good h hn l
    have hb : homeB j n p.1 = true ↔ 52 ≤ p.1 ∧ p.1 < (n : Int) := by
      unfold homeB; rw [h, Bool.and_eq_true, decide_eq_true_eq, decide_eq_true_eq]; exact Iff.rfl
    unfold badH
    constructor
    · intro e q hq
      split at e
      · rename_i h1
        split at e
        · rename_i h2
          rcases List.mem_cons.1 hq with rfl | hq
          · exact ⟨(hb.1 h1).1, (hb.1 h1).2, h2⟩
          · exact ih.1 e q hq
        · cases e
      · cases e
    · intro hall
      have h1 := hall p (by simp)
      rw [if_pos (hb.2 ⟨h1.1, h1.2.1⟩), if_pos h1.2.2]
      exact ih.2 (fun q hq => hall q (by simp [hq]))
theorem check_good (h : Up n m K d j fs) : checkE j d.disk.length l = 0 ↔ GoodW n l := by
  have hb := badH_good (n := n) (d := d) (j := j) h.inv.log h.inv.len l
  unfold checkE GoodW
  rw [h.inv.len]
  constructor
  · intro e
    split at e
    · cases e
    · exact ⟨by omega, by omega, hb.1 e⟩
  · intro ⟨h1, h2, h3⟩
    rw [if_neg (by omega)]
    exact hb.2 h3
theorem check_range (j : Jn) (k : Nat) (l : List Wr) : checkE j k l = 0 ∨ checkE j k l = 6 ∨ checkE j k l = 2 ∨ checkE j k l = 3 := by
  unfold checkE
  split
  · exact .inr (.inl rfl)
  · have hb : ∀ l : List Wr, badH j k l = 0 ∨ badH j k l = 2 ∨ badH j k l = 3 := by
      intro l
      induction l with
      | nil => exact .inl rfl
      | cons p l ih =>
        unfold badH
        split
        · split
          · exact ih
          · exact .inr (.inr rfl)
        · exact .inr (.inl rfl)
    rcases hb l with h | h | h
    · exact .inl h
    · exact .inr (.inr (.inl h))
    · exact .inr (.inr (.inr h))
/-- A commit: refused; or done; or the power gone. -/
theorem Ready.commit (h : Ready n m K d j fs) (hK : K ≤ 999998) :
    (checkE j d.disk.length l ≠ 0 ∧ (Go.Jrn.commit d j l) = (checkE j d.disk.length l, d, j) ∧ ¬ GoodW n l) ∨
    (GoodW n l ∧ ((∃ fs', (Go.Jrn.commit d j l).1 = 0 ∧ Ready n (upd m l) (K + 2) (Go.Jrn.commit d j l).2.1 (Go.Jrn.commit d j l).2.2 (fs' ++ [l]) ∧ (Go.Jrn.commit d j l).2.2.next = j.next + 1 ∧ ((Go.Jrn.commit d j l).2.2.used = j.used + (l.length + 1) ∨ (Go.Jrn.commit d j l).2.2.used = l.length + 1) ∧ (d.fuse = -1 → (Go.Jrn.commit d j l).2.1.fuse = -1)) ∨
    ((Go.Jrn.commit d j l).1 = 4 ∧ Gone n (K + 2) (fun a => a = m ∨ a = upd m l) (Go.Jrn.commit d j l).2.1 ∧ d.fuse ≠ -1))) := by
  by_cases hc : checkE j d.disk.length l = 0
  · right
    have hg := (check_good h.toUp).1 hc
    refine ⟨hg, ?_⟩
    have hcm : Go.Jrn.commit d j l = if (comPre d j l).1 = 0 then comMain (comPre d j l).2.1 (comPre d j l).2.2 l else comPre d j l := by unfold Go.Jrn.commit; rw [if_pos hc]
    rw [hcm]
    have hgl := hg.2.1
    by_cases hf : fullB j l = true
    · have hp : comPre d j l = Go.Jrn.ckpt d j := by unfold comPre; rw [if_pos hf]
      rw [hp]
      rcases h.toUp.ckpt (by omega) with ⟨c1, c2, c3, _, c5⟩ | ⟨c1, c2, c3, c4⟩
      · rw [if_pos c1]
        rcases c2.main (l := l) (by omega) hg (by show 0 + l.length + 2 ≤ 50; omega) with ⟨m1, m2, m3, m4⟩ | ⟨m1, m2, m3⟩
        · left
          rw [m3]
          refine ⟨[], m1, m2, ?_, .inr ?_, fun hh => m4 (c5 hh)⟩
          · rw [c3]; rfl
          · rw [c3]; show 0 + (l.length + 1) = _; omega
        · right
          exact ⟨m1, m2.mono (Nat.le_refl _) (fun _ h => h), fun hh => m3 (c5 hh)⟩
      · right
        rw [if_neg (by omega)]
        exact ⟨c1, c2.mono (by omega) (fun _ h => .inl h), c4⟩
    · have hp : comPre d j l = (0, d, j) := by unfold comPre; rw [if_neg hf]
      rw [hp, if_pos rfl]
      have hfl : ¬ 50 < total fs + (l.length + 2) := by
        unfold fullB at hf
        rw [decide_eq_true_eq, h.inv.log, h.used] at hf
        exact hf
      rcases h.main (l := l) (by omega) hg (by omega) with ⟨m1, m2, m3, m4⟩ | ⟨m1, m2, m3⟩
      · left
        show ∃ fs', (comMain d j l).1 = 0 ∧ _
        rw [m3]
        exact ⟨fs, m1, m2.mono (by omega), rfl, .inl rfl, m4⟩
      · right
        exact ⟨m1, m2.mono (by omega) (fun _ h => h), m3⟩
  · left
    exact ⟨hc, by unfold Go.Jrn.commit; rw [if_neg hc], fun hg => hc ((check_good h.toUp).2 hg)⟩

/-! ### Open -/
/-- A journal that reads the log: the frames fs0 are done, gs are to come. -/
structure Rp (n : Nat) (m : Nat → Txt) (K : Nat) (dk : List Txt) (x : Sl) (pos : Nat) (fs fs0 : List (List Wr)) (d : Dv) : Prop where
  ok : d.Ok
  alive : d.dead = false
  disk : d.disk = dk
  pend : d.pend = natW fs0.flatten
theorem read_log {x : Sl} {pos : Nat} (hI : Inv n m K d.disk x pos fs) (ha : d.dead = false) (hp : ∀ p ∈ d.pend, 52 ≤ p.1) (k : Nat) : readT d ((loc x k : Nat) : Int) = d.disk.getD (loc x k) [] := by
  have hlt := loc_lt x k
  have hlo := hI.lo
  have hlen := hI.len
  have hin : inD d ((loc x k : Nat) : Int) = true := by unfold inD; rw [decide_eq_true (by omega), decide_eq_true (by omega)]; rfl
  unfold readT
  rw [ha, hin, Int.toNat_natCast]
  exact lastW_none _ _ _ (fun p hp' e => by have := hp p hp'; omega)
theorem flat_home {fs : List (List Wr)} (hg : ∀ l ∈ fs, GoodW n l) : ∀ p ∈ natW fs.flatten, 52 ≤ p.1 ∧ p.1 < n ∧ p.2.length = 256 := by
  intro p hp
  obtain ⟨q, hq, rfl⟩ := List.mem_map.1 hp
  obtain ⟨l, hl, hql⟩ := List.mem_flatten.1 hq
  exact (hg l hl).nat _ (List.mem_map.2 ⟨q, hql, rfl⟩)
theorem flat_homeP {fs fs0 gs : List (List Wr)} (he : fs = fs0 ++ gs) (hg : ∀ l ∈ fs, GoodW n l) : HomeP n fs (natW fs0.flatten) := fun p hp => by
  have h := flat_home (fs := fs0) (fun l hl => hg l (by rw [he]; exact List.mem_append.2 (.inl hl))) p hp
  exact ⟨h.1, h.2.1, h.2.2, by rw [he, wrote_append]; exact .inl ⟨p, hp, rfl⟩⟩
theorem flat_few : ∀ (fs : List (List Wr)), (natW fs.flatten).length ≤ total fs
  | [] => by simp [natW]
  | l :: fs => by
    have := flat_few fs
    rw [List.flatten_cons, natW_append, List.length_append, natW_length, total]; omega
/-- The frame that is read next. -/
theorem Rp.frame {x : Sl} {pos : Nat} {fs0 gs : List (List Wr)} (he : fs = fs0 ++ l :: gs) (hI : Inv n m K d.disk x pos fs) (ha : d.dead = false) (hp : d.pend = natW fs0.flatten) (hK : K ≤ 1000000) :
    frameR d ⟨x, pos, x.s + fs0.length, total fs0⟩ = some (natW l) := by
  have hg : GoodW n l := hI.good l (by rw [he]; simp)
  have hroom := hI.room
  have ht : total fs = total fs0 + ((l.length + 1) + total gs) := by rw [he, total_append]; rfl
  have hgl := hg.2.1
  have hks := hI.ks
  have hfl : fs.length = fs0.length + (gs.length + 1) := by rw [he]; simp
  have hhome : ∀ p ∈ d.pend, 52 ≤ p.1 := by
    rw [hp]
    exact fun p hp => (flat_home (fun l hl => hI.good l (by rw [he]; exact List.mem_append.2 (.inl hl))) p hp).1
  have hR : readsL d ⟨x, pos, x.s + fs0.length, total fs0⟩ = (List.range (min (50 - total fs0) 49)).map fun k => d.disk.getD (loc x (total fs0 + k)) [] := by
    unfold readsL
    simp only [hI.log]
    apply List.map_congr_left
    intro k _
    have hpl : placeN ⟨x, pos, x.s + fs0.length, total fs0⟩ k = loc x (total fs0 + k) := by
      unfold placeN loc; simp only [hI.log]; rw [Nat.add_assoc]
    rw [hpl]
    exact read_log hI ha hhome _
  have hF : framesT x.s fs = framesT x.s fs0 ++ (frameT (x.s + fs0.length) l ++ framesT (x.s + fs0.length + 1) gs) := by rw [he, framesT_append]; rfl
  have hpk := packT_fine (x.s + fs0.length) hg.1 hg.2.1 (hg.fine hI.hi)
  have hsplit : readsL d ⟨x, pos, x.s + fs0.length, total fs0⟩ = packT (x.s + fs0.length) l ++ (readsL d ⟨x, pos, x.s + fs0.length, total fs0⟩).drop (l.length + 1) := by
    conv => lhs; rw [← List.take_append_drop (l.length + 1) (readsL d ⟨x, pos, x.s + fs0.length, total fs0⟩)]
    congr 1
    rw [hpk]
    show _ = frameT (x.s + fs0.length) l
    apply List.ext_getElem?
    intro i
    rw [hR, List.getElem?_take]
    by_cases hi : i < l.length + 1
    · rw [if_pos hi, List.getElem?_map, List.getElem?_range (by omega)]
      simp only [Option.map_some]
      rw [hI.logs _ (by omega), hF]
      simp only [List.getD_eq_getElem?_getD]
      have h0 := framesT_length fs0 x.s
      have h1 := frameT_length (x.s + fs0.length) l
      rw [List.getElem?_append_right (by omega), h0, Nat.add_sub_cancel_left, List.getElem?_append_left (by omega)]
      rw [List.getElem?_eq_getElem (by omega)]; rfl
    · rw [if_neg hi, List.getElem?_eq_none (by rw [frameT_length]; omega)]
  have hu := unpL_pack (x.s + fs0.length) l ((readsL d ⟨x, pos, x.s + fs0.length, total fs0⟩).drop (l.length + 1)) (by omega) hg.1 hg.2.1 (hg.fine hI.hi)
  rw [← hsplit] at hu
  unfold frameR
  rw [hu]
  simp only
  refine if_pos ⟨trivial, ?_⟩
  rw [List.all_eq_true]
  intro p hp'
  have := hg.nat p hp'
  unfold homeB
  rw [Bool.and_eq_true, decide_eq_true_eq, decide_eq_true_eq, hI.len]
  simp only [hI.log]
  exact ⟨by omega, by omega⟩
theorem Rp.done {x : Sl} {pos : Nat} (hI : Inv n m K d.disk x pos fs) (ha : d.dead = false) (hp : d.pend = natW fs.flatten) : frameR d ⟨x, pos, x.s + fs.length, total fs⟩ = none := by
  have hroom := hI.room
  have hhome : ∀ p ∈ d.pend, 52 ≤ p.1 := by
    rw [hp]
    exact fun p hp => (flat_home hI.good p hp).1
  have h0 : readT d ((placeN ⟨x, pos, x.s + fs.length, total fs⟩ 0 : Nat) : Int) = d.disk.getD (loc x (total fs)) [] := by
    have hpl : placeN ⟨x, pos, x.s + fs.length, total fs⟩ 0 = loc x (total fs) := by
      unfold placeN loc; simp only [hI.log]; rfl
    rw [hpl]
    exact read_log hI ha hhome _
  have hR : ∃ r, readsL d ⟨x, pos, x.s + fs.length, total fs⟩ = d.disk.getD (loc x (total fs)) [] :: r := by
    unfold readsL
    simp only [hI.log]
    obtain ⟨q, hq⟩ : ∃ q, min (50 - total fs) 49 = q + 1 := ⟨min (50 - total fs) 49 - 1, by omega⟩
    rw [hq, List.range_succ_eq_map, List.map_cons, h0]
    exact ⟨_, rfl⟩
  obtain ⟨r, hr⟩ := hR
  unfold frameR
  rw [hr]
  simp only [unpL]
  rw [hI.stop]
/-- All frames of the log are done at home, or the power goes. -/
theorem replay_spec {dk : List Txt} {x : Sl} {pos : Nat} (hI : Inv n m K dk x pos fs) (hK : K ≤ 1000000) : ∀ (gs fs0 : List (List Wr)) (d : Dv) (fuel : Nat), fs = fs0 ++ gs → d.Ok → d.dead = false → d.disk = dk → d.pend = natW fs0.flatten → gs.length < fuel →
    ((replay fuel d ⟨x, pos, x.s + fs0.length, total fs0⟩).1 = 0 ∧ Up n m K (replay fuel d ⟨x, pos, x.s + fs0.length, total fs0⟩).2.1 ⟨x, pos, x.s + fs.length, total fs⟩ fs ∧ (replay fuel d ⟨x, pos, x.s + fs0.length, total fs0⟩).2.2 = ⟨x, pos, x.s + fs.length, total fs⟩ ∧ (d.fuse = -1 → (replay fuel d ⟨x, pos, x.s + fs0.length, total fs0⟩).2.1.fuse = -1)) ∨
    ((replay fuel d ⟨x, pos, x.s + fs0.length, total fs0⟩).1 = 4 ∧ Gone n K (· = m) (replay fuel d ⟨x, pos, x.s + fs0.length, total fs0⟩).2.1 ∧ d.fuse ≠ -1)
  | [], fs0, d, fuel, he, hok, ha, hd, hp, hf => by
    rw [List.append_nil] at he
    subst he
    obtain ⟨k, rfl⟩ : ∃ k, fuel = k + 1 := ⟨fuel - 1, by simp at hf; omega⟩
    have hn : frameR d ⟨x, pos, x.s + fs.length, total fs⟩ = none := Rp.done (by rw [hd]; exact hI) ha hp
    have hr : replay (k + 1) d ⟨x, pos, x.s + fs.length, total fs⟩ = (0, d, ⟨x, pos, x.s + fs.length, total fs⟩) := by rw [replay, hn]
    rw [hr]
    left
    refine ⟨rfl, ⟨hok, ha, by rw [hd]; exact hI, rfl, rfl, by rw [hp]; exact flat_homeP (gs := []) (by simp) hI.good, by rw [hp]; have := flat_few fs; have := hI.room; omega, fun b h52 hbn => ?_⟩, rfl, fun h => h⟩
    rw [hp, hd]
    by_cases hw : wrote fs b
    · rw [lastW_wrote _ _ _ [] hw]; exact hI.last b h52 hbn hw
    · rw [lastW_not _ _ _ hw]; exact hI.home b h52 hbn hw
  | l :: gs, fs0, d, fuel, he, hok, ha, hd, hp, hf => by
    obtain ⟨k, rfl⟩ : ∃ k, fuel = k + 1 := ⟨fuel - 1, by simp at hf; omega⟩
    have hg : GoodW n l := hI.good l (by rw [he]; simp)
    have hn : frameR d ⟨x, pos, x.s + fs0.length, total fs0⟩ = some (natW l) := Rp.frame he (by rw [hd]; exact hI) ha hp hK
    have htk : Takes d.disk.length (intW' (natW l)) := by
      rw [hd, hI.len]
      intro p hp'
      obtain ⟨q, hq, rfl⟩ := List.mem_map.1 hp'
      have := hg.nat q hq
      exact ⟨by show (0 : Int) ≤ ((q.1 : Nat) : Int); omega, by show ((q.1 : Nat) : Int) < (n : Int); omega, this.2.2⟩
    have hs := wrs_spec (intW' (natW l)) d hok ha htk
    rw [natW_intW'] at hs
    obtain ⟨⟨o1, d1⟩, hs⟩ := hs
    have he' : fs = (fs0 ++ [l]) ++ gs := by rw [he]; simp
    rcases hs with ⟨a1, a2, a3, a4⟩ | ⟨a1, a2, a3, q, a4⟩
    · have hr : replay (k + 1) d ⟨x, pos, x.s + fs0.length, total fs0⟩ = replay k (wrs d (intW' (natW l))).2 ⟨x, pos, x.s + (fs0 ++ [l]).length, total (fs0 ++ [l])⟩ := by
        rw [replay, hn]
        simp only
        rw [if_pos a1]
        congr 1
        unfold advJ
        simp only [natW_length]
        congr 1
        · simp; omega
        · rw [total_append]; rfl
      rw [hr]
      have ih := replay_spec hI hK gs (fs0 ++ [l]) (wrs d (intW' (natW l))).2 k he' o1 a2 (d1.trans hd) (by rw [a3, hp, List.flatten_append, natW_append]; simp) (by simp at hf; omega)
      rcases ih with ⟨i1, i2, i3, i4⟩ | ⟨i1, i2, i3⟩
      · exact .inl ⟨i1, i2, i3, fun hh => i4 (a4 hh)⟩
      · exact .inr ⟨i1, i2, fun hh => i3 (a4 hh)⟩
    · right
      have hr : replay (k + 1) d ⟨x, pos, x.s + fs0.length, total fs0⟩ = ((wrs d (intW' (natW l))).1, (wrs d (intW' (natW l))).2, ⟨x, pos, x.s + fs0.length, total fs0⟩) := by
        rw [replay, hn]
        simp only
        rw [if_neg (by omega)]
      rw [hr]
      have hH : HomeP n fs (wrs d (intW' (natW l))).2.pend := by
        rw [a4, hp]
        have h1 := flat_homeP (fs0 := fs0 ++ [l]) he' hI.good
        rw [List.flatten_append, natW_append] at h1
        intro p hp'
        refine h1 p ?_
        rcases List.mem_append.1 hp' with h5 | h5
        · exact List.mem_append.2 (.inl h5)
        · exact List.mem_append.2 (.inr (by simpa using List.mem_of_mem_take h5))
      refine ⟨a1, ⟨o1, a2, by show (wrs d (intW' (natW l))).2.disk.length = n; rw [d1, hd]; exact hI.len, ?_, ?_⟩, a3⟩
      · show (wrs d (intW' (natW l))).2.pend.length ≤ 200
        have h1 := flat_few fs0
        have h2 := hI.room
        have h3 : total fs = total fs0 + ((l.length + 1) + total gs) := by rw [he, total_append]; rfl
        rw [a4, hp, List.length_append, List.length_take, natW_length l]; omega
      · show Safe n K (· = m) (wrs d (intW' (natW l))).2.disk (wrs d (intW' (natW l))).2.pend
        rw [d1, hd]
        exact fun keep torn c hc => ⟨m, x, pos, fs, rfl, hI.crash_home hH keep torn c hc⟩
/-- The slot that counts. -/
theorem choose_spec {x : Sl} {pos : Nat} (hI : Inv n m K d.disk x pos fs) (hK : K ≤ 1000000) (ha : d.dead = false) (hp : d.pend = []) : choose d = some (x, pos) := by
  have hlo := hI.lo
  have hlen := hI.len
  have hf := (hI.fit hK).1
  have hr : ∀ b, b < n → readT d ((b : Nat) : Int) = d.disk.getD b [] := fun b hb => by
    have hin : inD d ((b : Nat) : Int) = true := by unfold inD; rw [decide_eq_true (by omega), decide_eq_true (by omega)]; rfl
    unfold readT
    rw [ha, hin, Int.toNat_natCast, hp]; rfl
  have hx : cand d pos = some x := by
    have hpos := hI.pos1
    unfold cand
    rw [hr pos (by omega), hI.here, slotOf_slotT x hf, okB_slotT x hf _ (by rw [hI.log]; omega) (by rw [hI.log]; omega) (by rw [hI.log]; exact hI.pl)]; rfl
  have hy : ∀ y, cand d (1 - pos) = some y → y.e < x.e := by
    intro y hy
    unfold cand at hy
    rw [hr (1 - pos) (by omega)] at hy
    split at hy
    · rename_i hb
      simp only [Option.some.injEq] at hy
      subst hy
      exact hI.other.older hb
    · cases hy
  have hpos := hI.pos1
  unfold choose
  rcases Nat.lt_or_ge pos 1 with h0 | h0
  · obtain rfl : pos = 0 := by omega
    rw [hx]
    rw [show 1 - 0 = 1 from rfl] at hy
    cases hc : cand d 1 with
    | none => rfl
    | some y =>
      have := hy y hc
      simp only
      rw [if_neg (by omega)]
  · obtain rfl : pos = 1 := by omega
    rw [hx]
    rw [show 1 - 1 = 0 from rfl] at hy
    cases hc : cand d 0 with
    | none => rfl
    | some y =>
      have := hy y hc
      simp only
      rw [if_pos (by omega)]
/-- Open. -/
theorem open_spec {x : Sl} {pos : Nat} (hI : Inv n m K d.disk x pos fs) (hK : K ≤ 999999) (hok : d.Ok) (ha : d.dead = false) (hp : d.pend = []) :
    (∃ d' j', openP d = (0, d', some j') ∧ Ready n m (K + 1) d' j' [] ∧ d'.pend = [] ∧ j'.next = x.s + fs.length ∧ (d.fuse = -1 → d'.fuse = -1)) ∨
    (∃ d', openP d = (4, d', none) ∧ Gone n (K + 1) (· = m) d' ∧ d.fuse ≠ -1) := by
  have hch := choose_spec hI (by omega) ha hp
  have hfl : fs.length ≤ total fs := by
    have : ∀ fs : List (List Wr), fs.length ≤ total fs := by
      intro fs
      induction fs with
      | nil => exact Nat.le_refl _
      | cons l fs ih => rw [List.length_cons, total]; omega
    exact this fs
  have hroom := hI.room
  have hR := replay_spec hI (by omega) fs [] d 60 (by simp) hok ha rfl (by rw [hp]; rfl) (by omega)
  have e0 : (⟨x, pos, x.s + ([] : List (List Wr)).length, total []⟩ : Jn) = ⟨x, pos, x.s, 0⟩ := rfl
  rw [e0] at hR
  have hO : openP d = if (replay 60 d ⟨x, pos, x.s, 0⟩).1 = 0 then
        (if (Go.Jrn.ckpt (replay 60 d ⟨x, pos, x.s, 0⟩).2.1 (replay 60 d ⟨x, pos, x.s, 0⟩).2.2).1 = 0 then (0, (Go.Jrn.ckpt (replay 60 d ⟨x, pos, x.s, 0⟩).2.1 (replay 60 d ⟨x, pos, x.s, 0⟩).2.2).2.1, some (Go.Jrn.ckpt (replay 60 d ⟨x, pos, x.s, 0⟩).2.1 (replay 60 d ⟨x, pos, x.s, 0⟩).2.2).2.2)
         else ((Go.Jrn.ckpt (replay 60 d ⟨x, pos, x.s, 0⟩).2.1 (replay 60 d ⟨x, pos, x.s, 0⟩).2.2).1, (Go.Jrn.ckpt (replay 60 d ⟨x, pos, x.s, 0⟩).2.1 (replay 60 d ⟨x, pos, x.s, 0⟩).2.2).2.1, none))
      else ((replay 60 d ⟨x, pos, x.s, 0⟩).1, (replay 60 d ⟨x, pos, x.s, 0⟩).2.1, none) := by
    unfold openP
    rw [ha, hch]; rfl
  rw [hO]
  generalize replay 60 d ⟨x, pos, x.s, 0⟩ = r at *
  obtain ⟨r1, r2, r3⟩ := r
  simp only at hR ⊢
  rcases hR with ⟨i1, i2, i3, i4⟩ | ⟨i1, i2, i3⟩
  · rw [if_pos i1, i3]
    rcases i2.ckpt hK with ⟨c1, c2, c3, c4, c5⟩ | ⟨c1, c2, c3, c4⟩
    · rw [if_pos c1]
      exact .inl ⟨_, _, rfl, c2, c4, by rw [c3]; rfl, fun h => c5 (i4 h)⟩
    · rw [if_neg (by omega), c1]
      exact .inr ⟨_, rfl, c2, fun h => c4 (i4 h)⟩
  · rw [if_neg (by omega), i1]
    exact .inr ⟨_, rfl, i2.mono (by omega) (fun _ h => h), i3⟩
end
/-! ### Format -/
/-- The device that Format makes. -/
theorem form_spec (n : Nat) (h0 : 53 ≤ n) (h1 : n ≤ 4096) : ∃ d, formE (newD n) 50 = (0, d) ∧ d.Ok ∧ d.dead = false ∧ d.pend = [] ∧ d.fuse = -1 ∧ Inv n (fun _ => zeros) 1 d.disk ⟨1, 1, 50, 0⟩ 0 [] := by
  have hlen : (newD n).disk.length = n := by simp [newD]
  have hok := newD_ok n (by omega) h1
  have hT : Takes (newD n).disk.length (formW 50) := by
    rw [hlen]
    intro p hp
    unfold formW at hp
    rcases List.mem_append.1 hp with hp | hp
    · obtain ⟨i, hi, rfl⟩ := List.mem_map.1 hp
      rw [List.mem_range] at hi
      exact ⟨by show (0 : Int) ≤ ((i + 1 : Nat) : Int); omega, by show ((i + 1 : Nat) : Int) < (n : Int); omega, zeros_length⟩
    · rw [List.mem_singleton.1 hp]
      exact ⟨Int.le_refl _, by show (0 : Int) < (n : Int); omega, slotT_length _⟩
  have hE : formE (newD n) 50 = lays (newD n) (formW 50) := by unfold formE; rw [if_pos ⟨Nat.le_refl _, by rw [hlen]; omega⟩]
  obtain ⟨o1, hs⟩ := lays_spec (newD n) (formW 50) hok rfl hT
  rcases hs with ⟨a1, a2, a3, a4, a5⟩ | ⟨_, _, a3, _⟩
  · refine ⟨(lays (newD n) (formW 50)).2, by rw [hE, ← a1], o1, a2, a3, a5 rfl, ?_⟩
    have hz : ∀ b, b < n → (newD n).disk.getD b [] = zeros := fun b hb => by
      simp only [newD, List.getD_eq_getElem?_getD]
      rw [List.getElem?_replicate, if_pos hb]; rfl
    have hfit : (⟨1, 1, 50, 0⟩ : Sl).Fit := ⟨by simp, by simp, by simp, by simp⟩
    have hnat : natW (formW 50) = ((List.range 51).map fun i => (i + 1, zeros)) ++ [(0, slotT ⟨1, 1, 50, 0⟩)] := by
      unfold formW natW
      rw [List.map_append, List.map_map]
      congr 1
    have get : ∀ b, b < n → (lays (newD n) (formW 50)).2.disk.getD b [] = if b = 0 then slotT ⟨1, 1, 50, 0⟩ else zeros := fun b hb => by
      rw [a4, lay_block _ _ _ (by rw [hlen]; exact hb), hz b hb]
      show lastW (natW (formW 50)) b zeros = _
      rw [hnat, lastW_append]
      show (if 0 = b then _ else _) = _
      by_cases h : b = 0
      · rw [if_pos h.symm, if_pos h]
      · rw [if_neg (Ne.symm h), if_neg h]
        exact lastW_all (P := fun s => s = zeros) _ _ _ rfl (fun p hp => by
          obtain ⟨i, _, rfl⟩ := List.mem_map.1 hp; rfl)
    refine ⟨h0, h1, by rw [a4, lay_length, hlen], o1.disk, by omega, rfl, by simp, Nat.le_refl _, by simp, ?_, ?_, by simp, by simp [total], ?_, ?_, ?_, ?_⟩
    · rw [get 0 (by omega)]; rfl
    · rw [get 1 (by omega)]
      refine clean_other ?_ (by simp [newSl]) (.inl rfl)
      refine ⟨?_, ?_, ?_, ?_⟩ <;> simp [newSl, total]
    · intro k hk; simp [total] at hk
    · have := loc_lt ⟨1, 1, 50, 0⟩ (total [])
      rw [get _ (by omega), if_neg (by omega)]; exact zeros_nohead
    · intro b h52 hbn _; rw [get b hbn, if_neg (by omega)]
    · intro b _ _ hw; exact absurd hw (not_wrote_nil b)
  · exact absurd rfl a3
/-- Behind a crash of a journal. -/
theorem Up.crash {n K : Nat} {m : Nat → Txt} {d : Dv} {j : Jn} {fs : List (List Wr)} (h : Up n m K d j fs) (keep : List Bool) (torn cut : Int) : ∃ m' x pos fs', m' = m ∧ Inv n m' K (crashD d keep torn cut).disk x pos fs' :=
  h.safe keep torn (cutN cut) (cutN_le cut)
theorem Gone.crash {n K : Nat} {M : (Nat → Txt) → Prop} {d : Dv} (h : Gone n K M d) (keep : List Bool) (torn cut : Int) : ∃ m' x pos fs', M m' ∧ Inv n m' K (crashD d keep torn cut).disk x pos fs' :=
  h.safe keep torn (cutN cut) (cutN_le cut)
end Go.Jrn
