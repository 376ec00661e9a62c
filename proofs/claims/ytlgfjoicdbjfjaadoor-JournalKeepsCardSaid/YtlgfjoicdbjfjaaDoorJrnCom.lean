/- Chapter 4: a commit, whatever a crash keeps of it: all or nothing. No conditions. -/
import Derived.Test.YtlgfjoicdbjfjaaDoorJrnInv
namespace Go.Jrn
open Go.Wir Go.Blk Go.Frm

/-- What a row of writes makes of home. -/
def upd (m : Nat → Txt) (l : List Wr) (b : Nat) : Txt := lastW (natW l) b (m b)
theorem logF_mem (j : Jn) : ∀ (L : List Txt) (k : Nat) (p : Nat × Txt), p ∈ natW (logF j k L) → ∃ i, ∃ h : i < L.length, p = (placeN j (k + i), L[i])
  | [], _, p, h => by simp [logF, natW] at h
  | s :: L, k, p, h => by
    have hn : natW (logF j k (s :: L)) = (placeN j k, s) :: natW (logF j (k + 1) L) := by
      show (((placeN j k : Nat) : Int).toNat, s) :: natW (logF j (k + 1) L) = _
      rw [Int.toNat_natCast]
    rw [hn] at h
    rcases List.mem_cons.1 h with rfl | h
    · exact ⟨0, by simp, rfl⟩
    · obtain ⟨i, hi, rfl⟩ := logF_mem j L (k + 1) p h
      exact ⟨i + 1, by simpa using hi, by rw [List.getElem_cons_succ, show k + 1 + i = k + (i + 1) by omega]⟩
theorem logF_last (j : Jn) (hne : ∀ a b, a < b → b < 50 - j.used → placeN j a ≠ placeN j b) : ∀ (L : List Txt) (k i : Nat) (hi : i < L.length) (s : Txt), k + L.length ≤ 50 - j.used → lastW (natW (logF j k L)) (placeN j (k + i)) s = L[i]
  | [], _, i, hi, _, _ => by simp at hi
  | t :: L, k, i, hi, s, hk => by
    have hn : natW (logF j k (t :: L)) = (placeN j k, t) :: natW (logF j (k + 1) L) := by
      show (((placeN j k : Nat) : Int).toNat, t) :: natW (logF j (k + 1) L) = _
      rw [Int.toNat_natCast]
    rw [hn]
    rw [List.length_cons] at hk
    show lastW (natW (logF j (k + 1) L)) (placeN j (k + i)) (if placeN j k = placeN j (k + i) then t else s) = _
    cases i with
    | zero =>
      rw [show k + 0 = k from rfl, if_pos rfl, List.getElem_cons_zero]
      refine lastW_none _ _ _ (fun p hp e => ?_)
      obtain ⟨i, hi, rfl⟩ := logF_mem j L (k + 1) p hp
      exact hne k (k + 1 + i) (by omega) (by omega) e.symm
    | succ i =>
      rw [show k + (i + 1) = k + 1 + i by omega, List.getElem_cons_succ]
      exact logF_last j hne L (k + 1) i (by simpa using hi) _ (by omega)
theorem logF_length (j : Jn) : ∀ (L : List Txt) (k : Nat), (logF j k L).length = L.length
  | [], _ => rfl
  | s :: L, k => by rw [logF, List.length_cons, logF_length j L, List.length_cons]
section
variable {n K : Nat} {m : Nat → Txt} {d : Dv} {j : Jn} {fs : List (List Wr)} {l : List Wr}
theorem Up.places (h : Up n m K d j fs) : ∀ a b, a < b → b < 50 - j.used → placeN j a ≠ placeN j b := fun a b hab hb => by
  rw [h.place, h.place]
  have hr := h.inv.room
  have hu := h.used
  exact loc_ne _ (by omega) (by omega) (by omega)
theorem logs_256 (hg : GoodW n l) : ∀ i (h : i < (datas l ++ [zeros]).length), ((datas l ++ [zeros])[i]).length = 256 := fun i h => by
  have hm := List.getElem_mem h
  rcases List.mem_append.1 hm with hm | hm
  · obtain ⟨p, hp, e⟩ := List.mem_map.1 hm
    rw [← e]; exact (hg.2.2 p hp).2.2
  · rw [List.mem_singleton.1 hm]; exact zeros_length
theorem logL_length (l : List Wr) : (datas l ++ [zeros]).length = l.length + 1 := by simp [datas_length]
theorem Up.logW_takes (h : Up n m K d j fs) (hg : GoodW n l) : Takes n (logW j l) := fun p hp => by
  have hq : (p.1.toNat, p.2) ∈ natW (logF j 1 (datas l ++ [zeros])) := List.mem_map.2 ⟨p, hp, rfl⟩
  obtain ⟨i, hi, e⟩ := logF_mem j _ _ _ hq
  have h0 : ∀ (L : List Txt) (k : Nat), ∀ q ∈ logF j k L, 0 ≤ q.1 := by
    intro L
    induction L with
    | nil => intro k q hq; simp [logF] at hq
    | cons s L ih =>
      intro k q hq
      rcases List.mem_cons.1 hq with rfl | hq
      · show (0 : Int) ≤ ((placeN j k : Nat) : Int); omega
      · exact ih _ q hq
  have hz := h0 _ _ p hp
  simp only [Prod.mk.injEq] at e
  have hlt := loc_lt j.x (total fs + (1 + i))
  rw [h.place] at e
  have hlo := h.inv.lo
  exact ⟨hz, by omega, by rw [e.2]; exact logs_256 hg i hi⟩
/-- A crash while a frame's blocks are written. -/
theorem Up.comA_safe (h : Up n m K d j fs) (hg : GoodW n l) (hroom : total fs + l.length + 2 ≤ 50) (k : Nat) : Safe n K (· = m) d.disk (d.pend ++ (natW (logW j l)).take k) := by
  intro keep torn c hc
  have hlo := h.inv.lo
  have hlen := h.inv.len
  have hmem : ∀ p ∈ d.pend ++ (natW (logW j l)).take k, p ∈ d.pend ∨ ∃ i, i ≤ l.length ∧ p.1 = loc j.x (total fs + (1 + i)) ∧ p.2.length = 256 := fun p hp => by
    rcases List.mem_append.1 hp with hp | hp
    · exact .inl hp
    · obtain ⟨i, hi, rfl⟩ := logF_mem j _ _ _ (List.mem_of_mem_take hp)
      refine .inr ⟨i, ?_, h.place _, logs_256 hg i hi⟩
      rw [logL_length] at hi; omega
  generalize d.pend ++ (natW (logW j l)).take k = P at hmem
  obtain ⟨h1, h2⟩ := crash_len keep torn c hc P h.inv.len h.inv.all (fun p hp => by
    rcases hmem p hp with hp | ⟨i, _, e, h5⟩
    · exact ⟨(h.pend p hp).2.1, (h.pend p hp).2.2.1⟩
    · have := loc_lt j.x (total fs + (1 + i))
      exact ⟨by omega, h5⟩)
  have far : ∀ b, b < 52 → (∀ i, i ≤ l.length → b ≠ loc j.x (total fs + (1 + i))) → (crashL keep torn c 0 P d.disk).getD b [] = d.disk.getD b [] := fun b hb hne => crash_far keep torn c b P d.disk (by omega) (fun p hp e => by
    rcases hmem p hp with hp | ⟨i, hi, e5, _⟩
    · have := (h.pend p hp).1; omega
    · exact hne i hi (by omega))
  have far2 : ∀ b, b < 2 → (crashL keep torn c 0 P d.disk).getD b [] = d.disk.getD b [] := fun b hb => far b (by omega) (fun i _ => by have := loc_lt j.x (total fs + (1 + i)); omega)
  have far3 : ∀ k, k ≤ total fs → (crashL keep torn c 0 P d.disk).getD (loc j.x k) [] = d.disk.getD (loc j.x k) [] := fun k hk => far _ (loc_lt j.x k).2 (fun i hi => loc_ne j.x (by omega) (by omega) (by omega))
  have hp1 := h.inv.pos1
  refine ⟨m, j.x, j.pos, fs, rfl, h.inv.change h1 h2 (far2 _ (by omega)) ((far2 (1 - j.pos) (by omega)) ▸ h.inv.other) (fun i hi => far3 i (by omega)) (by rw [far3 _ (Nat.le_refl _)]; exact h.inv.stop) (fun b h52 hbn hw => ?_)⟩
  rw [crash_far keep torn c b P d.disk (by omega) (fun p hp e => ?_)]
  · exact h.inv.home b h52 hbn hw
  · rcases hmem p hp with hp | ⟨i, hi, e5, _⟩
    · exact hw (e ▸ (h.pend p hp).2.2.2)
    · have := loc_lt j.x (total fs + (1 + i)); omega
/-- Behind the first flush of a commit. -/
theorem Up.comA_flush (h : Up n m K d j fs) (hg : GoodW n l) (hroom : total fs + l.length + 2 ≤ 50) {dk : List Txt} (hdk : dk = lay d.disk (d.pend ++ natW (logW j l))) :
    Inv n m K dk j.x j.pos fs ∧ (∀ b, 52 ≤ b → b < n → dk.getD b [] = m b) ∧ (∀ b, b < 2 → dk.getD b [] = d.disk.getD b []) ∧ dk.getD (loc j.x (total fs)) [] = d.disk.getD (loc j.x (total fs)) [] ∧ ∀ i (hi : i < (datas l ++ [zeros]).length), dk.getD (loc j.x (total fs + (1 + i))) [] = (datas l ++ [zeros])[i] := by
  have hlo := h.inv.lo
  have hlen := h.inv.len
  have get : ∀ b, b < n → dk.getD b [] = lastW (natW (logW j l)) b (lastW d.pend b (d.disk.getD b [])) := fun b hb => by
    rw [hdk, lay_block _ _ _ (by omega), lastW_append]
  have hll := logL_length l
  have farL : ∀ b, (∀ i, i ≤ l.length → b ≠ loc j.x (total fs + (1 + i))) → ∀ s, lastW (natW (logW j l)) b s = s := fun b hne s => lastW_none _ _ _ (fun p hp e => by
    obtain ⟨i, hi, rfl⟩ := logF_mem j _ _ _ hp
    simp only [h.place] at e
    exact hne i (by omega) e.symm)
  have farP : ∀ b, b < 52 → ∀ s, lastW d.pend b s = s := fun b hb s => lastW_none _ _ _ (fun p hp e => by have := (h.pend p hp).1; omega)
  have far : ∀ b, b < 52 → (∀ i, i ≤ l.length → b ≠ loc j.x (total fs + (1 + i))) → dk.getD b [] = d.disk.getD b [] := fun b hb hne => by
    rw [get b (by omega), farL b hne, farP b hb]
  have far2 : ∀ b, b < 2 → dk.getD b [] = d.disk.getD b [] := fun b hb => far b (by omega) (fun i _ => by have := loc_lt j.x (total fs + (1 + i)); omega)
  have far3 : ∀ k, k ≤ total fs → dk.getD (loc j.x k) [] = d.disk.getD (loc j.x k) [] := fun k hk => far _ (loc_lt j.x k).2 (fun i hi => loc_ne j.x (by omega) (by omega) (by omega))
  have hm : ∀ b, 52 ≤ b → b < n → dk.getD b [] = m b := fun b h52 hbn => by
    rw [get b hbn, farL b (fun i _ => by have := loc_lt j.x (total fs + (1 + i)); omega)]
    exact h.now b h52 hbn
  have hp1 := h.inv.pos1
  have hda : ∀ s ∈ dk, s.length = 256 := by
    rw [hdk]
    refine lay_all _ _ h.inv.all (fun p hp => ?_)
    rcases List.mem_append.1 hp with hp | hp
    · exact (h.pend p hp).2.2.1
    · obtain ⟨i, hi, rfl⟩ := logF_mem j _ _ _ hp
      exact logs_256 hg i hi
  refine ⟨h.inv.change (by rw [hdk, lay_length, hlen]) hda (far2 _ (by omega)) ((far2 (1 - j.pos) (by omega)) ▸ h.inv.other) (fun i hi => far3 i (by omega)) (by rw [far3 _ (Nat.le_refl _)]; exact h.inv.stop) (fun b h52 hbn _ => hm b h52 hbn), hm, far2, far3 _ (Nat.le_refl _), fun i hi => ?_⟩
  have hlt := loc_lt j.x (total fs + (1 + i))
  rw [get _ (by omega), ← h.place]
  have hu := h.used
  exact logF_last j h.places _ 1 i hi _ (by rw [hll]; omega)
/-- A journal with one frame more. -/
theorem Inv.grown {dk dk' : List Txt} {x : Sl} {pos : Nat} (h : Inv n m K dk x pos fs) (hK : K ≤ 999999) (hc : Clean x.e (dk.getD (1 - pos) [])) (hg : GoodW n l) (hroom : total fs + l.length + 2 ≤ 50) (hl : dk'.length = n) (ha : ∀ s ∈ dk', s.length = 256)
    (hm : ∀ b, 52 ≤ b → b < n → dk.getD b [] = m b) (hd : ∀ i (hi : i < (datas l ++ [zeros]).length), dk.getD (loc x (total fs + (1 + i))) [] = (datas l ++ [zeros])[i])
    (hh : dk'.getD (loc x (total fs)) [] = headT (x.s + fs.length) (ats l) (datas l)) (hfar : ∀ b, b < n → b ≠ loc x (total fs) → dk'.getD b [] = dk.getD b []) : Inv n (upd m l) (K + 1) dk' x pos (fs ++ [l]) := by
  have hlo := h.lo
  have hpos := h.pos1
  have hll := loc_lt x (total fs)
  have hke := h.ke
  have hks := h.ks
  have hpl := h.pl
  have hf := h.fit (by omega)
  have ht : total (fs ++ [l]) = total fs + (l.length + 1) := by rw [total_append]; rfl
  have hn : (fs ++ [l]).length = fs.length + 1 := by simp
  have hF : framesT x.s (fs ++ [l]) = framesT x.s fs ++ frameT (x.s + fs.length) l := by rw [framesT_append]; simp [framesT]
  have hflat : natW (fs ++ [l]).flatten = natW fs.flatten ++ natW l := by rw [List.flatten_append, natW_append]; simp
  have hwl : ∀ b, wrote [l] b ↔ ∃ p ∈ natW l, p.1 = b := fun b => by unfold wrote; simp
  refine ⟨h.lo, h.hi, hl, ha, h.pos1, h.log, h.pl, by omega, by omega, ?_, ?_, ?_, by omega, ?_, ?_, ?_, ?_⟩
  · rw [hfar _ (by omega) (by omega)]; exact h.here
  · rw [hfar _ (by omega) (by omega)]
    refine clean_other ?_ ?_ hc
    · refine ⟨?_, ?_, ?_, ?_⟩ <;> simp only [newSl, hn] <;> omega
    · show x.e ≤ x.e + 1; omega
  · intro q hq
    rcases List.mem_append.1 hq with hq | hq
    · exact h.good q hq
    · rw [List.mem_singleton.1 hq]; exact hg
  · intro k hk
    rw [ht] at hk
    rw [hF]
    have hfl := framesT_length fs x.s
    rcases Nat.lt_trichotomy k (total fs) with h1 | h1 | h1
    · rw [hfar _ (by have := loc_lt x k; omega) (loc_ne x (by omega) (by omega) (by omega)), h.logs k h1]
      simp only [List.getD_eq_getElem?_getD]
      rw [List.getElem?_append_left (by omega)]
    · subst h1
      rw [hh]
      simp only [List.getD_eq_getElem?_getD]
      rw [List.getElem?_append_right (by omega), hfl, Nat.sub_self]; rfl
    · obtain ⟨i, rfl⟩ : ∃ i, k = total fs + (1 + i) := ⟨k - total fs - 1, by omega⟩
      have hi : i < (datas l ++ [zeros]).length := by rw [logL_length]; omega
      rw [hfar _ (by have := loc_lt x (total fs + (1 + i)); omega) (loc_ne x (by omega) (by omega) (by omega)), hd i hi]
      simp only [List.getD_eq_getElem?_getD]
      rw [List.getElem?_append_right (by omega), hfl, show total fs + (1 + i) - total fs = i + 1 by omega]
      unfold frameT
      have hi2 : i < (datas l).length := by rw [datas_length]; omega
      rw [List.getElem?_cons_succ, List.getElem?_eq_getElem hi2, List.getElem_append_left hi2]; rfl
  · have hi : l.length < (datas l ++ [zeros]).length := by rw [logL_length]; omega
    rw [ht, show total fs + (l.length + 1) = total fs + (1 + l.length) by omega, hfar _ (by have := loc_lt x (total fs + (1 + l.length)); omega) (loc_ne x (by omega) (by omega) (by omega)), hd _ hi]
    rw [List.getElem_append_right (by rw [datas_length]; omega)]
    simp only [datas_length, Nat.sub_self, List.getElem_cons_zero]
    exact zeros_nohead
  · intro b h52 hbn hw
    rw [wrote_append, hwl] at hw
    rw [hfar b hbn (by omega), hm b h52 hbn]
    unfold upd
    rw [lastW_not _ _ _ (fun h => hw (.inr h))]
  · intro b h52 hbn hw
    rw [hflat, lastW_append]
    unfold upd
    by_cases hwf : wrote fs b
    · rw [h.last b h52 hbn hwf]
    · rw [wrote_append, hwl] at hw
      exact lastW_wrote _ _ _ _ (hw.resolve_left hwf)
/-- A crash while a frame's head is written. -/
theorem Inv.comB_safe {dk : List Txt} {x : Sl} {pos : Nat} (h : Inv n m K dk x pos fs) (hK : K ≤ 999999) (hc : Clean x.e (dk.getD (1 - pos) [])) (hg : GoodW n l) (hroom : total fs + l.length + 2 ≤ 50)
    (hm : ∀ b, 52 ≤ b → b < n → dk.getD b [] = m b) (hz : dk.getD (loc x (total fs)) [] = zeros) (hd : ∀ i (hi : i < (datas l ++ [zeros]).length), dk.getD (loc x (total fs + (1 + i))) [] = (datas l ++ [zeros])[i]) (k : Nat) :
    Safe n (K + 1) (fun a => a = m ∨ a = upd m l) dk ([] ++ (natW [(((loc x (total fs) : Nat) : Int), headT (x.s + fs.length) (ats l) (datas l))]).take k) := by
  intro keep torn c hc6
  have hlo := h.lo
  have hlen := h.len
  have hpos := h.pos1
  have hll := loc_lt x (total fs)
  have hH : (headT (x.s + fs.length) (ats l) (datas l)).length = 256 := headT_length _ _ _ (by rw [ats_length]; exact hg.2.1)
  have hmem : ∀ p ∈ [] ++ (natW [(((loc x (total fs) : Nat) : Int), headT (x.s + fs.length) (ats l) (datas l))]).take k, p = (loc x (total fs), headT (x.s + fs.length) (ats l) (datas l)) := fun p hp => by
    rw [List.nil_append] at hp
    exact mem_one_take (k := k) hp
  generalize hHe : headT (x.s + fs.length) (ats l) (datas l) = H at *
  generalize [] ++ (natW [(((loc x (total fs) : Nat) : Int), H)]).take k = P at hmem
  obtain ⟨h1, h2⟩ := crash_len keep torn c hc6 P h.len h.all (fun p hp => by
    rw [hmem p hp]; exact ⟨by show loc x (total fs) < n; omega, hH⟩)
  have far : ∀ b, b < n → b ≠ loc x (total fs) → (crashL keep torn c 0 P dk).getD b [] = dk.getD b [] := fun b hb hne => crash_far keep torn c b P dk (by omega) (fun p hp e => by
    rw [hmem p hp] at e; exact hne e.symm)
  have hT : Torn H zeros ((crashL keep torn c 0 P dk).getD (loc x (total fs)) []) :=
    crash_block (Torn H zeros) keep torn c _ P 0 dk (by omega) (by rw [hz]; exact Torn.none _ _) (fun s hs => by
      have := hmem _ hs
      simp only [Prod.mk.injEq, true_and] at this
      subst this
      exact ⟨Torn.self hH zeros_length, fun t ht => ht.again hH c hc6⟩)
  obtain ⟨q, hq, ht⟩ := hT
  by_cases hw : q = 256
  · refine ⟨upd m l, x, pos, fs ++ [l], .inr rfl, h.grown hK hc hg hroom h1 h2 hm hd ?_ far⟩
    rw [ht, hw, hHe, List.take_of_length_le (by omega), List.drop_of_length_le (by rw [zeros_length]; omega), List.append_nil]
  · refine ⟨m, x, pos, fs, .inl rfl, (h.mono (Nat.le_succ K)).change h1 h2 (far _ (by omega) (by omega)) ((far (1 - pos) (by omega) (by omega)) ▸ h.other) (fun i hi => far _ ?_ (loc_ne x (by omega) (by omega) (by omega))) ?_ (fun b h52 hbn _ => ?_)⟩
    · have := loc_lt x i; omega
    · rw [ht]; exact nohead_torn q (by omega) H hH
    · rw [far b hbn (by omega)]; exact hm b h52 hbn
/-- A commit of a journal that has room. -/
theorem Ready.main (h : Ready n m K d j fs) (hK : K ≤ 999999) (hg : GoodW n l) (hroom : total fs + l.length + 2 ≤ 50) :
    ((comMain d j l).1 = 0 ∧ Ready n (upd m l) (K + 1) (comMain d j l).2.1 (advJ j l.length) (fs ++ [l]) ∧ (comMain d j l).2.2 = advJ j l.length ∧ (d.fuse = -1 → (comMain d j l).2.1.fuse = -1)) ∨
    ((comMain d j l).1 = 4 ∧ Gone n (K + 1) (fun a => a = m ∨ a = upd m l) (comMain d j l).2.1 ∧ d.fuse ≠ -1) := by
  have hlo := h.inv.lo
  have hhi := h.inv.hi
  have hlen := h.inv.len
  have hpos := h.inv.pos1
  have hpl0 := h.place 0
  rw [Nat.add_zero] at hpl0
  have hll := loc_lt j.x (total fs)
  have hH : (headT (j.x.s + fs.length) (ats l) (datas l)).length = 256 := headT_length _ _ _ (by rw [ats_length]; exact hg.2.1)
  have s1 := lays_spec d (logW j l) h.ok h.alive (by rw [hlen]; exact h.logW_takes hg)
  have f1 := h.comA_safe hg hroom
  have e1 : comD1 d j l = lays d (logW j l) := rfl
  have e2 : comD2 d j l = lays (comD1 d j l).2 [(((loc j.x (total fs) : Nat) : Int), headT (j.x.s + fs.length) (ats l) (datas l))] := by
    unfold comD2; rw [hpl0, h.next]
  rw [← e1] at s1
  obtain ⟨o1, s1⟩ := s1
  rcases s1 with ⟨a1, a2, a3, a4, a5⟩ | ⟨a1, a2, a3, a4, k, a5⟩
  · obtain ⟨v1, v2, v3, v4, v5⟩ := h.comA_flush hg hroom a4
    have hz : (comD1 d j l).2.disk.getD (loc j.x (total fs)) [] = zeros := by rw [v4, ← hpl0]; exact h.zero
    have hcl : Clean j.x.e ((comD1 d j l).2.disk.getD (1 - j.pos) []) := by rw [v3 _ (by omega)]; exact h.clean
    have s2 := lays_spec (comD1 d j l).2 [(((loc j.x (total fs) : Nat) : Int), headT (j.x.s + fs.length) (ats l) (datas l))] o1 a2 (one_takes (by rw [v1.len]; omega) hH)
    have f2 := v1.comB_safe hK hcl hg hroom v2 hz v5
    rw [← e2] at s2
    obtain ⟨o2, s2⟩ := s2
    rcases s2 with ⟨b1, b2, b3, b4, b5⟩ | ⟨b1, b2, b3, b4, k, b5⟩
    · have hnat : natW [(((loc j.x (total fs) : Nat) : Int), headT (j.x.s + fs.length) (ats l) (datas l))] = [(loc j.x (total fs), headT (j.x.s + fs.length) (ats l) (datas l))] := by
        unfold natW; rw [List.map_cons, List.map_nil, Int.toNat_natCast]
      rw [a3, hnat, List.nil_append] at b4
      have get : ∀ b, b < n → (comD2 d j l).2.disk.getD b [] = (if loc j.x (total fs) = b then headT (j.x.s + fs.length) (ats l) (datas l) else (comD1 d j l).2.disk.getD b []) := fun b hb => by
        rw [b4, lay_block _ _ _ (by rw [v1.len]; exact hb)]; rfl
      have hin : (comD2 d j l).2.disk.getD (loc j.x (total fs)) [] = headT (j.x.s + fs.length) (ats l) (datas l) := by rw [get _ (by omega), if_pos rfl]
      have hfar : ∀ b, b < n → b ≠ loc j.x (total fs) → (comD2 d j l).2.disk.getD b [] = (comD1 d j l).2.disk.getD b [] := fun b hb hne => by rw [get b hb, if_neg (Ne.symm hne)]
      have hI := v1.grown hK hcl hg hroom (dk' := (comD2 d j l).2.disk) (by rw [b4, lay_length, v1.len]) (by
        rw [b4]
        refine lay_all _ _ v1.all (fun p hp => ?_)
        rw [List.mem_singleton.1 hp]; exact hH) v2 v5 hin hfar
      have hHP : HomeP n (fs ++ [l]) (natW l) := fun p hp => by
        have := hg.nat p hp
        exact ⟨this.1, this.2.1, this.2.2, (wrote_append _ _ _).2 (.inr ⟨p, by simpa using hp, rfl⟩)⟩
      have s3 := wrs_spec l (comD2 d j l).2 o2 b2 (by rw [hI.len]; exact hg.takes)
      rw [b3, List.nil_append] at s3
      have hr : comMain d j l = ((wrs (comD2 d j l).2 l).1, (wrs (comD2 d j l).2 l).2, advJ j l.length) := by unfold comMain; rw [if_pos a1, if_pos b1]
      rw [hr]
      obtain ⟨⟨o3, d3⟩, s3⟩ := s3
      rcases s3 with ⟨c1, c2, c3, c4⟩ | ⟨c1, c2, c3, k, c4⟩
      · left
        refine ⟨c1, ⟨⟨o3, c2, ?_, ?_, ?_, ?_, ?_, ?_⟩, ?_, ?_⟩, rfl, fun hf => c4 (b5 (a5 hf))⟩
        · show Inv n (upd m l) (K + 1) (wrs (comD2 d j l).2 l).2.disk j.x j.pos (fs ++ [l])
          rw [d3]; exact hI
        · show j.next + 1 = j.x.s + (fs ++ [l]).length
          rw [h.next]; simp; omega
        · show j.used + (l.length + 1) = total (fs ++ [l])
          rw [h.used, total_append]; rfl
        · show HomeP n (fs ++ [l]) (wrs (comD2 d j l).2 l).2.pend
          rw [c3]; exact hHP
        · show (wrs (comD2 d j l).2 l).2.pend.length ≤ 50
          rw [c3, natW_length]; have := hg.2.1; omega
        · intro b h52 hbn
          show lastW (wrs (comD2 d j l).2 l).2.pend b ((wrs (comD2 d j l).2 l).2.disk.getD b []) = upd m l b
          rw [c3, d3, hfar b hbn (by omega), v2 b h52 hbn]; rfl
        · have hpl : placeN (advJ j l.length) 0 = loc j.x (total fs + (1 + l.length)) := by
            show 2 + (j.x.p + (j.used + (l.length + 1)) + 0) % j.x.log = _
            rw [h.inv.log, h.used]; unfold loc; congr 2; omega
          show (wrs (comD2 d j l).2 l).2.disk.getD (placeN (advJ j l.length) 0) [] = zeros
          have hi : l.length < (datas l ++ [zeros]).length := by rw [logL_length]; omega
          rw [hpl, d3, hfar _ (by have := loc_lt j.x (total fs + (1 + l.length)); omega) (loc_ne j.x (by omega) (by omega) (by omega)), v5 _ hi]
          rw [List.getElem_append_right (by rw [datas_length]; omega)]
          simp only [datas_length, Nat.sub_self, List.getElem_cons_zero]
        · show Clean j.x.e ((wrs (comD2 d j l).2 l).2.disk.getD (1 - j.pos) [])
          rw [d3, hfar _ (by omega) (by omega)]; exact hcl
      · right
        refine ⟨c1, ⟨o3, c2, by show (wrs (comD2 d j l).2 l).2.disk.length = n; rw [d3]; exact hI.len, ?_, ?_⟩, fun hf => c3 (b5 (a5 hf))⟩
        · show (wrs (comD2 d j l).2 l).2.pend.length ≤ 200
          rw [c4, List.nil_append, List.length_take, natW_length]; have := hg.2.1; omega
        · show Safe n (K + 1) _ (wrs (comD2 d j l).2 l).2.disk (wrs (comD2 d j l).2 l).2.pend
          rw [c4, d3, List.nil_append]
          exact fun keep torn c hc => ⟨upd m l, j.x, j.pos, fs ++ [l], .inr rfl, hI.crash_home (hHP.take k) keep torn c hc⟩
    · right
      have hr : comMain d j l = ((comD2 d j l).1, (comD2 d j l).2, j) := by unfold comMain; rw [if_pos a1, if_neg (by omega)]
      rw [hr]
      refine ⟨b1, ⟨o2, b2, by show (comD2 d j l).2.disk.length = n; rw [b4]; exact v1.len, ?_, ?_⟩, fun hf => b3 (a5 hf)⟩
      · show (comD2 d j l).2.pend.length ≤ 200
        rw [b5, a3, List.length_append, List.length_take, natW_length]; simp only [List.length_nil, List.length_cons]; omega
      · show Safe n (K + 1) _ (comD2 d j l).2.disk (comD2 d j l).2.pend
        rw [b4, b5, a3]
        exact f2 k
  · right
    have hr : comMain d j l = ((comD1 d j l).1, (comD1 d j l).2, j) := by unfold comMain; rw [if_neg (by omega)]
    rw [hr]
    refine ⟨a1, ⟨o1, a2, by show (comD1 d j l).2.disk.length = n; rw [a4]; exact hlen, ?_, ?_⟩, a3⟩
    · show (comD1 d j l).2.pend.length ≤ 200
      have hf := h.few
      have hgl := hg.2.1
      rw [a5, List.length_append, List.length_take, natW_length]
      unfold logW
      rw [logF_length, logL_length]; omega
    · show Safe n (K + 1) _ (comD1 d j l).2.disk (comD1 d j l).2.pend
      rw [a4, a5]
      exact (f1 k).mono (Nat.le_succ K) (fun _ h => .inl h)
end
end Go.Jrn
