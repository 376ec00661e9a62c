/- Chapter 4: what lies on a journal's device, whatever a crash keeps; a checkpoint. No conditions. -/
import Derived.Test.YtlgfjoicdbjfjaaDoorJrnLaws
namespace Go.Jrn
open Go.Wir Go.Blk Go.Frm

/-! ### frames of the log -/
def frameT (s : Nat) (l : List Wr) : List Txt := headT s (ats l) (datas l) :: datas l
theorem frameT_length (s : Nat) (l : List Wr) : (frameT s l).length = l.length + 1 := by simp [frameT, datas_length]
def framesT : Nat → List (List Wr) → List Txt
  | _, [] => []
  | s, l :: fs => frameT s l ++ framesT (s + 1) fs
def total : List (List Wr) → Nat
  | [] => 0
  | l :: fs => (l.length + 1) + total fs
theorem framesT_length : ∀ (fs : List (List Wr)) (s : Nat), (framesT s fs).length = total fs
  | [], _ => rfl
  | l :: fs, s => by rw [framesT, List.length_append, frameT_length, framesT_length fs, total]
theorem total_append : ∀ (a b : List (List Wr)), total (a ++ b) = total a + total b
  | [], b => by simp [total]
  | l :: a, b => by rw [List.cons_append, total, total_append a b, total]; omega
theorem framesT_append : ∀ (a b : List (List Wr)) (s : Nat), framesT s (a ++ b) = framesT s a ++ framesT (s + a.length) b
  | [], b, s => by simp [framesT]
  | l :: a, b, s => by
    rw [List.cons_append, framesT, framesT_append a b, framesT, List.append_assoc, List.length_cons]
    congr 3; omega
/-- Writes that may be committed. -/
def GoodW (n : Nat) (l : List Wr) : Prop := 0 < l.length ∧ l.length ≤ 48 ∧ ∀ p ∈ l, 52 ≤ p.1 ∧ p.1 < (n : Int) ∧ p.2.length = 256
theorem GoodW.fine {n : Nat} {l : List Wr} (h : GoodW n l) (hn : n ≤ 4096) : Fine l := fun p hp => by
  have := h.2.2 p hp
  exact ⟨by omega, this.2.2⟩
theorem GoodW.takes {n : Nat} {l : List Wr} (h : GoodW n l) : Takes n l := fun p hp => by
  have := h.2.2 p hp
  exact ⟨by omega, this.2.1, this.2.2⟩
theorem GoodW.nat {n : Nat} {l : List Wr} (h : GoodW n l) : ∀ p ∈ natW l, 52 ≤ p.1 ∧ p.1 < n ∧ p.2.length = 256 := by
  intro p hp
  obtain ⟨q, hq, rfl⟩ := List.mem_map.1 hp
  have := h.2.2 q hq
  exact ⟨by show 52 ≤ q.1.toNat; omega, by show q.1.toNat < n; omega, this.2.2⟩

/-! ### slots, clean and torn -/
def Clean (e : Nat) (o : Txt) : Prop := o = zeros ∨ ∃ y : Sl, y.Fit ∧ y.e < e ∧ o = slotT y
theorem Clean.length {e : Nat} {o : Txt} (h : Clean e o) : o.length = 256 := by
  rcases h with rfl | ⟨y, _, _, rfl⟩
  · exact zeros_length
  · exact slotT_length y
theorem Clean.doubled {e : Nat} {o : Txt} (h : Clean e o) : o.take 128 = o.drop 128 := by
  rcases h with rfl | ⟨y, _, _, rfl⟩
  · unfold zeros; rw [List.take_replicate, List.drop_replicate]; rfl
  · unfold slotT; rw [List.take_left' (halfT_length _), List.drop_left' (halfT_length _)]
theorem Clean.mono {e e' : Nat} {o : Txt} (h : Clean e o) (he : e ≤ e') : Clean e' o := by
  rcases h with rfl | ⟨y, h1, h2, rfl⟩
  · exact .inl rfl
  · exact .inr ⟨y, h1, by omega, rfl⟩
theorem Clean.older {e n : Nat} {o : Txt} (h : Clean e o) (hb : okB o n = true) : (slotOf o).e < e := by
  rcases h with rfl | ⟨y, h1, h2, rfl⟩
  · rw [okB_zeros] at hb; cases hb
  · rw [slotOf_slotT y h1]; exact h2
/-- A block on which a slot 'new' may have been torn. -/
def Torn (new o : Txt) (t : Txt) : Prop := ∃ c, c ≤ 256 ∧ t = new.take c ++ o.drop c
theorem Torn.again {new o t : Txt} (hn : new.length = 256) (h : Torn new o t) (c : Nat) (hc : c ≤ 256) : Torn new o (new.take c ++ t.drop c) := by
  obtain ⟨k, hk, rfl⟩ := h
  by_cases hkc : k ≤ c
  · refine ⟨c, hc, ?_⟩
    rw [List.drop_append, List.drop_of_length_le (by rw [List.length_take]; omega), List.nil_append, List.drop_drop, List.length_take]
    congr 2; omega
  · refine ⟨k, hk, ?_⟩
    rw [List.drop_append_of_le_length (by rw [List.length_take]; omega), ← List.append_assoc]
    congr 1
    have e1 : new.take c = (new.take k).take c := by rw [List.take_take, Nat.min_eq_left (by omega)]
    rw [e1, List.take_append_drop]
theorem Torn.self {new o : Txt} (hn : new.length = 256) (ho : o.length = 256) : Torn new o new := ⟨256, Nat.le_refl _, by rw [List.take_of_length_le (by omega), List.drop_of_length_le (by omega), List.append_nil]⟩
theorem Torn.none (new o : Txt) : Torn new o o := ⟨0, by omega, by simp⟩
theorem Torn.length {new o t : Txt} (hn : new.length = 256) (ho : o.length = 256) (h : Torn new o t) : t.length = 256 := by
  obtain ⟨c, hc, rfl⟩ := h
  rw [List.length_append, List.length_take, List.length_drop]; omega
def Other (y : Sl) (e : Nat) (t : Txt) : Prop := t ≠ slotT y ∧ ∃ o, Clean e o ∧ Torn (slotT y) o t
theorem half_eq {a b : Txt} (hda : a.take 128 = a.drop 128) (hdb : b.take 128 = b.drop 128) (h : a.take 128 = b.take 128) : a = b := by
  rw [← List.take_append_drop 128 a, ← List.take_append_drop 128 b, ← hda, ← hdb, h]
/-- What is torn is what it was, or none, or whole. -/
theorem Other.older {y : Sl} {e n : Nat} {t : Txt} (h : Other y e t) (hb : okB t n = true) : (slotOf t).e < e := by
  obtain ⟨hne, o, hc, c, hc6, rfl⟩ := h
  have hd := (okB_doubled hb).1
  have hn : (slotT y).take 128 = (slotT y).drop 128 := by unfold slotT; rw [List.take_left' (halfT_length _), List.drop_left' (halfT_length _)]
  have hl := slotT_length y
  have ho := hc.length
  generalize slotT y = new at *
  have htl : (new.take c ++ o.drop c).length = 256 := by rw [List.length_append, List.length_take, List.length_drop]; omega
  by_cases hk : c ≤ 128
  · have e1 : (new.take c ++ o.drop c).drop 128 = o.drop 128 := by
      rw [List.drop_append, List.drop_of_length_le (by rw [List.length_take]; omega), List.nil_append, List.drop_drop, List.length_take]
      congr 1; omega
    have e2 : new.take c ++ o.drop c = o := half_eq hd hc.doubled (by rw [hd, e1, hc.doubled])
    rw [e2] at hb ⊢
    exact hc.older hb
  · exfalso
    have e1 : (new.take c ++ o.drop c).take 128 = new.take 128 := by
      rw [List.take_append_of_le_length (by rw [List.length_take]; omega), List.take_take, Nat.min_eq_left (by omega)]
    exact hne (half_eq hd hn e1)
theorem clean_other {y : Sl} {e : Nat} {o : Txt} (hy : y.Fit) (he : e ≤ y.e) (h : Clean e o) : Other y e o := by
  refine ⟨fun hh => ?_, o, h, Torn.none _ _⟩
  rcases h with rfl | ⟨z, h1, h2, rfl⟩
  · have h2 : (slotT y).head? = zeros.head? := by rw [hh]
    have h3 : (slotT y).head? = some 67 := rfl
    have h4 : zeros.head? = some 0 := rfl
    rw [h3, h4] at h2
    exact absurd h2 (by decide)
  · have := congrArg slotOf hh
    rw [slotOf_slotT z h1, slotOf_slotT y hy] at this
    subst this; omega

/-! ### what lies on the device -/
def loc (x : Sl) (k : Nat) : Nat := 2 + (x.p + k) % 50
theorem loc_lt (x : Sl) (k : Nat) : 2 ≤ loc x k ∧ loc x k < 52 := by unfold loc; omega
theorem loc_ne (x : Sl) {a b : Nat} (ha : a < 50) (hb : b < 50) (h : a ≠ b) : loc x a ≠ loc x b := by unfold loc; omega
/-- The slot that a checkpoint would write. -/
def newSl (x : Sl) (fs : List (List Wr)) : Sl := ⟨x.e + 1, x.s + fs.length, 50, (x.p + total fs) % 50⟩
def wrote (fs : List (List Wr)) (b : Nat) : Prop := ∃ p ∈ natW fs.flatten, p.1 = b
structure Inv (n : Nat) (m : Nat → Txt) (K : Nat) (dk : List Txt) (x : Sl) (pos : Nat) (fs : List (List Wr)) : Prop where
  lo : 53 ≤ n
  hi : n ≤ 4096
  len : dk.length = n
  all : ∀ s ∈ dk, s.length = 256
  pos1 : pos ≤ 1
  log : x.log = 50
  pl : x.p < 50
  ke : x.e ≤ K
  ks : x.s + fs.length ≤ K
  here : dk.getD pos [] = slotT x
  other : Other (newSl x fs) x.e (dk.getD (1 - pos) [])
  good : ∀ l ∈ fs, GoodW n l
  room : total fs ≤ 49
  logs : ∀ k, k < total fs → dk.getD (loc x k) [] = (framesT x.s fs).getD k []
  stop : readL (dk.getD (loc x (total fs)) []) = none
  home : ∀ b, 52 ≤ b → b < n → ¬ wrote fs b → dk.getD b [] = m b
  last : ∀ b, 52 ≤ b → b < n → wrote fs b → lastW (natW fs.flatten) b [] = m b
section
variable {n K : Nat} {m : Nat → Txt} {dk dk' : List Txt} {x : Sl} {pos : Nat} {fs : List (List Wr)}
theorem Inv.mono {K' : Nat} (h : Inv n m K dk x pos fs) (hK : K ≤ K') : Inv n m K' dk x pos fs :=
  { h with ke := Nat.le_trans h.ke hK, ks := Nat.le_trans h.ks hK }
theorem Inv.fit (h : Inv n m K dk x pos fs) (hK : K ≤ 1000000) : x.Fit ∧ (newSl x fs).Fit := by
  have h1 := h.ke; have h2 := h.ks; have h3 := h.log; have h4 := h.pl
  refine ⟨⟨by omega, by omega, by omega, by omega⟩, ⟨?_, ?_, ?_, ?_⟩⟩ <;> simp only [newSl] <;> omega
theorem Inv.change (h : Inv n m K dk x pos fs) (hl : dk'.length = n) (ha : ∀ s ∈ dk', s.length = 256) (hs : dk'.getD pos [] = dk.getD pos []) (ho : Other (newSl x fs) x.e (dk'.getD (1 - pos) [])) (hlog : ∀ k, k < total fs → dk'.getD (loc x k) [] = dk.getD (loc x k) [])
    (hst : readL (dk'.getD (loc x (total fs)) []) = none) (hh : ∀ b, 52 ≤ b → b < n → ¬ wrote fs b → dk'.getD b [] = m b) : Inv n m K dk' x pos fs :=
  { h with len := hl, all := ha, here := hs.trans h.here, other := ho, logs := fun k hk => (hlog k hk).trans (h.logs k hk), stop := hst, home := hh }
/-- Pending writes at home, of blocks that the log writes. -/
def HomeP (n : Nat) (fs : List (List Wr)) (P : List (Nat × Txt)) : Prop := ∀ p ∈ P, 52 ≤ p.1 ∧ p.1 < n ∧ p.2.length = 256 ∧ wrote fs p.1
theorem crash_len (keep : List Bool) (torn : Int) (c : Nat) (hc : c ≤ 256) (P : List (Nat × Txt)) (hl : dk.length = n) (ha : ∀ s ∈ dk, s.length = 256) (hP : ∀ p ∈ P, p.1 < n ∧ p.2.length = 256) : (crashL keep torn c 0 P dk).length = n ∧ ∀ s ∈ crashL keep torn c 0 P dk, s.length = 256 :=
  ⟨by rw [crashL_length, hl], crashL_all keep torn c hc P 0 dk ha (by rw [hl]; exact hP)⟩
theorem zeros_nohead : readL zeros = none := by
  cases h : readL zeros with
  | none => rfl
  | some q =>
    obtain ⟨s, a⟩ := q
    obtain ⟨_, h2, _⟩ := readL_some h
    exact absurd h2 (by decide)
/-- What is torn over noughts, or by them, is no head. -/
theorem nohead_zeros (c : Nat) (hc : c ≤ 256) (t : Txt) (h : readL t = none) : readL (zeros.take c ++ t.drop c) = none := by
  by_cases h0 : c = 0
  · subst h0; simpa using h
  cases hr : readL (zeros.take c ++ t.drop c) with
  | none => rfl
  | some q =>
    obtain ⟨s, a⟩ := q
    obtain ⟨_, h2, _⟩ := readL_some hr
    have h3 := congrArg List.head? h2
    have h4 : ((zeros.take c ++ t.drop c).take 4).head? = some 0 := by
      obtain ⟨k, rfl⟩ : ∃ k, c = k + 1 := ⟨c - 1, by omega⟩
      rfl
    rw [h4] at h3
    exact absurd h3 (by decide)
theorem nohead_torn (c : Nat) (hc : c < 256) (t : Txt) (ht : t.length = 256) : readL (t.take c ++ zeros.drop c) = none := by
  cases hr : readL (t.take c ++ zeros.drop c) with
  | none => rfl
  | some q =>
    obtain ⟨s, a⟩ := q
    obtain ⟨_, _, h2, _⟩ := readL_some hr
    have h3 := congrArg (fun l => l.getD 3 0) h2
    simp only [List.getD_eq_getElem?_getD, List.getElem?_drop] at h3
    rw [List.getElem?_append_right (by rw [List.length_take]; omega), List.getElem?_drop, List.length_take, show c + (252 + 3 - min c t.length) = 255 by omega] at h3
    exact absurd h3 (by decide)
/-- A crash while writes at home are pending. -/
theorem Inv.crash_home (h : Inv n m K dk x pos fs) {P : List (Nat × Txt)} (hP : HomeP n fs P) (keep : List Bool) (torn : Int) (c : Nat) (hc : c ≤ 256) : Inv n m K (crashL keep torn c 0 P dk) x pos fs := by
  have hlo := h.lo
  have hlen := h.len
  obtain ⟨h1, h2⟩ := crash_len keep torn c hc P h.len h.all (fun p hp => ⟨(hP p hp).2.1, (hP p hp).2.2.1⟩)
  have far : ∀ b, b < 52 → (crashL keep torn c 0 P dk).getD b [] = dk.getD b [] := fun b hb => crash_far keep torn c b P dk (by omega) (fun p hp e => by have := (hP p hp).1; omega)
  have hp1 := h.pos1
  refine h.change h1 h2 (far _ (by omega)) ((far (1 - pos) (by omega)) ▸ h.other) (fun k _ => far _ (loc_lt x k).2) ((far _ (loc_lt x _).2) ▸ h.stop) (fun b h52 hbn hw => ?_)
  rw [crash_far keep torn c b P dk (by omega) (fun p hp e => hw (e ▸ (hP p hp).2.2.2))]
  exact h.home b h52 hbn hw
theorem wrote_append (a b : List (List Wr)) (k : Nat) : wrote (a ++ b) k ↔ wrote a k ∨ wrote b k := by
  unfold wrote
  rw [List.flatten_append, natW_append]
  constructor
  · rintro ⟨p, hp, e⟩
    rcases List.mem_append.1 hp with hp | hp
    · exact .inl ⟨p, hp, e⟩
    · exact .inr ⟨p, hp, e⟩
  · rintro (⟨p, hp, e⟩ | ⟨p, hp, e⟩)
    · exact ⟨p, List.mem_append.2 (.inl hp), e⟩
    · exact ⟨p, List.mem_append.2 (.inr hp), e⟩
theorem not_wrote_nil (b : Nat) : ¬ wrote [] b := by rintro ⟨p, hp, _⟩; simp [natW] at hp
end
/-- The states that a crash may leave: each is a journal of one of the models M. -/
def Safe (n K : Nat) (M : (Nat → Txt) → Prop) (dk : List Txt) (P : List (Nat × Txt)) : Prop :=
  ∀ (keep : List Bool) (torn : Int) (c : Nat), c ≤ 256 → ∃ m x pos fs, M m ∧ Inv n m K (crashL keep torn c 0 P dk) x pos fs
theorem Safe.mono {n K K' : Nat} {M M' : (Nat → Txt) → Prop} {dk : List Txt} {P : List (Nat × Txt)} (h : Safe n K M dk P) (hK : K ≤ K') (hM : ∀ m, M m → M' m) : Safe n K' M' dk P := fun keep torn c hc => by
  obtain ⟨m, x, pos, fs, h1, h2⟩ := h keep torn c hc
  exact ⟨m, x, pos, fs, hM m h1, h2.mono hK⟩
/-- The power is gone. -/
structure Gone (n K : Nat) (M : (Nat → Txt) → Prop) (d : Dv) : Prop where
  ok : d.Ok
  dead : d.dead = true
  len : d.disk.length = n
  few : d.pend.length ≤ 200
  safe : Safe n K M d.disk d.pend
/-- A journal at work. -/
structure Up (n : Nat) (m : Nat → Txt) (K : Nat) (d : Dv) (j : Jn) (fs : List (List Wr)) : Prop where
  ok : d.Ok
  alive : d.dead = false
  inv : Inv n m K d.disk j.x j.pos fs
  next : j.next = j.x.s + fs.length
  used : j.used = total fs
  pend : HomeP n fs d.pend
  few : d.pend.length ≤ 50
  now : ∀ b, 52 ≤ b → b < n → lastW d.pend b (d.disk.getD b []) = m b
structure Ready (n : Nat) (m : Nat → Txt) (K : Nat) (d : Dv) (j : Jn) (fs : List (List Wr)) : Prop extends Up n m K d j fs where
  zero : d.disk.getD (placeN j 0) [] = zeros
  clean : Clean j.x.e (d.disk.getD (1 - j.pos) [])
theorem Up.safe {n K : Nat} {m : Nat → Txt} {d : Dv} {j : Jn} {fs : List (List Wr)} (h : Up n m K d j fs) : Safe n K (· = m) d.disk d.pend :=
  fun keep torn c hc => ⟨m, j.x, j.pos, fs, rfl, h.inv.crash_home h.pend keep torn c hc⟩
theorem HomeP.take {n : Nat} {fs : List (List Wr)} {P : List (Nat × Txt)} (h : HomeP n fs P) (k : Nat) : HomeP n fs (P.take k) := fun p hp => h p (List.mem_of_mem_take hp)
theorem lay_block (P : List (Nat × Txt)) (dk : List Txt) (b : Nat) (hb : b < dk.length) : (lay dk P).getD b [] = lastW P b (dk.getD b []) := lay_get P dk b hb
theorem mem_one_take {p q : Nat × Txt} {k : Nat} (h : p ∈ [q].take k) : p = q := by
  have := List.mem_of_mem_take h
  simpa using this
section
variable {n K : Nat} {m : Nat → Txt} {d : Dv} {j : Jn} {fs : List (List Wr)}
theorem Up.place (h : Up n m K d j fs) (k : Nat) : placeN j k = loc j.x (total fs + k) := by
  unfold placeN loc
  rw [h.inv.log, h.used, Nat.add_assoc]
theorem Up.newSl (h : Up n m K d j fs) : nextSl j = newSl j.x fs := by
  unfold nextSl Go.Jrn.newSl
  rw [h.inv.log, h.used, h.next]
/-- A crash in a checkpoint's first part. -/
theorem Up.ck1_safe (h : Up n m K d j fs) (k : Nat) : Safe n K (· = m) d.disk (d.pend ++ (natW [(((placeN j 0 : Nat) : Int), zeros)]).take k) := by
  intro keep torn c hc
  have hlo := h.inv.lo
  have hlen := h.inv.len
  have hp0 := h.place 0
  rw [Nat.add_zero] at hp0
  have hll := loc_lt j.x (total fs)
  have hmem : ∀ p ∈ d.pend ++ (natW [(((placeN j 0 : Nat) : Int), zeros)]).take k, p ∈ d.pend ∨ p = (loc j.x (total fs), zeros) := fun p hp => by
    rcases List.mem_append.1 hp with hp | hp
    · exact .inl hp
    · right
      have := mem_one_take (q := (loc j.x (total fs), zeros)) (k := k) (by simpa [natW, hp0] using hp)
      exact this
  generalize d.pend ++ (natW [(((placeN j 0 : Nat) : Int), zeros)]).take k = P at hmem
  obtain ⟨h1, h2⟩ := crash_len keep torn c hc P h.inv.len h.inv.all (fun p hp => by
    rcases hmem p hp with hp | rfl
    · exact ⟨(h.pend p hp).2.1, (h.pend p hp).2.2.1⟩
    · exact ⟨by show loc j.x (total fs) < n; omega, zeros_length⟩)
  have far : ∀ b, b < 52 → b ≠ loc j.x (total fs) → (crashL keep torn c 0 P d.disk).getD b [] = d.disk.getD b [] := fun b hb hne => crash_far keep torn c b P d.disk (by omega) (fun p hp e => by
    rcases hmem p hp with hp | rfl
    · have := (h.pend p hp).1; omega
    · exact hne e.symm)
  have hp1 := h.inv.pos1
  have hroom := h.inv.room
  refine ⟨m, j.x, j.pos, fs, rfl, h.inv.change h1 h2 (far _ (by omega) (by omega)) ((far (1 - j.pos) (by omega) (by omega)) ▸ h.inv.other) (fun i hi => far _ (loc_lt j.x i).2 (loc_ne j.x (by omega) (by omega) (by omega))) ?_ (fun b h52 hbn hw => ?_)⟩
  · refine (crash_block (fun t => t.length = 256 ∧ readL t = none) keep torn c _ P 0 d.disk (by omega) ⟨?_, h.inv.stop⟩ (fun s hs => ?_)).2
    · exact getD_all (P := fun s => s.length = 256) h.inv.all _ (by omega)
    · rcases hmem _ hs with hs | hs
      · have := (h.pend _ hs).1; simp only at this; omega
      · simp only [Prod.mk.injEq] at hs
        rw [hs.2]
        refine ⟨⟨zeros_length, zeros_nohead⟩, fun t ht => ⟨?_, nohead_zeros c hc t ht.2⟩⟩
        rw [List.length_append, List.length_take, List.length_drop, zeros_length]; omega
  · rw [crash_far keep torn c b P d.disk (by omega) (fun p hp e => ?_)]
    · exact h.inv.home b h52 hbn hw
    · rcases hmem p hp with hp | rfl
      · exact hw (e ▸ (h.pend p hp).2.2.2)
      · simp only at e; omega
/-- Behind its first flush: home is what it should be, noughts stand behind the frames. -/
theorem Up.ck1_flush (h : Up n m K d j fs) {dk : List Txt} (hdk : dk = lay d.disk (d.pend ++ natW [(((placeN j 0 : Nat) : Int), zeros)])) :
    Inv n m K dk j.x j.pos fs ∧ dk.getD (loc j.x (total fs)) [] = zeros ∧ (∀ b, 52 ≤ b → b < n → dk.getD b [] = m b) ∧ (∀ b, b < 52 → b ≠ loc j.x (total fs) → dk.getD b [] = d.disk.getD b []) := by
  have hlo := h.inv.lo
  have hlen := h.inv.len
  have hp0 := h.place 0
  rw [Nat.add_zero] at hp0
  have hll := loc_lt j.x (total fs)
  have hnat : natW [(((placeN j 0 : Nat) : Int), zeros)] = [(loc j.x (total fs), zeros)] := by simp [natW, hp0]
  rw [hnat] at hdk
  have get : ∀ b, b < n → dk.getD b [] = (if loc j.x (total fs) = b then zeros else lastW d.pend b (d.disk.getD b [])) := fun b hb => by
    rw [hdk, lay_block _ _ _ (by omega), lastW_append]; rfl
  have far : ∀ b, b < 52 → b ≠ loc j.x (total fs) → dk.getD b [] = d.disk.getD b [] := fun b hb hne => by
    rw [get b (by omega), if_neg (Ne.symm hne), lastW_none _ _ _ (fun p hp e => by have := (h.pend p hp).1; omega)]
  have hz : dk.getD (loc j.x (total fs)) [] = zeros := by rw [get _ (by omega), if_pos rfl]
  have hm : ∀ b, 52 ≤ b → b < n → dk.getD b [] = m b := fun b h52 hbn => by rw [get b hbn, if_neg (by omega)]; exact h.now b h52 hbn
  have hp1 := h.inv.pos1
  have hroom := h.inv.room
  refine ⟨h.inv.change (by rw [hdk, lay_length, hlen]) ?_ (far _ (by omega) (by omega)) ((far (1 - j.pos) (by omega) (by omega)) ▸ h.inv.other) (fun i hi => far _ (loc_lt j.x i).2 (loc_ne j.x (by omega) (by omega) (by omega))) (by rw [hz]; exact zeros_nohead) (fun b h52 hbn _ => hm b h52 hbn), hz, hm, far⟩
  rw [hdk]
  refine lay_all _ _ h.inv.all (fun p hp => ?_)
  rcases List.mem_append.1 hp with hp | hp
  · exact (h.pend p hp).2.2.1
  · rw [List.mem_singleton.1 hp]; exact zeros_length
/-- A slot behind a checkpoint: a journal without frames. -/
theorem Inv.turned {dk dk' : List Txt} {x : Sl} {pos : Nat} (h : Inv n m K dk x pos fs) (hK : K ≤ 999999) (hl : dk'.length = n) (ha : ∀ s ∈ dk', s.length = 256) (hz : dk.getD (loc x (total fs)) [] = zeros) (hm : ∀ b, 52 ≤ b → b < n → dk.getD b [] = m b)
    (hnew : dk'.getD (1 - pos) [] = slotT (Go.Jrn.newSl x fs)) (hfar : ∀ b, b < n → b ≠ 1 - pos → dk'.getD b [] = dk.getD b []) : Inv n m (K + 1) dk' (Go.Jrn.newSl x fs) (1 - pos) [] := by
  have hlo := h.lo
  have hpos := h.pos1
  have hll := loc_lt x (total fs)
  have hke := h.ke
  have hks := h.ks
  have hpl := h.pl
  have hf := h.fit (by omega)
  have e1 : 1 - (1 - pos) = pos := by omega
  have hloc : loc (Go.Jrn.newSl x fs) (total []) = loc x (total fs) := by
    show 2 + ((x.p + total fs) % 50 + 0) % 50 = 2 + (x.p + total fs) % 50; omega
  refine ⟨h.lo, h.hi, hl, ha, by omega, rfl, ?_, ?_, ?_, hnew, ?_, by simp, by simp [total], ?_, ?_, ?_, ?_⟩
  · show (x.p + total fs) % 50 < 50; omega
  · show x.e + 1 ≤ K + 1; omega
  · show x.s + fs.length + 0 ≤ K + 1; omega
  · rw [e1, hfar pos (by omega) (by omega), h.here]
    refine clean_other ?_ ?_ (.inr ⟨x, hf.1, ?_, rfl⟩)
    · refine ⟨?_, ?_, ?_, ?_⟩ <;> simp only [Go.Jrn.newSl, List.length_nil, total] <;> omega
    · show x.e + 1 ≤ x.e + 1 + 1; omega
    · show x.e < x.e + 1; omega
  · intro k hk; simp [total] at hk
  · rw [hloc, hfar _ (by omega) (by omega), hz]; exact zeros_nohead
  · intro b h52 hbn _
    rw [hfar b hbn (by omega)]; exact hm b h52 hbn
  · intro b _ _ hw; exact absurd hw (not_wrote_nil b)
/-- A crash in a checkpoint's second part. -/
theorem Inv.ck2_safe {dk : List Txt} {x : Sl} {pos : Nat} (h : Inv n m K dk x pos fs) (hK : K ≤ 999999) (hz : dk.getD (loc x (total fs)) [] = zeros) (hm : ∀ b, 52 ≤ b → b < n → dk.getD b [] = m b) (k : Nat) :
    Safe n (K + 1) (· = m) dk ([] ++ (natW [(((1 - pos : Nat) : Int), slotT (Go.Jrn.newSl x fs))]).take k) := by
  intro keep torn c hc
  have hlo := h.lo
  have hlen := h.len
  have hpos := h.pos1
  have hmem : ∀ p ∈ [] ++ (natW [(((1 - pos : Nat) : Int), slotT (Go.Jrn.newSl x fs))]).take k, p = (1 - pos, slotT (Go.Jrn.newSl x fs)) := fun p hp => by
    rw [List.nil_append] at hp
    exact mem_one_take (k := k) hp
  generalize [] ++ (natW [(((1 - pos : Nat) : Int), slotT (Go.Jrn.newSl x fs))]).take k = P at hmem
  have hsl := slotT_length (Go.Jrn.newSl x fs)
  obtain ⟨h1, h2⟩ := crash_len keep torn c hc P h.len h.all (fun p hp => by
    rw [hmem p hp]; exact ⟨by show 1 - pos < n; omega, hsl⟩)
  have far : ∀ b, b < n → b ≠ 1 - pos → (crashL keep torn c 0 P dk).getD b [] = dk.getD b [] := fun b hb hne => crash_far keep torn c b P dk (by omega) (fun p hp e => by
    rw [hmem p hp] at e; exact hne e.symm)
  obtain ⟨hne, o, ho, ht⟩ := h.other
  have hT : Torn (slotT (Go.Jrn.newSl x fs)) o ((crashL keep torn c 0 P dk).getD (1 - pos) []) :=
    crash_block (Torn (slotT (Go.Jrn.newSl x fs)) o) keep torn c _ P 0 dk (by omega) ht (fun s hs => by
      have := hmem _ hs
      simp only [Prod.mk.injEq, true_and] at this
      subst this
      exact ⟨Torn.self hsl ho.length, fun t ht => ht.again hsl c hc⟩)
  by_cases hw : (crashL keep torn c 0 P dk).getD (1 - pos) [] = slotT (Go.Jrn.newSl x fs)
  · exact ⟨m, _, _, [], rfl, h.turned hK h1 h2 hz hm hw far⟩
  · refine ⟨m, x, pos, fs, rfl, (h.mono (Nat.le_succ K)).change h1 h2 (far _ (by omega) (by omega)) ⟨hw, o, ho, hT⟩ (fun i _ => far _ ?_ ?_) ?_ (fun b h52 hbn _ => ?_)⟩
    · have := loc_lt x i; omega
    · have := loc_lt x i; omega
    · have := loc_lt x (total fs)
      rw [far _ (by omega) (by omega), hz]; exact zeros_nohead
    · rw [far b hbn (by omega)]; exact hm b h52 hbn
theorem one_takes {k : Nat} {b : Nat} {s : Txt} (hb : b < k) (hs : s.length = 256) : Takes k [((b : Int), s)] := by
  intro p hp
  rw [List.mem_singleton] at hp
  subst hp
  exact ⟨by show (0 : Int) ≤ (b : Int); omega, by show (b : Int) < (k : Int); omega, hs⟩
/-- A checkpoint. -/
theorem Up.ckpt (h : Up n m K d j fs) (hK : K ≤ 999999) :
    ((Go.Jrn.ckpt d j).1 = 0 ∧ Ready n m (K + 1) (Go.Jrn.ckpt d j).2.1 (Go.Jrn.ckpt d j).2.2 [] ∧ (Go.Jrn.ckpt d j).2.2 = ckJ j ∧ (Go.Jrn.ckpt d j).2.1.pend = [] ∧ (d.fuse = -1 → (Go.Jrn.ckpt d j).2.1.fuse = -1)) ∨
    ((Go.Jrn.ckpt d j).1 = 4 ∧ Gone n (K + 1) (· = m) (Go.Jrn.ckpt d j).2.1 ∧ (Go.Jrn.ckpt d j).2.2 = j ∧ d.fuse ≠ -1) := by
  have hlo := h.inv.lo
  have hlen := h.inv.len
  have hpos := h.inv.pos1
  have hpl0 := h.place 0
  rw [Nat.add_zero] at hpl0
  have hll := loc_lt j.x (total fs)
  have hnew := h.newSl
  have s1 := lays_spec d [(((placeN j 0 : Nat) : Int), zeros)] h.ok h.alive (one_takes (by omega) zeros_length)
  have f1 := h.ck1_safe
  have g1 := fun dk (e : dk = lay d.disk (d.pend ++ natW [(((placeN j 0 : Nat) : Int), zeros)])) => h.ck1_flush e
  have e1 : ckD1 d j = lays d [(((placeN j 0 : Nat) : Int), zeros)] := rfl
  have e2 : ckD2 d j = lays (ckD1 d j).2 [(((1 - j.pos : Nat) : Int), slotT (nextSl j))] := rfl
  rw [← e1] at s1
  obtain ⟨o1, s1⟩ := s1
  rcases s1 with ⟨a1, a2, a3, a4, a5⟩ | ⟨a1, a2, a3, a4, k, a5⟩
  · obtain ⟨v1, v2, v3, v4⟩ := g1 _ a4
    have s2 := lays_spec (ckD1 d j).2 [(((1 - j.pos : Nat) : Int), slotT (nextSl j))] o1 a2 (one_takes (by rw [v1.len]; omega) (slotT_length _))
    rw [← e2] at s2
    obtain ⟨o2, s2⟩ := s2
    rcases s2 with ⟨b1, b2, b3, b4, b5⟩ | ⟨b1, b2, b3, b4, k, b5⟩
    · left
      have hr : Go.Jrn.ckpt d j = (0, (ckD2 d j).2, ckJ j) := by unfold Go.Jrn.ckpt; rw [if_pos a1, if_pos b1]
      rw [hr]
      have hnat : natW [(((1 - j.pos : Nat) : Int), slotT (nextSl j))] = [(1 - j.pos, slotT (nextSl j))] := by
        unfold natW; rw [List.map_cons, List.map_nil, Int.toNat_natCast]
      rw [a3, hnat, List.nil_append] at b4
      have get : ∀ b, b < n → (ckD2 d j).2.disk.getD b [] = (if 1 - j.pos = b then slotT (nextSl j) else (ckD1 d j).2.disk.getD b []) := fun b hb => by
        rw [b4, lay_block _ _ _ (by rw [v1.len]; exact hb)]; rfl
      have hin : (ckD2 d j).2.disk.getD (1 - j.pos) [] = slotT (Go.Jrn.newSl j.x fs) := by rw [get _ (by omega), if_pos rfl, hnew]
      have hfar : ∀ b, b < n → b ≠ 1 - j.pos → (ckD2 d j).2.disk.getD b [] = (ckD1 d j).2.disk.getD b [] := fun b hb hne => by rw [get b hb, if_neg (Ne.symm hne)]
      have hI := v1.turned hK (dk' := (ckD2 d j).2.disk) (by rw [b4, lay_length, v1.len]) (by
        rw [b4]
        refine lay_all _ _ v1.all (fun p hp => ?_)
        rw [List.mem_singleton.1 hp]; exact slotT_length _) v2 v3 hin hfar
      have hx : (ckJ j).x = Go.Jrn.newSl j.x fs := hnew
      refine ⟨rfl, ⟨⟨o2, b2, ?_, ?_, rfl, ?_, by rw [b3]; exact Nat.zero_le _, ?_⟩, ?_, ?_⟩, rfl, b3, fun hf => b5 (a5 hf)⟩
      · rw [hx]; exact hI
      · rw [hx]; show j.next = j.x.s + fs.length + 0; exact h.next
      · rw [b3]; intro p hp; simp at hp
      · intro b h52 hbn
        rw [b3]
        show (ckD2 d j).2.disk.getD b [] = m b
        rw [hfar b hbn (by omega)]; exact v3 b h52 hbn
      · have : placeN (ckJ j) 0 = loc j.x (total fs) := by
          show 2 + ((ckJ j).x.p + 0 + 0) % (ckJ j).x.log = _
          rw [hx]; show 2 + ((j.x.p + total fs) % 50 + 0 + 0) % 50 = 2 + (j.x.p + total fs) % 50; omega
        show (ckD2 d j).2.disk.getD (placeN (ckJ j) 0) [] = zeros
        rw [this, hfar _ (by omega) (by omega)]; exact v2
      · show Clean (ckJ j).x.e ((ckD2 d j).2.disk.getD (1 - (1 - j.pos)) [])
        rw [show 1 - (1 - j.pos) = j.pos by omega, hfar _ (by omega) (by omega), v1.here, hx]
        exact .inr ⟨j.x, (v1.fit (by omega)).1, by show j.x.e < j.x.e + 1; omega, rfl⟩
    · right
      have hr : Go.Jrn.ckpt d j = ((ckD2 d j).1, (ckD2 d j).2, j) := by unfold Go.Jrn.ckpt; rw [if_pos a1, if_neg (by omega)]
      rw [hr]
      refine ⟨b1, ⟨o2, b2, by show (ckD2 d j).2.disk.length = n; rw [b4]; exact v1.len, by show (ckD2 d j).2.pend.length ≤ 200; rw [b5, a3, List.length_append, List.length_take, natW_length]; simp only [List.length_nil, List.length_cons]; omega, ?_⟩, rfl, fun hf => b3 (a5 hf)⟩
      show Safe n (K + 1) (· = m) (ckD2 d j).2.disk (ckD2 d j).2.pend
      rw [b4, b5, a3, hnew]
      exact v1.ck2_safe hK v2 v3 k
  · right
    have hr : Go.Jrn.ckpt d j = ((ckD1 d j).1, (ckD1 d j).2, j) := by unfold Go.Jrn.ckpt; rw [if_neg (by omega)]
    rw [hr]
    refine ⟨a1, ⟨o1, a2, by show (ckD1 d j).2.disk.length = n; rw [a4]; exact hlen, by show (ckD1 d j).2.pend.length ≤ 200; rw [a5, List.length_append, List.length_take, natW_length]; have := h.few; simp only [List.length_nil, List.length_cons]; omega, ?_⟩, rfl, a3⟩
    show Safe n (K + 1) (· = m) (ckD1 d j).2.disk (ckD1 d j).2.pend
    rw [a4, a5]
    exact (f1 k).mono (Nat.le_succ K) (fun _ h => h)
end
end Go.Jrn
