/- A range over an iterator of which it is known just what it tells: each round knows which element has come. No conditions. A range over an iterator of which it is known just what it tells, where a round may call a round of an outer range: what is kept is said from the inner range's beginning on. No conditions. -/
import Derived.RangeFuncWrites
import Derived.RangeFuncBound
namespace Go
open Go.RowKit
variable {F : Fence} {n : Nat} {P : Program}

/-- The iterator calls yield at the xs, one behind the other, and stops where it is told so. -/
def Gives {α : Type} (F : Fence) (n : Nat) (P : Program) (gf : Nat) (lb : Array Value) (encs : α → Array Value) (Kp : World → World → Prop) (xs : List α) (w : World) : Prop :=
  ∀ (l : Nat) (J Jx : List α → World → Prop) (W : World), Below w.heap.size w W → AbidesFrom W.heap.size J → AbidesFrom W.heap.size Jx →
    (∀ pre x W1, J pre W1 → pre ++ [x] <+: xs → YieldAt F (n - 1) P l (encs x) W1 fun e W' =>
      (e = .returned (.bool true) ∧ J (pre ++ [x]) W' ∧ Kp W1 W') ∨ (e = .returned (.bool false) ∧ Jx (pre ++ [x]) W')) →
    J [] W →
    CallsIn F n P gf (#[.func (.yield l) #[] #[]] ++ lb) W fun e W' => (∃ v, e = .returned v) ∧ (J xs W' ∨ ∃ pre, pre <+: xs ∧ Jx pre W')
/-- What a loop's record and the block beside it hold. -/
def RecAt (rec : LoopState → Option Code → Loop) (D l : Nat) (st : LoopState) (pe : Option Code) (W : World) : Prop :=
  W.heap[l]? = some (.loop (rec st pe)) ∧ W.heap[D]? = some (.deferred (some []))
theorem RecAt.put {rec : LoopState → Option Code → Loop} {D l : Nat} {st : LoopState} {pe : Option Code} {W : World} (h : RecAt rec D l st pe W) (hne : D ≠ l) (st' : LoopState) (pe' : Option Code) : RecAt rec D l st' pe' (W.putObj l (.loop (rec st' pe'))) :=
  ⟨World.putObj_heap_same (Array.getElem?_eq_some_iff.1 h.1).1, (World.putObj_heap_other hne).trans h.2⟩
theorem RecAt.others {rec : LoopState → Option Code → Loop} {D l : Nat} {st : LoopState} {pe : Option Code} {W W' : World} (h : RecAt rec D l st pe W) (k : KeepsOthers W W') : RecAt rec D l st pe W' :=
  ⟨k.same _ _ h.1 rfl, k.same _ _ h.2 rfl⟩
theorem RecAt.grown {rec : LoopState → Option Code → Loop} {D l : Nat} {st : LoopState} {pe : Option Code} {W W' : World} {row : Option Nat} (h : RecAt rec D l st pe W) (hg : W.grownBy W' row) (hr : ∀ r, row = some r → ∃ o : Obj, W.heap[r]? = some o ∧ o.isWalk = true) : RecAt rec D l st pe W' :=
  ⟨(grownBy_keeps hg hr h.1 rfl).trans h.1, (grownBy_keeps hg hr h.2 rfl).trans h.2⟩
/-- How a round may be left: it goes on, or by a jump. -/
def roundQ {α : Type} (Kp : World → World → Prop) (I : List α → World → Prop) (Ix : Code → List α → World → Prop) (xs : List α) (W : World) : Exit → Act → World → Prop
  | .normal, _, W' => KeepsOthers W W' ∧ Kp W W' ∧ I xs W'
  | .ret, _, W' => KeepsOthers W W' ∧ Ix .ret xs W'
  | .exit id, _, W' => KeepsOthers W W' ∧ Ix (.exit id) xs W'
  | .goto t, _, W' => KeepsOthers W W' ∧ Ix (.goto t) xs W'
  | .panic _, _, _ => False
  | .outgrown, _, _ => False
/-- What a jump leaves behind, when the round's end has been run. -/
theorem round_leaves {α : Type} {B D l : Nat} {rec : LoopState → Option Code → Loop} (hst : ∀ st pe st' pe', { rec st pe with state := st', pending := pe' } = rec st' pe') (hD : D ≠ l) (hB : B ≤ l) {J : List α → World → Prop} (hJ : OwnFrom B J) {ys : List α} {W2 W3 : World}
    (hr : RecAt rec D l .busy none W2) (hk : KeepsOthers W2 W3) (hj : J ys W3) (jump : Option Code) :
    ∃ v W', (Instr.endRound l jump).run P W3 = .ok v W' ∧ v = .bool jump.isNone ∧ W' = W3.putObj l (.loop (rec (if jump.isNone then .ready else .done) jump)) ∧ J ys W' ∧ RecAt rec D l (if jump.isNone then .ready else .done) jump W' := by
  have h3 := hr.others hk
  have he := run_endRound (P := P) jump h3.1
  rw [hst] at he
  exact ⟨_, _, he, rfl, rfl, hJ.putObj _ hj hB h3.1 rfl, h3.put hD _ _⟩
/-- **A range over such an iterator.** -/
theorem wpIn_rangeSeq {α : Type} {g : Operand} {ps : Array Tmp} {assign body : Code} {Q : Exit → Act → World → Prop} {a : Act} {w : World}
    (hro : F.round = none) (h1 : 1 ≤ n) {gf : Nat} {lb : Array Value} (hg : a.eval g = .func (.func gf) #[] lb) (hFg : F.fn gf) (eg : ∀ args w, (callFunc gf args).run P w = .ok (.enter gf args) w)
    {encs : α → Array Value} {Kp : World → World → Prop} {xs : List α} {w0 : World} (hseq : Gives F (n - 1) P gf lb encs Kp xs w0)
    (hKt : ∀ {A B C : World}, Kp A B → Kp B C → Kp A C) (hKb : ∀ (W : World) (l : Nat) (o o' : Obj), w.heap.size ≤ l → W.heap[l]? = some o → o.isCells = false → o.isWalk = false → Kp W (W.putObj l o')) (hb0 : Below w0.heap.size w0 w) (hps : ∀ x, (encs x).size = ps.size)
    (I : List α → World → Prop) (Ix : Code → List α → World → Prop) (hI : OwnFrom w.heap.size I) (hIx : ∀ c, OwnFrom w.heap.size (Ix c)) (h0 : I [] w) (a₁ : α → Act)
    (hassign : ∀ (l : Nat) (x : α) (W : World) (K : Act → World → Prop), K (a₁ x) W →
      assign.wpIn (F.inRound l) (n - 1 - 1) P (Exit.then K (fun _ _ _ => False)) { tmps := (ps.zip (encs x)).foldl (fun t (p, v) => t.setIfInBounds p v) a.tmps, defers := [] } W)
    (hbody : ∀ (l : Nat) (pre : List α) (x : α) (W : World), I pre W → pre ++ [x] <+: xs → body.wpIn (F.inRound l) (n - 1 - 1) P (roundQ Kp I Ix (pre ++ [x]) W) (a₁ x) W)
    (hdone : ∀ (D : Nat) (W : World), w.heap.size ≤ D → I xs W → W.heap[D]? = some (.deferred (some [])) → Q .normal { a with defers := { target := .collected D, args := #[] } :: a.defers } W)
    (hstop : ∀ (D : Nat) (c : Code) (pre : List α) (W : World), w.heap.size ≤ D → pre <+: xs → Ix c pre W → W.heap[D]? = some (.deferred (some [])) → c.wpIn F n P Q { a with defers := { target := .collected D, args := #[] } :: a.defers } W) :
    (Code.rangeFunc g ps assign body).wpIn F n P Q a w := by
  refine wpIn_rangeFunc fun fn hfn => ?_
  rw [hro]
  let rec' : LoopState → Option Code → Loop := fun st pe => { state := st, pending := pe, fn, tmps := a.tmps, params := ps, assign, body, defers := w.heap.size }
  have hst : ∀ st pe st' pe', { rec' st pe with state := st', pending := pe' } = rec' st' pe' := fun _ _ _ _ => rfl
  let D := w.heap.size
  have hne : D ≠ D + 1 := by omega
  let W1 := (w.alloc (.deferred (some []))).alloc (.loop (rec' .ready none))
  have hz : (w.alloc (.deferred (some []))).heap.size = D + 1 := World.size_alloc _ _
  have hr1 : RecAt rec' D (D + 1) .ready none W1 := by
    refine ⟨?_, (Below.heap_alloc _ _ _ (by rw [hz]; omega)).trans (World.alloc_heap_new w _)⟩
    have := World.alloc_heap_new (w.alloc (.deferred (some []))) (.loop (rec' .ready none))
    rwa [hz] at this
  have hI1 : I [] W1 := hI.alloc _ (hI.alloc _ h0)
  have hb1 : Below w0.heap.size w0 W1 := hb0.trans ((((Below.refl _ w).alloc (Nat.le_refl _) _).alloc (by simp) _).mono hb0.size)
  have hW1 : D + 2 = W1.heap.size := by show _ = ((w.alloc _).alloc _).heap.size; rw [World.size_alloc, World.size_alloc]
  refine ⟨D + 1, [{ target := .collected D, args := #[] }], W1, { target := .fn (.func gf) lb, args := #[.func (.yield (D + 1)) #[] #[]] }, W1, gf,
    #[.func (.yield (D + 1)) #[] #[]] ++ lb, W1, run_enterLoop_outer _ _ _ _ _, ?_, ?_, ?_, fun _ => h1, ?_⟩
  · simp only [resolve, hg]
    simp [go_sem]
  · intro f' hf'
    simp [Target.leads] at hf'
    subst hf'; exact hFg
  · simp [invoke, go_sem, eg]
  have hJ : AbidesFrom W1.heap.size fun pre W => I pre W ∧ RecAt rec' D (D + 1) .ready none W := by
    intro s A B row hs hgr hr
    exact ⟨hI s A B row hs.1 hgr fun r e => by
      obtain ⟨hB, o, ho, hw⟩ := hr r e
      exact ⟨by omega, o, ho, Obj.not_cells_of_walk hw⟩, hs.2.grown hgr fun r e => (hr r e).2⟩
  have hJx : AbidesFrom W1.heap.size fun pre W => ∃ c, Ix c pre W ∧ RecAt rec' D (D + 1) .done (some c) W := by
    rintro s A B row ⟨c, hs, hs2⟩ hgr hr
    exact ⟨c, hIx c s A B row hs hgr fun r e => by
      obtain ⟨hB, o, ho, hw⟩ := hr r e
      exact ⟨by omega, o, ho, Obj.not_cells_of_walk hw⟩, hs2.grown hgr fun r e => (hr r e).2⟩
  refine (hseq (D + 1) _ _ W1 hb1 hJ hJx ?_ ⟨hI1, hr1⟩).mono ?_
  · rintro pre x W ⟨hi, hr⟩ hpre
    refine ⟨fn, _, assign, body, run_yield (P := P) (args := encs x) hr.1 (hps x), roundIn_of_wpIn hfn (hassign _ x W _ ⟨_, run_beginRound hr.1 rfl, ?_⟩)⟩
    have hr2 : RecAt rec' D (D + 1) .busy none (W.putObj (D + 1) (.loop (rec' .busy none))) := hr.put hne _ _
    have hk2 : Kp W (W.putObj (D + 1) (.loop (rec' .busy none))) := hKb _ _ _ _ (Nat.le_succ _) hr.1 rfl rfl
    refine wpIn_mono (hbody _ pre x _ (hI.putObj _ hi (Nat.le_succ _) hr.1 rfl) hpre) fun e a3 W3 hp => ?_
    cases e with
    | normal =>
      obtain ⟨hk, hkp, hi3⟩ := hp
      obtain ⟨v, W', he, rfl, rfl, hi4, hr4⟩ := round_leaves (P := P) hst hne (Nat.le_succ _) hI hr2 hk hi3 none
      exact ⟨_, _, he, .inl ⟨rfl, ⟨hi4, hr4⟩, hKt (hKt hk2 hkp) (hKb _ _ _ _ (Nat.le_succ _) (hr2.others hk).1 rfl rfl)⟩⟩
    | ret =>
      obtain ⟨hk, hi3⟩ := hp
      obtain ⟨v, W', he, rfl, rfl, hi4, hr4⟩ := round_leaves (P := P) hst hne (Nat.le_succ _) (hIx .ret) hr2 hk hi3 (some .ret)
      exact ⟨_, _, he, .inr ⟨rfl, _, hi4, hr4⟩⟩
    | exit id =>
      obtain ⟨hk, hi3⟩ := hp
      obtain ⟨v, W', he, rfl, rfl, hi4, hr4⟩ := round_leaves (P := P) hst hne (Nat.le_succ _) (hIx (.exit id)) hr2 hk hi3 (some (.exit id))
      exact ⟨_, _, he, .inr ⟨rfl, _, hi4, hr4⟩⟩
    | goto t =>
      obtain ⟨hk, hi3⟩ := hp
      obtain ⟨v, W', he, rfl, rfl, hi4, hr4⟩ := round_leaves (P := P) hst hne (Nat.le_succ _) (hIx (.goto t)) hr2 hk hi3 (some (.goto t))
      exact ⟨_, _, he, .inr ⟨rfl, _, hi4, hr4⟩⟩
    | panic ch => exact hp.elim
    | outgrown => exact hp.elim
  · rintro e W2 ⟨⟨v, rfl⟩, ⟨hi, hr⟩ | ⟨pre, hpre, c, hi, hr⟩⟩
    · exact ⟨none, _, run_endLoop (P := P) hr.1 (by simp [rec']), hdone D _ (Nat.le_refl _) (hI.putObj _ hi (Nat.le_succ _) hr.1 rfl) ((World.putObj_heap_other hne).trans hr.2)⟩
    · exact ⟨some c, _, run_endLoop (P := P) hr.1 (by simp [rec']), hstop D c pre _ (Nat.le_refl _) hpre ((hIx c).putObj _ hi (Nat.le_succ _) hr.1 rfl) ((World.putObj_heap_other hne).trans hr.2)⟩
end Go
namespace Go
open Go.RowKit
variable {F : Fence} {n : Nat} {P : Program}

/-- What is said abides the turn of a block that lies at or beyond B and is no row of e's. -/
def OwnX {β : Type} (B : Nat) (e : TypeId) (I : β → World → Prop) : Prop :=
  ∀ s W W' row, I s W → W.grownBy W' row → (∀ r, row = some r → B ≤ r ∧ ∃ o : Obj, W.heap[r]? = some o ∧ ∀ c fz, o ≠ .cells c e fz) → I s W'
theorem OwnX.from {β : Type} {B : Nat} {e : TypeId} {I : β → World → Prop} (h : OwnX B e I) : OwnFrom B I := fun s W W' row hs hg hr => h s W W' row hs hg fun r e' => by
  obtain ⟨h1, o, h2, h3⟩ := hr r e'
  exact ⟨h1, o, h2, fun c fz e2 => by rw [e2] at h3; cases h3⟩
/-- The iterator calls yield at the xs, one behind the other, and stops where it is told so; it begins behind the range's own two blocks. -/
def Gives2 {α : Type} (e : TypeId) (F : Fence) (n : Nat) (P : Program) (gf : Nat) (lb : Array Value) (encs : α → Array Value) (Kp : World → World → Prop) (xs : List α) (w : World) : Prop :=
  ∀ (l : Nat) (J Jx : List α → World → Prop) (W : World), Below w.heap.size w W → w.heap.size + 2 ≤ W.heap.size → OwnX W.heap.size e J → OwnX W.heap.size e Jx →
    (∀ pre x W1, J pre W1 → pre ++ [x] <+: xs → YieldAt F (n - 1) P l (encs x) W1 fun e W' =>
      (e = .returned (.bool true) ∧ J (pre ++ [x]) W' ∧ Kp W1 W') ∨ (e = .returned (.bool false) ∧ Jx (pre ++ [x]) W' ∧ Kp W1 W')) →
    J [] W →
    CallsIn F n P gf (#[.func (.yield l) #[] #[]] ++ lb) W fun e W' => (∃ v, e = .returned v) ∧ (J xs W' ∨ ∃ pre, pre <+: xs ∧ Jx pre W')
theorem RecAt.from {rec : LoopState → Option Code → Loop} {D l : Nat} {st : LoopState} {pe : Option Code} {W W' : World} (h : RecAt rec D l st pe W) {B : Nat} (hD : B ≤ D) (hl : B ≤ l) (k : KeepsFrom B W W') : RecAt rec D l st pe W' :=
  ⟨k.same _ _ hl h.1 rfl, k.same _ _ hD h.2 rfl⟩
/-- How a round may be left: it goes on, or by a jump. -/
def roundG {α : Type} (B : Nat) (Kp : World → World → Prop) (I : List α → World → Prop) (Ix : Code → List α → World → Prop) (xs : List α) (W : World) : Exit → Act → World → Prop
  | .normal, _, W' => KeepsFrom B W W' ∧ Kp W W' ∧ I xs W'
  | .ret, _, W' => KeepsFrom B W W' ∧ Kp W W' ∧ Ix .ret xs W'
  | .exit id, _, W' => KeepsFrom B W W' ∧ Kp W W' ∧ Ix (.exit id) xs W'
  | .goto t, _, W' => KeepsFrom B W W' ∧ Kp W W' ∧ Ix (.goto t) xs W'
  | .panic _, _, _ => False
  | .outgrown, _, _ => False
/-- What a jump leaves behind, when the round's end has been run. -/
theorem round_leaves2 {α : Type} {B D l : Nat} {rec : LoopState → Option Code → Loop} (hst : ∀ st pe st' pe', { rec st pe with state := st', pending := pe' } = rec st' pe') (hD : D ≠ l) (hB : B ≤ l) {J : List α → World → Prop} (hJ : OwnFrom B J) {ys : List α} {W2 W3 : World}
    (hBD : B ≤ D) (hr : RecAt rec D l .busy none W2) (hk : KeepsFrom B W2 W3) (hj : J ys W3) (jump : Option Code) :
    ∃ v W', (Instr.endRound l jump).run P W3 = .ok v W' ∧ v = .bool jump.isNone ∧ W' = W3.putObj l (.loop (rec (if jump.isNone then .ready else .done) jump)) ∧ J ys W' ∧ RecAt rec D l (if jump.isNone then .ready else .done) jump W' := by
  have h3 := hr.from hBD hB hk
  have he := run_endRound (P := P) jump h3.1
  rw [hst] at he
  exact ⟨_, _, he, rfl, rfl, hJ.putObj _ hj hB h3.1 rfl, h3.put hD _ _⟩
/-- **A range over such an iterator.** -/
theorem wpIn_rangeSeq2 {α : Type} {g : Operand} {ps : Array Tmp} {assign body : Code} {Q : Exit → Act → World → Prop} {a : Act} {w : World}
    (hro : F.round = none) (h1 : 1 ≤ n) {gf : Nat} {lb : Array Value} (hg : a.eval g = .func (.func gf) #[] lb) (hFg : F.fn gf) (eg : ∀ args w, (callFunc gf args).run P w = .ok (.enter gf args) w)
    {encs : α → Array Value} {Kp : World → World → Prop} {xs : List α} {e : TypeId} (hseq : Gives2 e F (n - 1) P gf lb encs Kp xs w)
    (hKt : ∀ {A B C : World}, Kp A B → Kp B C → Kp A C) (hKb : ∀ (W : World) (o o' : Obj), W.heap[w.heap.size + 1]? = some o → o.isCells = false → o.isWalk = false → Kp W (W.putObj (w.heap.size + 1) o')) (hps : ∀ x, (encs x).size = ps.size)
    (I : List α → World → Prop) (Ix : Code → List α → World → Prop) (hIX : OwnX w.heap.size e I) (hIxX : ∀ c, OwnX w.heap.size e (Ix c)) (h0 : I [] w) (a₁ : α → Act)
    (hassign : ∀ (l : Nat) (x : α) (W : World) (K : Act → World → Prop), K (a₁ x) W →
      assign.wpIn (F.inRound l) (n - 1 - 1) P (Exit.then K (fun _ _ _ => False)) { tmps := (ps.zip (encs x)).foldl (fun t (p, v) => t.setIfInBounds p v) a.tmps, defers := [] } W)
    (hbody : ∀ (l : Nat) (pre : List α) (x : α) (W : World), I pre W → pre ++ [x] <+: xs → body.wpIn (F.inRound l) (n - 1 - 1) P (roundG w.heap.size Kp I Ix (pre ++ [x]) W) (a₁ x) W)
    (hdone : ∀ (D : Nat) (W : World), w.heap.size ≤ D → I xs W → W.heap[D]? = some (.deferred (some [])) → Q .normal { a with defers := { target := .collected D, args := #[] } :: a.defers } W)
    (hstop : ∀ (D : Nat) (c : Code) (pre : List α) (W : World), w.heap.size ≤ D → pre <+: xs → Ix c pre W → W.heap[D]? = some (.deferred (some [])) → c.wpIn F n P Q { a with defers := { target := .collected D, args := #[] } :: a.defers } W) :
    (Code.rangeFunc g ps assign body).wpIn F n P Q a w := by
  have hI : OwnFrom w.heap.size I := hIX.from
  have hIx : ∀ c, OwnFrom w.heap.size (Ix c) := fun c => (hIxX c).from
  refine wpIn_rangeFunc fun fn hfn => ?_
  rw [hro]
  let rec' : LoopState → Option Code → Loop := fun st pe => { state := st, pending := pe, fn, tmps := a.tmps, params := ps, assign, body, defers := w.heap.size }
  have hst : ∀ st pe st' pe', { rec' st pe with state := st', pending := pe' } = rec' st' pe' := fun _ _ _ _ => rfl
  let D := w.heap.size
  have hne : D ≠ D + 1 := by omega
  let W1 := (w.alloc (.deferred (some []))).alloc (.loop (rec' .ready none))
  have hz : (w.alloc (.deferred (some []))).heap.size = D + 1 := World.size_alloc _ _
  have hr1 : RecAt rec' D (D + 1) .ready none W1 := by
    refine ⟨?_, (Below.heap_alloc _ _ _ (by rw [hz]; omega)).trans (World.alloc_heap_new w _)⟩
    have := World.alloc_heap_new (w.alloc (.deferred (some []))) (.loop (rec' .ready none))
    rwa [hz] at this
  have hI1 : I [] W1 := hI.alloc _ (hI.alloc _ h0)
  have hb1 : Below w.heap.size w W1 := ((Below.refl _ w).alloc (Nat.le_refl _) _).alloc (by simp) _
  have hW1 : D + 2 = W1.heap.size := by show _ = ((w.alloc _).alloc _).heap.size; rw [World.size_alloc, World.size_alloc]
  refine ⟨D + 1, [{ target := .collected D, args := #[] }], W1, { target := .fn (.func gf) lb, args := #[.func (.yield (D + 1)) #[] #[]] }, W1, gf,
    #[.func (.yield (D + 1)) #[] #[]] ++ lb, W1, run_enterLoop_outer _ _ _ _ _, ?_, ?_, ?_, fun _ => h1, ?_⟩
  · simp only [resolve, hg]
    simp [go_sem]
  · intro f' hf'
    simp [Target.leads] at hf'
    subst hf'; exact hFg
  · simp [invoke, go_sem, eg]
  have hrec : ∀ st pe A B (row : Option Nat), RecAt rec' D (D + 1) st pe A → A.grownBy B row → (∀ r, row = some r → W1.heap.size ≤ r) → RecAt rec' D (D + 1) st pe B := by
    intro st pe A B row h hg hr
    have hl := (Array.getElem?_eq_some_iff.1 h.1).1
    exact ⟨(hg.block _ hl (fun e' => by have := hr _ e'.symm; omega)).trans h.1, (hg.block _ (by omega) (fun e' => by have := hr _ e'.symm; omega)).trans h.2⟩
  have hJ : OwnX W1.heap.size e fun pre W => I pre W ∧ RecAt rec' D (D + 1) .ready none W := by
    intro s A B row hs hgr hr
    exact ⟨hIX s A B row hs.1 hgr fun r e' => ⟨by have := (hr r e').1; omega, (hr r e').2⟩, hrec _ _ _ _ _ hs.2 hgr fun r e' => (hr r e').1⟩
  have hJx : OwnX W1.heap.size e fun pre W => ∃ c, Ix c pre W ∧ RecAt rec' D (D + 1) .done (some c) W := by
    rintro s A B row ⟨c, hs, hs2⟩ hgr hr
    exact ⟨c, hIxX c s A B row hs hgr fun r e' => ⟨by have := (hr r e').1; omega, (hr r e').2⟩, hrec _ _ _ _ _ hs2 hgr fun r e' => (hr r e').1⟩
  refine (hseq (D + 1) _ _ W1 hb1 (Nat.le_of_eq hW1) hJ hJx ?_ ⟨hI1, hr1⟩).mono ?_
  · rintro pre x W ⟨hi, hr⟩ hpre
    refine ⟨fn, _, assign, body, run_yield (P := P) (args := encs x) hr.1 (hps x), roundIn_of_wpIn hfn (hassign _ x W _ ⟨_, run_beginRound hr.1 rfl, ?_⟩)⟩
    have hr2 : RecAt rec' D (D + 1) .busy none (W.putObj (D + 1) (.loop (rec' .busy none))) := hr.put hne _ _
    have hk2 : Kp W (W.putObj (D + 1) (.loop (rec' .busy none))) := hKb _ _ _ hr.1 rfl rfl
    refine wpIn_mono (hbody _ pre x _ (hI.putObj _ hi (Nat.le_succ _) hr.1 rfl) hpre) fun e a3 W3 hp => ?_
    cases e with
    | normal =>
      obtain ⟨hk, hkp, hi3⟩ := hp
      obtain ⟨v, W', he, rfl, rfl, hi4, hr4⟩ := round_leaves2 (P := P) hst hne (Nat.le_succ _) hI (Nat.le_refl _) hr2 hk hi3 none
      exact ⟨_, _, he, .inl ⟨rfl, ⟨hi4, hr4⟩, hKt (hKt hk2 hkp) (hKb _ _ _ (hr2.from (Nat.le_refl _) (Nat.le_succ _) hk).1 rfl rfl)⟩⟩
    | ret =>
      obtain ⟨hk, hkp, hi3⟩ := hp
      obtain ⟨v, W', he, rfl, rfl, hi4, hr4⟩ := round_leaves2 (P := P) hst hne (Nat.le_succ _) (hIx .ret) (Nat.le_refl _) hr2 hk hi3 (some .ret)
      exact ⟨_, _, he, .inr ⟨rfl, ⟨_, hi4, hr4⟩, hKt (hKt hk2 hkp) (hKb _ _ _ (hr2.from (Nat.le_refl _) (Nat.le_succ _) hk).1 rfl rfl)⟩⟩
    | exit id =>
      obtain ⟨hk, hkp, hi3⟩ := hp
      obtain ⟨v, W', he, rfl, rfl, hi4, hr4⟩ := round_leaves2 (P := P) hst hne (Nat.le_succ _) (hIx (.exit id)) (Nat.le_refl _) hr2 hk hi3 (some (.exit id))
      exact ⟨_, _, he, .inr ⟨rfl, ⟨_, hi4, hr4⟩, hKt (hKt hk2 hkp) (hKb _ _ _ (hr2.from (Nat.le_refl _) (Nat.le_succ _) hk).1 rfl rfl)⟩⟩
    | goto t =>
      obtain ⟨hk, hkp, hi3⟩ := hp
      obtain ⟨v, W', he, rfl, rfl, hi4, hr4⟩ := round_leaves2 (P := P) hst hne (Nat.le_succ _) (hIx (.goto t)) (Nat.le_refl _) hr2 hk hi3 (some (.goto t))
      exact ⟨_, _, he, .inr ⟨rfl, ⟨_, hi4, hr4⟩, hKt (hKt hk2 hkp) (hKb _ _ _ (hr2.from (Nat.le_refl _) (Nat.le_succ _) hk).1 rfl rfl)⟩⟩
    | panic ch => exact hp.elim
    | outgrown => exact hp.elim
  · rintro e W2 ⟨⟨v, rfl⟩, ⟨hi, hr⟩ | ⟨pre, hpre, c, hi, hr⟩⟩
    · exact ⟨none, _, run_endLoop (P := P) hr.1 (by simp [rec']), hdone D _ (Nat.le_refl _) (hI.putObj _ hi (Nat.le_succ _) hr.1 rfl) ((World.putObj_heap_other hne).trans hr.2)⟩
    · exact ⟨some c, _, run_endLoop (P := P) hr.1 (by simp [rec']), hstop D c pre _ (Nat.le_refl _) hpre ((hIx c).putObj _ hi (Nat.le_succ _) hr.1 rfl) ((World.putObj_heap_other hne).trans hr.2)⟩
end Go
