/- Chapter 4: what the laws of the journal share: the law's World under device calls and commits. Conditions: as the calls'. Chapter 4's law: sameTexts. Conditions: the lists are not longer than 100000. Chapter 4's law: acts in memory; small; a commit of writes that a call made. Conditions: numbers and lengths fit. Chapter 4: blocks kept beside a journal are changed. No conditions. Arguments that are acts (structs of three numbers, flags, numbers and a text): a slice of them, and one by value, read as lists. No conditions. -/
import Derived.Test.YtlgfjoicdbjfjaaDoorJrnQ
import Derived.Test.YtlgfjoicdbjfjaaDoorJrnU
import Derived.Test.YtlgfjoicdbjfjaaDoorJrnM
import Derived.Test.YtlgfjoicdbjfjaaDoorJrnP
import Derived.Deep.Slices
import Derived.Deep.Grids
import Derived.Deep.Fields
import Derived.OpenShut
import Derived.ChangeArms
namespace Go.Proofs.YtlgfjoicdbjfjaaDoor
open Go.RowKit Go.Wir Go.Blk Go.Frm Go.Jrn

section
variable {w0 w w' : World} {g : Nat} {od : Option Nat} {d d' : Dv} {jb : Nat} {j j' : Jn} {wb : Nat} {R : Nat → Prop}
theorem LiveW.dev (h : LiveW w0 w g od d jb j wb R) (l : Live w0 w' g od d' (fun k => (R k ∨ k = wb) ∨ k = jb)) (k : Keeps (fun k => (R k ∨ k = wb) ∨ k = jb) w w') : LiveW w0 w' g od d' jb j wb R ∧ Keeps R w w' := by
  obtain ⟨h1, h2⟩ := LiveC.dev h.jr l k
  exact h.step h1 h2
theorem LiveW.more (h : LiveW w0 w g od d jb j wb R) (b : Below w.heap.size w w') (v : Value) (hv : ∀ k, v.ownBlock = some k → w.heap.size ≤ k ∧ k < w'.heap.size) : LiveW w0 w' g od d jb j wb (fun k => R k ∨ v.ownBlock = some k) := by
  have hlt : wb < w.heap.size := LiveC.lt h.jr wb (.inr rfl)
  refine ⟨LiveC.less (LiveC.more h.jr b v hv) (fun k hk => ?_), fun hr => ?_, h.lo, (b.block wb hlt).trans h.blk⟩
  · rcases hk with (hk | hk) | hk
    · exact .inl (.inl hk)
    · exact .inr hk
    · exact .inl (.inr hk)
  · rcases hr with hr | hr
    · exact h.nr hr
    · have := (hv wb hr).1; omega
theorem LiveW.drew (h : LiveW w0 w g od d jb j wb R) (n : Nat) : LiveW w0 (w.drewN n) g od d jb j wb R ∧ Keeps R w (w.drewN n) := h.call ⟨rfl, rfl, rfl, Nat.le_refl _, fun _ _ => rfl⟩
theorem LiveW.less {R' : Nat → Prop} (h : LiveW w0 w g od d jb j wb R) (hR : ∀ k, R' k → R k) : LiveW w0 w g od d jb j wb R' :=
  ⟨LiveC.less h.jr (fun k hk => by rcases hk with hk | hk; exact .inl (hR k hk); exact .inr hk), fun hr => h.nr (hR _ hr), h.lo, h.blk⟩
theorem LiveW.jcells (h : LiveW w0 w g od d jb j wb R) : w.cell? ⟨jb, 0, none⟩ = some (.pointer (some ⟨g, 0, none⟩)) := (LiveJ.cells h.jr).1.1
/-- A commit of one write, boxed just ahead. -/
theorem w_commit1 {K : Nat} (h : LiveW w0 w g od d jb j wb R) (ok : d.Ok) (hj : JFit K j) (hK : K ≤ 900000) (hp : d.pend.length ≤ 5000) (b : Int) (t : Txt) (h1 : -9223372036854775808 ≤ b) (h2 : b ≤ 9223372036854775807) (ht : t.length ≤ 100000) (ty : TypeId) :
    Calls Tryd.prog 14 #[.pointer (some ⟨jb, 0, none⟩), .slice (some ⟨w.heap.size, 0, none⟩) 1 1] (w.alloc (.cells #[.int .i64 b, .string (B t)] ty)) fun e w' => e = .returned (.int .i64 ((commit d j [(b, t)]).1 : Nat)) ∧ LiveW w0 w' g od (commit d j [(b, t)]).2.1 jb (commit d j [(b, t)]).2.2 wb R ∧ Keeps R w w' := by
  have b1 := step_new (Below.refl w.heap.size w) (.cells #[.int .i64 b, .string (B t)] ty)
  have l1 := h.more b1 (.slice (some ⟨w.heap.size, 0, none⟩) 1 1) (fun k hk => by simp only [Value.ownBlock, Option.some.injEq] at hk; subst hk; exact ⟨Nat.le_refl _, by simp⟩)
  have k1 := (h.call b1).2
  refine (jr_Commit (R := fun k => (R k ∨ (Value.slice (some ⟨w.heap.size, 0, none⟩) 1 1).ownBlock = some k) ∨ k = wb) l1.jr ok hj hK hp (.slice (some ⟨w.heap.size, 0, none⟩) 1 1) [(b, t)] (wrs_new w b t ty) (fun k hk => .inl (.inr hk)) (fun p hp => by
    rw [List.mem_singleton.1 hp]
    exact ⟨h1, h2, by show t.length ≤ _; omega⟩) (by simp)).mono ?_
  rintro e w' ⟨he, l2, k2⟩
  obtain ⟨l3, k3⟩ := l1.step l2 k2
  exact ⟨he, l3.less (fun k hk => .inl hk), k1.trans (k3.less (fun k hk => .inl hk))⟩
/-- The cells of a write that is kept. -/
theorem kept_write {fb : Nat} {b : Int} {t : Txt} {ty : TypeId} (h : w.heap[fb]? = some (.cells #[.int .i64 b, .string (B t)] ty (0, 0))) : w.cell? ⟨fb, 0, none⟩ = some (.int .i64 b) ∧ w.cell? ⟨fb, 1, none⟩ = some (.string (B t)) :=
  ⟨by rw [Lib.cell_of_heap h]; rfl, by rw [Lib.cell_of_heap h]; rfl⟩
theorem s3_drew {w : World} {a b : Nat} {v v0 v1 : Value} (h : w.cell? ⟨a, 1, none⟩ = some v) (h0 : w.cell? ⟨b, 0, none⟩ = some v0) (h1 : w.cell? ⟨b, 1, none⟩ = some v1) : w.drew.cell? ⟨a, 1, none⟩ = some v ∧ w.drew.cell? ⟨b, 0, none⟩ = some v0 ∧ w.drew.cell? ⟨b, 1, none⟩ = some v1 := ⟨h, h0, h1⟩
theorem s3_new {w : World} {a b : Nat} {v v0 v1 : Value} (h : w.cell? ⟨a, 1, none⟩ = some v ∧ w.cell? ⟨b, 0, none⟩ = some v0 ∧ w.cell? ⟨b, 1, none⟩ = some v1) (o : Obj) : (w.alloc o).cell? ⟨a, 1, none⟩ = some v ∧ (w.alloc o).cell? ⟨b, 0, none⟩ = some v0 ∧ (w.alloc o).cell? ⟨b, 1, none⟩ = some v1 :=
  ⟨cell_alloc o h.1, cell_alloc o h.2.1, cell_alloc o h.2.2⟩
theorem r3_drew {w : World} {a b c : Nat} {v v0 v1 : Value} (h : w.cell? ⟨a, 1, none⟩ = some v) (h0 : w.cell? ⟨b, 0, none⟩ = some v0) (h1 : w.cell? ⟨c, 0, none⟩ = some v1) : w.drew.cell? ⟨a, 1, none⟩ = some v ∧ w.drew.cell? ⟨b, 0, none⟩ = some v0 ∧ w.drew.cell? ⟨c, 0, none⟩ = some v1 := ⟨h, h0, h1⟩
theorem r3_call {w w' : World} {a b c : Nat} {v v0 v1 : Value} (hb : Below w.heap.size w w') (h : w.cell? ⟨a, 1, none⟩ = some v) (h0 : w.cell? ⟨b, 0, none⟩ = some v0) (h1 : w.cell? ⟨c, 0, none⟩ = some v1) : w'.cell? ⟨a, 1, none⟩ = some v ∧ w'.cell? ⟨b, 0, none⟩ = some v0 ∧ w'.cell? ⟨c, 0, none⟩ = some v1 :=
  ⟨cell_call hb h, cell_call hb h0, cell_call hb h1⟩
theorem r2_drew {w : World} {b c : Nat} {v0 v1 : Value} (h0 : w.cell? ⟨b, 0, none⟩ = some v0) (h1 : w.cell? ⟨c, 0, none⟩ = some v1) : w.drew.cell? ⟨b, 0, none⟩ = some v0 ∧ w.drew.cell? ⟨c, 0, none⟩ = some v1 := ⟨h0, h1⟩
theorem r2_call {w w' : World} {b c : Nat} {v0 v1 : Value} (hb : Below w.heap.size w w') (h0 : w.cell? ⟨b, 0, none⟩ = some v0) (h1 : w.cell? ⟨c, 0, none⟩ = some v1) : w'.cell? ⟨b, 0, none⟩ = some v0 ∧ w'.cell? ⟨c, 0, none⟩ = some v1 :=
  ⟨cell_call hb h0, cell_call hb h1⟩
end
end Go.Proofs.YtlgfjoicdbjfjaaDoor
namespace Go.Proofs.YtlgfjoicdbjfjaaDoor
open Go.RowKit Go.Wir Go.Blk Go.Frm Go.Jrn

theorem below_drewNJ {K : Nat} {w w' : World} (h : Below K w w') (n : Nat) : Below K w (w'.drewN n) := ⟨h.os, h.tape, h.output, h.size, h.block⟩
set_option maxRecDepth 100000 in
set_option maxHeartbeats 1600000 in
theorem law_sameTexts4 (va vb : Value) (a b : List Txt) (hn : a.length ≤ 100000) (_ : b.length ≤ 100000) (w : World) (ha : Row w va (txtV a)) (hb : Row w vb (txtV b)) :
    Calls Tryd.prog 18 #[va, vb] w fun e w' => e = .returned (.bool (decide (a = b))) ∧ Below w.heap.size w w' := by
  obtain ⟨o1, k1, rfl, hc1⟩ := txt_row ha
  obtain ⟨o2, k2, rfl, hc2⟩ := txt_row hb
  have Ha := Lib.hid hc1
  have Hb := Lib.hid hc2
  clear ha hb hc1 hc2
  by_cases hl : a.length = b.length
  · have hne : ((a.length : Int) != (b.length : Int)) = false := by rw [hl]; simp
    have HL := Lib.hid hl
    clear hl
    obtain ⟨r, hr⟩ : ∃ r, decide (a = b) = r := ⟨_, rfl⟩
    have Hr := Lib.hid hr
    rw [hr]
    clear hr
    go_enter Tryd.func18, Tryd.ntmps18
    go_wp2
    clear hne
    go_loopw [5] (fun i wr => ∃ k : Nat, k ≤ a.length ∧ i = .int .i64 k ∧ a.take k = b.take k ∧ Below w.heap.size w wr) (fun i _ => a.length - (intOf i).toNat)
    case atStart => exact ⟨0, by omega, rfl, by simp, Below.refl _ _⟩
    case round =>
      obtain ⟨k, hk, rfl, heq, hbel⟩ := hrel
      have Heq := Lib.hid heq
      clear heq
      by_cases hlt : k < a.length
      · have hlt2 : k < b.length := by have := HL.out; omega
        obtain ⟨b1, f1, rfl, hb1, _, d1⟩ := Ha.out k hlt
        obtain ⟨b2, f2, rfl, hb2, _, d2⟩ := Hb.out k hlt2
        have d1 := cell_below hbel hb1 d1
        have d2 := cell_below hbel hb2 d2
        have Hbel := Lib.hid hbel
        have hk1 : (k : Int) < (a.length : Int) := by omega
        have hk2 : (k : Int) < (b.length : Int) := by omega
        have Hst : Hid (a[k] = b[k] → a.take (k + 1) = b.take (k + 1)) := Lib.hid (fun h => by rw [List.take_succ_eq_append_getElem hlt, List.take_succ_eq_append_getElem hlt2, Heq.out, h])
        have Hno : Hid (a[k] ≠ b[k] → r = false) := Lib.hid (fun h => by
          rw [← Hr.out]
          exact decide_eq_false (fun e => h (by simp only [e])))
        clear hbel
        generalize a[k] = x at *
        generalize b[k] = y at *
        by_cases hxy : x = y
        · have Hn := Lib.hid (Hst.out hxy)
          subst hxy
          have e1 : ((B x).toList != (B x).toList) = false := by simp
          go_wp2
          go_quiet (fail)
          go_wp2
          go_roundw
          case rel => exact ⟨k + 1, by omega, by go_num, Hn.out, below_drewNJ Hbel.out _⟩
          case measure => simp [intOf]; omega
        · have e1 : ((B x).toList != (B y).toList) = true := by rw [toList_B, toList_B, bne_iff_ne]; exact hxy
          have e2 : ¬ (B x).toList = (B y).toList := by rw [toList_B, toList_B]; exact hxy
          have Hn := Lib.hid (Hno.out hxy)
          clear hxy
          go_wp2
          go_quiet (fail)
          go_wp2
          all_goals first
            | (go_ret; exact ⟨by rw [Hn.out]; rfl, below_drewNJ Hbel.out _⟩)
            | (exfalso; exact e2 (by assumption))
            | (exfalso; have h : (!(B x).toList == (B y).toList) = false := by assumption
               rw [Bool.not_eq_false', beq_iff_eq] at h; exact e2 h)
      · obtain rfl : k = a.length := by omega
        have Hn : Hid (r = true) := Lib.hid (by
          rw [← Hr.out]
          refine decide_eq_true ?_
          have := Heq.out
          rw [List.take_length, HL.out, List.take_length] at this
          exact this)
        go_wp2
        go_ret
        exact ⟨by rw [Hn.out]; rfl, hbel⟩
  · have hne : ((a.length : Int) != (b.length : Int)) = true := by rw [bne_iff_ne]; omega
    have Hr : Hid (decide (a = b) = false) := Lib.hid (decide_eq_false (fun e => hl (by rw [e])))
    clear hl
    go_enter Tryd.func18, Tryd.ntmps18
    go_wp2
    go_ret
    exact ⟨by rw [Hr.out]; rfl, Below.refl _ _⟩
end Go.Proofs.YtlgfjoicdbjfjaaDoor
namespace Go.Proofs.YtlgfjoicdbjfjaaDoor
open Go.RowKit Go.Wir Go.Blk Go.Frm Go.Jrn

/-- An act in memory, at cell o of block b. -/
def ActAt4 (w : World) (b o : Nat) (a : Act4) : Prop := ∃ vk vb, w.cell? ⟨b, o, none⟩ = some (.int .i64 a.op) ∧ w.cell? ⟨b, o + 1, none⟩ = some (.int .i64 a.n) ∧ w.cell? ⟨b, o + 2, none⟩ = some (.int .i64 a.pos) ∧ w.cell? ⟨b, o + 3, none⟩ = some vk ∧ w.cell? ⟨b, o + 4, none⟩ = some vb ∧ w.cell? ⟨b, o + 5, none⟩ = some (.string (B a.data)) ∧ Row w vk (a.keep.map Value.bool) ∧ Row w vb (a.blocks.map (Value.int .i64))
/-- A slice of acts. -/
def Acts4 (w : World) (v : Value) (acs : List Act4) : Prop := (∃ a cap, v = .slice a 0 cap ∧ acs = []) ∨ ∃ b off cap, v = .slice (some ⟨b, off, none⟩) acs.length cap ∧ b < w.heap.size ∧ ∀ i (h : i < acs.length), ActAt4 w b (off + i * 6) acs[i]
theorem Acts4.row {w : World} {v : Value} {acs : List Act4} (h : Acts4 w v acs) (h0 : 0 < acs.length) : ∃ b off cap, v = .slice (some ⟨b, off, none⟩) acs.length cap ∧ b < w.heap.size ∧ ∀ i (h : i < acs.length), ActAt4 w b (off + i * 6) acs[i] := by
  rcases h with ⟨a, cap, rfl, h⟩ | h
  · subst h; simp at h0
  · exact h
theorem Acts4.form {w : World} {v : Value} {acs : List Act4} (h : Acts4 w v acs) : ∃ oa c, v = .slice oa acs.length c := by
  rcases h with ⟨a, cap, rfl, h⟩ | ⟨b, off, cap, rfl, _⟩
  · exact ⟨a, cap, by rw [h]; rfl⟩
  · exact ⟨_, _, rfl⟩
theorem ActAt4.below {w w' : World} {b o : Nat} {a : Act4} (h : ActAt4 w b o a) (hb : Below w.heap.size w w') : ActAt4 w' b o a := by
  obtain ⟨vk, vb, c0, c1, c2, c3, c4, c5, hr, hr2⟩ := h
  exact ⟨vk, vb, cell_call hb c0, cell_call hb c1, cell_call hb c2, cell_call hb c3, cell_call hb c4, cell_call hb c5, hr.below hb, hr2.below hb⟩
theorem Acts4.below {w w' : World} {v : Value} {l : List Act4} (h : Acts4 w v l) (b : Below w.heap.size w w') : Acts4 w' v l := by
  rcases h with h | ⟨b0, off, cap, h1, h2, h3⟩
  · exact .inl h
  · refine .inr ⟨b0, off, cap, h1, Nat.lt_of_lt_of_le h2 b.size, fun i hi => ?_⟩
    exact (h3 i hi).below b
def actS4 (a : Act4) : Bool := decide (a.data.length ≤ 600) && (decide (a.keep.length ≤ 200) && decide (a.blocks.length ≤ 60))
def smallB4 (l : List Act4) : Bool := decide (l.length ≤ 30) && l.all actS4
theorem row_len4 {w : World} {v : Value} {vs : List Value} (h : Row w v vs) : ∃ oa c, v = .slice oa vs.length c := by
  rcases h with ⟨a, cap, rfl, h⟩ | ⟨b, off, cap, rfl, _⟩
  · exact ⟨a, cap, by rw [h]; rfl⟩
  · exact ⟨_, _, rfl⟩
/-- Acts whose numbers fit and whose texts, flags and blocks have a length. -/
structure Fit4 (a : Act4) : Prop where
  op : -9223372036854775808 ≤ a.op ∧ a.op ≤ 9223372036854775807
  n : -9223372036854775808 ≤ a.n ∧ a.n ≤ 9223372036854775807
  pos : -9223372036854775808 ≤ a.pos ∧ a.pos ≤ 9223372036854775807
  blocks : ∀ b ∈ a.blocks, -9223372036854775808 ≤ b ∧ b ≤ 9223372036854775807
  keep : a.keep.length ≤ 9223372036854775807
  blk : a.blocks.length ≤ 9223372036854775807
  data : a.data.length ≤ 9223372036854775807
theorem small_ok4 {l : List Act4} (h : smallB4 l = true) (hf : ∀ a ∈ l, Fit4 a) : l.length ≤ 30 ∧ ∀ a ∈ l, AOk a := by
  unfold smallB4 at h
  rw [Bool.and_eq_true, decide_eq_true_eq, List.all_eq_true] at h
  refine ⟨h.1, fun a ha => ?_⟩
  have h1 := h.2 a ha
  unfold actS4 at h1
  rw [Bool.and_eq_true, Bool.and_eq_true, decide_eq_true_eq, decide_eq_true_eq, decide_eq_true_eq] at h1
  have f := hf a ha
  exact ⟨f.op, f.n, f.pos, f.blocks, by omega, by omega, by omega⟩
set_option maxRecDepth 100000 in
set_option maxHeartbeats 800000 in
theorem law_small4 (v : Value) (l : List Act4) (w : World) (h : Acts4 w v l) (hn : l.length ≤ 9223372036854775807) (hf : ∀ a ∈ l, Fit4 a) :
    Calls Tryd.prog 9 #[v] w fun e w' => e = .returned (.bool (smallB4 l)) ∧ w = w' := by
  have H := Lib.hid h
  have Hf := Lib.hid hf
  obtain ⟨oa, c, rfl⟩ := h.form
  clear h hf
  by_cases h60 : 30 < l.length
  · have hR : Hid (smallB4 l = false) := Lib.hid (by unfold smallB4; rw [decide_eq_false (by omega)]; rfl)
    go_enter Tryd.func9, Tryd.ntmps9
    go_wp2
    go_ret
    exact ⟨by rw [hR.out]; rfl, rfl⟩
  · have HR : Hid (smallB4 l = l.all actS4) := Lib.hid (by unfold smallB4; rw [decide_eq_true (by omega)]; rfl)
    generalize smallB4 l = R at *
    go_enter Tryd.func9, Tryd.ntmps9
    go_wp2
    go_loop [3] (fun i => ∃ k : Nat, k ≤ l.length ∧ i = .int .i64 k ∧ l.all actS4 = (l.drop k).all actS4) (fun i => l.length - (intOf i).toNat)
    case atStart => exact ⟨0, by omega, rfl, by rw [List.drop_zero]⟩
    case round =>
      obtain ⟨k, hk, rfl, hl⟩ := hrel
      have Hl := Lib.hid hl
      clear hl
      by_cases hlt : k < l.length
      · obtain ⟨b, off, cap, hv, hb, hcell⟩ := H.out.row (by omega)
        simp only [Value.slice.injEq] at hv
        obtain ⟨rfl, _, rfl⟩ := hv
        obtain ⟨vk, vb, c0, c1, c2, c3, c4, c5, hr, hr2⟩ := hcell k hlt
        obtain ⟨ok, ck, rfl⟩ := row_len4 hr
        obtain ⟨ob, cb, rfl⟩ := row_len4 hr2
        rw [List.length_map] at c3 c4
        have hff := Hf.out l[k] (List.getElem_mem hlt)
        have hd := List.drop_eq_getElem_cons hlt
        have hl2 := Hl.out
        rw [hd, List.all_cons] at hl2
        have Hl2 := Lib.hid hl2
        have hfd : l[k].data.length ≤ 9223372036854775807 := hff.data
        have hfk : l[k].keep.length ≤ 9223372036854775807 := hff.keep
        have hfb : l[k].blocks.length ≤ 9223372036854775807 := hff.blk
        have hact : actS4 l[k] = (decide (l[k].data.length ≤ 600) && (decide (l[k].keep.length ≤ 200) && decide (l[k].blocks.length ≤ 60))) := rfl
        have Hact := Lib.hid hact
        clear hcell hr hr2 hd hl2 hff hact c0 c1 c2
        generalize l[k] = a at *
        have hsz := size_B a.data
        have hk1 : (k : Int) < (l.length : Int) := by omega
        by_cases h6 : 600 < a.data.length
        · have hR : Hid (R = false) := Lib.hid (by rw [HR.out, Hl2.out, Hact.out, decide_eq_false (p := a.data.length ≤ 600) (by omega)]; rfl)
          go_wp2
          go_ret
          exact ⟨by rw [hR.out]; rfl, rfl⟩
        · by_cases h2 : 200 < a.keep.length
          · have hR : Hid (R = false) := Lib.hid (by rw [HR.out, Hl2.out, Hact.out, decide_eq_false (p := a.keep.length ≤ 200) (by omega), Bool.false_and, Bool.and_false]; rfl)
            go_wp2
            go_ret
            exact ⟨by rw [hR.out]; rfl, rfl⟩
          · by_cases h3 : 60 < a.blocks.length
            · have hR : Hid (R = false) := Lib.hid (by rw [HR.out, Hl2.out, Hact.out, decide_eq_false (p := a.blocks.length ≤ 60) (by omega), Bool.and_false, Bool.and_false]; rfl)
              go_wp2
              go_ret
              exact ⟨by rw [hR.out]; rfl, rfl⟩
            · have hR : Hid (l.all actS4 = (l.drop (k + 1)).all actS4) := Lib.hid (by rw [Hl2.out, Hact.out, decide_eq_true (p := a.data.length ≤ 600) (by omega), decide_eq_true (p := a.keep.length ≤ 200) (by omega), decide_eq_true (p := a.blocks.length ≤ 60) (by omega)]; rfl)
              go_wp2
              go_round
              case rel => exact ⟨k + 1, by omega, by go_num, hR.out⟩
              case measure => simp [intOf]; omega
      · obtain rfl : k = l.length := by omega
        have hR : Hid (R = true) := Lib.hid (by rw [HR.out, Hl.out, List.drop_length]; rfl)
        go_wp2
        go_ret
        exact ⟨by rw [hR.out]; rfl, rfl⟩
section
variable {w0 w w1 w' : World} {g : Nat} {od : Option Nat} {d d' : Dv} {jb : Nat} {j j' : Jn} {wb : Nat} {R : Nat → Prop}
theorem writesJ_fitW {a : Act4} (h : AOk a) : FitW (writesJ a) := writesJ_fit h
/-- A commit of writes that a call since made. -/
theorem w_commitV {K : Nat} (h : LiveW w0 w g od d jb j wb R) (b : Below w.heap.size w w1) (ok : d.Ok) (hj : JFit K j) (hK : K ≤ 900000) (hp : d.pend.length ≤ 5000) (l : List Wr) (v : Value) (hv : w1.ownsRow w.heap.size 47 2 v l.length (wrI l)) (hfit : FitW l) (hn : l.length ≤ 100000) :
    Calls Tryd.prog 14 #[.pointer (some ⟨jb, 0, none⟩), v] w1 fun e w' => e = .returned (.int .i64 ((commit d j l).1 : Nat)) ∧ LiveW w0 w' g od (commit d j l).2.1 jb (commit d j l).2.2 wb R ∧ w'.ownsRow w.heap.size 47 2 v l.length (wrI l) ∧ Keeps R w w' ∧ LiveW w0 w' g od (commit d j l).2.1 jb (commit d j l).2.2 wb (fun k => R k ∨ v.ownBlock = some k) := by
  have l1 := h.more b v (fun k hk => hv.lt k hk)
  have k1 := (h.call b).2
  refine (jr_Commit (R := fun k => (R k ∨ v.ownBlock = some k) ∨ k = wb) l1.jr ok hj hK hp v l (own_wrI hv) (fun k hk => .inl (.inr hk)) hfit hn).mono ?_
  rintro e w' ⟨he, l2, k2⟩
  obtain ⟨l3, k3⟩ := l1.step l2 k2
  exact ⟨he, l3.less (fun k hk => .inl hk), own_keeps hv (fun k hk => .inr hk) k3, k1.trans (k3.less (fun k hk => .inl hk)), l3⟩
end
end Go.Proofs.YtlgfjoicdbjfjaaDoor
namespace Go.Proofs.YtlgfjoicdbjfjaaDoor
open Go.RowKit Go.Wir Go.Blk Go.Frm Go.Jrn

section
variable {w0 w w' : World} {g : Nat} {od : Option Nat} {d d' : Dv} {jb : Nat} {j j' : Jn} {wb : Nat} {R A : Nat → Prop} {T : TypeId} {cs : Array Value}
theorem Live.chgR (h : Live w0 w g od d R) (c : Chg A w w') (hA : ∀ k, A k → R k ∧ w0.heap.size ≤ k) : Live w0 w' g od d R := by
  obtain ⟨op, h1, h2, h3, h4⟩ := h
  exact ⟨op, h1.keep c (fun k hk a => (h2 k hk).2 (hA k a).1), h2, fun k hk => Nat.lt_of_lt_of_le (h3 k hk) c.size, h4.trans (c.below h4.size (fun k a => (hA k a).2))⟩
theorem LiveC.chgR (h : LiveC w0 w g od d jb T cs R) (c : Chg A w w') (hA : ∀ k, A k → R k ∧ w0.heap.size ≤ k) : LiveC w0 w' g od d jb T cs R :=
  ⟨h.live.chgR c (fun k a => ⟨.inl (hA k a).1, (hA k a).2⟩), h.nr, h.lo, (c.block jb h.jlt (fun a => h.nr (hA jb a).1)).trans h.blk⟩
theorem LiveW.wlt (h : LiveW w0 w g od d jb j wb R) : wb < w.heap.size := LiveC.lt h.jr wb (.inr rfl)
theorem LiveW.chgR (h : LiveW w0 w g od d jb j wb R) (c : Chg A w w') (hA : ∀ k, A k → R k ∧ w0.heap.size ≤ k) : LiveW w0 w' g od d jb j wb R :=
  ⟨LiveC.chgR h.jr c (fun k a => ⟨.inl (hA k a).1, (hA k a).2⟩), h.nr, h.lo, (c.block wb h.wlt (fun a => h.nr (hA wb a).1)).trans h.blk⟩
theorem LiveW.rlt (h : LiveW w0 w g od d jb j wb R) : ∀ k, R k → k < w.heap.size := fun k hk => LiveC.lt h.jr k (.inl hk)
theorem LiveW.size (h : LiveW w0 w g od d jb j wb R) : Below w0.heap.size w0 w := LiveC.size h.jr
/-- The journal is another one now (opened anew): its pointer is laid down. -/
theorem LiveW.jset (h : LiveJ w0 w g od d jb j (fun k => R k ∨ k = wb)) (hr : ¬ R wb) (hlo : w0.heap.size ≤ wb) (ja : Nat) (hb : w.heap[wb]? = some (.cells #[.pointer (some ⟨g, 0, none⟩), .pointer (some ⟨ja, 0, none⟩)] 32 (0, 0))) :
    LiveW w0 (w.setCell ⟨wb, 1, none⟩ (.pointer (some ⟨jb, 0, none⟩))) g od d jb j wb R := by
  have c : Chg (fun k => k = wb) w (w.setCell ⟨wb, 1, none⟩ (.pointer (some ⟨jb, 0, none⟩))) := (Chg.refl _ w).set wb 1 _ rfl
  exact ⟨LiveC.chgR h c (fun k a => ⟨.inr a, a ▸ hlo⟩), hr, hlo, by simp [World.setCell, Array.getElem?_modify, hb]⟩
end
set_option maxRecDepth 100000 in
theorem fine_str (i : Nat) (s : Txt) : B [UInt8.ofNat i] ++ (B (dataJ s)).extract 1 256 = B (fineT s i) := by
  rw [extract_B, L_B, B_append, List.take_of_length_le (by rw [List.length_drop, dataJ_length]; exact Nat.le_refl _)]
  rfl
theorem bounds_i64J {z : Int} (hc : (Lit.int .i64 z).wf = true) : -9223372036854775808 ≤ z ∧ z ≤ 9223372036854775807 := by
  simp [Lit.wf, IntKind.min, IntKind.max, IntKind.signed, IntKind.bits] at hc
  omega
end Go.Proofs.YtlgfjoicdbjfjaaDoor
namespace Go.Proofs.YtlgfjoicdbjfjaaDoor
open Go.RowKit Go.Blk Go.Jrn Go.ChangeShapes Go.WideShapes Go.Deep

section
variable {H : Type} {enc : TypeId × Value → H} {P : Program} {w : World} {base : Nat} {held : Bool}
theorem row_bools {t e : TypeId} {fuel : Nat} {c : Value} {x : DataW H × List MemPlace} (ht : P.underlying t = some (.slice e)) (he : P.underlying e = some .bool) (hc : P.cellsOf e = 1)
    (h : DataW.trod enc P w base (fun _ => true) held fuel t [c] = some x) : ∃ l : List Bool, Row w c (l.map Value.bool) ∧ l.length ≤ maxLen := by
  rcases open_bools ht he hc h with ⟨hcs, _⟩ | ⟨a, len, cap, Bf, hcs, _, hl, hm, _, hcell⟩
  · simp only [List.cons.injEq, and_true] at hcs
    subst hcs
    exact ⟨[], .inl ⟨none, 0, rfl, rfl⟩, by simp⟩
  · simp only [List.cons.injEq, and_true] at hcs
    subst hcs
    refine ⟨(List.range len).map Bf, row_of_cells (by simp) hl (fun i hi => ?_), by simp; omega⟩
    simp at hi
    rw [hcell i (by omega)]
    simp
theorem row_ints {t e : TypeId} {fuel : Nat} {c : Value} {x : DataW H × List MemPlace} (ht : P.underlying t = some (.slice e)) (he : P.underlying e = some (.int .i64)) (hc : P.cellsOf e = 1)
    (h : DataW.trod enc P w base (fun _ => true) held fuel t [c] = some x) : ∃ l : List Int, Row w c (l.map (Value.int .i64)) ∧ l.length ≤ maxLen ∧ ∀ b ∈ l, -9223372036854775808 ≤ b ∧ b ≤ 9223372036854775807 := by
  rcases open_ints ht he hc h with ⟨hcs, _⟩ | ⟨a, len, cap, zs, hcs, _, hl, hm, hz, _, hcell, hwz⟩
  · simp only [List.cons.injEq, and_true] at hcs
    subst hcs
    exact ⟨[], .inl ⟨none, 0, rfl, rfl⟩, by simp, by simp⟩
  · simp only [List.cons.injEq, and_true] at hcs
    subst hcs
    have hzl : zs.length = cap := by simpa using hz
    refine ⟨zs.take len, row_of_cells (by simp; omega) hl (fun j hj => ?_), by simp; omega, fun n hn => ?_⟩
    · simp at hj
      rw [hcell j (by omega)]; simp [List.getD, show j < zs.length by omega]
    · have hc := hwz n (List.mem_of_mem_take hn)
      simp [Lit.wf, IntKind.min, IntKind.max, IntKind.signed, IntKind.bits] at hc
      omega
theorem act_of_cells {e : TypeId} {f0 f1 f2 f3 f4 f5 : Field} {eb ei : TypeId} {fuel : Nat} {c0 c1 c2 c3 c4 c5 : Value} {x : DataW H × List MemPlace}
    (he : P.underlying e = some (.struct #[f0, f1, f2, f3, f4, f5])) (hone : oneCellFields P #[f0, f1, f2, f3, f4, f5] = true)
    (s0 : P.underlying f0.type = some (.int .i64)) (s1 : P.underlying f1.type = some (.int .i64)) (s2 : P.underlying f2.type = some (.int .i64)) (s3 : P.underlying f3.type = some (.slice eb)) (s4 : P.underlying f4.type = some (.slice ei)) (s5 : P.underlying f5.type = some .string) (sb : P.underlying eb = some .bool) (cb : P.cellsOf eb = 1) (si : P.underlying ei = some (.int .i64)) (ci : P.cellsOf ei = 1)
    (h : DataW.trod enc P w base (fun _ => true) held fuel e [c0, c1, c2, c3, c4, c5] = some x) :
    ∃ a : Act4, c0 = .int .i64 a.op ∧ c1 = .int .i64 a.n ∧ c2 = .int .i64 a.pos ∧ c5 = .string (B a.data) ∧ Row w c3 (a.keep.map Value.bool) ∧ Row w c4 (a.blocks.map (Value.int .i64)) ∧ Fit4 a := by
  obtain ⟨xs, n, _, _, _, hlen, hg⟩ := DataW.trod_struct he h
  obtain ⟨o0, k0⟩ := hone_of hone 0 f0 rfl
  obtain ⟨o1, k1⟩ := hone_of hone 1 f1 rfl
  obtain ⟨o2, k2⟩ := hone_of hone 2 f2 rfl
  obtain ⟨o3, k3⟩ := hone_of hone 3 f3 rfl
  obtain ⟨o4, k4⟩ := hone_of hone 4 f4 rfl
  obtain ⟨o5, k5⟩ := hone_of hone 5 f5 rfl
  match xs, hlen with
  | [y0, y1, y2, y3, y4, y5], _ =>
    have g0 : DataW.trod enc P w base (fun _ => true) held n f0.type [c0] = some y0 := by simpa [o0, k0] using hg 0 f0 rfl
    have g1 : DataW.trod enc P w base (fun _ => true) held n f1.type [c1] = some y1 := by simpa [o1, k1] using hg 1 f1 rfl
    have g2 : DataW.trod enc P w base (fun _ => true) held n f2.type [c2] = some y2 := by simpa [o2, k2] using hg 2 f2 rfl
    have g3 : DataW.trod enc P w base (fun _ => true) held n f3.type [c3] = some y3 := by simpa [o3, k3] using hg 3 f3 rfl
    have g4 : DataW.trod enc P w base (fun _ => true) held n f4.type [c4] = some y4 := by simpa [o4, k4] using hg 4 f4 rfl
    have g5 : DataW.trod enc P w base (fun _ => true) held n f5.type [c5] = some y5 := by simpa [o5, k5] using hg 5 f5 rfl
    obtain ⟨z0, e0, _, b0⟩ := DataW.trod_int s0 g0
    obtain ⟨z1, e1, _, b1⟩ := DataW.trod_int s1 g1
    obtain ⟨z2, e2, _, b2⟩ := DataW.trod_int s2 g2
    obtain ⟨kp, r3, l3⟩ := row_bools s3 sb cb g3
    obtain ⟨bl, r4, l4, f4⟩ := row_ints s4 si ci g4
    obtain ⟨t5, e5, _, l5⟩ := DataW.trod_string s5 g5
    simp only [List.cons.injEq, and_true] at e0 e1 e2 e5
    have bd : ∀ {z : Int}, (Lit.int .i64 z).wf = true → -9223372036854775808 ≤ z ∧ z ≤ 9223372036854775807 := fun hc => by
      simp [Lit.wf, IntKind.min, IntKind.max, IntKind.signed, IntKind.bits] at hc
      omega
    refine ⟨⟨z0, z1, z2, kp, bl, L t5⟩, e0, e1, e2, by rw [e5, B_L], r3, r4, ?_⟩
    unfold maxLen at l3 l4 l5
    exact ⟨bd b0, bd b1, bd b2, f4, by show kp.length ≤ _; omega, by show bl.length ≤ _; omega, by show (L t5).length ≤ _; rw [length_L]; omega⟩
theorem open_acts4 {t e : TypeId} {f0 f1 f2 f3 f4 f5 : Field} {eb ei : TypeId} {fuel : Nat} {oa : Option Addr} {len cap : Nat} {x : DataW H × List MemPlace}
    (ht : P.underlying t = some (.slice e)) (he : P.underlying e = some (.struct #[f0, f1, f2, f3, f4, f5])) (hone : oneCellFields P #[f0, f1, f2, f3, f4, f5] = true) (hC : P.cellsOf e = 6)
    (s0 : P.underlying f0.type = some (.int .i64)) (s1 : P.underlying f1.type = some (.int .i64)) (s2 : P.underlying f2.type = some (.int .i64)) (s3 : P.underlying f3.type = some (.slice eb)) (s4 : P.underlying f4.type = some (.slice ei)) (s5 : P.underlying f5.type = some .string) (sb : P.underlying eb = some .bool) (cb : P.cellsOf eb = 1) (si : P.underlying ei = some (.int .i64)) (ci : P.cellsOf ei = 1)
    (h : DataW.trod enc P w base (fun _ => true) held fuel t [.slice oa len cap] = some x) :
    ∃ l : List Act4, Acts4 w (.slice oa len cap) l ∧ (∀ a ∈ l, Fit4 a) ∧ l.length ≤ maxLen := by
  rcases open_slice ht h with ⟨hcs, _⟩ | ⟨a, l, c, m, n, D, Pl, hcs, _, hl, hm, hmm, _, hi⟩
  · simp only [List.cons.injEq, Value.slice.injEq, and_true] at hcs
    obtain ⟨rfl, rfl, rfl⟩ := hcs
    exact ⟨[], .inl ⟨none, 0, rfl, rfl⟩, by simp, by simp⟩
  · simp only [List.cons.injEq, Value.slice.injEq, and_true] at hcs
    obtain ⟨rfl, rfl, rfl⟩ := hcs
    simp only [if_true] at hmm
    subst hmm
    have each : ∀ i, ∃ q : Act4, i < len → (∃ vk vb, w.cell? (a.add (i * 6)) = some (.int .i64 q.op) ∧ w.cell? (a.add (i * 6 + 1)) = some (.int .i64 q.n) ∧ w.cell? (a.add (i * 6 + 2)) = some (.int .i64 q.pos) ∧ w.cell? (a.add (i * 6 + 3)) = some vk ∧ w.cell? (a.add (i * 6 + 4)) = some vb ∧ w.cell? (a.add (i * 6 + 5)) = some (.string (B q.data)) ∧ Row w vk (q.keep.map Value.bool) ∧ Row w vb (q.blocks.map (Value.int .i64))) ∧ Fit4 q := by
      intro i
      by_cases hil : i < len
      · obtain ⟨cs', hc, ht'⟩ := hi i (by omega)
        rw [hC] at hc
        obtain ⟨_, hcl, hat⟩ := World.cells?_some hc
        match cs', hcl with
        | [c0, c1, c2, c3, c4, c5], _ =>
          obtain ⟨q, e0, e1, e2, e5, r3, r4, hf⟩ := act_of_cells he hone s0 s1 s2 s3 s4 s5 sb cb si ci ht'
          have k0 := hat 0 (by omega)
          have k1 := hat 1 (by omega)
          have k2 := hat 2 (by omega)
          have k3 := hat 3 (by omega)
          have k4 := hat 4 (by omega)
          have k5 := hat 5 (by omega)
          rw [Go.Deep.add_add] at k0 k1 k2 k3 k4 k5
          exact ⟨q, fun _ => ⟨⟨c3, c4, by rw [← e0]; exact k0, by rw [← e1]; exact k1, by rw [← e2]; exact k2, k3, k4, by rw [← e5]; exact k5, r3, r4⟩, hf⟩⟩
      · exact ⟨⟨0, 0, 0, [], [], []⟩, fun h => absurd h hil⟩
    obtain ⟨f, hf⟩ := Classical.axiomOfChoice each
    refine ⟨(List.range len).map f, ?_, ?_, by simp; omega⟩
    · by_cases h0 : len = 0
      · subst h0
        exact .inl ⟨some a, _, rfl, rfl⟩
      · obtain ⟨b, off, spot⟩ := a
        obtain ⟨⟨_, _, h1, _⟩, _⟩ := hf 0 (by omega)
        have hs : spot = none := by
          have := World.cell?_spot h1
          simpa [Addr.add] using this
        subst hs
        have e1 : ∀ k, (⟨b, off, none⟩ : Addr).add k = ⟨b, off + k, none⟩ := fun k => by unfold Addr.add; split <;> simp_all
        rw [e1] at h1
        refine .inr ⟨b, off, _, by simp; rfl, lt_of_cell h1, fun i hi' => ?_⟩
        have hil : i < len := by simpa using hi'
        obtain ⟨⟨vk, vb, k0, k1, k2, k3, k4, k5, kr, kr2⟩, _⟩ := hf i hil
        rw [e1] at k0 k1 k2 k3 k4 k5
        simp only [List.getElem_map, List.getElem_range]
        exact ⟨vk, vb, k0, k1, k2, k3, k4, k5, kr, kr2⟩
    · intro q hq
      obtain ⟨i, hi', rfl⟩ := List.mem_map.1 hq
      exact (hf i (List.mem_range.1 hi')).2
theorem open_act4 {t : TypeId} {f0 f1 f2 f3 f4 f5 : Field} {eb ei : TypeId} {v : Value} {d : DataW H} {p : List MemPlace} {r : Reach} {b0 : Nat}
    (he : P.underlying t = some (.struct #[f0, f1, f2, f3, f4, f5])) (hone : oneCellFields P #[f0, f1, f2, f3, f4, f5] = true) (hC : P.cellsOf t = 6)
    (s0 : P.underlying f0.type = some (.int .i64)) (s1 : P.underlying f1.type = some (.int .i64)) (s2 : P.underlying f2.type = some (.int .i64)) (s3 : P.underlying f3.type = some (.slice eb)) (s4 : P.underlying f4.type = some (.slice ei)) (s5 : P.underlying f5.type = some .string) (sb : P.underlying eb = some .bool) (cb : P.cellsOf eb = 1) (si : P.underlying ei = some (.int .i64)) (ci : P.cellsOf ei = 1)
    (hv : Value.okWide P w r b0 t v) (h : DataW.Trod enc P w base (fun _ => true) held t v d p) :
    ∃ (a : Act4) (vk vb : Value), v = actV a vk vb ∧ Row w vk (a.keep.map Value.bool) ∧ Row w vb (a.blocks.map (Value.int .i64)) ∧ Fit4 a := by
  obtain ⟨cs, rfl, hsz⟩ := okWide_struct he hv
  obtain ⟨l⟩ := cs
  match l, hsz.trans hC with
  | [c0, c1, c2, c3, c4, c5], _ =>
    obtain ⟨fuel, hf⟩ := h
    obtain ⟨a, e0, e1, e2, e5, r3, r4, hfit⟩ := act_of_cells he hone s0 s1 s2 s3 s4 s5 sb cb si ci (show DataW.trod enc P w base (fun _ => true) held fuel t [c0, c1, c2, c3, c4, c5] = some _ from hf)
    exact ⟨a, c3, c4, by rw [e0, e1, e2, e5]; rfl, r3, r4, hfit⟩
end
end Go.Proofs.YtlgfjoicdbjfjaaDoor
