/- Chapter 4: a clone of some texts; the rows of the log. Conditions: sizes. -/
import Derived.Test.YtlgfjoicdbjfjaaDoorJrnF
import Derived.Test.YtlgfjoicdbjfjaaDoorFrmD
namespace Go.Proofs.YtlgfjoicdbjfjaaDoor
open Go.RowKit Go.Wir Go.Blk Go.Frm Go.Jrn

set_option maxRecDepth 100000 in
set_option maxHeartbeats 800000 in
theorem clone_txtR (l : List Txt) (b off cap : Nat) (w : World) (h : ∀ i (hi : i < l.length), w.cell? ⟨b, off + i, none⟩ = some (.string (B l[i]))) (hl : l.length ≤ 1000000) :
    Calls Tryd.prog 36 #[.slice (some ⟨b, off, none⟩) l.length cap] w fun e w' => Below w.heap.size w w' ∧ ∃ v', e = .returned v' ∧ w'.ownsRow w.heap.size 9 1 v' l.length (txtCells l) := by
  obtain ⟨i0, hi, hz0, hz1, hz2⟩ := info_parts Tryd.info_str
  have qn : ∀ (w : World) (a : Option Addr) (n c : Nat), (binOp .eql 44 (.slice a n c) (.slice none 0 0)).run Tryd.prog w = .ok (.bool a.isNone) w := fun w a n c => Lib.run_eql_slice_nil w _ _ a n c 0 0 Tryd.underlying44
  have hnews := Lib.hid (txt_news (w := w.alloc (.cells #[] 9)) (fun i hi => cell_alloc _ (h i hi)))
  have hown := own_empty w 9 1 w.heap.size (Nat.le_refl _)
  have Hlen := Lib.hid (show (txtCells l).length = l.length * 1 by rw [txtCells_length, Nat.mul_one])
  clear h
  go_enter Tryd.func36, Tryd.ntmps36
  go_wp2_with (at_builtin; go_must (refine wpList_append_where _ rfl _ _ 44 rfl w.heap.size 9 i0 (.string ⟨#[]⟩) 1 16 Tryd.underlying44 hi hz0 hz1 hz2 rfl (by decide) _ _ _ rfl hown ⟨b, off, none⟩ l.length cap (txtCells l) rfl Hlen.out hnews.out (txtCells_one l) ?c3 ?c4 ?c5 ?_))
  case c3 => unfold maxLen; omega
  case c4 => omega
  case c5 => simp
  intro v' w1 hown' hgrow _
  have hb := (step_new (Below.refl w.heap.size w) (.cells #[] 9)).grown hgrow (by simp) (fun q hq => by
    simp only [Value.ownBlock, Option.some.injEq] at hq
    omega)
  try rw [Nat.zero_add] at hown'
  try rw [List.nil_append] at hown'
  have Hb := Lib.hid hb
  have Ho := Lib.hid hown'
  clear hb hown' hgrow hown
  go_wp2
  go_ret
  exact ⟨Hb.out, _, rfl, Ho.out⟩
theorem logF_snoc (j : Jn) : ∀ (L : List Txt) (k i : Nat) (h : i < L.length), logF j k (L.take (i + 1)) = logF j k (L.take i) ++ [(((placeN j (k + i) : Nat) : Int), L[i])]
  | [], _, _, h => by simp at h
  | s :: L, k, 0, _ => by simp [logF]
  | s :: L, k, i + 1, h => by
    simp only [List.take_succ_cons, logF, List.cons_append, List.getElem_cons_succ]
    rw [logF_snoc j L (k + 1) i (by simpa using h), show k + 1 + i = k + (i + 1) by omega]
theorem intW_logF (j : Jn) : ∀ (L : List Txt) (k : Nat), intW (natW (logF j k L)) = logF j k L
  | [], _ => rfl
  | s :: L, k => by
    show ((((((placeN j k : Nat) : Int).toNat) : Nat) : Int), s) :: intW (natW (logF j (k + 1) L)) = _
    rw [intW_logF j L (k + 1)]; rfl
theorem wrCells_log (j : Jn) (L : List Txt) (i : Nat) (h : i < L.length) : wrCells (natW (logF j 1 (L.take (i + 1)))) = wrCells (natW (logF j 1 (L.take i))) ++ [.int .i64 (placeN j (i + 1) : Nat), .string (B L[i])] := by
  rw [logF_snoc j L 1 i h, natW_append, wrCells_append, Nat.add_comm 1 i]; rfl
theorem natlog_length (j : Jn) (L : List Txt) : (natW (logF j 1 L)).length = L.length := by rw [natW_length, logF_length]
end Go.Proofs.YtlgfjoicdbjfjaaDoor
