/- Chapter 17: calls on queries that a law has put together. Conditions: as the calls'. -/
import Derived.Test.YtlfhgmclnapmjaaGreatDoorQryTm
namespace Go.Proofs.YtlfhgmclnapmjaaGreatDoor
open Go.RowKit Go.Utf Go.Qry Go.Lib

/-- query.Matches of a QBool of rows. -/
theorem mat_bool_at (l : Tks) (vl : Value) (hlb : ∀ x ∈ l, x.2 ≤ 1000000) (hnl : l.length ≤ 1000000) (n : Nat) (a b c : List Qy) (va vb vc : Value) (w : World) (ha : QRow w n va a) (hb : QRow w n vb b) (hc : QRow w n vc c) (hs : shortB (.mk 5 [] a b c) = true) (hl : Toks w vl l) (hT : Tabs w) (r : Bool) (hr : matB l (.mk 5 [] a b c) = r) :
    Calls Tryz.prog 17 #[.agg #[.int .i64 5, .string ⟨#[]⟩, va, vb, vc], vl] w fun e w' => e = .returned (.bool r) ∧ Below w.heap.size w w' := by
  subst hr
  exact query_Matches l vl hlb hnl n (.mk 5 [] a b c) va vb vc w (bool_val ha hb hc) hs hl hT
theorem right_bool_at (n : Nat) (a b c : List Qy) (va vb vc : Value) (w : World) (ha : QRow w n va a) (hb : QRow w n vb b) (hc : QRow w n vc c) (hT : Tabs w) :
    Calls Tryz.prog 9 #[.agg #[.int .i64 5, .string ⟨#[]⟩, va, vb, vc]] w fun e w' => e = .returned (.bool (rightB (.mk 5 [] a b c))) ∧ Below w.heap.size w w' :=
  query_Right n (.mk 5 [] a b c) va vb vc w (bool_val ha hb hc) hT
theorem size_bool_at (n : Nat) (a b c : List Qy) (va vb vc : Value) (w : World) (ha : QRow w n va a) (hb : QRow w n vb b) (hc : QRow w n vc c) :
    Calls Tryz.prog 6 #[.agg #[.int .i64 5, .string ⟨#[]⟩, va, vb, vc]] w fun e w' => e = .returned (.tuple #[.int .i64 ((sizeN (.mk 5 [] a b c)).1 : Nat), .int .i64 ((sizeN (.mk 5 [] a b c)).2 : Nat)]) ∧ Below w.heap.size w w' :=
  query_Size n (.mk 5 [] a b c) va vb vc w (bool_val ha hb hc)
theorem right_at (K : Int) (hk : -9223372036854775808 ≤ K ∧ K ≤ 9223372036854775807) (s : ByteArray) (hs : s.size ≤ 1000) (w : World) (hT : Tabs w) :
    Calls Tryz.prog 9 #[.agg #[.int .i64 K, .string s, .slice none 0 0, .slice none 0 0, .slice none 0 0]] w fun e w' => e = .returned (.bool (rightB (.mk K (L s) [] [] []))) ∧ Below w.heap.size w w' := by
  have h := query_Right 0 (.mk K (L s) [] [] []) (.slice none 0 0) (.slice none 0 0) (.slice none 0 0) w (bare_val w K s hk (by omega)) hT
  rwa [bare_form] at h
theorem short_one {a : Qy} (h : shortB a = true) : shortR [a] = true := shortR_of (by simp) (fun k hk => by rw [List.mem_singleton.1 hk]; exact h)
theorem short_two {a b : Qy} (ha : shortB a = true) (hb : shortB b = true) : shortR [a, b] = true := shortR_of (by simp) (fun k hk => by
  rcases List.mem_cons.1 hk with rfl | hk
  · exact ha
  · rw [List.mem_singleton.1 hk]; exact hb)
theorem short_nil : shortR [] = true := rfl
end Go.Proofs.YtlfhgmclnapmjaaGreatDoor
