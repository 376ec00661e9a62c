/- The device's New. No conditions. -/
import Derived.Test.YtlgfjoicdbjfjaaDoorBlkE
import Derived.Test.YtlgfjoicdbjfjaaDoorRep
import Derived.Deep.RegionHeld3
namespace Go.Proofs.YtlgfjoicdbjfjaaDoor
open Go.RowKit Go.Blk Go.Shelf

theorem repeat_zero : ∀ c, Lib.repeatL [0] c = List.replicate c (0 : UInt8)
  | 0 => rfl
  | c + 1 => by rw [Lib.repeatL, repeat_zero c]; rfl
theorem rep256 (w : World) : Calls Tryd.prog 47 #[.string ⟨#[0]⟩, .int .i64 256] w fun e w' => e = .returned (.string (B zeros)) ∧ Below w.heap.size w w' := by
  have := Any.strings_Repeat_main rren_105 rren_extra ⟨#[0]⟩ 256 w (by omega) (by omega) (by decide) (by decide)
  rw [show (⟨#[0]⟩ : ByteArray).data.toList = [0] from rfl, repeat_zero] at this
  exact this
set_option maxRecDepth 100000 in
theorem dev_New_bad (n : Int) (h : n < 1 ∨ 4096 < n) (w : World) : Calls Tryd.prog 30 #[.int .i64 n] w fun e w' => e = .returned (.tuple #[.pointer none, .int .i64 2]) ∧ w = w' := by
  rcases h with h | h
  · go_enter Tryd.func30, Tryd.ntmps30
    go_wp2
    go_ret2
    exact ⟨rfl, rfl⟩
  · have h1 : ¬ n < 1 := by omega
    go_enter Tryd.func30, Tryd.ntmps30
    go_wp2
    go_ret2
    exact ⟨rfl, rfl⟩
theorem made_txt (n : Nat) : (madeCells #[Value.string ⟨#[]⟩] n).toList = txtCells (List.replicate n []) := by
  apply List.ext_getElem
  · simp [txtCells, size_madeCells]
  · intro i h1 h2
    simp [txtCells, madeCells, Nat.mod_one]
    rfl
theorem repl_set {α : Type} (a b : α) (n k : Nat) (h : k < n) : (List.replicate k a ++ List.replicate (n - k) b).set k a = List.replicate (k + 1) a ++ List.replicate (n - (k + 1)) b := by
  apply List.ext_getElem
  · simp; omega
  · intro i h1 h2
    rw [List.getElem_set]
    simp only [List.getElem_append, List.length_replicate, List.getElem_replicate]
    split
    · rename_i e; subst e; simp
    · rename_i e
      by_cases h3 : i < k
      · simp [h3, show i < k + 1 by omega]
      · simp [h3, show ¬ i < k + 1 by omega]
theorem DevAt.new (T : TypeId) (w : World) (gd n : Nat) (dk : List Txt) (h : w.ownsRow 0 9 1 (.slice (some ⟨gd, 0, none⟩) n n) n (txtCells dk)) (hl : dk.length = n) : DevAt T (w.alloc (.cells #[.slice (some ⟨gd, 0, none⟩) n n, .slice none 0 0, .int .i64 (-1), .bool false] T)) w.heap.size (some gd) none ⟨dk, [], -1, false⟩ := by
  subst hl
  have hlt := (h.lt gd rfl).2
  refine ⟨_, _, heap_alloc_new w _, h.alloc _, rfl, World.ownsRow_nil _ _ _ _, rfl, ?_, by simp, by simp⟩
  simp only [ne_eq, Option.some.injEq]
  omega
set_option maxRecDepth 100000 in
set_option maxHeartbeats 1600000 in
theorem dev_New (n : Nat) (h1 : 1 ≤ n) (h2 : n ≤ 4096) (w : World) : Calls Tryd.prog 30 #[.int .i64 (n : Nat)] w fun e w' => ∃ g od, e = .returned (.tuple #[.pointer (some ⟨g, 0, none⟩), .int .i64 0]) ∧ DevAt 80 w' g od none (newD n) ∧ (∀ k, ownV g od none k → w.heap.size ≤ k) ∧ Below w.heap.size w w' := by
  obtain ⟨i0, hi, hz0, hz1, hz2⟩ := info_parts Tryd.info_str
  go_enter Tryd.func30, Tryd.ntmps30
  go_wp2_with (at_make; go_must (refine wpList_make_full w rfl _ _ 44 rfl 0 9 i0 (.string ⟨#[]⟩) 1 Tryd.underlying44 hi hz0 hz1 _ _ _ _ n rfl rfl rfl rfl ?b2 ?b3 (Nat.zero_le _) ?_))
  case b2 => rw [hz2]; omega
  case b3 => unfold maxLen; omega
  intro w1 hown hgrow
  rw [made_txt] at hown
  have hs1 := hgrow.size
  have hgd1 := (hown.lt w.heap.size rfl).2
  have hD := DevAt.new 80 w1 w.heap.size n (List.replicate n []) hown (by simp)
  have hc : Chg (ownV w1.heap.size (some w.heap.size) none) w (w1.alloc (.cells #[.slice (some ⟨w.heap.size, 0, none⟩) n n, .slice none 0 0, .int .i64 (-1), .bool false] 80)) := ((Chg.refl _ w).grown hgrow (fun k _ h => by cases h)).new _
  have HD := Lib.hid hD
  have HC := Lib.hid hc
  have Hgd := Lib.hid hgd1
  clear hown hgrow hD hc
  go_wp2
  generalize hw2 : w1.alloc (.cells #[.slice (some ⟨w.heap.size, 0, none⟩) n n, .slice none 0 0, .int .i64 (-1), .bool false] 80) = w2 at *
  generalize hg : w1.heap.size = g at *
  generalize hgd : w.heap.size = gd at *
  have Hg := Lib.hid hg
  have Hgd2 := Lib.hid hgd
  clear hw2 hg hgd
  go_loopw [17] (fun x wr => ∃ k : Nat, k ≤ n ∧ x = .int .i64 k ∧ DevAt 80 wr g (some gd) none ⟨List.replicate k zeros ++ List.replicate (n - k) [], [], -1, false⟩ ∧ Chg (ownV g (some gd) none) w wr) (fun x _ => n - (intOf x).toNat)
  case atStart => exact ⟨0, by omega, rfl, by simpa using HD.out, HC.out⟩
  case round =>
    obtain ⟨k, hk, rfl, hDk, hck⟩ := hrel
    have HDk := Lib.hid hDk
    have HCk := Lib.hid hck
    clear hck
    by_cases hlt : k < n
    · obtain ⟨gd', capd, hgd', c0, hdc, hdf, hgdl⟩ := hDk.disk (by simp; omega)
      simp only [Option.some.injEq] at hgd'
      subst hgd'
      have hdl : (List.replicate k zeros ++ List.replicate (n - k) ([] : Txt)).length = n := by simp; omega
      simp only [hdl] at c0
      obtain ⟨old, hold⟩ : ∃ v, wr.cell? ⟨gd, k, none⟩ = some v := ⟨_, hdc k (by rw [hdl]; exact hlt)⟩
      have hfk := hdf k
      have hk1 : (k : Int) < (n : Int) := by omega
      have hgg := Hgd.out
      have Hset := Lib.hid (fun w3 (b : Below wr.heap.size wr w3) => (hDk.below b).setDisk gd rfl k (by show k < (List.replicate k zeros ++ List.replicate (n - k) ([] : Txt)).length; rw [hdl]; exact hlt) zeros)
      clear hDk hdc hdf hdl
      go_wp2
      go_region_held3 (fun w' => w'.cell? ⟨g, 0, none⟩ = some (.slice (some ⟨gd, 0, none⟩) n capd))
        (first | assumption | exact cell_call hbv (by assumption) | (rw [World.cell?_setCell_other _ _ _ _ (by intro h; have := congrArg Addr.block h; simp at this; omega)]; assumption) | go_keep)
        ((go_at_call 47; refine (rep256 _).mono ?_; rintro e w4 ⟨rfl, hbv⟩; have q1 : w4.cell? ⟨gd, k, none⟩ = some old := cell_call (by first | exact hbv | exact step_call (below_drew _) hbv) hold; have q2 : w4.frozen? ⟨gd, k, none⟩ = false := (hbv.frozen (p := ⟨gd, k, none⟩) hgdl).trans hfk; have HB := Lib.hid hbv; clear hold hfk))
      have HB2 : Hid (Below wr.heap.size wr w4) := Lib.hid (by first | exact HB.out | exact step_call (below_drew _) HB.out)
      go_wp2
      go_roundw
      case rel =>
        refine ⟨k + 1, by omega, by go_num, ?_, ?_⟩
        · have := Hset.out w4 HB2.out
          simp only [repl_set zeros ([] : Txt) n k hlt] at this
          exact this
        · exact (HCk.out.call HB2.out).set gd k _ (.inr (.inl rfl))
      case measure => simp [intOf]; omega
    · obtain rfl : k = n := by omega
      have hfin : DevAt 80 wr g (some gd) none (newD k) := by
        have := HDk.out
        rw [Nat.sub_self, List.replicate_zero, List.append_nil] at this
        exact this
      have Hfin := Lib.hid hfin
      have hlow : ∀ q, ownV g (some gd) none q → gd ≤ q := by
        intro q hq
        rcases hq with rfl | hq | hq
        · exact Nat.le_of_lt Hgd.out
        · simp only [Option.some.injEq] at hq; omega
        · cases hq
      have Hlow := Lib.hid hlow
      clear hfin hlow hDk
      go_wp2
      go_ret2
      exact ⟨g, some gd, rfl, Hfin.out, (fun q hq => by have := Hlow.out q hq; rw [Hgd2.out]; exact this), HCk.out.below (Nat.le_refl _) (fun q hq => by have := Hlow.out q hq; rw [Hgd2.out]; exact this)⟩
end Go.Proofs.YtlgfjoicdbjfjaaDoor
