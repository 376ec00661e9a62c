/- The law WireLinear returns true for every three texts. Condition: their lengths fit an int. -/
import Derived.Test.YtpppecabpociaaaShown2
import Derived.Test.YtpppecabpociaaaByteRow
import Derived.Test.YtpppecabpociaaaRegionVals
namespace Go.Proofs.Ytpppecabpociaaa
open Go.RowKit Go.Wir

theorem xor3_u8 (x y z : UInt8) : bits .xor .u8 (bits .xor .u8 (x.toNat : Int) (y.toNat : Int)) (z.toNat : Int) = (((x ^^^ y ^^^ z).toNat : Nat) : Int) := by
  have hx := x.toNat_lt; have hy := y.toNat_lt; have hz := z.toNat_lt
  have h1 : bits .xor .u8 (x.toNat : Int) (y.toNat : Int) = (((x ^^^ y).toNat : Nat) : Int) := by
    rw [u8_xor _ _ (by omega) (by omega) (by omega) (by omega), UInt8.toNat_xor]; rfl
  have hxy := (x ^^^ y).toNat_lt
  rw [h1, u8_xor _ _ (by omega) (by omega) (by omega) (by omega), UInt8.toNat_xor (x ^^^ y)]; rfl

def One (w : World) (x : Value) (s : ByteArray) : Prop := ∃ g, x = .slice (some ⟨g, 0, none⟩) 1 1 ∧ g < w.heap.size ∧ w.cell? ⟨g, 0, none⟩ = some (.string s)
theorem One.below {w w' : World} {x : Value} {s : ByteArray} (hb : Below w.heap.size w w') (h : One w x s) : One w' x s := by
  obtain ⟨g, h1, h2, h3⟩ := h
  exact ⟨g, h1, Nat.lt_of_lt_of_le h2 hb.size, cell_below hb h2 h3⟩
theorem one_new (w : World) (s : ByteArray) (t : TypeId) : One (w.alloc (.cells #[.string s] t)) (.slice (some ⟨w.heap.size, 0, none⟩) 1 1) s :=
  ⟨_, rfl, by simp, by rw [Lib.cell_of_heap (heap_alloc_new w _)]; rfl⟩
theorem one_crc {w : World} {x : Value} {s : ByteArray} (hs : s.size ≤ 9223372036854775807) (h : One w x s) (k : Nat) (hk : crc (L s) = k) : Calls Try.prog 5 #[x] w fun e w' => e = .returned (.int .u32 ((k : Nat) : Int)) ∧ Below w.heap.size w w' := by
  obtain ⟨g, rfl, h2, h3⟩ := h
  have := wire_Crc (.slice (some ⟨g, 0, none⟩) 1 1) [s] w (.inr ⟨g, 0, 1, rfl, Nat.le_refl _, h2, fun i hi => by
    have : i = 0 := by simpa using hi
    subst this; simpa using h3⟩) (by simp) (by simpa using hs)
  have e : partsL [s] = L s := by simp [partsL]
  rwa [e, hk] at this
theorem eval_tmp {act : Act} {k : Nat} {v : Value} (h : act.tmps[k]? = some v) : act.eval (.tmp k) = v := by
  show act.tmps.getD k undef = v
  rw [Array.getD_eq_getD_getElem?, h]; rfl
/-- The values of the last region's operations. -/
def LinV (a b c : ByteArray) (g n : Nat) (X : List UInt8) (cx ca cb cc : Nat) : Nat → World → Value → Prop
  | 0, _, v => v = .slice (some ⟨g, 0, none⟩) n n
  | 1, _, v => v = .string (B X)
  | 2, w, v => One w v (B X)
  | 3, _, v => v = .int .u32 ((cx : Nat) : Int)
  | 4, _, v => v = .string (a)
  | 5, _, v => v = .int .i64 (n : Nat)
  | 6, _, v => v = .string (a.extract 0 n)
  | 7, w, v => One w v (a.extract 0 n)
  | 8, _, v => v = .int .u32 ((ca : Nat) : Int)
  | 9, _, v => v = .string (b)
  | 10, _, v => v = .int .i64 (n : Nat)
  | 11, _, v => v = .string (b.extract 0 n)
  | 12, w, v => One w v (b.extract 0 n)
  | 13, _, v => v = .int .u32 ((cb : Nat) : Int)
  | 14, _, v => v = .int .u32 ((ca ^^^ cb : Nat) : Int)
  | 15, _, v => v = .string (c)
  | 16, _, v => v = .int .i64 (n : Nat)
  | 17, _, v => v = .string (c.extract 0 n)
  | 18, w, v => One w v (c.extract 0 n)
  | 19, _, v => v = .int .u32 ((cc : Nat) : Int)
  | 20, _, v => v = .int .u32 ((ca ^^^ cb ^^^ cc : Nat) : Int)
  | 21, _, v => v = .bool true
  | 22, _, v => v = .bool true
  | _, _, _ => True
def LinD (i : Nat) : Nat := if i = 22 then 6 else 48 + i
theorem linV_below {a b c : ByteArray} {g n : Nat} {X : List UInt8} {cx ca cb cc : Nat} (i : Nat) (w1 w2 : World) (v : Value) (hb : Below w1.heap.size w1 w2) (h : LinV a b c g n X cx ca cb cc i w1 v) : LinV a b c g n X cx ca cb cc i w2 v := by
  unfold LinV at *
  split at h <;> first | exact h.below hb | exact h | trivial
set_option maxRecDepth 100000 in
set_option maxHeartbeats 12800000 in
theorem walk_WireLinear (a b c : ByteArray) (ha : a.size ≤ maxLen) (hb : b.size ≤ maxLen) (hcs : c.size ≤ maxLen) (w : World) :
    Calls Try.prog 3 #[.string a, .string b, .string c] w fun e w' => e = .returned (.bool true) ∧ Below w.heap.size w w' := by
  unfold maxLen at ha hb hcs
  obtain ⟨n, hn⟩ : ∃ n, n = min a.size (min b.size c.size) := ⟨_, rfl⟩
  have hmin : min (a.size : Int) (min (b.size : Int) (c.size : Int)) = (n : Int) := by omega
  have hna : n ≤ a.size := by omega
  have hnb : n ≤ b.size := by omega
  have hnc : n ≤ c.size := by omega
  clear hn
  by_cases hn : 3000 < n
  · go_enter Try.func3, Try.ntmps3
    go_wp2_with fail
    refine (shown2 w).mono ?_
    rintro e w1 ⟨rfl, b1⟩
    go_wp2
    go_ret
    exact ⟨rfl, b1⟩
  · have hn3 : n ≤ 3000 := by omega
    have hmk := run_make_row' (P := Try.prog) 23 5 (.int .u8 0) 1 Try.underlying23 Try.info_u8 rfl .i64 .i64 n (by omega) (by omega)
    obtain ⟨X, hX⟩ : ∃ X, X = x3 ((L a).take n) ((L b).take n) ((L c).take n) := ⟨_, rfl⟩
    have hXl : X.length = n := by rw [hX, x3_length _ _ _ (by simp [length_L]; omega) (by simp [length_L]; omega)]; simp [length_L]; omega
    have HX := Lib.hid hX
    have HXl := Lib.hid hXl
    clear hX hXl
    go_enter Try.func3, Try.ntmps3
    go_wp2_with fail
    refine (shown2 w).mono ?_
    rintro e w1 ⟨rfl, b1⟩
    have B1 := Lib.hid (step_call (Below.refl _ w) b1)
    clear b1
    have hrow0 := Lib.hid (BRow.made w1 n)
    go_wp2
    clear hmk
    go_loopw [10] (fun i wr => ∃ (k : Nat), k ≤ n ∧ i = .int .i64 k ∧ BRow wr w1.heap.size (X.take k ++ List.replicate (X.length - k) 0) ∧ Below w.heap.size w wr) (fun i _ => n - (intOf i).toNat)
    case atStart => exact ⟨0, by omega, rfl, by simpa [HXl.out] using hrow0.out, step_new B1.out _⟩
    case round =>
      obtain ⟨k, hk, rfl, hrow, hbel⟩ := hrel
      by_cases hlt : k < n
      · have hlk : k < (X.take k ++ List.replicate (X.length - k) 0).length := by simp; have := HXl.out; omega
        have hf := hrow.frozen k hlk
        have hc := hrow.cell k hlk
        have Hset := Lib.hid (fun v => hrow.set k hlk v)
        have Hfs := Lib.hid (fill_step X k (by rw [HXl.out]; exact hlt))
        have hx := xor3_u8 (a[k]'(by omega)) (b[k]'(by omega)) (c[k]'(by omega))
        have hka : k < a.size := by omega
        have hkb : k < b.size := by omega
        have hkc : k < c.size := by omega
        obtain ⟨y, hy⟩ : ∃ y, y = a[k] ^^^ b[k] ^^^ c[k] := ⟨_, rfl⟩
        rw [← hy] at hx
        have Hy : Hid (X[k]'(by rw [HXl.out]; exact hlt) = y) := Lib.hid (by
          rw [hy, get_L a k hka, get_L b k hkb, get_L c k hkc]
          have := HX.out; subst this
          rw [x3_get _ _ _ k _ (by simp [length_L]; omega) (by simp [length_L]; omega) (by simp [length_L]; omega)]
          simp)
        clear hy
        have k1 : (k : Int) < a.size := by omega
        have k2 : (k : Int) < b.size := by omega
        have k3 : (k : Int) < c.size := by omega
        have k4 : (k : Int) < n := by omega
        clear hrow
        go_wp2
        go_region
        go_wp2
        go_roundw
        case rel =>
          refine ⟨k + 1, by omega, by go_num, ?_, (hbel.setCell B1.out.size _).drew⟩
          have := Hset.out y
          rw [← Hy.out, Hfs.out, Hy.out] at this
          exact this
        case measure => simp [intOf]; omega
      · obtain rfl : n = k := by omega
        have hconv := hrow.conv n
        have Hrow := Lib.hid hrow
        clear hrow
        have hXe : X.take n ++ List.replicate (X.length - n) 0 = X := by have := HXl.out; rw [this, Nat.sub_self, List.take_of_length_le (by omega)]; simp
        rw [hXe] at hconv
        rw [HXl.out] at hconv
        have HrowX := Lib.hid (show BRow wr w1.heap.size X by have := Hrow.out; rwa [hXe] at this)
        clear hXe Hrow
        have hza : (a.extract 0 n).size ≤ 9223372036854775807 := by rw [ByteArray.size_extract]; omega
        have hzb : (b.extract 0 n).size ≤ 9223372036854775807 := by rw [ByteArray.size_extract]; omega
        have hzc : (c.extract 0 n).size ≤ 9223372036854775807 := by rw [ByteArray.size_extract]; omega
        have hzx : (B X).size ≤ 9223372036854775807 := by rw [size_B, HXl.out]; omega
        obtain ⟨ca, hca⟩ : ∃ k, crc (L (a.extract 0 n)) = k := ⟨_, rfl⟩
        obtain ⟨cb, hcb⟩ : ∃ k, crc (L (b.extract 0 n)) = k := ⟨_, rfl⟩
        obtain ⟨cc, hcc⟩ : ∃ k, crc (L (c.extract 0 n)) = k := ⟨_, rfl⟩
        obtain ⟨cx, hcx⟩ : ∃ k, crc (L (B X)) = k := ⟨_, rfl⟩
        have Hall : Hid (cx = ca ^^^ cb ^^^ cc) := Lib.hid (by
          rw [← hcx, ← hca, ← hcb, ← hcc, L_B, HX.out, L_extract, L_extract, L_extract]
          simp only [List.drop_zero, Nat.sub_zero]
          exact crc_x3 _ _ _ (by simp [length_L]; omega) (by simp [length_L]; omega))
        have la := crc_lt (L (a.extract 0 n)); have lb := crc_lt (L (b.extract 0 n)); have lc := crc_lt (L (c.extract 0 n))
        rw [hca] at la; rw [hcb] at lb; rw [hcc] at lc
        have lab : ca ^^^ cb < 4294967296 := xor_lt _ _ la lb
        have Hx1 := Lib.hid (u32_xor_nat ca cb la lb)
        have Hx2 := Lib.hid (u32_xor_nat (ca ^^^ cb) cc lab lc)
        have Hca := Lib.hid hca; have Hcb := Lib.hid hcb; have Hcc := Lib.hid hcc; have Hcx := Lib.hid hcx
        have Hbel := Lib.hid hbel
        clear hca hcb hcc hcx hconv hbel
        go_wp2
        generalize w1.heap.size = g at HrowX ⊢
        refine wp_region_vals (by kernel_rfl) (LinV a b c g n X cx ca cb cc) LinD ?_ ?_ ?_ ?_ ?_ linV_below ?_ ?_
        · intro i h
          match i, h with
          | 0, _ => rfl
          | 1, _ => rfl
          | 2, _ => rfl
          | 3, _ => rfl
          | 4, _ => rfl
          | 5, _ => rfl
          | 6, _ => rfl
          | 7, _ => rfl
          | 8, _ => rfl
          | 9, _ => rfl
          | 10, _ => rfl
          | 11, _ => rfl
          | 12, _ => rfl
          | 13, _ => rfl
          | 14, _ => rfl
          | 15, _ => rfl
          | 16, _ => rfl
          | 17, _ => rfl
          | 18, _ => rfl
          | 19, _ => rfl
          | 20, _ => rfl
          | 21, _ => rfl
          | 22, _ => rfl
          | m + 23, h => exact absurd h (by simp)
        · intro i h
          match i, h with
          | 0, _ => rfl
          | 1, _ => rfl
          | 2, _ => rfl
          | 3, _ => rfl
          | 4, _ => rfl
          | 5, _ => rfl
          | 6, _ => rfl
          | 7, _ => rfl
          | 8, _ => rfl
          | 9, _ => rfl
          | 10, _ => rfl
          | 11, _ => rfl
          | 12, _ => rfl
          | 13, _ => rfl
          | 14, _ => rfl
          | 15, _ => rfl
          | 16, _ => rfl
          | 17, _ => rfl
          | 18, _ => rfl
          | 19, _ => rfl
          | 20, _ => rfl
          | 21, _ => rfl
          | 22, _ => rfl
          | m + 23, h => exact absurd h (by simp)
        · intro i h
          have h : i < 23 := h
          show LinD i < 70
          unfold LinD; split <;> omega
        · intro i j hi hj
          have hi : i < 23 := hi
          have hj : j < 23 := hj
          unfold LinD
          split <;> split <;> omega
        · exact acyclic_of (by kernel_rfl)
        · intro i h act w2 K hb hr hd hK
          have hq : ∀ s, s < 48 → s ≠ 6 → ∀ j, j < 23 → LinD j ≠ s := by
            intro s h1 h2 j hj
            unfold LinD; split <;> omega
          match i, h with
          | 0, _ =>
            have t0 : act.tmps[9]? = some (.slice (some ⟨g, 0, none⟩) n n) := (hr.2.2 9 (hq 9 (by omega) (by omega))).trans rfl
            clear hd
            go_simp
            exact hK _ _ (Below.refl _ _) rfl
          | 1, _ =>
            obtain ⟨v0, t0, e0⟩ := hd ⟨0, .data⟩ (by simp) rfl
            obtain rfl : v0 = .slice (some ⟨g, 0, none⟩) n n := e0
            have t0 : act.tmps[48]? = some (.slice (some ⟨g, 0, none⟩) n n) := t0
            clear hd
            have hcv := (HrowX.out.below hb).conv n
            rw [HXl.out] at hcv
            go_simp
            exact hK _ _ (Below.refl _ _) rfl
          | 2, _ =>
            obtain ⟨v1, t1, e1⟩ := hd ⟨1, .data⟩ (by simp) rfl
            obtain rfl : v1 = .string (B X) := e1
            have t1 : act.tmps[49]? = some (.string (B X)) := t1
            clear hd
            go_simp
            exact hK _ _ (step_new (Below.refl _ _) _) (one_new _ _ _)
          | 3, _ =>
            obtain ⟨v2, t2, e2⟩ := hd ⟨2, .data⟩ (by simp) rfl
            have e2 : One w2 v2 (B X) := e2
            have t2 : act.tmps[50]? = some v2 := t2
            clear hd
            go_simp
            refine (one_crc hzx e2 _ Hcx.out).mono ?_
            rintro e w3 ⟨rfl, hb3⟩
            exact hK _ _ hb3 rfl
          | 4, _ =>
            have t0 : act.tmps[0]? = some (.string (a)) := (hr.2.2 0 (hq 0 (by omega) (by omega))).trans rfl
            clear hd
            go_simp
            exact hK _ _ (Below.refl _ _) rfl
          | 5, _ =>
            have t0 : act.tmps[8]? = some (.int .i64 (n : Nat)) := (hr.2.2 8 (hq 8 (by omega) (by omega))).trans rfl
            clear hd
            go_simp
            exact hK _ _ (Below.refl _ _) rfl
          | 6, _ =>
            obtain ⟨v4, t4, e4⟩ := hd ⟨4, .data⟩ (by simp) rfl
            obtain rfl : v4 = .string (a) := e4
            have t4 : act.tmps[52]? = some (.string (a)) := t4
            obtain ⟨v5, t5, e5⟩ := hd ⟨5, .data⟩ (by simp) rfl
            obtain rfl : v5 = .int .i64 (n : Nat) := e5
            have t5 : act.tmps[53]? = some (.int .i64 (n : Nat)) := t5
            clear hd
            have q0 : (0 : Int) ≤ (n : Int) := by omega
            have q1 : (n : Int) ≤ (a.size : Int) := by omega
            go_simp
            exact hK _ _ (Below.refl _ _) rfl
          | 7, _ =>
            obtain ⟨v6, t6, e6⟩ := hd ⟨6, .data⟩ (by simp) rfl
            obtain rfl : v6 = .string (a.extract 0 n) := e6
            have t6 : act.tmps[54]? = some (.string (a.extract 0 n)) := t6
            clear hd
            go_simp
            exact hK _ _ (step_new (Below.refl _ _) _) (one_new _ _ _)
          | 8, _ =>
            obtain ⟨v7, t7, e7⟩ := hd ⟨7, .data⟩ (by simp) rfl
            have e7 : One w2 v7 (a.extract 0 n) := e7
            have t7 : act.tmps[55]? = some v7 := t7
            clear hd
            go_simp
            refine (one_crc hza e7 _ Hca.out).mono ?_
            rintro e w3 ⟨rfl, hb3⟩
            exact hK _ _ hb3 rfl
          | 9, _ =>
            have t0 : act.tmps[1]? = some (.string (b)) := (hr.2.2 1 (hq 1 (by omega) (by omega))).trans rfl
            clear hd
            go_simp
            exact hK _ _ (Below.refl _ _) rfl
          | 10, _ =>
            have t0 : act.tmps[8]? = some (.int .i64 (n : Nat)) := (hr.2.2 8 (hq 8 (by omega) (by omega))).trans rfl
            clear hd
            go_simp
            exact hK _ _ (Below.refl _ _) rfl
          | 11, _ =>
            obtain ⟨v9, t9, e9⟩ := hd ⟨9, .data⟩ (by simp) rfl
            obtain rfl : v9 = .string (b) := e9
            have t9 : act.tmps[57]? = some (.string (b)) := t9
            obtain ⟨v10, t10, e10⟩ := hd ⟨10, .data⟩ (by simp) rfl
            obtain rfl : v10 = .int .i64 (n : Nat) := e10
            have t10 : act.tmps[58]? = some (.int .i64 (n : Nat)) := t10
            clear hd
            have q0 : (0 : Int) ≤ (n : Int) := by omega
            have q1 : (n : Int) ≤ (b.size : Int) := by omega
            go_simp
            exact hK _ _ (Below.refl _ _) rfl
          | 12, _ =>
            obtain ⟨v11, t11, e11⟩ := hd ⟨11, .data⟩ (by simp) rfl
            obtain rfl : v11 = .string (b.extract 0 n) := e11
            have t11 : act.tmps[59]? = some (.string (b.extract 0 n)) := t11
            clear hd
            go_simp
            exact hK _ _ (step_new (Below.refl _ _) _) (one_new _ _ _)
          | 13, _ =>
            obtain ⟨v12, t12, e12⟩ := hd ⟨12, .data⟩ (by simp) rfl
            have e12 : One w2 v12 (b.extract 0 n) := e12
            have t12 : act.tmps[60]? = some v12 := t12
            clear hd
            go_simp
            refine (one_crc hzb e12 _ Hcb.out).mono ?_
            rintro e w3 ⟨rfl, hb3⟩
            exact hK _ _ hb3 rfl
          | 14, _ =>
            obtain ⟨v8, t8, e8⟩ := hd ⟨8, .data⟩ (by simp) rfl
            obtain rfl : v8 = .int .u32 ((ca : Nat) : Int) := e8
            have t8 : act.tmps[56]? = some (.int .u32 ((ca : Nat) : Int)) := t8
            obtain ⟨v13, t13, e13⟩ := hd ⟨13, .data⟩ (by simp) rfl
            obtain rfl : v13 = .int .u32 ((cb : Nat) : Int) := e13
            have t13 : act.tmps[61]? = some (.int .u32 ((cb : Nat) : Int)) := t13
            clear hd
            have hx := Hx1.out
            go_simp
            exact hK _ _ (Below.refl _ _) rfl
          | 15, _ =>
            have t0 : act.tmps[2]? = some (.string (c)) := (hr.2.2 2 (hq 2 (by omega) (by omega))).trans rfl
            clear hd
            go_simp
            exact hK _ _ (Below.refl _ _) rfl
          | 16, _ =>
            have t0 : act.tmps[8]? = some (.int .i64 (n : Nat)) := (hr.2.2 8 (hq 8 (by omega) (by omega))).trans rfl
            clear hd
            go_simp
            exact hK _ _ (Below.refl _ _) rfl
          | 17, _ =>
            obtain ⟨v15, t15, e15⟩ := hd ⟨15, .data⟩ (by simp) rfl
            obtain rfl : v15 = .string (c) := e15
            have t15 : act.tmps[63]? = some (.string (c)) := t15
            obtain ⟨v16, t16, e16⟩ := hd ⟨16, .data⟩ (by simp) rfl
            obtain rfl : v16 = .int .i64 (n : Nat) := e16
            have t16 : act.tmps[64]? = some (.int .i64 (n : Nat)) := t16
            clear hd
            have q0 : (0 : Int) ≤ (n : Int) := by omega
            have q1 : (n : Int) ≤ (c.size : Int) := by omega
            go_simp
            exact hK _ _ (Below.refl _ _) rfl
          | 18, _ =>
            obtain ⟨v17, t17, e17⟩ := hd ⟨17, .data⟩ (by simp) rfl
            obtain rfl : v17 = .string (c.extract 0 n) := e17
            have t17 : act.tmps[65]? = some (.string (c.extract 0 n)) := t17
            clear hd
            go_simp
            exact hK _ _ (step_new (Below.refl _ _) _) (one_new _ _ _)
          | 19, _ =>
            obtain ⟨v18, t18, e18⟩ := hd ⟨18, .data⟩ (by simp) rfl
            have e18 : One w2 v18 (c.extract 0 n) := e18
            have t18 : act.tmps[66]? = some v18 := t18
            clear hd
            go_simp
            refine (one_crc hzc e18 _ Hcc.out).mono ?_
            rintro e w3 ⟨rfl, hb3⟩
            exact hK _ _ hb3 rfl
          | 20, _ =>
            obtain ⟨v14, t14, e14⟩ := hd ⟨14, .data⟩ (by simp) rfl
            obtain rfl : v14 = .int .u32 ((ca ^^^ cb : Nat) : Int) := e14
            have t14 : act.tmps[62]? = some (.int .u32 ((ca ^^^ cb : Nat) : Int)) := t14
            obtain ⟨v19, t19, e19⟩ := hd ⟨19, .data⟩ (by simp) rfl
            obtain rfl : v19 = .int .u32 ((cc : Nat) : Int) := e19
            have t19 : act.tmps[67]? = some (.int .u32 ((cc : Nat) : Int)) := t19
            clear hd
            have hx := Hx2.out
            go_simp
            exact hK _ _ (Below.refl _ _) rfl
          | 21, _ =>
            obtain ⟨v3, t3, e3⟩ := hd ⟨3, .data⟩ (by simp) rfl
            obtain rfl : v3 = .int .u32 ((cx : Nat) : Int) := e3
            have t3 : act.tmps[51]? = some (.int .u32 ((cx : Nat) : Int)) := t3
            obtain ⟨v20, t20, e20⟩ := hd ⟨20, .data⟩ (by simp) rfl
            obtain rfl : v20 = .int .u32 ((ca ^^^ cb ^^^ cc : Nat) : Int) := e20
            have t20 : act.tmps[68]? = some (.int .u32 ((ca ^^^ cb ^^^ cc : Nat) : Int)) := t20
            clear hd
            have hx : ((cx : Int) == ((ca ^^^ cb ^^^ cc : Nat) : Int)) = true := by rw [Hall.out]; simp
            go_simp
            exact hK _ _ (Below.refl _ _) rfl
          | 22, _ =>
            obtain ⟨v21, t21, e21⟩ := hd ⟨21, .data⟩ (by simp) rfl
            obtain rfl : v21 = .bool true := e21
            have t21 : act.tmps[69]? = some (.bool true) := t21
            clear hd
            go_simp
            exact hK _ _ (Below.refl _ _) rfl
          | m + 23, h => exact absurd h (by simp)
        · intro act w2 hb hr hall
          obtain ⟨v22, t22, e22⟩ := hall 22 (by simp)
          obtain rfl : v22 = .bool true := e22
          have t22 : act.tmps[6]? = some (.bool true) := t22
          have HB := Lib.hid (step_call Hbel.out hb)
          clear hall hb
          have hd0 : act.defers = [] := hr.1
          go_wp2
          exact bodyPost_ret (v := .bool true) (by simp [results, Try.f3, go_sem, t22]) hd0 ⟨rfl, HB.out⟩
end Go.Proofs.Ytpppecabpociaaa
