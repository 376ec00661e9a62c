/- The law's own helpers of chapter 1: made, sameWrites. Conditions: as the acts'. -/
import Derived.Test.YtbcagddgchpheaaBlkJ
namespace Go.Proofs.Ytbcagddgchpheaa
open Go.RowKit Go.Blk

set_option maxRecDepth 100000 in
set_option maxHeartbeats 1600000 in
theorem law_made (n : Int) (v : Value) (l : List Act) (w : World) (hn1 : -9223372036854775808 ≤ n) (hn2 : n ≤ 9223372036854775807) (h : Acts w v l) (hl : l.length ≤ 60) (hok : ∀ a ∈ l, a.Ok) :
    Calls Try.prog 22 #[.int .i64 n, v] w fun e w' => ∃ g od op, e = .returned (.tuple #[.pointer (some ⟨g, 0, none⟩), .bool true]) ∧ DevAt 64 w' g od op (doesAll (newD (1 + pickN n 12)) l) ∧ (∀ k, ownV g od op k → w.heap.size ≤ k) ∧ Below w.heap.size w w' := by
  have hpk := pickN_lt n 12 (by omega)
  have Hpk := Lib.hid (fun w => law_pick n 12 hn1 hn2 (by omega) (by omega) w)
  have Hnew := Lib.hid (fun w => dev_New (1 + pickN n 12) (by omega) (by omega) w)
  have HOk0 : Hid (newD (1 + pickN n 12)).Ok := Lib.hid (newD_ok _ (by omega) (by omega))
  have H := Lib.hid h
  have Hok := Lib.hid hok
  obtain ⟨oa, c, rfl⟩ := h.form
  clear h hok
  generalize hk : pickN n 12 = m at *
  clear hk hn1 hn2
  go_enter Try.func22, Try.ntmps22
  go_wp2_with fail
  refine (Hpk.out _).mono ?_
  rintro e w1 ⟨rfl, rfl⟩
  go_wp2_with fail
  try rw [show (1 : Int) + (m : Int) = ((1 + m : Nat) : Int) by omega]
  refine (Hnew.out _).mono ?_
  rintro e w1 ⟨g, od, rfl, hD, hlow, hbel⟩
  obtain ⟨od', hod'⟩ : ∃ o : Option Nat, o = none := ⟨none, rfl⟩
  rw [← hod'] at hD hlow
  clear hod'
  have HD := Lib.hid hD
  have Hlow := Lib.hid hlow
  have Hbel := Lib.hid hbel
  clear hD hlow hbel
  have Hp0 : Hid ((newD (1 + m)).pend.length = 0) := Lib.hid rfl
  obtain ⟨d0, hd0⟩ : ∃ d, d = newD (1 + m) := ⟨_, rfl⟩
  have Hd0 := Lib.hid hd0
  rw [← hd0] at HOk0 HD Hp0
  clear hd0
  go_wp2
  go_loopw [8] (fun x wr => ∃ k : Nat, k ≤ l.length ∧ x = .int .i64 k ∧ (∃ op, DevAt 64 wr g od op (doesAll d0 (l.take k)) ∧ (∀ q, ownV g od op q → w.heap.size ≤ q)) ∧ Below w.heap.size w wr) (fun x _ => l.length - (intOf x).toNat)
  case atStart => exact ⟨0, by omega, rfl, ⟨od', HD.out, Hlow.out⟩, Hbel.out⟩
  case round =>
    obtain ⟨k, hk, rfl, ⟨op, hD, hlow⟩, hbel⟩ := hrel
    by_cases hlt : k < l.length
    · obtain ⟨b, off, cap, hv, hb, hcell⟩ := H.out.row (by omega)
      simp only [Value.slice.injEq] at hv
      obtain ⟨rfl, _, rfl⟩ := hv
      have hact := hcell k hlt
      have ha := Hok.out l[k] (List.getElem_mem hlt)
      have hst := doesAll_step d0 l k hlt
      have hpl := doesAll_pend d0 (l.take k)
      have htk : (l.take k).length = k := by rw [List.length_take]; omega
      have hdo := doesAll_ok HOk0.out (l.take k) (fun a ha => Hok.out a (List.mem_of_mem_take ha))
      rw [htk, Hp0.out] at hpl
      obtain ⟨vk, c0, c1, c2, c3, c4, hr⟩ := hact
      have c0 := cell_below hbel hb c0
      have c1 := cell_below hbel hb c1
      have c2 := cell_below hbel hb c2
      have c3 := cell_below hbel hb c3
      have c4 := cell_below hbel hb c4
      generalize l[k] = a at *
      have hrl := hr.below hbel
      have hkd : 0 < a.keep.length → ∀ q, vk.ownBlock = some q → ¬ ownV g od op q := by
        intro h0 q hq ho
        rcases hr with ⟨_, _, _, h1⟩ | ⟨b2, off2, cap2, rfl, _, hb2, _⟩
        · have := congrArg List.length h1; rw [List.length_map, List.length_nil] at this; omega
        · have := hlow q ho
          simp only [Value.ownBlock, Option.some.injEq] at hq
          omega
      have Hdoes := Lib.hid (law_does _ a vk g od op wr hD hdo (by omega) ha hrl hkd)
      have Hst := Lib.hid hst
      have Hb := Lib.hid hbel
      have Hl := Lib.hid hlow
      clear hst hcell hr hrl hkd hD hdo hpl htk ha hbel hlow
      have hk1 : (k : Int) < (l.length : Int) := by omega
      go_wp2_with fail
      refine Hdoes.out.mono ?_
      rintro e w2 ⟨rfl, op2, hD2, hop2, hc2⟩
      have HX : Hid (DevAt 64 w2 g od op2 (doesAll d0 (l.take (k + 1)))) := Lib.hid (by rw [Hst.out]; exact hD2)
      have HL : Hid (∀ q, ownV g od op2 q → w.heap.size ≤ q) := Lib.hid (by
        intro q hq
        rcases hq with hq | hq | hq
        · exact Hl.out q (.inl hq)
        · exact Hl.out q (.inr (.inl hq))
        · rcases hop2 q hq with h5 | h5
          · exact Hl.out q (.inr (.inr h5))
          · have := Hb.out.size; omega)
      have HB : Hid (Below w.heap.size w w2) := Lib.hid (Hb.out.trans (hc2.below Hb.out.size Hl.out))
      clear hD2 hop2 hc2
      go_wp2
      go_roundw
      case rel => exact ⟨k + 1, by omega, by go_num, ⟨op2, HX.out, HL.out⟩, HB.out⟩
      case measure => simp [intOf]; omega
    · obtain rfl : k = l.length := by omega
      rw [List.take_length] at hD
      have HX := Lib.hid hD
      clear hD
      go_wp2
      go_ret2
      exact ⟨g, od, op, rfl, by rw [← Hd0.out]; exact HX.out, hlow, hbel⟩
theorem wrRow {w : World} {base : Nat} {v : Value} {l : List (Nat × Txt)} (h : w.ownsRow base 62 2 v l.length (wrCells l)) : ∃ oa c, v = .slice oa l.length c ∧ (0 < l.length → ∃ b, oa = some ⟨b, 0, none⟩ ∧ b < w.heap.size ∧ ∀ i (hi : i < l.length), w.cell? ⟨b, i * 2, none⟩ = some (.int .i64 (l[i].1 : Nat)) ∧ w.cell? ⟨b, i * 2 + 1, none⟩ = some (.string (B l[i].2))) := by
  by_cases h0 : 0 < l.length
  · obtain ⟨g, cap, rfl, h1, h2⟩ := own_wr h h0
    exact ⟨_, _, rfl, fun _ => ⟨g, rfl, h1, h2⟩⟩
  · rcases h.2 with ⟨rfl, h1⟩ | ⟨g, cap, cur, rfl, _⟩
    · exact ⟨none, 0, by rw [h1], fun h => absurd h h0⟩
    · exact ⟨_, _, rfl, fun h => absurd h h0⟩
end Go.Proofs.Ytbcagddgchpheaa
