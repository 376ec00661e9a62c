/- codexref13.bytes: the bytes of a list. Conditions: each entry is small, not more than 2^20. -/
import Derived.Test.YtefnddhondbjbaaRef13Block
import Derived.Test.YtefnddhondbjbaaRef13Right
namespace Go.Proofs.Ytefnddhondbjbaa
open Go.RowKit Go.Wir Go.Dic

theorem gs_at (es : List Ent) (k : Nat) (h : 16 * k < es.length) : ∃ (hk : k < (gs es).length) (h0 : 0 < ((gs es)[k]).length), (gs es)[k].length = min 16 (es.length - 16 * k) ∧ ∀ i (hi : i < (gs es)[k].length), (gs es)[k][i] = es[16 * k + i]'(by
    rw [gs_get] at hi; simp at hi; omega) := by
  have hk : k < (gs es).length := by rw [gs_length]; omega
  refine ⟨hk, ?_, ?_, ?_⟩
  · rw [gs_get]; simp; omega
  · rw [gs_get]; simp
  · intro i hi
    simp only [gs_get, List.getElem_take, List.getElem_drop]

set_option maxRecDepth 100000 in
set_option maxHeartbeats 1600000 in
theorem ref13_bytes_row (es : List Ent) (b off cap : Nat) (hcap : es.length ≤ cap) (hn : es.length ≤ 1048576) (hz : ∀ e ∈ es, small e) (w : World) (hb : b < w.heap.size)
    (hcell : ∀ i (h : i < es.length), w.cell? ⟨b, off + i * 2, none⟩ = some (.string (B es[i].1)) ∧ w.cell? ⟨b, off + i * 2 + 1, none⟩ = some (.string (B es[i].2))) :
    Calls Try.prog 29 #[.slice (some ⟨b, off, none⟩) es.length cap] w fun e w' => e = .returned (.string (B (bytesL es))) ∧ Below w.heap.size w w' := by
  have Hcell := Lib.hid hcell
  have Hz := Lib.hid hz
  clear hcell hz
  go_enter Try.func29, Try.ntmps29
  go_wp2
  go_loopw [3, 4, 5] (fun x y i wr => ∃ (k : Nat), k ≤ (gs es).length ∧ i = .int .i64 (16 * k : Nat) ∧ x = .string (B (indexL ((gs es).take k))) ∧ y = .string (B (allL ((gs es).take k))) ∧ Below w.heap.size w wr) (fun _ _ i _ => es.length - (intOf i).toNat)
  case atStart => exact ⟨0, by omega, rfl, rfl, rfl, Below.refl _ _⟩
  case round =>
    obtain ⟨k, hk, rfl, rfl, rfl, hbel⟩ := hrel
    have hgl := gs_length es
    have hxl := indexL_length es Hz.out k
    have hyl := allL_length es Hz.out k
    by_cases hlt : 16 * k < es.length
    · obtain ⟨hk', h0, hlen, hget⟩ := gs_at es k hlt
      have Hx := Lib.hid (indexL_take (gs es) k hk')
      have Hy := Lib.hid (allL_take (gs es) k hk')
      have Hzg : Hid (∀ e ∈ (gs es)[k], small e) := Lib.hid (fun e he => Hz.out e ((gs_mem (List.getElem_mem hk')).1 e he))
      have Hcg : Hid (∀ i (hi : i < (gs es)[k].length), wr.cell? ⟨b, off + 16 * k * 2 + i * 2, none⟩ = some (.string (B (gs es)[k][i].1)) ∧ wr.cell? ⟨b, off + 16 * k * 2 + i * 2 + 1, none⟩ = some (.string (B (gs es)[k][i].2))) := Lib.hid (fun i hi => by
        obtain ⟨c1, c2⟩ := Hcell.out (16 * k + i) (by omega)
        have c1 := cell_below hbel hb c1
        have c2 := cell_below hbel hb c2
        rw [hget i hi]
        rw [show off + 16 * k * 2 + i * 2 = off + (16 * k + i) * 2 by omega]
        exact ⟨c1, c2⟩)
      clear hget
      have hbr := Nat.lt_of_lt_of_le hb hbel.size
      have Hbel := Lib.hid hbel
      clear hbel
      generalize (gs es)[k] = g at *
      generalize indexL ((gs es).take k) = X at *
      generalize allL ((gs es).take k) = Y at *
      generalize hi0 : 16 * k = i0 at *
      have hmin : min (es.length : Int) ((i0 : Int) + 16) = (i0 : Int) + (g.length : Int) := by omega
      have hg1 : i0 + g.length ≤ es.length := by omega
      have hbl := blockL_length [] g Hzg.out
      have hg16 : g.length ≤ 16 := by omega
      have hg20 : g.length ≤ 1048576 := by omega
      have hX : X.length ≤ 3932220 := by omega
      have hY : Y.length ≤ 4398119911424 := by omega
      have hB : (blockL [] g).length ≤ 67109984 := by omega
      have Hk' := Lib.hid hk'
      clear hlen hbl hgl hxl hyl hk'
      go_wp2_with fail
      refine (ref13_block_row g b (off + i0 * 2) _ hg20 Hzg.out wr hbr Hcg.out).mono ?_
      rintro e w1 ⟨rfl, hb1⟩
      obtain ⟨c1, c2⟩ := Hcg.out 0 h0
      have hd : Hid ((g.headD ([], [])).1 = g[0].1) := Lib.hid (by cases g with
        | nil => simp at h0
        | cons e g => rfl)
      have hsm := Hzg.out g[0] (List.getElem_mem h0)
      unfold small at hsm
      obtain ⟨hs1, hs2⟩ := hsm
      have d1 := cell_call hb1 c1
      rw [Nat.zero_mul, Nat.add_zero] at d1
      clear c1 c2
      have Hb1 := Lib.hid (step_call Hbel.out hb1)
      generalize g[0].1 = t at *
      clear hb1
      go_wp2_with fail
      refine (ref2_Text (B t) (by rw [size_B]; omega) w1).mono ?_
      rintro e w2 ⟨rfl, hb2⟩
      have Hb2 := Lib.hid (step_call Hb1.out hb2)
      clear hb2 d1
      have ht := textL_length t
      have hl1 : (B X).size ≤ 3932220 := by rw [size_B]; exact hX
      have hl2 : (B (blockL [] g)).size ≤ 67109984 := by rw [size_B]; exact hB
      have hl3 : (B (textL (L (B t)))).size ≤ 50 := by rw [size_B]; show (textL t).length ≤ _; omega
      go_wp2_with fail
      refine (ref13_number (B (blockL [] g)).size (by omega) w2).mono ?_
      rintro e w3 ⟨rfl, hb3⟩
      have Hb3 := Lib.hid (step_call Hb2.out hb3)
      clear hb3
      have hv := (varL_length (B (blockL [] g)).size).2
      have hl4 : (B (varL (B (blockL [] g)).size)).size ≤ 10 := by rw [size_B]; exact hv
      have hl5 : (B Y).size ≤ 4398119911424 := by rw [size_B]; exact hY
      go_wp2
      go_roundw
      case rel =>
        refine ⟨k + 1, Hk'.out, by go_num, ?_, ?_, Hb3.out⟩
        · rw [Hx.out, size_B]
          simp only [B_append, headL, L_B, List.append_assoc, hd.out]
        · rw [Hy.out]
          simp only [B_append]
      case measure => simp [intOf]; omega
    · have hke : k = (gs es).length := by omega
      have Hx : Hid (indexL ((gs es).take k) = indexL (gs es) ∧ allL ((gs es).take k) = allL (gs es)) := Lib.hid (by rw [hke, List.take_length]; exact ⟨rfl, rfl⟩)
      rw [Hx.out.1] at hxl ⊢
      rw [Hx.out.2] at hyl ⊢
      have hl1 : (B (indexL (gs es))).size ≤ 3932220 := by rw [size_B]; omega
      have hl2 : (B (allL (gs es))).size ≤ 4398119911424 := by rw [size_B]; omega
      have hk16 : es.length ≤ 16 * k := by omega
      go_wp2_with fail
      refine (ref13_number es.length (by omega) wr).mono ?_
      rintro e w3 ⟨rfl, hb3⟩
      have hv := (varL_length es.length).2
      have hl3 : (B (varL es.length)).size ≤ 10 := by rw [size_B]; exact hv
      go_wp2
      go_ret
      exact ⟨ret_str (by simp only [B_append, bytesL, List.append_assoc]), step_call hbel hb3⟩
theorem ref13_bytes_nil (a : Option Addr) (cap : Nat) (w : World) :
    Calls Try.prog 29 #[.slice a 0 cap] w fun e w' => e = .returned (.string (B (bytesL []))) ∧ Below w.heap.size w w' := by
  have hl : (B (varL 0)).size ≤ 10 := by rw [size_B]; exact (varL_length 0).2
  go_enter Try.func29, Try.ntmps29
  go_wp2
  go_loop [3, 4, 5] (fun x y i => x = .string ⟨#[]⟩ ∧ y = .string ⟨#[]⟩ ∧ i = .int .i64 0) (fun _ _ _ => 0)
  case atStart => exact ⟨rfl, rfl, rfl⟩
  case round =>
    obtain ⟨rfl, rfl, rfl⟩ := hrel
    go_wp2_with fail
    refine (ref13_number0 w).mono ?_
    rintro e w1 ⟨rfl, hb⟩
    go_wp2
    go_ret
    exact ⟨ret_str (by apply L_inj; rw [L_append, L_append]; rfl), hb⟩
theorem ref13_bytes (v : Value) (es : List Ent) (w : World) (h : Ents w v es) (hn : es.length ≤ 1048576) (hz : ∀ e ∈ es, small e) :
    Calls Try.prog 29 #[v] w fun e w' => e = .returned (.string (B (bytesL es))) ∧ Below w.heap.size w w' := by
  rcases h with ⟨a, cap, rfl, rfl⟩ | ⟨b, off, cap, rfl, hc, hb, hcell⟩
  · exact ref13_bytes_nil a cap w
  · exact ref13_bytes_row es b off cap hc hn hz w hb hcell
theorem Ents.below {w w' : World} {v : Value} {es : List Ent} (h : Ents w v es) (hb : Below w.heap.size w w') : Ents w' v es := by
  rcases h with h | ⟨b, off, cap, h1, h2, h3, h4⟩
  · exact .inl h
  · exact .inr ⟨b, off, cap, h1, h2, Nat.lt_of_lt_of_le h3 hb.size, fun i hi => ⟨cell_below hb h3 (h4 i hi).1, cell_below hb h3 (h4 i hi).2⟩⟩
/-- What Pack answers. -/
def packL (es : List Ent) : List UInt8 := if right es then bytesL es else []
def packE (es : List Ent) : Nat := if right es then 0 else 1
set_option maxRecDepth 100000 in
theorem ref13_Pack (v : Value) (es : List Ent) (w : World) (h : Ents w v es) (hn : es.length ≤ 9223372036854775807) (hz : ∀ e ∈ es, e.1.length ≤ 9223372036854775807 ∧ e.2.length ≤ 9223372036854775807) :
    Calls Try.prog 12 #[v] w fun e w' => e = .returned (.tuple #[.string (B (packL es)), .int .i64 (packE es : Nat)]) ∧ Below w.heap.size w w' := by
  have H := Lib.hid h
  have Hz := Lib.hid hz
  clear h hz
  cases hr : right es with
  | false =>
    have Hr := Lib.hid hr
    have hc := (ref13_Right v es w H.out hn Hz.out)
    rw [hr] at hc
    have Hc := Lib.hid hc
    clear hr hc
    go_enter Try.func12, Try.ntmps12
    go_wp2_with fail
    refine Hc.out.mono ?_
    rintro e w1 ⟨rfl, hb⟩
    go_wp2
    go_ret2
    exact ⟨by unfold packL packE; rw [Hr.out]; rfl, hb⟩
  | true =>
    have Hr := Lib.hid hr
    have hc := (ref13_Right v es w H.out hn Hz.out)
    rw [hr] at hc
    have Hc := Lib.hid hc
    obtain ⟨hsm, hn2⟩ := right_small hr
    have Hsm := Lib.hid hsm
    clear hr hc hsm
    go_enter Try.func12, Try.ntmps12
    go_wp2_with fail
    refine Hc.out.mono ?_
    rintro e w1 ⟨rfl, hb⟩
    have Hb := Lib.hid hb
    go_wp2_with fail
    refine (ref13_bytes v es w1 (H.out.below hb) hn2 Hsm.out).mono ?_
    rintro e w2 ⟨rfl, hb2⟩
    go_wp2
    go_ret2
    exact ⟨by unfold packL packE; rw [Hr.out]; rfl, step_call Hb.out hb2⟩
end Go.Proofs.Ytefnddhondbjbaa
