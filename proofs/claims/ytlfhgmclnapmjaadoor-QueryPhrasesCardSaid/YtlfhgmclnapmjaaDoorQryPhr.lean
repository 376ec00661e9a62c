/- Chapter 17, plain: a part of a text that is cut off at blanks is matched by its phrase, its terms and their beginnings. No conditions. -/
import Derived.Test.YtlfhgmclnapmjaaDoorTokSet
namespace Go.Qry
open Go.Lib Go.Utf

theorem mid_phrase (a s b : Tx) : matB (tokensL (a ++ 32 :: (s ++ 32 :: b))) (.mk 3 s [] [] []) = decide (0 < (phraseL s).length) := by
  rw [phrase_mat]
  by_cases h : phraseL s = []
  · rw [h]; rfl
  · have h1 : tokensL s ≠ [] := (phrase_ne s).1 h
    rw [stands_full h1 (tokens_mid a s b), Bool.and_true, decide_eq_true h, decide_eq_true (List.length_pos_iff.2 h)]
theorem mid_term (a s b : Tx) : matB (tokensL (a ++ 32 :: (s ++ 32 :: b))) (.mk 2 s [] [] []) = decide (0 < (phraseL s).length) := by
  rw [term_mat]
  by_cases h : phraseL s = []
  · rw [h]; rfl
  · have h1 : tokensL s ≠ [] := (phrase_ne s).1 h
    rw [stands_at h1 (tokens_mid a s b), Bool.and_true, decide_eq_true h, decide_eq_true (List.length_pos_iff.2 h)]
theorem phrase_tok (s : Tx) (i : Nat) (h : i < (phraseL s).length) : ∃ x ∈ tokensL s, (phraseL s)[i].1 = x.1 := by
  rw [phrase_get s i h]
  exact ⟨_, List.getElem_mem _, rfl⟩
theorem mid_one (a s b : Tx) (i : Nat) (h : i < (phraseL s).length) : matB (tokensL (a ++ 32 :: (s ++ 32 :: b))) (.mk 2 (phraseL s)[i].1 [] [] []) = true := by
  obtain ⟨x, hx, e⟩ := phrase_tok s i h
  rw [e, term_mat]
  have h1 := term_stands hx (tokens_mid a s b x hx)
  have h2 := term_phrase hx
  rw [h2] at h1 ⊢
  rw [show ([(x.1, 0)] : Tks).take 1 = [(x.1, 0)] from rfl, h1]
  simp
theorem mid_whole (a s b : Tx) (i : Nat) (h : i < (phraseL s).length) : matB (tokensL (a ++ 32 :: (s ++ 32 :: b))) (.mk 4 (phraseL s)[i].1 [] [] []) = true := by
  obtain ⟨x, hx, e⟩ := phrase_tok s i h
  obtain ⟨h1, h2⟩ := term_fold hx
  rw [e, pref_mat, h1]
  exact pref_at h2 (by simp) (tokens_mid a s b x hx)
theorem mid_part (a s b : Tx) (i : Nat) (h : i < (phraseL s).length) (n : Nat) (h0 : 0 < n) (hn : n < (phraseL s)[i].1.length) (hb : ((phraseL s)[i].1[n]).toNat < 128) : matB (tokensL (a ++ 32 :: (s ++ 32 :: b))) (.mk 4 ((phraseL s)[i].1.take n) [] [] []) = true := by
  obtain ⟨x, hx, e⟩ := phrase_tok s i h
  obtain ⟨h1, h2⟩ := term_fold hx
  generalize (phraseL s)[i].1 = t at *
  subst e
  have hc : (x.1.drop n).takeWhile contB = [] := by
    rw [List.drop_eq_getElem_cons hn, List.takeWhile_cons]
    have : contB x.1[n] = false := by
      unfold contB
      simp only [Bool.and_eq_false_iff, decide_eq_false_iff_not]
      omega
    rw [this]; rfl
  rw [pref_mat, fold_take h1 n hc]
  refine pref_at ?_ ?_ (tokens_mid a s b x hx)
  · intro e
    have := congrArg List.length e
    rw [List.length_take] at this
    simp only [List.length_nil] at this
    omega
  · rw [List.isPrefixOf_iff_prefix]; exact List.take_prefix _ _
end Go.Qry
