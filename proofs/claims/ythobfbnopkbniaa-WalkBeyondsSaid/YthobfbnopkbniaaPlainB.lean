/-
  More plain facts on lists of integers; no program in sight; no conditions.
-/
import Derived.Test.YthobfbnopkbniaaPlain
namespace Go.Proofs.Ythobfbnopkbniaa

theorem fnd_nodup {xs : List Int} {i : Nat} (hd : xs.Nodup) (hi : i < xs.length) : fnd xs (xs.getD i 0) = i := by
  refine fnd_at hi rfl fun j hj e => ?_
  rw [getD_idx hi, getD_idx (by omega)] at e
  have := List.pairwise_iff_getElem.1 hd j i (by omega) hi hj
  exact this e

theorem sameR_self_turn {a : List Int} {i : Nat} (hi : i < a.length) : SameR (turn a i) a := ⟨turn_length a i, .inr ⟨i, by rw [turn_length]; exact hi, rfl⟩⟩
theorem turn_zero (a : List Int) : turn a 0 = a := by simp [turn]
theorem turn_turn {a : List Int} {i : Nat} : turn (turn a i) (a.length - i) = a := by
  unfold turn
  have hl : (a.drop i).length = a.length - i := List.length_drop
  rw [← hl, List.drop_left, List.take_left, List.take_append_drop]
theorem sameR_turn {a : List Int} {i : Nat} (hi : i < a.length) : SameR a (turn a i) := by
  refine ⟨(turn_length a i).symm, .inr ?_⟩
  by_cases h0 : i = 0
  · subst h0
    exact ⟨0, hi, by rw [turn_zero, turn_zero]⟩
  · exact ⟨a.length - i, by omega, turn_turn.symm⟩
theorem sameR_nil {a b : List Int} (ha : a.length = 0) (hb : b.length = 0) : SameR a b := ⟨by rw [ha, hb], .inl ha⟩
theorem turn_reverse {a : List Int} {i : Nat} : (turn a i).reverse = turn a.reverse (a.length - i) := by
  unfold turn
  rw [List.reverse_append, List.drop_reverse, List.take_reverse]
  by_cases h : i ≤ a.length
  · rw [show a.length - (a.length - i) = i from by omega]
  · rw [show a.length - i = 0 from by omega]
    simp
    rw [List.take_of_length_le (by omega), List.drop_of_length_le (by omega)]
    simp
end Go.Proofs.Ythobfbnopkbniaa
