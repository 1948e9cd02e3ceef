/-
  A turn begun with its least number, begun with its least number, is as it was; so turns told and taken again. Plain lists; no program in sight; no conditions.
-/
import Derived.Test.YthobfbnopkbniaaRLaw
namespace Go.Proofs.Ythobfbnopkbniaa

theorem least_spec (xs : List Int) : ∀ k j, j < k → xs.getD (least xs k) 0 ≤ xs.getD j 0
  | 0, _, h => absurd h (by omega)
  | k + 1, j, h => by
    unfold least
    by_cases hjk : j = k
    · subst hjk
      split
      · exact Int.le_refl _
      · omega
    · have := least_spec xs k j (by omega)
      split
      · omega
      · exact this
theorem first_first (xs : List Int) : first (first xs) = first xs := by
  rcases Nat.eq_zero_or_pos xs.length with h0 | h0
  · rw [List.eq_nil_of_length_eq_zero h0]
    rfl
  · have hp : least xs xs.length < xs.length := least_end xs _ h0
    obtain ⟨l, hl⟩ : ∃ l, first xs = l := ⟨_, rfl⟩
    have hl0 : l.getD 0 0 = xs.getD (least xs xs.length) 0 := by
      rw [← hl]
      unfold first turn
      rw [List.getD_eq_getElem?_getD, List.getElem?_append_left (by rw [List.length_drop]; omega), List.getElem?_drop, Nat.add_zero, ← List.getD_eq_getElem?_getD]
    have hmin : ∀ k, k < l.length → l.getD 0 0 ≤ l.getD k 0 := fun k hk => by
      rw [hl0]
      have hm : l.getD k 0 ∈ xs := by
        rw [← mem_first, hl, getD_idx hk]
        exact List.getElem_mem hk
      obtain ⟨j, hj, he⟩ := List.getElem_of_mem hm
      rw [← he, ← getD_idx hj]
      exact least_spec xs _ j hj
    have hz : ∀ k, k ≤ l.length → least l k = 0 := by
      intro k
      induction k with
      | zero => intro _; rfl
      | succ k ih =>
        intro hk
        unfold least
        rw [ih (by omega), if_neg (by have := hmin k (by omega); omega)]
    rw [hl]
    unfold first turn
    rw [hz _ (Nat.le_refl _)]
    simp
theorem map_first_first (tt : List (List Int)) : (tt.map first).map first = tt.map first := by
  rw [List.map_map]
  congr 1
  funext t
  exact first_first t
theorem getD_map_first (tt : List (List Int)) (k : Nat) : (tt.map first).getD k [] = first (tt.getD k []) := by
  rw [List.getD_eq_getElem?_getD, List.getD_eq_getElem?_getD, List.getElem?_map]
  cases tt[k]? with
  | none => rfl
  | some t => rfl
theorem placeN_map_first (tt : List (List Int)) : ∀ k, placeN (tt.map first) k = placeN tt k
  | 0 => rfl
  | k + 1 => by
    unfold placeN
    rw [placeN_map_first tt k, getD_map_first, first_first, first_len]
theorem TurnOK.first {N : Int} {es : List (Int × Int)} {xs : List Int} {tt : List (List Int)} (h : TurnOK N es xs tt) : TurnOK N es xs (tt.map first) := by
  refine ⟨by rw [List.length_map]; exact h.1, fun v hv => ?_⟩
  rw [List.length_map] at hv
  obtain ⟨h1, h2⟩ := h.2 v hv
  rw [getD_map_first]
  exact ⟨first_nodup.2 h1, fun d => mem_first.trans (h2 d)⟩
theorem map_first_len {tt : List (List Int)} {n : Nat} (h : ∀ t ∈ tt, t.length ≤ n) : ∀ t ∈ tt.map first, t.length ≤ n := fun t ht => by
  obtain ⟨u, hu, rfl⟩ := List.mem_map.1 ht
  rw [first_len]
  exact h u hu
end Go.Proofs.Ythobfbnopkbniaa
