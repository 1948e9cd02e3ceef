/-
  Spreading out from a vertex: what the document's search keeps. Plain lists; no conditions.
-/
import Derived.Test.YthobfbnopkbniaaFaceD
namespace Go.Proofs.Ythobfbnopkbniaa

/-- What has been met; of the first i all darts have been gone along. -/
structure SpI (es : List (Int × Int)) (xs : List Int) (r : Int) (M : List Int) (i : Nat) : Prop where
  nodup : M.Nodup
  root : r ∈ M
  hang : ∀ u ∈ M, Hang es xs r u
  le : i ≤ M.length
  closed : ∀ j, j < i → ∀ d ∈ dartsOf es (M.getD j 0) xs, head es d ∈ M
/-- .. and of the next one the darts of the first k edges. -/
structure SpIn (es : List (Int × Int)) (xs : List Int) (r : Int) (M : List Int) (i k : Nat) : Prop where
  out : SpI es xs r M i
  lt : i < M.length
  part : ∀ d ∈ dartsOf es (M.getD i 0) (xs.take k), head es d ∈ M
section
variable {N : Int} {es : List (Int × Int)} {vs xs M : List Int} {r u x y z q : Int} {i k : Nat}
theorem getD_app {a b : List Int} {j : Nat} (h : j < a.length) : (a ++ b).getD j 0 = a.getD j 0 := by
  rw [List.getD_eq_getElem?_getD, List.getElem?_append_left h, ← List.getD_eq_getElem?_getD]
theorem SpI.start_ (r : Int) : SpI es xs r [r] 0 := ⟨by simp, by simp, fun u hu => by
  rw [List.mem_singleton] at hu
  rw [hu]
  exact Hang.refl r, by simp, fun j hj => absurd hj (by omega)⟩
theorem SpI.enter (h : SpI es xs r M i) (hi : i < M.length) : SpIn es xs r M i 0 := ⟨h, hi, fun d hd => by simp [dartsOf] at hd⟩
theorem SpIn.leave (h : SpIn es xs r M i xs.length) : SpI es xs r M (i + 1) :=
  ⟨h.out.nodup, h.out.root, h.out.hang, h.lt, fun j hj d hd => by
    rcases Nat.lt_or_ge j i with hji | hji
    · exact h.out.closed j hji d hd
    · obtain rfl : j = i := by omega
      exact h.part d (by rw [List.take_length]; exact hd)⟩
theorem SpI.push (h : SpI es xs r M i) (hy : y ∉ M) (hh : Hang es xs r y) : SpI es xs r (M ++ [y]) i :=
  ⟨List.nodup_append.2 ⟨h.nodup, by simp, fun a ha b hb e => by
    rw [List.mem_singleton] at hb
    subst hb
    exact hy (e ▸ ha)⟩, List.mem_append_left _ h.root, fun u hu => by
    rcases List.mem_append.1 hu with hu | hu
    · exact h.hang u hu
    · rw [List.mem_singleton] at hu
      rw [hu]
      exact hh, by rw [List.length_append]; have := h.le; omega, fun j hj d hd => by
    rw [getD_app (by have := h.le; omega)] at hd
    exact List.mem_append_left _ (h.closed j hj d hd)⟩
theorem SpIn.push (h : SpIn es xs r M i k) (hy : y ∉ M) (hh : Hang es xs r y) : SpIn es xs r (M ++ [y]) i k :=
  ⟨h.out.push hy hh, by rw [List.length_append]; have := h.lt; omega, fun d hd => by
    rw [getD_app h.lt] at hd
    exact List.mem_append_left _ (h.part d hd)⟩
/-- One edge more. -/
theorem SpIn.step (h : SpIn es xs r M i k) (hk : k < xs.length) (hq : xs.getD k 0 = q) (he : ends es q = (x, y)) (h1 : x = M.getD i 0 → y ∈ M) (h2 : y = M.getD i 0 → x ∈ M) : SpIn es xs r M i (k + 1) := by
  refine ⟨h.out, h.lt, fun d hd => ?_⟩
  rw [take_getD hk hq, dartsOf_append, List.mem_append] at hd
  rcases hd with hd | hd
  · exact h.part d hd
  · obtain ⟨h3, h4⟩ := mem_dartsOf.1 hd
    rw [List.mem_singleton] at h3
    have t0 : tail es d = if d % 2 = 0 then x else y := by
      unfold tail
      rw [h3, he]
    have hh : head es d = if d % 2 = 0 then y else x := by
      unfold head tail twin
      by_cases hp : d % 2 = 0
      · rw [if_pos hp, if_pos hp, if_neg (by omega), show (d + 1) / 2 = d / 2 by omega, h3, he]
      · rw [if_neg hp, if_neg hp, if_pos (by omega), show (d - 1) / 2 = d / 2 by omega, h3, he]
    rw [hh]
    rw [t0] at h4
    by_cases hp : d % 2 = 0
    · rw [if_pos hp] at h4 ⊢
      exact h1 h4
    · rw [if_neg hp] at h4 ⊢
      exact h2 h4
theorem SpIn.at_ (h : SpIn es xs r M i k) : M.getD i 0 ∈ M := by rw [getD_idx h.lt]; exact List.getElem_mem _
theorem SpIn.hang1 (h : SpIn es xs r M i k) (hp : POK N es vs xs) (hq : q ∈ xs) (he : ends es q = (x, y)) (hx : x = M.getD i 0) : Hang es xs r y := by
  refine (h.out.hang _ h.at_).trans ?_
  have hd : 2 * q ∈ dartsOf es (M.getD i 0) xs := mem_dartsOf.2 ⟨by rw [show 2 * q / 2 = q by omega]; exact hq, by unfold tail; rw [if_pos (by omega), show 2 * q / 2 = q by omega, he]; exact hx⟩
  have := Hang.dart hp hd
  have hh : head es (2 * q) = y := by
    unfold head
    rw [show twin (2 * q) = 2 * q + 1 by unfold twin; rw [if_pos (by omega)]]
    unfold tail
    rw [if_neg (by omega), show (2 * q + 1) / 2 = q by omega, he]
  rwa [hh] at this
theorem SpIn.hang2 (h : SpIn es xs r M i k) (hp : POK N es vs xs) (hq : q ∈ xs) (he : ends es q = (x, y)) (hy : y = M.getD i 0) : Hang es xs r x := by
  refine (h.out.hang _ h.at_).trans ?_
  have hd : 2 * q + 1 ∈ dartsOf es (M.getD i 0) xs := mem_dartsOf.2 ⟨by rw [show (2 * q + 1) / 2 = q by omega]; exact hq, by unfold tail; rw [if_neg (by omega), show (2 * q + 1) / 2 = q by omega, he]; exact hy⟩
  have := Hang.dart hp hd
  have hh : head es (2 * q + 1) = x := by
    unfold head
    rw [show twin (2 * q + 1) = 2 * q by unfold twin; rw [if_neg (by omega)]; omega]
    unfold tail
    rw [if_pos (by omega), show 2 * q / 2 = q by omega, he]
  rwa [hh] at this
theorem SpI.end_ (h : SpI es xs r M M.length) (u : Int) : u ∈ M ↔ Hang es xs r u := by
  refine ⟨h.hang u, ?_⟩
  rintro ⟨k, hk⟩
  induction hk with
  | start => exact h.root
  | step hw hd hs ih =>
    obtain ⟨j, hj, e⟩ := List.getElem_of_mem ih
    exact h.closed j hj _ (by rw [getD_idx hj, e]; exact hd)
theorem SpI.small (h : SpI es xs r M i) (hp : POK N es vs xs) (hr : r ∈ vs) : M.length ≤ vs.length ∧ ∀ u ∈ M, u ∈ vs :=
  ⟨nodup_len h.nodup fun u hu => (h.hang u hu).in_ hp hr, fun u hu => (h.hang u hu).in_ hp hr⟩
end
end Go.Proofs.Ythobfbnopkbniaa
