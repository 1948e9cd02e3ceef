/-
  What is near, ring by ring: the document's distance as plain lists. No program in sight; no conditions.
-/
import Derived.Test.YthobfbnopkbniaaWPlain
namespace Go.Proofs.Ythobfbnopkbniaa

/-- One edge looked at: what is behind its ends, where an end is in the ring. -/
def nextE (es : List (Int × Int)) (ring next : List Int) (x : Int) : List Int :=
  let n1 := if (ends es x).1 ∈ ring ∧ (ends es x).2 ∉ next then next ++ [(ends es x).2] else next
  if (ends es x).2 ∈ ring ∧ (ends es x).1 ∉ n1 then n1 ++ [(ends es x).1] else n1
/-- All edges looked at. -/
def nextR (es : List (Int × Int)) (ring : List Int) (xs : List Int) : List Int := xs.foldl (nextE es ring) ring
theorem nextR_snoc (es : List (Int × Int)) (ring l : List Int) (x : Int) : l.foldl (nextE es ring) ring |> fun r => (l ++ [x]).foldl (nextE es ring) ring = nextE es ring r x := by simp
/-- What is at most so many darts away. -/
def ringN (es : List (Int × Int)) (xs : List Int) (a : Int) : Nat → List Int
  | 0 => [a]
  | n + 1 => nextR es (ringN es xs a n) xs

theorem mem_add {l : List Int} {p : Prop} [Decidable p] {y u : Int} : u ∈ (if p then l ++ [y] else l) ↔ u ∈ l ∨ (p ∧ u = y) := by split <;> simp [*]
theorem mem_nextE {es : List (Int × Int)} {ring next : List Int} {x u : Int} : u ∈ nextE es ring next x ↔ u ∈ next ∨ ((ends es x).1 ∈ ring ∧ u = (ends es x).2) ∨ ((ends es x).2 ∈ ring ∧ u = (ends es x).1) := by
  unfold nextE
  dsimp only
  rw [mem_add, mem_add]
  constructor
  · rintro ((h | ⟨h1, rfl⟩) | ⟨h1, rfl⟩)
    · exact .inl h
    · exact .inr (.inl ⟨h1.1, rfl⟩)
    · exact .inr (.inr ⟨h1.1, rfl⟩)
  · rintro (h | ⟨h1, rfl⟩ | ⟨h1, rfl⟩)
    · exact .inl (.inl h)
    · by_cases hn : (ends es x).2 ∈ next
      · exact .inl (.inl hn)
      · exact .inl (.inr ⟨⟨h1, hn⟩, rfl⟩)
    · by_cases hn : (ends es x).1 ∈ (if (ends es x).1 ∈ ring ∧ (ends es x).2 ∉ next then next ++ [(ends es x).2] else next)
      · exact .inl (mem_add.1 hn)
      · exact .inr ⟨⟨h1, hn⟩, rfl⟩
theorem nodup_add {l : List Int} {p : Prop} [Decidable p] {y : Int} (h : l.Nodup) (hn : p → y ∉ l) : (if p then l ++ [y] else l).Nodup := by
  split
  · exact List.nodup_append.2 ⟨h, by simp, fun a ha b hb e => by rw [List.mem_singleton] at hb; subst hb; exact hn ‹_› (e ▸ ha)⟩
  · exact h
theorem nextE_nodup {es : List (Int × Int)} {ring next : List Int} {x : Int} (h : next.Nodup) : (nextE es ring next x).Nodup := by
  unfold nextE
  dsimp only
  exact nodup_add (nodup_add h fun hh => hh.2) fun hh => hh.2
theorem mem_foldE {es : List (Int × Int)} {ring : List Int} {u : Int} : ∀ {l next : List Int}, u ∈ l.foldl (nextE es ring) next ↔ u ∈ next ∨ ∃ x ∈ l, ((ends es x).1 ∈ ring ∧ u = (ends es x).2) ∨ ((ends es x).2 ∈ ring ∧ u = (ends es x).1)
  | [], next => by simp
  | x :: l, next => by
    rw [List.foldl_cons, mem_foldE, mem_nextE, or_assoc]
    simp
theorem foldE_nodup {es : List (Int × Int)} {ring : List Int} : ∀ {l next : List Int}, next.Nodup → (l.foldl (nextE es ring) next).Nodup
  | [], _, h => h
  | _ :: _, _, h => by rw [List.foldl_cons]; exact foldE_nodup (nextE_nodup h)
section
variable {N : Int} {es : List (Int × Int)} {vs xs : List Int} {a : Int}
theorem ends_of_dart (es : List (Int × Int)) (d : Int) : (tail es d = (ends es (d / 2)).1 ∧ head es d = (ends es (d / 2)).2) ∨ (tail es d = (ends es (d / 2)).2 ∧ head es d = (ends es (d / 2)).1) := by
  unfold head tail
  rw [twin_half]
  unfold twin
  rcases Int.emod_two_eq d with h | h
  · left
    have e : ¬ (d + 1) % 2 = 0 := by omega
    simp [h, e]
  · right
    have e : (d - 1) % 2 = 0 := by omega
    simp [h, e]
theorem dart_of_ends (es : List (Int × Int)) (x : Int) : (∃ d, d / 2 = x ∧ tail es d = (ends es x).1 ∧ head es d = (ends es x).2) ∧ (∃ d, d / 2 = x ∧ tail es d = (ends es x).2 ∧ head es d = (ends es x).1) := by
  have t1 : tail es (2 * x) = (ends es x).1 := by unfold tail; rw [if_pos (by omega), show (2 * x) / 2 = x by omega]
  have t2 : tail es (2 * x + 1) = (ends es x).2 := by unfold tail; rw [if_neg (by omega), show (2 * x + 1) / 2 = x by omega]
  have w1 : twin (2 * x) = 2 * x + 1 := by unfold twin; rw [if_pos (by omega)]
  have w2 : twin (2 * x + 1) = 2 * x := by unfold twin; rw [if_neg (by omega)]; omega
  exact ⟨⟨2 * x, by omega, t1, by unfold head; rw [w1]; exact t2⟩, ⟨2 * x + 1, by omega, t2, by unfold head; rw [w2]; exact t1⟩⟩
theorem mem_nextR {ring : List Int} {u : Int} : u ∈ nextR es ring xs ↔ u ∈ ring ∨ ∃ d, d / 2 ∈ xs ∧ tail es d ∈ ring ∧ u = head es d := by
  unfold nextR
  rw [mem_foldE]
  constructor
  · rintro (h | ⟨x, hx, ⟨h1, rfl⟩ | ⟨h1, rfl⟩⟩)
    · exact .inl h
    · obtain ⟨⟨d, rfl, e1, e2⟩, _⟩ := dart_of_ends es x
      exact .inr ⟨d, hx, by rw [e1]; exact h1, e2.symm⟩
    · obtain ⟨_, ⟨d, rfl, e1, e2⟩⟩ := dart_of_ends es x
      exact .inr ⟨d, hx, by rw [e1]; exact h1, e2.symm⟩
  · rintro (h | ⟨d, hd, h1, rfl⟩)
    · exact .inl h
    · rcases ends_of_dart es d with ⟨e1, e2⟩ | ⟨e1, e2⟩
      · exact .inr ⟨_, hd, .inl ⟨by rw [← e1]; exact h1, e2⟩⟩
      · exact .inr ⟨_, hd, .inr ⟨by rw [← e1]; exact h1, e2⟩⟩
theorem mem_ringN (hp : POK N es vs xs) {u : Int} : ∀ {n : Nat}, u ∈ ringN es xs a n ↔ ∃ j, j ≤ n ∧ Way es xs (-1) a j u
  | 0 => by
    unfold ringN
    rw [List.mem_singleton]
    constructor
    · rintro rfl
      exact ⟨0, Nat.le_refl _, Way.start⟩
    · rintro ⟨j, hj, hw⟩
      cases hw with
      | start => rfl
      | step => omega
  | n + 1 => by
    unfold ringN
    rw [mem_nextR, mem_ringN hp]
    constructor
    · rintro (⟨j, hj, hw⟩ | ⟨d, hd, ht, rfl⟩)
      · exact ⟨j, by omega, hw⟩
      · obtain ⟨j, hj, hw⟩ := (mem_ringN hp).1 ht
        refine ⟨j + 1, by omega, hw.step (mem_dartsOf.2 ⟨hd, rfl⟩) ?_⟩
        have := hp.vr _ (head_in hp hd).1
        omega
    · rintro ⟨j, hj, hw⟩
      cases hw with
      | start => exact .inl ⟨0, by omega, Way.start⟩
      | step hw hd _ =>
        obtain ⟨h1, h2⟩ := mem_dartsOf.1 hd
        exact .inr ⟨_, h1, (mem_ringN hp).2 ⟨_, by omega, h2 ▸ hw⟩, rfl⟩
theorem way_in (hp : POK N es vs xs) (ha : a ∈ vs) {shut u : Int} {n : Nat} (h : Way es xs shut a n u) : u ∈ vs := by
  cases h with
  | start => exact ha
  | step _ hd _ => exact (head_in hp (mem_dartsOf.1 hd).1).1
theorem ringN_nodup : ∀ n, (ringN es xs a n).Nodup
  | 0 => by simp [ringN]
  | n + 1 => foldE_nodup (ringN_nodup n)
theorem ringN_sub (hp : POK N es vs xs) (ha : a ∈ vs) {n : Nat} : ∀ u ∈ ringN es xs a n, u ∈ vs := fun u hu => by
  obtain ⟨j, _, hw⟩ := (mem_ringN hp).1 hu
  exact way_in hp ha hw
/-- What the document's distance answers. -/
def FarIs (es : List (Int × Int)) (xs vs : List Int) (a b r : Int) : Prop :=
  (∃ n : Nat, r = n ∧ Way es xs (-1) a n b ∧ ∀ j, j < n → ¬ Way es xs (-1) a j b) ∨ (r = -1 ∧ ∀ j, j ≤ vs.length → ¬ Way es xs (-1) a j b)
end
end Go.Proofs.Ythobfbnopkbniaa
