/-
  Shortest ways as lists of darts: each dart the least that leads nearer. No program in sight; no conditions.
-/
import Derived.Test.YthobfbnopkbniaaWRing
namespace Go.Proofs.Ythobfbnopkbniaa

theorem dartsOf_sorted (es : List (Int × Int)) (v : Int) : ∀ {xs : List Int}, xs.Pairwise (· < ·) → (dartsOf es v xs).Pairwise (· < ·)
  | [], _ => List.Pairwise.nil
  | x :: xs, h => by
    rw [List.pairwise_cons] at h
    have key : ∀ d ∈ dartsOf es v xs, 2 * x + 1 < d := fun d hd => by
      have := h.1 _ (mem_dartsOf.1 hd).1
      omega
    have ih := dartsOf_sorted es v h.2
    simp only [dartsOf]
    rw [List.pairwise_append, List.pairwise_append]
    refine ⟨⟨?_, ?_, fun a ha b hb => ?_⟩, ih, fun a ha b hb => ?_⟩
    · split <;> simp
    · split <;> simp
    · split at ha
      · split at hb
        · rw [List.mem_singleton] at ha hb; omega
        · cases hb
      · cases ha
    · have := key b hb
      rcases List.mem_append.1 ha with ha | ha
      · split at ha
        · rw [List.mem_singleton] at ha; omega
        · cases ha
      · split at ha
        · rw [List.mem_singleton] at ha; omega
        · cases ha
theorem tail_twin (es : List (Int × Int)) (d : Int) : tail es (twin d) = head es d := rfl
theorem head_twin (es : List (Int × Int)) (d : Int) : head es (twin d) = tail es d := by unfold head; rw [twin_twin]
theorem twin_darts {es : List (Int × Int)} {xs : List Int} {u d : Int} (h : d ∈ dartsOf es u xs) : twin d ∈ dartsOf es (head es d) xs ∧ head es (twin d) = u := by
  obtain ⟨h1, h2⟩ := mem_dartsOf.1 h
  exact ⟨mem_dartsOf.2 ⟨by rw [twin_half]; exact h1, rfl⟩, by rw [head_twin]; exact h2⟩

/-- A shortest way from v to where f is 0; each dart is the least that leads nearer. -/
def PathIs (es : List (Int × Int)) (xs : List Int) (f : Int → Option Int) : Int → List Int → Prop
  | v, [] => f v = some 0
  | v, d :: l => f v = some ((l.length : Int) + 1) ∧ d ∈ dartsOf es v xs ∧ f (head es d) = some (l.length : Int) ∧ (∀ d' ∈ dartsOf es v xs, d' < d → f (head es d') ≠ some (l.length : Int)) ∧ PathIs es xs f (head es d) l
theorem PathIs.len {es : List (Int × Int)} {xs : List Int} {f : Int → Option Int} : ∀ {v : Int} {l : List Int}, PathIs es xs f v l → f v = some (l.length : Int)
  | _, [], h => h
  | _, _ :: l, h => by rw [h.1, List.length_cons]; rfl

section
variable {N : Int} {es : List (Int × Int)} {vs xs : List Int} {b : Int} {f : Int → Option Int}
/-- From where it is further than 0 a dart leads nearer. -/
theorem Dist.near (h : Dist es xs (-1) b f) {v : Int} {n : Nat} (hv : f v = some ((n : Int) + 1)) : ∃ d ∈ dartsOf es v xs, f (head es d) = some (n : Int) := by
  obtain ⟨m, hm, hw⟩ := h.way v _ hv
  have hmn : m = n + 1 := by omega
  subst hmn
  cases hw with
  | step hw hd hs =>
    obtain ⟨k, hk, hle⟩ := h.le hw
    obtain ⟨k', hk', hle'⟩ := h.on _ _ _ hk hd hs
    rw [hv] at hk'
    injection hk' with hk'
    obtain ⟨h1, h2⟩ := twin_darts hd
    exact ⟨_, h1, by rw [h2, hk]; congr 1; omega⟩
/-- All that a met vertex's darts lead to is met. -/
theorem Dist.met (hp : POK N es vs xs) (h : Dist es xs (-1) b f) {v k d : Int} (hv : f v = some k) (hd : d ∈ dartsOf es v xs) : ∃ k', f (head es d) = some k' := by
  have hr := hp.vr _ (head_in hp (mem_dartsOf.1 hd).1).1
  obtain ⟨k', h1, _⟩ := h.on v k d hv hd (by omega)
  exact ⟨k', h1⟩
theorem val_eq {u : Int} {k : Int} (hk : ∃ k', f u = some k') : val f u = k ↔ f u = some k := by
  obtain ⟨k', hk'⟩ := hk
  rw [val_of hk', hk']
  exact ⟨fun h => by rw [h], fun h => by injection h⟩
/-- The first dart in the list that leads nearer is the least. -/
theorem Dist.first_near (h : Dist es xs (-1) b f) {v : Int} {n : Nat} (hv : f v = some ((n : Int) + 1)) :
    ∃ i, i < (dartsOf es v xs).length ∧ val f (head es ((dartsOf es v xs).getD i 0)) = n ∧ ∀ j, j < i → val f (head es ((dartsOf es v xs).getD j 0)) ≠ n := by
  obtain ⟨d, hd, hn⟩ := h.near hv
  have key : ∀ i : Nat, i < (dartsOf es v xs).length → val f (head es ((dartsOf es v xs).getD i 0)) = n → ∃ i, i < (dartsOf es v xs).length ∧ val f (head es ((dartsOf es v xs).getD i 0)) = n ∧ ∀ j, j < i → val f (head es ((dartsOf es v xs).getD j 0)) ≠ n := by
    intro i
    induction i using Nat.strongRecOn with
    | _ i ih =>
      intro hi he
      by_cases hex : ∃ j, j < i ∧ val f (head es ((dartsOf es v xs).getD j 0)) = n
      · obtain ⟨j, hj, hje⟩ := hex
        exact ih j hj (by omega) hje
      · exact ⟨i, hi, he, fun j hj hje => hex ⟨j, hj, hje⟩⟩
  obtain ⟨i, hi, e⟩ := List.getElem_of_mem hd
  refine key i hi ?_
  rw [getD_idx hi, e]
  exact val_of hn
/-- One dart more of the way. -/
theorem PathIs.cons (hp : POK N es vs xs) (h : Dist es xs (-1) b f) {v : Int} {n i : Nat} (hv : f v = some ((n : Int) + 1)) (hi : i < (dartsOf es v xs).length) {d : Int} (hd : (dartsOf es v xs).getD i 0 = d) (hn : val f (head es d) = n)
    (hno : ∀ j, j < i → val f (head es ((dartsOf es v xs).getD j 0)) ≠ n) {l : List Int} (hl : PathIs es xs f (head es d) l) : PathIs es xs f v (d :: l) ∧ f (head es d) = some (n : Int) := by
  have hm : d ∈ dartsOf es v xs := by rw [← hd, getD_idx hi]; exact List.getElem_mem hi
  have hfd := (val_eq (h.met hp hv hm)).1 hn
  have hll := hl.len
  rw [hfd] at hll
  injection hll with hll
  refine ⟨⟨by rw [hv, hll], hm, by rw [hfd, hll], fun d' hd' hlt he => ?_, hl⟩, hfd⟩
  obtain ⟨j, hj, e⟩ := List.getElem_of_mem hd'
  have hs := dartsOf_sorted es v hp.xp
  have hji : j < i := by
    rcases Nat.lt_or_ge j i with h1 | h1
    · exact h1
    · rw [getD_idx hi] at hd
      rcases Nat.lt_or_ge i j with h2 | h2
      · have := List.pairwise_iff_getElem.1 hs i j hi hj h2
        omega
      · obtain rfl : i = j := by omega
        omega
  refine hno j hji ?_
  rw [getD_idx hj, e, ← hll] at *
  exact val_of (by rw [he])
/-- Ways turned about. -/
theorem Way.snoc {a u v d : Int} {n : Nat} (hp : POK N es vs xs) (hd : d ∈ dartsOf es u xs) (hv : head es d = v) (h : Way es xs (-1) v n a) : Way es xs (-1) u (n + 1) a := by
  induction h with
  | start =>
    have hr := hp.vr _ (head_in hp (mem_dartsOf.1 hd).1).1
    exact hv ▸ Way.start.step hd (by omega)
  | step _ hd' hs ih => exact ih.step hd' hs
theorem Way.back {a u : Int} {n : Nat} (hp : POK N es vs xs) (h : Way es xs (-1) a n u) : Way es xs (-1) u n a := by
  induction h with
  | start => exact Way.start
  | step _ hd _ ih =>
    obtain ⟨h1, h2⟩ := twin_darts hd
    exact ih.snoc hp h1 h2
end
end Go.Proofs.Ythobfbnopkbniaa
