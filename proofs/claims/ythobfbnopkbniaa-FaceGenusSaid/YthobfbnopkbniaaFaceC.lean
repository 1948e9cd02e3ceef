/-
  Joined texts: WRing, WWay, WPieceP, WRange, WLeave, WReach, WFar, WBeyond, WBeyondB, WPieceQ, FGenusP, FLeaves, WPiece, FGenus, FSphere, FUniq, GTail, RSmall, RAwake, FEx, FKeys, WEqual. No conditions.
-/
import Derived.Test.YthobfbnopkbniaaFaceB
import Derived.Maps.RangeWalk
import Derived.Deep.LoopGhost
import Derived.Deep.OwnRows

section
namespace Go.Proofs.Ythobfbnopkbniaa

/-- One edge looked at: what is behind its ends, where an end is in the ring. -/
def nextE (es : List (Int × Int)) (ring next : List Int) (x : Int) : List Int :=
  let n1 := if (ends es x).1 ∈ ring ∧ (ends es x).2 ∉ next then next ++ [(ends es x).2] else next
  if (ends es x).2 ∈ ring ∧ (ends es x).1 ∉ n1 then n1 ++ [(ends es x).1] else n1
/-- All edges looked at. -/
def nextR (es : List (Int × Int)) (ring : List Int) (xs : List Int) : List Int := xs.foldl (nextE es ring) ring
theorem nextR_snoc (es : List (Int × Int)) (ring l : List Int) (x : Int) : l.foldl (nextE es ring) ring |> fun r => (l ++ [x]).foldl (nextE es ring) ring = nextE es ring r x := by simp
/-- What is at most so many darts away. -/
def ringN (es : List (Int × Int)) (xs : List Int) (a : Int) : Nat → List Int
  | 0 => [a]
  | n + 1 => nextR es (ringN es xs a n) xs

theorem mem_add {l : List Int} {p : Prop} [Decidable p] {y u : Int} : u ∈ (if p then l ++ [y] else l) ↔ u ∈ l ∨ (p ∧ u = y) := by split <;> simp [*]
theorem mem_nextE {es : List (Int × Int)} {ring next : List Int} {x u : Int} : u ∈ nextE es ring next x ↔ u ∈ next ∨ ((ends es x).1 ∈ ring ∧ u = (ends es x).2) ∨ ((ends es x).2 ∈ ring ∧ u = (ends es x).1) := by
  unfold nextE
  dsimp only
  rw [mem_add, mem_add]
  constructor
  · rintro ((h | ⟨h1, rfl⟩) | ⟨h1, rfl⟩)
    · exact .inl h
    · exact .inr (.inl ⟨h1.1, rfl⟩)
    · exact .inr (.inr ⟨h1.1, rfl⟩)
  · rintro (h | ⟨h1, rfl⟩ | ⟨h1, rfl⟩)
    · exact .inl (.inl h)
    · by_cases hn : (ends es x).2 ∈ next
      · exact .inl (.inl hn)
      · exact .inl (.inr ⟨⟨h1, hn⟩, rfl⟩)
    · by_cases hn : (ends es x).1 ∈ (if (ends es x).1 ∈ ring ∧ (ends es x).2 ∉ next then next ++ [(ends es x).2] else next)
      · exact .inl (mem_add.1 hn)
      · exact .inr ⟨⟨h1, hn⟩, rfl⟩
theorem nodup_add {l : List Int} {p : Prop} [Decidable p] {y : Int} (h : l.Nodup) (hn : p → y ∉ l) : (if p then l ++ [y] else l).Nodup := by
  split
  · exact List.nodup_append.2 ⟨h, by simp, fun a ha b hb e => by rw [List.mem_singleton] at hb; subst hb; exact hn ‹_› (e ▸ ha)⟩
  · exact h
theorem nextE_nodup {es : List (Int × Int)} {ring next : List Int} {x : Int} (h : next.Nodup) : (nextE es ring next x).Nodup := by
  unfold nextE
  dsimp only
  exact nodup_add (nodup_add h fun hh => hh.2) fun hh => hh.2
theorem mem_foldE {es : List (Int × Int)} {ring : List Int} {u : Int} : ∀ {l next : List Int}, u ∈ l.foldl (nextE es ring) next ↔ u ∈ next ∨ ∃ x ∈ l, ((ends es x).1 ∈ ring ∧ u = (ends es x).2) ∨ ((ends es x).2 ∈ ring ∧ u = (ends es x).1)
  | [], next => by simp
  | x :: l, next => by
    rw [List.foldl_cons, mem_foldE, mem_nextE, or_assoc]
    simp
theorem foldE_nodup {es : List (Int × Int)} {ring : List Int} : ∀ {l next : List Int}, next.Nodup → (l.foldl (nextE es ring) next).Nodup
  | [], _, h => h
  | _ :: _, _, h => by rw [List.foldl_cons]; exact foldE_nodup (nextE_nodup h)
section
variable {N : Int} {es : List (Int × Int)} {vs xs : List Int} {a : Int}
theorem ends_of_dart (es : List (Int × Int)) (d : Int) : (tail es d = (ends es (d / 2)).1 ∧ head es d = (ends es (d / 2)).2) ∨ (tail es d = (ends es (d / 2)).2 ∧ head es d = (ends es (d / 2)).1) := by
  unfold head tail
  rw [twin_half]
  unfold twin
  rcases Int.emod_two_eq d with h | h
  · left
    have e : ¬ (d + 1) % 2 = 0 := by omega
    simp [h, e]
  · right
    have e : (d - 1) % 2 = 0 := by omega
    simp [h, e]
theorem dart_of_ends (es : List (Int × Int)) (x : Int) : (∃ d, d / 2 = x ∧ tail es d = (ends es x).1 ∧ head es d = (ends es x).2) ∧ (∃ d, d / 2 = x ∧ tail es d = (ends es x).2 ∧ head es d = (ends es x).1) := by
  have t1 : tail es (2 * x) = (ends es x).1 := by unfold tail; rw [if_pos (by omega), show (2 * x) / 2 = x by omega]
  have t2 : tail es (2 * x + 1) = (ends es x).2 := by unfold tail; rw [if_neg (by omega), show (2 * x + 1) / 2 = x by omega]
  have w1 : twin (2 * x) = 2 * x + 1 := by unfold twin; rw [if_pos (by omega)]
  have w2 : twin (2 * x + 1) = 2 * x := by unfold twin; rw [if_neg (by omega)]; omega
  exact ⟨⟨2 * x, by omega, t1, by unfold head; rw [w1]; exact t2⟩, ⟨2 * x + 1, by omega, t2, by unfold head; rw [w2]; exact t1⟩⟩
theorem mem_nextR {ring : List Int} {u : Int} : u ∈ nextR es ring xs ↔ u ∈ ring ∨ ∃ d, d / 2 ∈ xs ∧ tail es d ∈ ring ∧ u = head es d := by
  unfold nextR
  rw [mem_foldE]
  constructor
  · rintro (h | ⟨x, hx, ⟨h1, rfl⟩ | ⟨h1, rfl⟩⟩)
    · exact .inl h
    · obtain ⟨⟨d, rfl, e1, e2⟩, _⟩ := dart_of_ends es x
      exact .inr ⟨d, hx, by rw [e1]; exact h1, e2.symm⟩
    · obtain ⟨_, ⟨d, rfl, e1, e2⟩⟩ := dart_of_ends es x
      exact .inr ⟨d, hx, by rw [e1]; exact h1, e2.symm⟩
  · rintro (h | ⟨d, hd, h1, rfl⟩)
    · exact .inl h
    · rcases ends_of_dart es d with ⟨e1, e2⟩ | ⟨e1, e2⟩
      · exact .inr ⟨_, hd, .inl ⟨by rw [← e1]; exact h1, e2⟩⟩
      · exact .inr ⟨_, hd, .inr ⟨by rw [← e1]; exact h1, e2⟩⟩
theorem mem_ringN (hp : POK N es vs xs) {u : Int} : ∀ {n : Nat}, u ∈ ringN es xs a n ↔ ∃ j, j ≤ n ∧ Way es xs (-1) a j u
  | 0 => by
    unfold ringN
    rw [List.mem_singleton]
    constructor
    · rintro rfl
      exact ⟨0, Nat.le_refl _, Way.start⟩
    · rintro ⟨j, hj, hw⟩
      cases hw with
      | start => rfl
      | step => omega
  | n + 1 => by
    unfold ringN
    rw [mem_nextR, mem_ringN hp]
    constructor
    · rintro (⟨j, hj, hw⟩ | ⟨d, hd, ht, rfl⟩)
      · exact ⟨j, by omega, hw⟩
      · obtain ⟨j, hj, hw⟩ := (mem_ringN hp).1 ht
        refine ⟨j + 1, by omega, hw.step (mem_dartsOf.2 ⟨hd, rfl⟩) ?_⟩
        have := hp.vr _ (head_in hp hd).1
        omega
    · rintro ⟨j, hj, hw⟩
      cases hw with
      | start => exact .inl ⟨0, by omega, Way.start⟩
      | step hw hd _ =>
        obtain ⟨h1, h2⟩ := mem_dartsOf.1 hd
        exact .inr ⟨_, h1, (mem_ringN hp).2 ⟨_, by omega, h2 ▸ hw⟩, rfl⟩
theorem way_in (hp : POK N es vs xs) (ha : a ∈ vs) {shut u : Int} {n : Nat} (h : Way es xs shut a n u) : u ∈ vs := by
  cases h with
  | start => exact ha
  | step _ hd _ => exact (head_in hp (mem_dartsOf.1 hd).1).1
theorem ringN_nodup : ∀ n, (ringN es xs a n).Nodup
  | 0 => by simp [ringN]
  | n + 1 => foldE_nodup (ringN_nodup n)
theorem ringN_sub (hp : POK N es vs xs) (ha : a ∈ vs) {n : Nat} : ∀ u ∈ ringN es xs a n, u ∈ vs := fun u hu => by
  obtain ⟨j, _, hw⟩ := (mem_ringN hp).1 hu
  exact way_in hp ha hw
/-- What the document's distance answers. -/
def FarIs (es : List (Int × Int)) (xs vs : List Int) (a b r : Int) : Prop :=
  (∃ n : Nat, r = n ∧ Way es xs (-1) a n b ∧ ∀ j, j < n → ¬ Way es xs (-1) a j b) ∨ (r = -1 ∧ ∀ j, j ≤ vs.length → ¬ Way es xs (-1) a j b)
end
end Go.Proofs.Ythobfbnopkbniaa
end

section
namespace Go.Proofs.Ythobfbnopkbniaa

theorem dartsOf_sorted (es : List (Int × Int)) (v : Int) : ∀ {xs : List Int}, xs.Pairwise (· < ·) → (dartsOf es v xs).Pairwise (· < ·)
  | [], _ => List.Pairwise.nil
  | x :: xs, h => by
    rw [List.pairwise_cons] at h
    have key : ∀ d ∈ dartsOf es v xs, 2 * x + 1 < d := fun d hd => by
      have := h.1 _ (mem_dartsOf.1 hd).1
      omega
    have ih := dartsOf_sorted es v h.2
    simp only [dartsOf]
    rw [List.pairwise_append, List.pairwise_append]
    refine ⟨⟨?_, ?_, fun a ha b hb => ?_⟩, ih, fun a ha b hb => ?_⟩
    · split <;> simp
    · split <;> simp
    · split at ha
      · split at hb
        · rw [List.mem_singleton] at ha hb; omega
        · cases hb
      · cases ha
    · have := key b hb
      rcases List.mem_append.1 ha with ha | ha
      · split at ha
        · rw [List.mem_singleton] at ha; omega
        · cases ha
      · split at ha
        · rw [List.mem_singleton] at ha; omega
        · cases ha
theorem tail_twin (es : List (Int × Int)) (d : Int) : tail es (twin d) = head es d := rfl
theorem head_twin (es : List (Int × Int)) (d : Int) : head es (twin d) = tail es d := by unfold head; rw [twin_twin]
theorem twin_darts {es : List (Int × Int)} {xs : List Int} {u d : Int} (h : d ∈ dartsOf es u xs) : twin d ∈ dartsOf es (head es d) xs ∧ head es (twin d) = u := by
  obtain ⟨h1, h2⟩ := mem_dartsOf.1 h
  exact ⟨mem_dartsOf.2 ⟨by rw [twin_half]; exact h1, rfl⟩, by rw [head_twin]; exact h2⟩

/-- A shortest way from v to where f is 0; each dart is the least that leads nearer. -/
def PathIs (es : List (Int × Int)) (xs : List Int) (f : Int → Option Int) : Int → List Int → Prop
  | v, [] => f v = some 0
  | v, d :: l => f v = some ((l.length : Int) + 1) ∧ d ∈ dartsOf es v xs ∧ f (head es d) = some (l.length : Int) ∧ (∀ d' ∈ dartsOf es v xs, d' < d → f (head es d') ≠ some (l.length : Int)) ∧ PathIs es xs f (head es d) l
theorem PathIs.len {es : List (Int × Int)} {xs : List Int} {f : Int → Option Int} : ∀ {v : Int} {l : List Int}, PathIs es xs f v l → f v = some (l.length : Int)
  | _, [], h => h
  | _, _ :: l, h => by rw [h.1, List.length_cons]; rfl

section
variable {N : Int} {es : List (Int × Int)} {vs xs : List Int} {b : Int} {f : Int → Option Int}
/-- From where it is further than 0 a dart leads nearer. -/
theorem Dist.near (h : Dist es xs (-1) b f) {v : Int} {n : Nat} (hv : f v = some ((n : Int) + 1)) : ∃ d ∈ dartsOf es v xs, f (head es d) = some (n : Int) := by
  obtain ⟨m, hm, hw⟩ := h.way v _ hv
  have hmn : m = n + 1 := by omega
  subst hmn
  cases hw with
  | step hw hd hs =>
    obtain ⟨k, hk, hle⟩ := h.le hw
    obtain ⟨k', hk', hle'⟩ := h.on _ _ _ hk hd hs
    rw [hv] at hk'
    injection hk' with hk'
    obtain ⟨h1, h2⟩ := twin_darts hd
    exact ⟨_, h1, by rw [h2, hk]; congr 1; omega⟩
/-- All that a met vertex's darts lead to is met. -/
theorem Dist.met (hp : POK N es vs xs) (h : Dist es xs (-1) b f) {v k d : Int} (hv : f v = some k) (hd : d ∈ dartsOf es v xs) : ∃ k', f (head es d) = some k' := by
  have hr := hp.vr _ (head_in hp (mem_dartsOf.1 hd).1).1
  obtain ⟨k', h1, _⟩ := h.on v k d hv hd (by omega)
  exact ⟨k', h1⟩
theorem val_eq {u : Int} {k : Int} (hk : ∃ k', f u = some k') : val f u = k ↔ f u = some k := by
  obtain ⟨k', hk'⟩ := hk
  rw [val_of hk', hk']
  exact ⟨fun h => by rw [h], fun h => by injection h⟩
/-- The first dart in the list that leads nearer is the least. -/
theorem Dist.first_near (h : Dist es xs (-1) b f) {v : Int} {n : Nat} (hv : f v = some ((n : Int) + 1)) :
    ∃ i, i < (dartsOf es v xs).length ∧ val f (head es ((dartsOf es v xs).getD i 0)) = n ∧ ∀ j, j < i → val f (head es ((dartsOf es v xs).getD j 0)) ≠ n := by
  obtain ⟨d, hd, hn⟩ := h.near hv
  have key : ∀ i : Nat, i < (dartsOf es v xs).length → val f (head es ((dartsOf es v xs).getD i 0)) = n → ∃ i, i < (dartsOf es v xs).length ∧ val f (head es ((dartsOf es v xs).getD i 0)) = n ∧ ∀ j, j < i → val f (head es ((dartsOf es v xs).getD j 0)) ≠ n := by
    intro i
    induction i using Nat.strongRecOn with
    | _ i ih =>
      intro hi he
      by_cases hex : ∃ j, j < i ∧ val f (head es ((dartsOf es v xs).getD j 0)) = n
      · obtain ⟨j, hj, hje⟩ := hex
        exact ih j hj (by omega) hje
      · exact ⟨i, hi, he, fun j hj hje => hex ⟨j, hj, hje⟩⟩
  obtain ⟨i, hi, e⟩ := List.getElem_of_mem hd
  refine key i hi ?_
  rw [getD_idx hi, e]
  exact val_of hn
/-- One dart more of the way. -/
theorem PathIs.cons (hp : POK N es vs xs) (h : Dist es xs (-1) b f) {v : Int} {n i : Nat} (hv : f v = some ((n : Int) + 1)) (hi : i < (dartsOf es v xs).length) {d : Int} (hd : (dartsOf es v xs).getD i 0 = d) (hn : val f (head es d) = n)
    (hno : ∀ j, j < i → val f (head es ((dartsOf es v xs).getD j 0)) ≠ n) {l : List Int} (hl : PathIs es xs f (head es d) l) : PathIs es xs f v (d :: l) ∧ f (head es d) = some (n : Int) := by
  have hm : d ∈ dartsOf es v xs := by rw [← hd, getD_idx hi]; exact List.getElem_mem hi
  have hfd := (val_eq (h.met hp hv hm)).1 hn
  have hll := hl.len
  rw [hfd] at hll
  injection hll with hll
  refine ⟨⟨by rw [hv, hll], hm, by rw [hfd, hll], fun d' hd' hlt he => ?_, hl⟩, hfd⟩
  obtain ⟨j, hj, e⟩ := List.getElem_of_mem hd'
  have hs := dartsOf_sorted es v hp.xp
  have hji : j < i := by
    rcases Nat.lt_or_ge j i with h1 | h1
    · exact h1
    · rw [getD_idx hi] at hd
      rcases Nat.lt_or_ge i j with h2 | h2
      · have := List.pairwise_iff_getElem.1 hs i j hi hj h2
        omega
      · obtain rfl : i = j := by omega
        omega
  refine hno j hji ?_
  rw [getD_idx hj, e, ← hll] at *
  exact val_of (by rw [he])
/-- Ways turned about. -/
theorem Way.snoc {a u v d : Int} {n : Nat} (hp : POK N es vs xs) (hd : d ∈ dartsOf es u xs) (hv : head es d = v) (h : Way es xs (-1) v n a) : Way es xs (-1) u (n + 1) a := by
  induction h with
  | start =>
    have hr := hp.vr _ (head_in hp (mem_dartsOf.1 hd).1).1
    exact hv ▸ Way.start.step hd (by omega)
  | step _ hd' hs ih => exact ih.step hd' hs
theorem Way.back {a u : Int} {n : Nat} (hp : POK N es vs xs) (h : Way es xs (-1) a n u) : Way es xs (-1) u n a := by
  induction h with
  | start => exact Way.start
  | step _ hd _ ih =>
    obtain ⟨h1, h2⟩ := twin_darts hd
    exact ih.snoc hp h1 h2
end
end Go.Proofs.Ythobfbnopkbniaa
end

section
namespace Go.Proofs.Ythobfbnopkbniaa

/-- There is a way. -/
def Hang (es : List (Int × Int)) (xs : List Int) (a u : Int) : Prop := ∃ k, Way es xs (-1) a k u

/-- The vertices of l have been told their pieces; there are n. -/
structure PcI (es : List (Int × Int)) (xs vs l : List Int) (n : Nat) (f : Int → Option Int) : Prop where
  root : ∀ i : Nat, i < n → ∃ r ∈ vs, ∀ x, f x = some (i : Int) ↔ Hang es xs r x
  lt : ∀ x k, f x = some k → ∃ i : Nat, k = i ∧ i < n
  all : ∀ x ∈ l, (f x).isSome = true
  le : n ≤ l.length
  first : ∀ i : Nat, i < n → ∃ l1 r l2, l = l1 ++ r :: l2 ∧ f r = some (i : Int) ∧ ∀ y ∈ l1, ∃ j : Nat, j < i ∧ f y = some (j : Int)

section
variable {N : Int} {es : List (Int × Int)} {vs xs l : List Int} {n : Nat} {f g : Int → Option Int} {a u x : Int}
theorem Hang.refl (a : Int) : Hang es xs a a := ⟨0, .start⟩
theorem Hang.symm (hp : POK N es vs xs) (h : Hang es xs a u) : Hang es xs u a := by
  obtain ⟨k, hk⟩ := h
  exact ⟨k, hk.back hp⟩
theorem Way.on_ {k m : Nat} (h : Way es xs (-1) a k u) (h' : Way es xs (-1) u m x) : Way es xs (-1) a (k + m) x := by
  induction h' with
  | start => exact h
  | step _ hd hs ih => exact ih.step hd hs
theorem Hang.trans (h : Hang es xs a u) (h' : Hang es xs u x) : Hang es xs a x := by
  obtain ⟨k, hk⟩ := h
  obtain ⟨m, hm⟩ := h'
  exact ⟨_, hk.on_ hm⟩
theorem Hang.dart (hp : POK N es vs xs) {d : Int} (hd : d ∈ dartsOf es a xs) : Hang es xs a (head es d) :=
  ⟨1, Way.start.step hd (by have := hp.vr _ (head_in hp (mem_dartsOf.1 hd).1).1; omega)⟩
theorem Hang.in_ (hp : POK N es vs xs) (ha : a ∈ vs) (h : Hang es xs a u) : u ∈ vs := by
  obtain ⟨k, hk⟩ := h
  cases hk with
  | start => exact ha
  | step _ hd _ => exact (head_in hp (mem_dartsOf.1 hd).1).1
theorem Dist.hang (h : Dist es xs (-1) a g) (u : Int) : (g u).isSome = true ↔ Hang es xs a u := by
  constructor
  · intro hu
    obtain ⟨k, hk⟩ := Option.isSome_iff_exists.1 hu
    obtain ⟨m, _, hm⟩ := h.way u k hk
    exact ⟨m, hm⟩
  · rintro ⟨k, hk⟩
    obtain ⟨q, hq, _⟩ := h.le hk
    rw [hq]; rfl

theorem PcI.start_ : PcI es xs vs [] 0 (fun _ => none) := ⟨fun i hi => absurd hi (by omega), fun _ _ h => (by cases h), by simp, Nat.le_refl _, fun i hi => absurd hi (by omega)⟩
/-- Those of the pieces told so far, and one piece more. -/
def grow (g f : Int → Option Int) (n : Nat) : Int → Option Int := fun z => if (g z).isSome then some (n : Int) else f z
theorem PcI.more (h : PcI es xs vs l n f) (hp : POK N es vs xs) (hx : x ∈ vs) (hf : f x = none) (hd : Dist es xs (-1) x g) : PcI es xs vs (l ++ [x]) (n + 1) (grow g f n) := by
  have hno : ∀ y i, f y = some i → (g y).isSome = false := fun y k hk => by
    obtain ⟨i, rfl, hi⟩ := h.lt y k hk
    obtain ⟨r, _, hr⟩ := h.root i hi
    cases hg : (g y).isSome with
    | false => rfl
    | true =>
      have h1 := (hr y).1 hk
      have h2 := (hd.hang y).1 hg
      have := (hr x).2 (h1.trans (h2.symm hp))
      rw [hf] at this
      cases this
  refine ⟨fun i hi => ?_, fun y k hk => ?_, fun y hy => ?_, by rw [List.length_append]; have := h.le; simp; omega, fun i hi => ?_⟩
  · rcases Nat.lt_or_ge i n with hlt | hge
    · obtain ⟨r, hr1, hr⟩ := h.root i hlt
      refine ⟨r, hr1, fun y => ?_⟩
      rw [← hr y]
      unfold grow
      constructor
      · intro e
        split at e
        · injection e with e; omega
        · exact e
      · intro e
        rw [hno y _ e]
        exact e
    · obtain rfl : i = n := by omega
      refine ⟨x, hx, fun y => ?_⟩
      rw [← hd.hang y]
      unfold grow
      constructor
      · intro e
        split at e
        · assumption
        · obtain ⟨j, h1, h2⟩ := h.lt y _ e
          omega
      · intro e
        rw [if_pos e]
  · unfold grow at hk
    split at hk
    · injection hk with hk
      exact ⟨n, hk.symm, by omega⟩
    · obtain ⟨i, h1, h2⟩ := h.lt y k hk
      exact ⟨i, h1, by omega⟩
  · unfold grow
    rcases List.mem_append.1 hy with hy | hy
    · split
      · rfl
      · exact h.all y hy
    · rw [List.mem_singleton] at hy
      subst hy
      rw [if_pos (by rw [hd.start]; rfl)]
      rfl
  · have hgk : ∀ y k, f y = some k → grow g f n y = some k := fun y k hk => by
      unfold grow
      rw [hno y k hk]
      exact hk
    rcases Nat.lt_or_ge i n with hlt | hge
    · obtain ⟨l1, r, l2, e, hr, h1⟩ := h.first i hlt
      refine ⟨l1, r, l2 ++ [x], by rw [e]; simp, hgk _ _ hr, fun y hy => ?_⟩
      obtain ⟨j, hj, hy⟩ := h1 y hy
      exact ⟨j, hj, hgk _ _ hy⟩
    · obtain rfl : i = n := by omega
      refine ⟨l, x, [], rfl, by unfold grow; rw [if_pos (by rw [hd.start]; rfl)], fun y hy => ?_⟩
      obtain ⟨k, hk⟩ := Option.isSome_iff_exists.1 (h.all y hy)
      obtain ⟨j, rfl, hj⟩ := h.lt y k hk
      exact ⟨j, hj, hgk _ _ hk⟩
theorem PcI.met (h : PcI es xs vs l n f) {k : Int} (hf : f x = some k) : PcI es xs vs (l ++ [x]) n f :=
  ⟨h.root, h.lt, fun y hy => by
    rcases List.mem_append.1 hy with hy | hy
    · exact h.all y hy
    · rw [List.mem_singleton] at hy
      rw [hy, hf]; rfl, by rw [List.length_append]; have := h.le; omega, fun i hi => by
    obtain ⟨l1, r, l2, e, hr, h1⟩ := h.first i hi
    exact ⟨l1, r, l2 ++ [x], by rw [e]; simp, hr, h1⟩⟩
/-- What the pieces are: of two vertices that hang together, and of those alone, the pieces are one. -/
theorem PcI.same (h : PcI es xs vs vs n f) (hp : POK N es vs xs) {y : Int} (hx : x ∈ vs) : f x = f y ↔ Hang es xs x y := by
  obtain ⟨k, hk⟩ := Option.isSome_iff_exists.1 (h.all x hx)
  obtain ⟨i, rfl, hi⟩ := h.lt x k hk
  obtain ⟨r, _, hr⟩ := h.root i hi
  have h1 := (hr x).1 hk
  constructor
  · intro e
    have h2 := (hr y).1 (e ▸ hk)
    exact (h1.symm hp).trans h2
  · intro e
    rw [hk, (hr y).2 (h1.trans e)]
theorem PcI.one (h : PcI es xs vs vs n f) (hp : POK N es vs xs) : n ≤ 1 ↔ ∀ x ∈ vs, ∀ y ∈ vs, Hang es xs x y := by
  constructor
  · intro hn x hx y hy
    rw [← h.same hp hx]
    obtain ⟨k, hk⟩ := Option.isSome_iff_exists.1 (h.all x hx)
    obtain ⟨i, rfl, hi⟩ := h.lt x k hk
    obtain ⟨k', hk'⟩ := Option.isSome_iff_exists.1 (h.all y hy)
    obtain ⟨i', rfl, hi'⟩ := h.lt y k' hk'
    rw [hk, hk', show i = i' by omega]
  · intro hall
    rcases Nat.lt_or_ge 1 n with h1 | h1
    · obtain ⟨r, hr, h2⟩ := h.root 0 (by omega)
      obtain ⟨r', hr', h3⟩ := h.root 1 (by omega)
      have e1 := (h2 r).2 (Hang.refl r)
      have e2 := (h3 r').2 (Hang.refl r')
      have := (h.same hp hr).2 (hall r hr r' hr')
      rw [e1, e2] at this
      injection this with this
      omega
    · exact h1
end
end Go.Proofs.Ythobfbnopkbniaa
end

section
namespace Go.Proofs.Ythobfbnopkbniaa
open Go.RowKit Go.Maps

theorem i64_wf {k : Int} (h : (Lit.int .i64 k).wf = true) : I64 k := by
  simp [Lit.wf, IntKind.min, IntKind.max, IntKind.signed, IntKind.bits] at h
  exact ⟨by omega, by omega⟩
/-- A range over the map of block b, by the iterator of block r, is under way; 'left' tells which keys are still to come; so many. -/
def RM (w : World) (b r n : Nat) (g : Int → Option Int) (left : Int → Bool) (cnt : Nat) : Prop :=
  ∃ (D : DataW Value) (L : Lit → Bool), w.ranges Try.prog 3 asIs b r n D L cnt ∧
    (∀ k, I64 k → ∀ v, (g k).map (Value.int .i64) = some v → ∀ z, D.atKey (.int .i64 k) z = .held v) ∧ ∀ k, I64 k → L (.int .i64 k) = left k ∧ (left k = true → (g k).isSome = true)
section
variable {w w' : World} {b r n cnt : Nat} {g : Int → Option Int} {left : Int → Bool} {ops : Array Oper} {rest : List Oper} {o : Oper} {a : Act} {Q : Exit → Act → World → Prop}
theorem RM.kept {row : Option Nat} (h : RM w b r n g left cnt) (hg : w.grownBy w' row) (hb : some b ≠ row) (hr : some r ≠ row) : RM w' b r n g left cnt := by
  obtain ⟨D, L, h1, h2⟩ := h
  exact ⟨D, L, h1.kept hg hb hr, h2⟩
theorem RM.left_eq (h : RM w b r n g left cnt) : w.rangeLeft b r = cnt := by
  obtain ⟨D, L, h1, _⟩ := h
  exact h1.left_eq
theorem RM.lt (h : RM w b r n g left cnt) : r < w.heap.size ∧ b < w.heap.size := by
  obtain ⟨D, L, h1, _⟩ := h
  exact ⟨h1.lt, h1.owns.lt⟩
theorem wpList_rm_range (hg : o.guard = none) (m : Operand) (hop : o.op = Op.range 52 m) (hm : a.eval m = .map (some b)) (h : MI w b n g)
    (hK : ∀ w', RM w' b w.heap.size n g (fun k => (g k).isSome) n → w.grownBy w' none → w'.heap.size = w.heap.size + 1 → wpList Try.prog ops Q rest (a.put o.dst (.pointer (some ⟨w.heap.size, 0, none⟩))) w') : wpList Try.prog ops Q (o :: rest) a w := by
  obtain ⟨D, h1, h2, h3⟩ := h
  refine wpList_range_own w hg m 52 hop 3 3 keyedInt Try.underlying52 asIs b n D hm h1 fun w' hr hgr hs => hK w' ⟨D, Maps.has D, by rw [h2] at hr; exact hr, fun k hk v hv z => ((h3 k hk).2 v hv).2 z, fun k hk => ⟨?_, id⟩⟩ hgr hs
  have := h3 k hk
  cases hgk : g k with
  | none => show Maps.has D _ = (g k).isSome; rw [hgk]; exact this.1 (by show Option.map _ (g k) = _; rw [hgk]; rfl)
  | some v => show Maps.has D _ = (g k).isSome; rw [hgk]; exact (this.2 (.int .i64 v) (by show Option.map _ (g k) = _; rw [hgk]; rfl)).1
theorem wpList_rm_next (hg : o.guard = none) (it : Operand) (hop : o.op = Op.next it false) (hit : a.eval it = .pointer (some ⟨r, 0, none⟩)) (h : RM w b r n g left cnt)
    (hDone : cnt = 0 → (∀ k, I64 k → left k = false) → wpList Try.prog ops Q rest (a.put o.dst (.tuple #[.bool false])) w)
    (hMore : ∀ (x c : Int) (w' : World) (cnt' : Nat), I64 x → left x = true → g x = some c → RM w' b r n g (fun z => left z && !decide (z = x)) cnt' → cnt' < cnt → w.grownBy w' (some r) → w'.heap.size = w.heap.size →
      (Instr.entry (.pointer (some ⟨r, 0, none⟩))).run Try.prog w' = .ok (.tuple #[.int .i64 x, .int .i64 c]) w' → wpList Try.prog ops Q rest (a.put o.dst (.tuple #[.bool true, .int .i64 x, .int .i64 c])) w') : wpList Try.prog ops Q (o :: rest) a w := by
  obtain ⟨D, L, h1, h2, h3⟩ := h
  refine wpList_next_ranges w hg it hop 3 keyedInt asIs (Value.int .i64) id (fun key kl hkey => ?_) (fun v y _ => ⟨v, rfl⟩) b r n D L cnt hit h1 (fun h0 hl => hDone h0 fun k hk => by rw [← (h3 k hk).1]; exact hl _) ?_
  · obtain ⟨x, rfl, _⟩ := keyOf_int_inv Try.underlying3 hkey
    exact ⟨x, rfl⟩
  · intro x c kl y w' cnt' hkey hlk hv hat hrg hlt hgr hsz hen
    obtain ⟨x', ex, rfl, hwx⟩ := keyOf_int_inv Try.underlying3 hkey
    cases ex
    have hx64 := i64_wf hwx
    obtain ⟨e1, e2⟩ := h3 x hx64
    rw [hlk] at e1
    obtain ⟨q, hq⟩ := Option.isSome_iff_exists.1 (e2 e1.symm)
    have hh := h2 x hx64 _ (by rw [hq]; rfl) (.held undef)
    rw [hat] at hh
    have hc : id c = .int .i64 q := by
      simp only [asIs, Option.some.injEq] at hv
      rw [← hv] at hh
      simpa using hh
    rw [hc] at hen
    have := hMore x q w' cnt' hx64 e1.symm hq ⟨D, _, hrg, h2, fun k hk => ?_⟩ hlt hgr hsz hen
    · rw [hc]; exact this
    · obtain ⟨e3, e4⟩ := h3 k hk
      refine ⟨by simp only [Lit.sameKey, e3, true_and], fun hlx => e4 ?_⟩
      rw [Bool.and_eq_true] at hlx
      exact hlx.1
end
end Go.Proofs.Ythobfbnopkbniaa
end

section
namespace Go.Proofs.Ythobfbnopkbniaa
open Go.RowKit

/-- What puts into, and what takes from, the queue in the variable at block b. -/
abbrev putV (b : Nat) : Value := .func (.func 94) #[] #[.pointer (some ⟨b, 0, none⟩)]
abbrev takeV (b : Nat) : Value := .func (.func 95) #[] #[.pointer (some ⟨b, 0, none⟩)]

set_option maxHeartbeats 1000000 in
theorem queue_any (w : World) : Calls Try.prog 87 #[] w fun e w' => e = .returned (.tuple #[putV w.heap.size, takeV w.heap.size]) ∧ QI w' w.heap.size w.heap.size [] ∧ Below w.heap.size w w' := by
  have hq : QI (w.alloc (.cells #[.slice none 0 0] 25)) w.heap.size w.heap.size [] :=
    ⟨_, heap_alloc_new w _, Nat.le_refl _, none, 0, 0, rfl, rfl, Nat.le_refl _, by omega, by simp, .inl ⟨rfl, rfl⟩⟩
  go_enter Try.func87, Try.ntmps87
  go_wp2
  go_ret2
  exact ⟨rfl, hq, (Below.refl _ _).alloc (Nat.le_refl _) _⟩

set_option maxHeartbeats 1000000 in
/-- The vertex that a dart comes to. -/
theorem target_any (w : World) (N : Int) (A : Option Addr) (m c : Nat) (es : List (Int × Int)) (d : Int) (hg : ES w w.heap.size A m c es) (h0 : 0 ≤ d) (h1 : d < 2 * m) :
    Calls Try.prog 70 #[.agg #[.int .i64 N, .slice A m c], .int .i64 d] w fun e w' => e = .returned (.int .i64 (head es d)) ∧ Below w.heap.size w w' := by
  have hm := hg.le
  have hc := hg.cap
  obtain ⟨q, rfl⟩ := Int.eq_ofNat_of_zero_le h0
  have hq : q / 2 < m := by omega
  obtain ⟨w1, hw1, b1, hs1, hcell⟩ := box_one w #[.int .i64 N, .slice A m c] 24
  have c1 : w1.cell? ⟨w.heap.size, 1, none⟩ = some (.slice A m c) := hcell 1
  obtain ⟨b, o, x, y, rfl, hb, hxy, hx64, hy64, hcx, hcy⟩ := (hg.below b1).get hq
  have hen : Hid (ends es ((q : Int) / 2) = (x, y)) := Lib.hid (by unfold ends; rw [show ((q : Int) / 2).toNat = q / 2 from by omega]; exact hxy.out)
  have HH := Lib.hid hg
  clear hg hcell
  by_cases hp : q % 2 = 0
  · have hp' : ((q : Int) % 2 == 0) = true := by simp; omega
    have ht : Hid (head es (q : Int) = y) := Lib.hid (by
      unfold head tail twin
      rw [if_pos (show (q : Int) % 2 = 0 by omega), if_neg (by omega), show ((q : Int) + 1) / 2 = (q : Int) / 2 by omega, hen.out])
    clear hp
    go_enter Try.func70, Try.ntmps70
    go_wp2
    go_ret
    exact ⟨ret_int ht.out.symm, b1⟩
  · have hp' : ((q : Int) % 2 == 0) = false := by simp; omega
    have ht : Hid (head es (q : Int) = x) := Lib.hid (by
      unfold head tail twin
      rw [if_neg (show ¬ (q : Int) % 2 = 0 by omega), if_pos (by omega), show ((q : Int) - 1) / 2 = (q : Int) / 2 by omega, hen.out])
    clear hp
    go_enter Try.func70, Try.ntmps70
    go_wp2
    go_ret
    exact ⟨ret_int ht.out.symm, b1⟩

/-- Block b is a map with integer keys whose values are slices that read as D says (nil where there is none). -/
def DM (w : World) (b : Nat) (D : Int → List Int) : Prop := ∃ n F, MV w b n F ∧ ∀ k, I64 k → ∃ A m c, (F k).getD (.slice none 0 0) = .slice A m c ∧ IS w w.heap.size A m c (D k)
theorem DM.step {w w' : World} {b : Nat} {D : Int → List Int} (h : DM w b D) (hb : Below w.heap.size w w') : DM w' b D := by
  obtain ⟨n, F, h1, h2⟩ := h
  exact ⟨n, F, MV.step h1 hb, fun k hk => by
    obtain ⟨A, m, c, e, hi⟩ := h2 k hk
    exact ⟨A, m, c, e, hi.step hb⟩⟩
theorem zeroRow (w : World) : (zeroValue 25).run Try.prog w = .ok (.slice none 0 0) w := by kernel_rfl
section
variable {w : World} {b : Nat} {D : Int → List Int} {ops : Array Oper} {rest : List Oper} {o : Oper} {a : Act} {Q : Exit → Act → World → Prop}
/-- 'm[k]' in such a map. -/
theorem wpList_drow (hg : o.guard = none) (m x : Operand) (hop : o.op = Op.lookup 91 m x false) (hm : a.eval m = .map (some b)) (h : DM w b D) (k : Int) (hx : a.eval x = .int .i64 k) (hk : I64 k)
    (hK : ∀ A n c, IS w w.heap.size A n c (D k) → wpList Try.prog ops Q rest (a.put o.dst (.slice A n c)) w) : wpList Try.prog ops Q (o :: rest) a w := by
  obtain ⟨n, F, h1, h2⟩ := h
  obtain ⟨A, m', c, e, hi⟩ := h2 k hk
  exact wpList_look_aux hg m x 91 25 hop Try.underlying91 (zeroRow w) hm h1 k hx hk _ e (hK A m' c hi)
end

/-- .. of the call's own, as it is filled: no two rows lie in one block. -/
structure Grp (w0 w : World) (b : Nat) (D : Int → List Int) (q : Nat) (F : Int → Option Value) : Prop where
  map : ∃ n, MV w b n F ∧ n ≤ q
  rows : ∀ k, I64 k → (F k = none ∧ D k = []) ∨ ∃ v, F k = some v ∧ Own w0 w v (D k) ∧ D k ≠ []
  apart : ∀ k k' v v', I64 k → I64 k' → k ≠ k' → F k = some v → F k' = some v' → v.ownBlock = none ∨ v.ownBlock ≠ v'.ownBlock
  new : w0.heap.size ≤ b
  below : Below w0.heap.size w0 w
section
variable {w0 w : World} {b q : Nat} {D : Int → List Int} {F : Int → Option Value}
theorem Grp.later {w' : World} (h : Grp w0 w b D q F) (hb : Below w.heap.size w w') : Grp w0 w' b D q F := by
  obtain ⟨n, hm, hq⟩ := h.map
  exact ⟨⟨n, MV.step hm hb, hq⟩, fun k hk => (h.rows k hk).imp id fun ⟨v, h1, h2, h3⟩ => ⟨v, h1, h2.later hb, h3⟩, h.apart, h.new, h.below.trans (hb.mono h.below.size)⟩
theorem Grp.start (w : World) : Grp w (w.alloc (.map #[] 0)) w.heap.size (fun _ => []) 0 (fun _ => none) :=
  ⟨⟨0, MV.made w, Nat.le_refl _⟩, fun _ _ => .inl ⟨rfl, rfl⟩, (fun _ _ _ _ _ _ _ h _ => by cases h), Nat.le_refl _, (Below.refl _ _).alloc (Nat.le_refl _) _⟩
theorem Grp.at_ (h : Grp w0 w b D q F) {k : Int} (hk : I64 k) : ∃ v, (F k).getD (.slice none 0 0) = v ∧ Own w0 w v (D k) := by
  rcases h.rows k hk with ⟨h1, h2⟩ | ⟨v, h1, h2, _⟩
  · exact ⟨_, rfl, by rw [h1, h2]; exact Own.start_at h.below⟩
  · exact ⟨_, rfl, by rw [h1]; exact h2⟩
theorem Grp.dm (h : Grp w0 w b D q F) : DM w b D := by
  obtain ⟨n, hm, hq⟩ := h.map
  refine ⟨n, F, hm, fun k hk => ?_⟩
  obtain ⟨v, hv, ho⟩ := h.at_ hk
  obtain ⟨A, m, c, e, hi⟩ := ho.is
  exact ⟨A, m, c, by rw [hv, e], hi⟩
/-- The row at one key is appended to. -/
theorem Grp.mid (h : Grp w0 w b D q F) {k : Int} (hk : I64 k) {v : Value} (hv : (F k).getD (.slice none 0 0) = v) {ob : Obj} {w2 : World} (hg : (w.alloc ob).grownBy w2 v.ownBlock) :
    ∃ n, MV w2 b n F ∧ n ≤ q := by
  obtain ⟨n, hm, hq⟩ := h.map
  obtain ⟨v', hv', ho⟩ := h.at_ hk
  have : v' = v := hv'.symm.trans hv
  subst this
  exact ⟨n, (hm.alloc ob).kept hg (fun e => ho.notMap hm e.symm), hq⟩
theorem Grp.step (h : Grp w0 w b D q F) {k : Int} (hk : I64 k) {v : Value} (hv : (F k).getD (.slice none 0 0) = v) {ob : Obj} {w2 w3 : World} (hg : (w.alloc ob).grownBy w2 v.ownBlock) {v' : Value} {z : Int} (ho : Own w0 w2 v' (D k ++ [z]))
    (hb : v'.ownBlock = v.ownBlock ∨ v'.ownBlock = some (w.heap.size + 1)) {n' : Nat} (hm3 : MV w3 b n' (upd F k v')) (hn' : n' ≤ q + 1) (hg3 : w2.grownBy w3 (some b)) :
    Grp w0 w3 b (fun j => if j = k then D k ++ [z] else D j) (q + 1) (upd F k v') := by
  obtain ⟨v1, hv1, hv0⟩ := h.at_ hk
  have : v1 = v := hv1.symm.trans hv
  subst this
  obtain ⟨n2, hm2, _⟩ := h.mid hk hv hg
  have hkeep : ∀ {u : Value} {ys : List Int}, Own w0 w u ys → (u.ownBlock = none ∨ u.ownBlock ≠ v1.ownBlock) → Own w0 w2 u ys := fun hu hne => (hu.alloc ob).kept hg (fun j hj => (hv0.row.lt j hj).1) hne
  have h3 : ∀ {u : Value} {ys : List Int}, Own w0 w2 u ys → Own w0 w3 u ys := fun hu => hu.kept hg3 (fun j hj => by cases hj; exact h.new) (.inr (hu.notMap hm2))
  have old : ∀ j u, I64 j → j ≠ k → F j = some u → u.ownBlock = none ∨ u.ownBlock ≠ v1.ownBlock := fun j u hj hjk hu => by
    cases hF : F k with
    | none =>
      have e : v1 = .slice none 0 0 := by rw [← hv, hF]; rfl
      subst e
      cases hub : u.ownBlock with
      | none => exact .inl rfl
      | some g => exact .inr (by simp [Value.ownBlock])
    | some x =>
      have e : x = v1 := by rw [← hv, hF]; rfl
      subst e
      exact h.apart j k u x hj hk hjk hu hF
  have fresh : ∀ j u, I64 j → j ≠ k → F j = some u → u.ownBlock = none ∨ u.ownBlock ≠ v'.ownBlock := fun j u hj hjk hu => by
    rcases hb with e | e
    · rw [e]; exact old j u hj hjk hu
    · rcases h.rows j hj with ⟨hn, _⟩ | ⟨x, hx, hox, _⟩
      · rw [hn] at hu; cases hu
      · have : x = u := Option.some.inj (hx.symm.trans hu)
        subst this
        cases hxb : x.ownBlock with
        | none => exact .inl rfl
        | some g =>
          refine .inr fun e' => ?_
          rw [e] at e'
          injection e' with e'
          have := (hox.row.lt g hxb).2
          omega
  refine ⟨⟨n', hm3, hn'⟩, fun j hj => ?_, fun j j' u u' hj hj' hne hu hu' => ?_, h.new, (h3 ho).below⟩
  · by_cases hjk : j = k
    · subst hjk
      refine .inr ⟨v', by simp [upd], ?_, by simp⟩
      rw [if_pos rfl]
      exact h3 ho
    · rw [if_neg hjk]
      rcases h.rows j hj with ⟨h1, h2⟩ | ⟨u, h1, h2, h4⟩
      · exact .inl ⟨by simp [upd, hjk, h1], h2⟩
      · exact .inr ⟨u, by simp [upd, hjk, h1], h3 (hkeep h2 (old j u hj hjk h1)), h4⟩
  · by_cases hjk : j = k
    · subst hjk
      have e : u = v' := by simp [upd] at hu; exact hu.symm
      subst e
      have hF : F j' = some u' := by simpa [upd, Ne.symm hne] using hu'
      cases hub : u.ownBlock with
      | none => exact .inl rfl
      | some g =>
        refine .inr fun e' => ?_
        rcases fresh j' u' hj' (Ne.symm hne) hF with h4 | h4
        · rw [h4] at e'; cases e'
        · exact h4 (by rw [hub]; exact e'.symm)
    · have hF : F j = some u := by simpa [upd, hjk] using hu
      by_cases hjk' : j' = k
      · subst hjk'
        have e : u' = v' := by simp [upd] at hu'; exact hu'.symm
        subst e
        exact fresh j u hj hjk hF
      · exact h.apart j j' u u' hj hj' hne hF (by simpa [upd, hjk'] using hu')
end

/-- The darts of the first edges, one more edge. -/
theorem leave_step (es : List (Int × Int)) (l : List Int) (z : Int) : (fun j => if j = (ends es z).2 then (if (ends es z).2 = (ends es z).1 then dartsOf es (ends es z).1 l ++ [2 * z] else dartsOf es (ends es z).2 l) ++ [2 * z + 1] else if j = (ends es z).1 then dartsOf es (ends es z).1 l ++ [2 * z] else dartsOf es j l) = fun j => dartsOf es j (l ++ [z]) := by
  funext j
  have t1 : tail es (2 * z) = (ends es z).1 := by unfold tail; rw [if_pos (by omega), show (2 * z) / 2 = z by omega]
  have t2 : tail es (2 * z + 1) = (ends es z).2 := by unfold tail; rw [if_neg (by omega), show (2 * z + 1) / 2 = z by omega]
  rw [dartsOf_append]
  simp only [dartsOf, t1, t2, List.append_nil]
  by_cases h2 : j = (ends es z).2
  · subst h2
    rw [if_pos rfl, if_pos rfl]
    by_cases h1 : (ends es z).2 = (ends es z).1
    · rw [if_pos h1, if_pos h1.symm, h1]; simp
    · rw [if_neg h1, if_neg (Ne.symm h1)]; simp
  · rw [if_neg h2, if_neg (Ne.symm h2)]
    by_cases h1 : j = (ends es z).1
    · subst h1
      rw [if_pos rfl, if_pos rfl]; simp
    · rw [if_neg h1, if_neg (Ne.symm h1)]; simp
theorem leave_len (es : List (Int × Int)) (x y z : Int) (l : List Int) : (if y = x then dartsOf es x l ++ [z] else dartsOf es y l).length ≤ 2 * l.length + 1 := by
  split
  · rw [List.length_append]
    have := dartsOf_len es x l
    simp only [List.length_cons, List.length_nil]
    omega
  · have := dartsOf_len es y l
    omega
theorem run_makeMap_rows (w : World) : (Instr.makeMap 91 none).run Try.prog w = .ok (.map (some w.heap.size)) (w.alloc (.map #[] 0)) := by
  simp [Instr.makeMap]

set_option maxHeartbeats 4000000 in
set_option maxRecDepth 100000 in
theorem leaving_any (w : World) (N : Int) (A : Option Addr) (m c : Nat) (es : List (Int × Int)) (Av : Option Addr) (nv cv : Nat) (vs : List Int) (Ae : Option Addr) (ne ce : Nat) (xs : List Int) (h : GP w N A m c es Av nv cv vs Ae ne ce xs) (hp : POK N es vs xs) :
    Calls Try.prog 66 #[.agg #[.int .i64 N, .slice A m c], .agg #[.slice Av nv cv, .slice Ae ne ce]] w fun e w' => ∃ b, e = .returned (.map (some b)) ∧ DM w' b (fun v => dartsOf es v xs) ∧ w.heap.size ≤ b ∧ Below w.heap.size w w' := by
  have hcE := h.e.cap
  have hlE := h.e.le
  have HLE := Lib.hid h.e.len
  obtain ⟨w1, hw1, b1, gb1⟩ := box_gp w N A m c es Av nv cv Ae ne ce
  have h1 := h.step b1
  have ⟨_, _, c0, c1, c2, c3, _⟩ := gb1
  clear h
  have hmm := run_makeMap_rows
  have hst := Grp.start w1
  have HP := Lib.hid hp
  have hne60 : ne ≤ 1024 := by
    have := nodup_len (a := xs) (b := (List.range es.length).map Int.ofNat) (sorted_nodup hp.xp) fun x hx => by
      have := hp.xr x hx
      exact List.mem_map.2 ⟨x.toNat, List.mem_range.2 (by omega), by show ((x.toNat : Nat) : Int) = x; omega⟩
    rw [List.length_map, List.length_range] at this
    have := hp.size
    have := hp.n0
    have := h1.e.len
    omega
  clear hp
  go_enter Try.func66, Try.ntmps66
  go_wp2
  have hgl : gb1.1 = gb1.1 := rfl
  clear hgl hmm
  obtain ⟨mb, hmb⟩ : ∃ mb, w1.heap.size = mb := ⟨_, rfl⟩
  rw [hmb] at hst ⊢
  have hb12 : Below w1.heap.size w1 (w1.alloc (.map #[] 0)) := (Below.refl _ _).alloc (Nat.le_refl _) _
  have hE := h1.e
  have hG := h1.g
  have HMB := Lib.hid hmb
  clear hmb hw1 c0 c1 c2 c3 h1
  go_loopw [14] (fun i wr => ∃ k : Nat, k ≤ ne ∧ i = .int .i64 k ∧ ∃ F, Grp w1 wr mb (fun v => dartsOf es v (xs.take k)) (2 * k) F) (fun i _ => ne - (intOf i).toNat)
  case atStart => exact ⟨0, Nat.zero_le _, rfl, _, by rw [List.take_zero]; exact hst⟩
  case round =>
    obtain ⟨k, hk, rfl, F, inv⟩ := hrel
    have gb3 := gb1.step inv.below
    have ⟨_, _, c0, c1, c2, c3, _⟩ := gb3
    by_cases hlt : k < ne
    · obtain ⟨b, o, z, rfl, hb, hz, hz64, hcz⟩ := (hE.below inv.below).get hlt
      have hkl : Hid (k < xs.length) := Lib.hid (by rw [HLE.out]; exact hlt)
      have hzr := HP.out.xr z (hz.out ▸ hE.mem hlt)
      obtain ⟨q, rfl⟩ := Int.eq_ofNat_of_zero_le hzr.1
      have hml := hG.len
      have hm1024 : m ≤ 1024 := by have := HP.out.size; have := HP.out.n0; omega
      have hqm : q < m := by omega
      obtain ⟨b', o', x, y, rfl, hb', hxy, hx64, hy64, hcx, hcy⟩ := (hG.below inv.below).get hqm
      have hen : Hid (ends es q = (x, y)) := Lib.hid (by unfold ends; rw [Int.toNat_natCast]; exact hxy.out)
      have w2q : IntKind.i64.wrap (2 * (q : Int)) = 2 * (q : Int) := IntWalk.i64_in _ (by omega)
      have w2r : IntKind.i64.wrap (2 * (q : Int) + 1) = 2 * (q : Int) + 1 := IntWalk.i64_in _ (by omega)
      have hq0 : (0 : Int) ≤ (q : Int) := by omega
      have hq1 : (q : Int) < (m : Int) := by omega
      have hmc := hG.cap
      have hmle := hG.le
      have hq64 : I64 (2 * (q : Int)) := ⟨by omega, by omega⟩
      have hr64 : I64 (2 * (q : Int) + 1) := ⟨by omega, by omega⟩
      have HINV := Lib.hid inv
      have GB1 := Lib.hid gb1
      have HEE := Lib.hid hE
      have HGG := Lib.hid hG
      clear inv gb1 hst hzr hml hE hG gb3
      go_wp2
      go_quiet (fail)
      obtain ⟨wd, hwd⟩ : ∃ wd, wr.drewN nq = wd := ⟨_, rfl⟩
      have inv := HINV.out.later ((Drawn.of wr nq).below _)
      rw [hwd] at inv ⊢
      clear hwd c0 c1 c2 c3 hcx hcy hcz
      have hlen : ∀ v, (dartsOf es v (xs.take k)).length ≤ 2 * ne := fun v => by
        have h1 := dartsOf_len es v (xs.take k)
        have h2 : (xs.take k).length ≤ k := List.length_take_le _ _
        omega
      obtain ⟨v1, hv1, ho1⟩ := inv.at_ hx64
      obtain ⟨A1, n1, d1, rfl, _⟩ := ho1.is
      obtain ⟨cnt, hm1, hcnt⟩ := inv.map
      have HV1 := Lib.hid hv1
      have HL := Lib.hid hlen
      have HL1 : Hid ((dartsOf es x (xs.take k)).length + 1 ≤ 1000000000000) := Lib.hid (by have := hlen x; omega)
      have hk1024 : k ≤ 1024 := by omega
      clear hv1 hlen
      go_wp2_with (first
        | (with_reducible show wpList _ _ _ (Oper.mk (some 34) _ _ _ _ _ :: _) _ _; go_must (refine wpList_look_aux rfl _ _ 91 25 rfl Try.underlying91 (zeroRow _) rfl hm1 x rfl hx64 _ HV1.out ?_))
        | (with_reducible show wpList _ _ _ (Oper.mk (some 38) _ _ _ _ _ :: _) _ _; go_must (refine wpList_append_one (v := .slice A1 n1 d1) (w0 := w1) rfl _ _ rfl rfl ho1 _ hq64 rfl HL1.out ?_; intro v2 w2 ho2 hg2 hb2; obtain ⟨A2, n2, d2, rfl, _⟩ := ho2.is; obtain ⟨cnt2, hm2, hcnt2⟩ := inv.mid hx64 HV1.out hg2; have hcnt2' : cnt2 < 1000000000000 := by omega))
        | (with_reducible show wpList _ _ _ (Oper.mk none (Op.mapUpdate _ (Operand.tmp 30) _ _) _ _ _ _ :: _) _ _; go_must (refine wpList_store rfl _ _ _ 91 25 rfl Try.underlying91 rfl hm2 hcnt2' x rfl hx64 _ rfl ?_; intro w3 hm3 hg3; have inv3 := inv.step hx64 HV1.out hg2 ho2 hb2 hm3 (by split <;> omega) hg3; clear hm1 hm2 hm3 ho1 ho2 hg2 hg3 inv; obtain ⟨v3, hv3, ho3⟩ := inv3.at_ hy64; obtain ⟨A3, n3, d3, rfl, _⟩ := ho3.is; obtain ⟨cnt3, hm4, hcnt3⟩ := inv3.map; have HV3 := Lib.hid hv3; have HL3 := Lib.hid (leave_len es x y (2 * (q : Int)) (xs.take k)); clear hv3))
        | (with_reducible show wpList _ _ _ (Oper.mk (some 43) _ _ _ _ _ :: _) _ _; go_must (refine wpList_look_aux rfl _ _ 91 25 rfl Try.underlying91 (zeroRow _) rfl hm4 y rfl hy64 _ HV3.out ?_))
        | (with_reducible show wpList _ _ _ (Oper.mk (some 48) _ _ _ _ _ :: _) _ _; go_must (refine wpList_append_one (v := .slice A3 n3 d3) (w0 := w1) rfl _ _ rfl rfl ho3 _ hr64 rfl (by have h9 := HL3.out; have h8 := hk1024; have h7 : (xs.take k).length ≤ k := List.length_take_le _ _; omega) ?_; intro v4 w4 ho4 hg4 hb4; obtain ⟨A4, n4, d4, rfl, _⟩ := ho4.is; obtain ⟨cnt4, hm5, hcnt4⟩ := inv3.mid hy64 HV3.out hg4; have hcnt4' : cnt4 < 1000000000000 := by omega))
        | (with_reducible show wpList _ _ _ (Oper.mk none (Op.mapUpdate _ (Operand.tmp 39) _ _) _ _ _ _ :: _) _ _; go_must (refine wpList_store rfl _ _ _ 91 25 rfl Try.underlying91 rfl hm5 hcnt4' y rfl hy64 _ rfl ?_; intro w5 hm6 hg5; have inv5 := inv3.step hy64 HV3.out hg4 ho4 hb4 hm6 (by split <;> omega) hg5; clear hm4 hm5 hm6 ho3 ho4 hg4 hg5 inv3)))
      go_roundw
      case rel =>
        have e := leave_step es (xs.take k) (q : Int)
        rw [hen.out, ← take_snoc hkl.out hz.out] at e
        dsimp only at e
        rw [e] at inv5
        exact ⟨k + 1, by omega, by go_num, _, inv5⟩
      case measure => simp [intOf]; omega
    · obtain rfl : k = ne := by omega
      have hdm := inv.dm
      rw [List.take_of_length_le (Nat.le_of_eq HLE.out)] at hdm
      have hbl := Lib.hid (bstep b1 inv.below)
      clear inv
      go_wp2
      go_ret
      exact ⟨mb, rfl, hdm, by have := HMB.out; have := b1.size; omega, hbl.out⟩

end Go.Proofs.Ythobfbnopkbniaa
end

section
namespace Go.Proofs.Ythobfbnopkbniaa
open Go.RowKit

/-- As DM, the rows below block B. -/
def DB (w : World) (B b : Nat) (D : Int → List Int) : Prop := b < B ∧ ∃ n F, MV w b n F ∧ ∀ k, I64 k → ∃ A m c, (F k).getD (.slice none 0 0) = .slice A m c ∧ IS w B A m c (D k)
theorem DM.db {w : World} {b : Nat} {D : Int → List Int} (h : DM w b D) : DB w w.heap.size b D := by
  obtain ⟨n, F, h1, h2⟩ := h
  exact ⟨h1.lt, n, F, h1, h2⟩
theorem DB.below {w w' : World} {B b : Nat} {D : Int → List Int} (h : DB w B b D) (hb : Below B w w') : DB w' B b D := by
  obtain ⟨h0, n, F, h1, h2⟩ := h
  exact ⟨h0, n, F, h1.below hb h0, fun k hk => by
    obtain ⟨A, m, c, e, hi⟩ := h2 k hk
    exact ⟨A, m, c, e, hi.below hb⟩⟩
section
variable {w : World} {B b : Nat} {D : Int → List Int} {ops : Array Oper} {rest : List Oper} {o : Oper} {a : Act} {Q : Exit → Act → World → Prop}
/-- 'm[k]' in such a map. -/
theorem wpList_dbrow (hg : o.guard = none) (m x : Operand) (hop : o.op = Op.lookup 91 m x false) (hm : a.eval m = .map (some b)) (h : DB w B b D) (k : Int) (hx : a.eval x = .int .i64 k) (hk : I64 k)
    (hK : ∀ A n c, IS w B A n c (D k) → wpList Try.prog ops Q rest (a.put o.dst (.slice A n c)) w) : wpList Try.prog ops Q (o :: rest) a w := by
  obtain ⟨_, n, F, h1, h2⟩ := h
  obtain ⟨A, m', c, e, hi⟩ := h2 k hk
  exact wpList_look_aux hg m x 91 25 hop Try.underlying91 (zeroRow w) hm h1 k hx hk _ e (hK A m' c hi)
/-- A map's literal is filled. -/
theorem wpList_iinsert {n : Nat} {g : Int → Option Int} (hg : o.guard = none) (m x v : Operand) (hop : o.op = Op.insert 52 m x v)
    (hm : a.eval m = .map (some b)) (h : MI w b n g) (hn : n < 1000000000000) (k : Int) (hx : a.eval x = .int .i64 k) (hk : I64 k) (u : Int) (hv : a.eval v = .int .i64 u)
    (hK : ∀ w', MI w' b (if (g k).isSome then n else n + 1) (upd g k u) → w.grownBy w' (some b) → wpList Try.prog ops Q rest (a.put o.dst undef) w') : wpList Try.prog ops Q (o :: rest) a w := by
  obtain ⟨w', hrun, h4, h5⟩ := MV.update h hn k hk (.int .i64 u) Try.underlying52
  refine wpList_plain hg fun K' hK' => ?_
  unfold Oper.wp
  simp only [execOp, hop, hm, hx, hv, Sem.run_bind, hrun, Result.andThen_ok, Sem.run_pure]
  refine hK' _ _ (hK w' ?_ h5)
  have e1 : (if ((g k).map (Value.int .i64)).isSome then n else n + 1) = if (g k).isSome then n else n + 1 := by cases g k <;> rfl
  rw [e1] at h4
  exact h4.congr fun j _ => by
    show ((upd g k u) j).map _ = upd _ k _ j
    unfold upd
    split <;> rfl
end
theorem run_makeMap_ints (w : World) : (Instr.makeMap 52 none).run Try.prog w = .ok (.map (some w.heap.size)) (w.alloc (.map #[] 0)) := by
  simp [Instr.makeMap]
theorem int_le_succ (x : Int) : x ≤ x + 1 := by omega
theorem rise_len {l : List Int} {n : Nat} (hp : l.Pairwise (· < ·)) (hr : ∀ x ∈ l, 0 ≤ x ∧ x < n) : l.length ≤ n := by
  have := nodup_len (a := l) (b := upto1 n) (sorted_nodup hp) fun x hx => mem_upto1.2 (hr x hx)
  rwa [upto1_len] at this
theorem POK.lens {N : Int} {es : List (Int × Int)} {vs xs : List Int} (hp : POK N es vs xs) : vs.length ≤ 1024 ∧ xs.length ≤ 1024 ∧ N ≤ 1024 := by
  have h1 := hp.size
  have h2 := hp.n0
  have h3 := rise_len hp.vp (n := N.toNat) fun x hx => by have := hp.vr x hx; omega
  have h4 := rise_len hp.xp hp.xr
  omega

/-- The loop over what has been met: gk: so many rounds, at most, are still to come. -/
def ROut (es : List (Int × Int)) (xs : List Int) (shut a : Int) (vs : List Int) (w wr : World) (mb qB qb gk : Nat) (v ok : Value) : Prop :=
  ∃ f ms p, RI es xs shut a vs f ms p ∧ MI wr mb ms.length f ∧ Below w.heap.size w wr ∧
    ((ok = .bool true ∧ ∃ z, v = .int .i64 z ∧ p < ms.length ∧ ms.getD p 0 = z ∧ QI wr qB qb (ms.drop (p + 1)) ∧ (∀ u ∈ ms, val f u ≤ val f z + 1) ∧ p + gk = vs.length + 1) ∨ (ok = .bool false ∧ v = .int .i64 0 ∧ p = ms.length))
/-- The loop over the darts of one. -/
def RIn (es : List (Int × Int)) (xs : List Int) (shut a : Int) (vs : List Int) (w wr : World) (mb qB qb p : Nat) (z : Int) (j : Nat) : Prop :=
  ∃ f ms, RI es xs shut a vs f ms p ∧ MI wr mb ms.length f ∧ Below w.heap.size w wr ∧ p < ms.length ∧ ms.getD p 0 = z ∧ QI wr qB qb (ms.drop (p + 1)) ∧ (∀ u ∈ ms, val f u ≤ val f z + 1) ∧ Onward es shut f z ((dartsOf es z xs).take j)

set_option maxHeartbeats 8000000 in
set_option maxRecDepth 100000 in
theorem reach_any (w : World) (N : Int) (A : Option Addr) (m c : Nat) (es : List (Int × Int)) (vs xs : List Int) (db : Nat) (a shut : Int) (hg : ES w w.heap.size A m c es) (hd : DM w db (fun v => dartsOf es v xs)) (hp : POK N es vs xs) (ha : a ∈ vs) :
    Calls Try.prog 67 #[.agg #[.int .i64 N, .slice A m c], .map (some db), .int .i64 a, .int .i64 shut] w fun e w' =>
      ∃ b f ms, e = .returned (.map (some b)) ∧ MI w' b ms.length f ∧ RI es xs shut a vs f ms ms.length ∧ w.heap.size ≤ b ∧ Below w.heap.size w w' := by
  obtain ⟨w1, hw1, b1, hs1, hcell⟩ := box_one w #[.int .i64 N, .slice A m c] 24
  have c0 : w1.cell? ⟨w.heap.size, 0, none⟩ = some (.int .i64 N) := hcell 0
  have c1 : w1.cell? ⟨w.heap.size, 1, none⟩ = some (.slice A m c) := hcell 1
  have hg1 := hg.step b1
  have hd1 := (hd.step b1).db
  obtain ⟨hvl, hxl, hNl⟩ := hp.lens
  have ha64 : I64 a := by have := hp.vr a ha; exact ⟨by omega, by omega⟩
  have HP := Lib.hid hp
  have HA := Lib.hid ha
  have hmm := run_makeMap_ints
  have hm0 := MI.made w1
  clear hg hd hp ha hcell
  go_enter Try.func67, Try.ntmps67
  go_wp2_with (with_reducible show wpList _ _ _ (Oper.mk none (Op.insert _ _ _ _) _ _ _ _ :: _) _ _; go_must (refine wpList_iinsert rfl _ _ _ rfl rfl hm0 (by omega) a rfl ha64 0 rfl ?_; intro w2 hm2 hg2))
  clear hmm hm0
  obtain ⟨mb, hmb⟩ : ∃ mb, w1.heap.size = mb := ⟨_, rfl⟩
  rw [hmb] at hm2 hg2 ⊢
  have b2 : Below w1.heap.size w1 w2 := ((Below.refl _ _).alloc (Nat.le_refl _) _).grown hg2 (by simp) (fun k hk => by cases hk; omega)
  have hml := hm2.lt
  have hm2' : MI w2 mb [a].length (upd (fun _ => none) a 0) := hm2
  refine (queue_any w2).mono ?_
  rintro e w3 ⟨rfl, hq3, b3⟩
  obtain ⟨qb, hqb⟩ : ∃ qb, w2.heap.size = qb := ⟨_, rfl⟩
  have hm3 := hm2'.below b3 hml
  rw [hqb] at hq3 b3 hml ⊢
  go_wp2_with fail
  refine (put_any w3 qb qb [] a hq3 ha64 (by simp)).mono ?_
  rintro e w4 ⟨rfl, hq4, b4⟩
  have hm4 := hm3.below b4 hml
  go_wp2_with fail
  refine (take_some w4 qb qb a [] hq4 (by simp)).mono ?_
  rintro e w5 ⟨rfl, hq5, b5⟩
  have hm5 := hm4.below b5 hml
  have hqw : w1.heap.size ≤ qb := by rw [← hqb]; exact b2.size
  have H5 : Below w1.heap.size w1 w5 := ((b2.trans (b3.mono hqw)).trans (b4.mono hqw)).trans (b5.mono hqw)
  have hst : ROut es xs shut a vs w1 w5 mb qb qb (vs.length + 1) (.int .i64 a) (.bool true) :=
    ⟨upd (fun _ => none) a 0, [a], 0, RI.start_ HA.out, hm5, H5, .inl ⟨rfl, a, rfl, by simp, rfl, hq5, fun u hu => by rw [List.mem_singleton.1 hu]; exact int_le_succ _, by omega⟩⟩
  have hmbw : w.heap.size ≤ mb := by rw [← hmb]; exact b1.size
  have hmb1 : w1.heap.size ≤ mb := by omega
  have HG := Lib.hid hg1
  have HD := Lib.hid hd1
  have HB1 := Lib.hid b1
  have k0 := Lib.hid c0
  have k1 := Lib.hid c1
  clear hq3 hq4 hq5 hm2 hm2' hm3 hm4 hm5 b2 b3 b4 b5 H5 hg2 hmb hqb hw1 hg1 hd1 b1 c0 c1
  go_wp2
  go_loopg [12, 13] (vs.length + 1) (fun gk v ok wr => ROut es xs shut a vs w1 wr mb qb qb gk v ok)
  case atStart => exact hst
  case round =>
    clear hst
    obtain ⟨f, ms, p, hri, hmi, hbel, hok⟩ := hrel
    rcases hok with ⟨rfl, z, rfl, hpl, hpz, hq, hbd, hgk⟩ | ⟨rfl, rfl, hpl⟩
    · have hzv := hri.sub z (by rw [← hpz, getD_idx hpl]; exact List.getElem_mem hpl)
      have hz64 : I64 z := by have := HP.out.vr z hzv; exact ⟨by omega, by omega⟩
      have hdb := HD.out.below hbel
      have hst : RIn es xs shut a vs w1 wr mb qb qb p z 0 := ⟨f, ms, hri, hmi, hbel, hpl, hpz, hq, hbd, by rw [List.take_zero]; intro d hd; cases hd⟩
      have HBE := Lib.hid hbel
      clear hri hmi hbel hq hbd hpz hpl
      go_wp2_with (with_reducible show wpList _ _ _ (Oper.mk (some 42) _ _ _ _ _ :: _) _ _; go_must (refine wpList_dbrow rfl _ _ rfl rfl hdb z rfl hz64 ?_; intro A3 n3 c3 is3))
      have hn3 := is3.le
      have hc3 := is3.cap
      have HL3 := Lib.hid is3.len
      have is1 : IS w1 w1.heap.size A3 n3 c3 (dartsOf es z xs) := is3.keep fun p hp => (HBE.out.cell hp).symm
      have HZ := Lib.hid hzv
      have HGK := Lib.hid hgk
      clear is3 hdb HBE hzv hgk
      obtain ⟨wo, hwo⟩ : ∃ wo : World, wo = wr := ⟨_, rfl⟩
      rw [← hwo] at hst ⊢
      clear hwo
      go_loopw [44] (fun i wi => ∃ j : Nat, j ≤ n3 ∧ i = .int .i64 j ∧ RIn es xs shut a vs w1 wi mb qb qb p z j) (fun i _ => n3 - (intOf i).toNat)
      case atStart => exact ⟨0, Nat.zero_le _, rfl, hst⟩
      case round =>
        clear hst
        obtain ⟨j, hj, rfl, f, ms, hri, hmi, hbel, hpl, hpz, hq, hbd, hon⟩ := hrel
        by_cases hlt : j < n3
        · obtain ⟨b', o', d, rfl, hb', hdz, hd64, hcd⟩ := (is1.below hbel).get hlt
          have hjl : Hid (j < (dartsOf es z xs).length) := Lib.hid (by rw [HL3.out]; exact hlt)
          have hdm := mem_dartsOf.1 (show d ∈ dartsOf es z xs by rw [← hdz.out, getD_idx hjl.out]; exact List.getElem_mem hjl.out)
          have hdr := HP.out.xr _ hdm.1
          have hgl := HG.out.len
          have hd0 : 0 ≤ d := by omega
          have hd1 : d < 2 * m := by omega
          have c0 := (hbel.cell (p := ⟨w.heap.size, 0, none⟩) hs1).trans k0.out
          have c1 := (hbel.cell (p := ⟨w.heap.size, 1, none⟩) hs1).trans k1.out
          have hgw : ES wr wr.heap.size A m c es := (HG.out.below hbel).more hbel.size
          have hhv := (head_in HP.out hdm.1).1
          have hh64 : I64 (head es d) := by have := HP.out.vr _ hhv; exact ⟨by omega, by omega⟩
          obtain ⟨u, hu⟩ : ∃ u, head es d = u := ⟨_, rfl⟩
          have HU := Lib.hid hu
          rw [hu] at hhv hh64
          have HIS := Lib.hid is1
          have HDM := Lib.hid hdm
          have HRI := Lib.hid hri
          have HON := Lib.hid hon
          have HBD := Lib.hid hbd
          have HPZ := Lib.hid hpz
          have HBE := Lib.hid hbel
          have htk : Hid ((dartsOf es z xs).take (j + 1) = (dartsOf es z xs).take j ++ [d]) := Lib.hid (take_getD hjl.out hdz.out)
          have hml' := hri.len
          clear is1 hdm hri hon hbd hpz hu hdr hgl hbel
          have tgt : Hid (Calls Try.prog 70 #[.agg #[.int .i64 N, .slice A m c], .int .i64 d] wr fun e w' => e = .returned (.int .i64 u) ∧ Below wr.heap.size wr w') := by
            have := target_any wr N A m c es d hgw hd0 hd1
            rw [HU.out] at this
            exact Lib.hid this
          go_wp2_with fail
          refine tgt.out.mono ?_
          rintro e w6 ⟨rfl, b6⟩
          have hm6 : MI w6 mb ms.length f := MV.step hmi b6
          have hq6 := hq.later b6
          have HB6 := Lib.hid (HBE.out.trans (b6.mono HBE.out.size))
          clear hmi hq b6 c0 c1 hgw tgt hcd
          cases hf : f u with
          | some k =>
            have HF := Lib.hid hf
            clear hf
            go_wp2_with (with_reducible show wpList _ _ _ (Oper.mk (some 54) _ _ _ _ _ :: _) _ _; go_must (refine wpList_iok_some (g := f) (k := u) rfl _ _ rfl rfl hm6 rfl hh64 k HF.out ?_))
            go_roundw
            case rel =>
              refine ⟨j + 1, by omega, by go_num, f, ms, HRI.out, hm6, HB6.out, hpl, HPZ.out, hq6, HBD.out, ?_⟩
              rw [htk.out]
              refine HON.out.snoc fun _ => ?_
              rw [HU.out]
              have hum : u ∈ ms := (HRI.out.mem u).2 (by rw [HF.out]; rfl)
              exact ⟨k, HF.out, by have := HBD.out u hum; rw [val_of HF.out] at this; exact this⟩
            case measure => simp [intOf]; omega
          | none =>
            have HF := Lib.hid hf
            clear hf
            by_cases hus : u = shut
            · have hub : (u == shut) = true := by simp [hus]
              have HUS := Lib.hid hus
              clear hus
              go_wp2_with (with_reducible show wpList _ _ _ (Oper.mk (some 54) _ _ _ _ _ :: _) _ _; go_must (refine wpList_iok_none (g := f) (k := u) rfl _ _ rfl rfl hm6 rfl hh64 HF.out ?_))
              go_roundw
              case rel =>
                refine ⟨j + 1, by omega, by go_num, f, ms, HRI.out, hm6, HB6.out, hpl, HPZ.out, hq6, HBD.out, ?_⟩
                rw [htk.out]
                exact HON.out.snoc fun hne => absurd (HU.out.trans HUS.out) hne
              case measure => simp [intOf]; omega
            · have hub : (u == shut) = false := by simp [hus]
              have HUS := Lib.hid hus
              clear hus
              have hzm : z ∈ ms := by rw [← HPZ.out, getD_idx hpl]; exact List.getElem_mem hpl
              have hsm := HRI.out.small z hzm
              have hvn : 0 ≤ val f z := by
                obtain ⟨n', e', _⟩ := HRI.out.way z _ (HRI.out.some_ hzm)
                omega
              obtain ⟨q, hqv⟩ : ∃ q, val f z = q := ⟨_, rfl⟩
              rw [hqv] at hsm hvn
              have HQV := Lib.hid hqv
              have HZM := Lib.hid hzm
              have hFZ : Hid ((f z).getD 0 = q) := Lib.hid hqv
              have hql : q < 1025 := by omega
              have hmn : ms.length < 1000000000000 := by omega
              clear hqv hzm hsm
              go_wp2_with (first
                | (with_reducible show wpList _ _ _ (Oper.mk (some 54) _ _ _ _ _ :: _) _ _; go_must (refine wpList_iok_none (g := f) (k := u) rfl _ _ rfl rfl hm6 rfl hh64 HF.out ?_))
                | (with_reducible show wpList _ _ _ (Oper.mk (some 67) _ _ _ _ _ :: _) _ _; go_must (refine wpList_ilook (g := f) (k := z) rfl _ _ rfl rfl hm6 rfl hz64 q hFZ.out ?_))
                | (with_reducible show wpList _ _ _ (Oper.mk none (Op.mapUpdate _ _ _ _) _ _ _ _ :: _) _ _; go_must (refine wpList_istore (g := f) rfl _ _ _ rfl rfl hm6 hmn u rfl hh64 (q + 1) rfl ?_; intro w7 hm7 hg7)))
              have hq7 := hq6.grown hg7 (.inl hml)
              have hlw := HB6.out.size
              have hlm := hm6.lt
              refine (put_any w7 qb qb (ms.drop (p + 1)) u hq7 hh64 (by rw [List.length_drop]; omega)).mono ?_
              rintro e w8 ⟨rfl, hq8, b8⟩
              have hm8 : MI w8 mb (ms ++ [u]).length (upd f u (q + 1)) := by
                have h1 : (if (f u).isSome then ms.length else ms.length + 1) = (ms ++ [u]).length := by rw [HF.out]; simp
                rw [h1] at hm7
                exact MV.below hm7 b8 hml
              have HB8 : Hid (Below w1.heap.size w1 w8) := Lib.hid ((HB6.out.grown hg7 HB6.out.size (fun k hk => by cases hk; exact hmb1)).trans (b8.mono hqw))
              clear hm6 hm7 hq6 hq7 hg7 b8
              go_wp2
              go_roundw
              case rel =>
                obtain ⟨hri', hval⟩ := HRI.out.meet (Nat.le_of_lt hpl) HZM.out (mem_dartsOf.2 HDM.out) (by rw [HU.out]; exact HUS.out) (by rw [HU.out]; exact HF.out) HBD.out (by rw [HU.out]; exact hhv)
                rw [HU.out, HQV.out] at hri' hval
                have hvz : val (upd f u (q + 1)) z = q := (hval z HZM.out).trans HQV.out
                refine ⟨j + 1, by omega, by go_num, _, ms ++ [u], hri', hm8, HB8.out, by rw [List.length_append]; omega, ?_, ?_, ?_, ?_⟩
                · rw [List.getD_eq_getElem?_getD, List.getElem?_append_left hpl, ← List.getD_eq_getElem?_getD]; exact HPZ.out
                · rw [List.drop_append_of_le_length (by omega)]; exact hq8
                · intro x hx
                  rw [hvz]
                  rcases List.mem_append.1 hx with hx | hx
                  · rw [hval x hx]
                    have := HBD.out x hx
                    rw [HQV.out] at this
                    exact this
                  · rw [List.mem_singleton.1 hx]
                    unfold val upd
                    rw [if_pos rfl]
                    exact Int.le_refl _
                · rw [htk.out]
                  refine (HON.out.upd_ HF.out (hvz.trans HQV.out.symm)).snoc fun _ => ?_
                  rw [HU.out, hvz]
                  exact ⟨q + 1, by unfold upd; rw [if_pos rfl], Int.le_refl _⟩
              case measure => simp [intOf]; omega
        · obtain rfl : j = n3 := by omega
          rw [List.take_of_length_le (Nat.le_of_eq HL3.out)] at hon
          have hri1 := hri.next hpl hpz hon
          have hml' := hri.len
          have HGK' := HGK.out
          by_cases hlast : p + 1 < ms.length
          · have hbd1 := hri.bound hbd hpl hpz hlast
            obtain ⟨z', hz'⟩ : ∃ z', ms.getD (p + 1) 0 = z' := ⟨_, rfl⟩
            rw [drop_getD hlast hz'] at hq
            rw [hz'] at hbd1
            have HRI := Lib.hid hri1
            have HBD := Lib.hid hbd1
            have HZ' := Lib.hid hz'
            clear hri hri1 hbd hbd1 hpz hon hz'
            go_wp2_with fail
            refine (take_some wr qb qb z' (ms.drop (p + 1 + 1)) hq (by rw [List.length_drop]; omega)).mono ?_
            rintro e w6 ⟨rfl, hq6, b6⟩
            have hm6 : MI w6 mb ms.length f := MV.below hmi b6 hml
            have HB6 := Lib.hid (hbel.trans (b6.mono hqw))
            clear hmi hbel b6 hq
            go_wp2
            go_roundg (gk - 1)
            case measure => omega
            case rel => exact ⟨f, ms, p + 1, HRI.out, hm6, HB6.out, .inl ⟨rfl, z', rfl, hlast, HZ'.out, hq6, HBD.out, by omega⟩⟩
          · have hpe : p + 1 = ms.length := by omega
            rw [List.drop_eq_nil_of_le (by omega)] at hq
            have HRI := Lib.hid hri1
            have HPE := Lib.hid hpe
            clear hri hri1 hbd hpz hon hpe hlast
            go_wp2_with fail
            refine (take_none wr qb qb hq).mono ?_
            rintro e w6 ⟨rfl, rfl⟩
            go_wp2
            go_roundg (gk - 1)
            case measure => omega
            case rel => exact ⟨f, ms, p + 1, HRI.out, hmi, hbel, .inr ⟨rfl, rfl, HPE.out⟩⟩
    · subst hpl
      have HR := Lib.hid hri
      have HM := Lib.hid hmi
      have HBE := Lib.hid hbel
      clear hri hmi hbel
      go_wp2
      go_ret
      exact ⟨mb, f, ms, rfl, HM.out, HR.out, hmbw, bstep HB1.out HBE.out⟩
end Go.Proofs.Ythobfbnopkbniaa
end

section
namespace Go.Proofs.Ythobfbnopkbniaa
open Go.RowKit

/-- What Far answers. -/
def FarRes (w : World) (N : Int) (es : List (Int × Int)) (vs xs : List Int) (a : Int) (e : Ending) (w' : World) : Prop :=
  ((pRight N es vs xs = 0 ∧ a ∈ vs ∧ ∃ b f ms, e = .returned (.map (some b)) ∧ MI w' b ms.length f ∧ RI es xs (-1) a vs f ms ms.length) ∨ (¬ (pRight N es vs xs = 0 ∧ a ∈ vs) ∧ e = .returned (.map none))) ∧ Below w.heap.size w w'

set_option maxHeartbeats 4000000 in
set_option maxRecDepth 100000 in
theorem far_any (w : World) (N : Int) (A : Option Addr) (m c : Nat) (es : List (Int × Int)) (Av : Option Addr) (nv cv : Nat) (vs : List Int) (Ae : Option Addr) (ne ce : Nat) (xs : List Int) (a : Int) (h : GP w N A m c es Av nv cv vs Ae ne ce xs) :
    Calls Try.prog 36 #[.agg #[.int .i64 N, .slice A m c], .agg #[.slice Av nv cv, .slice Ae ne ce], .int .i64 a] w (FarRes w N es vs xs a) := by
  obtain ⟨w1, hw1, b1, gb1⟩ := box_gp w N A m c es Av nv cv Ae ne ce
  have h1 := h.step b1
  clear h
  obtain ⟨r, hr⟩ : ∃ r, pRight N es vs xs = r := ⟨_, rfl⟩
  have HR := Lib.hid hr
  by_cases hr0 : r = 0
  · subst hr0
    have hp := Lib.hid (pRight_ok hr)
    clear hr
    go_enter Try.func36, Try.ntmps36
    have ⟨_, _, c0, c1, c2, c3, _⟩ := gb1
    go_wp2_with fail
    refine (gRightPart_any w1 N A m c es Av nv cv vs Ae ne ce xs h1).mono ?_
    rintro e w2 ⟨rfl, b2⟩
    rw [HR.out]
    have h2 := h1.step b2
    have gb2 := gb1.step b2
    replace b1 := bstep b1 b2
    clear hw1 h1 c0 c1 c2 c3 gb1 b2
    have ⟨hg2, hp2, c0, c1, c2, c3, _⟩ := gb2
    have hnv : nv ≤ 1000000 := by have := hp.out.lens.1; have := h2.v.len; omega
    have hce := h2.e.cap
    by_cases ha : a ∈ vs
    · have HA := Lib.hid ha
      have HD := Lib.hid (decide_eq_true ha)
      clear ha
      go_wp2_with fail
      refine (has_any w2 _ Av nv cv vs a h2.v hnv hp.out.vp).mono ?_
      rintro e w3 ⟨rfl, rfl⟩
      rw [HD.out]
      go_wp2
      have H2 := Lib.hid h2
      have B1 := Lib.hid b1
      clear h2 b1
      refine wp_region_rel 6 [[],[],[],[1,2],[],[0,1,2,3,4]]
        [fun v _ => v = .agg #[.int .i64 N, .slice A m c],
         fun v _ => v = .agg #[.int .i64 N, .slice A m c],
         fun v _ => v = .agg #[.slice Av nv cv, .slice Ae ne ce],
         fun v w' => ∃ b, v = .map (some b) ∧ DM w' b (fun v => dartsOf es v xs),
         fun v _ => v = .int .i64 a,
         fun v w' => ∃ b f ms, v = .map (some b) ∧ MI w' b ms.length f ∧ RI es xs (-1) a vs f ms ms.length]
        (by kernel_rfl) (by kernel_rfl) rfl ⟨?_, ?_, ?_, ?_, ?_, ?_, trivial⟩ ?_
      · intro wr hx v0 h0 v1 h1 v2 h2 v3 h3 v4 h4 v5 h5 K hK
        have ⟨_, _, q0, q1, q2, q3, _⟩ := gb2.step hx
        simp only [Act.put, List.setIfInBounds_toArray, List.set_cons_zero, List.set_cons_succ] at hK ⊢
        clear h0 h1 h2 h3 h4 h5
        go_wp2
        exact hK _ _ (Ext.refl _) (fun _ _ => rfl)
      · intro wr hx v0 h0 v1 h1 v2 h2 v3 h3 v4 h4 v5 h5 K hK
        have ⟨_, _, q0, q1, q2, q3, _⟩ := gb2.step hx
        simp only [Act.put, List.setIfInBounds_toArray, List.set_cons_zero, List.set_cons_succ] at hK ⊢
        clear h0 h1 h2 h3 h4 h5
        go_wp2
        exact hK _ _ (Ext.refl _) (fun _ _ => rfl)
      · intro wr hx v0 h0 v1 h1 v2 h2 v3 h3 v4 h4 v5 h5 K hK
        have ⟨_, _, q0, q1, q2, q3, _⟩ := gb2.step hx
        simp only [Act.put, List.setIfInBounds_toArray, List.set_cons_zero, List.set_cons_succ] at hK ⊢
        clear h0 h1 h2 h3 h4 h5
        go_wp2
        exact hK _ _ (Ext.refl _) (fun _ _ => rfl)
      · intro wr hx v0 h0 v1 h1 v2 h2 v3 h3 v4 h4 v5 h5 K hK
        have ⟨_, _, q0, q1, q2, q3, _⟩ := gb2.step hx
        simp only [Act.put, List.setIfInBounds_toArray, List.set_cons_zero, List.set_cons_succ] at hK ⊢
        obtain rfl := (h1 (by decide)).now
        obtain rfl := (h2 (by decide)).now
        clear h0 h1 h2 h3 h4 h5
        go_wp2_with fail
        refine (leaving_any wr N A m c es Av nv cv vs Ae ne ce xs (H2.out.step hx) hp.out).mono ?_
        rintro e w' ⟨b, rfl, hdm, _, hb⟩
        go_wp2
        exact hK _ _ hb (fun w'' hx' => ⟨_, rfl, hdm.step hx'⟩)
      · intro wr hx v0 h0 v1 h1 v2 h2 v3 h3 v4 h4 v5 h5 K hK
        have ⟨_, _, q0, q1, q2, q3, _⟩ := gb2.step hx
        simp only [Act.put, List.setIfInBounds_toArray, List.set_cons_zero, List.set_cons_succ] at hK ⊢
        clear h0 h1 h2 h3 h4 h5
        go_wp2
        exact hK _ _ (Ext.refl _) (fun _ _ => rfl)
      · intro wr hx v0 h0 v1 h1 v2 h2 v3 h3 v4 h4 v5 h5 K hK
        have ⟨_, _, q0, q1, q2, q3, _⟩ := gb2.step hx
        simp only [Act.put, List.setIfInBounds_toArray, List.set_cons_zero, List.set_cons_succ] at hK ⊢
        obtain rfl := (h0 (by decide)).now
        obtain ⟨b3, rfl, hdm⟩ := (h3 (by decide)).now
        obtain rfl := (h4 (by decide)).now
        clear h0 h1 h2 h3 h4 h5
        go_wp2_with fail
        refine (reach_any wr N A m c es vs xs b3 a (-1) (H2.out.step hx).g hdm hp.out HA.out).mono ?_
        rintro e w' ⟨b, f, ms, rfl, hmi, hri, _, hb⟩
        go_wp2
        exact hK _ _ hb (fun w'' hx' => ⟨_, _, _, rfl, MV.step hmi hx', hri⟩)
      intro wr hx v0 h0 v1 h1 v2 h2 v3 h3 v4 h4 v5 h5
      have ⟨_, _, q0, q1, q2, q3, _⟩ := gb2.step hx
      obtain ⟨b, f, ms, rfl, hmi, hri⟩ := h5.now
      clear h0 h1 h2 h3 h4 h5
      refine tail_quiet (by kernel_rfl) ?_
      simp only [List.drop_succ_cons, List.drop_zero, Act.put, List.setIfInBounds_toArray, List.set_cons_zero, List.set_cons_succ]
      repeat (go_big_quiet_step (fail))
      refine wpQuiet_nil ?_
      have HMI := Lib.hid hmi
      have HRI := Lib.hid hri
      have HX := Lib.hid hx
      clear hmi hri hx q0 q1 q2 q3 c0 c1 c2 c3
      go_wp2
      go_ret
      exact ⟨.inl ⟨HR.out, HA.out, b, f, ms, rfl, HMI.out, HRI.out⟩, bstep B1.out HX.out⟩
    · have HA := Lib.hid ha
      have HD := Lib.hid (decide_eq_false ha)
      clear ha
      go_wp2_with fail
      refine (has_any w2 _ Av nv cv vs a h2.v hnv hp.out.vp).mono ?_
      rintro e w3 ⟨rfl, rfl⟩
      rw [HD.out]
      go_wp2
      go_ret
      exact ⟨.inr ⟨fun hh => HA.out hh.2, rfl⟩, b1⟩
  · have hrb : (r != 0) = true := by simp [hr0]
    have HR0 := Lib.hid hr0
    clear hr0 hr
    go_enter Try.func36, Try.ntmps36
    have ⟨_, _, c0, c1, c2, c3, _⟩ := gb1
    go_wp2_with fail
    refine (gRightPart_any w1 N A m c es Av nv cv vs Ae ne ce xs h1).mono ?_
    rintro e w2 ⟨rfl, b2⟩
    rw [HR.out]
    go_wp2
    go_ret
    exact ⟨.inr ⟨fun hh => HR0.out (HR.out.symm.trans hh.1), rfl⟩, bstep b1 b2⟩
end Go.Proofs.Ythobfbnopkbniaa
end

section
namespace Go.Proofs.Ythobfbnopkbniaa
open Go.RowKit

theorem results_cell_row2 {P : Program} {fn : Func} {p u : Tmp} {ty : TypeId} (h : fn.results = #[.cell p ty, .tmp u]) (tmps : Array Value) (w : World) (g : Nat) (t : TypeId) (cs : Array Value) (fr : Nat × Nat) (d : TypeDesc)
    (hp : tmps.getD p undef = .pointer (some ⟨g, 0, none⟩)) (hg : w.heap[g]? = some (.cells cs t fr))
    (hu : P.underlying ty = some d) (hd : (match d with | .struct _ | .array _ _ => true | _ => false) = true) (hi : (P.info? ty).map (·.size) = some cs.size) {b : Value} (hb : tmps.getD u undef = b) :
    (results fn tmps).run P w = .ok (.tuple #[.agg cs, b]) w := by
  have hp' : tmps[p]?.getD undef = .pointer (some ⟨g, 0, none⟩) := by simpa using hp
  have hb' : tmps[u]?.getD undef = b := by simpa using hb
  simp [results, h, hp', hb', asAddr, run_loadVar_row w g t ty cs fr d hg hu hd hi]

/-- When there is something beyond. -/
def BeyC (N : Int) (es : List (Int × Int)) (vs xs : List Int) (v d : Int) : Prop := pRight N es vs xs = 0 ∧ 0 ≤ d ∧ d / 2 ∈ xs ∧ tail es d = v
/-- What is beyond. -/
def BeyIs (es : List (Int × Int)) (vs xs : List Int) (v d : Int) (ys zs : List Int) : Prop :=
  (head es d = v ∧ ys = [v] ∧ zs = [d / 2]) ∨ (head es d ≠ v ∧ ∃ f ms, RI es xs v (head es d) vs f ms ms.length ∧ ys = vs.filter (fun x => (f x).isSome || x == v) ∧ zs = xs.filter (fun e => (f (ends es e).1).isSome || (f (ends es e).2).isSome))
def BeyRes (w : World) (es : List (Int × Int)) (vs xs : List Int) (v d : Int) (e : Ending) (w' : World) : Prop :=
  (∃ A1 n1 c1 A2 n2 c2 ys zs, e = .returned (.tuple #[.agg #[.slice A1 n1 c1, .slice A2 n2 c2], .bool true]) ∧ IS w' w'.heap.size A1 n1 c1 ys ∧ IS w' w'.heap.size A2 n2 c2 zs ∧ BeyIs es vs xs v d ys zs) ∧ Below w.heap.size w w'
theorem beyRes_mk {w w' : World} {es : List (Int × Int)} {vs xs : List Int} {v d : Int} {A1 A2 : Option Addr} {n1 c1 n2 c2 : Nat} {ys zs : List Int} (h1 : IS w' w'.heap.size A1 n1 c1 ys) (h2 : IS w' w'.heap.size A2 n2 c2 zs) (h : BeyIs es vs xs v d ys zs) (hb : Below w.heap.size w w') :
    BeyRes w es vs xs v d (.returned (.tuple #[.agg #[.slice A1 n1 c1, .slice A2 n2 c2], .bool true])) w' := ⟨⟨_, _, _, _, _, _, _, _, rfl, h1, h2, h⟩, hb⟩

set_option maxHeartbeats 8000000 in
set_option maxRecDepth 100000 in
theorem beyond_no (w : World) (N : Int) (A : Option Addr) (m c : Nat) (es : List (Int × Int)) (Av : Option Addr) (nv cv : Nat) (vs : List Int) (Ae : Option Addr) (ne ce : Nat) (xs : List Int) (v d : Int) (h : GP w N A m c es Av nv cv vs Ae ne ce xs) (hd : I64 d) (hno : ¬ BeyC N es vs xs v d) :
    Calls Try.prog 44 #[.agg #[.int .i64 N, .slice A m c], .agg #[.slice Av nv cv, .slice Ae ne ce], .int .i64 v, .int .i64 d] w fun e w' => e = .returned (.tuple #[.agg #[.slice none 0 0, .slice none 0 0], .bool false]) ∧ Below w.heap.size w w' := by
  obtain ⟨r, hr⟩ : ∃ r, pRight N es vs xs = r := ⟨_, rfl⟩
  have HR := Lib.hid hr
  have HNO := Lib.hid hno
  by_cases hr0 : r = 0
  · subst hr0
    have hp := Lib.hid (pRight_ok hr)
    clear hr hno
    by_cases hneg : d < 0
    ·
      obtain ⟨w1, hw1, b1, gb1⟩ := box_gp w N A m c es Av nv cv Ae ne ce
      obtain ⟨wa, hwa, ba, sa, hca⟩ := box_one w1 #[.slice none 0 0, .slice none 0 0] 27
      have hra : wa.heap[w1.heap.size]? = some (.cells #[.slice none 0 0, .slice none 0 0] 27 (0, 0)) := by rw [← hwa]; exact heap_alloc_new _ _
      have h1 := (h.step b1).step ba
      have gba := gb1.step ba
      have B1 := bstep b1 ba
      have hsw : w.heap.size ≤ w1.heap.size := b1.size
      clear h b1 gb1 ba hca sa
      go_enter Try.func44, Try.ntmps44
      have ⟨_, _, c0, c1, c2, c3, _⟩ := gba
      go_wp2_with fail
      refine (gRightPart_any wa N A m c es Av nv cv vs Ae ne ce xs h1).mono ?_
      rintro e w2 ⟨rfl, b2⟩
      rw [HR.out]
      have h2 := h1.step b2
      have gb2 := gba.step b2
      have B2 := bstep B1 b2
      have hr2 := (b2.block _ (Array.getElem?_eq_some_iff.1 hra).1).trans hra
      clear hw1 hwa h1 c0 c1 c2 c3 gba b2 B1 hra
      have ⟨hg2, hp2, c0, c1, c2, c3, _⟩ := gb2
      have z0 : w2.cell? ⟨w1.heap.size, 0, none⟩ = some (.slice none 0 0) := cell_of_row w2 _ 0 _ _ _ hr2
      have z1 : w2.cell? ⟨w1.heap.size, 1, none⟩ = some (.slice none 0 0) := cell_of_row w2 _ 1 _ _ _ hr2
      have f0 : w2.frozen? ⟨w1.heap.size, 0, none⟩ = false := frozen_of_row hr2
      have f1 : w2.frozen? ⟨w1.heap.size, 1, none⟩ = false := frozen_of_row hr2
      go_wp2
      have hbx : ((w2.setCell ⟨w1.heap.size, 0, none⟩ (.slice none 0 0)).setCell ⟨w1.heap.size, 1, none⟩ (.slice none 0 0)).heap[w1.heap.size]? = some (.cells #[.slice none 0 0, .slice none 0 0] 27 (0, 0)) := by
        simp [World.setCell, Array.getElem?_modify, hr2]
      try simp only [Exit.inBlock, Exit.then]
      refine bodyPost_ret (results_cell_row2 (P := Try.prog) (b := .bool false) rfl _ _ (w1.heap.size) 27 #[.slice none 0 0, .slice none 0 0] (0, 0) _ rfl hbx Try.underlying27 rfl (by kernel_rfl) rfl) rfl ?_
      exact ⟨rfl, (B2.setCell hsw _).setCell hsw _⟩
    · have hd0 : 0 ≤ d := by omega
      have hd1 := hd.2
      by_cases hdx : d / 2 ∈ xs
      · have HD := Lib.hid (decide_eq_true hdx)
        have hdr := hp.out.xr _ hdx
        have htl : tail es d ≠ v := fun e => HNO.out ⟨HR.out, hd0, hdx, e⟩
        have hxl := hp.out.lens.2.1
        have ht1 : ((tail es d) != v) = true := by simp [htl]
        have hb1 := bits_xor_one hd
        have htw0 : 0 ≤ twin d := by unfold twin; split <;> omega
        have htw1 : twin d < 2 * es.length := by unfold twin; split <;> omega
        have HTW0 := Lib.hid htw0
        have HTW1 := Lib.hid htw1
        clear htw0 htw1 hdx hdr htl
        obtain ⟨w1, hw1, b1, gb1⟩ := box_gp w N A m c es Av nv cv Ae ne ce
        obtain ⟨wa, hwa, ba, sa, hca⟩ := box_one w1 #[.slice none 0 0, .slice none 0 0] 27
        have hra : wa.heap[w1.heap.size]? = some (.cells #[.slice none 0 0, .slice none 0 0] 27 (0, 0)) := by rw [← hwa]; exact heap_alloc_new _ _
        have h1 := (h.step b1).step ba
        have gba := gb1.step ba
        have B1 := bstep b1 ba
        have hsw : w.heap.size ≤ w1.heap.size := b1.size
        clear h b1 gb1 ba hca sa
        go_enter Try.func44, Try.ntmps44
        have ⟨_, _, c0, c1, c2, c3, _⟩ := gba
        go_wp2_with fail
        refine (gRightPart_any wa N A m c es Av nv cv vs Ae ne ce xs h1).mono ?_
        rintro e w2 ⟨rfl, b2⟩
        rw [HR.out]
        have h2 := h1.step b2
        have gb2 := gba.step b2
        have B2 := bstep B1 b2
        have hr2 := (b2.block _ (Array.getElem?_eq_some_iff.1 hra).1).trans hra
        clear hw1 hwa h1 c0 c1 c2 c3 gba b2 B1 hra
        have ⟨hg2, hp2, c0, c1, c2, c3, _⟩ := gb2
        have z0 : w2.cell? ⟨w1.heap.size, 0, none⟩ = some (.slice none 0 0) := cell_of_row w2 _ 0 _ _ _ hr2
        have z1 : w2.cell? ⟨w1.heap.size, 1, none⟩ = some (.slice none 0 0) := cell_of_row w2 _ 1 _ _ _ hr2
        have f0 : w2.frozen? ⟨w1.heap.size, 0, none⟩ = false := frozen_of_row hr2
        have f1 : w2.frozen? ⟨w1.heap.size, 1, none⟩ = false := frozen_of_row hr2
        have hnx : ne ≤ 1000000 := by have := h2.e.len; omega
        go_wp2_with fail
        refine (has_any w2 _ Ae ne ce xs (d / 2) h2.e hnx hp.out.xp).mono ?_
        rintro e w3 ⟨rfl, rfl⟩
        rw [HD.out]
        have hgl := h2.g.len
        go_wp2_with fail
        refine (target_any w2 N A m c es (twin d) h2.g HTW0.out (by have := HTW1.out; omega)).mono ?_
        rintro e w3 ⟨rfl, b3⟩
        rw [head_twin]
        have hr3 := (b3.block _ (Array.getElem?_eq_some_iff.1 hr2).1).trans hr2
        have y0 : w3.cell? ⟨w1.heap.size, 0, none⟩ = some (.slice none 0 0) := cell_of_row w3 _ 0 _ _ _ hr3
        have y1 : w3.cell? ⟨w1.heap.size, 1, none⟩ = some (.slice none 0 0) := cell_of_row w3 _ 1 _ _ _ hr3
        have g0 : w3.frozen? ⟨w1.heap.size, 0, none⟩ = false := frozen_of_row hr3
        have g1 : w3.frozen? ⟨w1.heap.size, 1, none⟩ = false := frozen_of_row hr3
        have B3 := bstep B2 b3
        clear z0 z1 f0 f1 c0 c1 c2 c3 hr2 b3 B2
        go_wp2
        have hbx : ((w3.setCell ⟨w1.heap.size, 0, none⟩ (.slice none 0 0)).setCell ⟨w1.heap.size, 1, none⟩ (.slice none 0 0)).heap[w1.heap.size]? = some (.cells #[.slice none 0 0, .slice none 0 0] 27 (0, 0)) := by
          simp [World.setCell, Array.getElem?_modify, hr3]
        try simp only [Exit.inBlock, Exit.then]
        refine bodyPost_ret (results_cell_row2 (P := Try.prog) (b := .bool false) rfl _ _ (w1.heap.size) 27 #[.slice none 0 0, .slice none 0 0] (0, 0) _ rfl hbx Try.underlying27 rfl (by kernel_rfl) rfl) rfl ?_
        exact ⟨rfl, (B3.setCell hsw _).setCell hsw _⟩
      · have HD := Lib.hid (decide_eq_false hdx)
        have hxl := hp.out.lens.2.1
        clear hdx
        obtain ⟨w1, hw1, b1, gb1⟩ := box_gp w N A m c es Av nv cv Ae ne ce
        obtain ⟨wa, hwa, ba, sa, hca⟩ := box_one w1 #[.slice none 0 0, .slice none 0 0] 27
        have hra : wa.heap[w1.heap.size]? = some (.cells #[.slice none 0 0, .slice none 0 0] 27 (0, 0)) := by rw [← hwa]; exact heap_alloc_new _ _
        have h1 := (h.step b1).step ba
        have gba := gb1.step ba
        have B1 := bstep b1 ba
        have hsw : w.heap.size ≤ w1.heap.size := b1.size
        clear h b1 gb1 ba hca sa
        go_enter Try.func44, Try.ntmps44
        have ⟨_, _, c0, c1, c2, c3, _⟩ := gba
        go_wp2_with fail
        refine (gRightPart_any wa N A m c es Av nv cv vs Ae ne ce xs h1).mono ?_
        rintro e w2 ⟨rfl, b2⟩
        rw [HR.out]
        have h2 := h1.step b2
        have gb2 := gba.step b2
        have B2 := bstep B1 b2
        have hr2 := (b2.block _ (Array.getElem?_eq_some_iff.1 hra).1).trans hra
        clear hw1 hwa h1 c0 c1 c2 c3 gba b2 B1 hra
        have ⟨hg2, hp2, c0, c1, c2, c3, _⟩ := gb2
        have z0 : w2.cell? ⟨w1.heap.size, 0, none⟩ = some (.slice none 0 0) := cell_of_row w2 _ 0 _ _ _ hr2
        have z1 : w2.cell? ⟨w1.heap.size, 1, none⟩ = some (.slice none 0 0) := cell_of_row w2 _ 1 _ _ _ hr2
        have f0 : w2.frozen? ⟨w1.heap.size, 0, none⟩ = false := frozen_of_row hr2
        have f1 : w2.frozen? ⟨w1.heap.size, 1, none⟩ = false := frozen_of_row hr2
        have hnx : ne ≤ 1000000 := by have := h2.e.len; omega
        go_wp2_with fail
        refine (has_any w2 _ Ae ne ce xs (d / 2) h2.e hnx hp.out.xp).mono ?_
        rintro e w3 ⟨rfl, rfl⟩
        rw [HD.out]
        go_wp2
        have hbx : ((w2.setCell ⟨w1.heap.size, 0, none⟩ (.slice none 0 0)).setCell ⟨w1.heap.size, 1, none⟩ (.slice none 0 0)).heap[w1.heap.size]? = some (.cells #[.slice none 0 0, .slice none 0 0] 27 (0, 0)) := by
          simp [World.setCell, Array.getElem?_modify, hr2]
        try simp only [Exit.inBlock, Exit.then]
        refine bodyPost_ret (results_cell_row2 (P := Try.prog) (b := .bool false) rfl _ _ (w1.heap.size) 27 #[.slice none 0 0, .slice none 0 0] (0, 0) _ rfl hbx Try.underlying27 rfl (by kernel_rfl) rfl) rfl ?_
        exact ⟨rfl, (B2.setCell hsw _).setCell hsw _⟩
  · have hrb : (r != 0) = true := by simp [hr0]
    clear hr0 hr hno
    obtain ⟨w1, hw1, b1, gb1⟩ := box_gp w N A m c es Av nv cv Ae ne ce
    obtain ⟨wa, hwa, ba, sa, hca⟩ := box_one w1 #[.slice none 0 0, .slice none 0 0] 27
    have hra : wa.heap[w1.heap.size]? = some (.cells #[.slice none 0 0, .slice none 0 0] 27 (0, 0)) := by rw [← hwa]; exact heap_alloc_new _ _
    have h1 := (h.step b1).step ba
    have gba := gb1.step ba
    have B1 := bstep b1 ba
    have hsw : w.heap.size ≤ w1.heap.size := b1.size
    clear h b1 gb1 ba hca sa
    go_enter Try.func44, Try.ntmps44
    have ⟨_, _, c0, c1, c2, c3, _⟩ := gba
    go_wp2_with fail
    refine (gRightPart_any wa N A m c es Av nv cv vs Ae ne ce xs h1).mono ?_
    rintro e w2 ⟨rfl, b2⟩
    rw [HR.out]
    have h2 := h1.step b2
    have gb2 := gba.step b2
    have B2 := bstep B1 b2
    have hr2 := (b2.block _ (Array.getElem?_eq_some_iff.1 hra).1).trans hra
    clear hw1 hwa h1 c0 c1 c2 c3 gba b2 B1 hra
    have ⟨hg2, hp2, c0, c1, c2, c3, _⟩ := gb2
    have z0 : w2.cell? ⟨w1.heap.size, 0, none⟩ = some (.slice none 0 0) := cell_of_row w2 _ 0 _ _ _ hr2
    have z1 : w2.cell? ⟨w1.heap.size, 1, none⟩ = some (.slice none 0 0) := cell_of_row w2 _ 1 _ _ _ hr2
    have f0 : w2.frozen? ⟨w1.heap.size, 0, none⟩ = false := frozen_of_row hr2
    have f1 : w2.frozen? ⟨w1.heap.size, 1, none⟩ = false := frozen_of_row hr2
    go_wp2
    have hbx : ((w2.setCell ⟨w1.heap.size, 0, none⟩ (.slice none 0 0)).setCell ⟨w1.heap.size, 1, none⟩ (.slice none 0 0)).heap[w1.heap.size]? = some (.cells #[.slice none 0 0, .slice none 0 0] 27 (0, 0)) := by
      simp [World.setCell, Array.getElem?_modify, hr2]
    try simp only [Exit.inBlock, Exit.then]
    refine bodyPost_ret (results_cell_row2 (P := Try.prog) (b := .bool false) rfl _ _ (w1.heap.size) 27 #[.slice none 0 0, .slice none 0 0] (0, 0) _ rfl hbx Try.underlying27 rfl (by kernel_rfl) rfl) rfl ?_
    exact ⟨rfl, (B2.setCell hsw _).setCell hsw _⟩

theorem pair_set {W : World} {b : Nat} {v1 v2 u1 u2 : Value} {t : TypeId} (h : W.heap[b]? = some (.cells #[v1, v2] t (0, 0))) :
    ((W.setCell ⟨b, 0, none⟩ u1).setCell ⟨b, 1, none⟩ u2).heap[b]? = some (.cells #[u1, u2] t (0, 0)) := by
  simp [World.setCell, Array.getElem?_modify, h]
theorem pair_grown (W : World) (b : Nat) (u1 u2 : Value) : W.grownBy ((W.setCell ⟨b, 0, none⟩ u1).setCell ⟨b, 1, none⟩ u2) (some b) :=
  ⟨rfl, rfl, rfl, by simp [World.setCell], fun i _ hi => (Below.heap_setCell _ _ _ _ (fun e => hi (by rw [e]))).trans (Below.heap_setCell _ _ _ _ (fun e => hi (by rw [e])))⟩

set_option maxHeartbeats 8000000 in
set_option maxRecDepth 100000 in
/-- A loop. -/
theorem beyond_loop (w : World) (N : Int) (A : Option Addr) (m c : Nat) (es : List (Int × Int)) (Av : Option Addr) (nv cv : Nat) (vs : List Int) (Ae : Option Addr) (ne ce : Nat) (xs : List Int) (v d : Int) (h : GP w N A m c es Av nv cv vs Ae ne ce xs) (hd : I64 d) (hr : pRight N es vs xs = 0) (hd0 : 0 ≤ d) (hdx : d / 2 ∈ xs) (htl : tail es d = v) (hh : head es d = v) :
    Calls Try.prog 44 #[.agg #[.int .i64 N, .slice A m c], .agg #[.slice Av nv cv, .slice Ae ne ce], .int .i64 v, .int .i64 d] w (BeyRes w es vs xs v d) := by
  have HR := Lib.hid hr
  have hp := Lib.hid (pRight_ok hr)
  have HH := Lib.hid hh
  have hv64 : I64 v := by have h1 := (head_in (pRight_ok hr) hdx).2; have h2 := (pRight_ok hr).vr _ h1; have h3 := (pRight_ok hr).lens; rw [htl] at h2; exact ⟨by omega, by omega⟩
  have hq64 : I64 (d / 2) := ⟨by omega, by have := hd.2; omega⟩
  have htt : (v == v) = true := by simp
  clear hh hr
  have HD := Lib.hid (decide_eq_true hdx)
  have hdr := hp.out.xr _ hdx
  have hxl := hp.out.lens.2.1
  have ht1 : (v != v) = false := by simp
  have hb1 := bits_xor_one hd
  have hd1 := hd.2
  have htw0 : 0 ≤ twin d := by unfold twin; split <;> omega
  have htw1 : twin d < 2 * es.length := by unfold twin; split <;> omega
  have HTW0 := Lib.hid htw0
  have HTW1 := Lib.hid htw1
  have HDL : Hid (d < 2 * es.length) := Lib.hid (by omega)
  have HDX := Lib.hid hdx
  have HTL := Lib.hid htl
  clear htw0 htw1 hdx hdr htl
  obtain ⟨w1, hw1, b1, gb1⟩ := box_gp w N A m c es Av nv cv Ae ne ce
  obtain ⟨wa, hwa, ba, sa, hca⟩ := box_one w1 #[.slice none 0 0, .slice none 0 0] 27
  have hra : wa.heap[w1.heap.size]? = some (.cells #[.slice none 0 0, .slice none 0 0] 27 (0, 0)) := by rw [← hwa]; exact heap_alloc_new _ _
  have h1 := (h.step b1).step ba
  have gba := gb1.step ba
  have B1 := bstep b1 ba
  have hsw : w.heap.size ≤ w1.heap.size := b1.size
  clear h b1 gb1 ba hca sa
  go_enter Try.func44, Try.ntmps44
  have ⟨_, _, c0, c1, c2, c3, _⟩ := gba
  go_wp2_with fail
  refine (gRightPart_any wa N A m c es Av nv cv vs Ae ne ce xs h1).mono ?_
  rintro e w2 ⟨rfl, b2⟩
  rw [HR.out]
  have h2 := h1.step b2
  have gb2 := gba.step b2
  have B2 := bstep B1 b2
  have hr2 := (b2.block _ (Array.getElem?_eq_some_iff.1 hra).1).trans hra
  clear hw1 hwa h1 c0 c1 c2 c3 gba b2 B1 hra
  have ⟨hg2, hp2, c0, c1, c2, c3, _⟩ := gb2
  have z0 : w2.cell? ⟨w1.heap.size, 0, none⟩ = some (.slice none 0 0) := cell_of_row w2 _ 0 _ _ _ hr2
  have z1 : w2.cell? ⟨w1.heap.size, 1, none⟩ = some (.slice none 0 0) := cell_of_row w2 _ 1 _ _ _ hr2
  have f0 : w2.frozen? ⟨w1.heap.size, 0, none⟩ = false := frozen_of_row hr2
  have f1 : w2.frozen? ⟨w1.heap.size, 1, none⟩ = false := frozen_of_row hr2
  have hnx : ne ≤ 1000000 := by have := h2.e.len; omega
  go_wp2_with fail
  refine (has_any w2 _ Ae ne ce xs (d / 2) h2.e hnx hp.out.xp).mono ?_
  rintro e w3 ⟨rfl, rfl⟩
  rw [HD.out]
  have hgl := h2.g.len
  go_wp2_with fail
  refine (target_any w2 N A m c es (twin d) h2.g HTW0.out (by have := HTW1.out; omega)).mono ?_
  rintro e w3 ⟨rfl, b3⟩
  rw [head_twin, HTL.out]
  have h3 := h2.step b3
  have gb3 := gb2.step b3
  have B3 := bstep B2 b3
  have hr3 := (b3.block _ (Array.getElem?_eq_some_iff.1 hr2).1).trans hr2
  clear z0 z1 f0 f1 c0 c1 c2 c3 hr2 h2 gb2 b3 B2
  have ⟨_, _, c0, c1, c2, c3, _⟩ := gb3
  go_wp2_with fail
  refine (target_any w3 N A m c es d h3.g hd0 (by have := HDL.out; omega)).mono ?_
  rintro e w4 ⟨rfl, b4⟩
  have h4 := h3.step b4
  have gb4 := gb3.step b4
  have B4 := bstep B3 b4
  have hr4 := (b4.block _ (Array.getElem?_eq_some_iff.1 hr3).1).trans hr3
  clear c0 c1 c2 c3 hr3 h3 gb3 b4 B3
  have ⟨hg4, hp4, c0, c1, c2, c3, _⟩ := gb4
  have z0 : w4.cell? ⟨w1.heap.size, 0, none⟩ = some (.slice none 0 0) := cell_of_row w4 _ 0 _ _ _ hr4
  have z1 : w4.cell? ⟨w1.heap.size, 1, none⟩ = some (.slice none 0 0) := cell_of_row w4 _ 1 _ _ _ hr4
  have f0 : w4.frozen? ⟨w1.heap.size, 0, none⟩ = false := frozen_of_row hr4
  have f1 : w4.frozen? ⟨w1.heap.size, 1, none⟩ = false := frozen_of_row hr4
  rw [HH.out]
  obtain ⟨wy, hwy, by1, sy, hcy⟩ := box_one w4 #[.int .i64 v] 3
  obtain ⟨wx, hwx, bx1, sx, hcx⟩ := box_one wy #[.int .i64 (d / 2)] 3
  have iy : IS wy wy.heap.size (some ⟨w4.heap.size, 0, none⟩) 1 1 [v] := by
    rw [← hwy]; exact (IS.one w4 v hv64).more (by simp)
  have ix : IS wx wx.heap.size (some ⟨wy.heap.size, 0, none⟩) 1 1 [d / 2] := by
    rw [← hwx]; exact (IS.one wy (d / 2) hq64).more (by simp)
  have hrx := (bx1.block _ (Nat.lt_of_lt_of_le (Array.getElem?_eq_some_iff.1 hr4).1 by1.size)).trans ((by1.block _ (Array.getElem?_eq_some_iff.1 hr4).1).trans hr4)
  have hl4 := (Array.getElem?_eq_some_iff.1 hr4).1
  have z0 : wx.cell? ⟨w1.heap.size, 0, none⟩ = some (.slice none 0 0) := cell_of_row wx _ 0 _ _ _ hrx
  have z1 : wx.cell? ⟨w1.heap.size, 1, none⟩ = some (.slice none 0 0) := cell_of_row wx _ 1 _ _ _ hrx
  have f0 : wx.frozen? ⟨w1.heap.size, 0, none⟩ = false := frozen_of_row hrx
  have f1 : wx.frozen? ⟨w1.heap.size, 1, none⟩ = false := frozen_of_row hrx
  have HRX := Lib.hid hrx
  have IX := Lib.hid ix
  have IY := Lib.hid (iy.step bx1)
  have BX := Lib.hid (bstep (bstep B4 by1) bx1)
  have hsy := by1.size
  clear iy ix hcx hcy bx1 hrx c0 c1 c2 c3 h4 gb4 hr4 hg4 hp4
  go_wp2
  try simp only [Exit.inBlock, Exit.then]
  refine bodyPost_ret (results_cell_row2 (P := Try.prog) (b := .bool true) rfl _ _ w1.heap.size 27 _ (0, 0) _ rfl (pair_set HRX.out) Try.underlying27 rfl (by kernel_rfl) rfl) rfl ?_
  have hgr := pair_grown wx w1.heap.size (.slice (some ⟨w4.heap.size, 0, none⟩) 1 1) (.slice (some ⟨wy.heap.size, 0, none⟩) 1 1)
  refine beyRes_mk (IY.out.apart hgr (fun a ha => ?_)) (IX.out.apart hgr (fun a ha => ?_)) (.inl ⟨HH.out, rfl, rfl⟩) (BX.out.grown hgr BX.out.size (fun k hk => by cases hk; exact hsw))
  · injection ha with ha; subst ha; simp only; omega
  · injection ha with ha; subst ha; simp only; omega
end Go.Proofs.Ythobfbnopkbniaa
end

section
namespace Go.Proofs.Ythobfbnopkbniaa
open Go.RowKit

theorem filter_snoc {p : Int → Bool} {l : List Int} {k : Nat} {z : Int} (hk : k < l.length) (hz : l.getD k 0 = z) : (l.take (k + 1)).filter p = (l.take k).filter p ++ (if p z then [z] else []) := by
  rw [take_getD hk hz, List.filter_append]
  congr 1
  cases h : p z <;> simp [h]

set_option maxHeartbeats 16000000 in
set_option maxRecDepth 100000 in
theorem beyond_far (w : World) (N : Int) (A : Option Addr) (m c : Nat) (es : List (Int × Int)) (Av : Option Addr) (nv cv : Nat) (vs : List Int) (Ae : Option Addr) (ne ce : Nat) (xs : List Int) (v d : Int) (h : GP w N A m c es Av nv cv vs Ae ne ce xs) (hd : I64 d) (hr : pRight N es vs xs = 0) (hd0 : 0 ≤ d) (hdx : d / 2 ∈ xs) (htl : tail es d = v) (hh : head es d ≠ v) :
    Calls Try.prog 44 #[.agg #[.int .i64 N, .slice A m c], .agg #[.slice Av nv cv, .slice Ae ne ce], .int .i64 v, .int .i64 d] w (BeyRes w es vs xs v d) := by
  have HR := Lib.hid hr
  have hp := Lib.hid (pRight_ok hr)
  have HHV := Lib.hid (head_in (pRight_ok hr) hdx).1
  obtain ⟨u, hu⟩ : ∃ u, head es d = u := ⟨_, rfl⟩
  rw [hu] at HHV hh
  have HU := Lib.hid hu
  have hub : (u == v) = false := by simp [hh]
  have HH := Lib.hid hh
  clear hh hr hu
  have HD := Lib.hid (decide_eq_true hdx)
  have hdr := hp.out.xr _ hdx
  have hxl := hp.out.lens.2.1
  have ht1 : (v != v) = false := by simp
  have hb1 := bits_xor_one hd
  have hd1 := hd.2
  have htw0 : 0 ≤ twin d := by unfold twin; split <;> omega
  have htw1 : twin d < 2 * es.length := by unfold twin; split <;> omega
  have HTW0 := Lib.hid htw0
  have HTW1 := Lib.hid htw1
  have HDL : Hid (d < 2 * es.length) := Lib.hid (by omega)
  have HDX := Lib.hid hdx
  have HTL := Lib.hid htl
  clear htw0 htw1 hdx hdr htl
  obtain ⟨w1, hw1, b1, gb1⟩ := box_gp w N A m c es Av nv cv Ae ne ce
  obtain ⟨wa, hwa, ba, sa, hca⟩ := box_one w1 #[.slice none 0 0, .slice none 0 0] 27
  have hra : wa.heap[w1.heap.size]? = some (.cells #[.slice none 0 0, .slice none 0 0] 27 (0, 0)) := by rw [← hwa]; exact heap_alloc_new _ _
  have h1 := (h.step b1).step ba
  have gba := gb1.step ba
  have B1 := bstep b1 ba
  have hsw : w.heap.size ≤ w1.heap.size := b1.size
  clear h b1 gb1 ba hca sa
  go_enter Try.func44, Try.ntmps44
  have ⟨_, _, c0, c1, c2, c3, _⟩ := gba
  go_wp2_with fail
  refine (gRightPart_any wa N A m c es Av nv cv vs Ae ne ce xs h1).mono ?_
  rintro e w2 ⟨rfl, b2⟩
  rw [HR.out]
  have h2 := h1.step b2
  have gb2 := gba.step b2
  have B2 := bstep B1 b2
  have hr2 := (b2.block _ (Array.getElem?_eq_some_iff.1 hra).1).trans hra
  clear hw1 hwa h1 c0 c1 c2 c3 gba b2 B1 hra
  have ⟨hg2, hp2, c0, c1, c2, c3, _⟩ := gb2
  have z0 : w2.cell? ⟨w1.heap.size, 0, none⟩ = some (.slice none 0 0) := cell_of_row w2 _ 0 _ _ _ hr2
  have z1 : w2.cell? ⟨w1.heap.size, 1, none⟩ = some (.slice none 0 0) := cell_of_row w2 _ 1 _ _ _ hr2
  have f0 : w2.frozen? ⟨w1.heap.size, 0, none⟩ = false := frozen_of_row hr2
  have f1 : w2.frozen? ⟨w1.heap.size, 1, none⟩ = false := frozen_of_row hr2
  have hnx : ne ≤ 1000000 := by have := h2.e.len; omega
  go_wp2_with fail
  refine (has_any w2 _ Ae ne ce xs (d / 2) h2.e hnx hp.out.xp).mono ?_
  rintro e w3 ⟨rfl, rfl⟩
  rw [HD.out]
  have hgl := h2.g.len
  go_wp2_with fail
  refine (target_any w2 N A m c es (twin d) h2.g HTW0.out (by have := HTW1.out; omega)).mono ?_
  rintro e w3 ⟨rfl, b3⟩
  rw [head_twin, HTL.out]
  have h3 := h2.step b3
  have gb3 := gb2.step b3
  have B3 := bstep B2 b3
  have hr3 := (b3.block _ (Array.getElem?_eq_some_iff.1 hr2).1).trans hr2
  clear z0 z1 f0 f1 c0 c1 c2 c3 hr2 h2 gb2 b3 B2
  have ⟨_, _, c0, c1, c2, c3, _⟩ := gb3
  go_wp2_with fail
  refine (target_any w3 N A m c es d h3.g hd0 (by have := HDL.out; omega)).mono ?_
  rintro e w4 ⟨rfl, b4⟩
  have h4 := h3.step b4
  have gb4 := gb3.step b4
  have B4 := bstep B3 b4
  have hr4 := (b4.block _ (Array.getElem?_eq_some_iff.1 hr3).1).trans hr3
  clear c0 c1 c2 c3 hr3 h3 gb3 b4 B3
  have ⟨hg4, hp4, c0, c1, c2, c3, _⟩ := gb4
  have z0 : w4.cell? ⟨w1.heap.size, 0, none⟩ = some (.slice none 0 0) := cell_of_row w4 _ 0 _ _ _ hr4
  have z1 : w4.cell? ⟨w1.heap.size, 1, none⟩ = some (.slice none 0 0) := cell_of_row w4 _ 1 _ _ _ hr4
  have f0 : w4.frozen? ⟨w1.heap.size, 0, none⟩ = false := frozen_of_row hr4
  have f1 : w4.frozen? ⟨w1.heap.size, 1, none⟩ = false := frozen_of_row hr4
  rw [HU.out]
  go_wp2
  have H4 := Lib.hid h4
  clear h4 z0 z1 f0 f1
  refine wp_region_rel 7 [[],[],[],[1,2],[],[],[0,1,2,3,4,5]]
    [fun v _ => v = .agg #[.int .i64 N, .slice A m c],
     fun v _ => v = .agg #[.int .i64 N, .slice A m c],
     fun v _ => v = .agg #[.slice Av nv cv, .slice Ae ne ce],
     fun x w' => ∃ b, x = .map (some b) ∧ DM w' b (fun v => dartsOf es v xs),
     fun v _ => v = .int .i64 u,
     fun x _ => x = .int .i64 v,
     fun x w' => ∃ b f ms, x = .map (some b) ∧ MI w' b ms.length f ∧ RI es xs v u vs f ms ms.length]
    (by kernel_rfl) (by kernel_rfl) rfl ⟨?_, ?_, ?_, ?_, ?_, ?_, ?_, trivial⟩ ?_
  · intro wr hx v0 h0 v1 h1 v2 h2 v3 h3 v4 h4 v5 h5 v6 h6 K hK
    have ⟨_, _, q0, q1, q2, q3, _⟩ := gb4.step hx
    simp only [Act.put, List.setIfInBounds_toArray, List.set_cons_zero, List.set_cons_succ] at hK ⊢
    clear h0 h1 h2 h3 h4 h5 h6
    go_wp2
    exact hK _ _ (Ext.refl _) (fun _ _ => rfl)
  · intro wr hx v0 h0 v1 h1 v2 h2 v3 h3 v4 h4 v5 h5 v6 h6 K hK
    have ⟨_, _, q0, q1, q2, q3, _⟩ := gb4.step hx
    simp only [Act.put, List.setIfInBounds_toArray, List.set_cons_zero, List.set_cons_succ] at hK ⊢
    clear h0 h1 h2 h3 h4 h5 h6
    go_wp2
    exact hK _ _ (Ext.refl _) (fun _ _ => rfl)
  · intro wr hx v0 h0 v1 h1 v2 h2 v3 h3 v4 h4 v5 h5 v6 h6 K hK
    have ⟨_, _, q0, q1, q2, q3, _⟩ := gb4.step hx
    simp only [Act.put, List.setIfInBounds_toArray, List.set_cons_zero, List.set_cons_succ] at hK ⊢
    clear h0 h1 h2 h3 h4 h5 h6
    go_wp2
    exact hK _ _ (Ext.refl _) (fun _ _ => rfl)
  · intro wr hx v0 h0 v1 h1 v2 h2 v3 h3 v4 h4 v5 h5 v6 h6 K hK
    have ⟨_, _, q0, q1, q2, q3, _⟩ := gb4.step hx
    simp only [Act.put, List.setIfInBounds_toArray, List.set_cons_zero, List.set_cons_succ] at hK ⊢
    obtain rfl := (h1 (by decide)).now
    obtain rfl := (h2 (by decide)).now
    clear h0 h1 h2 h3 h4 h5 h6
    go_wp2_with fail
    refine (leaving_any wr N A m c es Av nv cv vs Ae ne ce xs (H4.out.step hx) hp.out).mono ?_
    rintro e w' ⟨b, rfl, hdm, _, hb⟩
    go_wp2
    exact hK _ _ hb (fun w'' hx' => ⟨_, rfl, hdm.step hx'⟩)
  · intro wr hx v0 h0 v1 h1 v2 h2 v3 h3 v4 h4 v5 h5 v6 h6 K hK
    have ⟨_, _, q0, q1, q2, q3, _⟩ := gb4.step hx
    simp only [Act.put, List.setIfInBounds_toArray, List.set_cons_zero, List.set_cons_succ] at hK ⊢
    clear h0 h1 h2 h3 h4 h5 h6
    go_wp2
    exact hK _ _ (Ext.refl _) (fun _ _ => rfl)
  · intro wr hx v0 h0 v1 h1 v2 h2 v3 h3 v4 h4 v5 h5 v6 h6 K hK
    have ⟨_, _, q0, q1, q2, q3, _⟩ := gb4.step hx
    simp only [Act.put, List.setIfInBounds_toArray, List.set_cons_zero, List.set_cons_succ] at hK ⊢
    clear h0 h1 h2 h3 h4 h5 h6
    go_wp2
    exact hK _ _ (Ext.refl _) (fun _ _ => rfl)
  · intro wr hx v0 h0 v1 h1 v2 h2 v3 h3 v4 h4 v5 h5 v6 h6 K hK
    have ⟨_, _, q0, q1, q2, q3, _⟩ := gb4.step hx
    simp only [Act.put, List.setIfInBounds_toArray, List.set_cons_zero, List.set_cons_succ] at hK ⊢
    obtain rfl := (h0 (by decide)).now
    obtain ⟨b3, rfl, hdm⟩ := (h3 (by decide)).now
    obtain rfl := (h4 (by decide)).now
    obtain rfl := (h5 (by decide)).now
    clear h0 h1 h2 h3 h4 h5 h6
    go_wp2_with fail
    refine (reach_any wr N A m c es vs xs b3 u v (H4.out.step hx).g hdm hp.out HHV.out).mono ?_
    rintro e w' ⟨b, f, ms, rfl, hmi, hri, _, hb⟩
    go_wp2
    exact hK _ _ hb (fun w'' hx' => ⟨_, _, _, rfl, MV.step hmi hx', hri⟩)
  intro wr hx v0 h0 v1 h1 v2 h2 v3 h3 v4 h4 v5 h5 v6 h6
  have ⟨_, _, q0, q1, q2, q3, _⟩ := gb4.step hx
  obtain ⟨mb, f, ms, rfl, hmi, hri⟩ := h6.now
  clear h0 h1 h2 h3 h4 h5 h6
  refine tail_quiet (by kernel_rfl) ?_
  simp only [List.drop_succ_cons, List.drop_zero, Act.put, List.setIfInBounds_toArray, List.set_cons_zero, List.set_cons_succ]
  repeat (go_big_quiet_step (fail))
  refine wpQuiet_nil ?_
  have h5 := H4.out.step hx
  have gb5 := gb4.step hx
  have B5 := Lib.hid (bstep B4 hx)
  have hr5 := Lib.hid ((hx.block _ (Array.getElem?_eq_some_iff.1 hr4).1).trans hr4)
  have hml := hmi.lt
  have HRI := Lib.hid hri
  have HMI := Lib.hid hmi
  have hlenv := h5.v.len
  have hlev := h5.v.le
  have hcapv := h5.v.cap
  have hlene := h5.e.len
  have hlee := h5.e.le
  have hcape := h5.e.cap
  have hmg := h5.g.len
  have hmc := h5.g.cap
  have hmle := h5.g.le
  have H5 := Lib.hid h5
  have GB5 := Lib.hid gb5
  obtain ⟨hvl, hxl2, hNl⟩ := hp.out.lens
  have hst : WInv wr (wr.alloc (.cells #[.slice none 0 0, .slice none 0 0] 27)) wr.heap.size (.slice none 0 0) (.slice none 0 0) [] [] :=
    ⟨heap_alloc_new _ _, (Own.start wr).alloc _, (Own.start wr).alloc _, Nat.le_refl _, .inl rfl⟩
  clear hx hri hmi h5 gb5 gb4 H4 c0 c1 c2 c3 q0 q1 q2 q3 hr4 B4 hg4 hp4
  have ⟨hg5, hp5, c0, c1, c2, c3, _⟩ := GB5.out
  have hs5 : wr.heap.size < (wr.alloc (.cells #[.slice none 0 0, .slice none 0 0] 27)).heap.size := by simp
  go_wp2
  obtain ⟨wo, hwo⟩ : ∃ wo : World, wo = wr := ⟨_, rfl⟩
  rw [← hwo] at hst H5 GB5 B5 hr5 HMI hml ⊢
  rw [← hwo] at hg5 hp5 c0 c1 c2 c3
  clear hwo hs5
  have C0 := Lib.hid c0
  have C1 := Lib.hid c1
  have C3 := Lib.hid c3
  clear c0 c1 c2 c3
  go_loopw [70] (fun i wr => ∃ k : Nat, k ≤ nv ∧ i = .int .i64 k ∧ ∃ v1, WInv wo wr wo.heap.size v1 (.slice none 0 0) ((vs.take k).filter (fun x => (f x).isSome || x == v)) []) (fun i _ => nv - (intOf i).toNat)
  case atStart => exact ⟨0, Nat.zero_le _, rfl, _, hst⟩
  case round =>
    clear hst
    obtain ⟨k, hk, rfl, v1, inv⟩ := hrel
    have hmi : MI wr mb ms.length f := HMI.out.below inv.r1.below hml
    have e0 := inv.cell 0
    have e1 := inv.cell 1
    obtain ⟨vA, vn, vc, rfl⟩ := inv.r1.slice_
    by_cases hlt : k < nv
    · obtain ⟨bv, ov, z, rfl, hbv, hz, hz64, hcz⟩ := (H5.out.v.below inv.r1.below).get hlt
      have hkl : Hid (k < vs.length) := Lib.hid (by omega)
      have INV := Lib.hid inv
      have hfl : Hid (((vs.take k).filter (fun x => (f x).isSome || x == v)).length + 1 ≤ 1000000000000) := Lib.hid (by
        have h1 := List.length_filter_le (fun x => (f x).isSome || x == v) (vs.take k)
        have h2 : (vs.take k).length ≤ k := List.length_take_le _ _
        omega)
      clear inv
      cases hf : f z with
      | some q =>
        have HF := Lib.hid hf
        have hpz : Hid (((f z).isSome || z == v) = true) := Lib.hid (by rw [hf]; rfl)
        clear hf
        go_wp2_with (first
          | (with_reducible show wpList _ _ _ (Oper.mk (some 77) _ _ _ _ _ :: _) _ _; go_must (refine wpList_iok_some (g := f) (k := z) rfl _ _ rfl rfl hmi rfl hz64 q HF.out ?_))
          | (with_reducible show wpList _ _ _ (Oper.mk (some 90) _ _ _ _ _ :: _) _ _; go_must (refine wpList_append_one (v := .slice vA vn vc) (w0 := wo) rfl _ _ rfl rfl INV.out.r1 _ hz64 rfl hfl.out ?_; intro v' w5 hown' hg5' hb5'; obtain ⟨hbx, ⟨u0, hu0⟩, hf0⟩ := INV.out.mid (.inl rfl) hg5' 0 (by omega); obtain ⟨xA, xn, xc, rfl⟩ := hown'.slice_)))
        go_roundw
        case rel => exact ⟨k + 1, by omega, by go_num, _, by rw [filter_snoc hkl.out hz.out, if_pos hpz.out]; exact INV.out.put1 rfl hown' hg5'⟩
        case measure => simp [intOf]; omega
      | none =>
        have HF := Lib.hid hf
        by_cases hzv : z = v
        · have hzb : (z == v) = true := by simp [hzv]
          have hpz : Hid (((f z).isSome || z == v) = true) := Lib.hid (by rw [hf, hzb]; rfl)
          clear hf hzv
          go_wp2_with (first
            | (with_reducible show wpList _ _ _ (Oper.mk (some 77) _ _ _ _ _ :: _) _ _; go_must (refine wpList_iok_none (g := f) (k := z) rfl _ _ rfl rfl hmi rfl hz64 HF.out ?_))
            | (with_reducible show wpList _ _ _ (Oper.mk (some 90) _ _ _ _ _ :: _) _ _; go_must (refine wpList_append_one (v := .slice vA vn vc) (w0 := wo) rfl _ _ rfl rfl INV.out.r1 _ hz64 rfl hfl.out ?_; intro v' w5 hown' hg5' hb5'; obtain ⟨hbx, ⟨u0, hu0⟩, hf0⟩ := INV.out.mid (.inl rfl) hg5' 0 (by omega); obtain ⟨xA, xn, xc, rfl⟩ := hown'.slice_)))
          go_roundw
          case rel => exact ⟨k + 1, by omega, by go_num, _, by rw [filter_snoc hkl.out hz.out, if_pos hpz.out]; exact INV.out.put1 rfl hown' hg5'⟩
          case measure => simp [intOf]; omega
        · have hzb : (z == v) = false := by simp [hzv]
          have hpz : Hid (((f z).isSome || z == v) = false) := Lib.hid (by rw [hf, hzb]; rfl)
          clear hf hzv
          go_wp2_with (with_reducible show wpList _ _ _ (Oper.mk (some 77) _ _ _ _ _ :: _) _ _; go_must (refine wpList_iok_none (g := f) (k := z) rfl _ _ rfl rfl hmi rfl hz64 HF.out ?_))
          go_roundw
          case rel => exact ⟨k + 1, by omega, by go_num, _, by rw [filter_snoc hkl.out hz.out, if_neg (by rw [hpz.out]; simp), List.append_nil]; exact INV.out⟩
          case measure => simp [intOf]; omega
    · obtain rfl : k = nv := by omega
      rw [List.take_of_length_le (by omega)] at inv
      have hj0 : WInv wo wr wo.heap.size (.slice vA vn vc) (.slice none 0 0) (vs.filter (fun x => (f x).isSome || x == v)) ((xs.take 0).filter (fun e => (f (ends es e).1).isSome || (f (ends es e).2).isSome)) := inv
      have c3 := (inv.r1.below.cell (p := ⟨w.heap.size + 1, 1, none⟩) hp5).trans C3.out
      clear inv e0 e1 hmi
      go_wp2
      clear c3
      obtain ⟨ws, hws⟩ : ∃ ws : World, ws = wr := ⟨_, rfl⟩
      rw [← hws] at hj0 ⊢
      clear hws
      go_loopw [96] (fun i wr => ∃ j : Nat, j ≤ ne ∧ i = .int .i64 j ∧ ∃ v2, WInv wo wr wo.heap.size (.slice vA vn vc) v2 (vs.filter (fun x => (f x).isSome || x == v)) ((xs.take j).filter (fun e => (f (ends es e).1).isSome || (f (ends es e).2).isSome))) (fun i _ => ne - (intOf i).toNat)
      case atStart => exact ⟨0, Nat.zero_le _, rfl, _, hj0⟩
      case round =>
        clear hj0
        obtain ⟨j, hj, rfl, v2, inv⟩ := hrel
        have hmi : MI wr mb ms.length f := HMI.out.below inv.r2.below hml
        have e0 := inv.cell 0
        have e1 := inv.cell 1
        have c0 := (inv.r2.below.cell (p := ⟨w.heap.size, 0, none⟩) hg5).trans C0.out
        have c1 := (inv.r2.below.cell (p := ⟨w.heap.size, 1, none⟩) hg5).trans C1.out
        obtain ⟨yA, yn, yc, rfl⟩ := inv.r2.slice_
        by_cases hlt : j < ne
        · obtain ⟨be, oe, z, rfl, hbe, hz, hz64, hcz⟩ := (H5.out.e.below inv.r2.below).get hlt
          have hkl : Hid (j < xs.length) := Lib.hid (by omega)
          have hzm := H5.out.e.mem hlt
          rw [hz.out] at hzm
          have hzr := hp.out.xr z hzm
          have hen' := hp.out.ends z hzm
          obtain ⟨q, rfl⟩ := Int.eq_ofNat_of_zero_le hzr.1
          have hqm : q < m := by omega
          obtain ⟨bg, og, x, y, rfl, hbg, hxy, hx64, hy64, hcx, hcy⟩ := (H5.out.g.below inv.r2.below).get hqm
          have hen : ends es q = (x, y) := by unfold ends; rw [Int.toNat_natCast]; exact hxy.out
          have hq0 : (0 : Int) ≤ (q : Int) := by omega
          have hq1 : (q : Int) < (m : Int) := by omega
          have INV := Lib.hid inv
          have hfl : Hid (((xs.take j).filter (fun e => (f (ends es e).1).isSome || (f (ends es e).2).isSome)).length + 1 ≤ 1000000000000) := Lib.hid (by
            have h1 := List.length_filter_le (fun e => (f (ends es e).1).isSome || (f (ends es e).2).isSome) (xs.take j)
            have h2 : (xs.take j).length ≤ j := List.length_take_le _ _
            omega)
          have hpe : Hid (((f (ends es q).1).isSome || (f (ends es q).2).isSome) = ((f x).isSome || (f y).isSome)) := Lib.hid (by rw [hen])
          clear inv hzm hzr hen' hen
          cases hf : f x with
          | some qx =>
            have HF := Lib.hid hf
            have hpz : Hid (((f (ends es q).1).isSome || (f (ends es q).2).isSome) = true) := Lib.hid (by rw [hpe.out, hf]; rfl)
            clear hf
            cases hfy : f y with
            | some qy =>
              have HFY := Lib.hid hfy
              clear hfy
              go_wp2_with (first
                | (with_reducible show wpList _ _ _ (Oper.mk (some 108) _ _ _ _ _ :: _) _ _; go_must (refine wpList_iok_some (g := f) (k := x) rfl _ _ rfl rfl hmi rfl hx64 qx HF.out ?_))
                | (with_reducible show wpList _ _ _ (Oper.mk (some 119) _ _ _ _ _ :: _) _ _; go_must (refine wpList_iok_some (g := f) (k := y) rfl _ _ rfl rfl hmi rfl hy64 qy HFY.out ?_))
                | (with_reducible show wpList _ _ _ (Oper.mk (some 130) _ _ _ _ _ :: _) _ _; go_must (refine wpList_append_one (v := .slice yA yn yc) (w0 := wo) rfl _ _ rfl rfl INV.out.r2 _ hz64 rfl hfl.out ?_; intro v' w5 hown' hg5' hb5'; obtain ⟨hbx, ⟨u0, hu0⟩, hf0⟩ := INV.out.mid (.inr rfl) hg5' 1 (by omega); obtain ⟨xA, xn, xc, rfl⟩ := hown'.slice_)))
              go_roundw
              case rel => exact ⟨j + 1, by omega, by go_num, _, by rw [filter_snoc hkl.out hz.out, if_pos hpz.out]; exact INV.out.put2 hown' hg5' hb5'⟩
              case measure => simp [intOf]; omega
            | none =>
              have HFY := Lib.hid hfy
              clear hfy
              go_wp2_with (first
                | (with_reducible show wpList _ _ _ (Oper.mk (some 108) _ _ _ _ _ :: _) _ _; go_must (refine wpList_iok_some (g := f) (k := x) rfl _ _ rfl rfl hmi rfl hx64 qx HF.out ?_))
                | (with_reducible show wpList _ _ _ (Oper.mk (some 119) _ _ _ _ _ :: _) _ _; go_must (refine wpList_iok_none (g := f) (k := y) rfl _ _ rfl rfl hmi rfl hy64  HFY.out ?_))
                | (with_reducible show wpList _ _ _ (Oper.mk (some 130) _ _ _ _ _ :: _) _ _; go_must (refine wpList_append_one (v := .slice yA yn yc) (w0 := wo) rfl _ _ rfl rfl INV.out.r2 _ hz64 rfl hfl.out ?_; intro v' w5 hown' hg5' hb5'; obtain ⟨hbx, ⟨u0, hu0⟩, hf0⟩ := INV.out.mid (.inr rfl) hg5' 1 (by omega); obtain ⟨xA, xn, xc, rfl⟩ := hown'.slice_)))
              go_roundw
              case rel => exact ⟨j + 1, by omega, by go_num, _, by rw [filter_snoc hkl.out hz.out, if_pos hpz.out]; exact INV.out.put2 hown' hg5' hb5'⟩
              case measure => simp [intOf]; omega
          | none =>
            have HF := Lib.hid hf
            cases hfy : f y with
            | some qy =>
              have HFY := Lib.hid hfy
              have hpz : Hid (((f (ends es q).1).isSome || (f (ends es q).2).isSome) = true) := Lib.hid (by rw [hpe.out, hf, hfy]; rfl)
              clear hfy hf
              go_wp2_with (first
                | (with_reducible show wpList _ _ _ (Oper.mk (some 108) _ _ _ _ _ :: _) _ _; go_must (refine wpList_iok_none (g := f) (k := x) rfl _ _ rfl rfl hmi rfl hx64  HF.out ?_))
                | (with_reducible show wpList _ _ _ (Oper.mk (some 119) _ _ _ _ _ :: _) _ _; go_must (refine wpList_iok_some (g := f) (k := y) rfl _ _ rfl rfl hmi rfl hy64 qy HFY.out ?_))
                | (with_reducible show wpList _ _ _ (Oper.mk (some 130) _ _ _ _ _ :: _) _ _; go_must (refine wpList_append_one (v := .slice yA yn yc) (w0 := wo) rfl _ _ rfl rfl INV.out.r2 _ hz64 rfl hfl.out ?_; intro v' w5 hown' hg5' hb5'; obtain ⟨hbx, ⟨u0, hu0⟩, hf0⟩ := INV.out.mid (.inr rfl) hg5' 1 (by omega); obtain ⟨xA, xn, xc, rfl⟩ := hown'.slice_)))
              go_roundw
              case rel => exact ⟨j + 1, by omega, by go_num, _, by rw [filter_snoc hkl.out hz.out, if_pos hpz.out]; exact INV.out.put2 hown' hg5' hb5'⟩
              case measure => simp [intOf]; omega
            | none =>
              have HFY := Lib.hid hfy
              have hpz : Hid (((f (ends es q).1).isSome || (f (ends es q).2).isSome) = false) := Lib.hid (by rw [hpe.out, hf, hfy]; rfl)
              clear hfy hf
              go_wp2_with (first
                | (with_reducible show wpList _ _ _ (Oper.mk (some 108) _ _ _ _ _ :: _) _ _; go_must (refine wpList_iok_none (g := f) (k := x) rfl _ _ rfl rfl hmi rfl hx64  HF.out ?_))
                | (with_reducible show wpList _ _ _ (Oper.mk (some 119) _ _ _ _ _ :: _) _ _; go_must (refine wpList_iok_none (g := f) (k := y) rfl _ _ rfl rfl hmi rfl hy64  HFY.out ?_))
                | (with_reducible show wpList _ _ _ (Oper.mk (some 130) _ _ _ _ _ :: _) _ _; go_must (refine wpList_append_one (v := .slice yA yn yc) (w0 := wo) rfl _ _ rfl rfl INV.out.r2 _ hz64 rfl hfl.out ?_; intro v' w5 hown' hg5' hb5'; obtain ⟨hbx, ⟨u0, hu0⟩, hf0⟩ := INV.out.mid (.inr rfl) hg5' 1 (by omega); obtain ⟨xA, xn, xc, rfl⟩ := hown'.slice_)))
              go_roundw
              case rel => exact ⟨j + 1, by omega, by go_num, _, by rw [filter_snoc hkl.out hz.out, if_neg (by rw [hpz.out]; simp), List.append_nil]; exact INV.out⟩
              case measure => simp [intOf]; omega
        · obtain rfl : j = ne := by omega
          rw [List.take_of_length_le (by omega)] at inv
          have hl5 := (Array.getElem?_eq_some_iff.1 hr5.out).1
          have hrw := (inv.r2.below.block _ hl5).trans hr5.out
          have z0 : wr.cell? ⟨w1.heap.size, 0, none⟩ = some (.slice none 0 0) := cell_of_row wr _ 0 _ _ _ hrw
          have z1 : wr.cell? ⟨w1.heap.size, 1, none⟩ = some (.slice none 0 0) := cell_of_row wr _ 1 _ _ _ hrw
          have f0 : wr.frozen? ⟨w1.heap.size, 0, none⟩ = false := frozen_of_row hrw
          have f1 : wr.frozen? ⟨w1.heap.size, 1, none⟩ = false := frozen_of_row hrw
          have i1 := inv.r1.isNew
          have i2 := inv.r2.isNew
          have hbel := Lib.hid inv.r2.below
          have HRW := Lib.hid hrw
          clear inv hmi c0 c1 hrw
          go_wp2
          try simp only [Exit.inBlock, Exit.then]
          refine bodyPost_ret (results_cell_row2 (P := Try.prog) (b := .bool true) rfl _ _ w1.heap.size 27 _ (0, 0) _ rfl (pair_set HRW.out) Try.underlying27 rfl (by kernel_rfl) rfl) rfl ?_
          have hgr := pair_grown wr w1.heap.size (.slice vA vn vc) (.slice yA yn yc)
          obtain ⟨A1, m1, d1, e1', his1, hnew1⟩ := i1
          obtain ⟨A2, m2, d2, e2', his2, hnew2⟩ := i2
          rw [e1', e2'] at hgr ⊢
          have hb0 := bstep B5.out hbel.out
          exact beyRes_mk (his1.apart hgr (fun a ha => by have := hnew1 a ha; omega)) (his2.apart hgr (fun a ha => by have := hnew2 a ha; omega)) (.inr ⟨by rw [HU.out]; exact HH.out, f, ms, by rw [HU.out]; exact HRI.out, rfl, rfl⟩) (hb0.grown hgr hb0.size (fun k hk => by cases hk; exact hsw))

theorem beyond_yes (w : World) (N : Int) (A : Option Addr) (m c : Nat) (es : List (Int × Int)) (Av : Option Addr) (nv cv : Nat) (vs : List Int) (Ae : Option Addr) (ne ce : Nat) (xs : List Int) (v d : Int) (h : GP w N A m c es Av nv cv vs Ae ne ce xs) (hd : I64 d) (hc : BeyC N es vs xs v d) :
    Calls Try.prog 44 #[.agg #[.int .i64 N, .slice A m c], .agg #[.slice Av nv cv, .slice Ae ne ce], .int .i64 v, .int .i64 d] w (BeyRes w es vs xs v d) := by
  obtain ⟨hr, hd0, hdx, htl⟩ := hc
  by_cases hh : head es d = v
  · exact beyond_loop w N A m c es Av nv cv vs Ae ne ce xs v d h hd hr hd0 hdx htl hh
  · exact beyond_far w N A m c es Av nv cv vs Ae ne ce xs v d h hd hr hd0 hdx htl hh
end Go.Proofs.Ythobfbnopkbniaa
end

section
namespace Go.Proofs.Ythobfbnopkbniaa
open Go.RowKit

/-- The lists of the pieces, as they are filled. -/
def PFill (es : List (Int × Int)) (f : Int → Option Int) (l ys : List Int) (F : Nat → List Int) : Prop :=
  ∀ j : Nat, F (j * 2) = l.filter (fun x => f x == some (j : Int)) ∧ F (j * 2 + 1) = ys.filter (fun e => f (ends es e).1 == some (j : Int))

section
variable {es : List (Int × Int)} {xs vs l ys : List Int} {n : Nat} {f g : Int → Option Int} {F : Nat → List Int} {x : Int}
theorem PFill.start_ : PFill es (fun _ => none) [] [] (fun _ => []) := fun _ => ⟨rfl, rfl⟩
theorem PFill.grow_ {N : Int} (h : PFill es f l [] F) (hc : PcI es xs vs l n f) (hp : POK N es vs xs) (hf : f x = none) (hd : Dist es xs (-1) x g) : PFill es (grow g f n) l [] F := fun j => by
  refine ⟨?_, (h j).2.trans rfl⟩
  rw [(h j).1]
  refine List.filter_congr fun y hy => ?_
  have hno : (g y).isSome = false := by
    obtain ⟨k, hk⟩ := Option.isSome_iff_exists.1 (hc.all y hy)
    obtain ⟨i, rfl, hi⟩ := hc.lt y k hk
    obtain ⟨r, _, hr⟩ := hc.root i hi
    cases hg : (g y).isSome with
    | false => rfl
    | true =>
      have h1 := (hr y).1 hk
      have h2 := (hd.hang y).1 hg
      have := (hr x).2 (h1.trans (h2.symm hp))
      rw [hf] at this
      cases this
  unfold grow
  rw [hno]
  rfl
theorem PFill.putv (h : PFill es f l ys F) {i : Nat} (hx : f x = some (i : Int)) : PFill es f (l ++ [x]) ys (atN F (i * 2) (F (i * 2) ++ [x])) := fun j => by
  rw [atN_ne _ _ (show j * 2 + 1 ≠ i * 2 by omega)]
  refine ⟨?_, (h j).2⟩
  rw [List.filter_append]
  by_cases e : j = i
  · subst e
    rw [atN_same, (h j).1]
    simp [hx]
  · rw [atN_ne _ _ (by omega), (h j).1]
    have : ((i : Int) == (j : Int)) = false := by simp; omega
    simp [hx, this]
theorem PFill.pute (h : PFill es f l ys F) {e : Int} {i : Nat} (hx : f (ends es e).1 = some (i : Int)) : PFill es f l (ys ++ [e]) (atN F (i * 2 + 1) (F (i * 2 + 1) ++ [e])) := fun j => by
  rw [atN_ne _ _ (show j * 2 ≠ i * 2 + 1 by omega)]
  refine ⟨(h j).1, ?_⟩
  rw [List.filter_append]
  by_cases e' : j = i
  · subst e'
    rw [atN_same, (h j).2]
    simp [hx]
  · rw [atN_ne _ _ (by omega), (h j).2]
    have : ((i : Int) == (j : Int)) = false := by simp; omega
    simp [hx, this]
end

theorem DB.dm {w : World} {B b : Nat} {D : Int → List Int} (h : DB w B b D) (hB : B ≤ w.heap.size) : DM w b D := by
  obtain ⟨_, n, F, h1, h2⟩ := h
  exact ⟨n, F, h1, fun k hk => by
    obtain ⟨A, m, c, e, hi⟩ := h2 k hk
    exact ⟨A, m, c, e, hi.more hB⟩⟩
theorem Own.from {w w0 w' : World} {v : Value} {xs : List Int} (h : Own w0 w' v xs) (hb : Below w.heap.size w w0) : Own w w' v xs := by
  refine ⟨⟨h.row.1, ?_⟩, hb.trans (h.below.mono hb.size), h.i64⟩
  rcases h.row.2 with h' | ⟨g, cap, cur, e, hbg, rest⟩
  · exact .inl h'
  · exact .inr ⟨g, cap, cur, e, Nat.le_trans hb.size hbg, rest⟩
theorem OwnP.from {w w0 w' : World} {v : Value} {n : Nat} {u : Nat → Value} {F : Nat → List Int} (h : OwnP w0 w' v n u F) (hb : Below w.heap.size w w0) : OwnP w w' v n u F := by
  obtain ⟨xs, h1, h2⟩ := h.row
  refine ⟨⟨xs, ⟨h1.1, ?_⟩, h2⟩, fun i => (h.each i).from hb, h.apart, h.rest, hb.trans (h.below.mono hb.size)⟩
  rcases h1.2 with h' | ⟨g, cap, cur, e, hbg, rest⟩
  · exact .inl h'
  · exact .inr ⟨g, cap, cur, e, Nat.le_trans hb.size hbg, rest⟩

/-- What walk.Pieces answers. -/
def PcRes (w : World) (N : Int) (es : List (Int × Int)) (vs xs : List Int) (e : Ending) (w' : World) : Prop :=
  Below w.heap.size w w' ∧ ((pRight N es vs xs ≠ 0 ∧ e = .returned (.tuple #[.slice none 0 0, .int .i64 (pRight N es vs xs)])) ∨
    (pRight N es vs xs = 0 ∧ ∃ v n f u F, e = .returned (.tuple #[v, .int .i64 0]) ∧ OwnP w w' v n u F ∧ PcI es xs vs vs n f ∧ PFill es f vs xs F))

/-- While the vertices are gone through. -/
def PcOut (w0 : World) (es : List (Int × Int)) (vs xs : List Int) (pb k : Nat) (v : Value) (wr : World) : Prop :=
  ∃ n f np u F, OwnP w0 wr v n u F ∧ MI wr pb np f ∧ np ≤ k * 1024 ∧ PcI es xs vs (vs.take k) n f ∧ PFill es f (vs.take k) [] F
/-- While a piece's vertices are gone through. -/
def PcIn (wq : World) (f g : Int → Option Int) (pb fb k m n : Nat) (wr : World) : Prop :=
  ∃ left cnt np, RM wr fb wq.heap.size m g left cnt ∧ MI wr pb np (fun z => if (g z).isSome && !left z then some (n : Int) else f z) ∧ np + cnt ≤ (k + 1) * 1024 ∧ wq.grownBy wr (some pb)
theorem MI.kept_ {w w' : World} {b n : Nat} {f : Int → Option Int} {row : Option Nat} (h : MI w b n f) (hg : w.grownBy w' row) (hne : some b ≠ row) : MI w' b n f := MV.kept h hg hne
theorem ite_le {c : Prop} [Decidable c] (a : Nat) : (if c then a else a + 1) ≤ a + 1 := by split <;> omega
theorem PcIn.start_ {wq ws : World} {f g : Int → Option Int} {pb fb k m n np : Nat} (hrm : RM ws fb wq.heap.size m g (fun k => (g k).isSome) m) (hmi : MI wq pb np f) (hg : wq.grownBy ws none) (h : np + m ≤ (k + 1) * 1024) : PcIn wq f g pb fb k m n ws :=
  ⟨_, _, np, hrm, (hmi.kept hg (by simp)).congr (fun y _ => by
    show Option.map _ _ = Option.map _ _
    congr 1
    cases hh : g y <;> simp [hh]), h, hg.but _⟩
theorem PcIn.end_ {w : World} {f g : Int → Option Int} {pb n np : Nat} {left : Int → Bool} (h : MI w pb np (fun z => if (g z).isSome && !left z then some (n : Int) else f z)) (hl : ∀ k, I64 k → left k = false) : MI w pb np (grow g f n) :=
  h.congr fun z hz => by
    show Option.map _ _ = Option.map _ _
    congr 1
    unfold grow
    simp [hl z hz]
theorem PcIn.step {wq wr w1 w2 : World} {f g : Int → Option Int} {pb fb k m n : Nat} {left : Int → Bool} {x c : Int} {cnt cnt' np : Nat} (hx : left x = true) (hg : g x = some c)
    (hrm : RM w1 fb wq.heap.size m g (fun z => left z && !decide (z = x)) cnt') (hlt : cnt' < cnt) (hgr : wr.grownBy w1 (some wq.heap.size)) (hmi2 : ∃ q, q ≤ np + 1 ∧ MI w2 pb q (upd (fun z => if (g z).isSome && !left z then some (n : Int) else f z) x n)) (hg2 : w1.grownBy w2 (some pb))
    (hle : np + cnt ≤ (k + 1) * 1024) (hq : wq.grownBy wr (some pb)) (hfp : fb ≠ pb) (hpq : pb < wq.heap.size) : PcIn wq f g pb fb k m n w2 := by
  obtain ⟨q, hq1, hmi2⟩ := hmi2
  refine ⟨_, cnt', q, hrm.kept hg2 (by simpa using hfp) (by simp; omega), ?_, by omega, (hq.andThen hgr (fun j hj => by cases hj; exact .inl (Nat.le_refl _))).andThen hg2 (fun j hj => by cases hj; exact .inr rfl)⟩
  refine hmi2.congr fun z _ => ?_
  show Option.map _ _ = Option.map _ _
  congr 1
  unfold upd
  by_cases e : z = x
  · subst e
    simp [hg]
  · simp [e]
theorem OwnP.put_map {w0 w w' : World} {g c n i b m : Nat} {u : Nat → Value} {F : Nat → List Int} {f : Int → Option Value} {o : Obj} {v' : Value} (h : OwnP w0 w (.slice (some ⟨g, 0, none⟩) n c) n u F) (hg : (w.alloc o).grownBy w' (u i).ownBlock) (hm : MV w b m f) : MV (w'.setCell ⟨g, i, none⟩ v') b m f := by
  have hset : w'.grownBy (w'.setCell ⟨g, i, none⟩ v') (some g) := ⟨rfl, rfl, rfl, by simp [World.setCell], fun k _ hk => Below.heap_setCell _ _ _ _ (fun e => hk (by rw [e]))⟩
  exact ((hm.alloc o).kept hg (fun e => (h.each i).notMap hm e.symm)).kept hset (fun e => h.notMap hm e.symm)
theorem PcOut.put {w0 wr w' : World} {es : List (Int × Int)} {vs xs : List Int} {pb k n np g c j : Nat} {f : Int → Option Int} {u : Nat → Value} {F : Nat → List Int} {z : Int} {o : Obj} {v' : Value}
    (h : OwnP w0 wr (.slice (some ⟨g, 0, none⟩) n c) n u F) (hmi : MI wr pb np f) (hnp : np ≤ (k + 1) * 1024) (hpc : PcI es xs vs (vs.take k ++ [z]) n f) (hfl : PFill es f (vs.take k) [] F) (hk : k < vs.length) (hz : vs.getD k 0 = z) (hf : f z = some (j : Int)) (hi : j * 2 < n * 2)
    (hr : Own w0 w' v' (F (j * 2) ++ [z])) (hg : (wr.alloc o).grownBy w' (u (j * 2)).ownBlock) (ho : v'.ownBlock = (u (j * 2)).ownBlock ∨ v'.ownBlock = some (wr.heap.size + 1)) : PcOut w0 es vs xs pb (k + 1) (.slice (some ⟨g, 0, none⟩) n c) (w'.setCell ⟨g, j * 2, none⟩ v') :=
  ⟨n, f, np, _, _, h.put hi hr hg ho, h.put_map hg hmi, hnp, by rw [take_getD hk hz]; exact hpc, by rw [take_getD hk hz]; exact hfl.putv hf⟩
/-- The row at hand, one list of it under names of its own. -/
theorem OwnP.pick {w0 w : World} {v : Value} {n : Nat} {u : Nat → Value} {F : Nat → List Int} (h : OwnP w0 w v n u F) {i : Nat} (hi : i < n * 2) : ∃ g c A m k, v = .slice (some ⟨g, 0, none⟩) n c ∧ n ≤ c ∧ c ≤ 9223372036854775807 ∧ w.cell? ⟨g, i, none⟩ = some (.slice A m k) ∧ Hid (u i = .slice A m k) ∧ Hid (Own w0 w (.slice A m k) (F i)) := by
  obtain ⟨g, c, rfl, h1, h2, h3, h4, h5⟩ := h.at_ hi
  obtain ⟨A, m, k, e⟩ := (h.each i).slice_
  exact ⟨g, c, A, m, k, rfl, h1, h2, by rw [h5 i hi, e], Lib.hid e, Lib.hid (e ▸ h.each i)⟩
/-- One piece more: an empty one. -/
theorem PcOut.more {w0 wr w6 : World} {N : Int} {es : List (Int × Int)} {vs xs l : List Int} {pb n np : Nat} {f g : Int → Option Int} {v v6 : Value} {u : Nat → Value} {F : Nat → List Int} {z : Int} {o : Obj} {ms : List Int}
    (hown : OwnP w0 wr v n u F) (hmi : MI wr pb np (grow g f n)) (h6 : OwnP w0 w6 v6 (n + 1) u F) (hg6 : (wr.alloc o).grownBy w6 v.ownBlock) (hpc : PcI es xs vs l n f) (hfl : PFill es f l [] F) (hp : POK N es vs xs) (hz : z ∈ vs) (hf : f z = none) (hri : RI es xs (-1) z vs g ms ms.length) :
    ∃ f' n' j A c, v6 = .slice A n' c ∧ OwnP w0 w6 (.slice A n' c) n' u F ∧ MI w6 pb np f' ∧ Hid (PcI es xs vs (l ++ [z]) n' f') ∧ Hid (PFill es f' l [] F) ∧ Hid (f' z = some ((j : Nat) : Int)) ∧ Hid ((f' z).getD 0 = (j : Int)) ∧ j < n' ∧ j * 2 < n' * 2 := by
  obtain ⟨A, c, rfl⟩ := h6.len
  have hfz : grow g f n z = some (n : Int) := by unfold grow; rw [if_pos (by rw [hri.dist.start]; rfl)]
  exact ⟨grow g f n, n + 1, n, A, c, rfl, h6, MI.kept_ (MV.alloc hmi o : MI _ _ _ _) hg6 (fun e => hown.notMap hmi e.symm), Lib.hid (hpc.more hp hz hf hri.dist), Lib.hid (hfl.grow_ hpc hp hf hri.dist), Lib.hid hfz, Lib.hid (by rw [hfz]; rfl), by omega, by omega⟩
/-- While the edges are gone through. -/
def PcEd (w0 : World) (es : List (Int × Int)) (vs xs : List Int) (pb np n k : Nat) (f : Int → Option Int) (v : Value) (wr : World) : Prop :=
  ∃ u F, OwnP w0 wr v n u F ∧ MI wr pb np f ∧ PFill es f vs (xs.take k) F
theorem PcEd.put {w0 wr w' : World} {es : List (Int × Int)} {vs xs : List Int} {pb k n np g c j : Nat} {f : Int → Option Int} {u : Nat → Value} {F : Nat → List Int} {z : Int} {o : Obj} {v' : Value}
    (h : OwnP w0 wr (.slice (some ⟨g, 0, none⟩) n c) n u F) (hmi : MI wr pb np f) (hfl : PFill es f vs (xs.take k) F) (hk : k < xs.length) (hz : xs.getD k 0 = z) (hf : f (ends es z).1 = some (j : Int)) (hi : j * 2 + 1 < n * 2)
    (hr : Own w0 w' v' (F (j * 2 + 1) ++ [z])) (hg : (wr.alloc o).grownBy w' (u (j * 2 + 1)).ownBlock) (ho : v'.ownBlock = (u (j * 2 + 1)).ownBlock ∨ v'.ownBlock = some (wr.heap.size + 1)) : PcEd w0 es vs xs pb np n (k + 1) f (.slice (some ⟨g, 0, none⟩) n c) (w'.setCell ⟨g, j * 2 + 1, none⟩ v') :=
  ⟨_, _, h.put hi hr hg ho, h.put_map hg hmi, by rw [take_getD hk hz]; exact hfl.pute hf⟩
theorem PFill.lenv {es : List (Int × Int)} {f : Int → Option Int} {l ys : List Int} {F : Nat → List Int} (h : PFill es f l ys F) (j : Nat) : (F (j * 2)).length ≤ l.length ∧ (F (j * 2 + 1)).length ≤ ys.length := by
  rw [(h j).1, (h j).2]
  exact ⟨List.length_filter_le _ _, List.length_filter_le _ _⟩
end Go.Proofs.Ythobfbnopkbniaa
end

section
namespace Go.Proofs.Ythobfbnopkbniaa
open Go.RowKit

/-- Which piece: of the vertices of the first k pieces, and of those in l. -/
def pmap (f : Int → Option Int) (k : Nat) (l : List Int) : Int → Option Int := fun x => if x ∈ l then some (k : Int) else match f x with | some i => if i < k then some i else none | none => none
/-- A vertex of a walk. -/
def cornerOf (es : List (Int × Int)) (p : Int × List Int) : Int := if p.2 = [] then -1 - p.1 else tail es p.1
/-- How many walks are of piece j. -/
def faceCnt (es : List (Int × Int)) (f : Int → Option Int) (L : List (Int × List Int)) (j : Nat) : Nat := (L.filter fun p => f (cornerOf es p) == some (j : Int)).length
/-- .. of each of n pieces. -/
def faceCnts (es : List (Int × Int)) (f : Int → Option Int) (L : List (Int × List Int)) (n : Nat) : List Int := (List.range n).map fun j => (faceCnt es f L j : Int)
/-- A piece's genus. -/
def genusAt (es : List (Int × Int)) (vs xs : List Int) (f : Int → Option Int) (L : List (Int × List Int)) (j : Nat) : Int :=
  Int.tdiv (2 - ((vs.filter fun x => f x == some (j : Int)).length : Int) + ((xs.filter fun e => f (ends es e).1 == some (j : Int)).length : Int) - (faceCnt es f L j : Int)) 2
/-- All pieces' genus. -/
def genusOf (es : List (Int × Int)) (tt : List (List Int)) (vs xs : List Int) (f : Int → Option Int) (n : Nat) : List Int := (List.range n).map (genusAt es vs xs f (walksOf es tt vs xs))

section
variable {N : Int} {es : List (Int × Int)} {vs xs l : List Int} {tt : List (List Int)} {n k j : Nat} {f : Int → Option Int} {F : Nat → List Int} {L : List (Int × List Int)}
theorem pmap_start (hc : PcI es xs vs vs n f) (x : Int) : pmap f 0 [] x = none := by
  unfold pmap
  rw [if_neg (by simp)]
  split
  · rename_i i hi
    obtain ⟨j, rfl, hj⟩ := hc.lt x i hi
    rw [if_neg (by omega)]
  · rfl
theorem pmap_put (x z : Int) : upd (pmap f k l) z (k : Int) x = pmap f k (l ++ [z]) x := by
  unfold upd pmap
  by_cases h : x = z
  · rw [if_pos h, if_pos (by simp [h])]
  · rw [if_neg h]
    by_cases h2 : x ∈ l
    · rw [if_pos h2, if_pos (by simp [h2])]
    · rw [if_neg h2, if_neg (by simp [h, h2])]
theorem PcI.mem_vs (hc : PcI es xs vs vs n f) (hp : POK N es vs xs) {x i : Int} (h : f x = some i) : x ∈ vs := by
  obtain ⟨j, rfl, hj⟩ := hc.lt x i h
  obtain ⟨r, hr, h1⟩ := hc.root j hj
  exact ((h1 x).1 h).in_ hp hr
theorem pmap_next (hc : PcI es xs vs vs n f) (hp : POK N es vs xs) (hF : PFill es f vs xs F) (x : Int) : pmap f k (F (k * 2)) x = pmap f (k + 1) [] x := by
  unfold pmap
  rw [if_neg (show ¬ x ∈ ([] : List Int) by simp), (hF k).1]
  by_cases h : f x = some (k : Int)
  · rw [if_pos (List.mem_filter.2 ⟨hc.mem_vs hp h, by rw [h]; simp⟩), h]
    dsimp only
    rw [if_pos (by omega)]
  · rw [if_neg (fun hm => h (by simpa using (List.mem_filter.1 hm).2))]
    cases hf : f x with
    | none => rfl
    | some i =>
      dsimp only
      have hne : i ≠ (k : Int) := fun e => h (by rw [hf, e])
      by_cases hlt : i < (k : Int)
      · rw [if_pos hlt, if_pos (by omega)]
      · rw [if_neg hlt, if_neg (by omega)]
theorem pmap_all (hc : PcI es xs vs vs n f) (x : Int) : pmap f n [] x = f x := by
  unfold pmap
  rw [if_neg (by simp)]
  cases hf : f x with
  | none => rfl
  | some i =>
    obtain ⟨j, rfl, hj⟩ := hc.lt x i hf
    dsimp only
    rw [if_pos (by omega)]

theorem walks_corner (hp : POK N es vs xs) {p : Int × List Int} (h : p ∈ walksOf es tt vs xs) : (p.2 = [] → ∃ v ∈ vs, p.1 = -1 - v) ∧ (p.2 ≠ [] → p.1 / 2 ∈ xs) ∧ cornerOf es p ∈ vs := by
  unfold walksOf at h
  rcases List.mem_append.1 h with h | h
  · unfold lone at h
    obtain ⟨v, hv, rfl⟩ := List.mem_map.1 h
    have hv2 := List.mem_reverse.1 (List.mem_filter.1 hv).1
    refine ⟨fun _ => ⟨v, hv2, rfl⟩, fun hn => absurd rfl hn, ?_⟩
    unfold cornerOf
    rw [if_pos rfl]
    rw [show (-1 : Int) - (-1 - v) = v by omega]
    exact hv2
  · unfold faces at h
    obtain ⟨d, hd, rfl⟩ := List.mem_map.1 h
    have hdx := mem_allDarts.1 (List.mem_filter.1 hd).1
    have ho : orb (nx es tt) (2 * xs.length) d ≠ [] := by
      have h1 : xs.length ≠ 0 := fun e => by
        rw [List.eq_nil_of_length_eq_zero e] at hdx
        simp at hdx
      obtain ⟨q, hq⟩ : ∃ q, 2 * xs.length = q + 1 := ⟨2 * xs.length - 1, by omega⟩
      rw [hq]
      unfold orb orbFrom
      split <;> simp
    refine ⟨fun e => absurd e ho, fun _ => hdx, ?_⟩
    unfold cornerOf
    rw [if_neg ho]
    exact (head_in hp hdx).2
theorem walks_len (hp : POK N es vs xs) : (walksOf es tt vs xs).length ≤ 4096 := by
  unfold walksOf
  rw [List.length_append]
  have h1 := lone_len tt vs
  have h2 : (faces (nx es tt) (2 * xs.length) (allDarts xs)).length ≤ (allDarts xs).length := by
    unfold faces
    rw [List.length_map]
    exact List.length_filter_le _ _
  rw [allDarts_len] at h2
  have h3 := xs_len hp
  have h4 := nodup_len (a := vs) (b := upto1 N.toNat) (sorted_nodup hp.vp) fun x hx => mem_upto1.2 (by have := hp.vr x hx; omega)
  rw [upto1_len] at h4
  have := hp.size
  omega
theorem faceCnt_le (es : List (Int × Int)) (f : Int → Option Int) (L : List (Int × List Int)) (j : Nat) : faceCnt es f L j ≤ L.length := List.length_filter_le _ _
theorem faceCnts_len : (faceCnts es f L n).length = n := by unfold faceCnts; simp
theorem faceCnts_get (hj : j < n) : (faceCnts es f L n).getD j 0 = (faceCnt es f L j : Int) := by
  unfold faceCnts
  rw [List.getD_eq_getElem?_getD, List.getElem?_map, List.getElem?_range hj]
  rfl
theorem faceCnts_nil : faceCnts es f [] n = List.replicate n 0 := by
  refine List.ext_getElem (by simp [faceCnts]) fun i h1 h2 => ?_
  simp [faceCnts, faceCnt]
/-- One walk more, of piece j. -/
theorem faceCnts_step {p : Int × List Int} (hk : k < L.length) (hpk : L.getD k (0, []) = p) (hj : f (cornerOf es p) = some (j : Int)) :
    (faceCnts es f (L.take k) n).set j ((faceCnt es f (L.take k) j : Int) + 1) = faceCnts es f (L.take (k + 1)) n := by
  have ht : L.take (k + 1) = L.take k ++ [p] := by
    rw [List.take_add_one, List.getElem?_eq_getElem hk]
    rw [List.getD_eq_getElem?_getD, List.getElem?_eq_getElem hk] at hpk
    rw [← hpk]
    rfl
  refine List.ext_getElem (by simp [faceCnts]) fun i h1 h2 => ?_
  rw [List.getElem_set]
  simp only [faceCnts, List.getElem_map, List.getElem_range]
  rw [ht]
  unfold faceCnt
  rw [List.filter_append, List.length_append]
  by_cases e : j = i
  · subst e
    rw [if_pos rfl]
    simp [hj]
  · rw [if_neg e]
    have : ¬ (j : Int) = (i : Int) := by omega
    simp [hj, this]
theorem genusOf_len : (genusOf es tt vs xs f n).length = n := by unfold genusOf; simp
theorem range_map_next {α : Type} (g : Nat → α) (k : Nat) : (List.range (k + 1)).map g = (List.range k).map g ++ [g k] := by rw [List.range_succ, List.map_append]; rfl
theorem filter_small (hp : POK N es vs xs) (hF : PFill es f vs xs F) (j : Nat) : (F (j * 2)).length ≤ 1024 ∧ (F (j * 2 + 1)).length ≤ 1024 := by
  obtain ⟨h1, h2⟩ := hF.lenv j
  have h3 := xs_len hp
  have h4 := nodup_len (a := vs) (b := upto1 N.toNat) (sorted_nodup hp.vp) fun x hx => mem_upto1.2 (by have := hp.vr x hx; omega)
  rw [upto1_len] at h4
  have := hp.size
  omega
theorem genusAt_eq (hF : PFill es f vs xs F) (j : Nat) : genusAt es vs xs f L j = Int.tdiv (2 - ((F (j * 2)).length : Int) + ((F (j * 2 + 1)).length : Int) - (faceCnt es f L j : Int)) 2 := by
  unfold genusAt
  rw [(hF j).1, (hF j).2]
end
end Go.Proofs.Ythobfbnopkbniaa
end

section
namespace Go.Proofs.Ythobfbnopkbniaa
open Go.RowKit


theorem leaves_any (w : World) (N : Int) (A : Option Addr) (m c : Nat) (es : List (Int × Int)) (d : Int) (hg : ES w w.heap.size A m c es) (h0 : 0 ≤ d) (h1 : d < 2 * m) :
    Calls Try.prog 79 #[.agg #[.int .i64 N, .slice A m c], .int .i64 d] w fun e w' => e = .returned (.int .i64 (tail es d)) ∧ Below w.heap.size w w' := by
  have hm := hg.le
  have hc := hg.cap
  obtain ⟨q, rfl⟩ := Int.eq_ofNat_of_zero_le h0
  have hq : q / 2 < m := by omega
  obtain ⟨w1, hw1, b1, hs1, hcell⟩ := box_one w #[.int .i64 N, .slice A m c] 24
  have c1 : w1.cell? ⟨w.heap.size, 1, none⟩ = some (.slice A m c) := hcell 1
  obtain ⟨b, o, x, y, rfl, hb, hxy, hx64, hy64, hcx, hcy⟩ := (hg.below b1).get hq
  have hen : Hid (ends es ((q : Int) / 2) = (x, y)) := Lib.hid (by unfold ends; rw [show ((q : Int) / 2).toNat = q / 2 from by omega]; exact hxy.out)
  have HH := Lib.hid hg
  clear hg hcell
  by_cases hp : q % 2 = 0
  · have hp' : ((q : Int) % 2 == 0) = true := by simp; omega
    have ht : Hid (tail es (q : Int) = x) := Lib.hid (by
      unfold tail
      rw [if_pos (show (q : Int) % 2 = 0 by omega), hen.out])
    clear hp
    go_enter Try.func79, Try.ntmps79
    go_wp2
    go_ret
    exact ⟨ret_int ht.out.symm, b1⟩
  · have hp' : ((q : Int) % 2 == 0) = false := by simp; omega
    have ht : Hid (tail es (q : Int) = y) := Lib.hid (by
      unfold tail
      rw [if_neg (show ¬ (q : Int) % 2 = 0 by omega), hen.out])
    clear hp
    go_enter Try.func79, Try.ntmps79
    go_wp2
    go_ret
    exact ⟨ret_int ht.out.symm, b1⟩
end Go.Proofs.Ythobfbnopkbniaa
end

section
namespace Go.Proofs.Ythobfbnopkbniaa
open Go.RowKit

set_option maxHeartbeats 16000000 in
set_option maxRecDepth 100000 in
theorem pieces_any (w : World) (N : Int) (A : Option Addr) (m c : Nat) (es : List (Int × Int)) (Av : Option Addr) (nv cv : Nat) (vs : List Int) (Ae : Option Addr) (ne ce : Nat) (xs : List Int) (h : GP w N A m c es Av nv cv vs Ae ne ce xs) : Calls Try.prog 46 #[.agg #[.int .i64 N, .slice A m c], .agg #[.slice Av nv cv, .slice Ae ne ce]] w (PcRes w N es vs xs) := by
  obtain ⟨r, hr⟩ : ∃ r, pRight N es vs xs = r := ⟨_, rfl⟩
  have HR := Lib.hid hr
  obtain ⟨w1, hw1, b1, gb1⟩ := box_gp w N A m c es Av nv cv Ae ne ce
  have h1 := h.step b1
  clear h
  by_cases hr0 : r = 0
  · subst hr0
    have hp := Lib.hid (pRight_ok hr)
    clear hr
    go_enter Try.func46, Try.ntmps46
    have ⟨_, _, c0, c1, c2, c3, _⟩ := gb1
    go_wp2_with fail
    refine (gRightPart_any w1 N A m c es Av nv cv vs Ae ne ce xs h1).mono ?_
    rintro e w2 ⟨rfl, b2⟩
    rw [HR.out]
    have h2 := h1.step b2
    have gb2 := gb1.step b2
    replace b1 := bstep b1 b2
    clear hw1 h1 c0 c1 c2 c3 gb1 b2
    have ⟨hg2, hp2, c0, c1, c2, c3, _⟩ := gb2
    go_wp2_with fail
    refine (leaving_any w2 N A m c es Av nv cv vs Ae ne ce xs h2 hp.out).mono ?_
    rintro e w0 ⟨db, rfl, hdm, _, b3⟩
    have h0 := h2.step b3
    have gb0 := gb2.step b3
    replace b1 := bstep b1 b3
    have hdb := Lib.hid hdm.db
    have B1 := Lib.hid b1
    clear h2 c0 c1 c2 c3 gb2 b3 hg2 hp2 hdm b1
    have ⟨hg0, hp0, c0, c1, c2, c3, _⟩ := gb0
    have hlenv := h0.v.len
    have hlev := h0.v.le
    have hcapv := h0.v.cap
    have hlene := h0.e.len
    have hlee := h0.e.le
    have hcape := h0.e.cap
    have hmg := h0.g.len
    have hmc := h0.g.cap
    have hmle := h0.g.le
    have H0 := Lib.hid h0
    have GB0 := Lib.hid gb0
    have hmm := run_makeMap_ints
    obtain ⟨hvl, hxl2, hNl⟩ := hp.out.lens
    have hmi0 := MI.made w0
    have hst : PcOut w0 es vs xs w0.heap.size 0 (.slice none 0 0) (w0.alloc (.map #[] 0)) := ⟨0, _, 0, _, _, OwnP.start ((Below.refl _ _).alloc (Nat.le_refl _) _), hmi0, Nat.le_refl _, PcI.start_, PFill.start_⟩
    clear h0 gb0 hmi0
    go_wp2
    obtain ⟨wm, hwm⟩ : ∃ wm : World, wm = w0.alloc (.map #[] 0) := ⟨_, rfl⟩
    rw [← hwm] at hst ⊢
    have hbm : Below w0.heap.size w0 wm := by rw [hwm]; exact (Below.refl _ _).alloc (Nat.le_refl _) _
    have k3 : wm.cell? ⟨w.heap.size + 1, 0, none⟩ = some (.slice Av nv cv) := (hbm.cell hp0).trans c2
    clear hwm c0 c1 c2 c3
    go_wp2
    go_loopw [9, 32] (fun v i wr => ∃ k : Nat, k ≤ nv ∧ i = .int .i64 k ∧ PcOut w0 es vs xs w0.heap.size k v wr) (fun _ i _ => nv - (intOf i).toNat)
    case atStart => exact ⟨0, Nat.zero_le _, rfl, hst⟩
    case round =>
      clear hst k3
      obtain ⟨k, hk, rfl, n, f, np, u, F, hown, hmi, hnp, hpc, hfl⟩ := hrel
      have hbel := hown.below
      by_cases hlt : k < nv
      · obtain ⟨bv, ov, z, hAv, hbv, hz, hz64, hcz⟩ := (H0.out.v.below hbel).get hlt
        subst hAv
        have hkl : Hid (k < vs.length) := Lib.hid (by omega)
        have ⟨_, _, c0, c1, c2, c3, _⟩ := GB0.out.step hbel
        have HZ := Lib.hid (hz.out ▸ (getD_idx hkl.out ▸ List.getElem_mem hkl.out : vs.getD k 0 ∈ vs) : z ∈ vs)
        cases hf : f z with
        | none =>
          have HF := Lib.hid hf
          have OW0 := Lib.hid hown
          have MI0 := Lib.hid hmi
          have PC0 := Lib.hid hpc
          have FL0 := Lib.hid hfl
          clear hf
          obtain ⟨vA0, vc0, rfl⟩ := hown.len
          clear hpc hfl hown
          go_wp2_with (with_reducible show wpList _ _ _ (Oper.mk (some 39) _ _ _ _ _ :: _) _ _; go_must (refine wpList_iok_none (g := f) (k := z) rfl _ _ rfl rfl hmi rfl hz64 HF.out ?_))
          refine (reach_any wr N A m c es vs xs db z (-1) (H0.out.step hbel).g ((hdb.out.below hbel).dm hbel.size) hp.out HZ.out).mono ?_
          rintro e wq ⟨fb, g, ms, rfl, hmig, hri, hfb, hbq⟩
          have hpq : w0.heap.size < wr.heap.size := hmi.lt
          have hmq : MI wq w0.heap.size np f := MV.below hmi hbq hpq
          have hsq := hbq.size
          have OWQ := Lib.hid (OW0.out.later hbq)
          have HRI := Lib.hid hri
          have HML := Lib.hid hri.len
          clear OW0 MI0 hmi hri hbq c0 c1 c2 c3 hcz
          go_wp2_with (first | (at_range; refine wpList_rm_range rfl _ rfl rfl hmig ?_; intro ws hrm hgs hss) | go_in)
          go_frame
          have hst : PcIn wq f g w0.heap.size fb k ms.length n ws := PcIn.start_ hrm hmq hgs (by have := HML.out; omega)
          have HMQ := Lib.hid hmq
          clear hrm hgs hss hmig hmq
          go_loopw [14] (fun _ wi => PcIn wq f g w0.heap.size fb k ms.length n wi) (fun _ wi => wi.rangeLeft fb wq.heap.size)
          case atStart => exact hst
          case round =>
            clear hst
            obtain ⟨left, cnt, np', hrm, hmi, hle, hgq⟩ := hrel
            go_wp2_with (first | (at_next; refine wpList_rm_next rfl _ rfl rfl hrm ?_ ?_) | go_in)
            · intro hc0 hl0
              replace hmi := PcIn.end_ hmi hl0
              have hown := OWQ.out.mapped HMQ.out (Nat.le_refl _) hgq
              have hn6 : n + 1 ≤ 1000000 := by have := PC0.out.le; have h2 : (vs.take k).length ≤ k := List.length_take_le _ _; omega
              have NP := Lib.hid (show np' ≤ (k + 1) * 1024 by omega)
              clear hgq hc0 hl0 hle hrm
              have hlen : ∀ j : Nat, Hid ((F (j * 2)).length + 1 ≤ 1000000000000) := fun j => Lib.hid (by have h1 := (FL0.out.lenv j).1; have h2 : (vs.take k).length ≤ k := List.length_take_le _ _; omega)
              go_wp2_with (first
                | ((with_reducible show wpList _ _ _ (Oper.mk (some 60) _ _ _ _ _ :: _) _ _); go_must (refine wpList_append_part rfl _ _ rfl rfl hown rfl hn6 ?_; intro v6 w6 hown6 hg6; obtain ⟨f', n', j, A6, c6, rfl, hown6', hmi6, PC, FL, HFJ, HFG, HJ, hin⟩ := PcOut.more hown hmi hown6 hg6 PC0.out FL0.out hp.out HZ.out HF.out HRI.out; clear hown6 hg6; have OW := Lib.hid hown6'; obtain ⟨gb, cc, vA, vn, vc, hsl, hnc, hcm, e0, HUE, EACH⟩ := hown6'.pick hin; cases hsl; clear hown6'))
                | (with_reducible show wpList _ _ _ (Oper.mk (some 63) _ _ _ _ _ :: _) _ _; go_must (refine wpList_ilook (k := z) rfl _ _ rfl rfl hmi6 rfl hz64 _ HFG.out ?_))
                | (with_reducible show wpList _ _ _ (Oper.mk (some 73) _ _ _ _ _ :: _) _ _; go_must (refine wpList_append_one (v := .slice vA vn vc) (w0 := w0) rfl _ _ rfl rfl EACH.out _ hz64 rfl (hlen j).out ?_; intro v' w5 hown' hg5' hb5'; obtain ⟨hc5, hf5⟩ := OW.out.mid hin (HUE.out ▸ hg5'); obtain ⟨xA, xn, xc, rfl⟩ := hown'.slice_)))
              go_roundw
              case rel => exact ⟨k + 1, by omega, by go_num, PcOut.put OW.out hmi6 NP.out PC.out FL.out hkl.out hz.out HFJ.out hin hown' (HUE.out ▸ hg5') (HUE.out ▸ hb5')⟩
              case measure => simp [intOf]; omega
            · intro x cx wx cnt' hx64 hx hgx hrm' hlt' hgr hsz hen
              have hmix := MI.kept_ hmi hgr (by simp; omega)
              have hnp' : np' < 1000000000000 := by omega
              have HX := Lib.hid hx
              have HGX := Lib.hid hgx
              have HRM := Lib.hid hrm'
              have LE := Lib.hid hle
              have GQ := Lib.hid hgq
              have GR := Lib.hid hgr
              have RMO := Lib.hid hrm
              clear hmi hrm hrm' hle hgq hgr hx hgx hsz
              go_wp2_with (with_reducible show wpList _ _ _ (Oper.mk none (Op.mapUpdate _ _ _ _) _ _ _ _ :: _) _ _; go_must (refine wpList_istore rfl _ _ _ rfl rfl hmix hnp' x rfl hx64 n rfl ?_; intro w7 hmi7 hg7))
              go_frame
              go_roundw
              case rel => exact PcIn.step HX.out HGX.out HRM.out hlt' GR.out ⟨_, ite_le _, hmi7⟩ hg7 LE.out GQ.out (by omega) (by omega)
              case measure =>
                rw [(HRM.out.kept hg7 (by simp; omega) (by simp; omega)).left_eq, RMO.out.left_eq]
                omega
        | some j0 =>
          obtain ⟨j, rfl, hj⟩ := hpc.lt z j0 hf
          have hin : j * 2 < n * 2 := by omega
          have hlen : Hid ((F (j * 2)).length + 1 ≤ 1000000000000) := Lib.hid (by have h1 := (hfl.lenv j).1; have h2 : (vs.take k).length ≤ k := List.length_take_le _ _; omega)
          have FL := Lib.hid hfl
          have OW := Lib.hid hown
          obtain ⟨gb, cc, vA, vn, vc, hsl, hnc, hcm, e0, HUE, EACH⟩ := hown.pick hin
          cases hsl
          have HFJ := Lib.hid hf
          have HFG : Hid ((f z).getD 0 = (j : Int)) := Lib.hid (by rw [hf]; rfl)
          have PC := Lib.hid (hpc.met hf)
          have NP : Hid (np ≤ (k + 1) * 1024) := Lib.hid (by omega)
          clear hf hpc hfl hown
          go_wp2_with (first
            | (with_reducible show wpList _ _ _ (Oper.mk (some 39) _ _ _ _ _ :: _) _ _; go_must (refine wpList_iok_some (g := f) (k := z) rfl _ _ rfl rfl hmi rfl hz64 _ HFJ.out ?_))
            | (with_reducible show wpList _ _ _ (Oper.mk (some 63) _ _ _ _ _ :: _) _ _; go_must (refine wpList_ilook (k := z) rfl _ _ rfl rfl hmi rfl hz64 _ HFG.out ?_))
            | (with_reducible show wpList _ _ _ (Oper.mk (some 73) _ _ _ _ _ :: _) _ _; go_must (refine wpList_append_one (v := .slice vA vn vc) (w0 := w0) rfl _ _ rfl rfl EACH.out _ hz64 rfl hlen.out ?_; intro v' w5 hown' hg5' hb5'; obtain ⟨hc5, hf5⟩ := OW.out.mid hin (HUE.out ▸ hg5'); obtain ⟨xA, xn, xc, rfl⟩ := hown'.slice_)))
          go_roundw
          case rel => exact ⟨k + 1, by omega, by go_num, PcOut.put OW.out hmi NP.out PC.out FL.out hkl.out hz.out HFJ.out hin hown' (HUE.out ▸ hg5') (HUE.out ▸ hb5')⟩
          case measure => simp [intOf]; omega
      · obtain rfl : k = nv := by omega
        rw [List.take_of_length_le (by omega)] at hpc hfl
        obtain ⟨vA0, vc0, rfl⟩ := hown.len
        have hst : PcEd w0 es vs xs w0.heap.size np n 0 f (.slice vA0 n vc0) wr := ⟨u, F, hown, hmi, hfl⟩
        have HB := Lib.hid hbel
        have PC := Lib.hid hpc
        have ⟨_, _, c0, c1, c2, c3, _⟩ := GB0.out.step hbel
        clear hown hmi hfl hpc hbel
        go_wp2
        obtain ⟨ws, hws⟩ : ∃ ws : World, ws = wr := ⟨_, rfl⟩
        rw [← hws] at hst ⊢
        clear hws c0 c1 c2 c3 HB
        go_loopw [80] (fun i wr => ∃ k : Nat, k ≤ ne ∧ i = .int .i64 k ∧ PcEd w0 es vs xs w0.heap.size np n k f (.slice vA0 n vc0) wr) (fun i _ => ne - (intOf i).toNat)
        case atStart => exact ⟨0, Nat.zero_le _, rfl, hst⟩
        case round =>
          clear hst
          obtain ⟨k, hk, rfl, u, F, hown, hmi, hfl⟩ := hrel
          have hbel := hown.below
          by_cases hlt : k < ne
          · obtain ⟨be, oe, z, rfl, hbe, hz, hz64, hcz⟩ := (H0.out.e.below hbel).get hlt
            have hkl : Hid (k < xs.length) := Lib.hid (by omega)
            have hzm := H0.out.e.mem hlt
            rw [hz.out] at hzm
            have hzr := hp.out.xr z hzm
            have hen' := hp.out.ends z hzm
            obtain ⟨q, rfl⟩ := Int.eq_ofNat_of_zero_le hzr.1
            have hqm : q < m := by omega
            obtain ⟨bg, og, x, y, rfl, hbg, hxy, hx64, hy64, hcx, hcy⟩ := (H0.out.g.below hbel).get hqm
            have hen : ends es q = (x, y) := by unfold ends; rw [Int.toNat_natCast]; exact hxy.out
            have hq0 : (0 : Int) ≤ (q : Int) := by omega
            have hq1 : (q : Int) < (m : Int) := by omega
            have hxv : x ∈ vs := by simpa [hen] using hen'.1
            obtain ⟨j0, hj0⟩ := Option.isSome_iff_exists.1 (PC.out.all x hxv)
            obtain ⟨j, rfl, hj⟩ := PC.out.lt x j0 hj0
            have hin : j * 2 + 1 < n * 2 := by omega
            have hlen : Hid ((F (j * 2 + 1)).length + 1 ≤ 1000000000000) := Lib.hid (by have h1 := (hfl.lenv j).2; have h2 : (xs.take k).length ≤ k := List.length_take_le _ _; omega)
            have FL := Lib.hid hfl
            have OW := Lib.hid hown
            obtain ⟨gb, cc, vA, vn, vc, hsl, hnc, hcm, e0, HUE, EACH⟩ := hown.pick hin
            have HFJ : Hid (f (ends es q).1 = some (j : Int)) := Lib.hid (by rw [hen]; exact hj0)
            have HFG : Hid ((f x).getD 0 = (j : Int)) := Lib.hid (by rw [hj0]; rfl)
            have ⟨_, _, c0, c1, _, _, _⟩ := GB0.out.step hbel
            cases hsl
            clear hown hfl hj0 hen hen' hzm hzr
            go_wp2_with (first
              | (with_reducible show wpList _ _ _ (Oper.mk (some 91) _ _ _ _ _ :: _) _ _; go_must (refine wpList_ilook (k := x) rfl _ _ rfl rfl hmi rfl hx64 _ HFG.out ?_))
              | (with_reducible show wpList _ _ _ (Oper.mk (some 101) _ _ _ _ _ :: _) _ _; go_must (refine wpList_append_one (v := .slice vA vn vc) (w0 := w0) rfl _ _ rfl rfl EACH.out _ hz64 rfl hlen.out ?_; intro v' w5 hown' hg5' hb5'; obtain ⟨hc5, hf5⟩ := OW.out.mid hin (HUE.out ▸ hg5'); obtain ⟨xA, xn, xc, rfl⟩ := hown'.slice_)))
            go_roundw
            case rel => exact ⟨k + 1, by omega, by go_num, PcEd.put OW.out hmi FL.out hkl.out hz.out HFJ.out hin hown' (HUE.out ▸ hg5') (HUE.out ▸ hb5')⟩
            case measure => simp [intOf]; omega
          · obtain rfl : k = ne := by omega
            rw [List.take_of_length_le (by omega)] at hfl
            have FL := Lib.hid hfl
            have OW := Lib.hid hown
            have HB := Lib.hid hbel
            clear hown hfl hbel hmi
            go_wp2
            go_ret2
            exact ⟨bstep B1.out HB.out, .inr ⟨HR.out, _, n, f, u, F, rfl, OW.out.from B1.out, PC.out, FL.out⟩⟩
  · have hrb : (r != 0) = true := by simp [hr0]
    have HR0 := Lib.hid hr0
    clear hr0 hr
    go_enter Try.func46, Try.ntmps46
    have ⟨_, _, c0, c1, c2, c3, _⟩ := gb1
    go_wp2_with fail
    refine (gRightPart_any w1 N A m c es Av nv cv vs Ae ne ce xs h1).mono ?_
    rintro e w2 ⟨rfl, b2⟩
    rw [HR.out]
    go_wp2
    go_ret2
    exact ⟨bstep b1 b2, .inl ⟨by rw [HR.out]; exact HR0.out, by rw [HR.out]; rfl⟩⟩
end Go.Proofs.Ythobfbnopkbniaa
end

section
namespace Go.Proofs.Ythobfbnopkbniaa
open Go.RowKit

/-- What face.Genus answers. -/
def GenusAns (w : World) (N : Int) (es : List (Int × Int)) (vs xs : List Int) (tt : List (List Int)) (e : Ending) (w' : World) : Prop :=
  ((pRight N es vs xs = 0 ∧ TurnOK N es xs tt ∧ ∃ n f A c, PcI es xs vs vs n f ∧ e = .returned (.tuple #[.slice A n c, .int .i64 0]) ∧ IS w' w'.heap.size A n c (genusOf es tt vs xs f n)) ∨
    (¬ (pRight N es vs xs = 0 ∧ TurnOK N es xs tt) ∧ e = .returned (.tuple #[.slice none 0 0, .int .i64 (if pRight N es vs xs = 0 then 5 else pRight N es vs xs)]))) ∧ Below w.heap.size w w'

theorem run_makeMap_hint (w : World) (k : IntKind) (n : Int) : (Instr.makeMap 52 (some (.int k n))).run Try.prog w = .ok (.map (some w.heap.size)) (w.alloc (.map #[] 0)) := by
  simp [Instr.makeMap, run_underlying Try.underlying52, asInt, asIntOf]
theorem PS.getB {w w' : World} {B n c : Nat} {A : Option Addr} {F : Nat → List Int} (h : PS w B A n c F) (hB : Below B w w') {k : Nat} (hk : k < n) :
    ∃ b o A1 n1 c1 A2 n2 c2, A = some ⟨b, o, none⟩ ∧ b < B ∧ w'.cell? ⟨b, o + k * 2, none⟩ = some (.slice A1 n1 c1) ∧ w'.cell? ⟨b, o + k * 2 + 1, none⟩ = some (.slice A2 n2 c2) ∧ IS w B A1 n1 c1 (F (k * 2)) ∧ IS w B A2 n2 c2 (F (k * 2 + 1)) := by
  obtain ⟨b, o, e, hb, hc⟩ := h.2.2 (by omega)
  obtain ⟨A1, n1, c1, h1, i1⟩ := hc (k * 2) (by omega)
  obtain ⟨A2, n2, c2, h2, i2⟩ := hc (k * 2 + 1) (by omega)
  exact ⟨b, o, A1, n1, c1, A2, n2, c2, e, hb, (hB.cell (p := ⟨b, o + k * 2, none⟩) hb).trans h1, (hB.cell (p := ⟨b, o + k * 2 + 1, none⟩) hb).trans (by rw [Nat.add_assoc]; exact h2), i1, i2⟩
/-- 'make([]int, n)': n zeros. -/
theorem wpList_make_zeros {w0 w : World} {ops : Array Oper} {rest : List Oper} {o : Oper} {a : Act} {Q : Exit → Act → World → Prop} (hg : o.guard = none) (l c : Operand) (hop : o.op = Op.makeSlice 25 l c)
    (hb : Below w0.heap.size w0 w) (kl kc : IntKind) (n : Nat) (hl : a.eval l = .int kl (n : Int)) (hc : a.eval c = .int kc (n : Int)) (hn : n ≤ 1000000)
    (hK : ∀ w', Own w0 w' (.slice (some ⟨w.heap.size, 0, none⟩) n n) (List.replicate n 0) → w.grownBy w' none → wpList Try.prog ops Q rest (a.put o.dst (.slice (some ⟨w.heap.size, 0, none⟩) n n)) w') : wpList Try.prog ops Q (o :: rest) a w := by
  obtain ⟨i0, hi, hz0, hz1, hz2⟩ := info_parts Try.infoInt
  obtain ⟨w', hrun, h1, h2⟩ := run_make_full (P := Try.prog) w w0.heap.size 25 3 i0 (.int .i64 0) 1 Try.underlying25 hi hz0 hz1 kl kc n (by rw [hz2]; omega) (by unfold maxLen; omega) hb.size
  have hcl : (Value.int IntKind.i64 0).cells = #[.int .i64 0] := rfl
  rw [hcl, Nat.mul_one, toList_madeCells_one] at h1
  refine wpList_plain hg fun K hK' => ?_
  unfold Oper.wp
  simp [execOp, hop, hl, hc, hrun, Result.andThen]
  refine hK' _ _ (hK w' ⟨?_, hb.grown h2 hb.size (fun k hk => by cases hk), fun x hx => ?_⟩ h2)
  · rw [List.length_replicate, List.map_replicate]
    exact h1
  · rw [(List.mem_replicate.1 hx).2]
    exact ⟨by omega, by omega⟩
/-- 'v[j] = x', v a row of the call's own. -/
theorem Own.stored {w0 w : World} {g n c j : Nat} {xs : List Int} {x : Int} (h : Own w0 w (.slice (some ⟨g, 0, none⟩) n c) xs) (hx : I64 x) : Own w0 (w.setCell ⟨g, j, none⟩ (.int .i64 x)) (.slice (some ⟨g, 0, none⟩) n c) (xs.set j x) ∧ w.grownBy (w.setCell ⟨g, j, none⟩ (.int .i64 x)) (some g) := by
  have hn : xs.length = n := by
    rcases h.row.2 with ⟨h', _⟩ | ⟨g', cap', cur, h', _⟩
    · simp at h'
    · injection h' with _ h1 _
      exact h1.symm
  have hr := h.row
  rw [hn] at hr
  obtain ⟨h1, h2⟩ := hr.stored j (.int .i64 x)
  have hg : w0.heap.size ≤ g := (h.row.lt g rfl).1
  refine ⟨⟨?_, h.below.grown h2 h.below.size (fun k hk => by cases hk; exact hg), fun y hy => ?_⟩, h2⟩
  · rw [List.length_set, hn, List.map_set]
    exact h1
  · rcases List.mem_or_eq_of_mem_set hy with h3 | h3
    · exact h.i64 y h3
    · rw [h3]; exact hx
theorem Own.cellOf {w0 w : World} {g n c j : Nat} {xs : List Int} (h : Own w0 w (.slice (some ⟨g, 0, none⟩) n c) xs) (hj : j < n) (hn : xs.length = n) : w.cell? ⟨g, j, none⟩ = some (.int .i64 (xs.getD j 0)) ∧ w.frozen? ⟨g, j, none⟩ = false := by
  have hr := h.row
  rw [hn] at hr
  refine ⟨?_, hr.frozenAt j⟩
  rw [hr.cellAt j (by omega), List.getElem?_map, List.getElem?_eq_getElem (by omega), List.getD_eq_getElem?_getD, List.getElem?_eq_getElem (by omega)]
  rfl

/-- While the walks are counted. -/
def GCn (w6 : World) (es : List (Int × Int)) (f : Int → Option Int) (mb fb n k : Nat) (L : List (Int × List Int)) (wr : World) : Prop := Own w6 wr (.slice (some ⟨fb, 0, none⟩) n n) (faceCnts es f (L.take k) n) ∧ ∃ cnt, MI wr mb cnt f
theorem GCn.put {w6 wr w8 : World} {es : List (Int × Int)} {f : Int → Option Int} {mb fb n k j q : Nat} {L : List (Int × List Int)} {p : Int × List Int} (h : GCn w6 es f mb fb n k L wr) (hb : Below wr.heap.size wr w8) (hmf : mb ≠ fb) (hk : k < L.length) (hpk : L.getD k (0, []) = p) (hj : f (cornerOf es p) = some (j : Int)) (hq : faceCnt es f (L.take k) j = q) (hq4 : q ≤ 4096) :
    GCn w6 es f mb fb n (k + 1) L (w8.setCell ⟨fb, j, none⟩ (.int .i64 ((q : Int) + 1))) := by
  obtain ⟨h1, cnt, h2⟩ := h
  obtain ⟨h3, h4⟩ := (h1.later hb).stored (j := j) (x := (q : Int) + 1) ⟨by omega, by omega⟩
  refine ⟨?_, cnt, MI.kept_ (MV.step h2 hb) h4 (by simpa using hmf)⟩
  rw [← hq, faceCnts_step hk hpk hj] at h3
  rw [← hq]
  exact h3

/-- While the pieces' vertices are gone through. -/
def GIn (w6 : World) (f : Int → Option Int) (mb k t : Nat) (l : List Int) (wr : World) : Prop := Below w6.heap.size w6 wr ∧ ∃ cnt, cnt ≤ k * 1024 + t ∧ MI wr mb cnt (pmap f k (l.take t))
theorem GIn.put {w6 wr w' : World} {f : Int → Option Int} {mb k t cnt : Nat} {l : List Int} {z : Int} (hb : Below w6.heap.size w6 wr) (hc : cnt ≤ k * 1024 + t) (hmb : w6.heap.size ≤ mb) (ht : t < l.length) (hz : l.getD t 0 = z)
    (hm : MI w' mb (if (pmap f k (l.take t) z).isSome then cnt else cnt + 1) (upd (pmap f k (l.take t)) z (k : Int))) (hg : wr.grownBy w' (some mb)) : GIn w6 f mb k (t + 1) l w' := by
  refine ⟨hb.grown hg hb.size (fun j hj => by cases hj; exact hmb), (if (pmap f k (l.take t) z).isSome then cnt else cnt + 1), ?_, ?_⟩
  · have := ite_le (c := (pmap f k (l.take t) z).isSome = true) cnt
    omega
  · refine hm.congr fun x _ => ?_
    show Option.map _ _ = Option.map _ _
    rw [take_getD ht hz, pmap_put]
theorem GIn.alloc {w6 wr : World} {f : Int → Option Int} {mb k : Nat} {l : List Int} (h : GIn w6 f mb k 0 [] wr) (o : Obj) : GIn w6 f mb k 0 l (wr.alloc o) := by
  obtain ⟨hb, cnt, hc, hm⟩ := h
  exact ⟨hb.alloc hb.size _, cnt, hc, MV.alloc hm o⟩
set_option maxRecDepth 100000 in
theorem GIn.next {w6 wr : World} {N : Int} {es : List (Int × Int)} {vs xs : List Int} {f : Int → Option Int} {F : Nat → List Int} {n mb k : Nat} (h : GIn w6 f mb k (F (k * 2)).length (F (k * 2)) wr) (hp : POK N es vs xs) (hc : PcI es xs vs vs n f) (hF : PFill es f vs xs F) : GIn w6 f mb (k + 1) 0 [] wr := by
  obtain ⟨hb, cnt, hcn, hm⟩ := h
  have := (filter_small hp hF k).1
  have e : (k + 1) * 1024 = k * 1024 + 1024 := Nat.succ_mul _ _
  refine ⟨hb, cnt, by rw [e]; omega, hm.congr fun x _ => ?_⟩
  show Option.map _ _ = Option.map _ _
  rw [List.take_length, List.take_nil, pmap_next hc hp hF]

set_option maxHeartbeats 8000000 in
set_option maxRecDepth 100000 in
theorem genus_any (w : World) (N : Int) (A : Option Addr) (m c : Nat) (es : List (Int × Int)) (Av : Option Addr) (nv cv : Nat) (vs : List Int) (Ae : Option Addr) (ne ce : Nat) (xs : List Int) (At : Option Addr) (nt ct : Nat) (tt : List (List Int)) (h : GP w N A m c es Av nv cv vs Ae ne ce xs) (ht : TS w w.heap.size At nt ct tt) (hm60 : m ≤ 60) (hne60 : ne ≤ 60) :
    Calls Try.prog 54 #[.agg #[.int .i64 N, .slice A m c], .agg #[.slice Av nv cv, .slice Ae ne ce], .slice At nt ct] w (GenusAns w N es vs xs tt) := by
  obtain ⟨w1, hw1, b1, gb1⟩ := box_gp w N A m c es Av nv cv Ae ne ce
  have h1 := h.step b1
  have t1 := ht.step b1
  clear h ht
  have ⟨_, _, c0, c1, c2, c3, _⟩ := gb1
  go_enter Try.func54, Try.ntmps54
  go_wp2_with fail
  refine (walks_any w1 N A m c es Av nv cv vs Ae ne ce xs At nt ct tt h1 t1 hm60 hne60).mono ?_
  rintro e w5 ⟨⟨hp, hT, AL, nL, cL, rfl, hL⟩ | ⟨hno, rfl⟩, b5⟩
  · have hpk := Lib.hid (pRight_ok hp)
    have HPT := Lib.hid (And.intro hp hT)
    have h5 := h1.step b5
    have gb5 := gb1.step b5
    replace b1 := bstep b1 b5
    clear h1 t1 gb1 b5 c0 c1 c2 c3 hw1 hT
    have ⟨_, _, c0, c1, c2, c3, _⟩ := gb5
    go_wp2_with fail
    refine (pieces_any w5 N A m c es Av nv cv vs Ae ne ce xs h5).mono ?_
    rintro e w6 ⟨b6, ⟨hq, rfl⟩ | ⟨_, v, n, f, u, F, rfl, hown, hpc, hfl⟩⟩
    · exact absurd hp hq
    · obtain ⟨Ap, cp, rfl, hps⟩ := hown.ps
      have hL6 := hL.step b6
      have h6 := h5.step b6
      have gb6 := gb5.step b6
      replace b1 := bstep b1 b6
      obtain ⟨L, hLe⟩ : ∃ L, walksOf es tt vs xs = L := ⟨_, rfl⟩
      rw [hLe] at hL6
      have HLE := Lib.hid hLe
      have HPC := Lib.hid hpc
      have HFL := Lib.hid hfl
      have HPS := Lib.hid hps
      have HL6 := Lib.hid hL6
      have H6 := Lib.hid h6
      have GB6 := Lib.hid gb6
      have B1 := Lib.hid b1
      have hlev := h6.v.le
      have hcapv := h6.v.cap
      have hnp := hps.1
      have hcp := hps.2.1
      have hnL := hL6.le
      have hcL := hL6.cap
      have ⟨hgb6, hpb6, c0', c1', c2', c3', _⟩ := gb6
      have hn1024 : n ≤ 1024 := by
        have := hpc.le
        have h4 := nodup_len (a := vs) (b := upto1 N.toNat) (sorted_nodup hpk.out.vp) fun x hx => mem_upto1.2 (by have := hpk.out.vr x hx; omega)
        rw [upto1_len] at h4
        have := hpk.out.size
        omega
      have hnL4 : nL ≤ 4096 := by
        have := walks_len (tt := tt) hpk.out
        rw [hLe] at this
        have := hL6.len
        omega
      have hmm := run_makeMap_hint
      obtain ⟨mb, hmb⟩ : ∃ mb, w6.heap.size = mb := ⟨_, rfl⟩
      obtain ⟨wA, hwA, bA, sA, miA⟩ := map_new w6
      rw [hmb] at sA miA
      have hst : GIn w6 f mb 0 0 [] wA := ⟨bA, 0, Nat.le_refl _, miA.congr fun x _ => by show Option.map _ _ = Option.map _ _; rw [List.take_nil, pmap_start hpc]⟩
      clear h5 gb5 hL b6 c0 c1 c2 c3 hLe hpc hfl hps hL6 h6 gb6 b1 hown hp miA
      go_wp2
      clear c0' c1' c2' c3' hmm hwA
      go_loopw [48] (fun i wr => ∃ k : Nat, k ≤ n ∧ i = .int .i64 k ∧ GIn w6 f mb k 0 [] wr) (fun i _ => n - (intOf i).toNat)
      case atStart => exact ⟨0, Nat.zero_le _, rfl, hst⟩
      case round =>
        clear hst bA sA
        obtain ⟨k, hk, rfl, hgi⟩ := hrel
        have hbel := hgi.1
        by_cases hlt : k < n
        · obtain ⟨bp, op, A1, n1, k1, A2, n2, k2, rfl, hbp, hc1, hc2, is1, is2⟩ := HPS.out.getB hbel hlt
          have HIS := Lib.hid is1
          have l1 := is1.le
          have cap1 := is1.cap
          have HL1 := Lib.hid is1.len
          have hn11024 : n1 ≤ 1024 := by have := (filter_small hpk.out HFL.out k).1; have := is1.len; omega
          have GI := Lib.hid hgi
          clear is1 is2 hgi hbel
          go_wp2
          obtain ⟨wq, hwq⟩ : ∃ wq : World, wq = wr.alloc (.cells #[.slice A1 n1 k1, .slice A2 n2 k2] 27) := ⟨_, rfl⟩
          have hst : GIn w6 f mb k 0 (F (k * 2)) wq := by rw [hwq]; exact GI.out.alloc _
          rw [← hwq]
          clear hwq hc1 hc2 GI
          go_loopw [56] (fun i wi => ∃ t : Nat, t ≤ n1 ∧ i = .int .i64 t ∧ GIn w6 f mb k t (F (k * 2)) wi) (fun i _ => n1 - (intOf i).toNat)
          case atStart => exact ⟨0, Nat.zero_le _, rfl, hst⟩
          case round =>
            clear hst
            obtain ⟨t, ht, rfl, hgi⟩ := hrel
            have hbel := hgi.1
            by_cases hlt1 : t < n1
            · obtain ⟨b1, o1, z, rfl, hb1, hz, hz64, hcz⟩ := (HIS.out.below hbel).get hlt1
              obtain ⟨hbel, cnt, hcnt, hmi⟩ := hgi
              have hcnt9 : cnt < 1000000000000 := by omega
              have HB := Lib.hid hbel
              have htl : Hid (t < (F (k * 2)).length) := Lib.hid (by have := HL1.out; omega)
              clear hbel
              go_wp2_with (with_reducible show wpList _ _ _ (Oper.mk none (Op.mapUpdate _ _ _ _) _ _ _ _ :: _) _ _; go_must (refine wpList_istore rfl _ _ _ rfl rfl hmi hcnt9 z rfl hz64 k rfl ?_; intro w7 hmi7 hg7))
              go_roundw
              case rel => exact ⟨t + 1, by omega, by go_num, GIn.put HB.out hcnt (by omega) htl.out hz.out hmi7 hg7⟩
              case measure => simp [intOf]; omega
            · obtain rfl : t = n1 := by omega
              have hnx := GIn.next (HL1.out ▸ hgi) hpk.out HPC.out HFL.out
              go_wp2
              go_roundw
              case rel => exact ⟨k + 1, by omega, by go_num, hnx⟩
              case measure => simp [intOf]; omega
        · obtain rfl : k = n := by omega
          obtain ⟨fb, hfb⟩ : ∃ fb, wr.heap.size = fb := ⟨_, rfl⟩
          have hmf : mb < fb := by obtain ⟨_, cnt, _, hm⟩ := hgi; have := hm.lt; omega
          have MIF : Hid (∃ cnt, MI wr mb cnt f) := Lib.hid (by obtain ⟨_, cnt, _, hm⟩ := hgi; exact ⟨cnt, hm.congr fun x _ => by show Option.map _ _ = Option.map _ _; rw [List.take_nil, pmap_all HPC.out]⟩)
          clear hgi
          go_wp2_with (with_reducible show wpList _ _ _ (Oper.mk (some 67) _ _ _ _ _ :: _) _ _; go_must (refine wpList_make_zeros (n := k) rfl _ _ rfl hbel _ _ rfl rfl (by omega) ?_; intro w7 hown7 hg7; rw [hfb] at *))
          have hst : GCn w6 es f mb fb k 0 L w7 := ⟨by rw [List.take_zero, faceCnts_nil]; exact hown7, by obtain ⟨cnt, hm⟩ := MIF.out; exact ⟨cnt, hm.kept_ hg7 (by simp)⟩⟩
          clear hown7 hg7 hfb MIF hbel
          go_loopw [70] (fun i wr => ∃ t : Nat, t ≤ nL ∧ i = .int .i64 t ∧ GCn w6 es f mb fb k t L wr) (fun i _ => nL - (intOf i).toNat)
          case atStart => exact ⟨0, Nat.zero_le _, rfl, hst⟩
          case round =>
            clear hst
            obtain ⟨t, ht, rfl, hgc⟩ := hrel
            have hbel := hgc.1.below
            by_cases hltL : t < nL
            · obtain ⟨bL, oL, y, ds, A1, n1, k1, rfl, hbL, hgd, hy64, hcy, hcd, isd⟩ := (HL6.out.below hbel).get hltL
              have hlen1 := isd.len
              have l1 := isd.le
              have cap1 := isd.cap
              have htL : Hid (t < L.length) := Lib.hid (by have := HL6.out.len; omega)
              have hmem : (y, ds) ∈ walksOf es tt vs xs := by rw [HLE.out, ← hgd.out]; exact HL6.out.mem hltL
              obtain ⟨hk1, hk2, hcor⟩ := walks_corner hpk.out hmem
              obtain ⟨j0, hj0⟩ := Option.isSome_iff_exists.1 (HPC.out.all _ hcor)
              obtain ⟨j, rfl, hj⟩ := HPC.out.lt _ _ hj0
              obtain ⟨q, hq⟩ : ∃ q, faceCnt es f (L.take t) j = q := ⟨_, rfl⟩
              have hq4 : q ≤ 4096 := by
                have h1 := faceCnt_le es f (L.take t) j
                have h2 : (L.take t).length ≤ t := List.length_take_le _ _
                omega
              have HQ := Lib.hid hq
              have HJ := Lib.hid hj0
              have HGC := Lib.hid hgc
              have HB := Lib.hid hbel
              obtain ⟨hfc, hff⟩ := hgc.1.cellOf hj faceCnts_len
              rw [faceCnts_get hj, hq] at hfc
              have hflt : fb < wr.heap.size := (hgc.1.row.lt fb rfl).2
              obtain ⟨cnt, hmi⟩ := hgc.2
              obtain ⟨wq, hwq, bq, sq, cq⟩ := box_one wr #[.int .i64 y, .slice A1 n1 k1] 76
              have hmiq : MI wq mb cnt f := MV.step hmi bq
              have hfcq := (bq.cell (p := ⟨fb, j, none⟩) hflt).trans hfc
              have hffq := (bq.frozen (p := ⟨fb, j, none⟩) hflt).trans hff
              have cq0 := cq 0
              have cq1 := cq 1
              have hvr := hpk.out.vr
              have hsz := hpk.out.size
              have hn0 := hpk.out.n0
              clear hgc hmi hfc hff cq hq hj0 hcor
              by_cases hz1 : n1 = 0
              · subst hz1
                have hds : ds = [] := List.eq_nil_of_length_eq_zero hlen1
                obtain ⟨vv, hvv, hyv⟩ := hk1 hds
                have hvr := hvr vv hvv
                dsimp only at hyv
                have hy0 : -2000 ≤ y := by omega
                have hy1 : y < 0 := by omega
                have HFG : Hid ((f (-1 - y)).getD 0 = (j : Int)) := Lib.hid (by
                  have h1 := HJ.out
                  unfold cornerOf at h1
                  rw [if_pos hds] at h1
                  rw [h1]
                  rfl)
                have hkey64 : I64 (-1 - y) := ⟨by omega, by omega⟩
                clear hk1 hk2 hvr hyv hvv hds hmem
                go_wp2_with (with_reducible show wpList _ _ _ (Oper.mk (some 88) _ _ _ _ _ :: _) _ _; go_must (refine wpList_ilook (k := -1 - y) rfl _ _ rfl rfl hmiq rfl hkey64 _ HFG.out ?_))
                go_roundw
                case rel => exact ⟨t + 1, by omega, by go_num, GCn.put HGC.out bq (by omega) htL.out hgd.out HJ.out HQ.out hq4⟩
                case measure => simp [intOf]; omega
              · have hds : ds ≠ [] := fun e => hz1 (by rw [← hlen1, e]; rfl)
                have hyx := hpk.out.xr _ (hk2 hds)
                dsimp only at hyx
                have hml := H6.out.g.len
                have hy0 : 0 ≤ y := by omega
                have hy1 : y < 2 * (m : Int) := by omega
                have hgq := (H6.out.step (hbel.trans (bq.mono hbel.size))).g
                have ⟨_, _, d0, d1, _, _, _⟩ := GB6.out.step (hbel.trans (bq.mono hbel.size))
                have HFG : Hid ((f (tail es y)).getD 0 = (j : Int)) := Lib.hid (by
                  have h1 := HJ.out
                  unfold cornerOf at h1
                  rw [if_neg hds] at h1
                  rw [h1]
                  rfl)
                have hcm : tail es y ∈ vs := (head_in hpk.out (hk2 hds)).2
                have hcr := hvr _ hcm
                have hkey64 : I64 (tail es y) := ⟨by omega, by omega⟩
                have hn1p : decide ((0 : Int) < (n1 : Int)) = true := decide_eq_true (by omega)
                clear hk1 hk2 hvr hmem hcm hcr hyx hbel
                go_wp2_with fail
                refine (leaves_any wq N A m c es y hgq hy0 hy1).mono ?_
                rintro e w8 ⟨rfl, b8⟩
                have hmi8 : MI w8 mb cnt f := MV.step hmiq b8
                have hfc8 := (b8.cell (p := ⟨fb, j, none⟩) (Nat.lt_trans hflt sq)).trans hfcq
                have hff8 := (b8.frozen (p := ⟨fb, j, none⟩) (Nat.lt_trans hflt sq)).trans hffq
                have B8 := Lib.hid (bq.trans (b8.mono bq.size))
                clear hmiq hfcq hffq b8 bq d0 d1 hgq cq0 cq1 hwq
                go_wp2_with (with_reducible show wpList _ _ _ (Oper.mk (some 88) _ _ _ _ _ :: _) _ _; go_must (refine wpList_ilook (k := tail es y) rfl _ _ rfl rfl hmi8 rfl hkey64 _ HFG.out ?_))
                go_roundw
                case rel => exact ⟨t + 1, by omega, by go_num, GCn.put HGC.out B8.out (by omega) htL.out hgd.out HJ.out HQ.out hq4⟩
                case measure => simp [intOf]; omega
            · obtain rfl : t = nL := by omega
              have hown := hgc.1
              rw [List.take_of_length_le (by have := HL6.out.len; omega)] at hown
              have hcn : IS wr wr.heap.size (some ⟨fb, 0, none⟩) k k (faceCnts es f L k) := by
                obtain ⟨A, n, c, e, his⟩ := hown.is
                injection e with e1 e2 e3
                subst e1 e2 e3
                exact his
              have HCN := Lib.hid hcn
              have HB := Lib.hid hbel
              clear hgc hown hcn hbel
              go_wp2
              obtain ⟨wz, hwz⟩ : ∃ wz, wz = wr := ⟨_, rfl⟩
              rw [← hwz] at HCN HB ⊢
              clear hwz
              have hst : Own wz wz (.slice none 0 0) ((List.range 0).map (genusAt es vs xs f L)) := Own.start wz
              go_loopw [20, 96] (fun v i wr => ∃ t : Nat, t ≤ k ∧ i = .int .i64 t ∧ Own wz wr v ((List.range t).map (genusAt es vs xs f L))) (fun _ i _ => k - (intOf i).toNat)
              case atStart => exact ⟨0, Nat.zero_le _, rfl, hst⟩
              case round =>
                clear hst
                obtain ⟨t, ht, rfl, hown⟩ := hrel
                obtain ⟨oA, on, oc, rfl⟩ := hown.slice_
                have hbz := hown.below
                by_cases hltp : t < k
                · obtain ⟨bp, op, A1, n1, k1, A2, n2, k2, rfl, hbp, hc1, hc2, is1, is2⟩ := HPS.out.getB (HB.out.trans (hbz.mono HB.out.size)) hltp
                  have l1 := is1.le
                  have cap1 := is1.cap
                  have l2 := is2.le
                  have cap2 := is2.cap
                  obtain ⟨hf1, hf2⟩ := filter_small hpk.out HFL.out t
                  have hle1 := is1.len
                  have hle2 := is2.len
                  have hn1 : n1 ≤ 1024 := by omega
                  have hn2 : n2 ≤ 1024 := by omega
                  obtain ⟨q, hq⟩ : ∃ q, faceCnt es f L t = q := ⟨_, rfl⟩
                  have hq4 : q ≤ 4096 := by
                    have h1 := faceCnt_le es f L t
                    have := HL6.out.len
                    omega
                  have HGA : Hid (genusAt es vs xs f L t = Int.tdiv (2 - (n1 : Int) + (n2 : Int) - (q : Int)) 2) := Lib.hid (by rw [genusAt_eq HFL.out, hle1, hle2, hq])
                  have hcf : wr.cell? ⟨fb, t, none⟩ = some (.int .i64 (q : Int)) := by
                    obtain ⟨b, o, z, e, hb, hz, _, hcz⟩ := (HCN.out.below hbz).get hltp
                    injection e with e
                    injection e with e1 e2
                    subst e1 e2
                    have hz := hz.out
                    rw [faceCnts_get hltp, hq] at hz
                    rw [hz, ← hcz, Nat.zero_add]
                  have HZ : Hid (I64 (Int.tdiv (2 - (n1 : Int) + (n2 : Int) - (q : Int)) 2)) := Lib.hid (by
                    have := Int.natAbs_tdiv_le_natAbs (2 - (n1 : Int) + (n2 : Int) - (q : Int)) 2
                    exact ⟨by omega, by omega⟩)
                  obtain ⟨wq, hwq, bq, sq, cq⟩ := box_one wr #[.slice A1 n1 k1, .slice A2 n2 k2] 27
                  have cq0 := cq 0
                  have cq1 := cq 1
                  have fblt : fb < wr.heap.size := by
                    obtain ⟨b, o, z, e, hb, hz, _, hcz⟩ := HCN.out.get hltp
                    injection e with e
                    injection e with e1 e2
                    subst e1 e2
                    exact Nat.lt_of_lt_of_le hb hbz.size
                  have hcf2 := (bq.cell (p := ⟨fb, t, none⟩) fblt).trans hcf
                  have HOQ := Lib.hid (hown.later bq)
                  obtain ⟨qb, hqb⟩ : ∃ qb, wr.heap.size = qb := ⟨_, rfl⟩
                  clear hown is1 is2 hle1 hle2 hf1 hf2 hq cq bq hcf
                  go_wp2_with fail
                  refine wp_region_rel 16 [[],[],[1],[1,2],[1,2,3],[],[5],[5,6],[1,2,3,4,5,6,7],[],[],[9,10],[9,10,11],[1,2,3,4,5,6,7,8,9,10,11,12],[1,2,3,4,5,6,7,8,9,10,11,12,13],[1,2,3,4,5,6,7,8,9,10,11,12,13,14]]
                    [fun x _ => x = .slice oA on oc,
                     fun x _ => x = .pointer (some ⟨qb, 0, none⟩),
                     fun x _ => x = .slice A1 n1 k1,
                     fun x _ => x = .int .i64 n1,
                     fun x _ => x = .int .i64 (2 - (n1 : Int)),
                     fun x _ => x = .pointer (some ⟨qb, 1, none⟩),
                     fun x _ => x = .slice A2 n2 k2,
                     fun x _ => x = .int .i64 n2,
                     fun x _ => x = .int .i64 (2 - (n1 : Int) + (n2 : Int)),
                     fun x _ => x = .slice (some ⟨fb, 0, none⟩) k k,
                     fun x _ => x = .int .i64 t,
                     fun x _ => x = .pointer (some ⟨fb, t, none⟩),
                     fun x _ => x = .int .i64 q,
                     fun x _ => x = .int .i64 (2 - (n1 : Int) + (n2 : Int) - (q : Int)),
                     fun x _ => x = .int .i64 (Int.tdiv (2 - (n1 : Int) + (n2 : Int) - (q : Int)) 2),
                     fun x W => ∃ A, x = .slice A 1 1 ∧ IS W W.heap.size A 1 1 [Int.tdiv (2 - (n1 : Int) + (n2 : Int) - (q : Int)) 2]]
                    (by kernel_rfl) (by kernel_rfl) rfl ⟨?_, ?_, ?_, ?_, ?_, ?_, ?_, ?_, ?_, ?_, ?_, ?_, ?_, ?_, ?_, ?_, trivial⟩ ?_
                  · intro wr hx v0 h0 v1 h1 v2 h2 v3 h3 v4 h4 v5 h5 v6 h6 v7 h7 v8 h8 v9 h9 v10 h10 v11 h11 v12 h12 v13 h13 v14 h14 v15 h15 K hK
                    have p0 := (hx.cell (p := ⟨qb, 0, none⟩) (hqb ▸ sq)).trans (hqb ▸ cq0)
                    have p1 := (hx.cell (p := ⟨qb, 1, none⟩) (hqb ▸ sq)).trans (hqb ▸ cq1)
                    have p2 := (hx.cell (p := ⟨fb, t, none⟩) (Nat.lt_trans fblt sq)).trans hcf2
                    simp only [Act.put, List.setIfInBounds_toArray, List.set_cons_zero, List.set_cons_succ] at hK ⊢
                    clear h0 h1 h2 h3 h4 h5 h6 h7 h8 h9 h10 h11 h12 h13 h14 h15
                    go_wp2
                    exact hK _ _ (Ext.refl _) (fun _ _ => rfl)
                  · intro wr hx v0 h0 v1 h1 v2 h2 v3 h3 v4 h4 v5 h5 v6 h6 v7 h7 v8 h8 v9 h9 v10 h10 v11 h11 v12 h12 v13 h13 v14 h14 v15 h15 K hK
                    have p0 := (hx.cell (p := ⟨qb, 0, none⟩) (hqb ▸ sq)).trans (hqb ▸ cq0)
                    have p1 := (hx.cell (p := ⟨qb, 1, none⟩) (hqb ▸ sq)).trans (hqb ▸ cq1)
                    have p2 := (hx.cell (p := ⟨fb, t, none⟩) (Nat.lt_trans fblt sq)).trans hcf2
                    simp only [Act.put, List.setIfInBounds_toArray, List.set_cons_zero, List.set_cons_succ] at hK ⊢
                    clear h0 h1 h2 h3 h4 h5 h6 h7 h8 h9 h10 h11 h12 h13 h14 h15
                    go_wp2
                    exact hK _ _ (Ext.refl _) (fun _ _ => rfl)
                  · intro wr hx v0 h0 v1 h1 v2 h2 v3 h3 v4 h4 v5 h5 v6 h6 v7 h7 v8 h8 v9 h9 v10 h10 v11 h11 v12 h12 v13 h13 v14 h14 v15 h15 K hK
                    have p0 := (hx.cell (p := ⟨qb, 0, none⟩) (hqb ▸ sq)).trans (hqb ▸ cq0)
                    have p1 := (hx.cell (p := ⟨qb, 1, none⟩) (hqb ▸ sq)).trans (hqb ▸ cq1)
                    have p2 := (hx.cell (p := ⟨fb, t, none⟩) (Nat.lt_trans fblt sq)).trans hcf2
                    simp only [Act.put, List.setIfInBounds_toArray, List.set_cons_zero, List.set_cons_succ] at hK ⊢
                    obtain rfl := (h1 (by decide)).now
                    clear h0 h1 h2 h3 h4 h5 h6 h7 h8 h9 h10 h11 h12 h13 h14 h15
                    go_wp2
                    exact hK _ _ (Ext.refl _) (fun _ _ => rfl)
                  · intro wr hx v0 h0 v1 h1 v2 h2 v3 h3 v4 h4 v5 h5 v6 h6 v7 h7 v8 h8 v9 h9 v10 h10 v11 h11 v12 h12 v13 h13 v14 h14 v15 h15 K hK
                    have p0 := (hx.cell (p := ⟨qb, 0, none⟩) (hqb ▸ sq)).trans (hqb ▸ cq0)
                    have p1 := (hx.cell (p := ⟨qb, 1, none⟩) (hqb ▸ sq)).trans (hqb ▸ cq1)
                    have p2 := (hx.cell (p := ⟨fb, t, none⟩) (Nat.lt_trans fblt sq)).trans hcf2
                    simp only [Act.put, List.setIfInBounds_toArray, List.set_cons_zero, List.set_cons_succ] at hK ⊢
                    obtain rfl := (h2 (by decide)).now
                    clear h0 h1 h2 h3 h4 h5 h6 h7 h8 h9 h10 h11 h12 h13 h14 h15
                    go_wp2
                    exact hK _ _ (Ext.refl _) (fun _ _ => rfl)
                  · intro wr hx v0 h0 v1 h1 v2 h2 v3 h3 v4 h4 v5 h5 v6 h6 v7 h7 v8 h8 v9 h9 v10 h10 v11 h11 v12 h12 v13 h13 v14 h14 v15 h15 K hK
                    have p0 := (hx.cell (p := ⟨qb, 0, none⟩) (hqb ▸ sq)).trans (hqb ▸ cq0)
                    have p1 := (hx.cell (p := ⟨qb, 1, none⟩) (hqb ▸ sq)).trans (hqb ▸ cq1)
                    have p2 := (hx.cell (p := ⟨fb, t, none⟩) (Nat.lt_trans fblt sq)).trans hcf2
                    simp only [Act.put, List.setIfInBounds_toArray, List.set_cons_zero, List.set_cons_succ] at hK ⊢
                    obtain rfl := (h3 (by decide)).now
                    clear h0 h1 h2 h3 h4 h5 h6 h7 h8 h9 h10 h11 h12 h13 h14 h15
                    go_wp2
                    exact hK _ _ (Ext.refl _) (fun _ _ => rfl)
                  · intro wr hx v0 h0 v1 h1 v2 h2 v3 h3 v4 h4 v5 h5 v6 h6 v7 h7 v8 h8 v9 h9 v10 h10 v11 h11 v12 h12 v13 h13 v14 h14 v15 h15 K hK
                    have p0 := (hx.cell (p := ⟨qb, 0, none⟩) (hqb ▸ sq)).trans (hqb ▸ cq0)
                    have p1 := (hx.cell (p := ⟨qb, 1, none⟩) (hqb ▸ sq)).trans (hqb ▸ cq1)
                    have p2 := (hx.cell (p := ⟨fb, t, none⟩) (Nat.lt_trans fblt sq)).trans hcf2
                    simp only [Act.put, List.setIfInBounds_toArray, List.set_cons_zero, List.set_cons_succ] at hK ⊢
                    clear h0 h1 h2 h3 h4 h5 h6 h7 h8 h9 h10 h11 h12 h13 h14 h15
                    go_wp2
                    exact hK _ _ (Ext.refl _) (fun _ _ => rfl)
                  · intro wr hx v0 h0 v1 h1 v2 h2 v3 h3 v4 h4 v5 h5 v6 h6 v7 h7 v8 h8 v9 h9 v10 h10 v11 h11 v12 h12 v13 h13 v14 h14 v15 h15 K hK
                    have p0 := (hx.cell (p := ⟨qb, 0, none⟩) (hqb ▸ sq)).trans (hqb ▸ cq0)
                    have p1 := (hx.cell (p := ⟨qb, 1, none⟩) (hqb ▸ sq)).trans (hqb ▸ cq1)
                    have p2 := (hx.cell (p := ⟨fb, t, none⟩) (Nat.lt_trans fblt sq)).trans hcf2
                    simp only [Act.put, List.setIfInBounds_toArray, List.set_cons_zero, List.set_cons_succ] at hK ⊢
                    obtain rfl := (h5 (by decide)).now
                    clear h0 h1 h2 h3 h4 h5 h6 h7 h8 h9 h10 h11 h12 h13 h14 h15
                    go_wp2
                    exact hK _ _ (Ext.refl _) (fun _ _ => rfl)
                  · intro wr hx v0 h0 v1 h1 v2 h2 v3 h3 v4 h4 v5 h5 v6 h6 v7 h7 v8 h8 v9 h9 v10 h10 v11 h11 v12 h12 v13 h13 v14 h14 v15 h15 K hK
                    have p0 := (hx.cell (p := ⟨qb, 0, none⟩) (hqb ▸ sq)).trans (hqb ▸ cq0)
                    have p1 := (hx.cell (p := ⟨qb, 1, none⟩) (hqb ▸ sq)).trans (hqb ▸ cq1)
                    have p2 := (hx.cell (p := ⟨fb, t, none⟩) (Nat.lt_trans fblt sq)).trans hcf2
                    simp only [Act.put, List.setIfInBounds_toArray, List.set_cons_zero, List.set_cons_succ] at hK ⊢
                    obtain rfl := (h6 (by decide)).now
                    clear h0 h1 h2 h3 h4 h5 h6 h7 h8 h9 h10 h11 h12 h13 h14 h15
                    go_wp2
                    exact hK _ _ (Ext.refl _) (fun _ _ => rfl)
                  · intro wr hx v0 h0 v1 h1 v2 h2 v3 h3 v4 h4 v5 h5 v6 h6 v7 h7 v8 h8 v9 h9 v10 h10 v11 h11 v12 h12 v13 h13 v14 h14 v15 h15 K hK
                    have p0 := (hx.cell (p := ⟨qb, 0, none⟩) (hqb ▸ sq)).trans (hqb ▸ cq0)
                    have p1 := (hx.cell (p := ⟨qb, 1, none⟩) (hqb ▸ sq)).trans (hqb ▸ cq1)
                    have p2 := (hx.cell (p := ⟨fb, t, none⟩) (Nat.lt_trans fblt sq)).trans hcf2
                    simp only [Act.put, List.setIfInBounds_toArray, List.set_cons_zero, List.set_cons_succ] at hK ⊢
                    obtain rfl := (h4 (by decide)).now
                    obtain rfl := (h7 (by decide)).now
                    clear h0 h1 h2 h3 h4 h5 h6 h7 h8 h9 h10 h11 h12 h13 h14 h15
                    go_wp2
                    exact hK _ _ (Ext.refl _) (fun _ _ => rfl)
                  · intro wr hx v0 h0 v1 h1 v2 h2 v3 h3 v4 h4 v5 h5 v6 h6 v7 h7 v8 h8 v9 h9 v10 h10 v11 h11 v12 h12 v13 h13 v14 h14 v15 h15 K hK
                    have p0 := (hx.cell (p := ⟨qb, 0, none⟩) (hqb ▸ sq)).trans (hqb ▸ cq0)
                    have p1 := (hx.cell (p := ⟨qb, 1, none⟩) (hqb ▸ sq)).trans (hqb ▸ cq1)
                    have p2 := (hx.cell (p := ⟨fb, t, none⟩) (Nat.lt_trans fblt sq)).trans hcf2
                    simp only [Act.put, List.setIfInBounds_toArray, List.set_cons_zero, List.set_cons_succ] at hK ⊢
                    clear h0 h1 h2 h3 h4 h5 h6 h7 h8 h9 h10 h11 h12 h13 h14 h15
                    go_wp2
                    exact hK _ _ (Ext.refl _) (fun _ _ => rfl)
                  · intro wr hx v0 h0 v1 h1 v2 h2 v3 h3 v4 h4 v5 h5 v6 h6 v7 h7 v8 h8 v9 h9 v10 h10 v11 h11 v12 h12 v13 h13 v14 h14 v15 h15 K hK
                    have p0 := (hx.cell (p := ⟨qb, 0, none⟩) (hqb ▸ sq)).trans (hqb ▸ cq0)
                    have p1 := (hx.cell (p := ⟨qb, 1, none⟩) (hqb ▸ sq)).trans (hqb ▸ cq1)
                    have p2 := (hx.cell (p := ⟨fb, t, none⟩) (Nat.lt_trans fblt sq)).trans hcf2
                    simp only [Act.put, List.setIfInBounds_toArray, List.set_cons_zero, List.set_cons_succ] at hK ⊢
                    clear h0 h1 h2 h3 h4 h5 h6 h7 h8 h9 h10 h11 h12 h13 h14 h15
                    go_wp2
                    exact hK _ _ (Ext.refl _) (fun _ _ => rfl)
                  · intro wr hx v0 h0 v1 h1 v2 h2 v3 h3 v4 h4 v5 h5 v6 h6 v7 h7 v8 h8 v9 h9 v10 h10 v11 h11 v12 h12 v13 h13 v14 h14 v15 h15 K hK
                    have p0 := (hx.cell (p := ⟨qb, 0, none⟩) (hqb ▸ sq)).trans (hqb ▸ cq0)
                    have p1 := (hx.cell (p := ⟨qb, 1, none⟩) (hqb ▸ sq)).trans (hqb ▸ cq1)
                    have p2 := (hx.cell (p := ⟨fb, t, none⟩) (Nat.lt_trans fblt sq)).trans hcf2
                    simp only [Act.put, List.setIfInBounds_toArray, List.set_cons_zero, List.set_cons_succ] at hK ⊢
                    obtain rfl := (h9 (by decide)).now
                    obtain rfl := (h10 (by decide)).now
                    clear h0 h1 h2 h3 h4 h5 h6 h7 h8 h9 h10 h11 h12 h13 h14 h15
                    go_wp2
                    exact hK _ _ (Ext.refl _) (fun _ _ => rfl)
                  · intro wr hx v0 h0 v1 h1 v2 h2 v3 h3 v4 h4 v5 h5 v6 h6 v7 h7 v8 h8 v9 h9 v10 h10 v11 h11 v12 h12 v13 h13 v14 h14 v15 h15 K hK
                    have p0 := (hx.cell (p := ⟨qb, 0, none⟩) (hqb ▸ sq)).trans (hqb ▸ cq0)
                    have p1 := (hx.cell (p := ⟨qb, 1, none⟩) (hqb ▸ sq)).trans (hqb ▸ cq1)
                    have p2 := (hx.cell (p := ⟨fb, t, none⟩) (Nat.lt_trans fblt sq)).trans hcf2
                    simp only [Act.put, List.setIfInBounds_toArray, List.set_cons_zero, List.set_cons_succ] at hK ⊢
                    obtain rfl := (h11 (by decide)).now
                    clear h0 h1 h2 h3 h4 h5 h6 h7 h8 h9 h10 h11 h12 h13 h14 h15
                    go_wp2
                    exact hK _ _ (Ext.refl _) (fun _ _ => rfl)
                  · intro wr hx v0 h0 v1 h1 v2 h2 v3 h3 v4 h4 v5 h5 v6 h6 v7 h7 v8 h8 v9 h9 v10 h10 v11 h11 v12 h12 v13 h13 v14 h14 v15 h15 K hK
                    have p0 := (hx.cell (p := ⟨qb, 0, none⟩) (hqb ▸ sq)).trans (hqb ▸ cq0)
                    have p1 := (hx.cell (p := ⟨qb, 1, none⟩) (hqb ▸ sq)).trans (hqb ▸ cq1)
                    have p2 := (hx.cell (p := ⟨fb, t, none⟩) (Nat.lt_trans fblt sq)).trans hcf2
                    simp only [Act.put, List.setIfInBounds_toArray, List.set_cons_zero, List.set_cons_succ] at hK ⊢
                    obtain rfl := (h8 (by decide)).now
                    obtain rfl := (h12 (by decide)).now
                    clear h0 h1 h2 h3 h4 h5 h6 h7 h8 h9 h10 h11 h12 h13 h14 h15
                    go_wp2
                    exact hK _ _ (Ext.refl _) (fun _ _ => rfl)
                  · intro wr hx v0 h0 v1 h1 v2 h2 v3 h3 v4 h4 v5 h5 v6 h6 v7 h7 v8 h8 v9 h9 v10 h10 v11 h11 v12 h12 v13 h13 v14 h14 v15 h15 K hK
                    have p0 := (hx.cell (p := ⟨qb, 0, none⟩) (hqb ▸ sq)).trans (hqb ▸ cq0)
                    have p1 := (hx.cell (p := ⟨qb, 1, none⟩) (hqb ▸ sq)).trans (hqb ▸ cq1)
                    have p2 := (hx.cell (p := ⟨fb, t, none⟩) (Nat.lt_trans fblt sq)).trans hcf2
                    simp only [Act.put, List.setIfInBounds_toArray, List.set_cons_zero, List.set_cons_succ] at hK ⊢
                    obtain rfl := (h13 (by decide)).now
                    clear h0 h1 h2 h3 h4 h5 h6 h7 h8 h9 h10 h11 h12 h13 h14 h15
                    go_wp2
                    exact hK _ _ (Ext.refl _) (fun _ _ => rfl)
                  · intro wr hx v0 h0 v1 h1 v2 h2 v3 h3 v4 h4 v5 h5 v6 h6 v7 h7 v8 h8 v9 h9 v10 h10 v11 h11 v12 h12 v13 h13 v14 h14 v15 h15 K hK
                    have p0 := (hx.cell (p := ⟨qb, 0, none⟩) (hqb ▸ sq)).trans (hqb ▸ cq0)
                    have p1 := (hx.cell (p := ⟨qb, 1, none⟩) (hqb ▸ sq)).trans (hqb ▸ cq1)
                    have p2 := (hx.cell (p := ⟨fb, t, none⟩) (Nat.lt_trans fblt sq)).trans hcf2
                    simp only [Act.put, List.setIfInBounds_toArray, List.set_cons_zero, List.set_cons_succ] at hK ⊢
                    obtain rfl := (h14 (by decide)).now
                    clear h0 h1 h2 h3 h4 h5 h6 h7 h8 h9 h10 h11 h12 h13 h14 h15
                    go_wp2
                    exact hK _ _ (Ext.alloc _ _) (fun W hW => ⟨_, rfl, (((IS.one _ _ HZ.out).more (by simp)).below hW).more hW.size⟩)
                  intro w8 hx v0 h0 v1 h1 v2 h2 v3 h3 v4 h4 v5 h5 v6 h6 v7 h7 v8 h8 v9 h9 v10 h10 v11 h11 v12 h12 v13 h13 v14 h14 v15 h15
                  have p0 := (hx.cell (p := ⟨qb, 0, none⟩) (hqb ▸ sq)).trans (hqb ▸ cq0)
                  have p1 := (hx.cell (p := ⟨qb, 1, none⟩) (hqb ▸ sq)).trans (hqb ▸ cq1)
                  have p2 := (hx.cell (p := ⟨fb, t, none⟩) (Nat.lt_trans fblt sq)).trans hcf2
                  obtain rfl := h0.now
                  obtain ⟨A15, rfl, is15⟩ := h15.now
                  clear h0 h1 h2 h3 h4 h5 h6 h7 h8 h9 h10 h11 h12 h13 h14 h15
                  refine tail_seq (by kernel_rfl) ?_
                  simp only [List.drop_succ_cons, List.drop_zero, Act.put, List.setIfInBounds_toArray, List.set_cons_zero, List.set_cons_succ]
                  have hown8 := HOQ.out.later hx
                  go_wp2_with (with_reducible show wpList _ _ _ (Oper.mk (some 117) _ _ _ _ _ :: _) _ _; go_must (refine wpList_append_is (v := .slice oA on oc) (w0 := wz) rfl _ _ rfl rfl hown8 rfl is15 (by rw [List.length_map, List.length_range]; omega) ?_; intro v' w9 hown9 _ _))
                  go_roundw
                  case rel => exact ⟨t + 1, by omega, by go_num, by rw [range_map_next, HGA.out]; exact hown9⟩
                  case measure => simp [intOf]; omega
                · obtain rfl : t = k := by omega
                  obtain ⟨A', n', c', e, his⟩ := hown.is
                  injection e with e1 e2 e3
                  subst e1 e2 e3
                  have hnt : on = t := by
                    have := his.len
                    rw [List.length_map, List.length_range] at this
                    exact this.symm
                  subst hnt
                  have HI := Lib.hid his
                  have HBZ := Lib.hid hbz
                  clear his hbz hown
                  go_wp2
                  go_ret2
                  refine ⟨.inl ⟨HPT.out.1, HPT.out.2, _, f, oA, oc, HPC.out, rfl, ?_⟩, bstep (bstep B1.out HB.out) HBZ.out⟩
                  unfold genusOf
                  rw [HLE.out]
                  exact HI.out
  · obtain ⟨q, hq⟩ : ∃ q, (if pRight N es vs xs = 0 then 5 else pRight N es vs xs) = q := ⟨_, rfl⟩
    have hq0 : (q != 0) = true := by
      rw [← hq]
      split
      · rfl
      · simpa [bne_iff_ne]
    rw [hq]
    have B1 := Lib.hid (bstep b1 b5)
    have HQ := Lib.hid hq
    clear h1 t1 gb1 c0 c1 c2 c3 hw1 b1 b5 hq
    go_wp2
    all_goals (go_ret2; exact ⟨.inr ⟨hno, by rw [HQ.out]; rfl⟩, B1.out⟩)
end Go.Proofs.Ythobfbnopkbniaa
end

section
namespace Go.Proofs.Ythobfbnopkbniaa
open Go.RowKit

/-- face.Genus answers gs where the drawing is right; an error elsewhere. -/
def GenusRes (ok : Prop) (gs : List Int) (w : World) (e : Ending) (w' : World) : Prop :=
  ((ok ∧ ∃ A n c, e = .returned (.tuple #[.slice A n c, .int .i64 0]) ∧ IS w' w'.heap.size A n c gs) ∨ (¬ ok ∧ ∃ q : Int, q ≠ 0 ∧ e = .returned (.tuple #[.slice none 0 0, .int .i64 q]))) ∧ Below w.heap.size w w'

set_option maxHeartbeats 4000000 in
set_option maxRecDepth 100000 in
theorem sphere_of (ok : Prop) (gs : List Int) (w : World) (N : Int) (A : Option Addr) (m c : Nat) (es : List (Int × Int)) (Av : Option Addr) (nv cv : Nat) (vs : List Int) (Ae : Option Addr) (ne ce : Nat) (xs : List Int) (At : Option Addr) (nt ct : Nat) (tt : List (List Int)) (h : GP w N A m c es Av nv cv vs Ae ne ce xs) (ht : TS w w.heap.size At nt ct tt)
    (hG : ∀ w1 : World, GP w1 N A m c es Av nv cv vs Ae ne ce xs → TS w1 w1.heap.size At nt ct tt → Calls Try.prog 54 #[.agg #[.int .i64 N, .slice A m c], .agg #[.slice Av nv cv, .slice Ae ne ce], .slice At nt ct] w1 (GenusRes ok gs w1)) :
    Calls Try.prog 55 #[.agg #[.int .i64 N, .slice A m c], .agg #[.slice Av nv cv, .slice Ae ne ce], .slice At nt ct] w fun e w' => ((ok ∧ (∀ g ∈ gs, g = 0) ∧ e = .returned (.bool true)) ∨ (¬ (ok ∧ ∀ g ∈ gs, g = 0) ∧ e = .returned (.bool false))) ∧ Below w.heap.size w w' := by
  obtain ⟨w1, hw1, b1, gb1⟩ := box_gp w N A m c es Av nv cv Ae ne ce
  have h1 := h.step b1
  have t1 := ht.step b1
  clear h ht
  have ⟨_, _, c0, c1, c2, c3, _⟩ := gb1
  go_enter Try.func55, Try.ntmps55
  go_wp2_with fail
  refine (hG w1 h1 t1).mono ?_
  rintro e w5 ⟨⟨hok, A, n, c, rfl, hgs⟩ | ⟨hno, q, hq, rfl⟩, b5⟩
  · have hn := hgs.le
    have hc := hgs.cap
    have hlen := Lib.hid hgs.len
    have HG := Lib.hid hgs
    have HOK := Lib.hid hok
    have HB := Lib.hid (bstep b1 b5)
    clear hgs hok b1 b5 h1 t1 gb1 c0 c1 c2 c3 hw1
    go_wp2
    go_loop [22] (fun i => ∃ k : Nat, k ≤ n ∧ i = .int .i64 k ∧ Hid (∀ j, j < k → gs.getD j 0 = 0)) (fun i => n - (intOf i).toNat)
    case atStart => exact ⟨0, Nat.zero_le _, rfl, Lib.hid fun j hj => absurd hj (by omega)⟩
    case round =>
      obtain ⟨k, hk, rfl, hz⟩ := hrel
      by_cases hlt : k < n
      · obtain ⟨b, o, z, rfl, hb, hgz, hz64, hcz⟩ := HG.out.get hlt
        by_cases hz0 : z = 0
        · subst hz0
          go_wp2_with fail
          go_round
          case rel =>
            refine ⟨k + 1, by omega, by go_num, Lib.hid fun j hj => ?_⟩
            rcases Nat.lt_or_ge j k with hjk | hjk
            · exact hz.out j hjk
            · obtain rfl : j = k := by omega
              exact hgz.out
          case measure => simp [intOf]; omega
        · have hzb : (z != 0) = true := by simpa [bne_iff_ne] using hz0
          have HZ := Lib.hid hz0
          clear hz0
          go_wp2_with fail
          go_ret
          have hzm : z ∈ gs := by rw [← hgz.out]; exact HG.out.mem hlt
          exact ⟨.inr ⟨fun _ => ⟨z, hzm, HZ.out⟩, rfl⟩, HB.out⟩
      · go_wp2
        go_ret
        refine ⟨.inl ⟨HOK.out, fun g hg => ?_, rfl⟩, HB.out⟩
        obtain ⟨j, hj, rfl⟩ := List.getElem_of_mem hg
        have := hz.out j (by have := hlen.out; omega)
        rwa [getD_idx hj] at this
  · have HB := Lib.hid (bstep b1 b5)
    have HNO := Lib.hid hno
    have hqb : (q != 0) = true := by simpa [bne_iff_ne] using hq
    clear h1 t1 gb1 c0 c1 c2 c3 hw1 b1 b5 hno hq
    go_wp2
    all_goals (go_ret; exact ⟨.inr ⟨fun h => HNO.out h.1, rfl⟩, HB.out⟩)
end Go.Proofs.Ythobfbnopkbniaa
end

section
namespace Go.Proofs.Ythobfbnopkbniaa
open Go.RowKit

section
variable {N : Int} {es : List (Int × Int)} {vs xs : List Int} {tt : List (List Int)} {n n' : Nat} {f f' : Int → Option Int}
theorem PcI.of_some (h : PcI es xs vs vs n f) (hp : POK N es vs xs) {i : Int} {r x : Int} (hr : f r = some i) : f x = some i ↔ Hang es xs r x := by
  rw [← hr]
  rw [eq_comm]
  exact h.same hp (h.mem_vs hp hr)
theorem PcI.agree (h : PcI es xs vs vs n f) (h' : PcI es xs vs vs n' f') (hp : POK N es vs xs) : ∀ i : Nat, i < n → ∀ x, f x = some (i : Int) ↔ f' x = some (i : Int) := by
  intro i
  induction i using Nat.strongRecOn with
  | _ i ih =>
    intro hi
    obtain ⟨l1, r, l2, e, hr, h1⟩ := h.first i hi
    have hrv : r ∈ vs := h.mem_vs hp hr
    obtain ⟨k, hk⟩ := Option.isSome_iff_exists.1 (h'.all r hrv)
    obtain ⟨i', rfl, hi'⟩ := h'.lt r k hk
    have hii : i' = i := by
      rcases Nat.lt_trichotomy i' i with hlt | heq | hgt
      · have := (ih i' hlt (by omega) r).2 hk
        rw [hr] at this
        injection this with this
        omega
      · exact heq
      · exfalso
        obtain ⟨l1', r', l2', e', hr', h1'⟩ := h'.first i (by omega)
        have ee : l1 ++ r :: l2 = l1' ++ r' :: l2' := e.symm.trans e'
        rcases List.append_eq_append_iff.1 ee with ⟨a, ha1, ha2⟩ | ⟨a, ha1, ha2⟩
        · cases a with
          | nil =>
            injection ha2 with ha2 _
            subst ha2
            rw [hk] at hr'
            injection hr' with hr'
            omega
          | cons z a =>
            injection ha2 with ha2 _
            subst ha2
            obtain ⟨j, hj, hfj⟩ := h1' r (by rw [ha1]; simp)
            rw [hk] at hfj
            injection hfj with hfj
            omega
        · cases a with
          | nil =>
            injection ha2 with ha2 _
            subst ha2
            rw [hk] at hr'
            injection hr' with hr'
            omega
          | cons z a =>
            injection ha2 with ha2 _
            subst ha2
            obtain ⟨j, hj, hfj⟩ := h1 r' (by rw [ha1]; simp)
            have := (ih j hj (by omega) r').1 hfj
            rw [hr'] at this
            injection this with this
            omega
    subst hii
    intro x
    rw [h.of_some hp hr, h'.of_some hp hk]
theorem PcI.count_le (h : PcI es xs vs vs n f) (h' : PcI es xs vs vs n' f') (hp : POK N es vs xs) : n ≤ n' := by
  rcases Nat.eq_zero_or_pos n with h0 | h0
  · omega
  · obtain ⟨_, r, _, _, hr, _⟩ := h.first (n - 1) (by omega)
    obtain ⟨j, hj, hl⟩ := h'.lt r _ ((h.agree h' hp (n - 1) (by omega) r).1 hr)
    omega
/-- The pieces are told in one way alone. -/
theorem PcI.unique (h : PcI es xs vs vs n f) (h' : PcI es xs vs vs n' f') (hp : POK N es vs xs) : n = n' ∧ f = f' := by
  refine ⟨Nat.le_antisymm (h.count_le h' hp) (h'.count_le h hp), funext fun x => ?_⟩
  cases hf : f x with
  | some i =>
    obtain ⟨j, rfl, hj⟩ := h.lt x i hf
    exact ((h.agree h' hp j hj x).1 hf).symm
  | none =>
    cases hf' : f' x with
    | none => rfl
    | some i =>
      obtain ⟨j, rfl, hj⟩ := h'.lt x i hf'
      have := (h'.agree h hp j hj x).1 hf'
      rw [hf] at this
      cases this
end

/-- face.Genus, its answer fixed. -/
theorem genus_res (n : Nat) (f : Int → Option Int) (w : World) (N : Int) (A : Option Addr) (m c : Nat) (es : List (Int × Int)) (Av : Option Addr) (nv cv : Nat) (vs : List Int) (Ae : Option Addr) (ne ce : Nat) (xs : List Int) (At : Option Addr) (nt ct : Nat) (tt : List (List Int)) (h : GP w N A m c es Av nv cv vs Ae ne ce xs) (ht : TS w w.heap.size At nt ct tt) (hm60 : m ≤ 60) (hne60 : ne ≤ 60)
    (hf : pRight N es vs xs = 0 → TurnOK N es xs tt → ∀ n' f', PcI es xs vs vs n' f' → n' = n ∧ f' = f) :
    Calls Try.prog 54 #[.agg #[.int .i64 N, .slice A m c], .agg #[.slice Av nv cv, .slice Ae ne ce], .slice At nt ct] w (GenusRes (pRight N es vs xs = 0 ∧ TurnOK N es xs tt) (genusOf es tt vs xs f n) w) := by
  refine (genus_any w N A m c es Av nv cv vs Ae ne ce xs At nt ct tt h ht hm60 hne60).mono ?_
  rintro e w' ⟨⟨hp, hT, n', f', A', n1, hpc, rfl, his⟩ | ⟨hno, rfl⟩, hb⟩
  · obtain ⟨rfl, rfl⟩ := hf hp hT n' f' hpc
    exact ⟨.inl ⟨⟨hp, hT⟩, _, _, _, rfl, his⟩, hb⟩
  · refine ⟨.inr ⟨hno, _, ?_, rfl⟩, hb⟩
    split
    · decide
    · assumption
/-- What face.Sphere answers. -/
def SphAns (N : Int) (es : List (Int × Int)) (vs xs : List Int) (tt : List (List Int)) (b : Bool) : Prop :=
  b = true ↔ pRight N es vs xs = 0 ∧ TurnOK N es xs tt ∧ ∀ n f, PcI es xs vs vs n f → ∀ g ∈ genusOf es tt vs xs f n, g = 0
theorem sphere_any (w : World) (N : Int) (A : Option Addr) (m c : Nat) (es : List (Int × Int)) (Av : Option Addr) (nv cv : Nat) (vs : List Int) (Ae : Option Addr) (ne ce : Nat) (xs : List Int) (At : Option Addr) (nt ct : Nat) (tt : List (List Int)) (h : GP w N A m c es Av nv cv vs Ae ne ce xs) (ht : TS w w.heap.size At nt ct tt) (hm60 : m ≤ 60) (hne60 : ne ≤ 60) :
    Calls Try.prog 55 #[.agg #[.int .i64 N, .slice A m c], .agg #[.slice Av nv cv, .slice Ae ne ce], .slice At nt ct] w fun e w' => (∃ b, e = .returned (.bool b) ∧ SphAns N es vs xs tt b) ∧ Below w.heap.size w w' := by
  obtain ⟨n, f, hor, hf⟩ : ∃ n f, (PcI es xs vs vs n f ∨ n = 0) ∧ (pRight N es vs xs = 0 → ∀ n' f', PcI es xs vs vs n' f' → n' = n ∧ f' = f) := by
    rcases Classical.em (∃ n f, PcI es xs vs vs n f) with ⟨n, f, h⟩ | hn
    · exact ⟨n, f, .inl h, fun hp n' f' h' => h'.unique h (pRight_ok hp)⟩
    · exact ⟨0, fun _ => none, .inr rfl, fun _ n' f' h' => absurd ⟨n', f', h'⟩ hn⟩
  refine (sphere_of (pRight N es vs xs = 0 ∧ TurnOK N es xs tt) (genusOf es tt vs xs f n) w N A m c es Av nv cv vs Ae ne ce xs At nt ct tt h ht fun w1 h1 t1 => genus_res n f w1 N A m c es Av nv cv vs Ae ne ce xs At nt ct tt h1 t1 hm60 hne60 fun hp _ => hf hp).mono ?_
  rintro e w' ⟨⟨hok, hz, rfl⟩ | ⟨hno, rfl⟩, hb⟩
  · refine ⟨⟨true, rfl, fun _ => ⟨hok.1, hok.2, fun n' f' h' => ?_⟩, fun _ => rfl⟩, hb⟩
    obtain ⟨rfl, rfl⟩ := hf hok.1 n' f' h'
    exact hz
  · refine ⟨⟨false, rfl, fun e => (by cases e), fun hh => absurd ?_ hno⟩, hb⟩
    refine ⟨⟨hh.1, hh.2.1⟩, ?_⟩
    rcases hor with h3 | h3
    · exact hh.2.2 n f h3
    · intro g hg
      rw [h3] at hg
      simp [genusOf] at hg
end Go.Proofs.Ythobfbnopkbniaa
end

section
namespace Go.Proofs.Ythobfbnopkbniaa
open Go.RowKit

set_option maxHeartbeats 2000000 in
set_option maxRecDepth 100000 in
theorem small_yes (w : World) (N : Int) (A : Option Addr) (m c : Nat) (es : List (Int × Int)) (Av : Option Addr) (nv cv : Nat) (vs : List Int) (Ae : Option Addr) (ne ce : Nat) (xs : List Int) (h : GP w N A m c es Av nv cv vs Ae ne ce xs) (hs : Small N m nv ne) :
    Calls Try.prog 26 #[.agg #[.int .i64 N, .slice A m c], .agg #[.slice Av nv cv, .slice Ae ne ce]] w fun e w' => e = .returned (.int .i64 1) ∧ Below w.heap.size w w' := by
  obtain ⟨w1, hw1, b1, gb1⟩ := box_gp w N A m c es Av nv cv Ae ne ce
  have ⟨_, _, c0, c1, c2, c3, _⟩ := gb1
  have hN0 := h.n.1
  have hN1 := h.n.2
  clear gb1 h
  obtain ⟨h1, h2, h3, h4⟩ := hs
  have k1 : decide ((60 : Int) < (m : Int)) = false := by simp; omega
  have k2 : decide ((60 : Int) < (nv : Int)) = false := by simp; omega
  have k3 : decide ((60 : Int) < (ne : Int)) = false := by simp; omega
  by_cases h5 : N ≤ 60
  · have k4 : decide ((60 : Int) < N) = false := by simp; omega
    clear h4
    go_enter Try.func26, Try.ntmps26
    go_wp2
    go_ret
    exact ⟨rfl, b1⟩
  · have k4 : decide ((60 : Int) < N) = true := by simp; omega
    have h6 : 1024 < N := by omega
    have k5 : decide (N ≤ 1024) = false := by simp; omega
    clear h4
    go_enter Try.func26, Try.ntmps26
    go_wp2
    go_ret
    exact ⟨rfl, b1⟩

set_option maxHeartbeats 2000000 in
set_option maxRecDepth 100000 in
theorem small_no (w : World) (N : Int) (A : Option Addr) (m c : Nat) (es : List (Int × Int)) (Av : Option Addr) (nv cv : Nat) (vs : List Int) (Ae : Option Addr) (ne ce : Nat) (xs : List Int) (h : GP w N A m c es Av nv cv vs Ae ne ce xs) (hs : ¬ Small N m nv ne) :
    Calls Try.prog 26 #[.agg #[.int .i64 N, .slice A m c], .agg #[.slice Av nv cv, .slice Ae ne ce]] w fun e w' => e = .returned (.int .i64 0) ∧ Below w.heap.size w w' := by
  obtain ⟨w1, hw1, b1, gb1⟩ := box_gp w N A m c es Av nv cv Ae ne ce
  have ⟨_, _, c0, c1, c2, c3, _⟩ := gb1
  have hN0 := h.n.1
  have hN1 := h.n.2
  have hs' : ¬ (m ≤ 60 ∧ nv ≤ 60 ∧ ne ≤ 60 ∧ (N ≤ 60 ∨ 1024 < N)) := hs
  clear gb1 h hs
  by_cases k1 : 60 < m
  · clear hs'
    go_enter Try.func26, Try.ntmps26
    go_wp2
    go_ret
    exact ⟨rfl, b1⟩
  by_cases k2 : 60 < nv
  · clear hs'
    go_enter Try.func26, Try.ntmps26
    go_wp2
    go_ret
    exact ⟨rfl, b1⟩
  by_cases k3 : 60 < ne
  · clear hs'
    go_enter Try.func26, Try.ntmps26
    go_wp2
    go_ret
    exact ⟨rfl, b1⟩
  have k4 : 60 < N := by omega
  have k5 : N ≤ 1024 := by omega
  clear hs'
  go_enter Try.func26, Try.ntmps26
  go_wp2
  go_ret
  exact ⟨rfl, b1⟩

set_option maxHeartbeats 1000000 in
theorem refTail_any (w : World) (B : Nat) (N : Int) (A : Option Addr) (m c : Nat) (es : List (Int × Int)) (d : Int) (hg : ES w B A m c es) (hB : B ≤ w.heap.size) (h0 : 0 ≤ d) (h1 : d < 2 * m) :
    Calls Try.prog 30 #[.agg #[.int .i64 N, .slice A m c], .int .i64 d] w fun e w' => e = .returned (.int .i64 (tail es d)) ∧ Below w.heap.size w w' := by
  have hm := hg.le
  have hc := hg.cap
  obtain ⟨q, rfl⟩ := Int.eq_ofNat_of_zero_le h0
  have hq : q / 2 < m := by omega
  obtain ⟨w1, hw1, b1, hs1, hcell⟩ := box_one w #[.int .i64 N, .slice A m c] 24
  have c1 : w1.cell? ⟨w.heap.size, 1, none⟩ = some (.slice A m c) := hcell 1
  obtain ⟨b, o, x, y, rfl, hb, hxy, hx64, hy64, hcx, hcy⟩ := (hg.below (b1.mono hB)).get hq
  have hen : Hid (ends es ((q : Int) / 2) = (x, y)) := Lib.hid (by unfold ends; rw [show ((q : Int) / 2).toNat = q / 2 from by omega]; exact hxy.out)
  have HH := Lib.hid hg
  clear hg hcell
  by_cases hp : q % 2 = 0
  · have hp' : ((q : Int) % 2 == 0) = true := by simp; omega
    have ht : Hid (tail es (q : Int) = x) := Lib.hid (by unfold tail; rw [if_pos (by omega), hen.out])
    clear hp
    go_enter Try.func30, Try.ntmps30
    go_wp2
    go_ret
    exact ⟨ret_int ht.out.symm, b1⟩
  · have hp' : ((q : Int) % 2 == 0) = false := by simp; omega
    have ht : Hid (tail es (q : Int) = y) := Lib.hid (by unfold tail; rw [if_neg (by omega), hen.out])
    clear hp
    go_enter Try.func30, Try.ntmps30
    go_wp2
    go_ret
    exact ⟨ret_int ht.out.symm, b1⟩

theorem twin_any (w : World) (d : Int) (h0 : 0 ≤ d) (h1 : d ≤ 1000000) :
    Calls Try.prog 49 #[.int .i64 d] w fun e w' => e = .returned (.int .i64 (twin d)) ∧ w = w' := by
  by_cases hp : d % 2 = 0
  · have ht : Hid (twin d = d + 1) := Lib.hid (by unfold twin; rw [if_pos hp])
    have hp' : (d % 2 == 0) = true := by simp [hp]
    clear hp
    go_enter Try.func49, Try.ntmps49
    go_wp2
    go_ret
    exact ⟨ret_int ht.out.symm, rfl⟩
  · have ht : Hid (twin d = d - 1) := Lib.hid (by unfold twin; rw [if_neg hp])
    have hp' : (d % 2 == 0) = false := by simp; omega
    clear hp
    go_enter Try.func49, Try.ntmps49
    go_wp2
    go_ret
    exact ⟨ret_int ht.out.symm, rfl⟩
theorem twin_range {d : Int} {m : Nat} (h0 : 0 ≤ d) (h1 : d < 2 * m) : 0 ≤ twin d ∧ twin d < 2 * m := by
  unfold twin
  split <;> omega

set_option maxHeartbeats 1000000 in
theorem refHead_any (w : World) (N : Int) (A : Option Addr) (m c : Nat) (es : List (Int × Int)) (d : Int) (hg : ES w w.heap.size A m c es) (hm : m ≤ 1024) (h0 : 0 ≤ d) (h1 : d < 2 * m) :
    Calls Try.prog 32 #[.agg #[.int .i64 N, .slice A m c], .int .i64 d] w fun e w' => e = .returned (.int .i64 (head es d)) ∧ Below w.heap.size w w' := by
  obtain ⟨w1, hw1, b1, hs1, hcell⟩ := box_one w #[.int .i64 N, .slice A m c] 24
  have c0 : w1.cell? ⟨w.heap.size, 0, none⟩ = some (.int .i64 N) := hcell 0
  have c1 : w1.cell? ⟨w.heap.size, 1, none⟩ = some (.slice A m c) := hcell 1
  have k0 := After.cell hs1 c0
  have k1 := After.cell hs1 c1
  have hg1 := hg.step b1
  have ⟨t0, t1⟩ := twin_range h0 h1
  obtain ⟨t, ht⟩ : ∃ t, twin d = t := ⟨_, rfl⟩
  rw [ht] at t0 t1
  have hn := After.has w1
  have HT : ∀ x : After w1, Hid (Calls Try.prog 49 #[.int .i64 d] x.at_ fun e w' => e = .returned (.int .i64 t) ∧ x.at_ = w') := fun x => Lib.hid (by rw [← ht]; exact twin_any _ d h0 (by omega))
  have HG : ∀ x : After w1, Hid (Calls Try.prog 30 #[.agg #[.int .i64 N, .slice A m c], .int .i64 t] x.at_ fun e w' => e = .returned (.int .i64 (tail es t)) ∧ Below x.at_.heap.size x.at_ w') := fun x =>
    Lib.hid (refTail_any _ _ N A m c es t (hg1.step x.below) (Nat.le_refl _) t0 t1)
  have HE : Hid (head es d = tail es t) := Lib.hid (by unfold head; rw [ht])
  clear hcell hg1 ht hg
  go_enter Try.func32, Try.ntmps32
  go_wp2_with fail
  refine wp_region_after (by kernel_rfl) (by kernel_rfl) ?_
  repeat (go_big_quiet_step ((first | (go_at_call 49; exact After.same (HT _).out) | (go_at_call 30; exact After.call (HG _).out))))
  refine wpQuiet_nil ?_
  intro _ hw'
  obtain ⟨x, rfl⟩ := hw'
  go_wp2
  go_ret
  exact ⟨ret_int HE.out.symm, bstep b1 x.below⟩

end Go.Proofs.Ythobfbnopkbniaa
end

section
namespace Go.Proofs.Ythobfbnopkbniaa
open Go.RowKit

/-- Of a size that is looked at. -/
def Small6 (N : Int) (m nv ne : Nat) (tt : List (List Int)) : Prop := Small N m nv ne ∧ tt.length ≤ 100 ∧ ∀ t ∈ tt, t.length ≤ 200

set_option maxHeartbeats 4000000 in
set_option maxRecDepth 100000 in
theorem small6_any (w : World) (N : Int) (A : Option Addr) (m c : Nat) (es : List (Int × Int)) (Av : Option Addr) (nv cv : Nat) (vs : List Int) (Ae : Option Addr) (ne ce : Nat) (xs : List Int) (At : Option Addr) (nt ct : Nat) (tt : List (List Int)) (h : GP w N A m c es Av nv cv vs Ae ne ce xs) (ht : TS w w.heap.size At nt ct tt) :
    Calls Try.prog 18 #[.agg #[.int .i64 N, .slice A m c], .agg #[.slice Av nv cv, .slice Ae ne ce], .slice At nt ct] w fun e w' => ((Small6 N m nv ne tt ∧ e = .returned (.int .i64 1)) ∨ (¬ Small6 N m nv ne tt ∧ e = .returned (.int .i64 0))) ∧ Below w.heap.size w w' := by
  have hn := ht.le
  have hc := ht.cap
  have HL := Lib.hid ht.len
  obtain ⟨w1, hw1, b1, gb1⟩ := box_gp w N A m c es Av nv cv Ae ne ce
  have h1 := h.step b1
  have t1 := ht.step b1
  have ⟨_, _, c0, c1, c2, c3, _⟩ := gb1
  clear h ht
  by_cases hs : Small N m nv ne
  · have HS := Lib.hid hs
    clear hs
    by_cases hl : 100 < nt
    · have HNo : Hid (¬ Small6 N m nv ne tt) := Lib.hid fun hh => by have := hh.2.1; rw [HL.out] at this; omega
      have d : (decide ((100 : Int) < (nt : Int))) = true := by simp; omega
      go_enter Try.func18, Try.ntmps18
      go_wp2_with fail
      refine (small_yes w1 N A m c es Av nv cv vs Ae ne ce xs h1 HS.out).mono ?_
      rintro e w2 ⟨rfl, b2⟩
      go_wp2
      go_ret
      exact ⟨.inr ⟨HNo.out, rfl⟩, bstep b1 b2⟩
    · have d : (decide ((100 : Int) < (nt : Int))) = false := by simp; omega
      go_enter Try.func18, Try.ntmps18
      go_wp2_with fail
      refine (small_yes w1 N A m c es Av nv cv vs Ae ne ce xs h1 HS.out).mono ?_
      rintro e w2 ⟨rfl, b2⟩
      have t2 := t1.step b2
      have B2 := Lib.hid (bstep b1 b2)
      clear hw1 h1 t1 c0 c1 c2 c3 gb1 b1 b2
      go_wp2
      go_loop [7] (fun i => ∃ k : Nat, k ≤ nt ∧ i = .int .i64 k ∧ Hid (∀ j, j < k → (tt.getD j []).length ≤ 200)) (fun i => nt - (intOf i).toNat)
      case atStart => exact ⟨0, Nat.zero_le _, rfl, Lib.hid fun j hj => absurd hj (by omega)⟩
      case round =>
        obtain ⟨k, hk, rfl, hok⟩ := hrel
        by_cases hlt : k < nt
        · obtain ⟨b, o, t, A3, n3, c3, hA, hb, htk, hcc, ist⟩ := t2.get hlt
          subst hA
          have hkl : Hid (k < tt.length) := Lib.hid (by rw [HL.out]; exact hlt)
          have hlen := ist.len
          have HTK : Hid ((tt.getD k []).length = n3) := Lib.hid (by rw [htk.out]; exact hlen)
          clear ist hlen
          by_cases h2 : 200 < n3
          · have HNo : Hid (¬ Small6 N m nv ne tt) := Lib.hid fun hh => by have := hh.2.2 _ (getD_mem hkl.out); rw [HTK.out] at this; omega
            have d2 : (decide ((200 : Int) < (n3 : Int))) = true := by simp; omega
            go_wp2
            go_ret
            exact ⟨.inr ⟨HNo.out, rfl⟩, B2.out⟩
          · have d2 : (decide ((200 : Int) < (n3 : Int))) = false := by simp; omega
            go_wp2
            go_round
            case rel => exact ⟨k + 1, by omega, by go_num, Lib.hid fun j hj => by
              rcases Nat.lt_or_ge j k with h3 | h3
              · exact hok.out j h3
              · obtain rfl : j = k := by omega
                rw [HTK.out]; omega⟩
            case measure => simp [intOf]; omega
        · obtain rfl : k = nt := by omega
          have HYes : Hid (Small6 N m nv ne tt) := Lib.hid ⟨HS.out, by rw [HL.out]; omega, fun t htm => by
            obtain ⟨j, hj, rfl⟩ := List.getElem_of_mem htm
            have := hok.out j (by rw [← HL.out]; exact hj)
            rw [List.getD_eq_getElem?_getD, List.getElem?_eq_getElem hj] at this
            exact this⟩
          go_wp2
          go_ret
          exact ⟨.inl ⟨HYes.out, rfl⟩, B2.out⟩
  · have HNo : Hid (¬ Small6 N m nv ne tt) := Lib.hid fun hh => hs hh.1
    have HS := Lib.hid hs
    clear hs
    go_enter Try.func18, Try.ntmps18
    go_wp2_with fail
    refine (small_no w1 N A m c es Av nv cv vs Ae ne ce xs h1 HS.out).mono ?_
    rintro e w2 ⟨rfl, b2⟩
    go_wp2
    go_ret
    exact ⟨.inr ⟨HNo.out, rfl⟩, bstep b1 b2⟩
end Go.Proofs.Ythobfbnopkbniaa
end

section
namespace Go.Proofs.Ythobfbnopkbniaa
open Go.RowKit

theorem new_ok (w : World) (N : Int) (A : Option Addr) (m c : Nat) (es : List (Int × Int)) (Av : Option Addr) (nv cv : Nat) (vs : List Int) (Ae : Option Addr) (ne ce : Nat) (xs : List Int) (At : Option Addr) (nt ct : Nat) (tt : List (List Int)) (h : GP w N A m c es Av nv cv vs Ae ne ce xs) (ht : TS w w.heap.size At nt ct tt) (hm60 : m ≤ 60) (hne60 : ne ≤ 60) (hp : pRight N es vs xs = 0) (hT : TurnOK N es xs tt) :
    Calls Try.prog 19 #[.agg #[.int .i64 N, .slice A m c], .agg #[.slice Av nv cv, .slice Ae ne ce], .slice At nt ct] w fun e w' => ∃ r, e = .returned (.tuple #[.pointer (some ⟨r, 0, none⟩), .int .i64 0]) ∧ RS w' r (lvOf es xs) (tt.map first) (placeN tt tt.length) (allDarts xs) ∧ Below w.heap.size w w' := by
  refine (new_any w N A m c es Av nv cv vs Ae ne ce xs At nt ct tt h ht hm60 hne60).mono ?_
  rintro e w' ⟨h1 | h1, hb⟩
  · obtain ⟨_, _, r, rfl, hrs⟩ := h1
    exact ⟨r, rfl, hrs, hb⟩
  · exact absurd ⟨hp, hT⟩ h1.1
theorem ex_right : pRight 2 [(0, 1), (0, 1)] (upto (2 : Int).toNat) (upto 2) = 0 := by decide
theorem ex_turned : Turned 2 [(0, 1), (0, 1)] (upto 2) [[0, 2], [1, 3]] := by unfold Turned; decide
theorem ex_turn : TurnOK 2 [(0, 1), (0, 1)] (upto 2) [[0, 2], [1, 3]] := (turned_iff (pRight_ok ex_right)).1 ex_turned
theorem ex_next1 (w : World) (r : Nat) (h : RS w r (lvOf [(0, 1), (0, 1)] (upto 2)) ([[0, 2], [1, 3]].map first) (placeN [[0, 2], [1, 3]] 2) (allDarts (upto 2))) :
    Calls Try.prog 22 #[.pointer (some ⟨r, 0, none⟩), .int .i64 0] w fun e w' => e = .returned (.tuple #[.int .i64 3, .bool true]) ∧ w = w' :=
  next_of w _ 0 3 true ⟨by omega, by omega⟩ (beside_yes w r _ _ _ _ h (twin 0) (-1) ⟨by decide, by decide⟩ 1 0 [1, 3] (by decide) (by decide) (by decide) (by decide) (by decide) (by omega) (by omega) (by decide) 1 (by decide))
theorem ex_next2 (w : World) (r : Nat) (h : RS w r (lvOf [(0, 1), (0, 1)] (upto 2)) ([[0, 2], [1, 3]].map first) (placeN [[0, 2], [1, 3]] 2) (allDarts (upto 2))) :
    Calls Try.prog 22 #[.pointer (some ⟨r, 0, none⟩), .int .i64 3] w fun e w' => e = .returned (.tuple #[.int .i64 0, .bool true]) ∧ w = w' :=
  next_of w _ 3 0 true ⟨by omega, by omega⟩ (beside_yes w r _ _ _ _ h (twin 3) (-1) ⟨by decide, by decide⟩ 0 1 [0, 2] (by decide) (by decide) (by decide) (by decide) (by decide) (by omega) (by omega) (by decide) 2 (by decide))
/-- Two rows side by side in a new block. -/
theorem TS.two {w : World} {A1 A2 : Option Addr} {n1 c1 n2 c2 : Nat} {xs ys : List Int} (t : TypeId) (h1 : IS w w.heap.size A1 n1 c1 xs) (h2 : IS w w.heap.size A2 n2 c2 ys) :
    TS (w.alloc (.cells #[.slice A1 n1 c1, .slice A2 n2 c2] t)) (w.alloc (.cells #[.slice A1 n1 c1, .slice A2 n2 c2] t)).heap.size (some ⟨w.heap.size, 0, none⟩) 2 2 [xs, ys] := by
  obtain ⟨w1, hw1, b1, s1, hc⟩ := box_one w #[.slice A1 n1 c1, .slice A2 n2 c2] t
  rw [hw1]
  exact ⟨rfl, Nat.le_refl _, by omega, fun _ => ⟨_, 0, rfl, s1, fun j hj => by
    match j, hj with
    | 0, _ => exact ⟨_, _, _, hc 0, h1.step b1⟩
    | 1, _ => exact ⟨_, _, _, hc 1, h2.step b1⟩⟩⟩
theorem IS.two_ (w : World) (x y : Int) (hx : I64 x) (hy : I64 y) : IS (w.alloc (.cells #[.int .i64 x, .int .i64 y] 3)) (w.alloc (.cells #[.int .i64 x, .int .i64 y] 3)).heap.size (some ⟨w.heap.size, 0, none⟩) 2 2 [x, y] :=
  (IS.two w x y hx hy).more (by simp)

set_option maxHeartbeats 4000000 in
set_option maxRecDepth 100000 in
theorem awake6_any (w : World) : Calls Try.prog 17 #[] w fun e w' => e = .returned (.bool true) ∧ Below w.heap.size w w' := by
  go_enter Try.func17, Try.ntmps17
  go_wp2
  obtain ⟨wb, hwb⟩ : ∃ wb, ((w.alloc (.cells #[.int .i64 0, .int .i64 1, .int .i64 0, .int .i64 1] 86)).alloc (.cells #[.int .i64 2, .slice (some ⟨w.heap.size, 0, none⟩) 2 2] 24)) = wb := ⟨_, rfl⟩
  have hbw : Below w.heap.size w wb := by rw [← hwb]; exact ((Below.refl _ _).alloc (Nat.le_refl _) _).alloc (by simp) _
  have hsz : wb.heap.size = w.heap.size + 2 := by rw [← hwb]; simp
  have c0 : wb.cell? ⟨w.heap.size + 1, 0, none⟩ = some (.int .i64 2) := by rw [← hwb]; simp
  have c1 : wb.cell? ⟨w.heap.size + 1, 1, none⟩ = some (.slice (some ⟨w.heap.size, 0, none⟩) 2 2) := by rw [← hwb]; simp
  have hes : ES wb wb.heap.size (some ⟨w.heap.size, 0, none⟩) 2 2 [(0, 1), (0, 1)] := by
    refine ⟨rfl, Nat.le_refl _, by omega, by simp [I64], fun _ => ⟨_, 0, rfl, by omega, fun j hj => ?_⟩⟩
    rw [← hwb]
    match j, hj with
    | 0, _ => simp
    | 1, _ => simp
  have hgl : w.heap.size + 1 < wb.heap.size := by omega
  rw [hwb]
  clear hwb
  refine wp_region_rel 7 [[], [], [1], [], [], [3, 4], [0, 1, 2, 3, 4, 5]]
    [fun v _ => v = .agg #[.int .i64 2, .slice (some ⟨w.heap.size, 0, none⟩) 2 2], fun v _ => v = .agg #[.int .i64 2, .slice (some ⟨w.heap.size, 0, none⟩) 2 2],
     fun v w' => ∃ A1 n1 d1 A2 n2 d2, v = .agg #[.slice A1 n1 d1, .slice A2 n2 d2] ∧ IS w' w'.heap.size A1 n1 d1 (upto 2) ∧ IS w' w'.heap.size A2 n2 d2 (upto 2),
     fun v w' => ∃ A, v = .slice A 2 2 ∧ IS w' w'.heap.size A 2 2 [0, 2], fun v w' => ∃ A, v = .slice A 2 2 ∧ IS w' w'.heap.size A 2 2 [1, 3],
     fun v w' => ∃ A, v = .slice A 2 2 ∧ TS w' w'.heap.size A 2 2 [[0, 2], [1, 3]],
     fun v w' => ∃ r, v = .tuple #[.pointer (some ⟨r, 0, none⟩), .int .i64 0] ∧ RS w' r (lvOf [(0, 1), (0, 1)] (upto 2)) ([[0, 2], [1, 3]].map first) (placeN [[0, 2], [1, 3]] 2) (allDarts (upto 2))]
    (by kernel_rfl) (by kernel_rfl) rfl ⟨?_, ?_, ?_, ?_, ?_, ?_, ?_, trivial⟩ ?_
  · intro wr hx v0 _ v1 _ v2 _ v3 _ v4 _ v5 _ v6 _ K hK
    have k0 := (hx.cell (p := ⟨w.heap.size + 1, 0, none⟩) hgl).trans c0
    have k1 := (hx.cell (p := ⟨w.heap.size + 1, 1, none⟩) hgl).trans c1
    simp only [Act.put, List.setIfInBounds_toArray, List.set_cons_zero, List.set_cons_succ] at hK ⊢
    go_wp2
    exact hK _ _ (Ext.refl _) (fun _ _ => rfl)
  · intro wr hx v0 _ v1 _ v2 _ v3 _ v4 _ v5 _ v6 _ K hK
    have k0 := (hx.cell (p := ⟨w.heap.size + 1, 0, none⟩) hgl).trans c0
    have k1 := (hx.cell (p := ⟨w.heap.size + 1, 1, none⟩) hgl).trans c1
    simp only [Act.put, List.setIfInBounds_toArray, List.set_cons_zero, List.set_cons_succ] at hK ⊢
    go_wp2
    exact hK _ _ (Ext.refl _) (fun _ _ => rfl)
  · intro wr hx v0 _ v1 h1 v2 _ v3 _ v4 _ v5 _ v6 _ K hK
    obtain rfl := (h1 (by decide)).now
    clear h1
    simp only [Act.put, List.setIfInBounds_toArray, List.set_cons_zero, List.set_cons_succ] at hK ⊢
    go_wp2_with fail
    refine (whole_any wr 2 _ 2 2 _ (hes.step hx) (by omega) (by omega) (by omega)).mono ?_
    rintro e w' ⟨A1, n1, d1, A2, n2, d2, rfl, his1, his2, hb⟩
    go_wp2
    exact hK _ _ hb (fun w'' hx' => ⟨_, _, _, _, _, _, rfl, his1.step hx', his2.step hx'⟩)
  · intro wr hx v0 _ v1 _ v2 _ v3 _ v4 _ v5 _ v6 _ K hK
    simp only [Act.put, List.setIfInBounds_toArray, List.set_cons_zero, List.set_cons_succ] at hK ⊢
    go_wp2
    exact hK _ _ (Ext.alloc _ _) (fun w'' hx' => ⟨_, rfl, (IS.two_ wr 0 2 ⟨by omega, by omega⟩ ⟨by omega, by omega⟩).step hx'⟩)
  · intro wr hx v0 _ v1 _ v2 _ v3 _ v4 _ v5 _ v6 _ K hK
    simp only [Act.put, List.setIfInBounds_toArray, List.set_cons_zero, List.set_cons_succ] at hK ⊢
    go_wp2
    exact hK _ _ (Ext.alloc _ _) (fun w'' hx' => ⟨_, rfl, (IS.two_ wr 1 3 ⟨by omega, by omega⟩ ⟨by omega, by omega⟩).step hx'⟩)
  · intro wr hx v0 _ v1 _ v2 _ v3 h3 v4 h4 v5 _ v6 _ K hK
    obtain ⟨A3, rfl, i3⟩ := (h3 (by decide)).now
    obtain ⟨A4, rfl, i4⟩ := (h4 (by decide)).now
    clear h3 h4
    simp only [Act.put, List.setIfInBounds_toArray, List.set_cons_zero, List.set_cons_succ] at hK ⊢
    go_wp2
    exact hK _ _ (Ext.alloc _ _) (fun w'' hx' => ⟨_, rfl, (TS.two _ i3 i4).step hx'⟩)
  · intro wr hx v0 h0 v1 _ v2 h2 v3 _ v4 _ v5 h5 v6 _ K hK
    obtain rfl := (h0 (by decide)).now
    obtain ⟨A1, n1, d1, A2, n2, d2, rfl, i1, i2⟩ := (h2 (by decide)).now
    obtain ⟨A5, rfl, i5⟩ := (h5 (by decide)).now
    clear h0 h2 h5
    simp only [Act.put, List.setIfInBounds_toArray, List.set_cons_zero, List.set_cons_succ] at hK ⊢
    go_wp2_with fail
    refine (new_ok wr 2 _ 2 2 _ A1 n1 d1 _ A2 n2 d2 _ _ 2 2 [[0, 2], [1, 3]] ⟨hes.step hx, ⟨by omega, by omega⟩, i1, i2⟩ i5 (by omega) (by have := i2.len; rw [upto_len] at this; omega) ex_right ex_turn).mono ?_
    rintro e w' ⟨r, rfl, hrs, hb⟩
    go_wp2
    exact hK _ _ hb (fun w'' hx' => ⟨_, rfl, hrs.step hx'⟩)
  · intro wr hx v0 _ v1 _ v2 _ v3 _ v4 _ v5 _ v6 h6
    obtain ⟨r, rfl, hrs⟩ := h6.now
    refine tail_quiet (by kernel_rfl) ?_
    simp only [List.drop_succ_cons, List.drop_zero, Act.put, List.setIfInBounds_toArray, List.set_cons_zero, List.set_cons_succ]
    clear h6
    repeat (go_big_quiet_step (fail))
    refine wpQuiet_nil ?_
    go_wp2_with fail
    refine (ex_next1 wr r hrs).mono ?_
    rintro e w10 ⟨rfl, rfl⟩
    go_wp2_with fail
    refine (ex_next2 wr r hrs).mono ?_
    rintro e w10 ⟨rfl, rfl⟩
    go_wp2
    go_ret
    exact ⟨rfl, hbw.trans (hx.mono hbw.size)⟩
end Go.Proofs.Ythobfbnopkbniaa
end

section
namespace Go.Proofs.Ythobfbnopkbniaa
open Go.RowKit

theorem ex_walks : walksOf [(0, 1), (0, 1)] [[0, 2], [1, 3]] (upto (2 : Int).toNat) (upto 2) = [(0, [0, 3]), (1, [1, 2])] := by decide

/-- face.Walks on the example. -/
theorem ex_face_walks {w w' : World} {e : Ending} (h : WalksRes w 2 [(0, 1), (0, 1)] (upto (2 : Int).toNat) (upto 2) [[0, 2], [1, 3]] e w') :
    ∃ b o c A1 n1 c1 A2 n2 c2, e = .returned (.tuple #[.slice (some ⟨b, o, none⟩) 2 c, .int .i64 0]) ∧ 2 ≤ c ∧ c ≤ 9223372036854775807 ∧
      w'.cell? ⟨b, o + 1, none⟩ = some (.slice A1 n1 c1) ∧ IS w' w'.heap.size A1 n1 c1 [0, 3] ∧ w'.cell? ⟨b, o + 2 + 1, none⟩ = some (.slice A2 n2 c2) ∧ IS w' w'.heap.size A2 n2 c2 [1, 2] ∧ Below w.heap.size w w' := by
  obtain ⟨⟨_, _, A, n, c, rfl, hW⟩ | ⟨hno, _⟩, hb⟩ := h
  · rw [ex_walks] at hW
    have hlen := hW.len
    obtain rfl : n = 2 := by simpa using hlen.symm
    obtain ⟨b, o, y, t, A1, n1, c1, rfl, _, hg, _, _, h1, i1⟩ := hW.get (k := 0) (by omega)
    obtain ⟨b', o', y', t', A2, n2, c2, he, _, hg', _, _, h2, i2⟩ := hW.get (k := 1) (by omega)
    injection he with he
    injection he with e1 e2
    subst e1 e2
    have g1 := hg.out
    have g2 := hg'.out
    simp at g1 g2
    obtain ⟨rfl, rfl⟩ := g1
    obtain ⟨rfl, rfl⟩ := g2
    exact ⟨b, o, c, A1, n1, c1, A2, n2, c2, rfl, hW.le, hW.cap, by simpa using h1, i1, by simpa using h2, i2, hb⟩
  · exact absurd ⟨ex_right, ex_turn⟩ hno
end Go.Proofs.Ythobfbnopkbniaa
end

section
namespace Go.Proofs.Ythobfbnopkbniaa
open Go.RowKit

/-- tracerylaw07.awake answers true. -/
def AwakeFace : Prop := ∀ w : World, Calls Try.prog 52 #[] w fun e w' => e = .returned (.bool true) ∧ Below w.heap.size w w'

set_option maxHeartbeats 4000000 in
set_option maxRecDepth 100000 in
theorem faceKeys_of (hA : AwakeFace) (w : World) (N : Int) (A : Option Addr) (m c : Nat) (es : List (Int × Int)) (Av : Option Addr) (nv cv : Nat) (vs : List Int) (Ae : Option Addr) (ne ce : Nat) (xs : List Int) (At : Option Addr) (nt ct : Nat) (tt : List (List Int)) (d : Int) (h : GP w N A m c es Av nv cv vs Ae ne ce xs) (ht : TS w w.heap.size At nt ct tt) :
    Calls Try.prog 15 #[.agg #[.int .i64 N, .slice A m c], .agg #[.slice Av nv cv, .slice Ae ne ce], .slice At nt ct, .int .i64 d] w fun e w' => e = .returned (.bool true) ∧ Below w.heap.size w w' := by
  obtain ⟨w1, hw1, b1, gb1⟩ := box_gp w N A m c es Av nv cv Ae ne ce
  have h1 := h.step b1
  have t1 := ht.step b1
  clear h ht
  go_enter Try.func15, Try.ntmps15
  go_wp2_with fail
  refine (hA w1).mono ?_
  rintro e w2 ⟨rfl, b2⟩
  have h2 := h1.step b2
  have t2 := t1.step b2
  have gb2 := gb1.step b2
  replace b1 := bstep b1 b2
  clear hw1 h1 t1 gb1 b2
  have ⟨_, _, c0, c1, c2, c3, _⟩ := gb2
  go_wp2_with fail
  refine (small6_any w2 N A m c es Av nv cv vs Ae ne ce xs At nt ct tt h2 t2).mono ?_
  rintro e w3 ⟨⟨hs, rfl⟩ | ⟨hs, rfl⟩, b3⟩
  · have h3 := h2.step b3
    have t3 := t2.step b3
    have gb3 := gb2.step b3
    replace b1 := bstep b1 b3
    clear h2 t2 gb2 b3 c0 c1 c2 c3
    have ⟨_, _, c0, c1, c2, c3, _⟩ := gb3
    have hm60 := hs.1.1
    have hne60 := hs.1.2.2.1
    clear hs
    go_wp2_with fail
    refine (key_any w3 N A m c es Av nv cv vs Ae ne ce xs At nt ct tt d h3 t3 hm60 hne60).mono ?_
    rintro e w4 ⟨⟨hp, hT, rfl⟩ | ⟨hno, rfl⟩, b4⟩
    · have h4 := h3.step b4
      have t4 := t3.step b4
      have gb4 := gb3.step b4
      replace b1 := bstep b1 b4
      clear h3 t3 gb3 b4 c0 c1 c2 c3
      have ⟨_, _, c0, c1, c2, c3, _⟩ := gb4
      cases hk : keyOf (walksOf es tt vs xs) d with
      | none =>
        have B1 := Lib.hid b1
        clear b1 hk
        simp only [keyVal]
        go_wp2_with fail
        go_ret
        exact ⟨rfl, B1.out⟩
      | some k =>
        obtain ⟨hk1, hk2, hk3⟩ := keys_law (pRight_ok hp) hT hk
        simp only [keyVal]
        have HP := Lib.hid hp
        have HT := Lib.hid hT
        have HK := Lib.hid hk1
        have HS := Lib.hid hk3
        have B1 := Lib.hid b1
        have hle := decide_eq_true hk2
        clear hp hT hk hk1 hk3 hk2 b1
        go_wp2_with fail
        refine (key_any w4 N A m c es Av nv cv vs Ae ne ce xs At nt ct tt k h4 t4 hm60 hne60).mono ?_
        rintro e w5 ⟨⟨_, _, rfl⟩ | ⟨hno, rfl⟩, b5⟩
        · rw [HK.out]
          simp only [keyVal]
          replace B1 := Lib.hid (bstep B1.out b5)
          clear b5 h4 t4 gb4 c0 c1 c2 c3
          have hk3 := HS.out
          go_wp2_with fail
          all_goals (go_ret; refine ⟨?_, B1.out⟩; first | rfl | simp [hk3] | simp [hle] | simp_all)
        · exact absurd ⟨HP.out, HT.out⟩ hno
    · have B1 := Lib.hid (bstep b1 b4)
      clear b1 b4 h3 t3 gb3 c0 c1 c2 c3 hno
      simp only [keyVal]
      go_wp2_with fail
      go_ret
      exact ⟨rfl, B1.out⟩
  · have B1 := Lib.hid (bstep b1 b3)
    clear b1 b3 h2 t2 gb2 c0 c1 c2 c3 hs
    go_wp2_with fail
    refine (hA w3).mono ?_
    rintro e w4 ⟨rfl, b4⟩
    have B2 := Lib.hid (bstep B1.out b4)
    clear b4
    go_wp2_with fail
    go_ret
    exact ⟨rfl, B2.out⟩
end Go.Proofs.Ythobfbnopkbniaa
end

section
namespace Go.Proofs.Ythobfbnopkbniaa
open Go.RowKit

theorem take_next {xs ys : List Int} {k : Nat} {z : Int} (hx : k < xs.length) (hy : k < ys.length) (h : xs.take k = ys.take k) (e : xs.getD k 0 = z) (e' : ys.getD k 0 = z) : xs.take (k + 1) = ys.take (k + 1) := by rw [take_getD hx e, take_getD hy e', h]

set_option maxHeartbeats 2000000 in
set_option maxRecDepth 100000 in
theorem refEqual_any (w : World) (B B' : Nat) (A A' : Option Addr) (n c n' c' : Nat) (xs ys : List Int) (h : IS w B A n c xs) (h' : IS w B' A' n' c' ys) :
    Calls Try.prog 42 #[.slice A n c, .slice A' n' c'] w fun e w' => e = .returned (.bool (decide (xs = ys))) ∧ Drawn w w' := by
  have hn := h.le
  have hc := h.cap
  have hn' := h'.le
  have hc' := h'.cap
  have HLX := Lib.hid h.len
  have HLY := Lib.hid h'.len
  by_cases hnn : n = n'
  · subst hnn
    have hd0 := Drawn.refl w
    have d0 : ((n : Int) != (n : Int)) = false := by simp
    have d0' : (n != n) = false := by simp
    go_enter Try.func42, Try.ntmps42
    go_wp2
    go_loopw [5] (fun i wr => ∃ k : Nat, k ≤ n ∧ i = .int .i64 k ∧ xs.take k = ys.take k ∧ Drawn w wr) (fun i _ => n - (intOf i).toNat)
    case atStart => exact ⟨0, Nat.zero_le _, rfl, rfl, hd0⟩
    case round =>
      obtain ⟨k, hk, rfl, htk, hd⟩ := hrel
      have HTK := Lib.hid htk
      have HD := Lib.hid hd
      clear htk hd
      by_cases hlt : k < n
      · obtain ⟨b, o, z, rfl, hb, hz, hz64, hcz⟩ := (h.below (HD.out.below _)).get hlt
        obtain ⟨b', o', y, rfl, hb', hy, hy64, hcy⟩ := (h'.below (HD.out.below _)).get hlt
        have HH := Lib.hid h
        have HH' := Lib.hid h'
        have hk0 : (0 : Int) ≤ (k : Int) := by omega
        have hk1 : (k : Int) < (n : Int) := by omega
        clear h h'
        by_cases hzy : z = y
        · have d1 : (z != y) = false := by simp [hzy]
          have hzy' : Hid (z = y) := Lib.hid hzy
          clear hzy
          go_wp2
          go_quiet (fail)
          go_wp2
          go_roundw
          case rel => exact ⟨k + 1, by omega, by go_num, take_next (by rw [HLX.out]; omega) (by rw [HLY.out]; omega) HTK.out hz.out (by rw [hzy'.out]; exact hy.out), HD.out.add _⟩
          case measure => simp [intOf]; omega
        · have d1 : (z != y) = true := by simp [hzy]
          have hne : Hid (decide (xs = ys) = false) := Lib.hid (decide_eq_false fun e => hzy (by rw [← hz.out, ← hy.out, e]))
          clear hzy
          go_wp2
          go_quiet (fail)
          go_wp2
          go_ret
          exact ⟨ret_bool hne.out.symm, HD.out.add _⟩
      · obtain rfl : k = n := by omega
        have hee : Hid (decide (xs = ys) = true) := Lib.hid (decide_eq_true (by have := HTK.out; rwa [List.take_of_length_le (Nat.le_of_eq HLX.out), List.take_of_length_le (Nat.le_of_eq HLY.out)] at this))
        clear h h'
        go_wp2
        go_ret
        exact ⟨ret_bool hee.out.symm, HD.out⟩
  · have d0 : ((n : Int) != (n' : Int)) = true := by simp; omega
    have d0' : (n != n') = true := by simp [hnn]
    have hne : Hid (decide (xs = ys) = false) := Lib.hid (decide_eq_false fun e => hnn (by rw [← HLX.out, ← HLY.out, e]))
    have hd0 := Drawn.refl w
    clear hnn h h'
    go_enter Try.func42, Try.ntmps42
    go_wp2
    go_ret
    exact ⟨ret_bool hne.out.symm, hd0⟩

end Go.Proofs.Ythobfbnopkbniaa
end
