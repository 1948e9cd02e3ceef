/-
  What hangs together, and what the walk of the pieces keeps: plain functions and lists; no program in sight; no conditions.
-/
import Derived.Test.YthobfbnopkbniaaWWay
namespace Go.Proofs.Ythobfbnopkbniaa

/-- There is a way. -/
def Hang (es : List (Int × Int)) (xs : List Int) (a u : Int) : Prop := ∃ k, Way es xs (-1) a k u

/-- The vertices of l have been told their pieces; there are n. -/
structure PcI (es : List (Int × Int)) (xs vs l : List Int) (n : Nat) (f : Int → Option Int) : Prop where
  root : ∀ i : Nat, i < n → ∃ r ∈ vs, ∀ x, f x = some (i : Int) ↔ Hang es xs r x
  lt : ∀ x k, f x = some k → ∃ i : Nat, k = i ∧ i < n
  all : ∀ x ∈ l, (f x).isSome = true
  le : n ≤ l.length

section
variable {N : Int} {es : List (Int × Int)} {vs xs l : List Int} {n : Nat} {f g : Int → Option Int} {a u x : Int}
theorem Hang.refl (a : Int) : Hang es xs a a := ⟨0, .start⟩
theorem Hang.symm (hp : POK N es vs xs) (h : Hang es xs a u) : Hang es xs u a := by
  obtain ⟨k, hk⟩ := h
  exact ⟨k, hk.back hp⟩
theorem Way.on_ {k m : Nat} (h : Way es xs (-1) a k u) (h' : Way es xs (-1) u m x) : Way es xs (-1) a (k + m) x := by
  induction h' with
  | start => exact h
  | step _ hd hs ih => exact ih.step hd hs
theorem Hang.trans (h : Hang es xs a u) (h' : Hang es xs u x) : Hang es xs a x := by
  obtain ⟨k, hk⟩ := h
  obtain ⟨m, hm⟩ := h'
  exact ⟨_, hk.on_ hm⟩
theorem Hang.dart (hp : POK N es vs xs) {d : Int} (hd : d ∈ dartsOf es a xs) : Hang es xs a (head es d) :=
  ⟨1, Way.start.step hd (by have := hp.vr _ (head_in hp (mem_dartsOf.1 hd).1).1; omega)⟩
theorem Hang.in_ (hp : POK N es vs xs) (ha : a ∈ vs) (h : Hang es xs a u) : u ∈ vs := by
  obtain ⟨k, hk⟩ := h
  cases hk with
  | start => exact ha
  | step _ hd _ => exact (head_in hp (mem_dartsOf.1 hd).1).1
theorem Dist.hang (h : Dist es xs (-1) a g) (u : Int) : (g u).isSome = true ↔ Hang es xs a u := by
  constructor
  · intro hu
    obtain ⟨k, hk⟩ := Option.isSome_iff_exists.1 hu
    obtain ⟨m, _, hm⟩ := h.way u k hk
    exact ⟨m, hm⟩
  · rintro ⟨k, hk⟩
    obtain ⟨q, hq, _⟩ := h.le hk
    rw [hq]; rfl

theorem PcI.start_ : PcI es xs vs [] 0 (fun _ => none) := ⟨fun i hi => absurd hi (by omega), fun _ _ h => (by cases h), by simp, Nat.le_refl _⟩
/-- Those of the pieces told so far, and one piece more. -/
def grow (g f : Int → Option Int) (n : Nat) : Int → Option Int := fun z => if (g z).isSome then some (n : Int) else f z
theorem PcI.more (h : PcI es xs vs l n f) (hp : POK N es vs xs) (hx : x ∈ vs) (hf : f x = none) (hd : Dist es xs (-1) x g) : PcI es xs vs (l ++ [x]) (n + 1) (grow g f n) := by
  have hno : ∀ y i, f y = some i → (g y).isSome = false := fun y k hk => by
    obtain ⟨i, rfl, hi⟩ := h.lt y k hk
    obtain ⟨r, _, hr⟩ := h.root i hi
    cases hg : (g y).isSome with
    | false => rfl
    | true =>
      have h1 := (hr y).1 hk
      have h2 := (hd.hang y).1 hg
      have := (hr x).2 (h1.trans (h2.symm hp))
      rw [hf] at this
      cases this
  refine ⟨fun i hi => ?_, fun y k hk => ?_, fun y hy => ?_, by rw [List.length_append]; have := h.le; simp; omega⟩
  · rcases Nat.lt_or_ge i n with hlt | hge
    · obtain ⟨r, hr1, hr⟩ := h.root i hlt
      refine ⟨r, hr1, fun y => ?_⟩
      rw [← hr y]
      unfold grow
      constructor
      · intro e
        split at e
        · injection e with e; omega
        · exact e
      · intro e
        rw [hno y _ e]
        exact e
    · obtain rfl : i = n := by omega
      refine ⟨x, hx, fun y => ?_⟩
      rw [← hd.hang y]
      unfold grow
      constructor
      · intro e
        split at e
        · assumption
        · obtain ⟨j, h1, h2⟩ := h.lt y _ e
          omega
      · intro e
        rw [if_pos e]
  · unfold grow at hk
    split at hk
    · injection hk with hk
      exact ⟨n, hk.symm, by omega⟩
    · obtain ⟨i, h1, h2⟩ := h.lt y k hk
      exact ⟨i, h1, by omega⟩
  · unfold grow
    rcases List.mem_append.1 hy with hy | hy
    · split
      · rfl
      · exact h.all y hy
    · rw [List.mem_singleton] at hy
      subst hy
      rw [if_pos (by rw [hd.start]; rfl)]
      rfl
theorem PcI.met (h : PcI es xs vs l n f) {k : Int} (hf : f x = some k) : PcI es xs vs (l ++ [x]) n f :=
  ⟨h.root, h.lt, fun y hy => by
    rcases List.mem_append.1 hy with hy | hy
    · exact h.all y hy
    · rw [List.mem_singleton] at hy
      rw [hy, hf]; rfl, by rw [List.length_append]; have := h.le; omega⟩
/-- What the pieces are: of two vertices that hang together, and of those alone, the pieces are one. -/
theorem PcI.same (h : PcI es xs vs vs n f) (hp : POK N es vs xs) {y : Int} (hx : x ∈ vs) : f x = f y ↔ Hang es xs x y := by
  obtain ⟨k, hk⟩ := Option.isSome_iff_exists.1 (h.all x hx)
  obtain ⟨i, rfl, hi⟩ := h.lt x k hk
  obtain ⟨r, _, hr⟩ := h.root i hi
  have h1 := (hr x).1 hk
  constructor
  · intro e
    have h2 := (hr y).1 (e ▸ hk)
    exact (h1.symm hp).trans h2
  · intro e
    rw [hk, (hr y).2 (h1.trans e)]
theorem PcI.one (h : PcI es xs vs vs n f) (hp : POK N es vs xs) : n ≤ 1 ↔ ∀ x ∈ vs, ∀ y ∈ vs, Hang es xs x y := by
  constructor
  · intro hn x hx y hy
    rw [← h.same hp hx]
    obtain ⟨k, hk⟩ := Option.isSome_iff_exists.1 (h.all x hx)
    obtain ⟨i, rfl, hi⟩ := h.lt x k hk
    obtain ⟨k', hk'⟩ := Option.isSome_iff_exists.1 (h.all y hy)
    obtain ⟨i', rfl, hi'⟩ := h.lt y k' hk'
    rw [hk, hk', show i = i' by omega]
  · intro hall
    rcases Nat.lt_or_ge 1 n with h1 | h1
    · obtain ⟨r, hr, h2⟩ := h.root 0 (by omega)
      obtain ⟨r', hr', h3⟩ := h.root 1 (by omega)
      have e1 := (h2 r).2 (Hang.refl r)
      have e2 := (h3 r').2 (Hang.refl r')
      have := (h.same hp hr).2 (hall r hr r' hr')
      rw [e1, e2] at this
      injection this with this
      omega
    · exact h1
end
end Go.Proofs.Ythobfbnopkbniaa
