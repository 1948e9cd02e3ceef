/-
  Turns as plain lists: which lists are turns of a part, all darts, places; no program in sight; no conditions.
-/
import Derived.Test.YthobfbnopkbniaaGPlain
namespace Go.Proofs.Ythobfbnopkbniaa

/-- A list without twice the same is no longer than what it is in. -/
theorem nodup_len {a b : List Int} (ha : a.Nodup) (hs : ∀ x ∈ a, x ∈ b) : a.length ≤ b.length := by
  induction a generalizing b with
  | nil => simp
  | cons x a ih =>
    rw [List.nodup_cons] at ha
    have hx : x ∈ b := hs x (by simp)
    have h1 := ih (b := b.erase x) ha.2 fun y hy => (List.mem_erase_of_ne (show y ≠ x from fun e => ha.1 (e ▸ hy))).2 (hs y (by simp [hy]))
    rw [List.length_erase_of_mem hx] at h1
    have := List.length_pos_of_mem hx
    rw [List.length_cons]
    omega
/-- .. and where it is as long it has all of it. -/
theorem nodup_full {a b : List Int} (ha : a.Nodup) (hs : ∀ x ∈ a, x ∈ b) (hl : b.length ≤ a.length) : ∀ x ∈ b, x ∈ a := by
  intro x hx
  refine Classical.byContradiction fun hn => ?_
  have h1 := nodup_len (a := x :: a) (b := b) (List.nodup_cons.2 ⟨hn, ha⟩) (by intro y hy; rcases List.mem_cons.1 hy with rfl | hy; exact hx; exact hs y hy)
  rw [List.length_cons] at h1
  omega

/-- All darts of edges, rising. -/
def allDarts : List Int → List Int
  | [] => []
  | x :: xs => 2 * x :: (2 * x + 1) :: allDarts xs
theorem allDarts_len : ∀ xs : List Int, (allDarts xs).length = 2 * xs.length
  | [] => rfl
  | x :: xs => by simp only [allDarts, List.length_cons, allDarts_len xs]; omega
theorem allDarts_append : ∀ a b : List Int, allDarts (a ++ b) = allDarts a ++ allDarts b
  | [], _ => rfl
  | x :: a, b => by simp [allDarts, allDarts_append a b]
theorem mem_allDarts {d : Int} : ∀ {xs : List Int}, d ∈ allDarts xs ↔ d / 2 ∈ xs
  | [] => by simp [allDarts]
  | x :: xs => by
    simp only [allDarts, List.mem_cons, mem_allDarts (xs := xs)]
    constructor
    · rintro (h | h | h)
      · exact .inl (by omega)
      · exact .inl (by omega)
      · exact .inr h
    · rintro (h | h)
      · rcases Int.emod_two_eq d with h2 | h2
        · exact .inl (by omega)
        · exact .inr (.inl (by omega))
      · exact .inr (.inr h)
theorem allDarts_sorted : ∀ {xs : List Int}, xs.Pairwise (· < ·) → (allDarts xs).Pairwise (· < ·)
  | [], _ => List.Pairwise.nil
  | x :: xs, h => by
    rw [List.pairwise_cons] at h
    have key : ∀ d ∈ allDarts xs, 2 * x + 1 < d := fun d hd => by
      have := h.1 _ (mem_allDarts.1 hd)
      omega
    simp only [allDarts, List.pairwise_cons]
    refine ⟨?_, key, allDarts_sorted h.2⟩
    intro d hd
    rcases List.mem_cons.1 hd with rfl | hd
    · omega
    · have := key d hd
      omega
theorem sorted_nodup {xs : List Int} (h : xs.Pairwise (· < ·)) : xs.Nodup := h.imp fun hab e => by omega
theorem mem_dartsOf {es : List (Int × Int)} {v d : Int} : ∀ {xs : List Int}, d ∈ dartsOf es v xs ↔ d / 2 ∈ xs ∧ tail es d = v
  | [] => by simp [dartsOf]
  | x :: xs => by
    simp only [dartsOf, List.mem_append, mem_dartsOf (xs := xs), List.mem_cons]
    have h1 : ∀ (p : Prop) [Decidable p] (y : Int), d ∈ (if p then [y] else []) ↔ p ∧ d = y := fun p _ y => by split <;> simp [*]
    rw [h1, h1]
    constructor
    · rintro ((⟨h, rfl⟩ | ⟨h, rfl⟩) | ⟨h, h'⟩)
      · exact ⟨.inl (by omega), h⟩
      · exact ⟨.inl (by omega), h⟩
      · exact ⟨.inr h, h'⟩
    · rintro ⟨h | h, h'⟩
      · rcases Int.emod_two_eq d with h2 | h2
        · have : d = 2 * x := by omega
          exact .inl (.inl ⟨this ▸ h', this⟩)
        · have : d = 2 * x + 1 := by omega
          exact .inl (.inr ⟨this ▸ h', this⟩)
      · exact .inr ⟨h, h'⟩

/-- Are lists turns of a part? -/
def TurnOK (N : Int) (es : List (Int × Int)) (xs : List Int) (tt : List (List Int)) : Prop :=
  (tt.length : Int) = N ∧ ∀ v, v < tt.length → (tt.getD v []).Nodup ∧ ∀ d, d ∈ tt.getD v [] ↔ d ∈ dartsOf es v xs
theorem getD_mem {tt : List (List Int)} {v : Nat} (h : v < tt.length) : tt.getD v [] ∈ tt := by
  rw [List.getD_eq_getElem?_getD, List.getElem?_eq_getElem h]
  exact List.getElem_mem h
/-- What has been placed: the first v lists, and i numbers of the next one. -/
def placed (tt : List (List Int)) (v i : Nat) : List Int := (tt.take v).flatten ++ (tt.getD v []).take i
/-- What New looks at: each dart is in its own list, none twice, none is missing. -/
def Turned (N : Int) (es : List (Int × Int)) (xs : List Int) (tt : List (List Int)) : Prop :=
  (tt.length : Int) = N ∧ (∀ v, v < tt.length → ∀ d ∈ tt.getD v [], d / 2 ∈ xs ∧ tail es d = v) ∧ tt.flatten.Nodup ∧ tt.flatten.length = 2 * xs.length
theorem mem_flat {tt : List (List Int)} {d : Int} : d ∈ tt.flatten ↔ ∃ v, v < tt.length ∧ d ∈ tt.getD v [] := by
  rw [List.mem_flatten]
  constructor
  · rintro ⟨l, hl, hd⟩
    obtain ⟨v, hv, rfl⟩ := List.getElem_of_mem hl
    exact ⟨v, hv, by rw [List.getD_eq_getElem?_getD, List.getElem?_eq_getElem hv]; exact hd⟩
  · rintro ⟨v, hv, hd⟩
    exact ⟨_, getD_mem hv, hd⟩
theorem flat_nodup {tt : List (List Int)} (f : Int → Int) (h1 : ∀ v, v < tt.length → (tt.getD v []).Nodup) (h2 : ∀ v, v < tt.length → ∀ d ∈ tt.getD v [], f d = v) : tt.flatten.Nodup := by
  induction tt generalizing f with
  | nil => simp
  | cons t tt ih =>
    rw [List.flatten_cons, List.nodup_append]
    refine ⟨by simpa using h1 0 (by simp), ih (fun d => f d - 1) (fun v hv => by simpa using h1 (v + 1) (by simpa using hv)) (fun v hv d hd => ?_), fun a ha b hb e => ?_⟩
    · have := h2 (v + 1) (by simpa using hv) d (by simpa using hd)
      omega
    · subst e
      have e1 := h2 0 (by simp) a (by simpa using ha)
      obtain ⟨v, hv, hd⟩ := mem_flat.1 hb
      have e2 := h2 (v + 1) (by simpa using hv) a (by simpa using hd)
      omega
theorem turned_iff {N : Int} {es : List (Int × Int)} {vs xs : List Int} {tt : List (List Int)} (hp : POK N es vs xs) : Turned N es xs tt ↔ TurnOK N es xs tt := by
  have hdn : (allDarts xs).Nodup := sorted_nodup (allDarts_sorted hp.xp)
  constructor
  · rintro ⟨h1, h2, h3, h4⟩
    refine ⟨h1, fun v hv => ⟨?_, fun d => ⟨fun hd => mem_dartsOf.2 (h2 v hv d hd), fun hd => ?_⟩⟩⟩
    · exact h3.sublist (List.sublist_flatten_of_mem (getD_mem hv))
    · obtain ⟨g1, g2⟩ := mem_dartsOf.1 hd
      have hall := nodup_full h3 (b := allDarts xs) (fun x hx => by
        obtain ⟨u, hu, hx⟩ := mem_flat.1 hx
        exact mem_allDarts.2 (h2 u hu x hx).1) (by rw [allDarts_len, h4]; exact Nat.le_refl _) d (mem_allDarts.2 g1)
      obtain ⟨u, hu, hdu⟩ := mem_flat.1 hall
      have := (h2 u hu d hdu).2
      obtain rfl : u = v := by omega
      exact hdu
  · rintro ⟨h1, h2⟩
    have h3 : tt.flatten.Nodup := flat_nodup (tail es) (fun v hv => (h2 v hv).1) fun v hv d hd => (mem_dartsOf.1 (((h2 v hv).2 d).1 hd)).2
    refine ⟨h1, fun v hv d hd => mem_dartsOf.1 (((h2 v hv).2 d).1 hd), h3, ?_⟩
    rw [← allDarts_len]
    refine Nat.le_antisymm (nodup_len h3 fun x hx => ?_) (nodup_len hdn fun x hx => ?_)
    · obtain ⟨u, hu, hx⟩ := mem_flat.1 hx
      exact mem_allDarts.2 (mem_dartsOf.1 (((h2 u hu).2 x).1 hx)).1
    · have hx2 := mem_allDarts.1 hx
      have hr := hp.xr _ hx2
      have he : EIn N (ends es (x / 2)) := by
        apply hp.edges
        unfold ends
        rw [List.getD_eq_getElem?_getD, List.getElem?_eq_getElem (show (x / 2).toNat < es.length by omega)]
        exact List.getElem_mem _
      have ht : 0 ≤ tail es x ∧ tail es x < N := by
        unfold tail
        split
        · exact ⟨he.1, he.2.1⟩
        · exact ⟨he.2.2.1, he.2.2.2⟩
      refine mem_flat.2 ⟨(tail es x).toNat, by omega, ((h2 _ (by omega)).2 x).2 (mem_dartsOf.2 ⟨hx2, by omega⟩)⟩
end Go.Proofs.Ythobfbnopkbniaa
