/-
  Graphs and parts as plain lists: what is right, tails, darts; no program in sight; no conditions.
-/
import Derived.Test.YthobfbnopkbniaaPlainB
namespace Go.Proofs.Ythobfbnopkbniaa

/-- Both ends of an edge are from 0 to below N. -/
def EIn (N : Int) (e : Int × Int) : Prop := 0 ≤ e.1 ∧ e.1 < N ∧ 0 ≤ e.2 ∧ e.2 < N
instance (N : Int) (e : Int × Int) : Decidable (EIn N e) := inferInstanceAs (Decidable (_ ∧ _ ∧ _ ∧ _))
/-- A graph's error. -/
def gRight (N : Int) (es : List (Int × Int)) : Int := if N < 0 then 3 else if 1024 < N + es.length then 2 else if ∀ e ∈ es, EIn N e then 0 else 3
/-- A list rises, within 0 to below n. -/
def Rises (l : List Int) (n : Int) : Prop := (∀ x ∈ l, 0 ≤ x ∧ x < n) ∧ l.Pairwise (· < ·)
instance (l : List Int) (n : Int) : Decidable (Rises l n) := inferInstanceAs (Decidable (_ ∧ _))
/-- The ends of edge number k. -/
def ends (es : List (Int × Int)) (k : Int) : Int × Int := es.getD k.toNat (0, 0)
def EndsIn (es : List (Int × Int)) (vs : List Int) (k : Int) : Prop := (ends es k).1 ∈ vs ∧ (ends es k).2 ∈ vs
instance (es : List (Int × Int)) (vs : List Int) (k : Int) : Decidable (EndsIn es vs k) := inferInstanceAs (Decidable (_ ∧ _))
/-- A part's error. -/
def pRight (N : Int) (es : List (Int × Int)) (vs xs : List Int) : Int :=
  if gRight N es ≠ 0 then gRight N es else if ¬ (Rises vs N ∧ Rises xs es.length) then 4 else if ∀ k ∈ xs, EndsIn es vs k then 0 else 4

theorem gRight_cases (N : Int) (es : List (Int × Int)) : gRight N es = 0 ∨ gRight N es = 2 ∨ gRight N es = 3 := by
  unfold gRight
  split
  · exact .inr (.inr rfl)
  · split
    · exact .inr (.inl rfl)
    · split
      · exact .inl rfl
      · exact .inr (.inr rfl)
theorem gRight_ok {N : Int} {es : List (Int × Int)} (h : gRight N es = 0) : 0 ≤ N ∧ N + es.length ≤ 1024 ∧ ∀ e ∈ es, EIn N e := by
  unfold gRight at h
  split at h
  · cases h
  · split at h
    · cases h
    · split at h
      · exact ⟨by omega, by omega, by assumption⟩
      · cases h
theorem pRight_cases (N : Int) (es : List (Int × Int)) (vs xs : List Int) : pRight N es vs xs = 0 ∨ pRight N es vs xs = 2 ∨ pRight N es vs xs = 3 ∨ pRight N es vs xs = 4 := by
  unfold pRight
  split
  · rcases gRight_cases N es with h | h | h <;> simp [h]
  · split
    · simp
    · split <;> simp
/-- What a right part is. -/
structure POK (N : Int) (es : List (Int × Int)) (vs xs : List Int) : Prop where
  n0 : 0 ≤ N
  size : N + es.length ≤ 1024
  edges : ∀ e ∈ es, EIn N e
  vr : ∀ x ∈ vs, 0 ≤ x ∧ x < N
  vp : vs.Pairwise (· < ·)
  xr : ∀ x ∈ xs, 0 ≤ x ∧ x < es.length
  xp : xs.Pairwise (· < ·)
  ends : ∀ k ∈ xs, EndsIn es vs k
theorem pRight_ok {N : Int} {es : List (Int × Int)} {vs xs : List Int} (h : pRight N es vs xs = 0) : POK N es vs xs := by
  unfold pRight at h
  split at h
  · rename_i hg
    exact absurd h hg
  · rename_i hg
    split at h
    · cases h
    · rename_i hr
      split at h
      · rename_i he
        obtain ⟨h1, h2, h3⟩ := gRight_ok (N := N) (es := es) (by simpa using hg)
        have hr' : Rises vs N ∧ Rises xs es.length := Classical.not_not.1 hr
        exact ⟨h1, h2, h3, hr'.1.1, hr'.1.2, hr'.2.1, hr'.2.2, he⟩
      · cases h

theorem rises_snoc {l : List Int} {n : Int} {k : Nat} {z : Int} (hk : k < l.length) (hz : l.getD k 0 = z) :
    Rises (l.take (k + 1)) n ↔ Rises (l.take k) n ∧ (0 ≤ z ∧ z < n) ∧ (k = 0 ∨ l.getD (k - 1) 0 < z) := by
  rw [take_getD hk hz]
  unfold Rises
  rw [List.pairwise_append]
  have hlast : ∀ x ∈ l.take k, k ≠ 0 → (l.take k).Pairwise (· < ·) → x ≤ l.getD (k - 1) 0 := by
    intro x hx h0 hp
    obtain ⟨j, h1, h2, e⟩ := mem_take_iff.1 hx
    subst e
    rcases Nat.lt_or_ge j (k - 1) with hj | hj
    · have := List.pairwise_iff_getElem.1 hp j (k - 1) (by rw [List.length_take]; omega) (by rw [List.length_take]; omega) hj
      rw [List.getElem_take, List.getElem_take] at this
      rw [getD_idx h2, getD_idx (by omega)]
      omega
    · obtain rfl : j = k - 1 := by omega
      omega
  have hmem : k ≠ 0 → l.getD (k - 1) 0 ∈ l.take k := fun h0 => mem_take_iff.2 ⟨k - 1, by omega, by omega, rfl⟩
  constructor
  · rintro ⟨h1, h2, _, h3⟩
    refine ⟨⟨fun x hx => h1 x (by simp [hx]), h2⟩, h1 z (by simp), ?_⟩
    by_cases h0 : k = 0
    · exact .inl h0
    · exact .inr (h3 _ (hmem h0) z (by simp))
  · rintro ⟨⟨h1, h2⟩, h3, h4⟩
    refine ⟨fun x hx => ?_, h2, by simp, fun a ha b hb => ?_⟩
    · rw [List.mem_append, List.mem_singleton] at hx
      rcases hx with hx | rfl
      · exact h1 x hx
      · exact h3
    · rw [List.mem_singleton] at hb
      subst hb
      have h0 : k ≠ 0 := by rintro rfl; simp at ha
      have := hlast a ha h0 h2
      rcases h4 with h4 | h4
      · exact absurd h4 h0
      · omega
theorem rises_take {l : List Int} {n : Int} (h : Rises l n) (k : Nat) : Rises (l.take k) n :=
  ⟨fun x hx => h.1 x (List.mem_of_mem_take hx), h.2.sublist (List.take_sublist _ _)⟩

/-- The vertex that a dart leaves. -/
def tail (es : List (Int × Int)) (d : Int) : Int := if d % 2 = 0 then (ends es (d / 2)).1 else (ends es (d / 2)).2
/-- The other dart of its edge. -/
def twin (d : Int) : Int := if d % 2 = 0 then d + 1 else d - 1
/-- The vertex that a dart comes to. -/
def head (es : List (Int × Int)) (d : Int) : Int := tail es (twin d)
/-- The darts of edges that leave v. -/
def dartsOf (es : List (Int × Int)) (v : Int) : List Int → List Int
  | [] => []
  | x :: xs => (if tail es (2 * x) = v then [2 * x] else []) ++ (if tail es (2 * x + 1) = v then [2 * x + 1] else []) ++ dartsOf es v xs
theorem dartsOf_append (es : List (Int × Int)) (v : Int) : ∀ a b : List Int, dartsOf es v (a ++ b) = dartsOf es v a ++ dartsOf es v b
  | [], b => rfl
  | x :: a, b => by simp [dartsOf, dartsOf_append es v a b, List.append_assoc]
theorem dartsOf_len (es : List (Int × Int)) (v : Int) : ∀ a : List Int, (dartsOf es v a).length ≤ 2 * a.length
  | [] => by simp [dartsOf]
  | x :: a => by
    have := dartsOf_len es v a
    simp only [dartsOf, List.length_append, List.length_cons]
    split <;> split <;> simp <;> omega
/-- Is a graph, are lists of a part, of a size that is looked at? -/
def Small (N : Int) (m nv ne : Nat) : Prop := m ≤ 60 ∧ nv ≤ 60 ∧ ne ≤ 60 ∧ (N ≤ 60 ∨ 1024 < N)
instance (N : Int) (m nv ne : Nat) : Decidable (Small N m nv ne) := inferInstanceAs (Decidable (_ ∧ _ ∧ _ ∧ _))
end Go.Proofs.Ythobfbnopkbniaa
