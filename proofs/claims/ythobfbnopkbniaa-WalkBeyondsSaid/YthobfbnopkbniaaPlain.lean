/-
  Plain functions on lists of integers that the walks of this seat compute; no program in sight; no conditions.
-/
namespace Go.Proofs.Ythobfbnopkbniaa

/-- The first place of a number; -1. -/
def fnd : List Int → Int → Int
  | [], _ => -1
  | a :: l, x => if a = x then 0 else if fnd l x < 0 then -1 else fnd l x + 1

theorem fnd_none : ∀ {l : List Int} {x : Int}, (∀ j, j < l.length → l.getD j 0 ≠ x) → fnd l x = -1
  | [], _, _ => rfl
  | a :: l, x, h => by
    have h0 : a ≠ x := by simpa using h 0 (by simp)
    have h1 : fnd l x = -1 := fnd_none fun j hj => by simpa using h (j + 1) (by simpa using hj)
    simp [fnd, h0, h1]

theorem fnd_at : ∀ {l : List Int} {x : Int} {k : Nat}, k < l.length → l.getD k 0 = x → (∀ j, j < k → l.getD j 0 ≠ x) → fnd l x = k
  | [], _, _, hk, _, _ => absurd hk (by simp)
  | a :: l, x, 0, _, hx, _ => by
    have h0 : a = x := by simpa using hx
    simp [fnd, h0]
  | a :: l, x, k + 1, hk, hx, h => by
    have h0 : a ≠ x := by simpa using h 0 (by omega)
    have h1 : fnd l x = k := fnd_at (by simpa using hk) (by simpa using hx) fun j hj => by simpa using h (j + 1) (by omega)
    simp only [fnd, h0, h1, if_false]
    rw [if_neg (by omega)]
    simp

theorem ext_getD {l m : List Int} (h : l.length = m.length) (hj : ∀ j, j < l.length → l.getD j 0 = m.getD j 0) : l = m := by
  apply List.ext_getElem h
  intro j h1 h2
  have := hj j h1
  rw [List.getD_eq_getElem?_getD, List.getD_eq_getElem?_getD, List.getElem?_eq_getElem h1, List.getElem?_eq_getElem h2] at this
  exact this

/-- The place of the least of the first k numbers (the first such). -/
def least (xs : List Int) : Nat → Nat
  | 0 => 0
  | k + 1 => if xs.getD k 0 < xs.getD (least xs k) 0 then k else least xs k
theorem least_le (xs : List Int) : ∀ k, least xs k ≤ k
  | 0 => Nat.le_refl _
  | k + 1 => by
    unfold least
    split
    · omega
    · have := least_le xs k
      omega
theorem least_lt (xs : List Int) {k n : Nat} (hk : k < n) : least xs k < n := Nat.lt_of_le_of_lt (least_le xs k) hk
theorem least_end (xs : List Int) : ∀ k, 0 < k → least xs k < k
  | k + 1, _ => by
    unfold least
    split
    · omega
    · have := least_le xs k
      omega
/-- Begun at a place. -/
def turn (xs : List Int) (k : Nat) : List Int := xs.drop k ++ xs.take k
/-- Begun with the least. -/
def first (xs : List Int) : List Int := turn xs (least xs xs.length)

theorem drop_getD {xs : List Int} {k : Nat} {z : Int} (hk : k < xs.length) (hz : xs.getD k 0 = z) : xs.drop k = z :: xs.drop (k + 1) := by
  rw [List.drop_eq_getElem_cons hk]
  rw [List.getD_eq_getElem?_getD, List.getElem?_eq_getElem hk] at hz
  rw [show xs[k] = z from hz]
theorem take_getD {xs : List Int} {k : Nat} {z : Int} (hk : k < xs.length) (hz : xs.getD k 0 = z) : xs.take (k + 1) = xs.take k ++ [z] := by
  rw [List.take_succ_eq_append_getElem hk]
  rw [List.getD_eq_getElem?_getD, List.getElem?_eq_getElem hk] at hz
  rw [show xs[k] = z from hz]

/-- The first k numbers, stretches of one number taken as one. -/
def sq (xs : List Int) : Nat → List Int
  | 0 => []
  | k + 1 => if k = 0 ∨ xs.getD k 0 ≠ xs.getD (k - 1) 0 then sq xs k ++ [xs.getD k 0] else sq xs k
theorem sq_len (xs : List Int) : ∀ k, (sq xs k).length ≤ k
  | 0 => Nat.le_refl _
  | k + 1 => by
    unfold sq
    have := sq_len xs k
    split
    · simp; omega
    · omega
/-- Without the last, where it is the first. -/
def trim (l : List Int) : List Int := if 1 < l.length ∧ l.getD 0 0 = l.getD (l.length - 1) 0 then l.take (l.length - 1) else l
/-- Stretches taken as one, all around. -/
def labels (xs : List Int) : List Int := trim (sq xs xs.length)

theorem getD_idx {xs : List Int} {i : Nat} (h : i < xs.length) : xs.getD i 0 = xs[i] := by
  rw [List.getD_eq_getElem?_getD, List.getElem?_eq_getElem h]; rfl
theorem fnd_lt {l : List Int} {x : Int} {i : Nat} (hi : i < l.length) (hx : l.getD i 0 = x) : 0 ≤ fnd l x ∧ fnd l x ≤ i := by
  induction l generalizing i with
  | nil => exact absurd hi (by simp)
  | cons a l ih =>
    unfold fnd
    split
    · omega
    · rename_i hne
      cases i with
      | zero => exact absurd (by simpa using hx) hne
      | succ i =>
        have := ih (i := i) (by simpa using hi) (by simpa using hx)
        rw [if_neg (by omega)]
        omega
/-- What fnd answers. -/
theorem fnd_cases (l : List Int) (x : Int) : (fnd l x = -1 ∧ x ∉ l) ∨ ∃ k, fnd l x = (k : Nat) ∧ k < l.length ∧ l.getD k 0 = x ∧ ∀ j, j < k → l.getD j 0 ≠ x := by
  induction l with
  | nil => exact .inl ⟨rfl, by simp⟩
  | cons a l ih =>
    by_cases ha : a = x
    · exact .inr ⟨0, by simp [fnd, ha], by simp, by simpa using ha, fun j hj => absurd hj (by omega)⟩
    · rcases ih with ⟨h1, h2⟩ | ⟨k, h1, h2, h3, h4⟩
      · exact .inl ⟨by simp [fnd, ha, h1], by simp [h2, Ne.symm ha]⟩
      · refine .inr ⟨k + 1, ?_, by simpa using h2, by simpa using h3, fun j hj => ?_⟩
        · simp only [fnd, ha, h1, if_false]
          rw [if_neg (by omega)]
          simp
        · cases j with
          | zero => simpa using ha
          | succ j => simpa using h4 j (by omega)
theorem nodup_snoc {xs : List Int} {k : Nat} {z : Int} (hk : k < xs.length) (hz : xs.getD k 0 = z) : (xs.take (k + 1)).Nodup ↔ (xs.take k).Nodup ∧ z ∉ xs.take k := by
  rw [take_getD hk hz, List.nodup_append]
  constructor
  · exact fun h => ⟨h.1, fun hm => h.2.2 z hm z (by simp) rfl⟩
  · exact fun h => ⟨h.1, by simp, fun a ha b hb => by rw [List.mem_singleton] at hb; subst hb; exact fun e => h.2 (e ▸ ha)⟩
theorem mem_take_iff {xs : List Int} {k : Nat} {z : Int} : z ∈ xs.take k ↔ ∃ j, j < k ∧ j < xs.length ∧ xs.getD j 0 = z := by
  constructor
  · intro h
    obtain ⟨j, hj, e⟩ := List.getElem_of_mem h
    rw [List.length_take] at hj
    refine ⟨j, by omega, by omega, ?_⟩
    rw [getD_idx (by omega), ← e, List.getElem_take]
  · rintro ⟨j, h1, h2, e⟩
    rw [getD_idx h2] at e
    rw [← e, List.mem_iff_getElem]
    exact ⟨j, by rw [List.length_take]; omega, List.getElem_take⟩
/-- Its own first place is ahead of k just where the number stood before. -/
theorem fnd_before {xs : List Int} {k : Nat} {z : Int} (hk : k < xs.length) (hz : xs.getD k 0 = z) : fnd xs z < k ↔ z ∈ xs.take k := by
  rw [mem_take_iff]
  constructor
  · intro h
    rcases fnd_cases xs z with ⟨_, h2⟩ | ⟨j, h1, h2, h3, _⟩
    · exact absurd (by rw [getD_idx hk] at hz; rw [← hz]; exact List.getElem_mem hk) h2
    · exact ⟨j, by omega, h2, h3⟩
  · rintro ⟨j, h1, h2, e⟩
    have := fnd_lt h2 e
    omega
theorem turn_length (xs : List Int) (k : Nat) : (turn xs k).length = xs.length := by
  unfold turn; rw [List.length_append, List.length_drop, List.length_take]; omega
theorem turn_getD {xs : List Int} {q i : Nat} (hq : q < xs.length) (hi : i < xs.length) : (turn xs q).getD i 0 = xs.getD ((q + i) % xs.length) 0 := by
  have hm : (q + i) % xs.length < xs.length := Nat.mod_lt _ (by omega)
  rw [getD_idx (by rw [turn_length]; exact hi), getD_idx hm]
  unfold turn
  rw [List.getElem_append]
  split
  · rename_i h
    rw [List.length_drop] at h
    rw [List.getElem_drop]
    congr 1
    rw [Nat.mod_eq_of_lt (by omega)]
  · rename_i h
    rw [List.length_drop] at h
    rw [List.getElem_take]
    congr 1
    rw [List.length_drop, Nat.mod_eq_sub_mod (by omega), Nat.mod_eq_of_lt (by omega)]
    omega
/-- One ring. -/
def SameR (a b : List Int) : Prop := a.length = b.length ∧ (a.length = 0 ∨ ∃ i, i < a.length ∧ a = turn b i)
theorem eq_turn {a b : List Int} {n k : Nat} (hb : b.length = n) : a = turn b k ↔ a.take (n - k) = b.drop k ∧ a.drop (n - k) = b.take k := by
  unfold turn
  have hl : (b.drop k).length = n - k := by rw [List.length_drop, hb]
  constructor
  · rintro rfl
    exact ⟨List.take_left' hl, List.drop_left' hl⟩
  · rintro ⟨h1, h2⟩
    rw [← h1, ← h2, List.take_append_drop]

end Go.Proofs.Ythobfbnopkbniaa
