/-
  Turns turned about: twice they are as they were; what was behind is ahead. Plain lists; no program in sight; no conditions.
-/
import Derived.Test.YthobfbnopkbniaaRTwice
namespace Go.Proofs.Ythobfbnopkbniaa

theorem nodup_rev {l : List Int} : l.reverse.Nodup ↔ l.Nodup := (List.reverse_perm l).nodup_iff
theorem first_split {p q : List Int} {m : Int} (hn : (p ++ m :: q).Nodup) (hm : ∀ x ∈ p ++ m :: q, m ≤ x) : first (p ++ m :: q) = m :: q ++ p := by
  obtain ⟨xs, hx⟩ : ∃ xs, p ++ m :: q = xs := ⟨_, rfl⟩
  have hlen : p.length < xs.length := by rw [← hx]; simp
  have hat : xs.getD p.length 0 = m := by
    rw [← hx, List.getD_eq_getElem?_getD, List.getElem?_append_right (Nat.le_refl _)]
    simp
  have hl := least_end xs xs.length (by omega)
  have h1 := least_spec xs xs.length p.length hlen
  have h2 : m ≤ xs.getD (least xs xs.length) 0 := hm _ (by rw [hx, getD_idx hl]; exact List.getElem_mem _)
  have he : least xs xs.length = p.length := nodup_inj (hx ▸ hn) hl hlen (by rw [hat] at h1 ⊢; omega)
  rw [hx]
  unfold first turn
  rw [he, ← hx]
  simp
theorem first_rot {a b : List Int} (hn : (a ++ b).Nodup) : first (b ++ a) = first (a ++ b) := by
  obtain ⟨xs, hx⟩ : ∃ xs, a ++ b = xs := ⟨_, rfl⟩
  rcases Nat.eq_zero_or_pos xs.length with h0 | h0
  · have h1 : a = [] ∧ b = [] := by
      have := List.eq_nil_of_length_eq_zero h0
      rw [← hx] at this
      exact List.append_eq_nil_iff.1 this
    rw [h1.1, h1.2]
  · have hl := least_end xs _ h0
    obtain ⟨m, hm⟩ : ∃ m, xs.getD (least xs xs.length) 0 = m := ⟨_, rfl⟩
    have hmm : m ∈ a ++ b := by rw [hx, ← hm, getD_idx hl]; exact List.getElem_mem _
    have hmin : ∀ x ∈ a ++ b, m ≤ x := fun x hxx => by
      rw [hx] at hxx
      obtain ⟨j, hj, he⟩ := List.getElem_of_mem hxx
      rw [← hm, ← he, ← getD_idx hj]
      exact least_spec xs _ j hj
    have hnb : (b ++ a).Nodup := List.perm_append_comm.nodup_iff.1 hn
    have hminb : ∀ x ∈ b ++ a, m ≤ x := fun x hxx => hmin x (List.perm_append_comm.mem_iff.1 hxx)
    rcases List.mem_append.1 hmm with h | h
    · obtain ⟨p, q, rfl⟩ := List.append_of_mem h
      have e1 : (p ++ m :: q) ++ b = p ++ m :: (q ++ b) := by simp
      have e2 : b ++ (p ++ m :: q) = (b ++ p) ++ m :: q := by simp
      rw [e1] at hn hmin
      rw [e2] at hnb hminb
      rw [e1, e2, first_split hn hmin, first_split hnb hminb]
      simp
    · obtain ⟨p, q, rfl⟩ := List.append_of_mem h
      have e1 : a ++ (p ++ m :: q) = (a ++ p) ++ m :: q := by simp
      have e2 : (p ++ m :: q) ++ a = p ++ m :: (q ++ a) := by simp
      rw [e1] at hn hmin
      rw [e2] at hnb hminb
      rw [e1, e2, first_split hn hmin, first_split hnb hminb]
      simp
theorem first_as (xs : List Int) : ∃ a b, xs = a ++ b ∧ first xs = b ++ a :=
  ⟨xs.take (least xs xs.length), xs.drop (least xs xs.length), (List.take_append_drop _ _).symm, rfl⟩
theorem first_about {xs : List Int} (hn : xs.Nodup) : first (first xs).reverse = first xs.reverse := by
  obtain ⟨a, b, h1, h2⟩ := first_as xs
  rw [h2, h1, List.reverse_append, List.reverse_append]
  refine first_rot ?_
  have := nodup_rev.2 hn
  rwa [h1, List.reverse_append] at this
theorem about_about {t : List Int} (hn : t.Nodup) : first (first (first t).reverse).reverse = first t := by
  have h1 : (first t).reverse.Nodup := nodup_rev.2 (first_nodup.2 hn)
  rw [first_about h1, List.reverse_reverse, first_first]

/-- The number so many places on, around. -/
def stepIn (t : List Int) (x s : Int) : Int := t.getD (rot t.length (pos t x) s) 0
theorem stepOf_in (es : List (Int × Int)) (tt : List (List Int)) (d s : Int) : stepOf es tt d s = stepIn (turnOf es tt d) d s := rfl
theorem pos_is {t : List Int} (hn : t.Nodup) {i : Nat} (hi : i < t.length) {x : Int} (h : t.getD i 0 = x) : pos t x = i := by rw [← h]; exact pos_at hn hi
theorem getD_left {a b : List Int} {i : Nat} (h : i < a.length) : (a ++ b).getD i 0 = a.getD i 0 := by
  rw [List.getD_eq_getElem?_getD, List.getD_eq_getElem?_getD, List.getElem?_append_left h]
theorem getD_right {a b : List Int} {i : Nat} (h : a.length ≤ i) : (a ++ b).getD i 0 = b.getD (i - a.length) 0 := by
  rw [List.getD_eq_getElem?_getD, List.getD_eq_getElem?_getD, List.getElem?_append_right h]
/-- Where what stands at a place stands when the list is begun elsewhere. -/
theorem getD_swap (a b : List Int) {i : Nat} (h : i < a.length + b.length) : (b ++ a).getD (if i < a.length then i + b.length else i - a.length) 0 = (a ++ b).getD i 0 := by
  split
  · rw [getD_right (by omega), getD_left (by assumption)]
    congr 1
    omega
  · rw [getD_left (by omega), getD_right (by omega)]
theorem stepIn_rot {a b : List Int} (hn : (a ++ b).Nodup) {x : Int} (hx : x ∈ a ++ b) : stepIn (b ++ a) x (-1) = stepIn (a ++ b) x (-1) := by
  obtain ⟨hp, he⟩ := pos_mem hx
  obtain ⟨i, hi⟩ : ∃ i, pos (a ++ b) x = i := ⟨_, rfl⟩
  rw [hi] at hp he
  have hla : (a ++ b).length = a.length + b.length := by simp
  have hlb : (b ++ a).length = a.length + b.length := by simp; omega
  rw [hla] at hp
  have hnb : (b ++ a).Nodup := List.perm_append_comm.nodup_iff.1 hn
  have hpb : pos (b ++ a) x = if i < a.length then i + b.length else i - a.length := by
    refine pos_is hnb (by rw [hlb]; split <;> omega) ?_
    rw [getD_swap a b hp, he]
  unfold stepIn
  rw [hpb, hi, hla, hlb]
  rw [rot_back (by split <;> omega), rot_back hp]
  rw [← getD_swap a b (show (if i = 0 then a.length + b.length - 1 else i - 1) < a.length + b.length by split <;> omega)]
  congr 1
  split <;> split <;> (repeat' split) <;> omega
theorem stepIn_first {xs : List Int} (hn : xs.Nodup) {x : Int} (hx : x ∈ xs) : stepIn (first xs) x (-1) = stepIn xs x (-1) := by
  obtain ⟨a, b, h1, h2⟩ := first_as xs
  rw [h2]
  rw [h1] at hn hx ⊢
  exact stepIn_rot hn hx
theorem getD_rev {t : List Int} {i : Nat} (hi : i < t.length) : t.reverse.getD i 0 = t.getD (t.length - 1 - i) 0 := by
  rw [List.getD_eq_getElem?_getD, List.getD_eq_getElem?_getD, List.getElem?_reverse hi]
theorem stepIn_rev {t : List Int} (hn : t.Nodup) {x : Int} (hx : x ∈ t) : stepIn t.reverse x (-1) = stepIn t x 1 := by
  obtain ⟨hp, he⟩ := pos_mem hx
  have hpr : pos t.reverse x = t.length - 1 - pos t x := by
    refine pos_is (nodup_rev.2 hn) (by rw [List.length_reverse]; omega) ?_
    rw [getD_rev (by omega)]
    rw [show t.length - 1 - (t.length - 1 - pos t x) = pos t x by omega, he]
  unfold stepIn
  rw [hpr, List.length_reverse, rot_back (by omega), rot_on hp, getD_rev (by split <;> omega)]
  congr 1
  split <;> split <;> omega

section
variable {N : Int} {es : List (Int × Int)} {vs xs : List Int} {tt : List (List Int)}
/-- Mirrored turns. -/
def flip (tt : List (List Int)) : List (List Int) := (tt.map first).map List.reverse
theorem getD_flip (tt : List (List Int)) (k : Nat) : (flip tt).getD k [] = (first (tt.getD k [])).reverse := by
  unfold flip
  rw [List.getD_eq_getElem?_getD, List.getElem?_map, ← getD_map_first, List.getD_eq_getElem?_getD]
  cases (tt.map first)[k]? with
  | none => rfl
  | some t => rfl
theorem flip_len (tt : List (List Int)) : (flip tt).length = tt.length := by simp [flip]
theorem TurnOK.flip (h : TurnOK N es xs tt) : TurnOK N es xs (flip tt) := by
  refine ⟨by rw [flip_len]; exact h.1, fun v hv => ?_⟩
  rw [flip_len] at hv
  obtain ⟨h1, h2⟩ := h.2 v hv
  rw [getD_flip]
  exact ⟨nodup_rev.2 (first_nodup.2 h1), fun d => List.mem_reverse.trans (mem_first.trans (h2 d))⟩
theorem flip_flip (h : TurnOK N es xs tt) : (flip (flip tt)).map first = tt.map first := by
  refine List.ext_getElem (by simp [flip_len]) fun k h1 h2 => ?_
  have hk : k < tt.length := by simpa using h2
  have e1 : ((flip (flip tt)).map first).getD k [] = first (tt.getD k []) := by
    rw [getD_map_first, getD_flip, getD_flip]
    exact about_about (h.2 k hk).1
  have e2 := getD_map_first tt k
  rw [List.getD_eq_getElem?_getD, List.getElem?_eq_getElem h1] at e1
  rw [List.getD_eq_getElem?_getD, List.getElem?_eq_getElem h2] at e2
  exact e1.trans e2.symm
/-- What was behind is ahead. -/
theorem step_flip (hp : POK N es vs xs) (hT : TurnOK N es xs tt) {d : Int} (hd : d / 2 ∈ xs) : stepOf es (flip tt) d (-1) = stepOf es tt d 1 := by
  obtain ⟨u, hu, hlt, ht, hm, hn, _, _⟩ := dart_facts hp hT hd
  have e : turnOf es (flip tt) d = first (turnOf es tt d).reverse := by
    unfold turnOf
    rw [getD_flip]
  rw [stepOf_in, stepOf_in, e, stepIn_first (nodup_rev.2 hn) (List.mem_reverse.2 hm), stepIn_rev hn hm]
theorem flip_row {n : Nat} (h : ∀ t ∈ tt, t.length ≤ n) : ∀ t ∈ flip tt, t.length ≤ n := fun t ht => by
  obtain ⟨u, hu, rfl⟩ := List.mem_map.1 ht
  rw [List.length_reverse]
  exact map_first_len h u hu
end
end Go.Proofs.Ythobfbnopkbniaa
