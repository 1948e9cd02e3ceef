/-
  All walks together have each dart once; their keys rise. Plain theorems; no conditions.
-/
import Derived.Test.YthobfbnopkbniaaFaceD
namespace Go.Proofs.Ythobfbnopkbniaa
open Go.RowKit

/-- The darts of all walks, in a row. -/
def flatW (L : List (Int × List Int)) : List Int := L.flatMap fun p => p.2
theorem flatW_append (a b : List (Int × List Int)) : flatW (a ++ b) = flatW a ++ flatW b := by unfold flatW; rw [List.flatMap_append]
theorem flatW_step {L : List (Int × List Int)} {k : Nat} {y : Int} {ds : List Int} (hk : k < L.length) (h : L.getD k (0, []) = (y, ds)) : flatW (L.take (k + 1)) = flatW (L.take k) ++ ds := by
  rw [List.take_add_one, List.getElem?_eq_getElem hk, flatW_append]
  rw [List.getD_eq_getElem?_getD, List.getElem?_eq_getElem hk] at h
  have h' : L[k] = (y, ds) := h
  rw [h']
  simp [flatW]
theorem flatW_sub {L : List (Int × List Int)} {k : Nat} : (flatW (L.take k)).Sublist (flatW L) := by
  conv => rhs; rw [← List.take_append_drop k L, flatW_append]
  exact List.sublist_append_left _ _
/-- The next dart has not been met. -/
theorem flatW_new {L : List (Int × List Int)} {k t : Nat} {y z : Int} {ds : List Int} (hn : (flatW L).Nodup) (hk : k < L.length) (h : L.getD k (0, []) = (y, ds)) (ht : t < ds.length) (hz : ds.getD t 0 = z) : z ∉ flatW (L.take k) ++ ds.take t := by
  have h1 : (flatW (L.take k) ++ ds).Nodup := by rw [← flatW_step hk h]; exact hn.sublist flatW_sub
  have h2 : flatW (L.take k) ++ ds = (flatW (L.take k) ++ ds.take t) ++ (z :: ds.drop (t + 1)) := by
    rw [List.append_assoc]
    congr 1
    rw [← hz, getD_idx ht, ← List.drop_eq_getElem_cons ht, List.take_append_drop]
  rw [h2] at h1
  intro hm
  exact (List.nodup_append.1 h1).2.2 z hm z (by simp) rfl

theorem least_mem : ∀ l : List Int, l ≠ [] → ∃ d ∈ l, ∀ y ∈ l, d ≤ y
  | [], h => absurd rfl h
  | [a], _ => ⟨a, by simp, by simp⟩
  | a :: b :: l, _ => by
    obtain ⟨d, hd, h⟩ := least_mem (b :: l) (by simp)
    by_cases hab : a ≤ d
    · refine ⟨a, by simp, fun y hy => ?_⟩
      rcases List.mem_cons.1 hy with rfl | hy
      · exact Int.le_refl _
      · exact Int.le_trans hab (h y hy)
    · refine ⟨d, List.mem_cons_of_mem _ hd, fun y hy => ?_⟩
      rcases List.mem_cons.1 hy with rfl | hy
      · omega
      · exact h y hy

section
variable {N : Int} {es : List (Int × Int)} {vs xs : List Int} {tt : List (List Int)}
theorem lone_rise (hp : POK N es vs xs) : (lone tt vs).Pairwise fun p q => p.1 < q.1 := by
  unfold lone
  rw [List.pairwise_map]
  refine List.Pairwise.filter _ ?_
  rw [List.pairwise_reverse]
  exact hp.vp.imp fun h => by show -1 - _ < -1 - _; omega
theorem walks_rise (hp : POK N es vs xs) : (walksOf es tt vs xs).Pairwise fun p q => p.1 < q.1 := by
  unfold walksOf
  rw [List.pairwise_append]
  refine ⟨lone_rise hp, ?_, fun p h q hq => ?_⟩
  · unfold faces
    rw [List.pairwise_map]
    exact (allDarts_sorted hp.xp).filter _
  · unfold lone at h
    obtain ⟨v, hv, rfl⟩ := List.mem_map.1 h
    have := hp.vr v (List.mem_reverse.1 (List.mem_filter.1 hv).1)
    unfold faces at hq
    obtain ⟨d, hd, rfl⟩ := List.mem_map.1 hq
    have := hp.xr _ (mem_allDarts.1 (List.mem_filter.1 hd).1)
    show -1 - v < d
    omega
theorem walks_nodup (hp : POK N es vs xs) (hT : TurnOK N es xs tt) : (flatW (walksOf es tt vs xs)).Nodup := by
  have hP := nx_perm hp hT
  have hn : (allDarts xs).length ≤ 2 * xs.length := by rw [allDarts_len]; exact Nat.le_refl _
  unfold walksOf
  rw [flatW_append]
  have h0 : flatW (lone tt vs) = [] := by
    unfold flatW
    rw [List.flatMap_eq_nil_iff]
    intro p h
    unfold lone at h
    obtain ⟨v, hv, rfl⟩ := List.mem_map.1 h
    rfl
  rw [h0, List.nil_append]
  unfold flatW faces
  rw [List.flatMap_map]
  refine List.pairwise_flatMap.2 ⟨fun d hd => orb_nodup hP (List.mem_filter.1 hd).1 hn, ?_⟩
  have hs : ((allDarts xs).filter (leastB (nx es tt) (2 * xs.length))).Pairwise (· < ·) := (allDarts_sorted hp.xp).filter _
  refine hs.imp_of_mem fun {a b} ha hb hab x hx y hy e => ?_
  subst e
  have ha1 := List.mem_filter.1 ha
  have hb1 := List.mem_filter.1 hb
  have m1 := (mem_orb hP ha1.1 hn).1 hx
  have m2 := (mem_orb hP hb1.1 hn).1 hy
  have m3 := (mem_orb hP hb1.1 hn).2 (m2.trans (m1.symm hP ha1.1))
  have h3 := hb1.2
  unfold leastB at h3
  have := of_decide_eq_true (List.all_eq_true.1 h3 a m3)
  omega
theorem walks_mem (hp : POK N es vs xs) (hT : TurnOK N es xs tt) {x : Int} : x ∈ flatW (walksOf es tt vs xs) ↔ x ∈ allDarts xs := by
  have hP := nx_perm hp hT
  have hn : (allDarts xs).length ≤ 2 * xs.length := by rw [allDarts_len]; exact Nat.le_refl _
  unfold flatW
  rw [List.mem_flatMap]
  constructor
  · rintro ⟨p, h, hx⟩
    unfold walksOf at h
    rcases List.mem_append.1 h with h | h
    · unfold lone at h
      obtain ⟨v, hv, rfl⟩ := List.mem_map.1 h
      simp at hx
    · unfold faces at h
      obtain ⟨d, hd, rfl⟩ := List.mem_map.1 h
      have hd1 := (List.mem_filter.1 hd).1
      exact ((mem_orb hP hd1 hn).1 hx).in_ hP hd1
  · intro hx
    -- the least of its orbit
    obtain ⟨d, hd, hl⟩ : ∃ d ∈ orb (nx es tt) (2 * xs.length) x, ∀ y ∈ orb (nx es tt) (2 * xs.length) x, d ≤ y := least_mem _ (List.ne_nil_of_mem ((mem_orb hP hx hn).2 (Meets.refl _ x)))
    have hm := (mem_orb hP hx hn).1 hd
    have hdD := hm.in_ hP hx
    refine ⟨(d, orb (nx es tt) (2 * xs.length) d), ?_, (mem_orb hP hdD hn).2 (hm.symm hP hx)⟩
    unfold walksOf
    refine List.mem_append_right _ ?_
    unfold faces
    refine List.mem_map.2 ⟨d, List.mem_filter.2 ⟨hdD, ?_⟩, rfl⟩
    unfold leastB
    refine List.all_eq_true.2 fun y hy => decide_eq_true (hl y ?_)
    exact (mem_orb hP hx hn).2 (hm.trans ((mem_orb hP hdD hn).1 hy))
theorem walks_count (hp : POK N es vs xs) (hT : TurnOK N es xs tt) : (flatW (walksOf es tt vs xs)).length = 2 * xs.length := by
  have h1 := nodup_len (walks_nodup hp hT) (b := allDarts xs) fun x hx => (walks_mem hp hT).1 hx
  have h2 := nodup_len (a := allDarts xs) (sorted_nodup (allDarts_sorted hp.xp)) (b := flatW (walksOf es tt vs xs)) fun x hx => (walks_mem hp hT).2 hx
  rw [allDarts_len] at h1 h2
  omega
/-- What a walk begins with. -/
theorem walk_first (hp : POK N es vs xs) {p : Int × List Int} (h : p ∈ walksOf es tt vs xs) : (p.2 = [] → p.1 < 0) ∧ (p.2 ≠ [] → p.2.getD 0 0 = p.1) := by
  unfold walksOf at h
  rcases List.mem_append.1 h with h | h
  · unfold lone at h
    obtain ⟨v, hv, rfl⟩ := List.mem_map.1 h
    have := hp.vr v (List.mem_reverse.1 (List.mem_filter.1 hv).1)
    exact ⟨fun _ => by show -1 - v < 0; omega, fun e => absurd rfl e⟩
  · unfold faces at h
    obtain ⟨d, hd, rfl⟩ := List.mem_map.1 h
    have hdx := mem_allDarts.1 (List.mem_filter.1 hd).1
    have h1 : xs.length ≠ 0 := fun e => by
      rw [List.eq_nil_of_length_eq_zero e] at hdx
      simp at hdx
    obtain ⟨q, hq⟩ : ∃ q, 2 * xs.length = q + 1 := ⟨2 * xs.length - 1, by omega⟩
    rw [hq]
    unfold orb orbFrom
    refine ⟨fun e => ?_, fun _ => ?_⟩
    · split at e <;> cases e
    · split <;> rfl
end
end Go.Proofs.Ythobfbnopkbniaa
