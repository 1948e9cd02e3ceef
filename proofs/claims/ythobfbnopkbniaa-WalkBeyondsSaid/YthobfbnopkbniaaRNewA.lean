/-
  What rota.New makes, as plain functions; what keeps its rows and maps apart. No conditions.
-/
import Derived.Test.YthobfbnopkbniaaRTake
import Derived.Test.YthobfbnopkbniaaMapE
import Derived.Test.YthobfbnopkbniaaGPartB
namespace Go.Proofs.Ythobfbnopkbniaa
open Go.RowKit

/-- The vertex that a dart of the edges xs leaves. -/
def lvOf (es : List (Int × Int)) (xs : List Int) : Int → Option Int := fun d => if d / 2 ∈ xs then some (tail es d) else none
theorem lvOf_nil (es : List (Int × Int)) : (fun _ => none) = lvOf es [] := by
  funext d
  simp [lvOf]
theorem lvOf_snoc (es : List (Int × Int)) (l : List Int) (z : Int) : upd (upd (lvOf es l) (2 * z) (ends es z).1) (2 * z + 1) (ends es z).2 = lvOf es (l ++ [z]) := by
  funext d
  simp only [upd, lvOf, List.mem_append, List.mem_singleton]
  by_cases h1 : d = 2 * z + 1
  · subst h1
    rw [if_pos rfl, if_pos (.inr (by omega))]
    unfold tail
    rw [if_neg (by omega), show (2 * z + 1) / 2 = z by omega]
  · rw [if_neg h1]
    by_cases h2 : d = 2 * z
    · subst h2
      rw [if_pos rfl, if_pos (.inr (by omega))]
      unfold tail
      rw [if_pos (by omega), show (2 * z) / 2 = z by omega]
    · rw [if_neg h2]
      have : d / 2 ≠ z := by omega
      simp [this]
theorem allDarts_snoc (l : List Int) (z : Int) : allDarts (l ++ [z]) = allDarts l ++ [2 * z, 2 * z + 1] := by
  rw [allDarts_append]
  rfl
theorem take_snoc {xs : List Int} {k : Nat} {z : Int} (hk : k < xs.length) (hz : xs.getD k 0 = z) : xs.take (k + 1) = xs.take k ++ [z] := take_getD hk hz
theorem not_in_take {xs : List Int} (h : xs.Pairwise (· < ·)) {k : Nat} {z : Int} (hk : k < xs.length) (hz : xs.getD k 0 = z) : z ∉ xs.take k := by
  intro hm
  obtain ⟨i, hi, e⟩ := List.getElem_of_mem hm
  rw [List.length_take] at hi
  rw [List.getElem_take] at e
  rw [List.getD_eq_getElem?_getD, List.getElem?_eq_getElem hk] at hz
  have h1 := List.pairwise_iff_getElem.1 h i k (by omega) hk (by omega)
  simp only [Option.getD_some] at hz
  omega
theorem lvOf_none {es : List (Int × Int)} {l : List Int} {d : Int} (h : d / 2 ∉ l) : lvOf es l d = none := if_neg h

theorem Own.kept {w0 w w' : World} {v : Value} {xs : List Int} {row : Option Nat} (h : Own w0 w v xs) (hg : w.grownBy w' row) (hr : ∀ k, row = some k → w0.heap.size ≤ k) (hv : v.ownBlock = none ∨ v.ownBlock ≠ row) : Own w0 w' v xs :=
  ⟨h.row.kept hg hv, h.below.grown hg h.below.size hr, h.i64⟩
theorem Own.notMap {w0 w : World} {v : Value} {xs : List Int} (h : Own w0 w v xs) {b n : Nat} {f : Int → Option Value} (hm : MV w b n f) : v.ownBlock ≠ some b := by
  intro e
  obtain ⟨es, clock, hb⟩ := hm.block
  rcases h.row.2 with ⟨rfl, _⟩ | ⟨g, cap, cur, rfl, _, hg, _⟩
  · cases e
  · have : g = b := by simpa [Value.ownBlock] using e
    subst this
    rw [hb] at hg
    cases hg
theorem IS.two (w : World) (x y : Int) (hx : I64 x) (hy : I64 y) : IS (w.alloc (.cells #[.int .i64 x, .int .i64 y] 3)) (w.heap.size + 1) (some ⟨w.heap.size, 0, none⟩) 2 2 [x, y] :=
  ⟨rfl, Nat.le_refl _, by omega, by simp [hx, hy], fun _ => ⟨_, 0, rfl, by omega, fun j hj => by
    match j, hj with
    | 0, _ => simp
    | 1, _ => simp⟩⟩

/-- The places that have been put: those of the numbers in a list, and no others. -/
def PlaceAt (w : World) (b : Nat) (l : List Int) : Prop := ∃ g, MI w b l.length g ∧ ∀ d, (g d).isSome = true ↔ d ∈ l
theorem PlaceAt.start (w : World) : PlaceAt (w.alloc (.map #[] 0)) w.heap.size [] := ⟨_, MI.made w, by simp⟩

theorem placed_start (tt : List (List Int)) : placed tt 0 0 = [] := by simp [placed]
theorem placed_step {tt : List (List Int)} {v i : Nat} {d : Int} (hi : i < (tt.getD v []).length) (hd : (tt.getD v []).getD i 0 = d) : placed tt v (i + 1) = placed tt v i ++ [d] := by
  unfold placed
  rw [take_getD hi hd, List.append_assoc]
theorem placed_next {tt : List (List Int)} {v : Nat} (hv : v < tt.length) : placed tt v (tt.getD v []).length = placed tt (v + 1) 0 := by
  unfold placed
  rw [List.take_length, List.take_zero, List.append_nil, List.take_succ_eq_append_getElem hv, List.flatten_append]
  rw [List.getD_eq_getElem?_getD, List.getElem?_eq_getElem hv]
  simp
theorem placed_end {tt : List (List Int)} : placed tt tt.length 0 = tt.flatten := by simp [placed]
theorem placed_sub {tt : List (List Int)} {v i : Nat} (hv : v < tt.length) (hi : i < (tt.getD v []).length) : ∃ r, tt.flatten = placed tt v i ++ (tt.getD v []).getD i 0 :: r := by
  have e : tt = tt.take v ++ tt.getD v [] :: tt.drop (v + 1) := by
    rw [List.getD_eq_getElem?_getD, List.getElem?_eq_getElem hv]
    simp
  have e2 : tt.getD v [] = (tt.getD v []).take i ++ (tt.getD v []).getD i 0 :: (tt.getD v []).drop (i + 1) := by
    rw [List.getD_eq_getElem?_getD (l := tt.getD v []), List.getElem?_eq_getElem hi]
    simp
  refine ⟨(tt.getD v []).drop (i + 1) ++ (tt.drop (v + 1)).flatten, ?_⟩
  conv => lhs; rw [e, List.flatten_append, List.flatten_cons, e2]
  unfold placed
  simp
/-- The first v lists, and i numbers of the next, are in their places. -/
structure PlacedOK (es : List (Int × Int)) (xs : List Int) (tt : List (List Int)) (v i : Nat) : Prop where
  full : ∀ u, u < v → ∀ d ∈ tt.getD u [], d / 2 ∈ xs ∧ tail es d = u
  here : ∀ d ∈ (tt.getD v []).take i, d / 2 ∈ xs ∧ tail es d = v
  once : (placed tt v i).Nodup
theorem PlacedOK.start (es : List (Int × Int)) (xs : List Int) (tt : List (List Int)) : PlacedOK es xs tt 0 0 := ⟨fun u hu => absurd hu (by omega), by simp, by simp [placed]⟩
theorem PlacedOK.step {es : List (Int × Int)} {xs : List Int} {tt : List (List Int)} {v i : Nat} {d : Int} (h : PlacedOK es xs tt v i) (hi : i < (tt.getD v []).length) (hd : (tt.getD v []).getD i 0 = d) (h1 : d / 2 ∈ xs) (h2 : tail es d = v) (h3 : d ∉ placed tt v i) : PlacedOK es xs tt v (i + 1) := by
  refine ⟨h.full, fun x hx => ?_, ?_⟩
  · rw [take_getD hi hd] at hx
    rcases List.mem_append.1 hx with hx | hx
    · exact h.here x hx
    · obtain rfl : x = d := by simpa using hx
      exact ⟨h1, h2⟩
  · rw [placed_step hi hd]
    exact List.nodup_append.2 ⟨h.once, by simp, fun a ha b hb e => by
      obtain rfl : b = d := by simpa using hb
      exact h3 (e ▸ ha)⟩
theorem PlacedOK.next {es : List (Int × Int)} {xs : List Int} {tt : List (List Int)} {v : Nat} (hv : v < tt.length) (h : PlacedOK es xs tt v (tt.getD v []).length) : PlacedOK es xs tt (v + 1) 0 := by
  refine ⟨fun u hu d hd => ?_, by simp, by rw [← placed_next hv]; exact h.once⟩
  rcases Nat.lt_or_ge u v with h1 | h1
  · exact h.full u h1 d hd
  · obtain rfl : u = v := by omega
    exact h.here d (by rw [List.take_length]; exact hd)
theorem PlacedOK.len {es : List (Int × Int)} {xs : List Int} {tt : List (List Int)} {v i : Nat} (h : PlacedOK es xs tt v i) : (placed tt v i).length ≤ 2 * xs.length := by
  rw [← allDarts_len]
  refine nodup_len h.once fun x hx => mem_allDarts.2 ?_
  rcases List.mem_append.1 hx with hx | hx
  · obtain ⟨l, hl, hx⟩ := List.mem_flatten.1 hx
    obtain ⟨i, hi, rfl⟩ := List.getElem_of_mem hl
    rw [List.length_take] at hi
    refine (h.full i (by omega) x ?_).1
    rw [List.getElem_take] at hx
    rw [List.getD_eq_getElem?_getD, List.getElem?_eq_getElem (by omega)]
    exact hx
  · exact (h.here x hx).1
theorem PlaceAt.put {w' : World} {b : Nat} {l : List Int} {g : Int → Option Int} {z i : Int} (hm : MI w' b (if (g z).isSome then l.length else l.length + 1) (upd g z i)) (hgz : g z = none) (h : ∀ d, (g d).isSome = true ↔ d ∈ l) : PlaceAt w' b (l ++ [z]) := by
  rw [hgz] at hm
  refine ⟨_, by simpa using hm, fun d => ?_⟩
  unfold upd
  split
  · simp [*]
  · rw [h]; simp [*]
theorem PlacedOK.turned {N : Int} {es : List (Int × Int)} {xs : List Int} {tt : List (List Int)} (h : PlacedOK es xs tt tt.length 0) (hN : (tt.length : Int) = N) (hl : tt.flatten.length = 2 * xs.length) : Turned N es xs tt :=
  ⟨hN, h.full, placed_end (tt := tt) ▸ h.once, hl⟩
/-- A number that is not where it should be. -/
theorem not_turned {N : Int} {es : List (Int × Int)} {xs : List Int} {tt : List (List Int)} {v i : Nat} (hv : v < tt.length) (hi : i < (tt.getD v []).length) {d : Int} (hd : (tt.getD v []).getD i 0 = d) (h : d / 2 ∉ xs ∨ tail es d ≠ v ∨ d ∈ placed tt v i) : ¬ Turned N es xs tt := by
  rintro ⟨_, h2, h3, _⟩
  have hm : d ∈ tt.getD v [] := by
    rw [List.getD_eq_getElem?_getD, List.getElem?_eq_getElem hi] at hd
    simp only [Option.getD_some] at hd
    rw [← hd]
    exact List.getElem_mem hi
  obtain ⟨g1, g2⟩ := h2 v hv d hm
  rcases h with h | h | h
  · exact h g1
  · exact h g2
  · obtain ⟨r, hr⟩ := placed_sub hv hi
    rw [hr, hd] at h3
    exact (List.nodup_append.1 h3).2.2 d h d (by simp) rfl
end Go.Proofs.Ythobfbnopkbniaa
