/-
  Ways along darts, how far vertices are, and what a search by distance keeps: plain functions and lists; no program in sight; no conditions.
-/
import Derived.Test.YthobfbnopkbniaaRLaw
namespace Go.Proofs.Ythobfbnopkbniaa

/-- There is a way of so many darts from a to a vertex that doesn't come to 'shut'. -/
inductive Way (es : List (Int × Int)) (xs : List Int) (shut a : Int) : Nat → Int → Prop
  | start : Way es xs shut a 0 a
  | step {k : Nat} {v d : Int} : Way es xs shut a k v → d ∈ dartsOf es v xs → head es d ≠ shut → Way es xs shut a (k + 1) (head es d)
/-- f tells how far vertices are. -/
structure Dist (es : List (Int × Int)) (xs : List Int) (shut a : Int) (f : Int → Option Int) : Prop where
  start : f a = some 0
  way : ∀ u k, f u = some k → ∃ n : Nat, k = n ∧ Way es xs shut a n u
  on : ∀ u k d, f u = some k → d ∈ dartsOf es u xs → head es d ≠ shut → ∃ k', f (head es d) = some k' ∧ k' ≤ k + 1

section
variable {es : List (Int × Int)} {xs vs : List Int} {shut a : Int} {f g : Int → Option Int}
theorem Dist.le (h : Dist es xs shut a f) {n : Nat} {u : Int} (hw : Way es xs shut a n u) : ∃ k, f u = some k ∧ k ≤ n := by
  induction hw with
  | start => exact ⟨0, h.start, by omega⟩
  | step _ hd hs ih =>
    obtain ⟨k, hk, hle⟩ := ih
    obtain ⟨k', hk', hle'⟩ := h.on _ _ _ hk hd hs
    exact ⟨k', hk', by omega⟩
theorem Dist.some_iff (h : Dist es xs shut a f) (u k : Int) : f u = some k ↔ ∃ n : Nat, k = n ∧ Way es xs shut a n u ∧ ∀ j, j < n → ¬ Way es xs shut a j u := by
  constructor
  · intro hk
    obtain ⟨n, rfl, hw⟩ := h.way u k hk
    refine ⟨n, rfl, hw, fun j hj hwj => ?_⟩
    obtain ⟨k', hk', hle⟩ := h.le hwj
    rw [hk] at hk'
    injection hk' with hk'
    omega
  · rintro ⟨n, rfl, hw, hmin⟩
    obtain ⟨k, hk, hle⟩ := h.le hw
    obtain ⟨m, rfl, hm⟩ := h.way u k hk
    have : ¬ m < n := fun hlt => hmin m hlt hm
    rw [hk, show m = n by omega]
theorem Dist.unique (h : Dist es xs shut a f) (h' : Dist es xs shut a g) : f = g := by
  funext u
  apply Option.ext
  intro k
  rw [h.some_iff, h'.some_iff]
theorem Dist.nonneg (h : Dist es xs shut a f) {u k : Int} (hk : f u = some k) : 0 ≤ k := by
  obtain ⟨n, rfl, _⟩ := h.way u k hk
  omega

/-- How far, as a number. -/
def val (f : Int → Option Int) (u : Int) : Int := (f u).getD 0
theorem val_of {u k : Int} (h : f u = some k) : val f u = k := by unfold val; rw [h]; rfl
/-- The darts of u lead to what is met, no further than one on. -/
def Onward (es : List (Int × Int)) (shut : Int) (f : Int → Option Int) (u : Int) (l : List Int) : Prop := ∀ d ∈ l, head es d ≠ shut → ∃ k, f (head es d) = some k ∧ k ≤ val f u + 1

/-- What a search by distance keeps: ms: what has been met, in that order; of the first p the darts have been followed. -/
structure RI (es : List (Int × Int)) (xs : List Int) (shut a : Int) (vs : List Int) (f : Int → Option Int) (ms : List Int) (p : Nat) : Prop where
  nodup : ms.Nodup
  mem : ∀ u, u ∈ ms ↔ (f u).isSome = true
  sub : ∀ u ∈ ms, u ∈ vs
  start : f a = some 0
  way : ∀ u k, f u = some k → ∃ n : Nat, k = n ∧ Way es xs shut a n u
  sorted : ms.Pairwise fun x y => val f x ≤ val f y
  done : ∀ u ∈ ms.take p, Onward es shut f u (dartsOf es u xs)
  small : ∀ u ∈ ms, val f u < ms.length

theorem RI.some_ {ms : List Int} {p : Nat} (h : RI es xs shut a vs f ms p) {u : Int} (hu : u ∈ ms) : f u = some (val f u) := by
  obtain ⟨k, hk⟩ := Option.isSome_iff_exists.1 ((h.mem u).1 hu)
  rw [hk, val_of hk]
theorem RI.start_ (ha : a ∈ vs) : RI es xs shut a vs (upd (fun _ => none) a 0) [a] 0 := by
  refine ⟨by simp, fun u => ?_, by simpa using ha, by simp [upd], fun u k hk => ?_, by simp, by simp, fun u hu => ?_⟩
  · unfold upd; split <;> simp [*]
  · unfold upd at hk
    split at hk
    · injection hk with hk
      subst_vars
      exact ⟨0, by omega, Way.start⟩
    · cases hk
  · rw [List.mem_singleton.1 hu]
    simp [val, upd]
theorem RI.len {ms : List Int} {p : Nat} (h : RI es xs shut a vs f ms p) : ms.length ≤ vs.length := nodup_len h.nodup h.sub
theorem RI.first {ms : List Int} {p : Nat} (h : RI es xs shut a vs f ms p) : a ∈ ms := (h.mem a).2 (by rw [h.start]; rfl)
/-- A vertex is met. -/
theorem RI.meet {ms : List Int} {p : Nat} (h : RI es xs shut a vs f ms p) (hp : p ≤ ms.length) {v d : Int} (hv : v ∈ ms) (hd : d ∈ dartsOf es v xs) (hs : head es d ≠ shut) (hn : f (head es d) = none) (hb : ∀ u ∈ ms, val f u ≤ val f v + 1) (hin : head es d ∈ vs) :
    RI es xs shut a vs (upd f (head es d) (val f v + 1)) (ms ++ [head es d]) p ∧ ∀ u ∈ ms, val (upd f (head es d) (val f v + 1)) u = val f u := by
  have hnot : head es d ∉ ms := fun hm => by have := (h.mem _).1 hm; rw [hn] at this; cases this
  have hval : ∀ u ∈ ms, val (upd f (head es d) (val f v + 1)) u = val f u := fun u hu => by
    have hne : u ≠ head es d := fun e => hnot (e ▸ hu)
    show (upd f (head es d) (val f v + 1) u).getD 0 = _
    unfold upd
    rw [if_neg hne]
    rfl
  have hvn : val (upd f (head es d) (val f v + 1)) (head es d) = val f v + 1 := by
    show (upd f (head es d) (val f v + 1) (head es d)).getD 0 = _
    unfold upd
    rw [if_pos rfl]
    rfl
  refine ⟨⟨?_, fun u => ?_, fun u hu => ?_, ?_, fun u k hk => ?_, ?_, fun u hu => ?_, fun u hu => ?_⟩, hval⟩
  · exact List.nodup_append.2 ⟨h.nodup, by simp, fun x hx y hy e => by rw [List.mem_singleton] at hy; subst hy; exact hnot (e ▸ hx)⟩
  · rw [List.mem_append, List.mem_singleton]
    unfold upd
    split
    · simp [*]
    · rw [h.mem u]; simp [*]
  · rcases List.mem_append.1 hu with hu | hu
    · exact h.sub u hu
    · rw [List.mem_singleton] at hu; subst hu; exact hin
  · have hne : a ≠ head es d := fun e => hnot (e ▸ h.first)
    unfold upd
    rw [if_neg hne]
    exact h.start
  · unfold upd at hk
    split at hk
    · rename_i e
      injection hk with hk
      obtain ⟨n, hn', hw⟩ := h.way v _ (h.some_ hv)
      exact ⟨n + 1, by omega, e ▸ hw.step hd hs⟩
    · exact h.way u k hk
  · rw [List.pairwise_append]
    refine ⟨h.sorted.imp_of_mem fun hx hy hxy => by rw [hval _ hx, hval _ hy]; exact hxy, by simp, fun x hx y hy => ?_⟩
    rw [List.mem_singleton] at hy
    subst hy
    rw [hvn, hval x hx]
    exact hb x hx
  · rw [List.take_append_of_le_length hp] at hu
    have hum := List.mem_of_mem_take hu
    intro d' hd' hs'
    obtain ⟨k, hk, hle⟩ := h.done u hu d' hd' hs'
    refine ⟨k, ?_, by rw [hval u hum]; exact hle⟩
    unfold upd
    rw [if_neg]
    · exact hk
    · intro e
      rw [e, hn] at hk
      cases hk
  · rw [List.length_append, List.length_singleton]
    rcases List.mem_append.1 hu with hu | hu
    · rw [hval u hu]
      have := h.small u hu
      omega
    · rw [List.mem_singleton.1 hu, hvn]
      have := h.small v hv
      omega
/-- One dart more has been followed. -/
theorem Onward.snoc {u : Int} {l : List Int} {d : Int} (h : Onward es shut f u l) (hd : head es d ≠ shut → ∃ k, f (head es d) = some k ∧ k ≤ val f u + 1) : Onward es shut f u (l ++ [d]) := by
  intro x hx hs
  rcases List.mem_append.1 hx with hx | hx
  · exact h x hx hs
  · rw [List.mem_singleton] at hx; subst hx; exact hd hs
theorem Onward.upd_ {u w k : Int} {l : List Int} (h : Onward es shut f u l) (hn : f w = none) (hv : val (upd f w k) u = val f u) : Onward es shut (upd f w k) u l := by
  intro x hx hs
  obtain ⟨k', hk, hle⟩ := h x hx hs
  refine ⟨k', ?_, by rw [hv]; exact hle⟩
  unfold upd
  rw [if_neg]
  · exact hk
  · intro e; rw [e, hn] at hk; cases hk
/-- All darts of one vertex more have been followed. -/
theorem RI.next {ms : List Int} {p : Nat} (h : RI es xs shut a vs f ms p) {v : Int} (hp : p < ms.length) (hv : ms.getD p 0 = v) (ho : Onward es shut f v (dartsOf es v xs)) : RI es xs shut a vs f ms (p + 1) := by
  refine ⟨h.nodup, h.mem, h.sub, h.start, h.way, h.sorted, fun u hu => ?_, h.small⟩
  rw [take_getD hp hv] at hu
  rcases List.mem_append.1 hu with hu | hu
  · exact h.done u hu
  · rw [List.mem_singleton] at hu; subst hu; exact ho
/-- What is met is no further than one on from the one whose turn it is. -/
theorem RI.bound {ms : List Int} {p : Nat} (h : RI es xs shut a vs f ms p) {v : Int} (hb : ∀ u ∈ ms, val f u ≤ val f v + 1) (hp : p < ms.length) (hv : ms.getD p 0 = v) (hp1 : p + 1 < ms.length) : ∀ u ∈ ms, val f u ≤ val f (ms.getD (p + 1) 0) + 1 := by
  intro u hu
  have h1 := List.pairwise_iff_getElem.1 h.sorted p (p + 1) hp hp1 (by omega)
  rw [getD_idx hp] at hv
  rw [getD_idx hp1]
  rw [hv] at h1
  have := hb u hu
  omega
theorem RI.dist {ms : List Int} (h : RI es xs shut a vs f ms ms.length) : Dist es xs shut a f := by
  refine ⟨h.start, h.way, fun u k d hk hd hs => ?_⟩
  have hu : u ∈ ms := (h.mem u).2 (by rw [hk]; rfl)
  obtain ⟨k', hk', hle⟩ := h.done u (by rw [List.take_length]; exact hu) d hd hs
  rw [val_of hk] at hle
  exact ⟨k', hk', hle⟩
end
/-- The ends of the darts of a right part are its vertices. -/
theorem head_in {N : Int} {es : List (Int × Int)} {vs xs : List Int} (hp : POK N es vs xs) {d : Int} (hd : d / 2 ∈ xs) : head es d ∈ vs ∧ tail es d ∈ vs := by
  have h := hp.ends _ hd
  have key : ∀ e : Int, e / 2 = d / 2 → tail es e ∈ vs := fun e he => by
    unfold tail
    rw [he]
    split
    · exact h.1
    · exact h.2
  exact ⟨key _ (twin_half d), key d rfl⟩
end Go.Proofs.Ythobfbnopkbniaa
