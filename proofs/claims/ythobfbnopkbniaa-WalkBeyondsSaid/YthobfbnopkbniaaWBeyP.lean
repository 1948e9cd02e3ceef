/-
  What is beyond all darts of a vertex is what hangs together with it: plain functions and lists; no program in sight; no conditions.
-/
import Derived.Test.YthobfbnopkbniaaWPieceP
import Derived.Test.YthobfbnopkbniaaWBeyond
namespace Go.Proofs.Ythobfbnopkbniaa

/-- There is a way that does not come to v. -/
def Av (es : List (Int × Int)) (xs : List Int) (v a u : Int) : Prop := ∃ k, Way es xs v a k u
section
variable {N : Int} {es : List (Int × Int)} {vs xs ys zs ds l1 l2 : List Int} {v a u d z : Int}
theorem RI.av {f : Int → Option Int} {ms : List Int} (h : RI es xs v a vs f ms ms.length) (u : Int) : (f u).isSome = true ↔ Av es xs v a u := by
  have hd := h.dist
  constructor
  · intro hu
    obtain ⟨k, hk⟩ := Option.isSome_iff_exists.1 hu
    obtain ⟨m, _, hm⟩ := hd.way u k hk
    exact ⟨m, hm⟩
  · rintro ⟨k, hk⟩
    obtain ⟨q, hq, _⟩ := hd.le hk
    rw [hq]; rfl
theorem Way.wide (hp : POK N es vs xs) {k : Nat} (h : Way es xs v a k u) : Way es xs (-1) a k u := by
  induction h with
  | start => exact .start
  | step _ hd _ ih => exact ih.step hd (by have := hp.vr _ (head_in hp (mem_dartsOf.1 hd).1).1; omega)
theorem Way.in_ (hp : POK N es vs xs) (ha : a ∈ vs) {s : Int} {k : Nat} (h : Way es xs s a k u) : u ∈ vs := by
  cases h with
  | start => exact ha
  | step _ hd _ => exact (head_in hp (mem_dartsOf.1 hd).1).1
/-- The vertices beyond a dart d of v: v itself, and what a way from the head comes to without v. -/
theorem BeyIs.memv (hp : POK N es vs xs) (h : BeyIs es vs xs v d ys zs) (hv : v ∈ vs) (hd : d ∈ dartsOf es v xs) (z : Int) : z ∈ ys ↔ z = v ∨ (head es d ≠ v ∧ Av es xs v (head es d) z) := by
  rcases h with ⟨h1, rfl, _⟩ | ⟨h1, f, ms, hri, rfl, _⟩
  · simp [h1]
  · simp only [List.mem_filter, Bool.or_eq_true, beq_iff_eq, hri.av]
    constructor
    · rintro ⟨_, h2 | h2⟩
      · exact .inr ⟨h1, h2⟩
      · exact .inl h2
    · rintro (h2 | ⟨_, h2⟩)
      · exact ⟨h2 ▸ hv, .inr h2⟩
      · obtain ⟨k, hk⟩ := h2
        exact ⟨hk.in_ hp (head_in hp (mem_dartsOf.1 hd).1).1, .inl ⟨k, hk⟩⟩
theorem BeyIs.meme (h : BeyIs es vs xs v d ys zs) (hd : d ∈ dartsOf es v xs) (e : Int) : e ∈ zs ↔ e ∈ xs ∧ ((head es d = v ∧ e = d / 2) ∨ (head es d ≠ v ∧ (Av es xs v (head es d) (ends es e).1 ∨ Av es xs v (head es d) (ends es e).2))) := by
  rcases h with ⟨h1, _, rfl⟩ | ⟨h1, f, ms, hri, _, rfl⟩
  · simp only [List.mem_singleton]
    constructor
    · intro h2
      exact ⟨h2 ▸ (mem_dartsOf.1 hd).1, .inl ⟨h1, h2⟩⟩
    · rintro ⟨_, ⟨_, h2⟩ | ⟨h2, _⟩⟩
      · exact h2
      · exact absurd h1 h2
  · simp only [List.mem_filter, Bool.or_eq_true, hri.av]
    constructor
    · rintro ⟨h2, h3⟩
      exact ⟨h2, .inr ⟨h1, h3⟩⟩
    · rintro ⟨h2, ⟨h3, _⟩ | ⟨_, h3⟩⟩
      · exact absurd h3 h1
      · exact ⟨h2, h3⟩
theorem BeyIs.up (hp : POK N es vs xs) (h : BeyIs es vs xs v d ys zs) : ys.Pairwise (· < ·) ∧ zs.Pairwise (· < ·) := by
  rcases h with ⟨_, rfl, rfl⟩ | ⟨_, f, ms, _, rfl, rfl⟩
  · exact ⟨List.pairwise_singleton _ _, List.pairwise_singleton _ _⟩
  · exact ⟨hp.vp.filter _, hp.xp.filter _⟩

/-- What the darts ds have brought. -/
structure BeyAll (es : List (Int × Int)) (xs : List Int) (v : Int) (ds l1 l2 : List Int) : Prop where
  up1 : l1.Pairwise (· < ·)
  up2 : l2.Pairwise (· < ·)
  mem1 : ∀ z, z ∈ l1 ↔ z = v ∨ ∃ d ∈ ds, head es d ≠ v ∧ Av es xs v (head es d) z
  mem2 : ∀ e, e ∈ l2 ↔ e ∈ xs ∧ ∃ d ∈ ds, (head es d = v ∧ e = d / 2) ∨ (head es d ≠ v ∧ (Av es xs v (head es d) (ends es e).1 ∨ Av es xs v (head es d) (ends es e).2))
theorem BeyAll.start_ : BeyAll es xs v [] [v] [] := ⟨List.pairwise_singleton _ _, List.Pairwise.nil, by simp, by simp⟩
theorem BeyAll.more {l3 l4 : List Int} (h : BeyAll es xs v ds l1 l2) (hp : POK N es vs xs) (hb : BeyIs es vs xs v d ys zs) (hv : v ∈ vs) (hd : d ∈ dartsOf es v xs) (h3 : l3.Pairwise (· < ·)) (h4 : l4.Pairwise (· < ·)) (m3 : ∀ z, z ∈ l3 ↔ z ∈ l1 ∨ z ∈ ys) (m4 : ∀ z, z ∈ l4 ↔ z ∈ l2 ∨ z ∈ zs) : BeyAll es xs v (ds ++ [d]) l3 l4 := by
  refine ⟨h3, h4, fun z => ?_, fun z => ?_⟩
  · rw [m3, h.mem1, hb.memv hp hv hd]
    constructor
    · rintro ((h1 | ⟨d', h1, h2⟩) | (h1 | h1))
      · exact .inl h1
      · exact .inr ⟨d', List.mem_append_left _ h1, h2⟩
      · exact .inl h1
      · exact .inr ⟨d, by simp, h1⟩
    · rintro (h1 | ⟨d', h1, h2⟩)
      · exact .inl (.inl h1)
      · rcases List.mem_append.1 h1 with h1 | h1
        · exact .inl (.inr ⟨d', h1, h2⟩)
        · rw [List.mem_singleton] at h1
          exact .inr (.inr (h1 ▸ h2))
  · rw [m4, h.mem2, hb.meme hd]
    constructor
    · rintro (⟨h0, d', h1, h2⟩ | ⟨h0, h1⟩)
      · exact ⟨h0, d', List.mem_append_left _ h1, h2⟩
      · exact ⟨h0, d, by simp, h1⟩
    · rintro ⟨h0, d', h1, h2⟩
      rcases List.mem_append.1 h1 with h1 | h1
      · exact .inl ⟨h0, d', h1, h2⟩
      · rw [List.mem_singleton] at h1
        exact .inr ⟨h0, h1 ▸ h2⟩
/-- All that hangs together with v is beyond a dart of v. -/
theorem hang_beyond (hp : POK N es vs xs) (z : Int) : Hang es xs v z ↔ z = v ∨ ∃ d ∈ dartsOf es v xs, head es d ≠ v ∧ Av es xs v (head es d) z := by
  constructor
  · rintro ⟨k, hk⟩
    induction hk with
    | start => exact .inl rfl
    | @step k u d' _ hd hs ih =>
      by_cases hh : head es d' = v
      · exact .inl hh
      · rcases ih with h1 | ⟨d, h1, h2, m, h3⟩
        · subst h1
          exact .inr ⟨d', hd, hh, 0, .start⟩
        · exact .inr ⟨d, h1, h2, m + 1, h3.step hd hh⟩
  · rintro (h1 | ⟨d, h1, h2, k, h3⟩)
    · rw [h1]; exact Hang.refl v
    · exact (Hang.dart hp h1).trans ⟨k, h3.wide hp⟩
theorem rise_ext : ∀ {a b : List Int}, a.Pairwise (· < ·) → b.Pairwise (· < ·) → (∀ z, z ∈ a ↔ z ∈ b) → a = b
  | [], [], _, _, _ => rfl
  | [], y :: b, _, _, h => absurd ((h y).2 (by simp)) (by simp)
  | x :: a, [], _, _, h => absurd ((h x).1 (by simp)) (by simp)
  | x :: a, y :: b, ha, hb, h => by
    rw [List.pairwise_cons] at ha hb
    have e : x = y := by
      rcases List.mem_cons.1 ((h x).1 (by simp)) with h1 | h1
      · exact h1
      · rcases List.mem_cons.1 ((h y).2 (by simp)) with h2 | h2
        · exact h2.symm
        · have := hb.1 x h1
          have := ha.1 y h2
          omega
    subst e
    rw [rise_ext ha.2 hb.2 fun z => ?_]
    constructor
    · intro hz
      rcases List.mem_cons.1 ((h z).1 (List.mem_cons_of_mem _ hz)) with h1 | h1
      · have := ha.1 z hz; omega
      · exact h1
    · intro hz
      rcases List.mem_cons.1 ((h z).2 (List.mem_cons_of_mem _ hz)) with h1 | h1
      · have := hb.1 z hz; omega
      · exact h1
theorem BeyAll.end_ {n i : Nat} {f : Int → Option Int} (h : BeyAll es xs v (dartsOf es v xs) l1 l2) (hp : POK N es vs xs) (hpc : PcI es xs vs vs n f) (hv : v ∈ vs) (hf : f v = some (i : Int)) :
    vs.filter (fun x => f x == some (i : Int)) = l1 ∧ xs.filter (fun e => f (ends es e).1 == some (i : Int)) = l2 := by
  have key : ∀ x, f x = some (i : Int) ↔ Hang es xs v x := fun x => by rw [← hpc.same hp hv, hf]; exact ⟨fun e => e.symm, fun e => e.symm⟩
  constructor
  · refine rise_ext (hp.vp.filter _) h.up1 fun z => ?_
    rw [List.mem_filter, h.mem1, ← hang_beyond hp]
    simp only [beq_iff_eq, key]
    exact ⟨fun hh => hh.2, fun hh => ⟨hh.in_ hp hv, hh⟩⟩
  · refine rise_ext (hp.xp.filter _) h.up2 fun e => ?_
    rw [List.mem_filter, h.mem2]
    simp only [beq_iff_eq, key]
    refine and_congr_right fun he => ?_
    have t0 : tail es (2 * e) = (ends es e).1 := by unfold tail; rw [if_pos (by omega), show 2 * e / 2 = e by omega]
    have t1 : tail es (2 * e + 1) = (ends es e).2 := by unfold tail; rw [if_neg (by omega), show (2 * e + 1) / 2 = e by omega]
    have w0 : twin (2 * e) = 2 * e + 1 := by unfold twin; rw [if_pos (by omega)]
    have w1 : twin (2 * e + 1) = 2 * e := by unfold twin; rw [if_neg (by omega)]; omega
    have h0 : head es (2 * e) = (ends es e).2 := by unfold head; rw [w0, t1]
    have h1 : head es (2 * e + 1) = (ends es e).1 := by unfold head; rw [w1, t0]
    constructor
    · intro hh
      rcases (hang_beyond hp _).1 hh with h2 | ⟨d, h2, h3, h4⟩
      · have hd : 2 * e ∈ dartsOf es v xs := mem_dartsOf.2 ⟨by rw [show 2 * e / 2 = e by omega]; exact he, by rw [t0]; exact h2⟩
        by_cases hx : (ends es e).2 = v
        · exact ⟨2 * e, hd, .inl ⟨h0.trans hx, by omega⟩⟩
        · exact ⟨2 * e, hd, .inr ⟨by rw [h0]; exact hx, .inr ⟨0, by rw [h0]; exact .start⟩⟩⟩
      · exact ⟨d, h2, .inr ⟨h3, .inl h4⟩⟩
    · rintro ⟨d, h2, ⟨h3, h4⟩ | ⟨h3, h4⟩⟩
      · subst h4
        have h5 := (mem_dartsOf.1 h2).2
        rcases ends_of_dart es d with ⟨h6, _⟩ | ⟨_, h6⟩
        · rw [← h6, h5]; exact Hang.refl v
        · rw [← h6, h3]; exact Hang.refl v
      · have hvh := Hang.dart hp h2
        rcases h4 with ⟨k, h4⟩ | ⟨k, h4⟩
        · exact hvh.trans ⟨k, h4.wide hp⟩
        · have h5 : Hang es xs v (ends es e).2 := hvh.trans ⟨k, h4.wide hp⟩
          have h6 := Hang.dart hp (mem_dartsOf.2 ⟨by rw [show (2 * e + 1) / 2 = e by omega]; exact he, t1⟩ : 2 * e + 1 ∈ dartsOf es (ends es e).2 xs)
          rw [h1] at h6
          exact h5.trans h6
end
end Go.Proofs.Ythobfbnopkbniaa
