/-
  The pieces are right parts that hang together, apart from each other, and hold all: plain functions and lists; no program in sight; no conditions.
-/
import Derived.Test.YthobfbnopkbniaaFaceD
namespace Go.Proofs.Ythobfbnopkbniaa

section
variable {N : Int} {es : List (Int × Int)} {vs xs : List Int} {n : Nat} {f : Int → Option Int} {F : Nat → List Int}
theorem pRight_mk {us ys : List Int} (hr : pRight N es vs xs = 0) (hu : us.Pairwise (· < ·)) (hy : ys.Pairwise (· < ·)) (h1 : ∀ x ∈ us, x ∈ vs) (h2 : ∀ x ∈ ys, x ∈ xs) (h3 : ∀ k ∈ ys, EndsIn es us k) : pRight N es us ys = 0 := by
  have hp := pRight_ok hr
  have hg : gRight N es = 0 := by
    unfold pRight at hr
    split at hr
    · rename_i hg; exact absurd hr hg
    · rename_i hg; simpa using hg
  unfold pRight
  rw [if_neg (by simp [hg]), if_neg (not_not_intro ⟨⟨fun x hx => hp.vr x (h1 x hx), hu⟩, ⟨fun x hx => hp.xr x (h2 x hx), hy⟩⟩), if_pos h3]
theorem ends_same (hp : POK N es vs xs) (hpc : PcI es xs vs vs n f) {e : Int} (he : e ∈ xs) : f (ends es e).1 = f (ends es e).2 := by
  rw [hpc.same hp (hp.ends e he).1]
  have t0 : tail es (2 * e) = (ends es e).1 := by unfold tail; rw [if_pos (by omega), show 2 * e / 2 = e by omega]
  have t1 : tail es (2 * e + 1) = (ends es e).2 := by unfold tail; rw [if_neg (by omega), show (2 * e + 1) / 2 = e by omega]
  have w0 : twin (2 * e) = 2 * e + 1 := by unfold twin; rw [if_pos (by omega)]
  have h := Hang.dart hp (mem_dartsOf.2 ⟨by rw [show 2 * e / 2 = e by omega]; exact he, t0⟩ : 2 * e ∈ dartsOf es (ends es e).1 xs)
  unfold head at h
  rwa [w0, t1] at h
theorem PFill.right (hf : PFill es f vs xs F) (hr : pRight N es vs xs = 0) (hpc : PcI es xs vs vs n f) (i : Nat) : pRight N es (F (i * 2)) (F (i * 2 + 1)) = 0 := by
  have hp := pRight_ok hr
  rw [(hf i).1, (hf i).2]
  refine pRight_mk hr (hp.vp.filter _) (hp.xp.filter _) (fun x hx => (List.mem_filter.1 hx).1) (fun x hx => (List.mem_filter.1 hx).1) fun e he => ?_
  obtain ⟨h1, h2⟩ := List.mem_filter.1 he
  have h3 := hp.ends e h1
  refine ⟨List.mem_filter.2 ⟨h3.1, h2⟩, List.mem_filter.2 ⟨h3.2, ?_⟩⟩
  rw [← ends_same hp hpc h1]
  exact h2
theorem Way.within (hp : POK N es vs xs) (hpc : PcI es xs vs vs n f) {i : Int} {x y : Int} {k : Nat} (hx : f x = some i) (h : Way es xs (-1) x k y) : f y = some i ∧ Way es (xs.filter fun e => f (ends es e).1 == some i) (-1) x k y := by
  induction h with
  | start => exact ⟨hx, .start⟩
  | @step k u d _ hd hs ih =>
    obtain ⟨h1, h2⟩ := ih
    obtain ⟨h3, h4⟩ := mem_dartsOf.1 hd
    have he := ends_same hp hpc h3
    have hboth : f (ends es (d / 2)).1 = some i ∧ f (head es d) = some i := by
      rcases ends_of_dart es d with ⟨e1, e2⟩ | ⟨e1, e2⟩
      · rw [← e1, h4, e2, ← he, ← e1, h4]; exact ⟨h1, h1⟩
      · rw [he, ← e1, h4, e2, he, ← e1, h4]; exact ⟨h1, h1⟩
    exact ⟨hboth.2, h2.step (mem_dartsOf.2 ⟨List.mem_filter.2 ⟨h3, by simp [hboth.1]⟩, h4⟩) hs⟩
theorem PFill.hang (hf : PFill es f vs xs F) (hp : POK N es vs xs) (hpc : PcI es xs vs vs n f) (i : Nat) : ∀ x ∈ F (i * 2), ∀ y ∈ F (i * 2), Hang es (F (i * 2 + 1)) x y := by
  rw [(hf i).1, (hf i).2]
  intro x hx y hy
  obtain ⟨h1, h2⟩ := List.mem_filter.1 hx
  obtain ⟨h3, h4⟩ := List.mem_filter.1 hy
  simp only [beq_iff_eq] at h2 h4
  obtain ⟨k, hk⟩ := (hpc.same hp h1).1 (h2.trans h4.symm)
  exact ⟨k, (hk.within hp hpc h2).2⟩
theorem PFill.some_ (hf : PFill es f vs xs F) (hpc : PcI es xs vs vs n f) {i : Nat} (hi : i < n) : F (i * 2) ≠ [] := by
  obtain ⟨r, hr, h⟩ := hpc.root i hi
  intro e
  have : r ∈ F (i * 2) := by rw [(hf i).1]; exact List.mem_filter.2 ⟨hr, by simp [(h r).2 (Hang.refl r)]⟩
  rw [e] at this
  cases this
theorem PFill.apart (hf : PFill es f vs xs F) {i k : Nat} (hik : i ≠ k) : (∀ x ∈ F (i * 2), x ∉ F (k * 2)) ∧ (∀ x ∈ F (i * 2 + 1), x ∉ F (k * 2 + 1)) := by
  rw [(hf i).1, (hf i).2, (hf k).1, (hf k).2]
  constructor
  · intro x hx hy
    have h1 := (List.mem_filter.1 hx).2
    have h2 := (List.mem_filter.1 hy).2
    simp only [beq_iff_eq] at h1 h2
    rw [h1] at h2
    injection h2 with h2
    omega
  · intro x hx hy
    have h1 := (List.mem_filter.1 hx).2
    have h2 := (List.mem_filter.1 hy).2
    simp only [beq_iff_eq] at h1 h2
    rw [h1] at h2
    injection h2 with h2
    omega
/-- How many of l lie in the first k pieces. -/
def inFirst (g : Int → Option Int) (k : Nat) (l : List Int) : Nat := (l.filter fun x => match g x with | some i => decide (i < (k : Int)) | none => false).length
theorem inFirst_zero {g : Int → Option Int} {l : List Int} (h : ∀ x ∈ l, ∀ i, g x = some i → 0 ≤ i) : inFirst g 0 l = 0 := by
  unfold inFirst
  rw [List.length_eq_zero_iff, List.filter_eq_nil_iff]
  intro x hx
  cases hg : g x with
  | none => simp
  | some i => have := h x hx i hg; simp; omega
theorem inFirst_succ {g : Int → Option Int} {k : Nat} : ∀ {l : List Int}, inFirst g (k + 1) l = inFirst g k l + (l.filter fun x => g x == some (k : Int)).length
  | [] => rfl
  | x :: l => by
    have ih := inFirst_succ (g := g) (k := k) (l := l)
    unfold inFirst at ih ⊢
    simp only [List.filter_cons]
    cases hg : g x with
    | none => simpa [hg] using ih
    | some i =>
      by_cases h1 : i < (k : Int)
      · have h2 : i < ((k + 1 : Nat) : Int) := by omega
        have h3 : i ≠ (k : Int) := by omega
        simp only [h1, h2, h3, decide_true, if_true, List.length_cons, ih, Option.some.injEq, beq_iff_eq, if_false]
        omega
      · by_cases h3 : i = (k : Int)
        · have h2 : i < ((k + 1 : Nat) : Int) := by omega
          simp only [h3, List.length_cons, beq_self_eq_true, if_true, Int.lt_irrefl, decide_false]
          have h4 : decide ((k : Int) < ((k + 1 : Nat) : Int)) = true := by simp; omega
          simp only [h4, if_true, List.length_cons, ih]
          simp
          omega
        · have h2 : ¬ i < ((k + 1 : Nat) : Int) := by omega
          simp only [h1, h2, decide_false, Option.some.injEq, beq_iff_eq, h3, if_false, ih, Bool.false_eq_true]
theorem inFirst_all {g : Int → Option Int} {l : List Int} (h : ∀ x ∈ l, ∃ i : Nat, g x = some (i : Int) ∧ i < n) : inFirst g n l = l.length := by
  unfold inFirst
  rw [List.filter_eq_self.2]
  intro x hx
  obtain ⟨i, hi, hn⟩ := h x hx
  rw [hi]
  simp
  omega
end
end Go.Proofs.Ythobfbnopkbniaa
