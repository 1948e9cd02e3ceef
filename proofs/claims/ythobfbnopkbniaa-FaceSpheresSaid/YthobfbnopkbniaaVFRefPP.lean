/-
  What the document's search for the pieces keeps. Plain lists; no conditions.
-/
import Derived.Test.YthobfbnopkbniaaFaceD
namespace Go.Proofs.Ythobfbnopkbniaa

/-- Those of the pieces told so far, and the vertices of M besides. -/
def growM (M : List Int) (f : Int → Option Int) (n : Nat) : Int → Option Int := fun z => if z ∈ M then some (n : Int) else f z
/-- While the document's pieces are told. -/
structure RpI (es : List (Int × Int)) (xs vs l done : List Int) (n : Nat) (f : Int → Option Int) (F : Nat → List Int) : Prop where
  pc : PcI es xs vs l n f
  dn : ∀ u, u ∈ done ↔ (f u).isSome = true
  fl : ∀ j : Nat, j < n → F (j * 2) = vs.filter (fun x => f x == some (j : Int)) ∧ F (j * 2 + 1) = xs.filter (fun e => f (ends es e).1 == some (j : Int))
  len : done.length ≤ l.length * 1024
section
variable {N : Int} {es : List (Int × Int)} {vs xs l done M : List Int} {n : Nat} {f : Int → Option Int} {F : Nat → List Int} {x : Int}
theorem RpI.start_ : RpI es xs vs [] [] 0 (fun _ => none) F := ⟨PcI.start_, by simp, fun j hj => absurd hj (by omega), Nat.zero_le _⟩
theorem RpI.met (h : RpI es xs vs l done n f F) (hx : x ∈ done) : RpI es xs vs (l ++ [x]) done n f F := by
  obtain ⟨k, hk⟩ := Option.isSome_iff_exists.1 ((h.dn x).1 hx)
  exact ⟨h.pc.met hk, h.dn, h.fl, by rw [List.length_append]; exact Nat.le_trans h.len (Nat.mul_le_mul_right _ (Nat.le_add_right _ _))⟩
/-- The lists with one piece more. -/
def partF (es : List (Int × Int)) (vs xs M : List Int) (F : Nat → List Int) (n : Nat) : Nat → List Int := fun j => if j = n * 2 then vs.filter (fun x => decide (x ∈ M)) else if j = n * 2 + 1 then xs.filter (fun e => decide ((ends es e).1 ∈ M) && decide ((ends es e).2 ∈ M)) else F j
theorem RpI.more (h : RpI es xs vs l done n f F) (hp : POK N es vs xs) (hxv : x ∈ vs) (hx : x ∉ done) (hM : ∀ u, u ∈ M ↔ Hang es xs x u) (hl : M.length ≤ 1024) : RpI es xs vs (l ++ [x]) (done ++ M) (n + 1) (growM M f n) (partF es vs xs M F n) := by
  have hf : f x = none := by
    cases hf : f x with
    | none => rfl
    | some k => exact absurd ((h.dn x).2 (by rw [hf]; rfl)) hx
  have hno : ∀ y i, f y = some i → y ∉ M := fun y k hk hy => by
    obtain ⟨i, rfl, hi⟩ := h.pc.lt y k hk
    obtain ⟨r, _, hr⟩ := h.pc.root i hi
    have h1 := (hr y).1 hk
    have h2 := (hM y).1 hy
    have := (hr x).2 (h1.trans (h2.symm hp))
    rw [hf] at this
    cases this
  have hxM : x ∈ M := (hM x).2 (Hang.refl x)
  have hg : ∀ y k, f y = some k → growM M f n y = some k := fun y k hk => by
    unfold growM
    rw [if_neg (hno y k hk)]
    exact hk
  have hgM : ∀ y, growM M f n y = some (n : Int) ↔ y ∈ M := fun y => by
    unfold growM
    constructor
    · intro e
      split at e
      · assumption
      · obtain ⟨j, h1, h2⟩ := h.pc.lt y _ e
        omega
    · intro e
      rw [if_pos e]
  have hgj : ∀ y (j : Nat), j < n → (growM M f n y = some (j : Int) ↔ f y = some (j : Int)) := fun y j hj => by
    constructor
    · intro e
      unfold growM at e
      split at e
      · injection e with e; omega
      · exact e
    · exact hg y j
  refine ⟨⟨fun i hi => ?_, fun y k hk => ?_, fun y hy => ?_, by rw [List.length_append]; have := h.pc.le; simp; omega, fun i hi => ?_⟩, fun u => ?_, fun j hj => ?_, ?_⟩
  · rcases Nat.lt_or_ge i n with hlt | hge
    · obtain ⟨r, hr1, hr⟩ := h.pc.root i hlt
      exact ⟨r, hr1, fun y => (hgj y i hlt).trans (hr y)⟩
    · obtain rfl : i = n := by omega
      exact ⟨x, hxv, fun y => (hgM y).trans (hM y)⟩
  · unfold growM at hk
    split at hk
    · injection hk with hk
      exact ⟨n, hk.symm, by omega⟩
    · obtain ⟨i, h1, h2⟩ := h.pc.lt y k hk
      exact ⟨i, h1, by omega⟩
  · unfold growM
    rcases List.mem_append.1 hy with hy | hy
    · split
      · rfl
      · exact h.pc.all y hy
    · rw [List.mem_singleton] at hy
      subst hy
      rw [if_pos hxM]
      rfl
  · rcases Nat.lt_or_ge i n with hlt | hge
    · obtain ⟨l1, r, l2, e, hr, h1⟩ := h.pc.first i hlt
      refine ⟨l1, r, l2 ++ [x], by rw [e]; simp, hg _ _ hr, fun y hy => ?_⟩
      obtain ⟨j, hj, hy⟩ := h1 y hy
      exact ⟨j, hj, hg _ _ hy⟩
    · obtain rfl : i = n := by omega
      refine ⟨l, x, [], rfl, (hgM x).2 hxM, fun y hy => ?_⟩
      obtain ⟨k, hk⟩ := Option.isSome_iff_exists.1 (h.pc.all y hy)
      obtain ⟨j, rfl, hj⟩ := h.pc.lt y k hk
      exact ⟨j, hj, hg _ _ hk⟩
  · rw [List.mem_append, h.dn]
    unfold growM
    by_cases hu : u ∈ M
    · rw [if_pos hu]; simp [hu]
    · rw [if_neg hu]; simp [hu]
  · rcases Nat.lt_or_ge j n with hlt | hge
    · obtain ⟨e1, e2⟩ := h.fl j hlt
      unfold partF
      rw [if_neg (by omega), if_neg (by omega), if_neg (by omega), if_neg (by omega), e1, e2]
      refine ⟨List.filter_congr fun y _ => ?_, List.filter_congr fun e _ => ?_⟩
      · rw [Bool.eq_iff_iff, beq_iff_eq, beq_iff_eq]
        exact (hgj y j hlt).symm
      · rw [Bool.eq_iff_iff, beq_iff_eq, beq_iff_eq]
        exact (hgj _ j hlt).symm
    · obtain rfl : j = n := by omega
      unfold partF
      rw [if_pos rfl, if_neg (by omega), if_pos rfl]
      refine ⟨List.filter_congr fun y _ => ?_, List.filter_congr fun e he => ?_⟩
      · rw [Bool.eq_iff_iff, beq_iff_eq, decide_eq_true_eq]
        exact (hgM y).symm
      · rw [Bool.eq_iff_iff, beq_iff_eq, Bool.and_eq_true, decide_eq_true_eq, decide_eq_true_eq]
        rw [hgM]
        constructor
        · exact fun h => h.1
        · intro h1
          refine ⟨h1, (hM _).2 (((hM _).1 h1).trans ?_)⟩
          have hd : 2 * e ∈ dartsOf es (ends es e).1 xs := mem_dartsOf.2 ⟨by rw [show 2 * e / 2 = e by omega]; exact he, by unfold tail; rw [if_pos (by omega), show 2 * e / 2 = e by omega]⟩
          have := Hang.dart hp hd
          have hh : head es (2 * e) = (ends es e).2 := by
            unfold head
            rw [show twin (2 * e) = 2 * e + 1 by unfold twin; rw [if_pos (by omega)]]
            unfold tail
            rw [if_neg (by omega), show (2 * e + 1) / 2 = e by omega]
          rwa [hh] at this
  · rw [List.length_append, List.length_append]
    have h1 := h.len
    have e : (l.length + [x].length) * 1024 = l.length * 1024 + 1024 := by rw [List.length_singleton]; exact Nat.succ_mul _ _
    rw [e]
    exact Nat.add_le_add h1 hl
end
end Go.Proofs.Ythobfbnopkbniaa
