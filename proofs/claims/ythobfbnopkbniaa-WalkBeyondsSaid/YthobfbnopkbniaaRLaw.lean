/-
  Steps in turns as plain functions: places, the dart some places on; a step there and back is none. No program in sight; no conditions.
-/
import Derived.Test.YthobfbnopkbniaaRNewA
namespace Go.Proofs.Ythobfbnopkbniaa

theorem first_perm (xs : List Int) : (first xs).Perm xs := by
  unfold first turn
  have := List.perm_append_comm (l₁ := xs.drop (least xs xs.length)) (l₂ := xs.take (least xs xs.length))
  rwa [List.take_append_drop] at this
theorem first_len (xs : List Int) : (first xs).length = xs.length := (first_perm xs).length_eq
theorem mem_first {xs : List Int} {d : Int} : d ∈ first xs ↔ d ∈ xs := (first_perm xs).mem_iff
theorem first_nodup {xs : List Int} : (first xs).Nodup ↔ xs.Nodup := (first_perm xs).nodup_iff

/-- The place of a number in a list. -/
def pos (t : List Int) (d : Int) : Nat := (fnd t d).toNat
theorem pos_mem {t : List Int} {d : Int} (h : d ∈ t) : pos t d < t.length ∧ t.getD (pos t d) 0 = d := by
  rcases fnd_cases t d with ⟨_, h2⟩ | ⟨k, h1, h2, h3, _⟩
  · exact absurd h h2
  · unfold pos
    rw [h1, Int.toNat_natCast]
    exact ⟨h2, h3⟩
theorem nodup_inj {t : List Int} (hn : t.Nodup) {i j : Nat} (hi : i < t.length) (hj : j < t.length) (h : t.getD i 0 = t.getD j 0) : i = j := by
  rw [getD_idx hi, getD_idx hj] at h
  rcases Nat.lt_trichotomy i j with hlt | rfl | hlt
  · exact absurd h (List.pairwise_iff_getElem.1 hn i j hi hj hlt)
  · rfl
  · exact absurd h.symm (List.pairwise_iff_getElem.1 hn j i hj hi hlt)
theorem pos_at {t : List Int} (hn : t.Nodup) {i : Nat} (hi : i < t.length) : pos t (t.getD i 0) = i := by
  have hm : t.getD i 0 ∈ t := by rw [getD_idx hi]; exact List.getElem_mem hi
  obtain ⟨h1, h2⟩ := pos_mem hm
  exact nodup_inj hn h1 hi h2

theorem putN_out {g : Int → Option Int} {t : List Int} {d : Int} : ∀ {k : Nat}, k ≤ t.length → d ∉ t.take k → putN g t k d = g d
  | 0, _, _ => rfl
  | k + 1, hk, h => by
    have h1 : t.take (k + 1) = t.take k ++ [t.getD k 0] := take_getD (by omega) rfl
    rw [h1, List.mem_append, List.mem_singleton] at h
    unfold putN upd
    rw [if_neg (fun e => h (.inr e))]
    exact putN_out (by omega) fun h' => h (.inl h')
theorem putN_at {g : Int → Option Int} {t : List Int} (hn : t.Nodup) {j : Nat} : ∀ {k : Nat}, k ≤ t.length → j < k → putN g t k (t.getD j 0) = some (j : Int)
  | 0, _, hj => absurd hj (by omega)
  | k + 1, hk, hj => by
    unfold putN upd
    by_cases hjk : j = k
    · subst hjk
      rw [if_pos rfl]
    · rw [if_neg fun e => hjk (nodup_inj hn (by omega) (by omega) e)]
      exact putN_at hn (by omega) (by omega)
theorem placeN_at {tt : List (List Int)} (h1 : ∀ v, v < tt.length → (tt.getD v []).Nodup) (h2 : ∀ u v d, u < tt.length → v < tt.length → d ∈ tt.getD u [] → d ∈ tt.getD v [] → u = v) {u p : Nat} :
    ∀ {k : Nat}, k ≤ tt.length → u < k → p < (tt.getD u []).length → placeN tt k ((first (tt.getD u [])).getD p 0) = some (p : Int)
  | 0, _, hu, _ => absurd hu (by omega)
  | k + 1, hk, hu, hp => by
    unfold placeN
    by_cases huk : u = k
    · subst huk
      exact putN_at (first_nodup.2 (h1 u (by omega))) (by rw [first_len]; exact Nat.le_refl _) hp
    · rw [putN_out (by rw [first_len]; exact Nat.le_refl _)]
      · exact placeN_at h1 h2 (by omega) (by omega) hp
      · intro hm
        have hm' := mem_first.1 (List.mem_of_mem_take hm)
        have hp' : p < (first (tt.getD u [])).length := by rw [first_len]; exact hp
        have hm2 : (first (tt.getD u [])).getD p 0 ∈ first (tt.getD u []) := by rw [getD_idx hp']; exact List.getElem_mem hp'
        exact huk (h2 u k _ (by omega) (by omega) (mem_first.1 hm2) hm')

/-- The numbers from 0 to below n. -/
def upto1 : Nat → List Int
  | 0 => []
  | n + 1 => upto1 n ++ [(n : Int)]
theorem upto1_len : ∀ n, (upto1 n).length = n
  | 0 => rfl
  | n + 1 => by simp [upto1, upto1_len n]
theorem mem_upto1 {x : Int} : ∀ {n : Nat}, x ∈ upto1 n ↔ 0 ≤ x ∧ x < n
  | 0 => by simp [upto1]
  | n + 1 => by
    unfold upto1
    rw [List.mem_append, List.mem_singleton, mem_upto1 (n := n)]
    omega

/-- So many places on, around. -/
def rot (n p : Nat) (s : Int) : Nat := ((p : Int) + s + n).toNat % n
theorem rot_on {n p : Nat} (h : p < n) : rot n p 1 = if p + 1 = n then 0 else p + 1 := by
  unfold rot
  rw [show ((p : Int) + 1 + n).toNat = p + 1 + n by omega, Nat.add_mod_right]
  split
  · rw [show p + 1 = n by assumption, Nat.mod_self]
  · exact Nat.mod_eq_of_lt (by omega)
theorem rot_back {n p : Nat} (h : p < n) : rot n p (-1) = if p = 0 then n - 1 else p - 1 := by
  unfold rot
  split
  · subst_vars
    rw [show (((0 : Nat) : Int) + -1 + n).toNat = n - 1 by omega]
    exact Nat.mod_eq_of_lt (by omega)
  · rw [show ((p : Int) + -1 + n).toNat = p - 1 + n by omega, Nat.add_mod_right]
    exact Nat.mod_eq_of_lt (by omega)
theorem rot_lt {n p : Nat} {s : Int} (h : p < n) : rot n p s < n := Nat.mod_lt _ (by omega)
theorem rot_rot {n p : Nat} (h : p < n) : rot n (rot n p 1) (-1) = p ∧ rot n (rot n p (-1)) 1 = p := by
  refine ⟨?_, ?_⟩
  · rw [rot_back (rot_lt h), rot_on h]
    split <;> split <;> omega
  · rw [rot_on (rot_lt h), rot_back h]
    split <;> split <;> omega

/-- The turn of what a dart leaves, begun with the least. -/
def turnOf (es : List (Int × Int)) (tt : List (List Int)) (d : Int) : List Int := first (tt.getD (tail es d).toNat [])
/-- The dart so many places on in its turn. -/
def stepOf (es : List (Int × Int)) (tt : List (List Int)) (d s : Int) : Int := (turnOf es tt d).getD (rot (turnOf es tt d).length (pos (turnOf es tt d) d) s) 0

theorem tail_range {N : Int} {es : List (Int × Int)} {vs xs : List Int} (hp : POK N es vs xs) {d : Int} (hd : d / 2 ∈ xs) : 0 ≤ tail es d ∧ tail es d < N := by
  have hr := hp.xr _ hd
  have he : EIn N (ends es (d / 2)) := by
    apply hp.edges
    unfold ends
    rw [List.getD_eq_getElem?_getD, List.getElem?_eq_getElem (show (d / 2).toNat < es.length by omega)]
    exact List.getElem_mem _
  unfold tail
  split
  · exact ⟨he.1, he.2.1⟩
  · exact ⟨he.2.2.1, he.2.2.2⟩
theorem TurnOK.apart {N : Int} {es : List (Int × Int)} {xs : List Int} {tt : List (List Int)} (hT : TurnOK N es xs tt) : ∀ u v d, u < tt.length → v < tt.length → d ∈ tt.getD u [] → d ∈ tt.getD v [] → u = v := by
  intro u v d hu hv h1 h2
  have e1 := (mem_dartsOf.1 (((hT.2 u hu).2 d).1 h1)).2
  have e2 := (mem_dartsOf.1 (((hT.2 v hv).2 d).1 h2)).2
  omega
theorem TurnOK.size {N : Int} {es : List (Int × Int)} {xs : List Int} {tt : List (List Int)} (hT : TurnOK N es xs tt) {u : Nat} (hu : u < tt.length) : (tt.getD u []).length ≤ 2 * xs.length :=
  Nat.le_trans (nodup_len (hT.2 u hu).1 fun x hx => ((hT.2 u hu).2 x).1 hx) (dartsOf_len es u xs)
section
variable {N : Int} {es : List (Int × Int)} {vs xs : List Int} {tt : List (List Int)} {d : Int}
/-- Of a dart of the part. -/
theorem dart_facts (hp : POK N es vs xs) (hT : TurnOK N es xs tt) (hd : d / 2 ∈ xs) :
    ∃ u : Nat, tail es d = u ∧ u < tt.length ∧ turnOf es tt d = first (tt.getD u []) ∧ d ∈ turnOf es tt d ∧ (turnOf es tt d).Nodup ∧ placeN tt tt.length d = some ((pos (turnOf es tt d) d : Nat) : Int) ∧ (turnOf es tt d).length ≤ 2 * xs.length := by
  obtain ⟨h0, h1⟩ := tail_range hp hd
  obtain ⟨u, hu⟩ := Int.eq_ofNat_of_zero_le h0
  have hlt : u < tt.length := by have := hT.1; omega
  have ht : turnOf es tt d = first (tt.getD u []) := by unfold turnOf; rw [hu, Int.toNat_natCast]
  have hm : d ∈ tt.getD u [] := ((hT.2 u hlt).2 d).2 (mem_dartsOf.2 ⟨hd, hu⟩)
  have hm' : d ∈ turnOf es tt d := by rw [ht]; exact mem_first.2 hm
  obtain ⟨hp1, hp2⟩ := pos_mem hm'
  refine ⟨u, hu, hlt, ht, hm', by rw [ht]; exact first_nodup.2 (hT.2 u hlt).1, ?_, by rw [ht, first_len]; exact hT.size hlt⟩
  have := placeN_at (tt := tt) (u := u) (p := pos (turnOf es tt d) d) (fun v hv => (hT.2 v hv).1) hT.apart (Nat.le_refl _) hlt (by rw [ht, first_len] at hp1; rwa [ht])
  rw [← ht, hp2] at this
  exact this
theorem step_mem (hp : POK N es vs xs) (hT : TurnOK N es xs tt) (hd : d / 2 ∈ xs) (s : Int) : stepOf es tt d s / 2 ∈ xs ∧ tail es (stepOf es tt d s) = tail es d := by
  obtain ⟨u, hu, hlt, ht, hm, hn, _, _⟩ := dart_facts hp hT hd
  have hr := rot_lt (s := s) (pos_mem hm).1
  have hmem : stepOf es tt d s ∈ turnOf es tt d := by
    unfold stepOf
    rw [getD_idx hr]
    exact List.getElem_mem hr
  rw [ht] at hmem
  have := mem_dartsOf.1 (((hT.2 u hlt).2 _).1 (mem_first.1 hmem))
  exact ⟨this.1, this.2.trans hu.symm⟩
theorem step_step (hp : POK N es vs xs) (hT : TurnOK N es xs tt) (hd : d / 2 ∈ xs) : stepOf es tt (stepOf es tt d 1) (-1) = d ∧ stepOf es tt (stepOf es tt d (-1)) 1 = d := by
  obtain ⟨u, hu, hlt, ht, hm, hn, _, _⟩ := dart_facts hp hT hd
  have key : ∀ s, turnOf es tt (stepOf es tt d s) = turnOf es tt d ∧ pos (turnOf es tt d) (stepOf es tt d s) = rot (turnOf es tt d).length (pos (turnOf es tt d) d) s := fun s => by
    refine ⟨by unfold turnOf; rw [(step_mem hp hT hd s).2], ?_⟩
    conv => lhs; unfold stepOf
    exact pos_at hn (rot_lt (pos_mem hm).1)
  have hpm := pos_mem hm
  have again : ∀ x s, stepOf es tt x s = (turnOf es tt x).getD (rot (turnOf es tt x).length (pos (turnOf es tt x) x) s) 0 := fun _ _ => rfl
  refine ⟨?_, ?_⟩
  · rw [again (stepOf es tt d 1), (key 1).1, (key 1).2, (rot_rot hpm.1).1]
    exact hpm.2
  · rw [again (stepOf es tt d (-1)), (key (-1)).1, (key (-1)).2, (rot_rot hpm.1).2]
    exact hpm.2
theorem twin_twin (d : Int) : twin (twin d) = d := by unfold twin; split <;> split <;> omega
theorem twin_half (d : Int) : twin d / 2 = d / 2 := by unfold twin; split <;> omega
theorem dart_i64 (hp : POK N es vs xs) (hd : d / 2 ∈ xs) : 0 ≤ d ∧ d ≤ 2048 := by
  have := hp.xr _ hd
  have h1 := hp.size
  have h2 := hp.n0
  omega
end
end Go.Proofs.Ythobfbnopkbniaa
