/-
  Mirrored turns have the same genus, and as many walks. Plain theorems; no conditions on the program.
-/
import Derived.Test.YthobfbnopkbniaaVFGenQ
namespace Go.Proofs.Ythobfbnopkbniaa
open Go.RowKit

/-- The turns that Mirror and Turn answer. -/
def mirr (tt : List (List Int)) : List (List Int) := (flip tt).map first
section
variable {N : Int} {es : List (Int × Int)} {vs xs : List Int} {tt : List (List Int)} {n : Nat} {f : Int → Option Int}
theorem TurnOK.mirr (h : TurnOK N es xs tt) : TurnOK N es xs (mirr tt) := h.flip.first
theorem mirr_step (hp : POK N es vs xs) (hT : TurnOK N es xs tt) {d : Int} (hd : d / 2 ∈ xs) : stepOf es (mirr tt) d (-1) = stepOf es tt d 1 := by
  rw [← step_flip hp hT hd]
  have h : turnOf es (mirr tt) d = turnOf es (flip tt) d := by
    unfold turnOf mirr
    rw [getD_map_first, first_first]
  unfold stepOf
  rw [h]
theorem mirr_lone (vs : List Int) : lone (mirr tt) vs = lone tt vs := by
  unfold lone
  congr 1
  refine List.filter_congr fun v _ => ?_
  unfold mirr
  rw [getD_map_first, first_len, getD_flip, List.length_reverse, first_len]
theorem mirr_loneD (vs : List Int) (j : Nat) : loneD (mirr tt) vs f j = loneD tt vs f j := by
  unfold loneD
  congr 1
  refine List.filter_congr fun v _ => ?_
  unfold mirr
  rw [getD_map_first, first_len, getD_flip, List.length_reverse, first_len]
theorem mirr_a (hp : POK N es vs xs) (hT : TurnOK N es xs tt) {x : Int} (hx : x / 2 ∈ xs) : nx es (mirr tt) (twin (nx es tt x)) = twin x := by
  have ht : twin x / 2 ∈ xs := by rw [twin_half]; exact hx
  have h1 := (step_mem hp hT ht (-1)).1
  unfold nx
  rw [twin_twin, mirr_step hp hT h1]
  exact (step_step hp hT ht).2
theorem mirr_b (hp : POK N es vs xs) (hT : TurnOK N es xs tt) {x : Int} (hx : x / 2 ∈ xs) : nx es tt (twin (nx es (mirr tt) x)) = twin x := by
  have ht : twin x / 2 ∈ xs := by rw [twin_half]; exact hx
  unfold nx
  rw [twin_twin, mirr_step hp hT ht]
  exact (step_step hp hT ht).1
/-- Two walks about, darts turned. -/
theorem back_meets {g h : Int → Int} {D : List Int} (hg : PermOn g D) (ha : ∀ x ∈ D, h (twin (g x)) = twin x) {x : Int} (hx : x ∈ D) : ∀ k, Meets h (twin (iter g k x)) (twin x)
  | 0 => Meets.refl _ _
  | k + 1 => by
    have hk := hg.iter hx k
    refine Meets.trans ⟨1, ?_⟩ (back_meets hg ha hx k)
    exact (ha _ hk).symm
theorem mirr_cls {D : List Int} {c m : Nat} (hD : ∀ x ∈ D, x / 2 ∈ xs) (htw : ∀ x ∈ D, twin x ∈ D) (hp : POK N es vs xs) (hT : TurnOK N es xs tt) (h1 : PermOn (nx es tt) D) (h2 : PermOn (nx es (mirr tt)) D)
    (k1 : Cls (Meets (nx es tt)) D c) (k2 : Cls (Meets (nx es (mirr tt))) D m) : c = m := by
  refine Nat.le_antisymm (Cls.inj h1.equ h2.equ twin htw (fun x hx y hy hxy => ?_) k1 k2) (Cls.inj h2.equ h1.equ twin htw (fun x hx y hy hxy => ?_) k2 k1)
  · obtain ⟨k, hk⟩ := hxy
    have := back_meets (h := nx es tt) h2 (fun z hz => mirr_b hp hT (hD z hz)) (htw x hx) k
    rw [← hk, twin_twin, twin_twin] at this
    exact this.symm h1 hy
  · obtain ⟨k, hk⟩ := hxy
    have := back_meets (h := nx es (mirr tt)) h1 (fun z hz => mirr_a hp hT (hD z hz)) (htw x hx) k
    rw [← hk, twin_twin, twin_twin] at this
    exact this.symm h2 hy
theorem faces_cls (hp : POK N es vs xs) (hT : TurnOK N es xs tt) : Cls (Meets (nx es tt)) (allDarts xs) (faces (nx es tt) (2 * xs.length) (allDarts xs)).length := by
  have hP := nx_perm hp hT
  have hn : (allDarts xs).length ≤ 2 * xs.length := by rw [allDarts_len]; exact Nat.le_refl _
  refine ⟨(allDarts xs).filter (leastB (nx es tt) (2 * xs.length)), (sorted_nodup (allDarts_sorted hp.xp)).sublist List.filter_sublist, fun x => ?_, by unfold faces; rw [List.length_map]⟩
  rw [List.mem_filter]
  constructor
  · rintro ⟨h1, h2⟩
    refine ⟨h1, fun y _ hxy => ?_⟩
    unfold leastB at h2
    exact of_decide_eq_true (List.all_eq_true.1 h2 y ((mem_orb hP h1 hn).2 hxy))
  · rintro ⟨h1, h3⟩
    refine ⟨h1, ?_⟩
    unfold leastB
    refine List.all_eq_true.2 fun y hy => decide_eq_true ?_
    have hm := (mem_orb hP h1 hn).1 hy
    exact h3 y (hm.in_ hP h1) hm
/-- As many walks. -/
theorem mirr_walks (hp : POK N es vs xs) (hT : TurnOK N es xs tt) : (walksOf es (mirr tt) vs xs).length = (walksOf es tt vs xs).length := by
  unfold walksOf
  rw [List.length_append, List.length_append, mirr_lone]
  congr 1
  exact (mirr_cls (fun x hx => mem_allDarts.1 hx) (fun x hx => by rw [mem_allDarts, twin_half]; exact mem_allDarts.1 hx) hp hT (nx_perm hp hT) (nx_perm hp hT.mirr) (faces_cls hp hT) (faces_cls hp hT.mirr)).symm
/-- The same genus. -/
theorem mirr_genus (hp : POK N es vs xs) (hT : TurnOK N es xs tt) (hpc : PcI es xs vs vs n f) : genusOf es (mirr tt) vs xs f n = genusOf es tt vs xs f n := by
  unfold genusOf
  refine List.map_congr_left fun j _ => ?_
  have hcnt : faceCnt es f (walksOf es (mirr tt) vs xs) j = faceCnt es f (walksOf es tt vs xs) j := by
    rw [faceCnt_is, faceCnt_is, mirr_loneD]
    congr 1
    exact (mirr_cls (fun x hx => mem_allDarts.1 ((mem_pieceX hp hpc).1 hx).1) (fun x hx => by rw [mem_allDarts, twin_half]; exact mem_allDarts.1 hx) hp hT (nx_piece hp hT hpc j) (nx_piece hp hT.mirr hpc j) (faceD_cls hp hT hpc j) (faceD_cls hp hT.mirr hpc j)).symm
  unfold genusAt
  rw [hcnt]
end
end Go.Proofs.Ythobfbnopkbniaa
