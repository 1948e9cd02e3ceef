/-
  A genus is 0 or more; mirrored turns have the same, and as many walks. Plain theorems; no conditions on the program.
-/
import Derived.Test.YthobfbnopkbniaaVFEuler
import Derived.Test.YthobfbnopkbniaaFaceD
import Derived.Test.YthobfbnopkbniaaVWPiecesP
namespace Go.Proofs.Ythobfbnopkbniaa
open Go.RowKit

/-- At most as many classes, by a map of the list into itself. -/
theorem Cls.inj {R R' : Int → Int → Prop} {D : List Int} {n m : Nat} (hR : Equ R D) (hR' : Equ R' D) (b : Int → Int) (hb : ∀ x ∈ D, b x ∈ D) (h : ∀ x ∈ D, ∀ y ∈ D, R' (b x) (b y) → R x y) (k1 : Cls R D n) (k2 : Cls R' D m) : n ≤ m := by
  obtain ⟨l, l1, l2, rfl⟩ := k1
  obtain ⟨l', k1, k2, rfl⟩ := k2
  have hex : ∀ x : Int, ∃ z : Int, x ∈ D → z ∈ l' ∧ R' (b x) z := fun x => by
    by_cases hx : x ∈ D
    · obtain ⟨z, hz, h1, h2⟩ := least_of (R' (b x)) D ⟨b x, hb x hx, hR'.refl _ (hb x hx)⟩
      exact ⟨z, fun _ => ⟨(k2 z).2 ⟨hz, fun y hy hzy => h2 y hy (hR'.trans _ (hb x hx) z hz y hy h1 hzy)⟩, h1⟩⟩
    · exact ⟨0, fun h => absurd h hx⟩
  obtain ⟨g, hg⟩ : ∃ g : Int → Int, ∀ x, x ∈ D → g x ∈ l' ∧ R' (b x) (g x) := ⟨fun x => Classical.choose (hex x), fun x => Classical.choose_spec (hex x)⟩
  have hmap : (l.map g).Nodup := by
    refine List.pairwise_map.2 (List.Pairwise.imp_of_mem ?_ l1)
    intro x y hx hy hxy e
    obtain ⟨x1, x2⟩ := (l2 x).1 hx
    obtain ⟨y1, y2⟩ := (l2 y).1 hy
    have g1 := (hg x x1).2
    have g2 := (hg y y1).2
    rw [← e] at g2
    have hzD := ((k2 _).1 (hg x x1).1).1
    have h3 := h x x1 y y1 (hR'.trans _ (hb x x1) _ hzD _ (hb y y1) g1 (hR'.symm _ (hb y y1) _ hzD g2))
    have h4 := x2 y y1 h3
    have h5 := y2 x x1 (hR.symm x x1 y y1 h3)
    exact hxy (by omega)
  have := nodup_len hmap (b := l') fun z hz => by
    obtain ⟨x, hx, rfl⟩ := List.mem_map.1 hz
    exact (hg x ((l2 x).1 hx).1).1
  rwa [List.length_map] at this

section
variable {N : Int} {es : List (Int × Int)} {vs xs : List Int} {tt : List (List Int)} {n : Nat} {f : Int → Option Int}
/-- One place back in a dart's turn. -/
theorem sig_at (hp : POK N es vs xs) (hT : TurnOK N es xs tt) {d : Int} (hd : d / 2 ∈ xs) {p : Nat} (hpl : p < (turnOf es tt d).length) :
    stepOf es tt ((turnOf es tt d).getD p 0) (-1) = (turnOf es tt d).getD (if p = 0 then (turnOf es tt d).length - 1 else p - 1) 0 := by
  obtain ⟨u, hu, hlt, ht, hm, hn, _, _⟩ := dart_facts hp hT hd
  have hmem : (turnOf es tt d).getD p 0 ∈ turnOf es tt d := by rw [getD_idx hpl]; exact List.getElem_mem _
  obtain ⟨y, hy⟩ : ∃ y, (turnOf es tt d).getD p 0 = y := ⟨_, rfl⟩
  have hx := hmem
  rw [hy, ht] at hx
  have htl := (mem_dartsOf.1 (((hT.2 u hlt).2 _).1 (mem_first.1 hx))).2
  have he : turnOf es tt y = turnOf es tt d := by
    show first (tt.getD (tail es y).toNat []) = _
    rw [htl, Int.toNat_natCast, ht]
  have hps : pos (turnOf es tt d) y = p := by rw [← hy]; exact pos_at hn hpl
  rw [hy]
  unfold stepOf
  rw [he, hps, rot_back hpl]
theorem sig_cyc (hp : POK N es vs xs) (hT : TurnOK N es xs tt) {d e : Int} (hd : d / 2 ∈ xs) (he : e / 2 ∈ xs) (h : tail es d = tail es e) : Meets (fun x => stepOf es tt x (-1)) d e := by
  obtain ⟨u, hu, hlt, ht, hm, hn, _, _⟩ := dart_facts hp hT hd
  obtain ⟨t, htt⟩ : ∃ t, turnOf es tt d = t := ⟨_, rfl⟩
  have hme : e ∈ t := by
    obtain ⟨_, _, _, _, hm', _⟩ := dart_facts hp hT he
    rw [← htt]
    unfold turnOf at hm' ⊢
    rw [h]
    exact hm'
  rw [htt] at hm
  have hat : ∀ p, p < t.length → stepOf es tt (t.getD p 0) (-1) = t.getD (if p = 0 then t.length - 1 else p - 1) 0 := fun p hpl => by
    have := sig_at hp hT hd (p := p) (by rw [htt]; exact hpl)
    rwa [htt] at this
  have hdown : ∀ p, p < t.length → ∀ i, i ≤ p → Meets (fun x => stepOf es tt x (-1)) (t.getD p 0) (t.getD (p - i) 0) := fun p hpl i => by
    induction i with
    | zero => exact fun _ => Meets.refl _ _
    | succ i ih =>
      intro hi
      refine (ih (by omega)).trans ⟨1, ?_⟩
      show t.getD (p - (i + 1)) 0 = stepOf es tt (t.getD (p - i) 0) (-1)
      rw [hat (p - i) (by omega), if_neg (by omega)]
      rfl
  obtain ⟨p1, p2⟩ := pos_mem hm
  obtain ⟨q1, q2⟩ := pos_mem hme
  rw [← p2, ← q2]
  rcases Nat.lt_or_ge (pos t d) (pos t e) with hlt' | hge
  · have h1 := hdown _ p1 (pos t d) (Nat.le_refl _)
    rw [Nat.sub_self] at h1
    have h2 : Meets (fun x => stepOf es tt x (-1)) (t.getD 0 0) (t.getD (t.length - 1) 0) := ⟨1, by
      show t.getD (t.length - 1) 0 = stepOf es tt (t.getD 0 0) (-1)
      rw [hat 0 (by omega), if_pos rfl]⟩
    have h3 := hdown (t.length - 1) (by omega) (t.length - 1 - pos t e) (by omega)
    rw [show t.length - 1 - (t.length - 1 - pos t e) = pos t e by omega] at h3
    exact (h1.trans h2).trans h3
  · have h1 := hdown _ p1 (pos t d - pos t e) (by omega)
    rwa [show pos t d - (pos t d - pos t e) = pos t e by omega] at h1

/-- A piece's vertices and edges. -/
def pieceV (vs : List Int) (f : Int → Option Int) (j : Nat) : List Int := vs.filter fun x => f x == some (j : Int)
def pieceX (es : List (Int × Int)) (xs : List Int) (f : Int → Option Int) (j : Nat) : List Int := xs.filter fun e => f (ends es e).1 == some (j : Int)
def pieceF (es : List (Int × Int)) (vs xs : List Int) (f : Int → Option Int) (i : Nat) : List Int := if i % 2 = 0 then pieceV vs f (i / 2) else pieceX es xs f (i / 2)
theorem piece_fill (es : List (Int × Int)) (vs xs : List Int) (f : Int → Option Int) : PFill es f vs xs (pieceF es vs xs f) := fun j => by
  refine ⟨?_, ?_⟩
  · unfold pieceF
    rw [if_pos (by omega), show j * 2 / 2 = j by omega]
    rfl
  · unfold pieceF
    rw [if_neg (by omega), show (j * 2 + 1) / 2 = j by omega]
    rfl
theorem tail_piece (hp : POK N es vs xs) (hpc : PcI es xs vs vs n f) {d : Int} (hd : d / 2 ∈ xs) : f (tail es d) = f (ends es (d / 2)).1 := by
  have h := ends_same hp hpc hd
  unfold tail
  split
  · rfl
  · exact h.symm
theorem mem_pieceX (hp : POK N es vs xs) (hpc : PcI es xs vs vs n f) {j : Nat} {d : Int} : d ∈ allDarts (pieceX es xs f j) ↔ d ∈ allDarts xs ∧ f (tail es d) = some (j : Int) := by
  rw [mem_allDarts, mem_allDarts]
  unfold pieceX
  rw [List.mem_filter, beq_iff_eq]
  constructor
  · rintro ⟨h1, h2⟩
    exact ⟨h1, (tail_piece hp hpc h1).trans h2⟩
  · rintro ⟨h1, h2⟩
    exact ⟨h1, (tail_piece hp hpc h1).symm.trans h2⟩
theorem piece_pok (hr : pRight N es vs xs = 0) (hpc : PcI es xs vs vs n f) (j : Nat) : POK N es (pieceV vs f j) (pieceX es xs f j) := by
  have := (piece_fill es vs xs f).right hr hpc j
  rw [((piece_fill es vs xs f) j).1, ((piece_fill es vs xs f) j).2] at this
  exact pRight_ok this
theorem piece_hang (hp : POK N es vs xs) (hpc : PcI es xs vs vs n f) (j : Nat) : ∀ x ∈ pieceV vs f j, ∀ y ∈ pieceV vs f j, Hang es (pieceX es xs f j) x y := by
  have := (piece_fill es vs xs f).hang hp hpc j
  rw [((piece_fill es vs xs f) j).1, ((piece_fill es vs xs f) j).2] at this
  exact this
theorem sig_perm (hp : POK N es vs xs) (hT : TurnOK N es xs tt) (hpc : PcI es xs vs vs n f) (j : Nat) : PermOn (fun x => stepOf es tt x (-1)) (allDarts (pieceX es xs f j)) := by
  refine ⟨fun x hx => ?_, fun x hx y hy e => ?_⟩
  · rw [mem_pieceX hp hpc] at hx ⊢
    obtain ⟨h1, h2⟩ := step_mem hp hT (mem_allDarts.1 hx.1) (-1)
    exact ⟨mem_allDarts.2 h1, by rw [h2]; exact hx.2⟩
  · rw [mem_pieceX hp hpc] at hx hy
    have h1 := (step_step hp hT (mem_allDarts.1 hx.1)).2
    have h2 := (step_step hp hT (mem_allDarts.1 hy.1)).2
    have e' : stepOf es tt x (-1) = stepOf es tt y (-1) := e
    rw [e'] at h1
    exact h1.symm.trans h2
theorem nx_piece (hp : POK N es vs xs) (hT : TurnOK N es xs tt) (hpc : PcI es xs vs vs n f) (j : Nat) : PermOn (nx es tt) (allDarts (pieceX es xs f j)) := by
  have h := sig_perm hp hT hpc j
  have htw : ∀ x ∈ allDarts (pieceX es xs f j), twin x ∈ allDarts (pieceX es xs f j) := fun x hx => by rw [mem_allDarts, twin_half]; exact mem_allDarts.1 hx
  exact ⟨fun x hx => h.mem _ (htw x hx), fun x hx y hy e => twin_inj (h.inj _ (htw x hx) _ (htw y hy) e)⟩

/-- The walks of a piece that have darts. -/
def faceD (es : List (Int × Int)) (tt : List (List Int)) (xs : List Int) (f : Int → Option Int) (j : Nat) : List Int := ((allDarts xs).filter (leastB (nx es tt) (2 * xs.length))).filter fun d => f (tail es d) == some (j : Int)
/-- The vertices of a piece without darts. -/
def loneD (tt : List (List Int)) (vs : List Int) (f : Int → Option Int) (j : Nat) : List Int := (vs.reverse.filter fun v => decide ((tt.getD v.toNat []).length = 0)).filter fun v => f v == some (j : Int)
theorem faceCnt_is (j : Nat) : faceCnt es f (walksOf es tt vs xs) j = (loneD tt vs f j).length + (faceD es tt xs f j).length := by
  unfold faceCnt walksOf
  rw [List.filter_append, List.length_append]
  congr 1
  · unfold lone loneD
    rw [List.filter_map, List.length_map]
    congr 1
    refine List.filter_congr fun v hv => ?_
    show (f (cornerOf es (-1 - v, [])) == some (j : Int)) = _
    unfold cornerOf
    rw [if_pos rfl, show (-1 : Int) - (-1 - v) = v by omega]
  · unfold faces faceD
    rw [List.filter_map, List.length_map]
    congr 1
    refine List.filter_congr fun d hd => ?_
    show (f (cornerOf es (d, orb (nx es tt) (2 * xs.length) d)) == some (j : Int)) = _
    have hdx := mem_allDarts.1 (List.mem_filter.1 hd).1
    have ho : orb (nx es tt) (2 * xs.length) d ≠ [] := by
      have h1 : xs.length ≠ 0 := fun e => by
        rw [List.eq_nil_of_length_eq_zero e] at hdx
        simp at hdx
      obtain ⟨q, hq⟩ : ∃ q, 2 * xs.length = q + 1 := ⟨2 * xs.length - 1, by omega⟩
      rw [hq]
      unfold orb orbFrom
      split <;> simp
    unfold cornerOf
    rw [if_neg ho]
theorem faceD_cls (hp : POK N es vs xs) (hT : TurnOK N es xs tt) (hpc : PcI es xs vs vs n f) (j : Nat) : Cls (Meets (nx es tt)) (allDarts (pieceX es xs f j)) (faceD es tt xs f j).length := by
  have hP := nx_perm hp hT
  have hPj := nx_piece hp hT hpc j
  have hn : (allDarts xs).length ≤ 2 * xs.length := by rw [allDarts_len]; exact Nat.le_refl _
  refine ⟨faceD es tt xs f j, ?_, fun x => ?_, rfl⟩
  · unfold faceD
    exact ((sorted_nodup (allDarts_sorted hp.xp)).sublist (List.filter_sublist)).sublist List.filter_sublist
  · unfold faceD
    rw [List.mem_filter, List.mem_filter, beq_iff_eq, mem_pieceX hp hpc]
    constructor
    · rintro ⟨⟨h1, h2⟩, h3⟩
      refine ⟨⟨h1, h3⟩, fun y _ hxy => ?_⟩
      unfold leastB at h2
      exact of_decide_eq_true (List.all_eq_true.1 h2 y ((mem_orb hP h1 hn).2 hxy))
    · rintro ⟨⟨h1, h2⟩, h3⟩
      refine ⟨⟨h1, ?_⟩, h2⟩
      unfold leastB
      refine List.all_eq_true.2 fun y hy => decide_eq_true ?_
      have hm := (mem_orb hP h1 hn).1 hy
      exact h3 y (hm.in_ hPj ((mem_pieceX hp hpc).2 ⟨h1, h2⟩)) hm
/-- A genus is 0 or more. -/
theorem genus_nonneg (hr : pRight N es vs xs = 0) (hT : TurnOK N es xs tt) (hpc : PcI es xs vs vs n f) (j : Nat) : 0 ≤ genusAt es vs xs f (walksOf es tt vs xs) j := by
  have hp := pRight_ok hr
  have hpj := piece_pok hr hpc j
  have hhang := piece_hang hp hpc j
  have hcl := faceD_cls hp hT hpc j
  have hEu := euler (s := fun x => stepOf es tt x (-1)) (sig_perm hp hT hpc j) (fun x hx => (step_mem hp hT (mem_allDarts.1 ((mem_pieceX hp hpc).1 hx).1) (-1)).2)
    (fun x hx y hy h => sig_cyc hp hT (mem_allDarts.1 ((mem_pieceX hp hpc).1 hx).1) (mem_allDarts.1 ((mem_pieceX hp hpc).1 hy).1) h) hpj hhang hcl
  show 0 ≤ Int.tdiv (2 - ((pieceV vs f j).length : Int) + ((pieceX es xs f j).length : Int) - (faceCnt es f (walksOf es tt vs xs) j : Int)) 2
  rw [faceCnt_is]
  refine Int.tdiv_nonneg ?_ (by decide)
  rcases Nat.eq_zero_or_pos (loneD tt vs f j).length with h0 | h0
  · omega
  · obtain ⟨v, hv⟩ := List.exists_mem_of_length_pos h0
    have hlone : ∀ w ∈ loneD tt vs f j, w ∈ pieceV vs f j ∧ (tt.getD w.toNat []).length = 0 := fun w hw => by
      unfold loneD at hw
      obtain ⟨h1, h2⟩ := List.mem_filter.1 hw
      obtain ⟨h3, h4⟩ := List.mem_filter.1 h1
      exact ⟨List.mem_filter.2 ⟨List.mem_reverse.1 h3, h2⟩, of_decide_eq_true h4⟩
    obtain ⟨hv1, hv2⟩ := hlone v hv
    have hvr := hpj.vr v hv1
    have hno : ∀ d, d ∉ dartsOf es v xs := fun d hd => by
      have hlt : v.toNat < tt.length := by have := hT.1; omega
      have h3 := ((hT.2 v.toNat hlt).2 d).2 (by rw [Int.toNat_of_nonneg hvr.1]; exact hd)
      rw [List.eq_nil_of_length_eq_zero hv2] at h3
      cases h3
    have hone : ∀ x ∈ pieceV vs f j, x = v := fun x hx => by
      obtain ⟨k, hk⟩ := (hhang v hv1 x hx).mono (ys := xs) (fun e he => (List.mem_filter.1 he).1)
      have key : ∀ {k : Nat} {x : Int}, Way es xs (-1) v k x → x = v := fun {k x} hk => by
        induction hk with
        | start => rfl
        | step _ hd _ ih =>
          rw [ih] at hd
          exact absurd hd (hno _)
      exact key hk
    have hV : (pieceV vs f j).length ≤ 1 := nodup_len (sorted_nodup hpj.vp) (b := [v]) fun x hx => by rw [hone x hx]; simp
    have hX : pieceX es xs f j = [] := by
      refine List.eq_nil_iff_forall_not_mem.2 fun e he => ?_
      have h1 := hone _ (hpj.ends e he).1
      exact hno (2 * e) (mem_dartsOf.2 ⟨by rw [show 2 * e / 2 = e by omega]; exact (List.mem_filter.1 he).1, by unfold tail; rw [if_pos (by omega), show 2 * e / 2 = e by omega]; exact h1⟩)
    have hF : (faceD es tt xs f j).length = 0 := by
      obtain ⟨l, l1, l2, l3⟩ := hcl
      rw [← l3]
      rw [hX] at l2
      refine List.length_eq_zero_iff.2 (List.eq_nil_iff_forall_not_mem.2 fun x hx => ?_)
      have := ((l2 x).1 hx).1
      simp [allDarts] at this
    have hL : (loneD tt vs f j).length ≤ 1 := by
      have hnd : (loneD tt vs f j).Nodup := by
        unfold loneD
        exact ((nodup_rev.2 (sorted_nodup hp.vp)).sublist List.filter_sublist).sublist List.filter_sublist
      exact nodup_len hnd (b := [v]) fun x hx => by rw [hone x (hlone x hx).1]; simp
    rw [hX, hF]
    simp only [List.length_nil]
    omega
end
end Go.Proofs.Ythobfbnopkbniaa
