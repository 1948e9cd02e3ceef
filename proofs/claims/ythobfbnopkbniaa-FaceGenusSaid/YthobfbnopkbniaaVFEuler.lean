/-
  Euler's inequality: of a drawing that hangs together, vertices and walks are together at most two more than edges. Plain theorems; no conditions on the program.
-/
import Derived.Test.YthobfbnopkbniaaVFClass
import Derived.Test.YthobfbnopkbniaaFaceD
namespace Go.Proofs.Ythobfbnopkbniaa

/-- The darts of the edges in S are turned about, no others. -/
def al (S : List Int) (x : Int) : Int := if x / 2 ∈ S then twin x else x
/-- .. and then one place on. -/
def ph (s : Int → Int) (S : List Int) (x : Int) : Int := s (al S x)
theorem al_half (S : List Int) (x : Int) : al S x / 2 = x / 2 := by
  unfold al
  split
  · exact twin_half x
  · rfl
theorem al_al (S : List Int) (x : Int) : al S (al S x) = x := by
  by_cases h : x / 2 ∈ S
  · have e : al S x = twin x := by unfold al; rw [if_pos h]
    rw [e]
    unfold al
    rw [if_pos (by rw [twin_half]; exact h), twin_twin]
  · have e : al S x = x := by unfold al; rw [if_neg h]
    rw [e, e]
theorem POK.take_ {N : Int} {es : List (Int × Int)} {vs xs : List Int} (h : POK N es vs xs) (k : Nat) : POK N es vs (xs.take k) :=
  ⟨h.n0, h.size, h.edges, h.vr, h.vp, fun x hx => h.xr x (List.mem_of_mem_take hx), h.xp.sublist (List.take_sublist _ _), fun x hx => h.ends x (List.mem_of_mem_take hx)⟩
theorem Hang.mono {es : List (Int × Int)} {xs ys : List Int} {a u : Int} (h : Hang es xs a u) (hs : ∀ x ∈ xs, x ∈ ys) : Hang es ys a u := by
  obtain ⟨k, hk⟩ := h
  refine ⟨k, ?_⟩
  induction hk with
  | start => exact .start
  | step _ hd hne ih =>
    obtain ⟨h1, h2⟩ := mem_dartsOf.1 hd
    exact ih.step (mem_dartsOf.2 ⟨hs _ h1, h2⟩) hne

section
variable {N : Int} {es : List (Int × Int)} {V X : List Int} {s : Int → Int}
theorem ph_perm (h : PermOn s (allDarts X)) (S : List Int) : PermOn (ph s S) (allDarts X) := by
  have hm : ∀ x ∈ allDarts X, al S x ∈ allDarts X := fun x hx => by rw [mem_allDarts, al_half]; exact mem_allDarts.1 hx
  refine ⟨fun x hx => h.mem _ (hm x hx), fun x hx y hy e => ?_⟩
  have := h.inj _ (hm x hx) _ (hm y hy) e
  rw [← al_al S x, this, al_al]
theorem ph_swap (S : List Int) (e : Int) (he : e ∉ S) : Swapped (ph s S) (ph s (S ++ [e])) (2 * e) (2 * e + 1) := by
  have h0 : 2 * e / 2 = e := by omega
  have h1 : (2 * e + 1) / 2 = e := by omega
  have t0 : twin (2 * e) = 2 * e + 1 := by unfold twin; rw [if_pos (by omega)]
  have t1 : twin (2 * e + 1) = 2 * e := by unfold twin; rw [if_neg (by omega)]; omega
  refine ⟨?_, ?_, fun x hx1 hx2 => ?_⟩
  · unfold ph al
    rw [h0, h1, if_pos (by simp), if_neg he, t0]
  · unfold ph al
    rw [h0, h1, if_pos (by simp), if_neg he, t1]
  · unfold ph al
    have hne : x / 2 ≠ e := fun h => by omega
    by_cases h : x / 2 ∈ S
    · rw [if_pos (List.mem_append_left _ h), if_pos h]
    · rw [if_neg (by simp [h, hne]), if_neg h]
theorem hang_equ (hp : POK N es V X) : Equ (Hang es X) V := ⟨fun x _ => Hang.refl x, fun _ _ _ _ h => h.symm hp, fun _ _ _ _ _ _ h1 h2 => h1.trans h2⟩
/-- Around one walk all hang together. -/
theorem ph_hang (h : PermOn s (allDarts X)) (ht : ∀ x ∈ allDarts X, tail es (s x) = tail es x) (hp : POK N es V X) (k : Nat) {x : Int} (hx : x ∈ allDarts X) : ∀ j, Hang es (X.take k) (tail es x) (tail es (iter (ph s (X.take k)) j x))
  | 0 => Hang.refl _
  | j + 1 => by
    refine (ph_hang h ht hp k hx j).trans ?_
    have hj := (ph_perm h (X.take k)).iter hx j
    obtain ⟨y, hy⟩ : ∃ y, iter (ph s (X.take k)) j x = y := ⟨_, rfl⟩
    show Hang es (X.take k) _ (tail es (ph s (X.take k) (iter (ph s (X.take k)) j x)))
    rw [hy] at hj ⊢
    have hm : al (X.take k) y ∈ allDarts X := by rw [mem_allDarts, al_half]; exact mem_allDarts.1 hj
    unfold ph
    rw [ht _ hm]
    unfold al
    by_cases h2 : y / 2 ∈ X.take k
    · rw [if_pos h2]
      exact Hang.dart (hp.take_ k) (mem_dartsOf.2 ⟨h2, rfl⟩)
    · rw [if_neg h2]
      exact Hang.refl _
theorem hang_join (S : List Int) (e u v : Int) (he : ends es e = (u, v)) (hp : POK N es V (S ++ [e])) (hpS : POK N es V S) {x y : Int} (hx : x ∈ V) (h : Hang es (S ++ [e]) x y) : Joined (Hang es S) u v x y := by
  obtain ⟨k, hk⟩ := h
  have huv := hp.ends e (by simp)
  unfold EndsIn at huv
  rw [he] at huv
  have hE := (hang_equ hpS).joined huv.1 huv.2
  have hin : ∀ {j : Nat} {z : Int}, Way es (S ++ [e]) (-1) x j z → z ∈ V := fun {j z} h => Hang.in_ hp hx ⟨j, h⟩
  induction hk with
  | start => exact .inl (Hang.refl _)
  | @step j z d hw hd hne ih =>
    have hz := hin hw
    obtain ⟨h1, h2⟩ := mem_dartsOf.1 hd
    have hh := (head_in hp h1).1
    refine hE.trans x hx z hz _ hh ih ?_
    rcases List.mem_append.1 h1 with h1 | h1
    · exact .inl (Hang.dart hpS (mem_dartsOf.2 ⟨h1, h2⟩))
    · rw [List.mem_singleton] at h1
      have hhd : head es d = if d % 2 = 0 then v else u := by
        unfold head tail twin
        by_cases hq : d % 2 = 0
        · rw [if_pos hq, if_pos hq, if_neg (by omega), show (d + 1) / 2 = d / 2 by omega, h1, he]
        · rw [if_neg hq, if_neg hq, if_pos (by omega), show (d - 1) / 2 = d / 2 by omega, h1, he]
      have htl : tail es d = if d % 2 = 0 then u else v := by
        unfold tail
        rw [h1, he]
      rw [← h2, hhd, htl]
      by_cases hq : d % 2 = 0
      · rw [if_pos hq, if_pos hq]
        exact .inr (.inl ⟨Hang.refl _, Hang.refl _⟩)
      · rw [if_neg hq, if_neg hq]
        exact .inr (.inr ⟨Hang.refl _, Hang.refl _⟩)
theorem cls_exists (R : Int → Int → Prop) (D : List Int) : ∃ n, Cls R D n := Num.exists_ _ D

/-- While edge by edge comes in. -/
theorem euler_steps (h : PermOn s (allDarts X)) (ht : ∀ x ∈ allDarts X, tail es (s x) = tail es x) (hc : ∀ x ∈ allDarts X, ∀ y ∈ allDarts X, tail es x = tail es y → Meets s x y) (hp : POK N es V X) :
    ∀ k, k ≤ X.length → ∀ c m, Cls (Meets (ph s (X.take k))) (allDarts X) c → Cls (Hang es (X.take k)) V m → c + V.length ≤ 2 * m + k
  | 0, _, c, m, h1, h2 => by
    have e0 : ph s (X.take 0) = s := by
      funext x
      unfold ph al
      rw [if_neg (by simp)]
    rw [e0] at h1
    have hm : m = V.length := by
      obtain ⟨l, l1, l2, rfl⟩ := h2
      have ha : ∀ x ∈ V, x ∈ l := fun x hx => (l2 x).2 ⟨hx, fun y _ ⟨j, hj⟩ => by
        cases hj with
        | start => exact Int.le_refl _
        | step _ hd _ => simp [dartsOf] at hd⟩
      have hvn := sorted_nodup hp.vp
      exact Nat.le_antisymm (nodup_len l1 fun x hx => ((l2 x).1 hx).1) (nodup_len hvn ha)
    have hcv : c ≤ V.length := by
      obtain ⟨l, l1, l2, rfl⟩ := h1
      have hmap : (l.map (tail es)).Nodup := by
        refine List.pairwise_map.2 (List.Pairwise.imp_of_mem ?_ l1)
        intro a b ha hb hab e
        obtain ⟨a1, a2⟩ := (l2 a).1 ha
        obtain ⟨b1, b2⟩ := (l2 b).1 hb
        have h3 := a2 b b1 (hc a a1 b b1 e)
        have h4 := b2 a a1 (hc b b1 a a1 e.symm)
        exact hab (by omega)
      have := nodup_len hmap (b := V) fun y hy => by
        obtain ⟨x, hx, rfl⟩ := List.mem_map.1 hy
        exact (head_in hp (mem_allDarts.1 ((l2 x).1 hx).1)).2
      rwa [List.length_map] at this
    omega
  | k + 1, hk, c, m, h1, h2 => by
    obtain ⟨e, he⟩ : ∃ e, X.getD k 0 = e := ⟨_, rfl⟩
    have hkl : k < X.length := by omega
    have htk := take_getD hkl he
    obtain ⟨c0, hc0⟩ := cls_exists (Meets (ph s (X.take k))) (allDarts X)
    obtain ⟨m0, hm0⟩ := cls_exists (Hang es (X.take k)) V
    have ih := euler_steps h ht hc hp k (by omega) c0 m0 hc0 hm0
    have heX : e ∈ X := by rw [← he, getD_idx hkl]; exact List.getElem_mem _
    have heS : e ∉ X.take k := by
      have hn := sorted_nodup (hp.take_ (k + 1)).xp
      rw [htk, List.nodup_append] at hn
      exact fun hm => hn.2.2 e hm e (by simp) rfl
    have hsw := ph_swap (s := s) (X.take k) e heS
    rw [htk] at h1 h2
    have ha : 2 * e ∈ allDarts X := mem_allDarts.2 (by rw [show 2 * e / 2 = e by omega]; exact heX)
    have hb : 2 * e + 1 ∈ allDarts X := mem_allDarts.2 (by rw [show (2 * e + 1) / 2 = e by omega]; exact heX)
    have hP := ph_perm h (X.take k)
    have hP' := ph_perm h (X.take k ++ [e])
    obtain ⟨u, v, huv⟩ : ∃ u v, ends es e = (u, v) := ⟨_, _, rfl⟩
    have hpS := hp.take_ k
    have hp1 := hp.take_ (k + 1)
    rw [htk] at hp1
    have huvV := hp.ends e heX
    unfold EndsIn at huvV
    rw [huv] at huvV
    obtain ⟨j, hj⟩ := cls_exists (Joined (Hang es (X.take k)) u v) V
    have hjm : j ≤ m := h2.coarser hj fun x hx y _ hxy => hang_join (X.take k) e u v huv hp1 hpS hx hxy
    have hle := Cls.join_le (hang_equ hpS) huvV.1 huvV.2 hm0 hj
    rcases Classical.em (Meets (ph s (X.take k)) (2 * e) (2 * e + 1)) with hmt | hmt
    · -- the ends hang together already
      have hmore := hsw.more hP hP' ha hb hc0 h1
      obtain ⟨i, hi⟩ := hmt
      have hh := ph_hang h ht hp k ha i
      rw [← hi] at hh
      have t0 : tail es (2 * e) = u := by unfold tail; rw [if_pos (by omega), show 2 * e / 2 = e by omega, huv]
      have t1 : tail es (2 * e + 1) = v := by unfold tail; rw [if_neg (by omega), show (2 * e + 1) / 2 = e by omega, huv]
      rw [t0, t1] at hh
      have hjm0 : m0 ≤ j := hj.coarser hm0 fun x hx y hy hxy => by
        rcases hxy with h3 | ⟨h3, h4⟩ | ⟨h3, h4⟩
        · exact h3
        · exact (h3.trans hh).trans h4
        · exact (h3.trans (hh.symm hpS)).trans h4
      omega
    · have hless := hsw.less hP hP' ha hb hmt hc0 h1
      omega
/-- Euler's inequality. -/
theorem euler (h : PermOn s (allDarts X)) (ht : ∀ x ∈ allDarts X, tail es (s x) = tail es x) (hc : ∀ x ∈ allDarts X, ∀ y ∈ allDarts X, tail es x = tail es y → Meets s x y) (hp : POK N es V X)
    (hone : ∀ x ∈ V, ∀ y ∈ V, Hang es X x y) {c : Nat} (hcl : Cls (Meets fun x => s (twin x)) (allDarts X) c) : c + V.length ≤ 2 + X.length := by
  obtain ⟨m, hm⟩ := cls_exists (Hang es X) V
  have hm1 : m ≤ 1 := by
    obtain ⟨l, l1, l2, rfl⟩ := hm
    match l, l1, l2 with
    | [], _, _ => simp
    | [a], _, _ => simp
    | a :: b :: l, l1, l2 =>
      exfalso
      obtain ⟨a1, a2⟩ := (l2 a).1 (by simp)
      obtain ⟨b1, b2⟩ := (l2 b).1 (by simp)
      have h3 := a2 b b1 (hone a a1 b b1)
      have h4 := b2 a a1 (hone b b1 a a1)
      have : a = b := by omega
      rw [this] at l1
      simp at l1
  obtain ⟨c', hc'⟩ := cls_exists (Meets (ph s (X.take X.length))) (allDarts X)
  have := euler_steps h ht hc hp X.length (Nat.le_refl _) c' m hc' (by rw [List.take_length]; exact hm)
  have hcc : c = c' := by
    have hP := ph_perm h (X.take X.length)
    have hagree : ∀ x ∈ allDarts X, ph s (X.take X.length) x = s (twin x) := fun x hx => by
      unfold ph al
      rw [List.take_length, if_pos (mem_allDarts.1 hx)]
    have hit : ∀ x ∈ allDarts X, ∀ k, iter (ph s (X.take X.length)) k x = iter (fun x => s (twin x)) k x := fun x hx k => by
      induction k with
      | zero => rfl
      | succ k ih =>
        show ph s (X.take X.length) (iter (ph s (X.take X.length)) k x) = s (twin (iter (fun x => s (twin x)) k x))
        rw [← ih]
        exact hagree _ (hP.iter hx k)
    refine Cls.same hc' hcl fun x hx y _ => ?_
    constructor
    · rintro ⟨k, rfl⟩
      exact ⟨k, hit x hx k⟩
    · rintro ⟨k, rfl⟩
      exact ⟨k, (hit x hx k).symm⟩
  omega
end
end Go.Proofs.Ythobfbnopkbniaa
