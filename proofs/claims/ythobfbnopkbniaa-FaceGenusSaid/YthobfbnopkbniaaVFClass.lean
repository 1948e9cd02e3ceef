/-
  How many classes an equivalence has on a list of numbers; what becomes of them when two are joined, and of the orbits of a permutation when two values are swapped. Plain theorems; no conditions.
-/
import Derived.Test.YthobfbnopkbniaaFaceD
namespace Go.Proofs.Ythobfbnopkbniaa

/-- So many numbers of the list have the property. -/
def Num (D : List Int) (P : Int → Prop) (n : Nat) : Prop := ∃ l : List Int, l.Nodup ∧ (∀ x, x ∈ l ↔ x ∈ D ∧ P x) ∧ l.length = n
theorem Num.exists_ (P : Int → Prop) : ∀ D : List Int, ∃ n, Num D P n
  | [] => ⟨0, [], by simp, by simp, rfl⟩
  | d :: D => by
    obtain ⟨n, l, h1, h2, h3⟩ := Num.exists_ P D
    rcases Classical.em (P d ∧ d ∉ D) with ⟨hp, hd⟩ | hn
    · refine ⟨n + 1, d :: l, List.nodup_cons.2 ⟨fun h => hd ((h2 d).1 h).1, h1⟩, fun x => ?_, by simp [h3]⟩
      rw [List.mem_cons, List.mem_cons, h2]
      constructor
      · rintro (rfl | ⟨h4, h5⟩)
        · exact ⟨.inl rfl, hp⟩
        · exact ⟨.inr h4, h5⟩
      · rintro ⟨rfl | h4, h5⟩
        · exact .inl rfl
        · exact .inr ⟨h4, h5⟩
    · refine ⟨n, l, h1, fun x => ?_, h3⟩
      rw [h2, List.mem_cons]
      constructor
      · rintro ⟨h4, h5⟩
        exact ⟨.inr h4, h5⟩
      · rintro ⟨rfl | h4, h5⟩
        · exact ⟨Classical.byContradiction fun h => hn ⟨h5, h⟩, h5⟩
        · exact ⟨h4, h5⟩
section
variable {D : List Int} {P Q : Int → Prop} {n m : Nat}
theorem Num.le (h : Num D P n) (k : Num D Q m) (hPQ : ∀ x ∈ D, P x → Q x) : n ≤ m := by
  obtain ⟨l, h1, h2, rfl⟩ := h
  obtain ⟨l', k1, k2, rfl⟩ := k
  exact nodup_len h1 fun x hx => (k2 x).2 ⟨((h2 x).1 hx).1, hPQ x ((h2 x).1 hx).1 ((h2 x).1 hx).2⟩
theorem Num.uniq (h : Num D P n) (k : Num D P m) : n = m := Nat.le_antisymm (h.le k fun _ _ h => h) (k.le h fun _ _ h => h)
theorem Num.le_succ (h : Num D P n) (k : Num D Q m) {d : Int} (hPQ : ∀ x ∈ D, P x → Q x ∨ x = d) : n ≤ m + 1 := by
  obtain ⟨l, h1, h2, rfl⟩ := h
  obtain ⟨l', k1, k2, rfl⟩ := k
  have := nodup_len (b := d :: l') h1 fun x hx => by
    obtain ⟨h3, h4⟩ := (h2 x).1 hx
    rcases hPQ x h3 h4 with h5 | h5
    · exact List.mem_cons_of_mem _ ((k2 x).2 ⟨h3, h5⟩)
    · rw [h5]; simp
  simpa using this
theorem Num.lt (h : Num D P n) (k : Num D Q m) (hQP : ∀ x ∈ D, Q x → P x) {d : Int} (hd : d ∈ D) (hp : P d) (hq : ¬ Q d) : m + 1 ≤ n := by
  obtain ⟨l, h1, h2, rfl⟩ := h
  obtain ⟨l', k1, k2, rfl⟩ := k
  have := nodup_len (a := d :: l') (b := l) (List.nodup_cons.2 ⟨fun h => hq ((k2 d).1 h).2, k1⟩) fun x hx => by
    rcases List.mem_cons.1 hx with rfl | hx
    · exact (h2 x).2 ⟨hd, hp⟩
    · exact (h2 x).2 ⟨((k2 x).1 hx).1, hQP x ((k2 x).1 hx).1 ((k2 x).1 hx).2⟩
  simpa using this
end

/-- An equivalence on the numbers of a list. -/
structure Equ (R : Int → Int → Prop) (D : List Int) : Prop where
  refl : ∀ x ∈ D, R x x
  symm : ∀ x ∈ D, ∀ y ∈ D, R x y → R y x
  trans : ∀ x ∈ D, ∀ y ∈ D, ∀ z ∈ D, R x y → R y z → R x z
/-- The least of its class. -/
def LeastIn (R : Int → Int → Prop) (D : List Int) (d : Int) : Prop := ∀ y ∈ D, R d y → d ≤ y
/-- So many classes. -/
def Cls (R : Int → Int → Prop) (D : List Int) (n : Nat) : Prop := Num D (LeastIn R D) n
/-- a's class and b's are one. -/
def Joined (R : Int → Int → Prop) (a b x y : Int) : Prop := R x y ∨ (R x a ∧ R b y) ∨ (R x b ∧ R a y)
section
variable {R R' : Int → Int → Prop} {D : List Int} {a b : Int} {n m : Nat}
theorem Cls.coarser (h : Cls R D n) (k : Cls R' D m) (hR : ∀ x ∈ D, ∀ y ∈ D, R x y → R' x y) : m ≤ n :=
  Num.le k h fun x hx hl y hy hxy => hl y hy (hR x hx y hy hxy)
theorem Cls.same (h : Cls R D n) (k : Cls R' D m) (hR : ∀ x ∈ D, ∀ y ∈ D, R x y ↔ R' x y) : m = n :=
  Nat.le_antisymm (h.coarser k fun x hx y hy => (hR x hx y hy).1) (k.coarser h fun x hx y hy => (hR x hx y hy).2)
theorem least_of (P : Int → Prop) : ∀ (D : List Int), (∃ d ∈ D, P d) → ∃ d ∈ D, P d ∧ ∀ y ∈ D, P y → d ≤ y
  | [], ⟨_, h, _⟩ => by simp at h
  | e :: D, h => by
    rcases Classical.em (∃ d ∈ D, P d) with h1 | h1
    · obtain ⟨d, hd, hp, hl⟩ := least_of P D h1
      rcases Classical.em (P e ∧ e < d) with ⟨h2, h3⟩ | h2
      · refine ⟨e, by simp, h2, fun y hy hpy => ?_⟩
        rcases List.mem_cons.1 hy with rfl | hy
        · exact Int.le_refl _
        · have := hl y hy hpy; omega
      · refine ⟨d, List.mem_cons_of_mem _ hd, hp, fun y hy hpy => ?_⟩
        rcases List.mem_cons.1 hy with rfl | hy
        · exact Classical.byContradiction fun h => h2 ⟨hpy, by omega⟩
        · exact hl y hy hpy
    · obtain ⟨d, hd, hp⟩ := h
      rcases List.mem_cons.1 hd with rfl | hd
      · refine ⟨d, by simp, hp, fun y hy hpy => ?_⟩
        rcases List.mem_cons.1 hy with rfl | hy
        · exact Int.le_refl _
        · exact absurd ⟨y, hy, hpy⟩ h1
      · exact absurd ⟨d, hd, hp⟩ h1
theorem Equ.joined (h : Equ R D) (ha : a ∈ D) (hb : b ∈ D) : Equ (Joined R a b) D where
  refl x hx := .inl (h.refl x hx)
  symm x hx y hy := by
    rintro (h1 | ⟨h1, h2⟩ | ⟨h1, h2⟩)
    · exact .inl (h.symm x hx y hy h1)
    · exact .inr (.inr ⟨h.symm b hb y hy h2, h.symm x hx a ha h1⟩)
    · exact .inr (.inl ⟨h.symm a ha y hy h2, h.symm x hx b hb h1⟩)
  trans x hx y hy z hz := by
    rintro (h1 | ⟨h1, h2⟩ | ⟨h1, h2⟩) (k1 | ⟨k1, k2⟩ | ⟨k1, k2⟩)
    · exact .inl (h.trans x hx y hy z hz h1 k1)
    · exact .inr (.inl ⟨h.trans x hx y hy a ha h1 k1, k2⟩)
    · exact .inr (.inr ⟨h.trans x hx y hy b hb h1 k1, k2⟩)
    · exact .inr (.inl ⟨h1, h.trans b hb y hy z hz h2 k1⟩)
    · exact .inr (.inl ⟨h1, k2⟩)
    · exact .inl (h.trans x hx a ha z hz h1 k2)
    · exact .inr (.inr ⟨h1, h.trans a ha y hy z hz h2 k1⟩)
    · exact .inl (h.trans x hx b hb z hz h1 k2)
    · exact .inr (.inr ⟨h1, k2⟩)
/-- Joining two classes takes at most one away. -/
theorem Cls.join_le (hR : Equ R D) (ha : a ∈ D) (hb : b ∈ D) (h : Cls R D n) (k : Cls (Joined R a b) D m) : n ≤ m + 1 := by
  -- the one that is the least of its class, and not of the joined one
  rcases Classical.em (∃ d ∈ D, LeastIn R D d ∧ ¬ LeastIn (Joined R a b) D d) with ⟨d, hd, h1, h2⟩ | hn
  · refine Num.le_succ (d := d) h k fun x hx hl => ?_
    rcases Classical.em (LeastIn (Joined R a b) D x) with h3 | h3
    · exact .inl h3
    · refine .inr ?_
      have key : ∀ z ∈ D, LeastIn R D z → ¬ LeastIn (Joined R a b) D z → ∃ y ∈ D, y < z ∧ ((R z a ∧ R b y) ∨ (R z b ∧ R a y)) := fun z hz hl hn => by
        refine Classical.byContradiction fun hc => hn fun y hy hj => ?_
        rcases hj with hj | hj
        · exact hl y hy hj
        · exact Classical.byContradiction fun hlt => hc ⟨y, hy, by omega, hj⟩
      obtain ⟨y, hy, hlt, hj⟩ := key x hx hl h3
      obtain ⟨y', hy', hlt', hj'⟩ := key d hd h1 h2
      have both : ∀ c ∈ D, R x c → R d c → x = d := fun c hc h4 h5 => by
        have h6 := hR.trans x hx c hc d hd h4 (hR.symm d hd c hc h5)
        have h7 := hl d hd h6
        have h8 := h1 x hx (hR.symm x hx d hd h6)
        omega
      rcases hj with ⟨h4, h5⟩ | ⟨h4, h5⟩ <;> rcases hj' with ⟨h6, h7⟩ | ⟨h6, h7⟩
      · exact both a ha h4 h6
      · exfalso
        have h8 := hl y' hy' (hR.trans x hx a ha y' hy' h4 h7)
        have h9 := h1 y hy (hR.trans d hd b hb y hy h6 h5)
        omega
      · exfalso
        have h8 := hl y' hy' (hR.trans x hx b hb y' hy' h4 h7)
        have h9 := h1 y hy (hR.trans d hd a ha y hy h6 h5)
        omega
      · exact both b hb h4 h6
  · exact Nat.le_succ_of_le (Num.le h k fun x hx hl => Classical.byContradiction fun h3 => hn ⟨x, hx, hl, h3⟩)
/-- Joining two classes that are two takes one away. -/
theorem Cls.join_lt (hR : Equ R D) (ha : a ∈ D) (hb : b ∈ D) (hab : ¬ R a b) (h : Cls R D n) (k : Cls (Joined R a b) D m) : m + 1 ≤ n := by
  obtain ⟨x, hx, hax, hxl⟩ := least_of (R a) D ⟨a, ha, hR.refl a ha⟩
  obtain ⟨y, hy, hby, hyl⟩ := least_of (R b) D ⟨b, hb, hR.refl b hb⟩
  have hxy : x ≠ y := fun e => hab (hR.trans a ha x hx b hb hax (hR.symm b hb x hx (e ▸ hby)))
  have hsub : ∀ z ∈ D, LeastIn (Joined R a b) D z → LeastIn R D z := fun z _ hl w hw hzw => hl w hw (.inl hzw)
  rcases Int.lt_or_lt_of_ne hxy with hlt | hlt
  · refine Num.lt h k hsub hy (fun w hw hyw => hyl w hw (hR.trans b hb y hy w hw hby hyw)) fun hl => ?_
    have := hl x hx (.inr (.inr ⟨hR.symm b hb y hy hby, hax⟩))
    omega
  · refine Num.lt h k hsub hx (fun w hw hxw => hxl w hw (hR.trans a ha x hx w hw hax hxw)) fun hl => ?_
    have := hl y hy (.inr (.inl ⟨hR.symm a ha x hx hax, hby⟩))
    omega
end

section
variable {f g : Int → Int} {D : List Int} {a b x y : Int} {n m : Nat}
theorem PermOn.equ (h : PermOn f D) : Equ (Meets f) D := ⟨fun x _ => Meets.refl f x, fun _ hx _ _ hxy => hxy.symm h hx, fun _ _ _ _ _ _ h1 h2 => h1.trans h2⟩
/-- g is f with two values swapped. -/
structure Swapped (f g : Int → Int) (a b : Int) : Prop where
  at_a : g a = f b
  at_b : g b = f a
  else_ : ∀ x, x ≠ a → x ≠ b → g x = f x
theorem Swapped.back (h : Swapped f g a b) : Swapped g f a b := ⟨h.at_b.symm, h.at_a.symm, fun x h1 h2 => (h.else_ x h1 h2).symm⟩
theorem Swapped.joined (h : Swapped f g a b) (hf : PermOn f D) (hg : PermOn g D) (ha : a ∈ D) (hb : b ∈ D) (hx : x ∈ D) : ∀ k, Joined (Meets g) a b x (iter f k x)
  | 0 => .inl (Meets.refl g x)
  | k + 1 => by
    have ih := Swapped.joined h hf hg ha hb hx k
    have hk := hf.iter hx k
    have hE := hg.equ.joined ha hb
    refine hE.trans x hx _ hk _ (hf.iter hx (k + 1)) ih ?_
    show Joined (Meets g) a b (iter f k x) (f (iter f k x))
    by_cases h1 : iter f k x = a
    · rw [h1, ← h.at_b]
      exact .inr (.inl ⟨Meets.refl g a, ⟨1, rfl⟩⟩)
    · by_cases h2 : iter f k x = b
      · rw [h2, ← h.at_a]
        exact .inr (.inr ⟨Meets.refl g b, ⟨1, rfl⟩⟩)
      · rw [← h.else_ _ h1 h2]
        exact .inl ⟨1, rfl⟩
/-- One swap makes at most one orbit more. -/
theorem Swapped.more (h : Swapped f g a b) (hf : PermOn f D) (hg : PermOn g D) (ha : a ∈ D) (hb : b ∈ D) (k1 : Cls (Meets f) D n) (k2 : Cls (Meets g) D m) : m ≤ n + 1 := by
  obtain ⟨j, hj⟩ := Num.exists_ (LeastIn (Joined (Meets g) a b) D) D
  have h1 : j ≤ n := k1.coarser hj fun x hx y _ hxy => by
    obtain ⟨k, rfl⟩ := hxy
    exact h.joined hf hg ha hb hx k
  have h2 := Cls.join_le hg.equ ha hb k2 hj
  omega
/-- The orbits of a and b become one. -/
theorem Swapped.met (h : Swapped f g a b) (hf : PermOn f D) (hb : b ∈ D) (hab : ¬ Meets f a b) : Meets g a b := by
  obtain ⟨p, hp, _⟩ := hf.period hb
  have key : ∀ k, k < p → Meets g a (iter f (k + 1) b) := by
    intro k
    induction k with
    | zero =>
      intro _
      exact ⟨1, h.at_a.symm⟩
    | succ k ih =>
      intro hk
      have h1 := ih (by omega)
      have hne1 : iter f (k + 1) b ≠ a := fun e => hab (Meets.symm ⟨k + 1, e.symm⟩ hf hb)
      have hne2 : iter f (k + 1) b ≠ b := hp.2.2 (k + 1) (by omega) hk
      refine h1.trans ⟨1, ?_⟩
      show f (iter f (k + 1) b) = g (iter f (k + 1) b)
      exact (h.else_ _ hne1 hne2).symm
  have h0 := hp.1
  have := key (p - 1) (by omega)
  rw [show p - 1 + 1 = p by omega, hp.2.1] at this
  exact this
/-- A swap of two orbits' values makes one orbit less. -/
theorem Swapped.less (h : Swapped f g a b) (hf : PermOn f D) (hg : PermOn g D) (ha : a ∈ D) (hb : b ∈ D) (hab : ¬ Meets f a b) (k1 : Cls (Meets f) D n) (k2 : Cls (Meets g) D m) : m + 1 ≤ n := by
  obtain ⟨j, hj⟩ := Num.exists_ (LeastIn (Joined (Meets f) a b) D) D
  have hm := h.met hf hb hab
  have hE := hg.equ
  have hsub : ∀ x ∈ D, ∀ y ∈ D, Meets f x y → Meets g x y := fun x hx y hy hxy => by
    obtain ⟨k, rfl⟩ := hxy
    rcases h.joined hf hg ha hb hx k with h1 | ⟨h1, h2⟩ | ⟨h1, h2⟩
    · exact h1
    · exact (h1.trans hm).trans h2
    · exact (h1.trans (hm.symm hg ha)).trans h2
  have h1 : m ≤ j := Cls.coarser (R := Joined (Meets f) a b) hj k2 fun x hx y hy hxy => by
    rcases hxy with h1 | ⟨h1, h2⟩ | ⟨h1, h2⟩
    · exact hsub x hx y hy h1
    · exact ((hsub x hx a ha h1).trans hm).trans (hsub b hb y hy h2)
    · exact ((hsub x hx b hb h1).trans (hm.symm hg ha)).trans (hsub a ha y hy h2)
  have h2 := Cls.join_lt hf.equ ha hb hab k1 hj
  omega
end
end Go.Proofs.Ythobfbnopkbniaa
