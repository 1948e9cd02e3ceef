/-
  The contract of tracerylaw05.awake. No conditions.
-/
import Derived.Test.YthobfbnopkbniaaWPathB
import Derived.Test.YthobfbnopkbniaaWBeyondB
import Derived.Test.YthobfbnopkbniaaWEqual
namespace Go.Proofs.Ythobfbnopkbniaa
open Go.RowKit

abbrev exE : List (Int × Int) := [(0, 1), (1, 2)]
abbrev exV : List Int := [0, 1, 2]
abbrev exX : List Int := [0, 1]
theorem upto3 : upto 3 = exV := by decide
theorem upto2 : upto 2 = exX := by decide
theorem ex_right5 : pRight 3 exE exV exX = 0 := by decide
theorem ex_darts (d v : Int) (h : d ∈ dartsOf exE v exX) : d = 0 ∧ v = 0 ∨ d = 1 ∧ v = 1 ∨ d = 2 ∧ v = 1 ∨ d = 3 ∧ v = 2 := by
  obtain ⟨h1, h2⟩ := mem_dartsOf.1 h
  have h3 : d = 0 ∨ d = 1 ∨ d = 2 ∨ d = 3 := by
    simp at h1
    omega
  rcases h3 with rfl | rfl | rfl | rfl
  · exact .inl ⟨rfl, h2.symm.trans (by decide)⟩
  · exact .inr (.inl ⟨rfl, h2.symm.trans (by decide)⟩)
  · exact .inr (.inr (.inl ⟨rfl, h2.symm.trans (by decide)⟩))
  · exact .inr (.inr (.inr ⟨rfl, h2.symm.trans (by decide)⟩))
/-- How far from vertex 0. -/
def ex_f (u : Int) : Option Int := if u = 0 then some 0 else if u = 1 then some 1 else if u = 2 then some 2 else none
theorem ex_dist : Dist exE exX (-1) 0 ex_f := by
  have w0 : Way exE exX (-1) 0 0 0 := Way.start
  have w1 : Way exE exX (-1) 0 1 1 := Way.step (d := 0) w0 (by decide) (by decide)
  have w2 : Way exE exX (-1) 0 2 2 := Way.step (d := 2) w1 (by decide) (by decide)
  refine ⟨rfl, fun u k h => ?_, fun u k d h hd _ => ?_⟩
  · unfold ex_f at h
    split at h
    · injection h with h; subst_vars; exact ⟨0, rfl, w0⟩
    · split at h
      · injection h with h; subst_vars; exact ⟨1, rfl, w1⟩
      · split at h
        · injection h with h; subst_vars; exact ⟨2, rfl, w2⟩
        · cases h
  · rcases ex_darts d u hd with ⟨rfl, rfl⟩ | ⟨rfl, rfl⟩ | ⟨rfl, rfl⟩ | ⟨rfl, rfl⟩
    · have h' : some (0 : Int) = some k := h
      injection h' with h'
      subst h'
      exact ⟨1, by decide, by decide⟩
    · have h' : some (1 : Int) = some k := h
      injection h' with h'
      subst h'
      exact ⟨0, by decide, by decide⟩
    · have h' : some (1 : Int) = some k := h
      injection h' with h'
      subst h'
      exact ⟨2, by decide, by decide⟩
    · have h' : some (2 : Int) = some k := h
      injection h' with h'
      subst h'
      exact ⟨1, by decide, by decide⟩
theorem ex_path {l : List Int} (h : PathIs exE exX ex_f 2 l) : l = [3, 1] := by
  have hl := h.len
  have h2 : some (2 : Int) = some (l.length : Int) := hl
  injection h2 with h2
  match l, h, h2 with
  | [], _, h2 => simp at h2
  | [_], _, h2 => simp at h2
  | [d, d'], h, _ =>
    obtain ⟨_, hd, _, _, _, hd', hf', _⟩ := h
    have hd1 : d = 3 := by rcases ex_darts d 2 hd with ⟨_, h⟩ | ⟨_, h⟩ | ⟨_, h⟩ | ⟨h, _⟩ <;> first | exact h | (exact absurd h (by decide))
    subst hd1
    have h2 : d' ∈ dartsOf exE 1 exX := hd'
    have h3 : ex_f (head exE d') = some 0 := hf'
    rcases ex_darts d' 1 h2 with ⟨_, h⟩ | ⟨rfl, _⟩ | ⟨rfl, _⟩ | ⟨_, h⟩
    · exact absurd h (by decide)
    · rfl
    · exact absurd h3 (by decide)
    · exact absurd h (by decide)
  | _ :: _ :: _ :: l, _, h2 => simp at h2; omega
theorem ex_bey {ys zs : List Int} (h : BeyIs exE exV exX 1 2 ys zs) : ys = [1, 2] := by
  rcases h with ⟨h1, _⟩ | ⟨_, f, ms, hri, rfl, _⟩
  · exact absurd h1 (by decide)
  · have hst : f 2 = some 0 := hri.start
    have h0 : f 0 = none := by
      cases hf : f 0 with
      | none => rfl
      | some k =>
        obtain ⟨n, _, hw⟩ := hri.way 0 k hf
        have key : ∀ n u, Way exE exX 1 (head exE 2) n u → u = 2 := by
          intro n u hw
          induction hw with
          | start => rfl
          | step _ hd hs ih =>
            subst ih
            rcases ex_darts _ 2 hd with ⟨_, h⟩ | ⟨_, h⟩ | ⟨_, h⟩ | ⟨rfl, _⟩
            · exact absurd h (by decide)
            · exact absurd h (by decide)
            · exact absurd h (by decide)
            · exact absurd (by decide) hs
        exact absurd (key n 0 hw) (by decide)
    simp [h0, hst]

set_option maxHeartbeats 2000000 in
set_option maxRecDepth 100000 in
theorem awake5_any (w : World) : Calls Try.prog 25 #[] w fun e w' => e = .returned (.bool true) ∧ Below w.heap.size w w' := by
  go_enter Try.func25, Try.ntmps25
  go_wp2_with fail
  obtain ⟨wb, hwb⟩ : ∃ wb, ((w.alloc (.cells #[.int .i64 0, .int .i64 1, .int .i64 1, .int .i64 2] 86)).alloc (.cells #[.int .i64 3, .slice (some ⟨w.heap.size, 0, none⟩) 2 2] 24)) = wb := ⟨_, rfl⟩
  have hbw : Below w.heap.size w wb := by rw [← hwb]; exact ((Below.refl _ _).alloc (Nat.le_refl _) _).alloc (by simp) _
  have hsz : wb.heap.size = w.heap.size + 2 := by rw [← hwb]; simp
  have c0 : wb.cell? ⟨w.heap.size + 1, 0, none⟩ = some (.int .i64 3) := by rw [← hwb]; simp
  have c1 : wb.cell? ⟨w.heap.size + 1, 1, none⟩ = some (.slice (some ⟨w.heap.size, 0, none⟩) 2 2) := by rw [← hwb]; simp
  have hes : ES wb wb.heap.size (some ⟨w.heap.size, 0, none⟩) 2 2 exE := by
    refine ⟨rfl, Nat.le_refl _, by omega, by simp [I64], fun _ => ⟨_, 0, rfl, by omega, fun j hj => ?_⟩⟩
    rw [← hwb]
    match j, hj with
    | 0, _ => simp
    | 1, _ => simp
  have hgl : w.heap.size + 1 < wb.heap.size := by omega
  rw [hwb]
  clear hwb hsz
  refine (whole_any wb 3 _ 2 2 _ hes (by omega) (by omega) (by omega)).mono ?_
  rintro e w2 ⟨A1, n1, d1, A2, n2, d2, rfl, i1, i2, b2⟩
  have e3 : upto (3 : Int).toNat = exV := by decide
  have e2 : upto 2 = exX := by decide
  rw [e3] at i1
  rw [e2] at i2
  obtain ⟨w3, hw3, b3, s3, hc3⟩ := box_one w2 #[.slice A1 n1 d1, .slice A2 n2 d2] 27
  have c4 : w3.cell? ⟨w2.heap.size, 0, none⟩ = some (.slice A1 n1 d1) := hc3 0
  have c5 : w3.cell? ⟨w2.heap.size, 1, none⟩ = some (.slice A2 n2 d2) := hc3 1
  have g3 : GP w3 3 (some ⟨w.heap.size, 0, none⟩) 2 2 exE A1 n1 d1 exV A2 n2 d2 exX := ⟨(hes.step b2).step b3, ⟨by omega, by omega⟩, i1.step b3, i2.step b3⟩
  have k0 := (b3.cell (p := ⟨w.heap.size + 1, 0, none⟩) (Nat.lt_of_lt_of_le hgl b2.size)).trans ((b2.cell (p := ⟨w.heap.size + 1, 0, none⟩) hgl).trans c0)
  have k1 := (b3.cell (p := ⟨w.heap.size + 1, 1, none⟩) (Nat.lt_of_lt_of_le hgl b2.size)).trans ((b2.cell (p := ⟨w.heap.size + 1, 1, none⟩) hgl).trans c1)
  have hgl3 : w.heap.size + 1 < w3.heap.size := by have := b2.size; have := b3.size; omega
  have B3 := Lib.hid (bstep (bstep hbw b2) b3)
  clear hes i1 i2 hbw b2 b3 c0 c1 hc3 e3 e2 hgl
  go_wp2_with fail
  refine (path_yes w3 3 _ 2 2 exE A1 n1 d1 exV A2 n2 d2 exX 2 0 g3 ex_right5 (by decide) (by decide)).mono ?_
  rintro e w4 ⟨⟨f, ms, hri, hor⟩, b4⟩
  have hf : f = ex_f := hri.dist.unique ex_dist
  rcases hor with ⟨hn, rfl⟩ | ⟨A3, n3, d3, l, rfl, il, hpl⟩
  · rw [hf] at hn
    exact absurd hn (by decide)
  rw [hf] at hpl
  have hl := ex_path hpl
  subst hl
  have g4 := g3.step b4
  have k0' := (b4.cell (p := ⟨w.heap.size + 1, 0, none⟩) hgl3).trans k0
  have k1' := (b4.cell (p := ⟨w.heap.size + 1, 1, none⟩) hgl3).trans k1
  have c4' := (b4.cell (p := ⟨w2.heap.size, 0, none⟩) s3).trans c4
  have c5' := (b4.cell (p := ⟨w2.heap.size, 1, none⟩) s3).trans c5
  have B4 := Lib.hid (bstep B3.out b4)
  clear hri hf hpl g3 k0 k1 c4 c5 b4 hw3
  go_wp2_with fail
  refine (beyond_yes w4 3 _ 2 2 exE A1 n1 d1 exV A2 n2 d2 exX 1 2 g4 ⟨by omega, by omega⟩ ⟨ex_right5, by omega, by decide, by decide⟩).mono ?_
  rintro e w5 ⟨⟨A5, n5, d5, A6, n6, d6, ys, zs, rfl, iy, _, hbey⟩, b5⟩
  have hy := ex_bey hbey
  subst hy
  obtain ⟨w6, hw6, b6, s6, hc6⟩ := box_one w5 #[.slice A5 n5 d5, .slice A6 n6 d6] 27
  have c6 : w6.cell? ⟨w5.heap.size, 0, none⟩ = some (.slice A5 n5 d5) := hc6 0
  have il6 := Lib.hid ((il.step b5).step b6)
  have iy6 := Lib.hid (iy.step b6)
  have B6 := Lib.hid (bstep (bstep B4.out b5) b6)
  clear il iy hbey b5 g4 k0' k1' c4' c5' hc6
  go_wp2_with fail
  have hb7 : Below w6.heap.size w6 (w6.alloc (.cells #[.int .i64 3, .int .i64 1] 3)) := (Below.refl _ _).alloc (Nat.le_refl _) _
  refine (refEqual_any _ _ _ A3 _ n3 d3 _ _ [3, 1] [3, 1] (il6.out.step hb7) (IS.two w6 3 1 ⟨by omega, by omega⟩ ⟨by omega, by omega⟩)).mono ?_
  rintro e w8 ⟨rfl, hd8⟩
  have b8 := hb7.trans (hd8.below _)
  have c8 := (b8.cell (p := ⟨w5.heap.size, 0, none⟩) s6).trans c6
  have iy8 := Lib.hid (iy6.out.step b8)
  have B8 := Lib.hid (bstep B6.out b8)
  rw [decide_eq_true (show ([3, 1] : List Int) = [3, 1] from rfl)]
  clear c6 b6 b8 hd8 hb7 hw6
  go_wp2_with fail
  have hb9 : Below w8.heap.size w8 (w8.alloc (.cells #[.int .i64 1, .int .i64 2] 3)) := (Below.refl _ _).alloc (Nat.le_refl _) _
  refine (refEqual_any _ _ _ A5 _ n5 d5 _ _ [1, 2] [1, 2] (iy8.out.step hb9) (IS.two w8 1 2 ⟨by omega, by omega⟩ ⟨by omega, by omega⟩)).mono ?_
  rintro e w10 ⟨rfl, hd10⟩
  rw [decide_eq_true (show ([1, 2] : List Int) = [1, 2] from rfl)]
  have B10 := Lib.hid (bstep B8.out (hb9.trans (hd10.below _)))
  clear c8 hb9 hd10
  go_wp2
  go_ret
  exact ⟨rfl, B10.out⟩
end Go.Proofs.Ythobfbnopkbniaa
