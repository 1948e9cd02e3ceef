/-
  The contract of traceryref04.Same. No conditions on the program.
-/
import Derived.Test.YthobfbnopkbniaaWEqual
import Derived.Test.YthobfbnopkbniaaGPartB
namespace Go.Proofs.Ythobfbnopkbniaa
open Go.RowKit

set_option maxHeartbeats 4000000 in
set_option maxRecDepth 100000 in
theorem refSame_any (w : World) (A1 A2 A3 A4 : Option Addr) (n1 c1 n2 c2 n3 c3 n4 c4 : Nat) (xs ys zs us : List Int) (i1 : IS w w.heap.size A1 n1 c1 xs) (i2 : IS w w.heap.size A2 n2 c2 ys) (i3 : IS w w.heap.size A3 n3 c3 zs) (i4 : IS w w.heap.size A4 n4 c4 us) :
    Calls Try.prog 47 #[.agg #[.slice A1 n1 c1, .slice A2 n2 c2], .agg #[.slice A3 n3 c3, .slice A4 n4 c4]] w fun e w' => e = .returned (.bool (decide (xs = zs ∧ ys = us))) ∧ Below w.heap.size w w' := by
  obtain ⟨w1, hw1, b1, s1, k1⟩ := box_one w #[.slice A1 n1 c1, .slice A2 n2 c2] 27
  obtain ⟨w2, hw2, b2, s2, k2⟩ := box_one w1 #[.slice A3 n3 c3, .slice A4 n4 c4] 27
  have p0 := (b2.cell (p := ⟨w.heap.size, 0, none⟩) s1).trans (k1 0)
  have p1 := (b2.cell (p := ⟨w.heap.size, 1, none⟩) s1).trans (k1 1)
  have p2 := k2 0
  have p3 := k2 1
  replace i1 := (i1.step b1).step b2
  replace i2 := (i2.step b1).step b2
  replace i3 := (i3.step b1).step b2
  replace i4 := (i4.step b1).step b2
  have hle : w.heap.size + 1 < w2.heap.size := by omega
  have B2 := Lib.hid (bstep b1 b2)
  have q2 := Lib.hid (show w1.heap.size < w2.heap.size from s2)
  have q1 := Lib.hid (show w.heap.size < w2.heap.size by omega)
  clear b1 b2 k1 k2 s1 s2 hle
  go_enter Try.func47, Try.ntmps47
  go_wp2_with fail
  refine (refEqual_any w2 _ _ A1 A3 n1 c1 n3 c3 xs zs i1 i3).mono ?_
  rintro e w3 ⟨rfl, hd⟩
  have b3 := hd.below w2.heap.size
  have p1' := (b3.cell (p := ⟨w.heap.size, 1, none⟩) q1.out).trans p1
  have p3' := (b3.cell (p := ⟨w1.heap.size, 1, none⟩) q2.out).trans p3
  have B3 := Lib.hid (bstep B2.out b3)
  replace i2 := i2.step b3
  replace i4 := i4.step b3
  clear p0 p1 p2 p3 i1 i3 hd b3
  by_cases hx : xs = zs
  · have HX := Lib.hid hx
    rw [decide_eq_true hx]
    clear hx
    go_wp2_with fail
    refine (refEqual_any w3 _ _ A2 A4 n2 c2 n4 c4 ys us i2 i4).mono ?_
    rintro e w4 ⟨rfl, hd⟩
    have b4 := hd.below w3.heap.size
    have HB := Lib.hid (bstep B3.out b4)
    obtain ⟨b, hb⟩ : ∃ b, decide (ys = us) = b := ⟨_, rfl⟩
    have HBB := Lib.hid hb
    rw [hb]
    clear hb hd b4 p1' p3' i2 i4
    go_wp2
    go_ret
    exact ⟨ret_bool (by rw [← HBB.out]; simp [HX.out]), HB.out⟩
  · have HX := Lib.hid hx
    rw [decide_eq_false hx]
    clear hx
    go_wp2
    go_ret
    exact ⟨ret_bool (by simp [HX.out]), B3.out⟩
end Go.Proofs.Ythobfbnopkbniaa
