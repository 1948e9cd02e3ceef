/-
  The contract of traceryref05.Far where a vertex is not of the part; and the number that it answers, over a search by distance. No conditions on the program.
-/
import Derived.Test.YthobfbnopkbniaaWRef
import Derived.Test.YthobfbnopkbniaaWWay
namespace Go.Proofs.Ythobfbnopkbniaa
open Go.RowKit

set_option maxHeartbeats 4000000 in
set_option maxRecDepth 100000 in
theorem refFar_no (w : World) (N : Int) (A : Option Addr) (m c : Nat) (es : List (Int × Int)) (Av : Option Addr) (nv cv : Nat) (vs : List Int) (Ae : Option Addr) (ne ce : Nat) (xs : List Int) (a b : Int) (h : GP w N A m c es Av nv cv vs Ae ne ce xs) (hno : ¬ (a ∈ vs ∧ b ∈ vs)) :
    Calls Try.prog 29 #[.agg #[.int .i64 N, .slice A m c], .agg #[.slice Av nv cv, .slice Ae ne ce], .int .i64 a, .int .i64 b] w fun e w' => e = .returned (.int .i64 (-1)) ∧ Below w.heap.size w w' := by
  obtain ⟨w1, hw1, b1, gb1⟩ := box_gp w N A m c es Av nv cv Ae ne ce
  have h1 := h.step b1
  clear h
  have ⟨hgl, hpl, c0, c1, c2, c3, _⟩ := gb1
  have H1 := Lib.hid h1
  clear h1 gb1
  by_cases ha : a ∈ vs
  · have HB : Hid (b ∉ vs) := Lib.hid fun hb => hno ⟨ha, hb⟩
    have HA := Lib.hid ha
    clear ha hno
    go_enter Try.func29, Try.ntmps29
    go_wp2_with fail
    refine (in_yes w1 _ Av nv cv vs a H1.out.v HA.out).mono ?_
    rintro e w2 ⟨rfl, rfl⟩
    go_wp2_with fail
    refine (in_no w1 _ Av nv cv vs b H1.out.v HB.out).mono ?_
    rintro e w2 ⟨rfl, rfl⟩
    go_wp2
    go_ret
    exact ⟨rfl, b1⟩
  · have HA := Lib.hid ha
    clear ha hno
    go_enter Try.func29, Try.ntmps29
    go_wp2_with fail
    refine (in_no w1 _ Av nv cv vs a H1.out.v HA.out).mono ?_
    rintro e w2 ⟨rfl, rfl⟩
    go_wp2
    go_ret
    exact ⟨rfl, b1⟩

section
variable {N : Int} {es : List (Int × Int)} {vs xs ms : List Int} {a b r : Int} {f : Int → Option Int}
/-- How far, by a search from the other end; -1: there is no way. -/
def farN (f : Int → Option Int) (a : Int) : Int := (f a).getD (-1)
theorem far_back (hp : POK N es vs xs) (hri : RI es xs (-1) b vs f ms ms.length) (h : FarIs es xs vs a b r) : r = farN f a := by
  rcases h with ⟨n, rfl, hw, hm⟩ | ⟨rfl, hn⟩
  · have := (hri.dist.some_iff a n).2 ⟨n, rfl, hw.back hp, fun j hj hw' => hm j hj (hw'.back hp)⟩
    unfold farN
    rw [this]
    rfl
  · unfold farN
    cases hf : f a with
    | none => rfl
    | some q =>
      obtain ⟨n, rfl, hw⟩ := hri.way a q hf
      have h1 := hri.small a ((hri.mem a).2 (by rw [hf]; rfl))
      rw [val_of hf] at h1
      have h2 := hri.len
      exact absurd (hw.back hp) (hn n (by omega))
end
theorem refFar_val (w : World) (N : Int) (A : Option Addr) (m c : Nat) (es : List (Int × Int)) (Av : Option Addr) (nv cv : Nat) (vs : List Int) (Ae : Option Addr) (ne ce : Nat) (xs : List Int) (a b : Int) (h : GP w N A m c es Av nv cv vs Ae ne ce xs) (hp : POK N es vs xs) (ha : a ∈ vs) (hb : b ∈ vs) {f : Int → Option Int} {ms : List Int} (hri : RI es xs (-1) b vs f ms ms.length) :
    Calls Try.prog 29 #[.agg #[.int .i64 N, .slice A m c], .agg #[.slice Av nv cv, .slice Ae ne ce], .int .i64 a, .int .i64 b] w fun e w' => e = .returned (.int .i64 (farN f a)) ∧ Below w.heap.size w w' :=
  (refFar_yes w N A m c es Av nv cv vs Ae ne ce xs a b h hp ha hb).mono fun e w' ⟨⟨r, he, hf⟩, hbl⟩ => ⟨by rw [he, far_back hp hri hf], hbl⟩
end Go.Proofs.Ythobfbnopkbniaa
