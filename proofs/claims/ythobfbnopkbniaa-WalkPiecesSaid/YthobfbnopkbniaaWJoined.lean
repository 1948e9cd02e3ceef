/-
  The contract of walk.Joined. No conditions on the program.
-/
import Derived.Test.YthobfbnopkbniaaWPiece
namespace Go.Proofs.Ythobfbnopkbniaa
open Go.RowKit

set_option maxHeartbeats 4000000 in
set_option maxRecDepth 100000 in
theorem joined_any (w : World) (N : Int) (A : Option Addr) (m c : Nat) (es : List (Int × Int)) (Av : Option Addr) (nv cv : Nat) (vs : List Int) (Ae : Option Addr) (ne ce : Nat) (xs : List Int) (h : GP w N A m c es Av nv cv vs Ae ne ce xs) :
    Calls Try.prog 50 #[.agg #[.int .i64 N, .slice A m c], .agg #[.slice Av nv cv, .slice Ae ne ce]] w fun e w' => ∃ b, e = .returned (.bool b) ∧ (b = true ↔ pRight N es vs xs = 0 ∧ ∀ x ∈ vs, ∀ y ∈ vs, Hang es xs x y) ∧ Below w.heap.size w w' := by
  obtain ⟨w1, hw1, b1, gb1⟩ := box_gp w N A m c es Av nv cv Ae ne ce
  have h1 := h.step b1
  clear h
  go_enter Try.func50, Try.ntmps50
  have ⟨_, _, c0, c1, c2, c3, _⟩ := gb1
  go_wp2_with fail
  refine (pieces_any w1 N A m c es Av nv cv vs Ae ne ce xs h1).mono ?_
  rintro e w2 ⟨b2, hor⟩
  have B2 := Lib.hid (bstep b1 b2)
  clear c0 c1 c2 c3 gb1 b1 b2 h1 hw1
  rcases hor with ⟨hr, rfl⟩ | ⟨hr, v, n, f, u, F, rfl, hown, hpc, _⟩
  · obtain ⟨r, hrr⟩ : ∃ r, pRight N es vs xs = r := ⟨_, rfl⟩
    have HR0 := Lib.hid hr
    rw [hrr] at hr ⊢
    have hrb : (r == 0) = false := by simp [hr]
    clear hr hrr
    go_wp2
    go_ret
    exact ⟨false, rfl, ⟨fun hh => (by cases hh), fun hh => absurd hh.1 HR0.out⟩, B2.out⟩
  · obtain ⟨A1, c1, rfl⟩ := hown.len
    have HP := Lib.hid (hpc.one (pRight_ok hr))
    have hvl := (pRight_ok hr).lens.1
    have hnl := hpc.le
    have HR := Lib.hid hr
    clear hown hpc hr
    by_cases hn : n ≤ 1
    · have HN := Lib.hid hn
      have hn1 : (n : Int) ≤ 1 := by omega
      have d1 : decide ((n : Int) ≤ 1) = true := by simp; omega
      have d1' : decide (n ≤ 1) = true := by simp [hn]
      clear hn
      go_wp2
      go_ret
      exact ⟨true, rfl, by simp only [true_iff]; exact ⟨HR.out, HP.out.1 HN.out⟩, B2.out⟩
    · have HN := Lib.hid hn
      have hn1 : ¬ (n : Int) ≤ 1 := by omega
      have d1 : decide ((n : Int) ≤ 1) = false := by simp; omega
      have d1' : decide (n ≤ 1) = false := by simp; omega
      clear hn
      go_wp2
      go_ret
      exact ⟨false, rfl, by simp only [Bool.false_eq_true, false_iff]; exact fun hh => HN.out (HP.out.2 hh.2), B2.out⟩
end Go.Proofs.Ythobfbnopkbniaa
