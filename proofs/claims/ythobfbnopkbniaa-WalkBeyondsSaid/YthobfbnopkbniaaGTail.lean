/-
  The contracts of tracerylaw04.Small, traceryref04.Tail, Twin, Head, Darts; the dart is one of the graph's; no other conditions.
-/
import Derived.Test.YthobfbnopkbniaaGPart
namespace Go.Proofs.Ythobfbnopkbniaa
open Go.RowKit

set_option maxHeartbeats 2000000 in
set_option maxRecDepth 100000 in
theorem small_yes (w : World) (N : Int) (A : Option Addr) (m c : Nat) (es : List (Int × Int)) (Av : Option Addr) (nv cv : Nat) (vs : List Int) (Ae : Option Addr) (ne ce : Nat) (xs : List Int) (h : GP w N A m c es Av nv cv vs Ae ne ce xs) (hs : Small N m nv ne) :
    Calls Try.prog 26 #[.agg #[.int .i64 N, .slice A m c], .agg #[.slice Av nv cv, .slice Ae ne ce]] w fun e w' => e = .returned (.int .i64 1) ∧ Below w.heap.size w w' := by
  obtain ⟨w1, hw1, b1, gb1⟩ := box_gp w N A m c es Av nv cv Ae ne ce
  have ⟨_, _, c0, c1, c2, c3, _⟩ := gb1
  have hN0 := h.n.1
  have hN1 := h.n.2
  clear gb1 h
  obtain ⟨h1, h2, h3, h4⟩ := hs
  have k1 : decide ((60 : Int) < (m : Int)) = false := by simp; omega
  have k2 : decide ((60 : Int) < (nv : Int)) = false := by simp; omega
  have k3 : decide ((60 : Int) < (ne : Int)) = false := by simp; omega
  by_cases h5 : N ≤ 60
  · have k4 : decide ((60 : Int) < N) = false := by simp; omega
    clear h4
    go_enter Try.func26, Try.ntmps26
    go_wp2
    go_ret
    exact ⟨rfl, b1⟩
  · have k4 : decide ((60 : Int) < N) = true := by simp; omega
    have h6 : 1024 < N := by omega
    have k5 : decide (N ≤ 1024) = false := by simp; omega
    clear h4
    go_enter Try.func26, Try.ntmps26
    go_wp2
    go_ret
    exact ⟨rfl, b1⟩

set_option maxHeartbeats 2000000 in
set_option maxRecDepth 100000 in
theorem small_no (w : World) (N : Int) (A : Option Addr) (m c : Nat) (es : List (Int × Int)) (Av : Option Addr) (nv cv : Nat) (vs : List Int) (Ae : Option Addr) (ne ce : Nat) (xs : List Int) (h : GP w N A m c es Av nv cv vs Ae ne ce xs) (hs : ¬ Small N m nv ne) :
    Calls Try.prog 26 #[.agg #[.int .i64 N, .slice A m c], .agg #[.slice Av nv cv, .slice Ae ne ce]] w fun e w' => e = .returned (.int .i64 0) ∧ Below w.heap.size w w' := by
  obtain ⟨w1, hw1, b1, gb1⟩ := box_gp w N A m c es Av nv cv Ae ne ce
  have ⟨_, _, c0, c1, c2, c3, _⟩ := gb1
  have hN0 := h.n.1
  have hN1 := h.n.2
  have hs' : ¬ (m ≤ 60 ∧ nv ≤ 60 ∧ ne ≤ 60 ∧ (N ≤ 60 ∨ 1024 < N)) := hs
  clear gb1 h hs
  by_cases k1 : 60 < m
  · clear hs'
    go_enter Try.func26, Try.ntmps26
    go_wp2
    go_ret
    exact ⟨rfl, b1⟩
  by_cases k2 : 60 < nv
  · clear hs'
    go_enter Try.func26, Try.ntmps26
    go_wp2
    go_ret
    exact ⟨rfl, b1⟩
  by_cases k3 : 60 < ne
  · clear hs'
    go_enter Try.func26, Try.ntmps26
    go_wp2
    go_ret
    exact ⟨rfl, b1⟩
  have k4 : 60 < N := by omega
  have k5 : N ≤ 1024 := by omega
  clear hs'
  go_enter Try.func26, Try.ntmps26
  go_wp2
  go_ret
  exact ⟨rfl, b1⟩

set_option maxHeartbeats 1000000 in
theorem refTail_any (w : World) (B : Nat) (N : Int) (A : Option Addr) (m c : Nat) (es : List (Int × Int)) (d : Int) (hg : ES w B A m c es) (hB : B ≤ w.heap.size) (h0 : 0 ≤ d) (h1 : d < 2 * m) :
    Calls Try.prog 30 #[.agg #[.int .i64 N, .slice A m c], .int .i64 d] w fun e w' => e = .returned (.int .i64 (tail es d)) ∧ Below w.heap.size w w' := by
  have hm := hg.le
  have hc := hg.cap
  obtain ⟨q, rfl⟩ := Int.eq_ofNat_of_zero_le h0
  have hq : q / 2 < m := by omega
  obtain ⟨w1, hw1, b1, hs1, hcell⟩ := box_one w #[.int .i64 N, .slice A m c] 24
  have c1 : w1.cell? ⟨w.heap.size, 1, none⟩ = some (.slice A m c) := hcell 1
  obtain ⟨b, o, x, y, rfl, hb, hxy, hx64, hy64, hcx, hcy⟩ := (hg.below (b1.mono hB)).get hq
  have hen : Hid (ends es ((q : Int) / 2) = (x, y)) := Lib.hid (by unfold ends; rw [show ((q : Int) / 2).toNat = q / 2 from by omega]; exact hxy.out)
  have HH := Lib.hid hg
  clear hg hcell
  by_cases hp : q % 2 = 0
  · have hp' : ((q : Int) % 2 == 0) = true := by simp; omega
    have ht : Hid (tail es (q : Int) = x) := Lib.hid (by unfold tail; rw [if_pos (by omega), hen.out])
    clear hp
    go_enter Try.func30, Try.ntmps30
    go_wp2
    go_ret
    exact ⟨ret_int ht.out.symm, b1⟩
  · have hp' : ((q : Int) % 2 == 0) = false := by simp; omega
    have ht : Hid (tail es (q : Int) = y) := Lib.hid (by unfold tail; rw [if_neg (by omega), hen.out])
    clear hp
    go_enter Try.func30, Try.ntmps30
    go_wp2
    go_ret
    exact ⟨ret_int ht.out.symm, b1⟩

theorem twin_any (w : World) (d : Int) (h0 : 0 ≤ d) (h1 : d ≤ 1000000) :
    Calls Try.prog 49 #[.int .i64 d] w fun e w' => e = .returned (.int .i64 (twin d)) ∧ w = w' := by
  by_cases hp : d % 2 = 0
  · have ht : Hid (twin d = d + 1) := Lib.hid (by unfold twin; rw [if_pos hp])
    have hp' : (d % 2 == 0) = true := by simp [hp]
    clear hp
    go_enter Try.func49, Try.ntmps49
    go_wp2
    go_ret
    exact ⟨ret_int ht.out.symm, rfl⟩
  · have ht : Hid (twin d = d - 1) := Lib.hid (by unfold twin; rw [if_neg hp])
    have hp' : (d % 2 == 0) = false := by simp; omega
    clear hp
    go_enter Try.func49, Try.ntmps49
    go_wp2
    go_ret
    exact ⟨ret_int ht.out.symm, rfl⟩
theorem twin_range {d : Int} {m : Nat} (h0 : 0 ≤ d) (h1 : d < 2 * m) : 0 ≤ twin d ∧ twin d < 2 * m := by
  unfold twin
  split <;> omega

set_option maxHeartbeats 1000000 in
theorem refHead_any (w : World) (N : Int) (A : Option Addr) (m c : Nat) (es : List (Int × Int)) (d : Int) (hg : ES w w.heap.size A m c es) (hm : m ≤ 1024) (h0 : 0 ≤ d) (h1 : d < 2 * m) :
    Calls Try.prog 32 #[.agg #[.int .i64 N, .slice A m c], .int .i64 d] w fun e w' => e = .returned (.int .i64 (head es d)) ∧ Below w.heap.size w w' := by
  obtain ⟨w1, hw1, b1, hs1, hcell⟩ := box_one w #[.int .i64 N, .slice A m c] 24
  have c0 : w1.cell? ⟨w.heap.size, 0, none⟩ = some (.int .i64 N) := hcell 0
  have c1 : w1.cell? ⟨w.heap.size, 1, none⟩ = some (.slice A m c) := hcell 1
  have k0 := After.cell hs1 c0
  have k1 := After.cell hs1 c1
  have hg1 := hg.step b1
  have ⟨t0, t1⟩ := twin_range h0 h1
  obtain ⟨t, ht⟩ : ∃ t, twin d = t := ⟨_, rfl⟩
  rw [ht] at t0 t1
  have hn := After.has w1
  have HT : ∀ x : After w1, Hid (Calls Try.prog 49 #[.int .i64 d] x.at_ fun e w' => e = .returned (.int .i64 t) ∧ x.at_ = w') := fun x => Lib.hid (by rw [← ht]; exact twin_any _ d h0 (by omega))
  have HG : ∀ x : After w1, Hid (Calls Try.prog 30 #[.agg #[.int .i64 N, .slice A m c], .int .i64 t] x.at_ fun e w' => e = .returned (.int .i64 (tail es t)) ∧ Below x.at_.heap.size x.at_ w') := fun x =>
    Lib.hid (refTail_any _ _ N A m c es t (hg1.step x.below) (Nat.le_refl _) t0 t1)
  have HE : Hid (head es d = tail es t) := Lib.hid (by unfold head; rw [ht])
  clear hcell hg1 ht hg
  go_enter Try.func32, Try.ntmps32
  go_wp2_with fail
  refine wp_region_after (by kernel_rfl) (by kernel_rfl) ?_
  repeat (go_big_quiet_step ((first | (go_at_call 49; exact After.same (HT _).out) | (go_at_call 30; exact After.call (HG _).out))))
  refine wpQuiet_nil ?_
  intro _ hw'
  obtain ⟨x, rfl⟩ := hw'
  go_wp2
  go_ret
  exact ⟨ret_int HE.out.symm, bstep b1 x.below⟩

end Go.Proofs.Ythobfbnopkbniaa
