/-
  The contract of traceryref04.Right; no conditions.
-/
import Derived.Test.YthobfbnopkbniaaGIn
namespace Go.Proofs.Ythobfbnopkbniaa
open Go.RowKit

theorem gRight_neg {N : Int} {es : List (Int × Int)} (h : N < 0) : gRight N es = 3 := by unfold gRight; rw [if_pos h]
theorem gRight_large {N : Int} {es : List (Int × Int)} (h0 : ¬ N < 0) (h : 1024 < N + es.length) : gRight N es = 2 := by unfold gRight; rw [if_neg h0, if_pos h]
theorem gRight_bad {N : Int} {es : List (Int × Int)} {k : Nat} {e : Int × Int} (h0 : ¬ N < 0) (h1 : ¬ 1024 < N + es.length) (hk : k < es.length) (he : es.getD k (0, 0) = e) (hb : ¬ EIn N e) : gRight N es = 3 := by
  unfold gRight
  rw [if_neg h0, if_neg h1, if_neg]
  intro h
  rw [List.getD_eq_getElem?_getD, List.getElem?_eq_getElem hk] at he
  exact hb (he ▸ h _ (List.getElem_mem hk))
theorem gRight_fine {N : Int} {es : List (Int × Int)} (h0 : ¬ N < 0) (h1 : ¬ 1024 < N + es.length) (h : ∀ k, k < es.length → EIn N (es.getD k (0, 0))) : gRight N es = 0 := by
  unfold gRight
  rw [if_neg h0, if_neg h1, if_pos]
  intro e he
  obtain ⟨k, hk, rfl⟩ := List.getElem_of_mem he
  have := h k hk
  rwa [List.getD_eq_getElem?_getD, List.getElem?_eq_getElem hk] at this

set_option maxHeartbeats 2000000 in
set_option maxRecDepth 100000 in
theorem refRight_any (w : World) (B : Nat) (N : Int) (A : Option Addr) (m c : Nat) (es : List (Int × Int)) (hg : ES w B A m c es) (hB : B ≤ w.heap.size) (hN : I64 N) :
    Calls Try.prog 71 #[.agg #[.int .i64 N, .slice A m c]] w fun e w' => e = .returned (.int .i64 (gRight N es)) ∧ Below w.heap.size w w' := by
  have hm := hg.le
  have hc := hg.cap
  have HL := Lib.hid hg.len
  have hN0 := hN.1
  have hN1 := hN.2
  obtain ⟨w1, hw1, b1, hs1, hcell⟩ := box_one w #[.int .i64 N, .slice A m c] 24
  have c0 : w1.cell? ⟨w.heap.size, 0, none⟩ = some (.int .i64 N) := hcell 0
  have c1 : w1.cell? ⟨w.heap.size, 1, none⟩ = some (.slice A m c) := hcell 1
  have hg1 := hg.below (b1.mono hB)
  clear hcell
  by_cases h0 : N < 0
  · go_enter Try.func71, Try.ntmps71
    go_wp2
    go_ret
    exact ⟨ret_int (gRight_neg h0).symm, b1⟩
  by_cases h1 : 1024 < N
  · go_enter Try.func71, Try.ntmps71
    go_wp2
    go_ret
    exact ⟨ret_int (gRight_large (by omega) (by omega)).symm, b1⟩
  by_cases h2 : 1024 < m
  · go_enter Try.func71, Try.ntmps71
    go_wp2
    go_ret
    exact ⟨ret_int (gRight_large (by omega) (by have := HL.out; omega)).symm, b1⟩
  by_cases h3 : 1024 < N + m
  · go_enter Try.func71, Try.ntmps71
    go_wp2
    go_ret
    exact ⟨ret_int (gRight_large (by omega) (by have := HL.out; omega)).symm, b1⟩
  have H3 := Lib.hid h3
  go_enter Try.func71, Try.ntmps71
  go_wp2
  clear hw1
  go_loopw [3] (fun i wr => ∃ k : Nat, k ≤ m ∧ i = .int .i64 k ∧ (∀ j, j < k → EIn N (es.getD j (0, 0))) ∧ Drawn w1 wr) (fun i _ => m - (intOf i).toNat)
  case atStart => exact ⟨0, Nat.zero_le _, rfl, fun j hj => absurd hj (by omega), Drawn.refl _⟩
  case round =>
    obtain ⟨k, hk, rfl, hj, n0, rfl⟩ := hrel
    have HJ := Lib.hid hj
    clear hj
    have hbl : Hid (Below w.heap.size w (w1.drewN n0)) := Lib.hid (b1.trans ((Drawn.of w1 n0).below _))
    by_cases hlt : k < m
    · obtain ⟨b, o, x, y, rfl, hb, he, hx64, hy64, hcx, hcy⟩ := hg1.get hlt
      have hkl : Hid (k < es.length) := Lib.hid (by rw [HL.out]; exact hlt)
      have HH := Lib.hid hg
      have HG := Lib.hid hg1
      clear hg hg1
      have bad : Hid (¬ EIn N (x, y) → gRight N es = 3) := Lib.hid (gRight_bad (by omega) (by have := HL.out; have := H3.out; omega) hkl.out he.out)
      by_cases k1 : x < 0
      · have d1 : decide (x < 0) = true := by simp [k1]
        go_wp2
        go_quiet (fail)
        go_wp2
        go_ret
        exact ⟨ret_int (bad.out fun h => by have := h.1; simp only at this; omega).symm, hbl.out.trans ((Drawn.of _ nq).below _)⟩
      have d1 : decide (x < 0) = false := by simp; omega
      by_cases k2 : N ≤ x
      · have d2 : decide (N ≤ x) = true := by simp [k2]
        go_wp2
        go_quiet (fail)
        go_wp2
        go_ret
        exact ⟨ret_int (bad.out fun h => by have := h.2.1; simp only at this; omega).symm, hbl.out.trans ((Drawn.of _ nq).below _)⟩
      have d2 : decide (N ≤ x) = false := by simp; omega
      by_cases k3 : y < 0
      · have d3 : decide (y < 0) = true := by simp [k3]
        go_wp2
        go_quiet (fail)
        go_wp2
        go_ret
        exact ⟨ret_int (bad.out fun h => by have := h.2.2.1; simp only at this; omega).symm, hbl.out.trans ((Drawn.of _ nq).below _)⟩
      have d3 : decide (y < 0) = false := by simp; omega
      by_cases k4 : N ≤ y
      · have d4 : decide (N ≤ y) = true := by simp [k4]
        go_wp2
        go_quiet (fail)
        go_wp2
        go_ret
        exact ⟨ret_int (bad.out fun h => by have := h.2.2.2; simp only at this; omega).symm, hbl.out.trans ((Drawn.of _ nq).below _)⟩
      have d4 : decide (N ≤ y) = false := by simp; omega
      go_wp2
      go_quiet (fail)
      go_wp2
      go_roundw
      case rel =>
        refine ⟨k + 1, by omega, by go_num, fun j hj => ?_, Drawn.of w1 _⟩
        rcases Nat.lt_or_ge j k with hjk | hjk
        · exact HJ.out j hjk
        · obtain rfl : j = k := by omega
          rw [he.out]
          exact ⟨by simp only; omega, by simp only; omega, by simp only; omega, by simp only; omega⟩
      case measure => simp [intOf]; omega
    · obtain rfl : k = m := by omega
      go_wp2
      go_ret
      exact ⟨ret_int (gRight_fine (by omega) (by have := HL.out; have := H3.out; omega) fun j hj => HJ.out j (by rw [← HL.out]; exact hj)).symm, hbl.out⟩

end Go.Proofs.Ythobfbnopkbniaa
