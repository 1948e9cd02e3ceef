/-
  The contract of graph.Right; no conditions.
-/
import Derived.Test.YthobfbnopkbniaaGRight
namespace Go.Proofs.Ythobfbnopkbniaa
open Go.RowKit

set_option maxHeartbeats 2000000 in
set_option maxRecDepth 100000 in
theorem gRight_any (w : World) (B : Nat) (N : Int) (A : Option Addr) (m c : Nat) (es : List (Int × Int)) (hg : ES w B A m c es) (hB : B ≤ w.heap.size) (hN : I64 N) :
    Calls Try.prog 83 #[.agg #[.int .i64 N, .slice A m c]] w fun e w' => e = .returned (.int .i64 (gRight N es)) ∧ Below w.heap.size w w' := by
  have hm := hg.le
  have hc := hg.cap
  have HL := Lib.hid hg.len
  have hN0 := hN.1
  have hN1 := hN.2
  obtain ⟨w1, hw1, b1, hs1, hcell⟩ := box_one w #[.int .i64 N, .slice A m c] 24
  have c0 : w1.cell? ⟨w.heap.size, 0, none⟩ = some (.int .i64 N) := hcell 0
  have c1 : w1.cell? ⟨w.heap.size, 1, none⟩ = some (.slice A m c) := hcell 1
  have hg1 := hg.below (b1.mono hB)
  clear hcell
  by_cases h0 : N < 0
  · go_enter Try.func83, Try.ntmps83
    go_wp2
    go_ret
    exact ⟨ret_int (gRight_neg h0).symm, b1⟩
  by_cases h1 : 1024 < N
  · go_enter Try.func83, Try.ntmps83
    go_wp2
    go_ret
    exact ⟨ret_int (gRight_large (by omega) (by omega)).symm, b1⟩
  by_cases h3 : 1024 - N < m
  · go_enter Try.func83, Try.ntmps83
    go_wp2
    go_ret
    exact ⟨ret_int (gRight_large (by omega) (by have := HL.out; omega)).symm, b1⟩
  have H3 := Lib.hid h3
  have hmm : m ≤ 1024 := by omega
  go_enter Try.func83, Try.ntmps83
  go_wp2
  clear hw1
  go_loopw [23] (fun i wr => ∃ k : Nat, k ≤ m ∧ i = .int .i64 k ∧ (∀ j, j < k → EIn N (es.getD j (0, 0))) ∧ Below w1.heap.size w1 wr) (fun i _ => m - (intOf i).toNat)
  case atStart => exact ⟨0, Nat.zero_le _, rfl, fun j hj => absurd hj (by omega), Below.refl _ _⟩
  case round =>
    obtain ⟨k, hk, rfl, hj, hb2⟩ := hrel
    have HJ := Lib.hid hj
    clear hj
    by_cases hlt : k < m
    · obtain ⟨b, o, x, y, rfl, hb, he, hx64, hy64, hcx, hcy⟩ := (hg1.below (hb2.mono (Nat.le_trans hB (Nat.le_of_lt hs1)))).get hlt
      have d0 : wr.cell? ⟨w.heap.size, 0, none⟩ = some (.int .i64 N) := (hb2.cell (p := ⟨w.heap.size, 0, none⟩) hs1).trans c0
      have hkl : Hid (k < es.length) := Lib.hid (by rw [HL.out]; exact hlt)
      have HH := Lib.hid hg
      have HG := Lib.hid hg1
      clear hg hg1
      have hsz : w1.heap.size ≤ wr.heap.size := hb2.size
      obtain ⟨w2, hw2, b2, hs2, hcell2⟩ := box_one wr #[.int .i64 x, .int .i64 y] 86
      have e0 : w2.cell? ⟨wr.heap.size, 0, none⟩ = some (.int .i64 x) := hcell2 0
      have e1 : w2.cell? ⟨wr.heap.size, 1, none⟩ = some (.int .i64 y) := hcell2 1
      have e2 : w2.cell? ⟨w.heap.size, 0, none⟩ = some (.int .i64 N) := (b2.cell (p := ⟨w.heap.size, 0, none⟩) (Nat.lt_of_lt_of_le hs1 hsz)).trans d0
      have hbl : Hid (Below w.heap.size w w2) := Lib.hid ((b1.trans (hb2.mono (Nat.le_of_lt hs1))).trans (b2.mono (Nat.le_of_lt (Nat.lt_of_lt_of_le hs1 hsz))))
      have hbl2 : Hid (Below w1.heap.size w1 w2) := Lib.hid (hb2.trans (b2.mono hsz))
      have bad : Hid (¬ EIn N (x, y) → gRight N es = 3) := Lib.hid (gRight_bad (by omega) (by have := HL.out; have := H3.out; omega) hkl.out he.out)
      clear hcell2 b2 hb2
      by_cases k1 : x < 0
      · go_wp2
        go_ret
        exact ⟨ret_int (bad.out fun h => by have := h.1; simp only at this; omega).symm, hbl.out⟩
      by_cases k2 : N ≤ x
      · go_wp2
        go_ret
        exact ⟨ret_int (bad.out fun h => by have := h.2.1; simp only at this; omega).symm, hbl.out⟩
      by_cases k3 : y < 0
      · go_wp2
        go_ret
        exact ⟨ret_int (bad.out fun h => by have := h.2.2.1; simp only at this; omega).symm, hbl.out⟩
      by_cases k4 : N ≤ y
      · go_wp2
        go_ret
        exact ⟨ret_int (bad.out fun h => by have := h.2.2.2; simp only at this; omega).symm, hbl.out⟩
      go_wp2
      go_roundw
      case rel =>
        refine ⟨k + 1, by omega, by go_num, fun j hj => ?_, hbl2.out⟩
        rcases Nat.lt_or_ge j k with hjk | hjk
        · exact HJ.out j hjk
        · obtain rfl : j = k := by omega
          rw [he.out]
          exact ⟨by simp only; omega, by simp only; omega, by simp only; omega, by simp only; omega⟩
      case measure => simp [intOf]; omega
    · obtain rfl : k = m := by omega
      go_wp2
      go_ret
      exact ⟨ret_int (gRight_fine (by omega) (by have := HL.out; have := H3.out; omega) fun j hj => HJ.out j (by rw [← HL.out]; exact hj)).symm, b1.trans (hb2.mono (Nat.le_of_lt hs1))⟩

end Go.Proofs.Ythobfbnopkbniaa
