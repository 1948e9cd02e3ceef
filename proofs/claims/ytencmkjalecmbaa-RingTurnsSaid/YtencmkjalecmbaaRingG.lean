/-
  The contract of ring.Same where the lists are one ring; the law's awake answers true; no conditions.
-/
import Derived.Test.YtencmkjalecmbaaRingE
import Derived.Test.YtencmkjalecmbaaRingF
namespace Go.Proofs.Ytencmkjalecmbaa
open Go.RowKit

/-- 'x[:r]', as a run: for a region that draws its order. -/
theorem cut_hi_run {w : World} {B n c : Nat} {A : Option Addr} {xs : List Int} (h : IS w B A n c xs) (r : Int) (h0 : 0 ≤ r) (hr : r ≤ n) :
    ∃ A' n' c', (∀ W, (Instr.sliceAt 22 (.slice A n c) none (some (.int .i64 r)) none).run Try.prog W = .ok (.slice A' n' c') W) ∧
      (∀ W, (Instr.slice 22 (.slice A n c) none (some (.int .i64 r)) none).run Try.prog W = .ok (.slice A' n' c') W) ∧ IS w B A' n' c' (xs.take r.toNat) := by
  have hn := h.le
  have hlen := h.len
  have hrc : r ≤ c := by omega
  obtain ⟨A', hrun, his⟩ := run_cut h none (some (.int .i64 r)) none 0 r.toNat c (fun W => by simp [Instr.sliceBounds, Instr.sliceBound, asIntOf, h0, hrc]) (by omega) (by omega) (by omega) (Nat.le_refl _)
  refine ⟨A', _, _, hrun, fun W => ?_, by simpa using his⟩
  rw [← hrun W]
  simp [Instr.sliceAt, run_underlying Try.underlying22]
/-- 'x[l:]', as a run. -/
theorem cut_lo_run {w : World} {B n c : Nat} {A : Option Addr} {xs : List Int} (h : IS w B A n c xs) (l : Int) (h0 : 0 ≤ l) (hl : l ≤ n) :
    ∃ A' n' c', (∀ W, (Instr.sliceAt 22 (.slice A n c) (some (.int .i64 l)) none none).run Try.prog W = .ok (.slice A' n' c') W) ∧
      (∀ W, (Instr.slice 22 (.slice A n c) (some (.int .i64 l)) none none).run Try.prog W = .ok (.slice A' n' c') W) ∧ IS w B A' n' c' (xs.drop l.toNat) := by
  have hn := h.le
  have hlen := h.len
  obtain ⟨A', hrun, his⟩ := run_cut h (some (.int .i64 l)) none none l.toNat n c (fun W => by simp [Instr.sliceBounds, Instr.sliceBound, asIntOf, h0, hl]) (by omega) (Nat.le_refl _) hn (Nat.le_refl _)
  rw [List.take_of_length_le (by omega)] at his
  refine ⟨A', _, _, hrun, fun W => ?_, his⟩
  rw [← hrun W]
  simp [Instr.sliceAt, run_underlying Try.underlying22]

theorem IS.lit (w : World) (xs : List Int) (n : Nat) (hn : xs.length = n) (hs : n ≤ 1000000) (hx : ∀ x ∈ xs, I64 x) :
    IS (w.alloc (.cells (xs.map (Value.int .i64)).toArray 3)) (w.heap.size + 1) (some ⟨w.heap.size, 0, none⟩) n n xs := by
  refine ⟨hn, Nat.le_refl _, by omega, hx, fun _ => ⟨_, 0, rfl, by omega, fun j hj => ?_⟩⟩
  rw [Nat.zero_add, cell_of_row _ w.heap.size j _ _ _ (heap_alloc_new w _), getD_idx (by omega)]
  rw [List.getElem?_toArray, List.getElem?_map, List.getElem?_eq_getElem (by omega)]
  rfl

set_option maxHeartbeats 1000000 in
theorem awake_any (w : World) : Calls Try.prog 8 #[] w fun e w' => e = .returned (.bool true) ∧ Below w.heap.size w w' := by
  have l1 : labels [5, 5, 7, 5] = [5, 7] := by decide
  have l2 : labels [5, 7, 5, 7] = [5, 7, 5, 7] := by decide
  have l3 : first [3, 1, 2] = [1, 2, 3] := by decide
  have L1 := Lib.hid l1
  have L2 := Lib.hid l2
  have L3 := Lib.hid l3
  clear l1 l2 l3
  go_enter Try.func8, Try.ntmps8
  go_wp2_with fail
  have i1 := IS.lit w [5, 5, 7, 5] 4 rfl (by omega) (by simp [I64])
  have b0 : Below w.heap.size w (w.alloc (.cells ([5, 5, 7, 5].map (Value.int .i64)).toArray 3)) := (Below.refl _ _).alloc (Nat.le_refl _) _
  refine (labels_any _ _ 4 4 [5, 5, 7, 5] (i1.more (by simp)) (by omega)).mono ?_
  intro e w1 hp
  rw [L1.out] at hp
  obtain ⟨A1, n1, c1, rfl, s1, b1⟩ := hp.1 (by decide)
  replace b1 := b0.trans (b1.mono b0.size)
  clear hp i1 b0
  go_wp2_with fail
  have i1 := IS.lit w1 [5, 7, 5, 7] 4 rfl (by omega) (by simp [I64])
  have b0 : Below w1.heap.size w1 (w1.alloc (.cells ([5, 7, 5, 7].map (Value.int .i64)).toArray 3)) := (Below.refl _ _).alloc (Nat.le_refl _) _
  refine (labels_any _ _ 4 4 [5, 7, 5, 7] (i1.more (by simp)) (by omega)).mono ?_
  intro e w2 hp
  rw [L2.out] at hp
  obtain ⟨A2, n2, c2, rfl, s2, b2⟩ := hp.2 (by decide)
  replace b2 := b0.trans (b2.mono b0.size)
  replace s1 := s1.below b2
  replace b1 := b1.trans (b2.mono b1.size)
  replace s1 := s1.more b2.size
  clear hp i1 b0 b2
  go_wp2_with fail
  have i1 := IS.lit w2 [3, 1, 2] 3 rfl (by omega) (by simp [I64])
  have b0 : Below w2.heap.size w2 (w2.alloc (.cells ([3, 1, 2].map (Value.int .i64)).toArray 3)) := (Below.refl _ _).alloc (Nat.le_refl _) _
  refine (first_any _ _ 3 3 [3, 1, 2] (i1.more (by simp)) (by omega)).mono ?_
  rintro e w3 ⟨A3, n3, c3, rfl, s3, b3⟩
  rw [L3.out] at s3
  replace b3 := b0.trans (b3.mono b0.size)
  replace s1 := s1.below b3
  replace b1 := b1.trans (b3.mono b1.size)
  replace s1 := s1.more b3.size
  clear i1 b0 b3
  go_wp2_with fail
  have i1 := IS.lit w3 [1, 2, 3] 3 rfl (by omega) (by simp [I64])
  have b0 : Below w3.heap.size w3 (w3.alloc (.cells ([1, 2, 3].map (Value.int .i64)).toArray 3)) := (Below.refl _ _).alloc (Nat.le_refl _) _
  refine (refEqual_any _ _ _ _ _ _ _ _ _ _ _ (s3.below b0) i1).mono ?_
  rintro e w4 ⟨rfl, d4⟩
  rw [show decide (([1, 2, 3] : List Int) = [1, 2, 3]) = true from rfl]
  have b4 := b0.trans ((d4.below _).mono b0.size)
  replace s1 := s1.below b4
  replace b1 := b1.trans (b4.mono b1.size)
  replace s1 := s1.more b4.size
  clear i1 b0 b4 d4 s3
  go_wp2_with fail
  have i1 := IS.lit w4 [5, 7] 2 rfl (by omega) (by simp [I64])
  have b0 : Below w4.heap.size w4 (w4.alloc (.cells ([5, 7].map (Value.int .i64)).toArray 3)) := (Below.refl _ _).alloc (Nat.le_refl _) _
  refine (refEqual_any _ _ _ _ _ _ _ _ _ _ _ (s1.below b0) i1).mono ?_
  rintro e w5 ⟨rfl, d5⟩
  rw [show decide (([5, 7] : List Int) = [5, 7]) = true from rfl]
  have b5 := b0.trans ((d5.below _).mono b0.size)
  replace b1 := b1.trans (b5.mono b1.size)
  clear i1 b0 b5 d5 s1
  go_wp2_with fail
  have i1 := IS.lit w5 [1, 2, 3] 3 rfl (by omega) (by simp [I64])
  have b0 : Below w5.heap.size w5 (w5.alloc (.cells ([1, 2, 3].map (Value.int .i64)).toArray 3)) := (Below.refl _ _).alloc (Nat.le_refl _) _
  refine (order_yes _ _ 3 3 [1, 2, 3] 2 3 1 1 1 2 (i1.more (by simp)) (by omega) rfl rfl rfl (by omega) (by decide) (by decide) (by decide) (by omega) (by omega)).mono ?_
  rintro e w6 ⟨rfl, b6⟩
  replace b6 := b0.trans (b6.mono b0.size)
  replace b1 := b1.trans (b6.mono b1.size)
  clear i1 b0 b6
  go_wp2
  go_ret
  exact ⟨rfl, b1⟩

end Go.Proofs.Ytencmkjalecmbaa
