/-
  The contracts of package ring's About, Keep, After, Before, From, Put; no conditions.
-/
import Derived.Test.YtencmkjalecmbaaRingA
namespace Go.Proofs.Ytencmkjalecmbaa
open Go.RowKit

set_option maxHeartbeats 400000 in
theorem about_any (w : World) (A : Option Addr) (n c : Nat) (xs : List Int) (h : IS w w.heap.size A n c xs) (hs : n ≤ 1000000) :
    Calls Try.prog 24 #[.slice A n c] w (NewIS w xs.reverse) := by
  have hn := h.le
  have hc := h.cap
  have HL := Lib.hid h.len
  go_enter Try.func24, Try.ntmps24
  go_wp2_with (at_make; go_must (refine wpList_make_is (w0 := w) rfl _ _ rfl (Below.refl _ _) _ _ _ n rfl rfl rfl (by omega) ?_; intro v1 w1 ho1 _ _; have h1 := h.below ho1.below))
  go_loopw [3, 4] (fun v i wr => ∃ k : Nat, k ≤ n ∧ i = .int .i64 ((k : Int) - 1) ∧ Own w wr v (xs.drop k).reverse) (fun _ i _ => (intOf i + 1).toNat)
  case atStart => exact ⟨n, Nat.le_refl _, rfl, by rw [List.drop_of_length_le (Nat.le_of_eq HL.out)]; exact ho1⟩
  case round =>
    obtain ⟨k, hk, rfl, hown⟩ := hrel
    by_cases h0 : 0 < k
    · obtain ⟨j, rfl⟩ : ∃ j, k = j + 1 := ⟨k - 1, by omega⟩
      rw [show (((j + 1 : Nat) : Int) - 1) = (j : Int) from by omega]
      have hr := h.below hown.below
      obtain ⟨b, o, z, rfl, hb, hz, hz64, hcx⟩ := hr.get (k := j) (by omega)
      have hlen : (xs.drop (j + 1)).reverse.length ≤ n := by rw [List.length_reverse, List.length_drop]; have := HL.out; omega
      have HH := Lib.hid h
      clear h hr h1
      go_wp2_with (at_builtin; go_must (refine wpList_append_one rfl _ _ rfl rfl hown z hz64 rfl (by omega) ?_; intro v' w2 hown' _ _))
      go_roundw
      case rel => exact ⟨j, by omega, rfl, by rw [drop_getD (by have := HL.out; omega) hz.out, List.reverse_cons]; exact hown'⟩
      case measure => simp [intOf]
    · obtain rfl : k = 0 := by omega
      go_wp2
      go_ret
      obtain ⟨A2, n2, c2, rfl, his⟩ := hown.is
      exact ⟨_, _, _, rfl, by simpa using his, hown.below⟩

set_option maxHeartbeats 400000 in
theorem after_yes (w : World) (B : Nat) (A : Option Addr) (n c : Nat) (xs : List Int) (x : Int) (k : Nat) (h : IS w B A n c xs) (hk : k < n) (hf : fnd xs x = k) (hs : n ≤ 1000000) :
    Calls Try.prog 13 #[.slice A n c, .int .i64 x] w fun e w' => e = .returned (.tuple #[.int .i64 (xs.getD ((k + 1) % n) 0), .bool true]) ∧ w = w' := by
  have hn := h.le
  have hc := h.cap
  have hm : (k + 1) % n < n := Nat.mod_lt _ (by omega)
  obtain ⟨b, o, z, rfl, hb, hz, hz64, hcx⟩ := h.get hm
  have HH := Lib.hid h
  have HF := Lib.hid hf
  clear h hf
  have hm0 : (0 : Int) ≤ ((k : Int) + 1) % (n : Int) := Int.emod_nonneg _ (by omega)
  have hm1 : ((k : Int) + 1) % (n : Int) < n := Int.emod_lt_of_pos _ (by omega)
  go_enter Try.func13, Try.ntmps13
  go_wp2_with fail
  refine (index_any w B _ n c xs x HH.out).mono ?_
  rintro e w' ⟨rfl, rfl⟩
  rw [HF.out]
  go_wp2
  go_ret2
  rw [hz.out]
  exact ⟨rfl, rfl⟩

set_option maxHeartbeats 400000 in
theorem after_no (w : World) (B : Nat) (A : Option Addr) (n c : Nat) (xs : List Int) (x : Int) (h : IS w B A n c xs) (hf : fnd xs x = -1) :
    Calls Try.prog 13 #[.slice A n c, .int .i64 x] w fun e w' => e = .returned (.tuple #[.int .i64 0, .bool false]) ∧ w = w' := by
  have HF := Lib.hid hf
  clear hf
  go_enter Try.func13, Try.ntmps13
  go_wp2_with fail
  refine (index_any w B _ n c xs x h).mono ?_
  rintro e w' ⟨rfl, rfl⟩
  rw [HF.out]
  go_wp2
  go_ret2
  exact ⟨rfl, rfl⟩

set_option maxHeartbeats 400000 in
theorem before_yes (w : World) (B : Nat) (A : Option Addr) (n c : Nat) (xs : List Int) (x : Int) (k : Nat) (h : IS w B A n c xs) (hk : k < n) (hf : fnd xs x = k) (hs : n ≤ 1000000) :
    Calls Try.prog 14 #[.slice A n c, .int .i64 x] w fun e w' => e = .returned (.tuple #[.int .i64 (xs.getD ((k + n - 1) % n) 0), .bool true]) ∧ w = w' := by
  have hn := h.le
  have hc := h.cap
  have hm : (k + n - 1) % n < n := Nat.mod_lt _ (by omega)
  obtain ⟨b, o, z, rfl, hb, hz, hz64, hcx⟩ := h.get hm
  have HH := Lib.hid h
  have HF := Lib.hid hf
  clear h hf
  obtain ⟨m, hmm⟩ : ∃ m : Nat, k + n - 1 = m := ⟨_, rfl⟩
  rw [hmm] at hm hz hcx ⊢
  have HM : Hid ((k : Int) + (n : Int) - 1 = (m : Int)) := Lib.hid (by omega)
  clear hmm
  have hm0 : (0 : Int) ≤ (m : Int) % (n : Int) := Int.emod_nonneg _ (by omega)
  have hm1 : (m : Int) % (n : Int) < n := Int.emod_lt_of_pos _ (by omega)
  have hm2 : (0 : Int) ≤ (k : Int) + (n : Int) - 1 := by omega
  have hm3 := HM.out
  go_enter Try.func14, Try.ntmps14
  go_wp2_with fail
  refine (index_any w B _ n c xs x HH.out).mono ?_
  rintro e w' ⟨rfl, rfl⟩
  rw [HF.out]
  go_wp2
  go_ret2
  rw [hz.out]
  exact ⟨rfl, rfl⟩

set_option maxHeartbeats 400000 in
theorem before_no (w : World) (B : Nat) (A : Option Addr) (n c : Nat) (xs : List Int) (x : Int) (h : IS w B A n c xs) (hf : fnd xs x = -1) :
    Calls Try.prog 14 #[.slice A n c, .int .i64 x] w fun e w' => e = .returned (.tuple #[.int .i64 0, .bool false]) ∧ w = w' := by
  have HF := Lib.hid hf
  clear hf
  go_enter Try.func14, Try.ntmps14
  go_wp2_with fail
  refine (index_any w B _ n c xs x h).mono ?_
  rintro e w' ⟨rfl, rfl⟩
  rw [HF.out]
  go_wp2
  go_ret2
  exact ⟨rfl, rfl⟩

set_option maxHeartbeats 400000 in
theorem from_yes (w : World) (A : Option Addr) (n c : Nat) (xs : List Int) (x : Int) (k : Nat) (h : IS w w.heap.size A n c xs) (hk : k < n) (hf : fnd xs x = k) (hs : n ≤ 1000000) :
    Calls Try.prog 15 #[.slice A n c, .int .i64 x] w (NewIS2 w (turn xs k) true) := by
  have HF := Lib.hid hf
  clear hf
  go_enter Try.func15, Try.ntmps15
  go_wp2_with fail
  refine (index_any w _ _ n c xs x h).mono ?_
  rintro e w' ⟨rfl, rfl⟩
  rw [HF.out]
  go_wp2_with fail
  refine (turned_any w A n c xs k h (by omega) hs).mono ?_
  rintro e w' ⟨A1, n1, c1, rfl, his, hbl⟩
  go_wp2
  go_ret2
  exact ⟨A1, n1, c1, rfl, his, hbl⟩

set_option maxHeartbeats 400000 in
theorem from_no (w : World) (B : Nat) (A : Option Addr) (n c : Nat) (xs : List Int) (x : Int) (h : IS w B A n c xs) (hf : fnd xs x = -1) :
    Calls Try.prog 15 #[.slice A n c, .int .i64 x] w (NewIS2 w [] false) := by
  have HF := Lib.hid hf
  clear hf
  go_enter Try.func15, Try.ntmps15
  go_wp2_with fail
  refine (index_any w B _ n c xs x h).mono ?_
  rintro e w' ⟨rfl, rfl⟩
  rw [HF.out]
  go_wp2
  go_ret2
  exact ⟨none, 0, 0, rfl, IS.none_, Below.refl _ _⟩

set_option maxHeartbeats 400000 in
theorem put_no (w : World) (B : Nat) (A : Option Addr) (n c : Nat) (xs : List Int) (x : Int) (v : Value) (h : IS w B A n c xs) (hf : fnd xs x = -1) :
    Calls Try.prog 18 #[.slice A n c, .int .i64 x, v] w (NewIS2 w [] false) := by
  have HF := Lib.hid hf
  clear hf
  go_enter Try.func18, Try.ntmps18
  go_wp2_with fail
  refine (index_any w B _ n c xs x h).mono ?_
  rintro e w' ⟨rfl, rfl⟩
  rw [HF.out]
  go_wp2
  go_ret2
  exact ⟨none, 0, 0, rfl, IS.none_, Below.refl _ _⟩

set_option maxHeartbeats 400000 in
theorem put_yes (w : World) (A : Option Addr) (n c : Nat) (xs : List Int) (x : Int) (A' : Option Addr) (n' c' : Nat) (ys : List Int) (k : Nat) (h : IS w w.heap.size A n c xs) (h' : IS w w.heap.size A' n' c' ys)
    (hk : k < n) (hf : fnd xs x = k) (hs : n ≤ 1000000) (hs' : n' ≤ 1000000) :
    Calls Try.prog 18 #[.slice A n c, .int .i64 x, .slice A' n' c'] w (NewIS2 w (xs.take k ++ ys ++ xs.drop (k + 1)) true) := by
  have HF := Lib.hid hf
  clear hf
  have hn := h.le
  have hc := h.cap
  have hn' := h'.le
  have hc' := h'.cap
  have hlx : xs.length ≤ n := Nat.le_of_eq h.len
  have hly : ys.length ≤ n' := Nat.le_of_eq h'.len
  go_enter Try.func18, Try.ntmps18
  go_wp2_with fail
  refine (index_any w _ _ n c xs x h).mono ?_
  rintro e w' ⟨rfl, rfl⟩
  rw [HF.out]
  go_wp2_with (first
    | (at_make; go_must (refine wpList_make_is (w0 := w) rfl _ _ rfl (Below.refl _ _) _ _ _ (n - 1 + n') rfl rfl (by omega) (by omega) ?_; intro v1 w1 ho1 _ _; have h1 := h.below ho1.below))
    | (with_reducible show wpList _ _ _ (Oper.mk (some 25) _ _ _ _ _ :: _) _ _; go_must (refine wpList_cut_hi rfl _ _ rfl rfl h1 _ rfl (by omega) (by omega) ?_; intro A1 n1 c1 hs1; have hl1 : n1 ≤ n := by have := hs1.len; rw [List.length_take] at this; omega))
    | (with_reducible show wpList _ _ _ (Oper.mk (some 26) _ _ _ _ _ :: _) _ _; go_must (refine wpList_append_is rfl _ _ rfl rfl ho1 rfl hs1 (by simp only [List.length_nil]; omega) ?_; intro v2 w2 ho2 _ _; have h2 := h.below ho2.below; have h2' := h'.below ho2.below))
    | (with_reducible show wpList _ _ _ (Oper.mk (some 29) _ _ _ _ _ :: _) _ _; go_must (refine wpList_append_is rfl _ _ rfl rfl ho2 rfl h2' (by simp only [List.nil_append, List.length_take]; omega) ?_; intro v3 w3 ho3 _ _; have h3 := h.below ho3.below))
    | (with_reducible show wpList _ _ _ (Oper.mk (some 34) _ _ _ _ _ :: _) _ _; go_must (refine wpList_cut_lo rfl _ _ rfl rfl h3 _ rfl (by omega) (by omega) ?_; intro A2 n2 c2 hs2; have hl2 : n2 ≤ n := by have := hs2.len; rw [List.length_drop] at this; omega))
    | (with_reducible show wpList _ _ _ (Oper.mk (some 35) _ _ _ _ _ :: _) _ _; go_must (refine wpList_append_is rfl _ _ rfl rfl ho3 rfl hs2 (by simp only [List.nil_append, List.length_append, List.length_take]; omega) ?_; intro v4 w4 ho4 _ _)))
  go_ret2
  simp only [List.nil_append, Int.toNat_natCast] at ho4
  obtain ⟨A, n', c, rfl, his⟩ := ho4.is
  exact ⟨_, _, _, rfl, by simpa using his, ho4.below⟩

end Go.Proofs.Ytencmkjalecmbaa
