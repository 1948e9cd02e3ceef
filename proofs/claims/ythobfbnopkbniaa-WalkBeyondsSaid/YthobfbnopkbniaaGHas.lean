/-
  The contracts of slices.BinarySearch at []int and of graph.Has, for a list that rises; no other conditions.
-/
import Derived.Test.YthobfbnopkbniaaGIn
namespace Go.Proofs.Ythobfbnopkbniaa
open Go.RowKit

theorem cmpNaN_any (w : World) (x : Int) : Calls Try.prog 96 #[.int .i64 x] w fun e w' => e = .returned (.bool false) ∧ w = w' := by
  have hx : (x != x) = false := by simp
  go_enter Try.func96, Try.ntmps96
  go_wp2
  go_ret
  exact ⟨rfl, rfl⟩
theorem slicesNaN_any (w : World) (x : Int) : Calls Try.prog 93 #[.int .i64 x] w fun e w' => e = .returned (.bool false) ∧ w = w' := by
  have hx : (x != x) = false := by simp
  go_enter Try.func93, Try.ntmps93
  go_wp2
  go_ret
  exact ⟨rfl, rfl⟩
theorem less_any (w : World) (x y : Int) : Calls Try.prog 92 #[.int .i64 x, .int .i64 y] w fun e w' => e = .returned (.bool (decide (x < y))) ∧ w = w' := by
  go_enter Try.func92, Try.ntmps92
  go_wp2_with (go_at_call 96; refine (cmpNaN_any _ _).mono ?_; rintro e w' ⟨rfl, rfl⟩)
  go_ret
  exact ⟨rfl, rfl⟩

theorem sorted_lt {xs : List Int} (hp : xs.Pairwise (· < ·)) {i j : Nat} (hij : i < j) (hj : j < xs.length) : xs.getD i 0 < xs.getD j 0 := by
  have := List.pairwise_iff_getElem.1 hp i j (by omega) hj hij
  rwa [getD_idx (by omega), getD_idx hj]

set_option maxHeartbeats 4000000 in
set_option maxRecDepth 1000000 in
theorem bsearch_any (w : World) (B : Nat) (A : Option Addr) (n c : Nat) (xs : List Int) (x : Int) (h : IS w B A n c xs) (hs : n ≤ 1000000) (hp : xs.Pairwise (· < ·)) :
    Calls Try.prog 86 #[.slice A n c, .int .i64 x] w fun e w' => (∃ i : Int, e = .returned (.tuple #[.int .i64 i, .bool (decide (x ∈ xs))])) ∧ w = w' := by
  have hn := h.le
  have hc := h.cap
  have HL := Lib.hid h.len
  have HP := Lib.hid hp
  clear hp
  go_enter Try.func86, Try.ntmps86
  go_wp2
  go_loop [7, 8] (fun i j => ∃ a b : Nat, a ≤ b ∧ b ≤ n ∧ i = .int .i64 a ∧ j = .int .i64 b ∧ (∀ q, q < a → xs.getD q 0 < x) ∧ (∀ q, b ≤ q → q < n → x ≤ xs.getD q 0)) (fun i j => (intOf j).toNat - (intOf i).toNat)
  case atStart => exact ⟨0, n, Nat.zero_le _, Nat.le_refl _, rfl, rfl, fun q hq => absurd hq (by omega), fun q h1 h2 => absurd h2 (by omega)⟩
  case round =>
    obtain ⟨lo, hi, hab, hbn, rfl, rfl, h1, h2⟩ := hrel
    have H1 := Lib.hid h1
    have H2 := Lib.hid h2
    clear h1 h2
    by_cases hlt : lo < hi
    · have hmn : (lo + hi) / 2 < n := by omega
      obtain ⟨b, o, y, rfl, hb, hy, hy64, hcy⟩ := h.get hmn
      have HH := Lib.hid h
      clear h
      by_cases hyx : y < x
      · go_wp2_with (go_at_call 92; refine (less_any _ _ _).mono ?_; rintro e w' ⟨rfl, rfl⟩)
        go_round
        case rel =>
          refine ⟨(lo + hi) / 2 + 1, hi, by omega, hbn, by rw [show ((lo : Int) + (hi : Int)) / 2 + 1 = (((lo + hi) / 2 + 1 : Nat) : Int) by omega], rfl, fun q hq => ?_, H2.out⟩
          rcases Nat.lt_or_ge q ((lo + hi) / 2) with hq' | hq'
          · have := sorted_lt HP.out hq' (by rw [HL.out]; exact hmn)
            rw [hy.out] at this
            omega
          · obtain rfl : q = (lo + hi) / 2 := by omega
            rw [hy.out]; exact hyx
        case measure => simp [intOf]; omega
      · go_wp2_with (go_at_call 92; refine (less_any _ _ _).mono ?_; rintro e w' ⟨rfl, rfl⟩)
        go_round
        case rel =>
          refine ⟨lo, (lo + hi) / 2, by omega, by omega, rfl, by rw [show ((lo : Int) + (hi : Int)) / 2 = (((lo + hi) / 2 : Nat) : Int) by omega], H1.out, fun q hq hqn => ?_⟩
          rcases Nat.lt_or_ge ((lo + hi) / 2) q with hq' | hq'
          · have := sorted_lt HP.out hq' (by rw [HL.out]; exact hqn)
            rw [hy.out] at this
            omega
          · obtain rfl : q = (lo + hi) / 2 := by omega
            rw [hy.out]; omega
        case measure => simp [intOf]; omega
    · obtain rfl : hi = lo := by omega
      by_cases hin : hi < n
      · obtain ⟨b, o, y, rfl, hb, hy, hy64, hcy⟩ := h.get hin
        have hmem : Hid (y ∈ xs) := Lib.hid (hy.out ▸ h.mem hin)
        have HH := Lib.hid h
        clear h
        by_cases hyx : y = x
        · have hyx' : (y == x) = true := by simp [hyx]
          have hd : Hid (decide (x ∈ xs) = true) := Lib.hid (decide_eq_true (hyx ▸ hmem.out))
          have HX := Lib.hid hyx
          clear hyx
          go_wp2_with (go_at_call 93; refine (slicesNaN_any _ _).mono ?_; rintro e w' ⟨rfl, rfl⟩)
          go_ret2
          refine ⟨⟨(hi : Int), ?_⟩, rfl⟩
          rw [hd.out]
          rfl
        · have hyx' : (y == x) = false := by simp [hyx]
          have hd : Hid (decide (x ∈ xs) = false) := Lib.hid (decide_eq_false fun hm => by
            obtain ⟨q, hq, e⟩ := List.getElem_of_mem hm
            rw [← getD_idx hq] at e
            rcases Nat.lt_trichotomy q hi with hqh | rfl | hqh
            · have := H1.out q hqh
              omega
            · exact hyx (hy.out.symm.trans e)
            · have := sorted_lt HP.out hqh hq
              have h3 := H2.out hi (Nat.le_refl _) hin
              rw [hy.out] at this h3
              omega)
          clear hyx
          go_wp2_with (go_at_call 93; refine (slicesNaN_any _ _).mono ?_; rintro e w' ⟨rfl, rfl⟩)
          go_ret2
          refine ⟨⟨(hi : Int), ?_⟩, rfl⟩
          rw [hd.out]
          rfl
      · have hd : Hid (decide (x ∈ xs) = false) := Lib.hid (decide_eq_false fun hm => by
          obtain ⟨q, hq, e⟩ := List.getElem_of_mem hm
          rw [← getD_idx hq] at e
          have := H1.out q (by have := HL.out; omega)
          omega)
        go_wp2
        go_ret2
        refine ⟨⟨(hi : Int), ?_⟩, rfl⟩
        rw [hd.out]
        rfl

theorem has_any (w : World) (B : Nat) (A : Option Addr) (n c : Nat) (xs : List Int) (x : Int) (h : IS w B A n c xs) (hs : n ≤ 1000000) (hp : xs.Pairwise (· < ·)) :
    Calls Try.prog 65 #[.slice A n c, .int .i64 x] w fun e w' => e = .returned (.bool (decide (x ∈ xs))) ∧ w = w' := by
  go_enter Try.func65, Try.ntmps65
  go_wp2_with fail
  refine (bsearch_any w B A n c xs x h hs hp).mono ?_
  rintro e w' ⟨⟨i, rfl⟩, rfl⟩
  go_wp2
  go_ret
  exact ⟨rfl, rfl⟩

end Go.Proofs.Ythobfbnopkbniaa
