/-
  The contract of ref07.Key. No conditions.
-/
import Derived.Test.YthobfbnopkbniaaVFRefW
namespace Go.Proofs.Ythobfbnopkbniaa
open Go.RowKit

set_option maxHeartbeats 4000000 in
set_option maxRecDepth 100000 in
theorem refKey_any (w : World) (B : Nat) (A : Option Addr) (n c : Nat) (L : List (Int × List Int)) (d : Int) (h : WS w B A n c L) :
    Calls Try.prog 60 #[.slice A n c, .int .i64 d] w fun e w' => e = .returned (keyVal (keyOf L d)) ∧ w = w' := by
  have hn := h.le
  have hc := h.cap
  go_enter Try.func60, Try.ntmps60
  go_wp2
  go_loop [6] (fun i => ∃ k : Nat, k ≤ n ∧ i = .int .i64 k ∧ Hid (∀ j, j < k → ¬ ((L.getD j (0, [])).1 = d ∨ d ∈ (L.getD j (0, [])).2))) (fun i => n - (intOf i).toNat)
  case atStart => exact ⟨0, Nat.zero_le _, rfl, Lib.hid fun j hj => absurd hj (by omega)⟩
  case round =>
    obtain ⟨k, hk, rfl, hnot⟩ := hrel
    by_cases hlt : k < n
    · have hlen := Lib.hid h.len
      obtain ⟨b, o, y, t, A', n', c', rfl, hb, hgd, hy, hc0, hc1, his⟩ := h.get hlt
      have hk0 : (0 : Int) ≤ (k : Int) := by omega
      by_cases hyd : y = d
      · have hyd' : (y == d) = true := beq_iff_eq.2 hyd
        have HYD := Lib.hid hyd
        clear hyd
        go_wp2
        go_ret2
        refine ⟨?_, rfl⟩
        rw [keyOf_at (k := k) (by have := hlen.out; omega) (.inl (by rw [hgd.out]; exact HYD.out)) hnot.out, hgd.out]
        rfl
      · have hyd' : (y == d) = false := beq_eq_false_iff_ne.2 hyd
        have HYD := Lib.hid hyd
        clear hyd
        go_wp2_with fail
        refine (in_any w B A' n' c' t d his).mono ?_
        rintro e w6 ⟨rfl, rfl⟩
        by_cases hdt : d ∈ t
        · have hdt' : decide (d ∈ t) = true := decide_eq_true hdt
          have HDT := Lib.hid hdt
          rw [hdt']
          clear hdt hdt'
          go_wp2
          go_ret2
          refine ⟨?_, rfl⟩
          rw [keyOf_at (k := k) (by have := hlen.out; omega) (.inr (by rw [hgd.out]; exact HDT.out)) hnot.out, hgd.out]
          rfl
        · have hdt' : decide (d ∈ t) = false := decide_eq_false hdt
          have HDT := Lib.hid hdt
          rw [hdt']
          clear hdt hdt'
          go_wp2
          go_round
          case rel =>
            refine ⟨k + 1, by omega, by go_num, Lib.hid fun j hj => ?_⟩
            rcases Nat.lt_or_ge j k with hjk | hjk
            · exact hnot.out j hjk
            · obtain rfl : j = k := by omega
              rw [hgd.out]
              exact fun h => h.elim HYD.out HDT.out
          case measure => simp [intOf]; omega
    · have hl := h.len
      go_wp2
      go_ret2
      refine ⟨?_, rfl⟩
      rw [keyOf_none fun j hj => hnot.out j (by omega)]
      rfl
end Go.Proofs.Ythobfbnopkbniaa
