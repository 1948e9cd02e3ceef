/-
  The walk of the law RingLabels: it answers true and turns nothing that was there; no conditions.
-/
import Derived.Test.YtencmkjalecmbaaRingG
namespace Go.Proofs.Ytencmkjalecmbaa
open Go.RowKit

set_option maxHeartbeats 1000000 in
theorem law_RingLabels (w : World) (A : Option Addr) (n c : Nat) (xs : List Int) (h : IS w w.heap.size A n c xs) :
    Calls Try.prog 3 #[.slice A n c] w fun e w' => e = .returned (.bool true) ∧ Below w.heap.size w w' := by
  have hn := h.le
  have hc := h.cap
  by_cases hs : n ≤ 100
  · go_enter Try.func3, Try.ntmps3
    go_wp2_with fail
    refine (awake_any w).mono ?_
    rintro e w1 ⟨rfl, b1⟩
    have h1 := (h.below b1).more b1.size
    go_wp2_with fail
    refine (labels_any w1 A n c xs h1 (by omega)).mono ?_
    intro e w2 hp
    by_cases hd : (labels xs).Nodup
    · obtain ⟨A2, n2, c2, rfl, s2, b2⟩ := hp.1 hd
      have h2 := (h1.below b2).more b2.size
      go_wp2_with fail
      refine (refLabels_any w2 A n c xs h2 (by omega)).mono ?_
      intro e w3 hp3
      obtain ⟨A3, n3, c3, rfl, s3, b3⟩ := hp3.1 hd
      clear hp hp3
      go_wp2_with fail
      refine (refEqual_any _ _ _ _ _ _ _ _ _ _ _ (s2.below b3) s3).mono ?_
      rintro e w4 ⟨rfl, d4⟩
      rw [decide_eq_true rfl]
      go_wp2
      go_ret
      exact ⟨rfl, ((b1.trans (b2.mono b1.size)).trans (b3.mono (Nat.le_trans b1.size b2.size))).trans (d4.below _)⟩
    · obtain ⟨A2, n2, c2, rfl, s2, b2⟩ := hp.2 hd
      have h2 := (h1.below b2).more b2.size
      go_wp2_with fail
      refine (refLabels_any w2 A n c xs h2 (by omega)).mono ?_
      intro e w3 hp3
      obtain ⟨A3, n3, c3, rfl, s3, b3⟩ := hp3.2 hd
      clear hp hp3
      go_wp2_with fail
      refine (refEqual_any _ _ _ _ _ _ _ _ _ _ _ (s2.below b3) s3).mono ?_
      rintro e w4 ⟨rfl, d4⟩
      rw [decide_eq_true rfl]
      go_wp2
      go_ret
      exact ⟨rfl, ((b1.trans (b2.mono b1.size)).trans (b3.mono (Nat.le_trans b1.size b2.size))).trans (d4.below _)⟩
  · go_enter Try.func3, Try.ntmps3
    go_wp2_with fail
    refine (awake_any w).mono ?_
    rintro e w1 ⟨rfl, b1⟩
    go_wp2_with fail
    refine (awake_any w1).mono ?_
    rintro e w2 ⟨rfl, b2⟩
    go_wp2
    go_ret
    exact ⟨rfl, b1.trans (b2.mono b1.size)⟩

end Go.Proofs.Ytencmkjalecmbaa
