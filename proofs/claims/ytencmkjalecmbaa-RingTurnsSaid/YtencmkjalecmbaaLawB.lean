/-
  The walk of the law RingTurns: it answers true and turns nothing that was there; no conditions.
-/
import Derived.Test.YtencmkjalecmbaaSame
import Derived.Test.YtencmkjalecmbaaPlainB
namespace Go.Proofs.Ytencmkjalecmbaa
open Go.RowKit

theorem sameR_of_turn (xs : List Int) (q : Nat) : SameR xs (turn xs (q % xs.length)) := by
  by_cases h : xs.length = 0
  · exact sameR_nil h (by rw [turn_length]; exact h)
  · exact sameR_turn (Nat.mod_lt _ (by omega))
theorem sameR_first (xs : List Int) : SameR (first xs) xs := by
  by_cases h : xs.length = 0
  · exact sameR_nil (by unfold first; rw [turn_length]; exact h) h
  · exact sameR_self_turn (least_end xs _ (by omega))
theorem sameR_reverse (xs : List Int) (q : Nat) : SameR xs.reverse (turn xs (q % xs.length)).reverse := by
  by_cases h : xs.length = 0
  · exact sameR_nil (by simpa using h) (by rw [List.length_reverse, turn_length]; exact h)
  · rw [turn_reverse]
    by_cases h0 : q % xs.length = 0
    · rw [h0]
      have : turn xs.reverse (xs.length - 0) = turn xs.reverse 0 := by
        unfold turn
        rw [List.drop_of_length_le (by simp), List.take_of_length_le (by simp)]
        simp
      rw [this]
      exact sameR_turn (by rw [List.length_reverse]; omega)
    · exact sameR_turn (by rw [List.length_reverse]; omega)

set_option maxHeartbeats 1000000 in
theorem law_RingTurns (w : World) (A : Option Addr) (n c : Nat) (xs : List Int) (at_ : Int) (ha0 : 0 ≤ at_) (ha1 : at_ ≤ 255) (h : IS w w.heap.size A n c xs) :
    Calls Try.prog 7 #[.slice A n c, .int .u8 at_] w fun e w' => e = .returned (.bool true) ∧ Below w.heap.size w w' := by
  have hn := h.le
  have hc := h.cap
  obtain ⟨q, rfl⟩ := Int.eq_ofNat_of_zero_le ha0
  by_cases hs : n ≤ 100
  · have e1 := Lib.hid (sameR_of_turn xs q)
    have e2 := Lib.hid (sameR_first xs)
    have e3 := Lib.hid (sameR_reverse xs q)
    rw [h.len] at e1 e3
    go_enter Try.func7, Try.ntmps7
    go_wp2_with fail
    refine (awake_any w).mono ?_
    rintro e w1 ⟨rfl, b1⟩
    have h1 := (h.below b1).more b1.size
    go_wp2_with fail
    refine (refTurned_any w1 A n c xs q h1 (by omega) (by omega)).mono ?_
    rintro e w2 ⟨A2, n2, c2, rfl, s2, b2⟩
    have h2 := (h1.below b2).more b2.size
    replace b1 := b1.trans (b2.mono b1.size)
    go_wp2_with fail
    refine (same_yes w2 _ _ A A2 n c n2 c2 _ _ h2 s2 (by omega) e1.out).mono ?_
    rintro e w3 ⟨rfl, d3⟩
    have b3 := d3.below w2.heap.size
    have h3 := (h2.below b3).more b3.size
    have s3 := (s2.below b3).more b3.size
    replace b1 := b1.trans (b3.mono b1.size)
    clear h1 b2 h2 s2 d3 b3
    go_wp2_with fail
    refine (first_any w3 A n c xs h3 (by omega)).mono ?_
    rintro e w4 ⟨A4, n4, c4, rfl, s4, b4⟩
    have hn4 : n4 ≤ 1000000 := by have h5 := s4.len; unfold first at h5; rw [turn_length, h.len] at h5; omega
    have h4 := (h3.below b4).more b4.size
    have s5 := (s3.below b4).more b4.size
    replace b1 := b1.trans (b4.mono b1.size)
    go_wp2_with fail
    refine (same_yes w4 _ _ A4 A n4 c4 n c _ _ s4 h4 hn4 e2.out).mono ?_
    rintro e w5 ⟨rfl, d5⟩
    have b5 := d5.below w4.heap.size
    have h5 := (h4.below b5).more b5.size
    have s6 := (s5.below b5).more b5.size
    replace b1 := b1.trans (b5.mono b1.size)
    clear h3 s3 b4 h4 s4 s5 d5 b5 hn4
    go_wp2_with fail
    refine (about_any w5 A n c xs h5 (by omega)).mono ?_
    rintro e w6 ⟨A6, n6, c6, rfl, t6, b6⟩
    have hn6 : n6 ≤ 1000000 := by have h7 := t6.len; rw [List.length_reverse, h.len] at h7; omega
    have h6 := (h5.below b6).more b6.size
    have s7 := (s6.below b6).more b6.size
    replace b1 := b1.trans (b6.mono b1.size)
    go_wp2_with fail
    refine (about_any w6 A6 n6 c6 _ t6 (by omega)).mono ?_
    rintro e w7 ⟨A7, n7, c7, rfl, t7, b7⟩
    rw [List.reverse_reverse] at t7
    have h7 := (h6.below b7).more b7.size
    have s8 := (s7.below b7).more b7.size
    replace b1 := b1.trans (b7.mono b1.size)
    clear h5 s6 b6 h6 s7 b7 t6 hn6
    go_wp2_with fail
    refine (refEqual_any _ _ _ _ _ _ _ _ _ _ _ t7 h7).mono ?_
    rintro e w8 ⟨rfl, d8⟩
    rw [decide_eq_true rfl]
    have b8 := d8.below w7.heap.size
    have h8 := (h7.below b8).more b8.size
    have s9 := (s8.below b8).more b8.size
    replace b1 := b1.trans (b8.mono b1.size)
    clear h7 s8 t7 d8 b8
    go_wp2_with fail
    refine (about_any w8 A n c xs h8 (by omega)).mono ?_
    rintro e w9 ⟨A9, n9, c9, rfl, t9, b9⟩
    have hn9 : n9 ≤ 1000000 := by have h7 := t9.len; rw [List.length_reverse, h.len] at h7; omega
    have s10 := (s9.below b9).more b9.size
    replace b1 := b1.trans (b9.mono b1.size)
    have hn2 : n2 ≤ 1000000 := by have h7 := s10.len; rw [turn_length, h.len] at h7; omega
    clear h8 s9 b9
    go_wp2_with fail
    refine (about_any w9 A2 n2 c2 _ s10 (by omega)).mono ?_
    rintro e w10 ⟨A10, n10, c10, rfl, t10, b10⟩
    have t11 := (t9.below b10).more b10.size
    replace b1 := b1.trans (b10.mono b1.size)
    clear s10 b10 t9
    go_wp2_with fail
    refine (same_yes w10 _ _ A9 A10 n9 c9 n10 c10 _ _ t11 t10 hn9 e3.out).mono ?_
    rintro e w11 ⟨rfl, d11⟩
    go_wp2
    go_ret
    exact ⟨rfl, b1.trans (d11.below _)⟩
  · go_enter Try.func7, Try.ntmps7
    go_wp2_with fail
    refine (awake_any w).mono ?_
    rintro e w1 ⟨rfl, b1⟩
    go_wp2_with fail
    refine (awake_any w1).mono ?_
    rintro e w2 ⟨rfl, b2⟩
    go_wp2
    go_ret
    exact ⟨rfl, b1.trans (b2.mono b1.size)⟩

end Go.Proofs.Ytencmkjalecmbaa
