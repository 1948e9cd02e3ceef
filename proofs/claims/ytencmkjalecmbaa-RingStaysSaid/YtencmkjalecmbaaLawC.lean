/-
  The walk of the law RingStays: it answers true and turns nothing that was there; no conditions.
-/
import Derived.Test.YtencmkjalecmbaaRingG
namespace Go.Proofs.Ytencmkjalecmbaa
open Go.RowKit

set_option maxHeartbeats 1000000 in
theorem law_RingStays (w : World) (A : Option Addr) (n c : Nat) (xs : List Int) (x : Int) (hx : I64 x) (h : IS w w.heap.size A n c xs) :
    Calls Try.prog 6 #[.slice A n c, .int .i64 x] w fun e w' => e = .returned (.bool true) ∧ Below w.heap.size w w' := by
  have hn := h.le
  have hc := h.cap
  have HL := Lib.hid h.len
  by_cases hs : n ≤ 100
  · rcases fnd_cases xs x with ⟨hf, _⟩ | ⟨k, hf, hk, hkx, _⟩
    · have HF := Lib.hid hf
      clear hf
      go_enter Try.func6, Try.ntmps6
      go_wp2_with fail
      refine (awake_any w).mono ?_
      rintro e w1 ⟨rfl, b1⟩
      have h1 := (h.below b1).more b1.size
      go_wp2_with fail
      have b0 : Below w1.heap.size w1 (w1.alloc (.cells ([x].map (Value.int .i64)).toArray 3)) := (Below.refl _ _).alloc (Nat.le_refl _) _
      refine (put_no _ _ A n c xs x _ (h1.below b0) HF.out).mono ?_
      rintro e w2 ⟨A2, n2, c2, rfl, s2, b2⟩
      replace b2 := b0.trans (b2.mono b0.size)
      have h2 := (h1.below b2).more b2.size
      replace b1 := b1.trans (b2.mono b1.size)
      clear b0 b2 h1 s2
      go_wp2_with fail
      refine (from_no w2 _ A n c xs x h2 HF.out).mono ?_
      rintro e w3 ⟨A3, n3, c3, rfl, s3, b3⟩
      have h3 := (h2.below b3).more b3.size
      replace b1 := b1.trans (b3.mono b1.size)
      clear b3 h2 s3
      go_wp2_with fail
      refine (keep_all w3 A n c xs h3 (by omega)).mono ?_
      rintro e w4 ⟨A4, n4, c4, rfl, s4, b4⟩
      have h4 := (h3.below b4).more b4.size
      replace b1 := b1.trans (b4.mono b1.size)
      go_wp2_with fail
      refine (refEqual_any _ _ _ _ _ _ _ _ _ _ _ s4 h4).mono ?_
      rintro e w5 ⟨rfl, d5⟩
      rw [decide_eq_true rfl]
      replace b1 := b1.trans (d5.below _)
      clear b4 h3 s4 h4 d5
      go_wp2
      go_ret
      exact ⟨rfl, b1⟩
    · rw [HL.out] at hk
      have HF := Lib.hid hf
      have HX := Lib.hid hkx
      clear hf hkx
      have hput : Hid (xs.take k ++ [x] ++ xs.drop (k + 1) = xs) := Lib.hid (by
        rw [← take_getD (by rw [HL.out]; exact hk) HX.out, List.take_append_drop])
      have hhead : Hid ((turn xs k).getD 0 0 = x) := Lib.hid (by
        rw [turn_getD (by rw [HL.out]; exact hk) (by rw [HL.out]; omega), Nat.add_zero, Nat.mod_eq_of_lt (by rw [HL.out]; exact hk)]; exact HX.out)
      go_enter Try.func6, Try.ntmps6
      go_wp2_with fail
      refine (awake_any w).mono ?_
      rintro e w1 ⟨rfl, b1⟩
      have h1 := (h.below b1).more b1.size
      go_wp2_with fail
      have b0 : Below w1.heap.size w1 (w1.alloc (.cells ([x].map (Value.int .i64)).toArray 3)) := (Below.refl _ _).alloc (Nat.le_refl _) _
      refine (put_yes _ A n c xs x _ 1 1 [x] k ((h1.below b0).more (by simp)) ((IS.lit w1 [x] 1 rfl (by omega) (by simpa using hx)).more (by simp)) hk HF.out (by omega) (by omega)).mono ?_
      rintro e w2 ⟨A2, n2, c2, rfl, s2, b2⟩
      rw [hput.out] at s2
      replace b2 := b0.trans (b2.mono b0.size)
      have h2 := (h1.below b2).more b2.size
      replace b1 := b1.trans (b2.mono b1.size)
      clear b0 b2 h1
      go_wp2_with fail
      refine (from_yes w2 A n c xs x k h2 hk HF.out (by omega)).mono ?_
      rintro e w3 ⟨A3, n3, c3, rfl, s3, b3⟩
      have h3 := (h2.below b3).more b3.size
      have p3 := (s2.below b3).more b3.size
      replace b1 := b1.trans (b3.mono b1.size)
      clear b3 h2 s2
      obtain rfl : n3 = n := by have := s3.len; rw [turn_length, HL.out] at this; exact this.symm
      go_wp2_with fail
      refine (keep_all w3 A n3 c xs h3 (by omega)).mono ?_
      rintro e w4 ⟨A4, n4, c4, rfl, s4, b4⟩
      have h4 := (h3.below b4).more b4.size
      have p4 := (p3.below b4).more b4.size
      have q4 := (s3.below b4).more b4.size
      replace b1 := b1.trans (b4.mono b1.size)
      clear s3 p3 h3
      go_wp2_with fail
      refine (refEqual_any _ _ _ _ _ _ _ _ _ _ _ s4 h4).mono ?_
      rintro e w5 ⟨rfl, d5⟩
      rw [decide_eq_true rfl]
      have b5 := d5.below w4.heap.size
      have h5 := (h4.below b5).more b5.size
      have p5 := (p4.below b5).more b5.size
      have q5 := (q4.below b5).more b5.size
      replace b1 := b1.trans (b5.mono b1.size)
      clear b4 s4 h4 d5 b5 p4 q4
      go_wp2_with fail
      refine (refEqual_any _ _ _ _ _ _ _ _ _ _ _ p5 h5).mono ?_
      rintro e w6 ⟨rfl, d6⟩
      rw [decide_eq_true rfl]
      have q6 := q5.below (d6.below _)
      replace b1 := b1.trans (d6.below _)
      clear h5 p5 q5 d6
      obtain ⟨b, o, z, rfl, hb, hz, hz64, hcx⟩ := q6.get (k := 0) (by omega)
      rw [Nat.add_zero] at hcx
      have hzx : z = x := hz.out.symm.trans hhead.out
      subst hzx
      go_wp2
      go_ret
      exact ⟨rfl, b1⟩
  · go_enter Try.func6, Try.ntmps6
    go_wp2_with fail
    refine (awake_any w).mono ?_
    rintro e w1 ⟨rfl, b1⟩
    go_wp2_with fail
    refine (awake_any w1).mono ?_
    rintro e w2 ⟨rfl, b2⟩
    go_wp2
    go_ret
    exact ⟨rfl, b1.trans (b2.mono b1.size)⟩

end Go.Proofs.Ytencmkjalecmbaa
