/-
  The walk of the law RingSteps: it answers true and turns nothing that was there; no conditions.
-/
import Derived.Test.YtencmkjalecmbaaRingG
import Derived.Test.YtencmkjalecmbaaPlainB
namespace Go.Proofs.Ytencmkjalecmbaa
open Go.RowKit

theorem prev_next {k n : Nat} (hk : k < n) : ((k + 1) % n + n - 1) % n = k := by
  by_cases h : k + 1 = n
  · rw [h, Nat.mod_self, Nat.mod_eq_of_lt (by omega)]; omega
  · rw [Nat.mod_eq_of_lt (show k + 1 < n by omega), Nat.mod_eq_sub_mod (by omega), Nat.mod_eq_of_lt (by omega)]; omega

set_option maxHeartbeats 2000000 in
set_option maxRecDepth 100000 in
theorem law_RingSteps (w : World) (A : Option Addr) (n c : Nat) (xs : List Int) (x : Int) (h : IS w w.heap.size A n c xs) :
    Calls Try.prog 4 #[.slice A n c, .int .i64 x] w fun e w' => e = .returned (.bool true) ∧ Below w.heap.size w w' := by
  have hn := h.le
  have hc := h.cap
  have HL := Lib.hid h.len
  by_cases hs : n ≤ 100
  · by_cases hd : xs.Nodup
    · rcases fnd_cases xs x with ⟨hf, _⟩ | ⟨k, hf, hk, hkx, _⟩
      · have HF := Lib.hid hf
        clear hf
        go_enter Try.func4, Try.ntmps4
        go_wp2_with fail
        refine (awake_any w).mono ?_
        rintro e w1 ⟨rfl, b1⟩
        have h1 := (h.below b1).more b1.size
        go_wp2_with fail
        refine (right_yes w1 A n c xs h1 (by omega) hd).mono ?_
        rintro e w2 ⟨rfl, b2⟩
        have h2 := (h1.below b2).more b2.size
        replace b1 := b1.trans (b2.mono b1.size)
        clear h1 b2
        go_wp2_with fail
        refine (after_no w2 _ A n c xs x h2 HF.out).mono ?_
        rintro e w3 ⟨rfl, rfl⟩
        go_wp2_with fail
        refine (before_no w2 _ A n c xs x h2 HF.out).mono ?_
        rintro e w3 ⟨rfl, rfl⟩
        go_wp2_with fail
        refine (from_no w2 _ A n c xs x h2 HF.out).mono ?_
        rintro e w3 ⟨A3, n3, c3, rfl, s3, b3⟩
        obtain rfl : n3 = 0 := s3.len.symm
        go_wp2
        go_ret
        exact ⟨rfl, b1.trans (b3.mono b1.size)⟩
      · rw [HL.out] at hk
        have hkm : (k + 1) % n < n := Nat.mod_lt _ (by omega)
        have HF := Lib.hid hf
        have HX := Lib.hid hkx
        have HN := Lib.hid hd
        obtain ⟨y, hy⟩ : ∃ y, xs.getD ((k + 1) % n) 0 = y := ⟨_, rfl⟩
        have hfy : Hid (fnd xs y = ((k + 1) % n : Nat)) := Lib.hid (by rw [← hy]; exact fnd_nodup hd (by rw [HL.out]; exact hkm))
        have hyx : Hid (xs.getD (((k + 1) % n + n - 1) % n) 0 = x) := Lib.hid (by rw [prev_next hk]; exact hkx)
        have HY := Lib.hid hy
        clear hf hkx hy
        go_enter Try.func4, Try.ntmps4
        go_wp2_with fail
        refine (awake_any w).mono ?_
        rintro e w1 ⟨rfl, b1⟩
        have h1 := (h.below b1).more b1.size
        go_wp2_with fail
        refine (right_yes w1 A n c xs h1 (by omega) hd).mono ?_
        clear hd
        rintro e w2 ⟨rfl, b2⟩
        have h2 := (h1.below b2).more b2.size
        replace b1 := b1.trans (b2.mono b1.size)
        clear h1 b2
        go_wp2_with fail
        refine (after_yes w2 _ A n c xs x k h2 hk HF.out (by omega)).mono ?_
        rintro e w3 ⟨rfl, rfl⟩
        rw [HY.out]
        go_wp2_with fail
        refine (before_yes w2 _ A n c xs y ((k + 1) % n) h2 hkm hfy.out (by omega)).mono ?_
        rintro e w3 ⟨rfl, rfl⟩
        rw [hyx.out]
        go_wp2_with fail
        refine (from_yes w2 A n c xs x k h2 hk HF.out (by omega)).mono ?_
        rintro e w3 ⟨A3, n3, c3, rfl, s3, b3⟩
        obtain rfl : n3 = n := by have := s3.len; rw [turn_length, HL.out] at this; exact this.symm
        have h3 := (h2.below b3).more b3.size
        replace b1 := b1.trans (b3.mono b1.size)
        clear h2 b3
        have hc3 := s3.le
        have hc4 := s3.cap
        obtain ⟨b, o, z, rfl, hb, hz, hz64, hcx⟩ := s3.get (k := 0) (by omega)
        rw [Nat.add_zero] at hcx
        have hzx : z = x := by
          rw [← hz.out, turn_getD (by rw [HL.out]; exact hk) (by rw [HL.out]; omega), Nat.add_zero, Nat.mod_eq_of_lt (by rw [HL.out]; exact hk)]; exact HX.out
        subst hzx
        go_wp2
        go_loop [15] (fun i => ∃ j : Nat, j < n3 ∧ i = .int .i64 j) (fun i => n3 - (intOf i).toNat)
        case atStart => exact ⟨0, by omega, rfl⟩
        case round =>
          obtain ⟨j, hj, rfl⟩ := hrel
          by_cases hlt : j + 1 < n3
          · obtain ⟨b', o', u, hA', hb', hu, hu64, hcu⟩ := s3.get hj
            injection hA' with hA'
            injection hA' with hA1 hA2
            subst hA1
            subst hA2
            obtain ⟨b', o', v, hA', hb', hv, hv64, hcv⟩ := s3.get hlt
            injection hA' with hA'
            injection hA' with hA1 hA2
            subst hA1
            subst hA2
            have hkj : (k + j) % n3 < n3 := Nat.mod_lt _ (by omega)
            have hu' := Lib.hid ((turn_getD (xs := xs) (q := k) (i := j) (by rw [HL.out]; exact hk) (by rw [HL.out]; exact hj)).symm.trans hu.out)
            have hv' := Lib.hid ((turn_getD (xs := xs) (q := k) (i := j + 1) (by rw [HL.out]; exact hk) (by rw [HL.out]; exact hlt)).symm.trans hv.out)
            rw [HL.out] at hu' hv'
            have hfu : Hid (fnd xs u = ((k + j) % n3 : Nat)) := Lib.hid (by rw [← hu'.out]; exact fnd_nodup HN.out (by rw [HL.out]; exact hkj))
            have huv : Hid (xs.getD (((k + j) % n3 + 1) % n3) 0 = v) := Lib.hid (by rw [Nat.mod_add_mod, Nat.add_assoc]; exact hv'.out)
            have hcv' : w3.cell? ⟨b, o + j + 1, none⟩ = some (.int .i64 v) := hcv
            go_wp2_with (go_at_call 13; refine (after_yes w3 _ A n3 c xs u ((k + j) % n3) h3 hkj hfu.out (by omega)).mono ?_; rintro e w4 ⟨rfl, rfl⟩; rw [huv.out])
            go_round
            case rel => exact ⟨j + 1, hlt, by go_num⟩
            case measure => simp [intOf]; omega
          · go_wp2
            go_ret
            exact ⟨rfl, b1⟩
    · go_enter Try.func4, Try.ntmps4
      go_wp2_with fail
      refine (awake_any w).mono ?_
      rintro e w1 ⟨rfl, b1⟩
      have h1 := (h.below b1).more b1.size
      go_wp2_with fail
      refine (right_no w1 A n c xs h1 (by omega) hd).mono ?_
      rintro e w2 ⟨rfl, b2⟩
      go_wp2_with fail
      refine (awake_any w2).mono ?_
      rintro e w3 ⟨rfl, b3⟩
      go_wp2
      go_ret
      exact ⟨rfl, (b1.trans (b2.mono b1.size)).trans (b3.mono (Nat.le_trans b1.size b2.size))⟩
  · go_enter Try.func4, Try.ntmps4
    go_wp2_with fail
    refine (awake_any w).mono ?_
    rintro e w1 ⟨rfl, b1⟩
    go_wp2_with fail
    refine (awake_any w1).mono ?_
    rintro e w2 ⟨rfl, b2⟩
    go_wp2
    go_ret
    exact ⟨rfl, b1.trans (b2.mono b1.size)⟩

end Go.Proofs.Ytencmkjalecmbaa
