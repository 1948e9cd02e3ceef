/-
  The contract of ring.Same where the lists are one ring; no conditions.
-/
import Derived.Test.YtencmkjalecmbaaRingG
namespace Go.Proofs.Ytencmkjalecmbaa
open Go.RowKit

theorem quiet_eq {w W : World} {A A' : Option Addr} {B B' n c n' c' : Nat} {xs ys : List Int} {v : Bool} (h : IS w B A n c xs) (h' : IS w B' A' n' c' ys) (hv : decide (xs = ys) = v) (hd : Drawn w W) :
    Calls Try.prog 29 #[.slice A n c, .slice A' n' c'] W fun e w' => e = .returned (.bool v) ∧ ∃ m, w' = W.drewN m := by
  obtain ⟨k, rfl⟩ := hd
  refine (equal_any _ B B' A A' n c n' c' xs ys (h.drewN k) (h'.drewN k)).mono ?_
  rintro e w' ⟨rfl, m, rfl⟩
  rw [hv]
  exact ⟨rfl, m, rfl⟩

set_option maxHeartbeats 1000000 in
theorem same_yes (w : World) (B B' : Nat) (A A' : Option Addr) (n c n' c' : Nat) (xs ys : List Int) (h : IS w B A n c xs) (h' : IS w B' A' n' c' ys) (hs : n ≤ 1000000) (hr : SameR xs ys) :
    Calls Try.prog 22 #[.slice A n c, .slice A' n' c'] w fun e w' => e = .returned (.bool true) ∧ Drawn w w' := by
  have hn := h.le
  have hc := h.cap
  have hn' := h'.le
  have hc' := h'.cap
  obtain rfl : n = n' := by rw [← h.len, ← h'.len]; exact hr.1
  by_cases hz : n = 0
  · subst hz
    go_enter Try.func22, Try.ntmps22
    go_wp2
    refine wp_loop_rounds 1 ?_
    rw [rounds_succ]
    go_wp2
    go_ret
    exact ⟨rfl, Drawn.refl w⟩
  · obtain ⟨i0, hi0, heq⟩ : ∃ i, i < n ∧ xs = turn ys i := by
      rcases hr.2 with h0 | ⟨i, hi, e⟩
      · exact absurd (h.len.symm.trans h0) hz
      · exact ⟨i, by rw [← h.len]; exact hi, e⟩
    have HE := Lib.hid heq
    have HLX := Lib.hid h.len
    have HLY := Lib.hid h'.len
    clear heq hr
    go_enter Try.func22, Try.ntmps22
    go_wp2
    go_loopw [15] (fun i wr => ∃ k : Nat, k ≤ i0 ∧ i = .int .i64 k ∧ Drawn w wr) (fun i _ => n - (intOf i).toNat)
    case atStart => exact ⟨0, Nat.zero_le _, rfl, Drawn.refl w⟩
    case round =>
      obtain ⟨k, hk, rfl, hd⟩ := hrel
      have HD := Lib.hid hd
      clear hd
      have hkn : k < n := by omega
      have hw1 : IntKind.i64.wrap ((n : Int) - (k : Int)) = (n : Int) - (k : Int) := IntWalk.i64_in _ (by omega)
      have h01 : (0 : Int) ≤ (n : Int) - (k : Int) := by omega
      obtain ⟨A1, n1, c1, e1, e1', s1⟩ := cut_hi_run h ((n : Int) - k) h01 (by omega)
      obtain ⟨A2, n2, c2, e2, e2', s2⟩ := cut_lo_run h' (k : Int) (by omega) (by omega)
      obtain ⟨A3, n3, c3, e3, e3', s3⟩ := cut_lo_run h ((n : Int) - k) h01 (by omega)
      obtain ⟨A4, n4, c4, e4, e4', s4⟩ := cut_hi_run h' (k : Int) (by omega) (by omega)
      have ht : ((n : Int) - (k : Int)).toNat = n - k := by omega
      rw [ht] at s1 s3
      rw [Int.toNat_natCast] at s2 s4
      clear ht
      have hturn := eq_turn (a := xs) (b := ys) (n := n) (k := k) HLY.out
      have HT := Lib.hid hturn
      clear hturn
      by_cases ha : xs.take (n - k) = ys.drop k
      · have hda := Lib.hid (decide_eq_true ha)
        by_cases hb : xs.drop (n - k) = ys.take k
        · have hdb := Lib.hid (decide_eq_true hb)
          clear ha hb
          go_wp2
          go_quiet ((first | (go_at_call 29; exact Calls.quiet_of (quiet_eq s1 s2 hda.out (HD.out.add _))) | (go_at_call 29; exact Calls.quiet_of (quiet_eq s3 s4 hdb.out (HD.out.add _)))))
          go_wp2
          go_ret
          exact ⟨rfl, HD.out.add _⟩
        · have hdb := Lib.hid (decide_eq_false hb)
          have hne : Hid (k ≠ i0) := Lib.hid fun e => by
            subst e
            exact hb (HT.out.1 HE.out).2
          clear ha hb
          go_wp2
          go_quiet ((first | (go_at_call 29; exact Calls.quiet_of (quiet_eq s1 s2 hda.out (HD.out.add _))) | (go_at_call 29; exact Calls.quiet_of (quiet_eq s3 s4 hdb.out (HD.out.add _)))))
          go_wp2
          go_roundw
          case rel => exact ⟨k + 1, by have := hne.out; omega, by go_num, HD.out.add _⟩
          case measure => simp [intOf]; omega
      · have hda := Lib.hid (decide_eq_false ha)
        have hne : Hid (k ≠ i0) := Lib.hid fun e => by
          subst e
          exact ha (HT.out.1 HE.out).1
        clear ha
        go_wp2
        go_quiet ((go_at_call 29; exact Calls.quiet_of (quiet_eq s1 s2 hda.out (HD.out.add _))))
        go_wp2
        go_roundw
        case rel => exact ⟨k + 1, by have := hne.out; omega, by go_num, HD.out.add _⟩
        case measure => simp [intOf]; omega

end Go.Proofs.Ytencmkjalecmbaa
