/-
  The contracts of traceryref04.Equal, Same, And; no conditions.
-/
import Derived.Test.YthobfbnopkbniaaGTail
import Derived.Test.YthobfbnopkbniaaGIn
namespace Go.Proofs.Ythobfbnopkbniaa
open Go.RowKit

theorem take_next {xs ys : List Int} {k : Nat} {z : Int} (hx : k < xs.length) (hy : k < ys.length) (h : xs.take k = ys.take k) (e : xs.getD k 0 = z) (e' : ys.getD k 0 = z) : xs.take (k + 1) = ys.take (k + 1) := by rw [take_getD hx e, take_getD hy e', h]

set_option maxHeartbeats 2000000 in
set_option maxRecDepth 100000 in
theorem refEqual_any (w : World) (B B' : Nat) (A A' : Option Addr) (n c n' c' : Nat) (xs ys : List Int) (h : IS w B A n c xs) (h' : IS w B' A' n' c' ys) :
    Calls Try.prog 42 #[.slice A n c, .slice A' n' c'] w fun e w' => e = .returned (.bool (decide (xs = ys))) ∧ Drawn w w' := by
  have hn := h.le
  have hc := h.cap
  have hn' := h'.le
  have hc' := h'.cap
  have HLX := Lib.hid h.len
  have HLY := Lib.hid h'.len
  by_cases hnn : n = n'
  · subst hnn
    have hd0 := Drawn.refl w
    have d0 : ((n : Int) != (n : Int)) = false := by simp
    have d0' : (n != n) = false := by simp
    go_enter Try.func42, Try.ntmps42
    go_wp2
    go_loopw [5] (fun i wr => ∃ k : Nat, k ≤ n ∧ i = .int .i64 k ∧ xs.take k = ys.take k ∧ Drawn w wr) (fun i _ => n - (intOf i).toNat)
    case atStart => exact ⟨0, Nat.zero_le _, rfl, rfl, hd0⟩
    case round =>
      obtain ⟨k, hk, rfl, htk, hd⟩ := hrel
      have HTK := Lib.hid htk
      have HD := Lib.hid hd
      clear htk hd
      by_cases hlt : k < n
      · obtain ⟨b, o, z, rfl, hb, hz, hz64, hcz⟩ := (h.below (HD.out.below _)).get hlt
        obtain ⟨b', o', y, rfl, hb', hy, hy64, hcy⟩ := (h'.below (HD.out.below _)).get hlt
        have HH := Lib.hid h
        have HH' := Lib.hid h'
        have hk0 : (0 : Int) ≤ (k : Int) := by omega
        have hk1 : (k : Int) < (n : Int) := by omega
        clear h h'
        by_cases hzy : z = y
        · have d1 : (z != y) = false := by simp [hzy]
          have hzy' : Hid (z = y) := Lib.hid hzy
          clear hzy
          go_wp2
          go_quiet (fail)
          go_wp2
          go_roundw
          case rel => exact ⟨k + 1, by omega, by go_num, take_next (by rw [HLX.out]; omega) (by rw [HLY.out]; omega) HTK.out hz.out (by rw [hzy'.out]; exact hy.out), HD.out.add _⟩
          case measure => simp [intOf]; omega
        · have d1 : (z != y) = true := by simp [hzy]
          have hne : Hid (decide (xs = ys) = false) := Lib.hid (decide_eq_false fun e => hzy (by rw [← hz.out, ← hy.out, e]))
          clear hzy
          go_wp2
          go_quiet (fail)
          go_wp2
          go_ret
          exact ⟨ret_bool hne.out.symm, HD.out.add _⟩
      · obtain rfl : k = n := by omega
        have hee : Hid (decide (xs = ys) = true) := Lib.hid (decide_eq_true (by have := HTK.out; rwa [List.take_of_length_le (Nat.le_of_eq HLX.out), List.take_of_length_le (Nat.le_of_eq HLY.out)] at this))
        clear h h'
        go_wp2
        go_ret
        exact ⟨ret_bool hee.out.symm, HD.out⟩
  · have d0 : ((n : Int) != (n' : Int)) = true := by simp; omega
    have d0' : (n != n') = true := by simp [hnn]
    have hne : Hid (decide (xs = ys) = false) := Lib.hid (decide_eq_false fun e => hnn (by rw [← HLX.out, ← HLY.out, e]))
    have hd0 := Drawn.refl w
    clear hnn h h'
    go_enter Try.func42, Try.ntmps42
    go_wp2
    go_ret
    exact ⟨ret_bool hne.out.symm, hd0⟩

end Go.Proofs.Ythobfbnopkbniaa
