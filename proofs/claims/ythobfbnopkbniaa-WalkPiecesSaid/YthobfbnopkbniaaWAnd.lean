/-
  The contract of traceryref04.And, over lists that have nothing in common. No conditions on the program.
-/
import Derived.Test.YthobfbnopkbniaaGIn
namespace Go.Proofs.Ythobfbnopkbniaa
open Go.RowKit

set_option maxHeartbeats 4000000 in
set_option maxRecDepth 100000 in
theorem and_none (w : World) (B B' : Nat) (A A' : Option Addr) (n c n' c' : Nat) (xs ys : List Int) (h : IS w B A n c xs) (h' : IS w B' A' n' c' ys) (hno : ∀ x ∈ xs, x ∉ ys) :
    Calls Try.prog 51 #[.slice A n c, .slice A' n' c'] w fun e w' => e = .returned (.slice none 0 0) ∧ w = w' := by
  have hn := h.le
  have hc := h.cap
  have HN := Lib.hid hno
  have H' := Lib.hid h'
  clear hno h'
  go_enter Try.func51, Try.ntmps51
  go_wp2
  go_loopw [5, 6] (fun v i wr => ∃ k : Nat, k ≤ n ∧ i = .int .i64 k ∧ v = .slice none 0 0 ∧ Hid (w = wr)) (fun _ i _ => n - (intOf i).toNat)
  case atStart => exact ⟨0, Nat.zero_le _, rfl, rfl, Lib.hid (by trivial)⟩
  case round =>
    obtain ⟨k, hk, rfl, rfl, hw⟩ := hrel
    obtain rfl := hw.out
    by_cases hlt : k < n
    · obtain ⟨b, o, z, rfl, hb, hz, hz64, hcz⟩ := h.get hlt
      have HZ : Hid (z ∉ ys) := Lib.hid (HN.out z (hz.out ▸ h.mem hlt))
      have hk0 : (0 : Int) ≤ (k : Int) := by omega
      have hk1 : (k : Int) < (n : Int) := by omega
      go_wp2_with fail
      refine (in_no w _ A' n' c' ys z H'.out HZ.out).mono ?_
      rintro e w3 ⟨rfl, rfl⟩
      go_wp2
      go_roundw
      case rel => exact ⟨k + 1, by omega, by go_num, rfl, Lib.hid (by trivial)⟩
      case measure => simp [intOf]; omega
    · obtain rfl : k = n := by omega
      go_wp2
      go_ret
      exact ⟨rfl, rfl⟩
end Go.Proofs.Ythobfbnopkbniaa
