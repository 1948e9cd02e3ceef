/-
  The twin of a dart as the program reckons it (xor with one); the contracts of After, Before, Next, Back over what beside answers. No conditions.
-/
import Derived.Test.YthobfbnopkbniaaRStep
import Derived.Lib.Zigzag
namespace Go.Proofs.Ythobfbnopkbniaa
open Go.RowKit

theorem nat_xor_one (n : Nat) : n ^^^ 1 = if n % 2 = 0 then n + 1 else n - 1 := by
  have h1 : (n ^^^ 1) / 2 = n / 2 := by rw [Nat.xor_div_two]; simp
  have h2 : (n ^^^ 1) % 2 ^ 1 = (n % 2 ^ 1) ^^^ (1 % 2 ^ 1) := Nat.xor_mod_two_pow
  rw [Nat.pow_one] at h2
  rcases Nat.mod_two_eq_zero_or_one n with h3 | h3
  · rw [h3] at h2
    have h4 : (n ^^^ 1) % 2 = 1 := h2
    rw [if_pos h3]
    omega
  · rw [h3] at h2
    have h4 : (n ^^^ 1) % 2 = 0 := h2
    rw [if_neg (by omega)]
    omega
theorem bits_xor_one {d : Int} (hd : I64 d) : bits .xor .i64 d 1 = twin d := by
  show IntKind.i64.wrap ((BitVec.ofInt 64 d ^^^ BitVec.ofInt 64 1).toNat : Int) = _
  have h1 : (BitVec.ofInt 64 1).toNat = 1 := by decide
  have h2 : (BitVec.ofInt 64 d).toNat = (d % 18446744073709551616).toNat := by
    rw [BitVec.toNat_ofInt]
    rfl
  obtain ⟨g1, g2⟩ := hd
  rw [BitVec.toNat_xor, h1, h2, nat_xor_one, IntKind.wrap_i64]
  unfold twin
  have h3 : 0 ≤ d % 18446744073709551616 := Int.emod_nonneg _ (by omega)
  obtain ⟨e, he⟩ : ∃ e, (d % 18446744073709551616).toNat = e := ⟨_, rfl⟩
  have he' : d % 18446744073709551616 = e := by omega
  rw [he]
  split <;> split <;> omega
theorem twin_i64 {d : Int} (hd : I64 d) : I64 (twin d) := by
  obtain ⟨h1, h2⟩ := hd
  unfold twin
  split
  · exact ⟨by omega, by omega⟩
  · exact ⟨by omega, by omega⟩

section
variable (w : World) (R : Option Addr) (d : Int) (x : Int) (b : Bool)
set_option maxHeartbeats 2000000 in
set_option maxRecDepth 100000 in
theorem after_of (h : Calls Try.prog 64 #[.pointer R, .int .i64 d, .int .i64 1] w fun e w' => e = .returned (.tuple #[.int .i64 x, .bool b]) ∧ w = w') :
    Calls Try.prog 20 #[.pointer R, .int .i64 d] w fun e w' => e = .returned (.tuple #[.int .i64 x, .bool b]) ∧ w = w' := by
  go_enter Try.func20, Try.ntmps20
  go_wp2_with fail
  refine h.mono ?_
  rintro e w' ⟨rfl, rfl⟩
  go_wp2
  go_ret2
  exact ⟨rfl, rfl⟩
set_option maxHeartbeats 2000000 in
set_option maxRecDepth 100000 in
theorem before_of (h : Calls Try.prog 64 #[.pointer R, .int .i64 d, .int .i64 (-1)] w fun e w' => e = .returned (.tuple #[.int .i64 x, .bool b]) ∧ w = w') :
    Calls Try.prog 21 #[.pointer R, .int .i64 d] w fun e w' => e = .returned (.tuple #[.int .i64 x, .bool b]) ∧ w = w' := by
  go_enter Try.func21, Try.ntmps21
  go_wp2_with fail
  refine h.mono ?_
  rintro e w' ⟨rfl, rfl⟩
  go_wp2
  go_ret2
  exact ⟨rfl, rfl⟩
set_option maxHeartbeats 2000000 in
set_option maxRecDepth 100000 in
theorem next_of (hd : I64 d) (h : Calls Try.prog 64 #[.pointer R, .int .i64 (twin d), .int .i64 (-1)] w fun e w' => e = .returned (.tuple #[.int .i64 x, .bool b]) ∧ w = w') :
    Calls Try.prog 22 #[.pointer R, .int .i64 d] w fun e w' => e = .returned (.tuple #[.int .i64 x, .bool b]) ∧ w = w' := by
  have hx := bits_xor_one hd
  go_enter Try.func22, Try.ntmps22
  go_wp2_with fail
  refine h.mono ?_
  rintro e w' ⟨rfl, rfl⟩
  go_wp2
  go_ret2
  exact ⟨rfl, rfl⟩
set_option maxHeartbeats 2000000 in
set_option maxRecDepth 100000 in
theorem back_no (h : Calls Try.prog 64 #[.pointer R, .int .i64 d, .int .i64 1] w fun e w' => e = .returned (.tuple #[.int .i64 0, .bool false]) ∧ w = w') :
    Calls Try.prog 23 #[.pointer R, .int .i64 d] w fun e w' => e = .returned (.tuple #[.int .i64 0, .bool false]) ∧ w = w' := by
  go_enter Try.func23, Try.ntmps23
  go_wp2_with fail
  refine h.mono ?_
  rintro e w' ⟨rfl, rfl⟩
  go_wp2
  go_ret2
  exact ⟨rfl, rfl⟩
set_option maxHeartbeats 2000000 in
set_option maxRecDepth 100000 in
theorem back_yes (hx : I64 x) (h : Calls Try.prog 64 #[.pointer R, .int .i64 d, .int .i64 1] w fun e w' => e = .returned (.tuple #[.int .i64 x, .bool true]) ∧ w = w') :
    Calls Try.prog 23 #[.pointer R, .int .i64 d] w fun e w' => e = .returned (.tuple #[.int .i64 (twin x), .bool true]) ∧ w = w' := by
  have hx' := bits_xor_one hx
  go_enter Try.func23, Try.ntmps23
  go_wp2_with fail
  refine h.mono ?_
  rintro e w' ⟨rfl, rfl⟩
  go_wp2
  go_ret2
  exact ⟨rfl, rfl⟩
end
end Go.Proofs.Ythobfbnopkbniaa
