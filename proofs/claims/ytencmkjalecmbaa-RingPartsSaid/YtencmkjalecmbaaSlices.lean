/-
  The contracts of slices.Index and slices.Equal at []int; no conditions.
-/
import Derived.Test.YtencmkjalecmbaaBase
import Derived.Test.YtencmkjalecmbaaPlain
import Derived.Deep.QuietTactic
import Derived.BigQuiet
namespace Go.Proofs.Ytencmkjalecmbaa
open Go.RowKit

set_option maxHeartbeats 400000 in
theorem index_any (w : World) (B : Nat) (A : Option Addr) (n c : Nat) (xs : List Int) (x : Int) (h : IS w B A n c xs) :
    Calls Try.prog 27 #[.slice A n c, .int .i64 x] w fun e w' => e = .returned (.int .i64 (fnd xs x)) ∧ w = w' := by
  have hn := h.le
  have hc := h.cap
  go_enter Try.func27, Try.ntmps27
  go_wp2
  go_loop [8] (fun i => ∃ k : Nat, k ≤ n ∧ i = .int .i64 k ∧ ∀ j, j < k → xs.getD j 0 ≠ x) (fun i => n - (intOf i).toNat)
  case atStart => exact ⟨0, Nat.zero_le _, rfl, fun j hj => absurd hj (by omega)⟩
  case round =>
    obtain ⟨k, hk, rfl, hj⟩ := hrel
    have HJ := Lib.hid hj
    clear hj
    by_cases hlt : k < n
    · obtain ⟨b, o, rfl, hb, hcell⟩ := h.at_ (by omega)
      have hcx : w.cell? ⟨b, o + k, none⟩ = some (.int .i64 (xs.getD k 0)) := hcell k hlt
      have HC := Lib.hid hcell
      have HH := Lib.hid h
      clear hcell h
      go_wp2
      · go_ret
        have hx : xs.getD k 0 = x := by
          have he : (x == xs[k]?.getD 0) = true := by assumption
          rw [beq_iff_eq] at he
          rw [List.getD_eq_getElem?_getD]; exact he.symm
        exact ⟨ret_int (fnd_at (by rw [HH.out.len]; exact hlt) hx HJ.out).symm, rfl⟩
      · go_round
        case rel =>
          refine ⟨k + 1, by omega, by go_num, fun j hj => ?_⟩
          rcases Nat.lt_or_ge j k with hjk | hjk
          · exact HJ.out j hjk
          · obtain rfl : j = k := by omega
            have he : (x == xs[j]?.getD 0) = false := by assumption
            rw [beq_eq_false_iff_ne] at he
            rw [List.getD_eq_getElem?_getD]; exact fun e => he e.symm
        case measure => simp [intOf]; omega
    · go_wp2
      go_ret
      exact ⟨ret_int (fnd_none fun j hj => HJ.out j (by have := h.len; omega)).symm, rfl⟩

set_option maxHeartbeats 400000 in
theorem equal_any (w : World) (B B' : Nat) (A A' : Option Addr) (n c n' c' : Nat) (xs ys : List Int) (h : IS w B A n c xs) (h' : IS w B' A' n' c' ys) :
    Calls Try.prog 29 #[.slice A n c, .slice A' n' c'] w fun e w' => e = .returned (.bool (decide (xs = ys))) ∧ Drawn w w' := by
  have hn := h.le
  have hc := h.cap
  have hn' := h'.le
  have hc' := h'.cap
  by_cases hl : n = n'
  · subst hl
    go_enter Try.func29, Try.ntmps29
    go_wp2
    go_loopw [13] (fun i wr => ∃ k : Nat, k ≤ n ∧ i = .int .i64 k ∧ (∀ j, j < k → xs.getD j 0 = ys.getD j 0) ∧ ∃ m, wr = w.drewN m) (fun i _ => n - (intOf i).toNat)
    case atStart => exact ⟨0, Nat.zero_le _, rfl, fun j hj => absurd hj (by omega), 0, rfl⟩
    case round =>
      obtain ⟨k, hk, rfl, hj, m, rfl⟩ := hrel
      have HJ := Lib.hid hj
      clear hj
      by_cases hlt : k < n
      · obtain ⟨b, o, rfl, hb, hcell⟩ := h.at_ (by omega)
        have hcx : w.cell? ⟨b, o + k, none⟩ = some (.int .i64 (xs.getD k 0)) := hcell k hlt
        obtain ⟨b', o', rfl, hb', hcell'⟩ := h'.at_ (by omega)
        have hcx' : w.cell? ⟨b', o' + k, none⟩ = some (.int .i64 (ys.getD k 0)) := hcell' k hlt
        have HH := Lib.hid h
        have HH' := Lib.hid h'
        clear hcell h hcell' h'
        go_wp2
        go_quiet (fail)
        go_wp2
        · go_ret
          have he : (xs[k]?.getD 0 != ys[k]?.getD 0) = true := by assumption
          refine ⟨ret_bool (decide_eq_false fun e => ?_).symm, (Drawn.of w m).add nq⟩
          rw [e] at he
          simp at he
        · go_roundw
          case rel =>
            have he : (xs[k]?.getD 0 != ys[k]?.getD 0) = false := by assumption
            refine ⟨k + 1, by omega, by go_num, fun j hj => ?_, _, rfl⟩
            rcases Nat.lt_or_ge j k with hjk | hjk
            · exact HJ.out j hjk
            · obtain rfl : j = k := by omega
              rw [List.getD_eq_getElem?_getD, List.getD_eq_getElem?_getD]
              simpa using he
          case measure => simp [intOf]; omega
      · go_wp2
        go_ret
        exact ⟨ret_bool (decide_eq_true (ext_getD (h.len.trans h'.len.symm) fun j hj => HJ.out j (by have := h.len; omega))).symm, Drawn.of w m⟩
  · have hne : ((n : Int) != (n' : Int)) = true := by simp; omega
    go_enter Try.func29, Try.ntmps29
    go_wp2
    go_ret
    exact ⟨ret_bool (decide_eq_false fun e => hl (by rw [← h.len, ← h'.len, e])).symm, Drawn.refl w⟩

end Go.Proofs.Ytencmkjalecmbaa
