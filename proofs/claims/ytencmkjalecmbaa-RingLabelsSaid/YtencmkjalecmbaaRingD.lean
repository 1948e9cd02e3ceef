/-
  The contracts of the references of layer 2 (Find, Right, Turned, Equal, Labels), of the law's even and all, of ring.Keep, ring.Order, ring.Same; no conditions.
-/
import Derived.Test.YtencmkjalecmbaaRingC
namespace Go.Proofs.Ytencmkjalecmbaa
open Go.RowKit

set_option maxHeartbeats 400000 in
theorem find_any (w : World) (B : Nat) (A : Option Addr) (n c : Nat) (xs : List Int) (x : Int) (h : IS w B A n c xs) :
    Calls Try.prog 19 #[.slice A n c, .int .i64 x] w fun e w' => e = .returned (.int .i64 (fnd xs x)) ∧ w = w' := by
  have hn := h.le
  have hc := h.cap
  have HL := Lib.hid h.len
  go_enter Try.func19, Try.ntmps19
  go_wp2
  go_loop [5] (fun i => ∃ k : Nat, k ≤ n ∧ i = .int .i64 k ∧ ∀ j, j < k → xs.getD j 0 ≠ x) (fun i => n - (intOf i).toNat)
  case atStart => exact ⟨0, Nat.zero_le _, rfl, fun j hj => absurd hj (by omega)⟩
  case round =>
    obtain ⟨k, hk, rfl, hj⟩ := hrel
    have HJ := Lib.hid hj
    clear hj
    by_cases hlt : k < n
    · obtain ⟨b, o, z, rfl, hb, hz, hz64, hcx⟩ := h.get hlt
      have HH := Lib.hid h
      clear h
      by_cases hzx : z = x
      · have hb' : (z == x) = true := by simp [hzx]
        have HX := Lib.hid hzx
        clear hzx
        go_wp2
        go_ret
        exact ⟨ret_int (fnd_at (by rw [HL.out]; exact hlt) (hz.out.trans HX.out) HJ.out).symm, rfl⟩
      · have hb' : (z == x) = false := by simp [hzx]
        have HX := Lib.hid hzx
        clear hzx
        go_wp2
        go_round
        case rel =>
          refine ⟨k + 1, by omega, by go_num, fun j hj => ?_⟩
          rcases Nat.lt_or_ge j k with hjk | hjk
          · exact HJ.out j hjk
          · obtain rfl : j = k := by omega
            rw [hz.out]; exact HX.out
        case measure => simp [intOf]; omega
    · go_wp2
      go_ret
      exact ⟨ret_int (fnd_none fun j hj => HJ.out j (by have := HL.out; omega)).symm, rfl⟩

set_option maxHeartbeats 400000 in
theorem refRight_any (w : World) (B : Nat) (A : Option Addr) (n c : Nat) (xs : List Int) (h : IS w B A n c xs) :
    Calls Try.prog 26 #[.slice A n c] w fun e w' => e = .returned (.bool (decide xs.Nodup)) ∧ w = w' := by
  have hn := h.le
  have hc := h.cap
  have HL := Lib.hid h.len
  go_enter Try.func26, Try.ntmps26
  go_wp2
  go_loop [3] (fun i => ∃ k : Nat, k ≤ n ∧ i = .int .i64 k ∧ (xs.take k).Nodup) (fun i => n - (intOf i).toNat)
  case atStart => exact ⟨0, Nat.zero_le _, rfl, by simp⟩
  case round =>
    obtain ⟨k, hk, rfl, hj⟩ := hrel
    have HJ := Lib.hid hj
    clear hj
    by_cases hlt : k < n
    · obtain ⟨b, o, z, rfl, hb, hz, hz64, hcx⟩ := h.get hlt
      have HH := Lib.hid h
      clear h
      have hkl : k < xs.length := by rw [HL.out]; exact hlt
      by_cases hf : fnd xs z < k
      · go_wp2_with (go_at_call 19; refine (find_any w B _ n c xs z HH.out).mono ?_; rintro e w' ⟨rfl, rfl⟩)
        go_ret
        refine ⟨ret_bool (decide_eq_false fun h => ?_).symm, rfl⟩
        have h1 : (xs.take (k + 1)).Nodup := h.sublist (List.take_sublist _ _)
        exact ((nodup_snoc hkl hz.out).1 h1).2 ((fnd_before hkl hz.out).1 hf)
      · go_wp2_with (go_at_call 19; refine (find_any w B _ n c xs z HH.out).mono ?_; rintro e w' ⟨rfl, rfl⟩)
        go_round
        case rel => exact ⟨k + 1, by omega, by go_num, (nodup_snoc hkl hz.out).2 ⟨HJ.out, fun hm => by have := (fnd_before hkl hz.out).2 hm; omega⟩⟩
        case measure => simp [intOf]; omega
    · obtain rfl : k = n := by omega
      go_wp2
      go_ret
      exact ⟨ret_bool (decide_eq_true (by have := HJ.out; rwa [List.take_of_length_le (Nat.le_of_eq HL.out)] at this)).symm, rfl⟩

set_option maxHeartbeats 400000 in
theorem refEqual_any (w : World) (B B' : Nat) (A A' : Option Addr) (n c n' c' : Nat) (xs ys : List Int) (h : IS w B A n c xs) (h' : IS w B' A' n' c' ys) :
    Calls Try.prog 11 #[.slice A n c, .slice A' n' c'] w fun e w' => e = .returned (.bool (decide (xs = ys))) ∧ Drawn w w' := by
  have hn := h.le
  have hc := h.cap
  have hn' := h'.le
  have hc' := h'.cap
  by_cases hl : n = n'
  · subst hl
    go_enter Try.func11, Try.ntmps11
    go_wp2
    go_loopw [5] (fun i wr => ∃ k : Nat, k ≤ n ∧ i = .int .i64 k ∧ (∀ j, j < k → xs.getD j 0 = ys.getD j 0) ∧ ∃ m, wr = w.drewN m) (fun i _ => n - (intOf i).toNat)
    case atStart => exact ⟨0, Nat.zero_le _, rfl, fun j hj => absurd hj (by omega), 0, rfl⟩
    case round =>
      obtain ⟨k, hk, rfl, hj, m, rfl⟩ := hrel
      have HJ := Lib.hid hj
      clear hj
      by_cases hlt : k < n
      · obtain ⟨b, o, z, rfl, hb, hz, hz64, hcx⟩ := h.get hlt
        obtain ⟨b', o', y, rfl, hb', hy, hy64, hcy⟩ := h'.get hlt
        have HH := Lib.hid h
        have HH' := Lib.hid h'
        clear h h'
        by_cases hzy : z = y
        · have hb1 : (z != y) = false := by simp [hzy]
          have HX := Lib.hid hzy
          clear hzy
          go_wp2
          go_quiet (fail)
          go_wp2
          go_roundw
          case rel =>
            refine ⟨k + 1, by omega, by go_num, fun j hj => ?_, _, rfl⟩
            rcases Nat.lt_or_ge j k with hjk | hjk
            · exact HJ.out j hjk
            · obtain rfl : j = k := by omega
              rw [hz.out, hy.out]; exact HX.out
          case measure => simp [intOf]; omega
        · have hb1 : (z != y) = true := by simp [hzy]
          have HX := Lib.hid hzy
          clear hzy
          go_wp2
          go_quiet (fail)
          go_wp2
          go_ret
          exact ⟨ret_bool (decide_eq_false fun e => HX.out (by rw [← hz.out, ← hy.out, e])).symm, (Drawn.of w m).add nq⟩
      · go_wp2
        go_ret
        exact ⟨ret_bool (decide_eq_true (ext_getD (h.len.trans h'.len.symm) fun j hj => HJ.out j (by have := h.len; omega))).symm, Drawn.of w m⟩
  · have hne : ((n : Int) != (n' : Int)) = true := by simp; omega
    go_enter Try.func11, Try.ntmps11
    go_wp2
    go_ret
    exact ⟨ret_bool (decide_eq_false fun e => hl (by rw [← h.len, ← h'.len, e])).symm, Drawn.refl w⟩

set_option maxHeartbeats 400000 in
theorem refTurned_any (w : World) (A : Option Addr) (n c : Nat) (xs : List Int) (q : Nat) (h : IS w w.heap.size A n c xs) (hs : n ≤ 1000000) (hq : q ≤ 1000000) :
    Calls Try.prog 21 #[.slice A n c, .int .i64 q] w (NewIS w (turn xs (q % n))) := by
  have hn := h.le
  have hc := h.cap
  have HL := Lib.hid h.len
  go_enter Try.func21, Try.ntmps21
  go_wp2
  go_loopw [5, 6] (fun v i wr => ∃ k : Nat, k ≤ n ∧ i = .int .i64 k ∧ Own w wr v ((turn xs (q % n)).take k)) (fun _ i _ => n - (intOf i).toNat)
  case atStart => exact ⟨0, Nat.zero_le _, rfl, Own.start w⟩
  case round =>
    obtain ⟨k, hk, rfl, hown⟩ := hrel
    have hlen : ((turn xs (q % n)).take k).length ≤ n := by rw [List.length_take]; omega
    by_cases hlt : k < n
    · have hm : (q + k) % n < n := Nat.mod_lt _ (by omega)
      obtain ⟨b, o, z, rfl, hb, hz, hz64, hcx⟩ := (h.below hown.below).get hm
      have hz' : Hid ((turn xs (q % n)).getD k 0 = z) := Lib.hid (by
        have hl := HL.out
        rw [turn_getD (by rw [hl]; exact Nat.mod_lt _ (by omega)) (by omega), hl, Nat.mod_add_mod]; exact hz.out)
      have HH := Lib.hid h
      clear h
      have hm0 : (0 : Int) ≤ ((q : Int) + (k : Int)) % (n : Int) := Int.emod_nonneg _ (by omega)
      have hm1 : ((q : Int) + (k : Int)) % (n : Int) < n := Int.emod_lt_of_pos _ (by omega)
      go_wp2_with (at_builtin; go_must (refine wpList_append_one rfl _ _ rfl rfl hown z hz64 rfl (by omega) ?_; intro v' w2 hown' _ _))
      go_roundw
      case rel => exact ⟨k + 1, by omega, by go_num, by rw [take_getD (by rw [turn_length]; have := HL.out; omega) hz'.out]; exact hown'⟩
      case measure => simp [intOf]; omega
    · obtain rfl : k = n := by omega
      go_wp2
      go_ret
      obtain ⟨A2, n2, c2, rfl, his⟩ := hown.is
      rw [List.take_of_length_le (by rw [turn_length]; exact Nat.le_of_eq HL.out)] at his
      exact ⟨_, _, _, rfl, his, hown.below⟩

end Go.Proofs.Ytencmkjalecmbaa
