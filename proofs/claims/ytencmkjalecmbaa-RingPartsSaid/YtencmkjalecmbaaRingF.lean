/-
  The contracts of the reference's Labels and of ring.Same (where the lists are one ring); no conditions.
-/
import Derived.Test.YtencmkjalecmbaaRingD
namespace Go.Proofs.Ytencmkjalecmbaa
open Go.RowKit

theorem Drawn.name (w : World) (n : Nat) : ∃ w1, w.drewN n = w1 ∧ Drawn w w1 := ⟨_, rfl, Drawn.of w n⟩

set_option maxHeartbeats 1000000 in
theorem refLabels_any (w : World) (A : Option Addr) (n c : Nat) (xs : List Int) (h : IS w w.heap.size A n c xs) (hs : n ≤ 1000000) :
    Calls Try.prog 10 #[.slice A n c] w (LabelsPost w (labels xs)) := by
  have hn := h.le
  have hc := h.cap
  have HL := Lib.hid h.len
  go_enter Try.func10, Try.ntmps10
  go_wp2
  go_loopw [4, 5] (fun v i wr => ∃ k : Nat, k ≤ n ∧ i = .int .i64 k ∧ Own w wr v (sq xs k)) (fun _ i _ => n - (intOf i).toNat)
  case atStart => exact ⟨0, Nat.zero_le _, rfl, Own.start w⟩
  case round =>
    obtain ⟨k, hk, rfl, hown⟩ := hrel
    have hsl := sq_len xs k
    by_cases hlt : k < n
    · obtain ⟨b, o, z, rfl, hb, hz, hz64, hcx⟩ := (h.below hown.below).get hlt
      by_cases h0 : k = 0
      · have hk0 : decide ((0 : Int) < (k : Int)) = false := by simp [h0]
        have hk0' : decide (0 < k) = false := by simp [h0]
        have H0 := Lib.hid h0
        have HH := Lib.hid h
        clear h h0
        go_wp2
        go_quiet (fail)
        obtain ⟨w1, hw1, hd1⟩ := Drawn.name wr nq
        rw [hw1]
        have hown1 := hown.drawn hd1
        obtain ⟨b', o', z', hA', hb', hz', hz64', hcx'⟩ := (HH.out.below hown1.below).get hlt
        injection hA' with hA'
        injection hA' with hA1 hA2
        subst hA1
        subst hA2
        obtain rfl : z = z' := hz.out.symm.trans hz'.out
        clear hw1
        go_wp2_with (at_builtin; go_must (refine wpList_append_one rfl _ _ rfl rfl hown1 z hz64 rfl (by omega) ?_; intro v' w2 hown' _ _))
        go_roundw
        case rel => exact ⟨k + 1, by omega, by go_num, by rw [sq, if_pos (.inl H0.out), hz.out]; exact hown'⟩
        case measure => simp [intOf]; omega
      · obtain ⟨j, hj⟩ : ∃ j, k = j + 1 := ⟨k - 1, by omega⟩
        obtain ⟨b', o', y, hA, hb', hy, hy64, hcy⟩ := (h.below hown.below).get (k := j) (by omega)
        injection hA with hA
        injection hA with hA1 hA2
        subst hA1
        subst hA2
        have hk0 : decide ((0 : Int) < (k : Int)) = true := by simp; omega
        have hk0' : decide (0 < k) = true := by simp; omega
        have hkp : 0 < k := by omega
        have hj2 : IntKind.i64.wrap ((k : Int) - 1) = (j : Int) := by rw [show (k : Int) - 1 = (j : Int) from by omega]; exact IntWalk.i64_in _ (by omega)
        have hjn : j < n := by omega
        have HJ := Lib.hid hj
        have HH := Lib.hid h
        clear h hj
        by_cases hyz : z = y
        · have hyz' : (z == y) = true := by simp [hyz]
          have HYZ := Lib.hid hyz
          clear hyz
          go_wp2
          go_quiet (fail)
          obtain ⟨w1, hw1, hd1⟩ := Drawn.name wr nq
          rw [hw1]
          have hown1 := hown.drawn hd1
          clear hw1
          go_wp2
          go_roundw
          case rel => exact ⟨k + 1, by omega, by go_num, by rw [sq, if_neg (by rw [hz.out, show k - 1 = j from by have := HJ.out; omega, hy.out, HYZ.out]; intro h; rcases h with h | h; (have := HJ.out; omega); exact h rfl)]; exact hown1⟩
          case measure => simp [intOf]; omega
        · have hyz' : (z == y) = false := by simp [hyz]
          have HYZ := Lib.hid hyz
          clear hyz
          go_wp2
          go_quiet (fail)
          obtain ⟨w1, hw1, hd1⟩ := Drawn.name wr nq
          rw [hw1]
          have hown1 := hown.drawn hd1
          obtain ⟨b', o', z', hA', hb', hz', hz64', hcx'⟩ := (HH.out.below hown1.below).get hlt
          injection hA' with hA'
          injection hA' with hA1 hA2
          subst hA1
          subst hA2
          obtain rfl : z = z' := hz.out.symm.trans hz'.out
          clear hw1
          go_wp2_with (at_builtin; go_must (refine wpList_append_one rfl _ _ rfl rfl hown1 z hz64 rfl (by omega) ?_; intro v' w2 hown' _ _))
          go_roundw
          case rel => exact ⟨k + 1, by omega, by go_num, by rw [sq, if_pos (by rw [hz.out, show k - 1 = j from by have := HJ.out; omega, hy.out]; exact .inr HYZ.out), hz.out]; exact hown'⟩
          case measure => simp [intOf]; omega
    · obtain rfl : k = n := by omega
      have hlab : Hid (labels xs = trim (sq xs k)) := by rw [← HL.out]; exact Lib.hid rfl
      obtain ⟨ys, hys⟩ : ∃ ys, sq xs k = ys := ⟨_, rfl⟩
      rw [hys] at hown hlab hsl
      clear hys
      obtain ⟨A2, m, c2, hv, his⟩ := hown.is
      subst hv
      have HM := Lib.hid his.len
      rw [HM.out] at hsl
      have hm1 := his.le
      have hm2 := his.cap
      by_cases h1m : 1 < m
      · obtain ⟨b0, o0, p, hA0, hb0, hp, hp64, hcp⟩ := his.get (k := 0) (by omega)
        obtain ⟨j, hj⟩ : ∃ j, m = j + 1 := ⟨m - 1, by omega⟩
        obtain ⟨b1, o1, q, hA1, hb1, hq, hq64, hcq⟩ := his.get (k := j) (by omega)
        subst hA0
        injection hA1 with hA1
        injection hA1 with hA2 hA3
        subst hA2
        subst hA3
        rw [Nat.add_zero] at hcp
        have hj2 : IntKind.i64.wrap ((m : Int) - 1) = (j : Int) := by rw [show (m : Int) - 1 = (j : Int) from by omega]; exact IntWalk.i64_in _ (by omega)
        have hgt : decide ((1 : Int) < (m : Int)) = true := by simp; omega
        have hgt' : decide (1 < m) = true := by simp; omega
        have hm0 : 0 < m := by omega
        have hjm : j < m := by omega
        have HJ := Lib.hid hj
        clear hj
        by_cases hpq : p = q
        · have hpq' : (p == q) = true := by simp [hpq]
          have HPQ := Lib.hid hpq
          clear hpq
          go_wp2
          go_quiet (fail)
          have hisn := his.drewN nq
          have htr : Hid (trim ys = ys.take j) := by
            refine Lib.hid ?_
            unfold trim
            rw [HM.out, HJ.out, Nat.add_sub_cancel, hp.out, hq.out, HPQ.out, if_pos ⟨by rw [← HJ.out]; exact h1m, rfl⟩]
          go_wp2_with (first
            | (with_reducible show wpList _ _ _ (Oper.mk (some 52) _ _ _ _ _ :: _) _ _; go_must (refine wpList_cut_hi rfl _ _ rfl rfl hisn _ rfl (by omega) (by omega) ?_; intro A3 n3 c3 hs3))
            | fail)
          rw [Int.toNat_natCast] at hs3
          have hbl : Below w.heap.size w (wr.drewN nq) := (hown.drewN nq).below
          by_cases hnd : (ys.take j).Nodup
          · have hdd : decide (ys.take j).Nodup = true := decide_eq_true hnd
            refine (refRight_any _ _ _ _ _ _ hs3).mono ?_
            rintro e w' ⟨rfl, rfl⟩
            rw [hdd]
            clear hdd
            go_wp2
            go_ret2
            rw [hlab.out, htr.out]
            exact ⟨fun _ => ⟨_, _, _, rfl, hs3, hbl⟩, fun h => absurd hnd h⟩
          · have hdd : decide (ys.take j).Nodup = false := decide_eq_false hnd
            refine (refRight_any _ _ _ _ _ _ hs3).mono ?_
            rintro e w' ⟨rfl, rfl⟩
            rw [hdd]
            clear hdd
            go_wp2
            go_ret2
            rw [hlab.out, htr.out]
            exact ⟨fun h => absurd h hnd, fun _ => ⟨none, 0, 0, rfl, IS.none_, hbl⟩⟩
        · have hpq' : (p == q) = false := by simp [hpq]
          have HPQ := Lib.hid hpq
          clear hpq
          go_wp2
          go_quiet (fail)
          have hs3 := his.drewN nq
          have htr : Hid (trim ys = ys) := by
            refine Lib.hid ?_
            unfold trim
            rw [HM.out, HJ.out, Nat.add_sub_cancel, hp.out, hq.out, if_neg fun h => HPQ.out h.2]
          go_wp2_with fail
          have hbl : Below w.heap.size w (wr.drewN nq) := (hown.drewN nq).below
          by_cases hnd : ys.Nodup
          · have hdd : decide ys.Nodup = true := decide_eq_true hnd
            refine (refRight_any _ _ _ _ _ _ hs3).mono ?_
            rintro e w' ⟨rfl, rfl⟩
            rw [hdd]
            clear hdd
            go_wp2
            go_ret2
            rw [hlab.out, htr.out]
            exact ⟨fun _ => ⟨_, _, _, rfl, hs3, hbl⟩, fun h => absurd hnd h⟩
          · have hdd : decide ys.Nodup = false := decide_eq_false hnd
            refine (refRight_any _ _ _ _ _ _ hs3).mono ?_
            rintro e w' ⟨rfl, rfl⟩
            rw [hdd]
            clear hdd
            go_wp2
            go_ret2
            rw [hlab.out, htr.out]
            exact ⟨fun h => absurd h hnd, fun _ => ⟨none, 0, 0, rfl, IS.none_, hbl⟩⟩
      · have hgt : decide ((1 : Int) < (m : Int)) = false := by simp; omega
        have hgt' : decide (1 < m) = false := by simp; omega
        go_wp2
        go_quiet (fail)
        have hs3 := his.drewN nq
        have htr : Hid (trim ys = ys) := by
          refine Lib.hid ?_
          unfold trim
          rw [HM.out, if_neg fun h => h1m h.1]
        go_wp2_with fail
        have hbl : Below w.heap.size w (wr.drewN nq) := (hown.drewN nq).below
        by_cases hnd : ys.Nodup
        · have hdd : decide ys.Nodup = true := decide_eq_true hnd
          refine (refRight_any _ _ _ _ _ _ hs3).mono ?_
          rintro e w' ⟨rfl, rfl⟩
          rw [hdd]
          clear hdd
          go_wp2
          go_ret2
          rw [hlab.out, htr.out]
          exact ⟨fun _ => ⟨_, _, _, rfl, hs3, hbl⟩, fun h => absurd hnd h⟩
        · have hdd : decide ys.Nodup = false := decide_eq_false hnd
          refine (refRight_any _ _ _ _ _ _ hs3).mono ?_
          rintro e w' ⟨rfl, rfl⟩
          rw [hdd]
          clear hdd
          go_wp2
          go_ret2
          rw [hlab.out, htr.out]
          exact ⟨fun h => absurd h hnd, fun _ => ⟨none, 0, 0, rfl, IS.none_, hbl⟩⟩

end Go.Proofs.Ytencmkjalecmbaa
