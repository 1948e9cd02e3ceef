/-
  The walk of the law RingParts: it answers true and turns nothing that was there; no conditions.
-/
import Derived.Test.YtencmkjalecmbaaRingG
import Derived.Test.YtencmkjalecmbaaPlainB
namespace Go.Proofs.Ytencmkjalecmbaa
open Go.RowKit

theorem filter_at {p : Int → Bool} {xs : List Int} {k : Nat} {z : Int} (hk : k < xs.length) (hz : xs.getD k 0 = z) (hp : p z = true) :
    ((xs.take k).filter p).length < (xs.filter p).length ∧ (xs.filter p).getD ((xs.take k).filter p).length 0 = z ∧ ((xs.take (k + 1)).filter p).length = ((xs.take k).filter p).length + 1 := by
  have h1 : xs.filter p = (xs.take k).filter p ++ z :: (xs.drop (k + 1)).filter p := by
    have h2 := List.take_append_drop k xs
    rw [drop_getD hk hz] at h2
    have h3 := congrArg (List.filter p) h2
    rw [List.filter_append, List.filter_cons, hp] at h3
    exact h3.symm
  refine ⟨by rw [h1, List.length_append, List.length_cons]; omega, ?_, ?_⟩
  · rw [h1, List.getD_eq_getElem?_getD, List.getElem?_append_right (Nat.le_refl _)]
    simp
  · rw [take_getD hk hz, List.filter_append, List.length_append, List.filter_cons, hp]
    rfl
theorem filter_not {p : Int → Bool} {xs : List Int} {k : Nat} {z : Int} (hk : k < xs.length) (hz : xs.getD k 0 = z) (hp : p z = false) :
    ((xs.take (k + 1)).filter p).length = ((xs.take k).filter p).length := by
  rw [take_getD hk hz, List.filter_append, List.length_append, List.filter_cons, hp]
  rfl

set_option maxHeartbeats 2000000 in
set_option maxRecDepth 100000 in
theorem law_RingParts (w : World) (A : Option Addr) (n c : Nat) (xs : List Int) (A' : Option Addr) (n' c' : Nat) (ys : List Int) (x : Int) (h : IS w w.heap.size A n c xs) (h' : IS w w.heap.size A' n' c' ys) :
    Calls Try.prog 5 #[.slice A n c, .slice A' n' c', .int .i64 x] w fun e w' => e = .returned (.bool true) ∧ Below w.heap.size w w' := by
  have hn := h.le
  have hc := h.cap
  have hn' := h'.le
  have hc' := h'.cap
  have HL := Lib.hid h.len
  have HL' := Lib.hid h'.len
  by_cases hs : n ≤ 100
  · by_cases hs' : n' ≤ 100
    · go_enter Try.func5, Try.ntmps5
      go_wp2_with fail
      refine (awake_any w).mono ?_
      rintro e w1 ⟨rfl, b1⟩
      have h1 := (h.below b1).more b1.size
      have h1' := (h'.below b1).more b1.size
      go_wp2_with fail
      refine (keep_even w1 A n c xs h1 (by omega)).mono ?_
      rintro e w2 ⟨A2, n2, c2, rfl, s2, b2⟩
      have h2 := (h1.below b2).more b2.size
      have h2' := (h1'.below b2).more b2.size
      replace b1 := b1.trans (b2.mono b1.size)
      have hn2 := s2.le
      have hc2 := s2.cap
      have HL2 := Lib.hid s2.len
      clear h1 h1' b2
      go_wp2
      go_loopw [8, 9] (fun m i wr => ∃ k : Nat, k ≤ n ∧ i = .int .i64 k ∧ m = .int .i64 ((xs.take k).filter evenB).length ∧ Drawn w2 wr) (fun _ i _ => n - (intOf i).toNat)
      case atStart => exact ⟨0, Nat.zero_le _, rfl, rfl, Drawn.refl _⟩
      case round =>
        obtain ⟨k, hk, rfl, rfl, hd⟩ := hrel
        have hlf : ((xs.take k).filter evenB).length ≤ n := by have := List.length_filter_le evenB (xs.take k); rw [List.length_take] at this; omega
        by_cases hlt : k < n
        · have hb0 := hd.below w2.heap.size
          obtain ⟨b, o, z, rfl, hb, hz, hz64, hcx⟩ := (h2.below hb0).get hlt
          have hkl : k < xs.length := by rw [HL.out]; exact hlt
          have HH := Lib.hid h2
          have HH' := Lib.hid h2'
          have HD := Lib.hid hd
          clear h2 h2' h h' hd
          cases he : evenB z with
          | false =>
            have HE := Lib.hid he
            have hst := Lib.hid (filter_not hkl hz.out he)
            clear he
            go_wp2_with (go_at_call 17; refine (even_any _ z).mono ?_; rintro e w' ⟨rfl, rfl⟩; rw [HE.out])
            go_roundw
            case rel => exact ⟨k + 1, by omega, by go_num, by rw [hst.out], HD.out⟩
            case measure => simp [intOf]; omega
          | true =>
            have HE := Lib.hid he
            obtain ⟨g1, g2, g3⟩ := filter_at hkl hz.out he
            clear he
            rw [HL2.out] at g1
            have G3 := Lib.hid g3
            clear g3
            obtain ⟨m, hm⟩ : ∃ m, ((xs.take k).filter evenB).length = m := ⟨_, rfl⟩
            rw [hm] at g1 g2 hlf G3 ⊢
            clear hm
            obtain ⟨b2, o2, y, hA2, hb2, hy, hy64, hcy⟩ := (s2.below hb0).get g1
            subst hA2
            have hyz : z = y := g2.symm.trans hy.out
            have SS := Lib.hid s2
            clear g2 s2
            subst hyz
            have hge : decide ((n2 : Int) ≤ (m : Int)) = false := by simp; omega
            have hge' : decide (n2 ≤ m) = false := by simp; omega
            have hzz : (z != z) = false := by simp
            go_wp2_with (go_at_call 17; refine (even_any _ z).mono ?_; rintro e w' ⟨rfl, rfl⟩; rw [HE.out])
            go_quiet (fail)
            go_wp2
            go_roundw
            case rel => exact ⟨k + 1, by omega, by go_num, by rw [G3.out]; go_num, HD.out.add _⟩
            case measure => simp [intOf]; omega
        · obtain rfl : k = n := by omega
          have hall : ((xs.take k).filter evenB).length = n2 := by rw [List.take_of_length_le (Nat.le_of_eq HL.out)]; exact HL2.out
          rw [hall]
          clear hall hlf
          have b3 := hd.below w2.heap.size
          have h3 := (h2.below b3).more b3.size
          have h3' := (h2'.below b3).more b3.size
          replace b1 := b1.trans (b3.mono b1.size)
          have hne : ((n2 : Int) != (n2 : Int)) = false := by simp
          rcases fnd_cases xs x with ⟨hf, _⟩ | ⟨j, hf, hj, _, _⟩
          · have HF := Lib.hid hf
            clear hf b3 h2 h2' s2 hd
            go_wp2_with fail
            refine (put_no wr _ A k c xs x _ h3 HF.out).mono ?_
            rintro e w4 ⟨A4, n4, c4, rfl, s4, b4⟩
            have h4 := (h3.below b4).more b4.size
            replace b1 := b1.trans (b4.mono b1.size)
            obtain rfl : n4 = 0 := s4.len.symm
            go_wp2_with fail
            refine (find_any w4 _ A k c xs x h4).mono ?_
            rintro e w5 ⟨rfl, rfl⟩
            rw [HF.out]
            go_wp2
            go_ret
            exact ⟨rfl, b1⟩
          · rw [HL.out] at hj
            have HF := Lib.hid hf
            clear hf b3 h2 h2' s2 hd
            go_wp2_with fail
            refine (put_yes wr A k c xs x A' n' c' ys j h3 h3' hj HF.out (by omega) (by omega)).mono ?_
            rintro e w4 ⟨A4, n4, c4, rfl, s4, b4⟩
            have h4 := (h3.below b4).more b4.size
            have h4' := (h3'.below b4).more b4.size
            replace b1 := b1.trans (b4.mono b1.size)
            clear h3 h3' b4
            go_wp2_with fail
            refine (find_any w4 _ A k c xs x h4).mono ?_
            rintro e w5 ⟨rfl, rfl⟩
            rw [HF.out]
            have ho1 := Own.start w4
            have hlx : xs.length ≤ k := Nat.le_of_eq HL.out
            have hly : ys.length ≤ n' := Nat.le_of_eq HL'.out
            go_wp2_with (first
              | (with_reducible show wpList _ _ _ (Oper.mk (some 84) _ _ _ _ _ :: _) _ _; go_must (refine wpList_cut_hi rfl _ _ rfl rfl h4 _ rfl (by omega) (by omega) ?_; intro A5 n5 c5 s5; have hl5 : n5 ≤ k := by have := s5.len; rw [List.length_take] at this; omega))
              | (with_reducible show wpList _ _ _ (Oper.mk (some 85) _ _ _ _ _ :: _) _ _; go_must (refine wpList_append_is rfl _ _ rfl rfl ho1 rfl s5 (by simp only [List.length_nil]; omega) ?_; intro v2 w6 ho2 _ _; have h6 := h4.below ho2.below; have h6' := h4'.below ho2.below))
              | (with_reducible show wpList _ _ _ (Oper.mk (some 88) _ _ _ _ _ :: _) _ _; go_must (refine wpList_append_is rfl _ _ rfl rfl ho2 rfl h6' (by simp only [List.nil_append, List.length_take]; omega) ?_; intro v3 w7 ho3 _ _; have h7 := h4.below ho3.below))
              | (with_reducible show wpList _ _ _ (Oper.mk (some 93) _ _ _ _ _ :: _) _ _; go_must (refine wpList_cut_lo rfl _ _ rfl rfl h7 _ rfl (by omega) (by omega) ?_; intro A8 n8 c8 s8; have hl8 : n8 ≤ k := by have := s8.len; rw [List.length_drop] at this; omega))
              | (with_reducible show wpList _ _ _ (Oper.mk (some 94) _ _ _ _ _ :: _) _ _; go_must (refine wpList_append_is rfl _ _ rfl rfl ho3 rfl s8 (by simp only [List.nil_append, List.length_append, List.length_take]; omega) ?_; intro v4 w8 ho4 _ _))
              | fail)
            simp only [List.nil_append, Int.toNat_natCast] at ho4
            obtain ⟨A9, n9, c9, hv4, s9⟩ := ho4.is
            subst hv4
            refine (refEqual_any _ _ _ _ _ _ _ _ _ _ _ (s4.below ho4.below) s9).mono ?_
            rintro e w9 ⟨rfl, d9⟩
            rw [decide_eq_true (by rfl)]
            go_wp2
            go_ret
            exact ⟨rfl, (b1.trans (ho4.below.mono b1.size)).trans (d9.below _)⟩
    · go_enter Try.func5, Try.ntmps5
      go_wp2_with fail
      refine (awake_any w).mono ?_
      rintro e w1 ⟨rfl, b1⟩
      go_wp2_with fail
      refine (awake_any w1).mono ?_
      rintro e w2 ⟨rfl, b2⟩
      go_wp2
      go_ret
      exact ⟨rfl, b1.trans (b2.mono b1.size)⟩
  · go_enter Try.func5, Try.ntmps5
    go_wp2_with fail
    refine (awake_any w).mono ?_
    rintro e w1 ⟨rfl, b1⟩
    go_wp2_with fail
    refine (awake_any w1).mono ?_
    rintro e w2 ⟨rfl, b2⟩
    go_wp2
    go_ret
    exact ⟨rfl, b1.trans (b2.mono b1.size)⟩

end Go.Proofs.Ytencmkjalecmbaa
