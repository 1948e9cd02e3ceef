/-
  The contract of ref06.Equal (two lists of lists); no conditions.
-/
import Derived.Test.YthobfbnopkbniaaWEqual
import Derived.Test.YthobfbnopkbniaaRTurn
namespace Go.Proofs.Ythobfbnopkbniaa
open Go.RowKit

theorem take_next_row {xs ys : List (List Int)} {k : Nat} {z : List Int} (hx : k < xs.length) (hy : k < ys.length) (h : xs.take k = ys.take k) (e : xs.getD k [] = z) (e' : ys.getD k [] = z) : xs.take (k + 1) = ys.take (k + 1) := by
  rw [take_rows_snoc hx e, take_rows_snoc hy e', h]

set_option maxHeartbeats 4000000 in
set_option maxRecDepth 100000 in
theorem equal6_any (w : World) (B B' : Nat) (A A' : Option Addr) (n c n' c' : Nat) (xs ys : List (List Int)) (h : TS w B A n c xs) (h' : TS w B' A' n' c' ys) (hB : B ≤ w.heap.size) (hB' : B' ≤ w.heap.size) :
    Calls Try.prog 34 #[.slice A n c, .slice A' n' c'] w fun e w' => e = .returned (.bool (decide (xs = ys))) ∧ Below w.heap.size w w' := by
  have hn := h.le
  have hc := h.cap
  have hn' := h'.le
  have hc' := h'.cap
  have HLX := Lib.hid h.len
  have HLY := Lib.hid h'.len
  by_cases hnn : n = n'
  · subst hnn
    go_enter Try.func34, Try.ntmps34
    go_wp2
    go_loopw [5] (fun i wr => ∃ k : Nat, k ≤ n ∧ i = .int .i64 k ∧ xs.take k = ys.take k ∧ Below w.heap.size w wr) (fun i _ => n - (intOf i).toNat)
    case atStart => exact ⟨0, Nat.zero_le _, rfl, rfl, Below.refl _ _⟩
    case round =>
      obtain ⟨k, hk, rfl, htk, hd⟩ := hrel
      have HTK := Lib.hid htk
      have HD := Lib.hid hd
      clear htk hd
      by_cases hlt : k < n
      · obtain ⟨b, o, t, A1, n1, c1, hA, hb, htk, hc1, is1⟩ := (h.below (HD.out.mono hB)).get hlt
        obtain ⟨b', o', t', A2, n2, c2, hA', hb', htk', hc2, is2⟩ := (h'.below (HD.out.mono hB')).get hlt
        subst hA hA'
        have hbw : b < wr.heap.size := by have := HD.out.size; omega
        have hbw' : b' < wr.heap.size := by have := HD.out.size; omega
        have HH := Lib.hid h
        have HH' := Lib.hid h'
        have hk0 : (0 : Int) ≤ (k : Int) := by omega
        have hk1 : (k : Int) < (n : Int) := by omega
        have IS1 := Lib.hid is1
        have IS2 := Lib.hid is2
        clear h h' is1 is2
        go_wp2_with fail
        refine wp_region_rel 8 [[],[],[0,1],[0,1,2],[],[],[4,5],[4,5,6]]
          [fun v _ => v = .slice (some ⟨b, o, none⟩) n c,
           fun v _ => v = .int .i64 k,
           fun v _ => v = .pointer (some ⟨b, o + k, none⟩),
           fun v _ => v = .slice A1 n1 c1,
           fun v _ => v = .slice (some ⟨b', o', none⟩) n c',
           fun v _ => v = .int .i64 k,
           fun v _ => v = .pointer (some ⟨b', o' + k, none⟩),
           fun v _ => v = .slice A2 n2 c2]
          (by kernel_rfl) (by kernel_rfl) rfl ⟨?_, ?_, ?_, ?_, ?_, ?_, ?_, ?_, trivial⟩ ?_
        · intro wr hx v0 h0 v1 h1 v2 h2 v3 h3 v4 h4 v5 h5 v6 h6 v7 h7 K hK
          have p1 := (hx.cell (p := ⟨b, o + k, none⟩) hbw).trans hc1
          have p2 := (hx.cell (p := ⟨b', o' + k, none⟩) hbw').trans hc2
          simp only [Act.put, List.setIfInBounds_toArray, List.set_cons_zero, List.set_cons_succ] at hK ⊢
          clear h0 h1 h2 h3 h4 h5 h6 h7
          go_wp2
          exact hK _ _ (Ext.refl _) (fun _ _ => rfl)
        · intro wr hx v0 h0 v1 h1 v2 h2 v3 h3 v4 h4 v5 h5 v6 h6 v7 h7 K hK
          have p1 := (hx.cell (p := ⟨b, o + k, none⟩) hbw).trans hc1
          have p2 := (hx.cell (p := ⟨b', o' + k, none⟩) hbw').trans hc2
          simp only [Act.put, List.setIfInBounds_toArray, List.set_cons_zero, List.set_cons_succ] at hK ⊢
          clear h0 h1 h2 h3 h4 h5 h6 h7
          go_wp2
          exact hK _ _ (Ext.refl _) (fun _ _ => rfl)
        · intro wr hx v0 h0 v1 h1 v2 h2 v3 h3 v4 h4 v5 h5 v6 h6 v7 h7 K hK
          have p1 := (hx.cell (p := ⟨b, o + k, none⟩) hbw).trans hc1
          have p2 := (hx.cell (p := ⟨b', o' + k, none⟩) hbw').trans hc2
          simp only [Act.put, List.setIfInBounds_toArray, List.set_cons_zero, List.set_cons_succ] at hK ⊢
          obtain rfl := (h0 (by decide)).now
          obtain rfl := (h1 (by decide)).now
          clear h0 h1 h2 h3 h4 h5 h6 h7
          go_wp2
          exact hK _ _ (Ext.refl _) (fun _ _ => rfl)
        · intro wr hx v0 h0 v1 h1 v2 h2 v3 h3 v4 h4 v5 h5 v6 h6 v7 h7 K hK
          have p1 := (hx.cell (p := ⟨b, o + k, none⟩) hbw).trans hc1
          have p2 := (hx.cell (p := ⟨b', o' + k, none⟩) hbw').trans hc2
          simp only [Act.put, List.setIfInBounds_toArray, List.set_cons_zero, List.set_cons_succ] at hK ⊢
          obtain rfl := (h2 (by decide)).now
          clear h0 h1 h2 h3 h4 h5 h6 h7
          go_wp2
          exact hK _ _ (Ext.refl _) (fun _ _ => rfl)
        · intro wr hx v0 h0 v1 h1 v2 h2 v3 h3 v4 h4 v5 h5 v6 h6 v7 h7 K hK
          have p1 := (hx.cell (p := ⟨b, o + k, none⟩) hbw).trans hc1
          have p2 := (hx.cell (p := ⟨b', o' + k, none⟩) hbw').trans hc2
          simp only [Act.put, List.setIfInBounds_toArray, List.set_cons_zero, List.set_cons_succ] at hK ⊢
          clear h0 h1 h2 h3 h4 h5 h6 h7
          go_wp2
          exact hK _ _ (Ext.refl _) (fun _ _ => rfl)
        · intro wr hx v0 h0 v1 h1 v2 h2 v3 h3 v4 h4 v5 h5 v6 h6 v7 h7 K hK
          have p1 := (hx.cell (p := ⟨b, o + k, none⟩) hbw).trans hc1
          have p2 := (hx.cell (p := ⟨b', o' + k, none⟩) hbw').trans hc2
          simp only [Act.put, List.setIfInBounds_toArray, List.set_cons_zero, List.set_cons_succ] at hK ⊢
          clear h0 h1 h2 h3 h4 h5 h6 h7
          go_wp2
          exact hK _ _ (Ext.refl _) (fun _ _ => rfl)
        · intro wr hx v0 h0 v1 h1 v2 h2 v3 h3 v4 h4 v5 h5 v6 h6 v7 h7 K hK
          have p1 := (hx.cell (p := ⟨b, o + k, none⟩) hbw).trans hc1
          have p2 := (hx.cell (p := ⟨b', o' + k, none⟩) hbw').trans hc2
          simp only [Act.put, List.setIfInBounds_toArray, List.set_cons_zero, List.set_cons_succ] at hK ⊢
          obtain rfl := (h4 (by decide)).now
          obtain rfl := (h5 (by decide)).now
          clear h0 h1 h2 h3 h4 h5 h6 h7
          go_wp2
          exact hK _ _ (Ext.refl _) (fun _ _ => rfl)
        · intro wr hx v0 h0 v1 h1 v2 h2 v3 h3 v4 h4 v5 h5 v6 h6 v7 h7 K hK
          have p1 := (hx.cell (p := ⟨b, o + k, none⟩) hbw).trans hc1
          have p2 := (hx.cell (p := ⟨b', o' + k, none⟩) hbw').trans hc2
          simp only [Act.put, List.setIfInBounds_toArray, List.set_cons_zero, List.set_cons_succ] at hK ⊢
          obtain rfl := (h6 (by decide)).now
          clear h0 h1 h2 h3 h4 h5 h6 h7
          go_wp2
          exact hK _ _ (Ext.refl _) (fun _ _ => rfl)
        intro wr hx v0 h0 v1 h1 v2 h2 v3 h3 v4 h4 v5 h5 v6 h6 v7 h7
        have p1 := (hx.cell (p := ⟨b, o + k, none⟩) hbw).trans hc1
        have p2 := (hx.cell (p := ⟨b', o' + k, none⟩) hbw').trans hc2
        obtain rfl := h0.now
        obtain rfl := h1.now
        obtain rfl := h2.now
        obtain rfl := h3.now
        obtain rfl := h4.now
        obtain rfl := h5.now
        obtain rfl := h6.now
        obtain rfl := h7.now
        clear h0 h1 h2 h3 h4 h5 h6 h7
        refine tail_seq (by kernel_rfl) ?_
        simp only [List.drop_succ_cons, List.drop_zero, Act.put, List.setIfInBounds_toArray, List.set_cons_zero, List.set_cons_succ]
        go_wp2_with fail
        refine (refEqual_any _ B B' A1 A2 n1 c1 n2 c2 t t' (IS1.out.below (hx.mono (Nat.le_trans hB HD.out.size))) (IS2.out.below (hx.mono (Nat.le_trans hB' HD.out.size)))).mono ?_
        rintro e w5 ⟨rfl, hd5⟩
        have hb5 := bstep HD.out (bstep hx (hd5.below _))
        by_cases hzy : t = t'
        · have d1 : decide (t = t') = true := decide_eq_true hzy
          have hzy' : Hid (t = t') := Lib.hid hzy
          rw [d1]
          clear hzy d1
          go_wp2
          go_roundw
          case rel => exact ⟨k + 1, by omega, by go_num, take_next_row (by rw [HLX.out]; omega) (by rw [HLY.out]; omega) HTK.out htk.out (by rw [hzy'.out]; exact htk'.out), hb5⟩
          case measure => simp [intOf]; omega
        · have d1 : decide (t = t') = false := decide_eq_false hzy
          have hne : Hid (decide (xs = ys) = false) := Lib.hid (decide_eq_false fun e => hzy (by rw [← htk.out, ← htk'.out, e]))
          rw [d1]
          clear hzy d1
          go_wp2
          go_ret
          exact ⟨ret_bool hne.out.symm, hb5⟩
      · obtain rfl : k = n := by omega
        have hee : Hid (decide (xs = ys) = true) := Lib.hid (decide_eq_true (by have := HTK.out; rwa [List.take_of_length_le (Nat.le_of_eq HLX.out), List.take_of_length_le (Nat.le_of_eq HLY.out)] at this))
        clear h h'
        go_wp2
        go_ret
        exact ⟨ret_bool hee.out.symm, HD.out⟩
  · have d0 : ((n : Int) != (n' : Int)) = true := by simp; omega
    have d0' : (n != n') = true := by simp [hnn]
    have hne : Hid (decide (xs = ys) = false) := Lib.hid (decide_eq_false fun e => hnn (by rw [← HLX.out, ← HLY.out, e]))
    clear hnn h h'
    go_enter Try.func34, Try.ntmps34
    go_wp2
    go_ret
    exact ⟨ret_bool hne.out.symm, Below.refl _ _⟩

end Go.Proofs.Ythobfbnopkbniaa
