/-
  The contract of traceryref04.RightPart; no conditions.
-/
import Derived.Test.YthobfbnopkbniaaGRight
namespace Go.Proofs.Ythobfbnopkbniaa
open Go.RowKit

theorem quiet_in {W : World} {B : Nat} {A : Option Addr} {n c : Nat} {xs : List Int} {x : Int} {v : Bool} (h : IS W B A n c xs) (hv : decide (x ∈ xs) = v) :
    Calls Try.prog 24 #[.slice A n c, .int .i64 x] W fun e w' => e = .returned (.bool v) ∧ ∃ m, w' = W.drewN m :=
  (in_any W B A n c xs x h).mono fun e w' ⟨he, hw⟩ => ⟨by rw [he, hv], 0, hw.symm⟩

theorem pRight_graph {N : Int} {es : List (Int × Int)} {vs xs : List Int} (h : gRight N es ≠ 0) : pRight N es vs xs = gRight N es := by unfold pRight; rw [if_pos h]
theorem pRight_lists {N : Int} {es : List (Int × Int)} {vs xs : List Int} (h : gRight N es = 0) (hr : ¬ (Rises vs N ∧ Rises xs es.length)) : pRight N es vs xs = 4 := by
  unfold pRight; rw [if_neg (by simp [h]), if_pos hr]
theorem pRight_ends {N : Int} {es : List (Int × Int)} {vs xs : List Int} (h : gRight N es = 0) (h1 : Rises vs N) (h2 : Rises xs es.length) {k : Nat} (hk : k < xs.length) (hb : ¬ EndsIn es vs (xs.getD k 0)) : pRight N es vs xs = 4 := by
  unfold pRight
  rw [if_neg (by simp [h]), if_neg fun hn => hn ⟨h1, h2⟩, if_neg]
  intro ha
  exact hb (ha _ (by rw [getD_idx hk]; exact List.getElem_mem hk))
theorem pRight_fine {N : Int} {es : List (Int × Int)} {vs xs : List Int} (h : gRight N es = 0) (h1 : Rises vs N) (h2 : Rises xs es.length) (hb : ∀ k, k < xs.length → EndsIn es vs (xs.getD k 0)) : pRight N es vs xs = 0 := by
  unfold pRight
  rw [if_neg (by simp [h]), if_neg fun hn => hn ⟨h1, h2⟩, if_pos]
  intro x hx
  obtain ⟨k, hk, rfl⟩ := List.getElem_of_mem hx
  have := hb k hk
  rwa [getD_idx hk] at this

set_option maxHeartbeats 4000000 in
set_option maxRecDepth 100000 in
theorem refRightPart_any (w : World) (N : Int) (A : Option Addr) (m c : Nat) (es : List (Int × Int)) (Av : Option Addr) (nv cv : Nat) (vs : List Int) (Ae : Option Addr) (ne ce : Nat) (xs : List Int) (h : GP w N A m c es Av nv cv vs Ae ne ce xs) :
    Calls Try.prog 28 #[.agg #[.int .i64 N, .slice A m c], .agg #[.slice Av nv cv, .slice Ae ne ce]] w fun e w' => e = .returned (.int .i64 (pRight N es vs xs)) ∧ Below w.heap.size w w' := by
  have hm := h.g.le
  have hc := h.g.cap
  have HL := Lib.hid h.g.len
  have HLV := Lib.hid h.v.len
  have HLE := Lib.hid h.e.len
  have hnv := h.v.le
  have hcv := h.v.cap
  have hne := h.e.le
  have hce := h.e.cap
  obtain ⟨w1, hw1, b1, gb1⟩ := box_gp w N A m c es Av nv cv Ae ne ce
  have h1 := h.step b1
  have ⟨_, _, c0, c1, c2, c3, _⟩ := gb1
  obtain ⟨r, hr⟩ : ∃ r, gRight N es = r := ⟨_, rfl⟩
  have HR := Lib.hid hr
  by_cases hr0 : r = 0
  · have hrb : (r != 0) = false := by simp [hr0]
    have HR0 := Lib.hid (hr.trans hr0)
    clear hr0
    by_cases hv : Rises vs N
    · by_cases he : Rises xs es.length
      · have HV := Lib.hid hv
        have HE := Lib.hid he
        have dv := decide_eq_true hv
        have de := decide_eq_true he
        rw [HL.out] at de
        have DV := Lib.hid dv
        have DE := Lib.hid de
        clear dv de hv he
        go_enter Try.func28, Try.ntmps28
        go_wp2_with fail
        clear hr
        refine (refRight_any w1 _ N A m c es h1.g (Nat.le_refl _) h1.n).mono ?_
        rintro e w2 ⟨rfl, b2⟩
        rw [HR.out]
        have h2 := h1.step b2
        have gb2 := gb1.step b2
        replace b1 := bstep b1 b2
        clear hw1 h1 c0 c1 c2 c3 gb1 b2
        have ⟨_, _, c0, c1, c2, c3, _⟩ := gb2
        go_wp2_with fail
        refine (refRises_any w2 _ Av nv cv vs N h2.v).mono ?_
        rintro e w3 ⟨rfl, d3⟩
        rw [DV.out]
        have b3 := d3.below w2.heap.size
        have h3 := h2.step b3
        have gb3 := gb2.step b3
        replace b1 := bstep b1 b3
        clear h2 c0 c1 c2 c3 gb2 b3 d3
        have ⟨_, _, c0, c1, c2, c3, _⟩ := gb3
        go_wp2_with fail
        refine (refRises_any w3 _ Ae ne ce xs m h3.e).mono ?_
        rintro e w4 ⟨rfl, d4⟩
        rw [DE.out]
        have b4 := d4.below w3.heap.size
        have h4 := h3.step b4
        have gb4 := gb3.step b4
        replace b1 := bstep b1 b4
        clear h3 c0 c1 c2 c3 gb3 b4 d4
        have ⟨_, _, c0, c1, c2, c3, _⟩ := gb4
        go_wp2
        go_loopw [6] (fun i wr => ∃ k : Nat, k ≤ ne ∧ i = .int .i64 k ∧ (∀ j, j < k → EndsIn es vs (xs.getD j 0)) ∧ Drawn w4 wr) (fun i _ => ne - (intOf i).toNat)
        case atStart => exact ⟨0, Nat.zero_le _, rfl, fun j hj => absurd hj (by omega), Drawn.refl _⟩
        case round =>
          obtain ⟨k, hk, rfl, hj, hd⟩ := hrel
          have HJ := Lib.hid hj
          have hbl := Lib.hid (b1.trans (hd.below _))
          replace h4 := h4.step (hd.below _)
          have gb5 := gb4.step (hd.below _)
          have HD := Lib.hid hd
          clear hj c0 c1 c2 c3 gb4 hd
          have ⟨_, _, c0, c1, c2, c3, _⟩ := gb5
          clear gb5
          by_cases hlt : k < ne
          · obtain ⟨be, oe, z, rfl, hbe, hz, hz64, hcz⟩ := h4.e.get hlt
            have hkl : Hid (k < xs.length) := Lib.hid (by rw [HLE.out]; exact hlt)
            have hzr := HE.out.1 z (hz.out ▸ h4.e.mem hlt)
            obtain ⟨q, rfl⟩ := Int.eq_ofNat_of_zero_le hzr.1
            have hqm : q < m := by have := hzr.2; have := HL.out; omega
            clear hzr
            obtain ⟨b, o, x, y, rfl, hb, hxy, hx64, hy64, hcx, hcy⟩ := h4.g.get hqm
            have hen : Hid (ends es ((xs.getD k 0)) = (x, y)) := Lib.hid (by rw [hz.out]; exact hxy.out)
            have hq0 : (0 : Int) ≤ (q : Int) := by omega
            have hq1 : (q : Int) < (m : Int) := by omega
            have HH := Lib.hid h4
            have HO := Lib.hid h
            clear h4 h
            by_cases hx : x ∈ vs
            · have DX := Lib.hid (decide_eq_true hx)
              by_cases hy : y ∈ vs
              · have DY := Lib.hid (decide_eq_true hy)
                have hst : Hid (EndsIn es vs (xs.getD k 0)) := Lib.hid (by unfold EndsIn; rw [hen.out]; exact ⟨hx, hy⟩)
                clear hx hy
                go_wp2
                go_quiet ((go_at_call 24; first | exact Calls.quiet_of (quiet_in (HH.out.v.drewN _) DX.out) | exact Calls.quiet_of (quiet_in (HH.out.v.drewN _) DY.out)))
                go_wp2
                go_roundw
                case rel =>
                  refine ⟨k + 1, by omega, by go_num, fun j hj => ?_, HD.out.add _⟩
                  rcases Nat.lt_or_ge j k with hjk | hjk
                  · exact HJ.out j hjk
                  · obtain rfl : j = k := by omega
                    exact hst.out
                case measure => simp [intOf]; omega
              · have DY := Lib.hid (decide_eq_false hy)
                have hst : Hid (¬ EndsIn es vs (xs.getD k 0)) := Lib.hid (by unfold EndsIn; rw [hen.out]; exact fun h => hy h.2)
                clear hx hy
                go_wp2
                go_quiet ((go_at_call 24; first | exact Calls.quiet_of (quiet_in (HH.out.v.drewN _) DX.out) | exact Calls.quiet_of (quiet_in (HH.out.v.drewN _) DY.out)))
                go_wp2
                go_ret
                exact ⟨ret_int (pRight_ends HR0.out HV.out HE.out hkl.out hst.out).symm, hbl.out.trans ((Drawn.of _ nq).below _)⟩
            · have DX := Lib.hid (decide_eq_false hx)
              have hst : Hid (¬ EndsIn es vs (xs.getD k 0)) := Lib.hid (by unfold EndsIn; rw [hen.out]; exact fun h => hx h.1)
              clear hx
              go_wp2
              go_quiet ((go_at_call 24; exact Calls.quiet_of (quiet_in (HH.out.v.drewN _) DX.out)))
              go_wp2
              go_ret
              exact ⟨ret_int (pRight_ends HR0.out HV.out HE.out hkl.out hst.out).symm, hbl.out.trans ((Drawn.of _ nq).below _)⟩
          · obtain rfl : k = ne := by omega
            go_wp2
            go_ret
            exact ⟨ret_int (pRight_fine HR0.out HV.out HE.out fun j hj => HJ.out j (by rw [← HLE.out]; exact hj)).symm, hbl.out⟩
      · have HV := Lib.hid hv
        have DV := Lib.hid (decide_eq_true hv)
        have de := decide_eq_false he
        rw [HL.out] at de
        have DE := Lib.hid de
        have hp : Hid (pRight N es vs xs = 4) := Lib.hid (pRight_lists HR0.out fun hh => he hh.2)
        clear de hv he
        go_enter Try.func28, Try.ntmps28
        go_wp2_with fail
        clear hr
        refine (refRight_any w1 _ N A m c es h1.g (Nat.le_refl _) h1.n).mono ?_
        rintro e w2 ⟨rfl, b2⟩
        rw [HR.out]
        have h2 := h1.step b2
        have gb2 := gb1.step b2
        replace b1 := bstep b1 b2
        clear hw1 h1 c0 c1 c2 c3 gb1 b2
        have ⟨_, _, c0, c1, c2, c3, _⟩ := gb2
        go_wp2_with fail
        refine (refRises_any w2 _ Av nv cv vs N h2.v).mono ?_
        rintro e w3 ⟨rfl, d3⟩
        rw [DV.out]
        have b3 := d3.below w2.heap.size
        have h3 := h2.step b3
        have gb3 := gb2.step b3
        replace b1 := bstep b1 b3
        clear h2 c0 c1 c2 c3 gb2 b3 d3
        have ⟨_, _, c0, c1, c2, c3, _⟩ := gb3
        go_wp2_with fail
        refine (refRises_any w3 _ Ae ne ce xs m h3.e).mono ?_
        rintro e w4 ⟨rfl, d4⟩
        rw [DE.out]
        go_wp2
        go_ret
        exact ⟨ret_int hp.out.symm, bstep b1 (d4.below _)⟩
    · have DV := Lib.hid (decide_eq_false hv)
      have hp : Hid (pRight N es vs xs = 4) := Lib.hid (pRight_lists HR0.out fun hh => hv hh.1)
      clear hv
      go_enter Try.func28, Try.ntmps28
      go_wp2_with fail
      clear hr
      refine (refRight_any w1 _ N A m c es h1.g (Nat.le_refl _) h1.n).mono ?_
      rintro e w2 ⟨rfl, b2⟩
      rw [HR.out]
      have h2 := h1.step b2
      have gb2 := gb1.step b2
      replace b1 := bstep b1 b2
      clear hw1 h1 c0 c1 c2 c3 gb1 b2
      have ⟨_, _, c0, c1, c2, c3, _⟩ := gb2
      go_wp2_with fail
      refine (refRises_any w2 _ Av nv cv vs N h2.v).mono ?_
      rintro e w3 ⟨rfl, d3⟩
      rw [DV.out]
      go_wp2
      go_ret
      exact ⟨ret_int hp.out.symm, bstep b1 (d3.below _)⟩
  · have hrb : (r != 0) = true := by simp [hr0]
    have hp : Hid (pRight N es vs xs = r) := Lib.hid ((pRight_graph (by rw [hr]; exact hr0)).trans hr)
    clear hr0
    go_enter Try.func28, Try.ntmps28
    go_wp2_with fail
    clear hr
    refine (refRight_any w1 _ N A m c es h1.g (Nat.le_refl _) h1.n).mono ?_
    rintro e w2 ⟨rfl, b2⟩
    rw [HR.out]
    go_wp2
    go_ret
    exact ⟨ret_int hp.out.symm, bstep b1 b2⟩

end Go.Proofs.Ythobfbnopkbniaa
