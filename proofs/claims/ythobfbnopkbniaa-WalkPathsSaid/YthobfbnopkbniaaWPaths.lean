/-
  The walk of the law WalkPaths; no conditions.
-/
import Derived.Test.YthobfbnopkbniaaWFars
import Derived.Test.YthobfbnopkbniaaWRefB
import Derived.Test.YthobfbnopkbniaaGDarts
namespace Go.Proofs.Ythobfbnopkbniaa
open Go.RowKit

theorem pathIs_at {es : List (Int × Int)} {xs : List Int} {f : Int → Option Int} {v d : Int} {l : List Int} (h : PathIs es xs f v (d :: l)) :
    d / 2 ∈ xs ∧ tail es d = v ∧ farN f v = (l.length : Int) + 1 ∧ (∀ d' ∈ dartsOf es v xs, d' < d → farN f (head es d') ≠ (l.length : Int)) ∧ PathIs es xs f (head es d) l := by
  obtain ⟨h1, h2, h3, h4, h5⟩ := h
  obtain ⟨g1, g2⟩ := mem_dartsOf.1 h2
  refine ⟨g1, g2, by unfold farN; rw [h1]; rfl, fun d' hd' hlt he => h4 d' hd' hlt ?_, h5⟩
  unfold farN at he
  cases hf : f (head es d') with
  | none =>
    rw [hf] at he
    have he' : (-1 : Int) = (l.length : Int) := he
    omega
  | some q => rw [hf] at he; simp at he; rw [he]

set_option maxHeartbeats 8000000 in
set_option maxRecDepth 100000 in
theorem law_WalkPaths (w : World) (N : Int) (A : Option Addr) (m c : Nat) (es : List (Int × Int)) (Av : Option Addr) (nv cv : Nat) (vs : List Int) (Ae : Option Addr) (ne ce : Nat) (xs : List Int) (a b : Int) (h : GP w N A m c es Av nv cv vs Ae ne ce xs) (_ha : I64 a) (_hb : I64 b) :
    Calls Try.prog 4 #[.agg #[.int .i64 N, .slice A m c], .agg #[.slice Av nv cv, .slice Ae ne ce], .int .i64 a, .int .i64 b] w fun e w' => e = .returned (.bool true) ∧ Below w.heap.size w w' := by
  obtain ⟨w1, hw1, b1, gb1⟩ := box_gp w N A m c es Av nv cv Ae ne ce
  have h1 := h.step b1
  clear h
  go_enter Try.func4, Try.ntmps4
  go_wp2_with fail
  refine (awake5_any w1).mono ?_
  rintro e w2 ⟨rfl, b2⟩
  have h2 := h1.step b2
  have gb2 := gb1.step b2
  replace b1 := bstep b1 b2
  clear hw1 h1 gb1 b2
  have ⟨_, _, c0, c1, c2, c3, _⟩ := gb2
  by_cases hs : Small N m nv ne
  · have hnv60 := hs.2.1
    have hne60 := hs.2.2.1
    have hm60 := hs.1
    have HS := Lib.hid hs
    clear hs
    go_wp2_with fail
    refine (small_yes w2 N A m c es Av nv cv vs Ae ne ce xs h2 HS.out).mono ?_
    rintro e w3 ⟨rfl, b3⟩
    have h3 := h2.step b3
    have gb3 := gb2.step b3
    replace b1 := bstep b1 b3
    clear h2 gb2 b3 c0 c1 c2 c3
    have ⟨_, _, c0, c1, c2, c3, _⟩ := gb3
    by_cases hc : pRight N es vs xs = 0 ∧ a ∈ vs ∧ b ∈ vs
    · have hp := Lib.hid (pRight_ok hc.1)
      have HR := Lib.hid hc.1
      have HAM := Lib.hid hc.2.1
      have HBM := Lib.hid hc.2.2
      clear hc
      go_wp2_with fail
      refine (path_yes w3 N A m c es Av nv cv vs Ae ne ce xs a b h3 HR.out HAM.out HBM.out).mono ?_
      rintro e w4 ⟨⟨f, ms, hri, hor⟩, b4⟩
      have h4 := h3.step b4
      have gb4 := gb3.step b4
      replace b1 := bstep b1 b4
      clear h3 gb3 b4 c0 c1 c2 c3
      have ⟨_, _, c0, c1, c2, c3, _⟩ := gb4
      have HRI := Lib.hid hri
      rcases hor with ⟨hn, rfl⟩ | ⟨A3, n3, d3, l, rfl, il, hpl⟩
      · have HN : Hid (farN f a = -1) := Lib.hid (by unfold farN; rw [hn]; rfl)
        clear hn hri
        go_wp2_with fail
        refine (refRightPart_any w4 N A m c es Av nv cv vs Ae ne ce xs h4).mono ?_
        rintro e w5 ⟨rfl, b5⟩
        rw [HR.out]
        have h5 := h4.step b5
        have gb5 := gb4.step b5
        replace b1 := bstep b1 b5
        clear h4 gb4 b5 c0 c1 c2 c3
        have ⟨_, _, c0, c1, c2, c3, _⟩ := gb5
        go_wp2_with fail
        refine (refFar_val w5 N A m c es Av nv cv vs Ae ne ce xs a b h5 hp.out HAM.out HBM.out HRI.out).mono ?_
        rintro e w6 ⟨rfl, b6⟩
        rw [HN.out]
        have B6 := Lib.hid (bstep b1 b6)
        clear b1 b6 gb5 c0 c1 c2 c3 h5
        go_wp2
        refine wp_loop_rounds 1 ?_
        rw [rounds_succ]
        go_wp2
        go_ret
        exact ⟨rfl, B6.out⟩
      · have hfa := hpl.len
        have HN : Hid (farN f a = (n3 : Int)) := Lib.hid (by unfold farN; rw [hfa, il.len]; rfl)
        have hn3 : n3 ≤ 1024 := by
          have h1 := hri.small a ((hri.mem a).2 (by rw [hfa]; rfl))
          rw [val_of hfa] at h1
          have := hri.len
          have := hp.out.lens
          have := il.len
          omega
        have HPL := Lib.hid hpl
        have hlen3 := il.len
        have hle3 := il.le
        have hcap3 := il.cap
        clear hri hpl hfa
        go_wp2_with fail
        refine (refRightPart_any w4 N A m c es Av nv cv vs Ae ne ce xs h4).mono ?_
        rintro e w5 ⟨rfl, b5⟩
        rw [HR.out]
        have h5 := h4.step b5
        have gb5 := gb4.step b5
        replace b1 := bstep b1 b5
        replace il := il.step b5
        clear h4 gb4 b5 c0 c1 c2 c3
        have ⟨_, _, c0, c1, c2, c3, _⟩ := gb5
        go_wp2_with fail
        refine (refFar_val w5 N A m c es Av nv cv vs Ae ne ce xs a b h5 hp.out HAM.out HBM.out HRI.out).mono ?_
        rintro e w6 ⟨rfl, b6⟩
        rw [HN.out]
        have h6 := h5.step b6
        have gb6 := gb5.step b6
        replace il := il.step b6
        have B6 := Lib.hid (bstep b1 b6)
        have H6 := Lib.hid h6
        have GB6 := Lib.hid gb6
        have IL := Lib.hid il
        have hmg := h6.g.len
        have hmc := h6.g.cap
        have hmle := h6.g.le
        have hce := h6.e.cap
        have hst : Hid (Below w6.heap.size w6 w6) := Lib.hid (Below.refl _ _)
        have HP0 : Hid (PathIs es xs f a (l.drop 0)) := HPL
        have hg6 := gb6.1
        have hp6 := gb6.2.1
        have dnn : ((n3 : Int) != (n3 : Int)) = false := by simp
        have hnn : (0 : Int) ≤ (n3 : Int) := by omega
        have dmx : max (n3 : Int) 0 = (n3 : Int) := by omega
        clear b1 b6 gb5 c0 c1 c2 c3 h5 h6 gb6 il
        go_wp2
        go_loopw [12, 13] (fun v i wr => ∃ (k : Nat) (u : Int), k ≤ n3 ∧ i = .int .i64 k ∧ v = .int .i64 u ∧ Hid (PathIs es xs f u (l.drop k)) ∧ Hid (Below w6.heap.size w6 wr)) (fun _ i _ => n3 - (intOf i).toNat)
        case atStart => exact ⟨0, a, Nat.zero_le _, rfl, rfl, HP0, hst⟩
        case round =>
          clear hst
          obtain ⟨k, u, hk, rfl, rfl, hpl, hbel⟩ := hrel
          have gb7 := GB6.out.step hbel.out
          have ⟨hg7, hp7, c0, c1, c2, c3, _⟩ := gb7
          by_cases hlt : k < n3
          · obtain ⟨b3, o3, d, rfl, hb3, hd, hd64, hcd⟩ := (IL.out.below hbel.out).get hlt
            have hdrop : l.drop k = d :: l.drop (k + 1) := drop_getD (by omega) hd.out
            have hpl2 := hpl.out
            rw [hdrop] at hpl2
            obtain ⟨hdx, htl, hfu, hleast, hnext⟩ := pathIs_at hpl2
            have hll : (l.drop (k + 1)).length = n3 - (k + 1) := by rw [List.length_drop, hlen3]
            rw [hll] at hfu hleast
            have hdr := hp.out.xr _ hdx
            have hd0 : 0 ≤ d := by omega
            have hd1 : d < 2 * m := by omega
            have hd2 := hd64.2
            have e0 : decide (d < 0) = false := by simp; omega
            have e1 : decide (2 * (m : Int) ≤ d) = false := by simp; omega
            have w2m : IntKind.i64.wrap (2 * (m : Int)) = 2 * (m : Int) := IntWalk.i64_in _ (by omega)
            have euu : (u != u) = false := by simp
            have hb3' : b3 < wr.heap.size := Nat.lt_of_lt_of_le hb3 hbel.out.size
            have H7 := Lib.hid (H6.out.step hbel.out)
            have hk0 : (0 : Int) ≤ (k : Int) := by omega
            have hk1 : (k : Int) < (n3 : Int) := by omega
            have HDX := Lib.hid hdx
            have HTL := Lib.hid htl
            have HFU := Lib.hid hfu
            have HLE := Lib.hid hleast
            have HNX := Lib.hid hnext
            have HLL := Lib.hid hll
            have HDR := Lib.hid hdrop
            have hn := After.has wr
            have k0 := After.cell hg7 c0
            have k1 := After.cell hg7 c1
            have k3 := After.cell hp7 c3
            have k4 := After.cell hb3' hcd
            have hdh0 : 0 ≤ d / 2 := by omega
            have HIn : ∀ x : After wr, Hid (Calls Try.prog 24 #[.slice Ae ne ce, .int .i64 (d / 2)] x.at_ fun e w' => e = .returned (.bool true) ∧ x.at_ = w') := fun x => Lib.hid (in_yes x.at_ _ Ae ne ce xs (d / 2) (H7.out.e.step x.below) HDX.out)
            have HTa : ∀ x : After wr, Hid (Calls Try.prog 30 #[.agg #[.int .i64 N, .slice A m c], .int .i64 d] x.at_ fun e w' => e = .returned (.int .i64 u) ∧ Below x.at_.heap.size x.at_ w') := fun x => Lib.hid (by
              have := refTail_any x.at_ _ N A m c es d (H7.out.g.step x.below) (Nat.le_refl _) hd0 hd1
              rwa [HTL.out] at this)
            clear hdx htl hfu hleast hnext hll hdrop hdr hpl2
            go_wp2
            refine wp_region_after (by kernel_rfl) (by kernel_rfl) ?_
            repeat (go_big_quiet_step ((first | (go_at_call 24; exact After.same (HIn _).out) | (go_at_call 30; exact After.call (HTa _).out))))
            refine wpQuiet_nil ?_
            intro _ hw'
            obtain ⟨x, rfl⟩ := hw'
            have hxb := x.below
            obtain ⟨wx, hwx⟩ : ∃ wx, x.at_ = wx := ⟨_, rfl⟩
            rw [hwx] at hxb ⊢
            clear hwx
            have H8 := Lib.hid (H7.out.step hxb)
            have gb8 := gb7.step hxb
            have ⟨_, _, c0, c1, c2, c3, _⟩ := gb8
            have HB8 := Lib.hid (hbel.out.trans (hxb.mono hbel.out.size))
            clear k0 k1 k3 k4 HIn HTa hn hxb gb7 hcd
            go_wp2_with fail
            refine (refDarts_any wx N A m c es Av nv cv vs Ae ne ce xs u H8.out (by omega) (by omega) (fun y hy => by have := hp.out.xr y hy; omega)).mono ?_
            rintro e w9 ⟨A9, n9, d9, rfl, im, b9⟩
            have hlen9 := im.len
            have hle9 := im.le
            have hcap9 := im.cap
            have H9 := Lib.hid (H8.out.step b9)
            have gb9 := gb8.step b9
            have HB9 := Lib.hid (HB8.out.trans (b9.mono HB8.out.size))
            have IM := Lib.hid im
            have GB9 := Lib.hid gb9
            have hst : Hid (Below w9.heap.size w9 w9) := Lib.hid (Below.refl _ _)
            have hil9 : Hid (IS w9 w9.heap.size (some ⟨b3, o3, none⟩) n3 d3 l) := Lib.hid ((IL.out.below HB9.out).more HB9.out.size)
            have hb3w : b3 < w9.heap.size := Nat.lt_of_lt_of_le hb3 HB9.out.size
            have hcd9 : w9.cell? ⟨b3, o3 + k, none⟩ = some (.int .i64 d) := by
              obtain ⟨b', o', e', _, hc', _⟩ := hil9.out.cellAt (i := k) (d := d) (by omega) hd.out
              injection e' with e'
              injection e' with e1 e2
              subst e1 e2
              exact hc'
            have HCD := Lib.hid hcd9
            clear b9 gb8 gb9 im c0 c1 c2 c3 hcd9
            go_wp2
            obtain ⟨wo, hwo⟩ : ∃ wo : World, wo = wr := ⟨_, rfl⟩
            rw [← hwo] at hbel
            clear hwo
            go_loopw [15] (fun i wr => ∃ j : Nat, j ≤ n9 ∧ i = .int .i64 j ∧ Hid (Below w9.heap.size w9 wr)) (fun i _ => n9 - (intOf i).toNat)
            case atStart => exact ⟨0, Nat.zero_le _, rfl, hst⟩
            case round =>
              clear hst
              obtain ⟨j, hj, rfl, hbj⟩ := hrel
              have gb10 := GB9.out.step hbj.out
              have ⟨hg10, hp10, c0, c1, c2, c3, _⟩ := gb10
              have H10 := Lib.hid (H9.out.step hbj.out)
              have hcd10 := (hbj.out.cell (p := ⟨b3, o3 + k, none⟩) hb3w).trans HCD.out
              have hb3w' : b3 < wr.heap.size := Nat.lt_of_lt_of_le hb3w hbj.out.size
              by_cases hjn : j < n9
              · obtain ⟨b4, o4, d', rfl, hb4, hd', hd'64, hcd'⟩ := (IM.out.below hbj.out).get hjn
                have hdm' : d' ∈ dartsOf es u xs := by rw [← hd'.out]; exact IM.out.mem hjn
                have hdx' := (mem_dartsOf.1 hdm').1
                have hdr' := hp.out.xr _ hdx'
                have hd0' : 0 ≤ d' := by omega
                have hd1' : d' < 2 * m := by omega
                have hb4' : b4 < wr.heap.size := Nat.lt_of_lt_of_le hb4 hbj.out.size
                have hn := After.has wr
                have k0 := After.cell hg10 c0
                have k1 := After.cell hg10 c1
                have k2 := After.cell hp10 c2
                have k3 := After.cell hp10 c3
                have k4 := After.cell hb3w' hcd10
                have k5 := After.cell hb4' hcd'
                have hj0 : (0 : Int) ≤ (j : Int) := by omega
                have hj1 : (j : Int) < (n9 : Int) := by omega
                by_cases hdd : d' < d
                · have hne := HLE.out d' hdm' hdd
                  have hhv := (head_in hp.out hdx').1
                  obtain ⟨y, hy⟩ : ∃ y, head es d' = y := ⟨_, rfl⟩
                  rw [hy] at hhv hne
                  obtain ⟨q, hq⟩ : ∃ q, farN f y = q := ⟨_, rfl⟩
                  rw [hq] at hne
                  have dlt : decide (d' < d) = true := by simp [hdd]
                  have wL1 : IntKind.i64.wrap ((n3 : Int) - (k : Int)) = (n3 : Int) - (k : Int) := IntWalk.i64_in _ (by omega)
                  have wL2 : IntKind.i64.wrap ((n3 : Int) - (k : Int) - 1) = (n3 : Int) - (k : Int) - 1 := IntWalk.i64_in _ (by omega)
                  have hqne : (q == (n3 : Int) - (k : Int) - 1) = false := by simp only [beq_eq_false_iff_ne]; omega
                  have HHd : ∀ x : After wr, Hid (Calls Try.prog 32 #[.agg #[.int .i64 N, .slice A m c], .int .i64 d'] x.at_ fun e w' => e = .returned (.int .i64 y) ∧ Below x.at_.heap.size x.at_ w') := fun x => Lib.hid (by
                    have := refHead_any x.at_ N A m c es d' (H10.out.g.step x.below) (by omega) hd0' hd1'
                    rwa [hy] at this)
                  have HFr : ∀ x : After wr, Hid (Calls Try.prog 29 #[.agg #[.int .i64 N, .slice A m c], .agg #[.slice Av nv cv, .slice Ae ne ce], .int .i64 y, .int .i64 b] x.at_ fun e w' => e = .returned (.int .i64 q) ∧ Below x.at_.heap.size x.at_ w') := fun x => Lib.hid (by
                    have := refFar_val x.at_ N A m c es Av nv cv vs Ae ne ce xs y b (H10.out.step x.below) hp.out hhv HBM.out HRI.out
                    rwa [hq] at this)
                  clear hne hdd hhv hy hq hdm' hdx' hdr'
                  go_wp2
                  refine wp_region_after (by kernel_rfl) (by kernel_rfl) ?_
                  repeat (go_big_quiet_step ((first | (go_at_call 32; exact After.call (HHd _).out) | (go_at_call 29; exact After.call (HFr _).out))))
                  refine wpQuiet_nil ?_
                  intro _ hw'
                  obtain ⟨x, rfl⟩ := hw'
                  have hxb := x.below
                  obtain ⟨wx, hwx⟩ : ∃ wx, x.at_ = wx := ⟨_, rfl⟩
                  rw [hwx] at hxb ⊢
                  clear hwx
                  have HBX := Lib.hid (hbj.out.trans (hxb.mono hbj.out.size))
                  clear k0 k1 k2 k3 k4 k5 HHd HFr hn hxb gb10 hcd' hcd10 c0 c1 c2 c3
                  go_wp2
                  go_roundw
                  case rel => exact ⟨j + 1, by omega, by go_num, HBX⟩
                  case measure => simp [intOf]; omega
                · have dlt : decide (d' < d) = false := by simp; omega
                  clear hdd hdm' hdx' hdr'
                  go_wp2
                  refine wp_region_after (by kernel_rfl) (by kernel_rfl) ?_
                  repeat (go_big_quiet_step (fail))
                  refine wpQuiet_nil ?_
                  intro _ hw'
                  obtain ⟨x, rfl⟩ := hw'
                  have hxb := x.below
                  obtain ⟨wx, hwx⟩ : ∃ wx, x.at_ = wx := ⟨_, rfl⟩
                  rw [hwx] at hxb ⊢
                  clear hwx
                  have HBX := Lib.hid (hbj.out.trans (hxb.mono hbj.out.size))
                  clear k0 k1 k2 k3 k4 k5 hn hxb gb10 hcd' hcd10 c0 c1 c2 c3
                  go_wp2
                  go_roundw
                  case rel => exact ⟨j + 1, by omega, by go_num, HBX⟩
                  case measure => simp [intOf]; omega
              · have hn := After.has wr
                have k0 := After.cell hg10 c0
                have k1 := After.cell hg10 c1
                have k4 := After.cell hb3w' hcd10
                obtain ⟨y, hy⟩ : ∃ y, head es d = y := ⟨_, rfl⟩
                have HHd : ∀ x : After wr, Hid (Calls Try.prog 32 #[.agg #[.int .i64 N, .slice A m c], .int .i64 d] x.at_ fun e w' => e = .returned (.int .i64 y) ∧ Below x.at_.heap.size x.at_ w') := fun x => Lib.hid (by
                  have := refHead_any x.at_ N A m c es d (H10.out.g.step x.below) (by omega) hd0 hd1
                  rwa [hy] at this)
                have HY := Lib.hid hy
                clear hy
                go_wp2
                refine wp_region_after (by kernel_rfl) (by kernel_rfl) ?_
                repeat (go_big_quiet_step ((go_at_call 32; exact After.call (HHd _).out)))
                refine wpQuiet_nil ?_
                intro _ hw'
                obtain ⟨x, rfl⟩ := hw'
                have hxb := x.below
                obtain ⟨wx, hwx⟩ : ∃ wx, x.at_ = wx := ⟨_, rfl⟩
                rw [hwx] at hxb ⊢
                clear hwx
                have HBX := Lib.hid (HB9.out.trans ((hbj.out.trans (hxb.mono hbj.out.size)).mono HB9.out.size))
                clear k0 k1 k4 HHd hn hxb gb10 hcd10 c0 c1 c2 c3
                go_wp2
                go_roundw
                case rel => exact ⟨k + 1, y, by omega, by go_num, rfl, Lib.hid (by rw [← HY.out]; exact HNX.out), HBX⟩
                case measure => simp [intOf]; omega
          · obtain rfl : k = n3 := by omega
            have hpe := hpl.out
            rw [List.drop_eq_nil_of_le (by omega)] at hpe
            have hub : u = b := by
              obtain ⟨n', hn', hw⟩ := HRI.out.way u 0 hpe
              have : n' = 0 := by omega
              subst this
              cases hw with
              | start => rfl
            have hubb : (u == b) = true := by simp [hub]
            clear hpe hub
            go_wp2
            go_ret
            exact ⟨rfl, bstep B6.out hbel.out⟩
    · have HC := Lib.hid hc
      clear hc
      go_wp2_with fail
      refine (path_no w3 N A m c es Av nv cv vs Ae ne ce xs a b h3 HC.out).mono ?_
      rintro e w4 ⟨rfl, b4⟩
      have h4 := h3.step b4
      have gb4 := gb3.step b4
      replace b1 := bstep b1 b4
      clear h3 gb3 b4 c0 c1 c2 c3
      have ⟨_, _, c0, c1, c2, c3, _⟩ := gb4
      obtain ⟨r, hr⟩ : ∃ r, pRight N es vs xs = r := ⟨_, rfl⟩
      have HR := Lib.hid hr
      by_cases hr0 : r = 0
      · subst hr0
        have HNA : Hid (¬ (a ∈ vs ∧ b ∈ vs)) := Lib.hid fun hh => HC.out ⟨hr, hh⟩
        clear hr
        go_wp2_with fail
        refine (refRightPart_any w4 N A m c es Av nv cv vs Ae ne ce xs h4).mono ?_
        rintro e w5 ⟨rfl, b5⟩
        rw [HR.out]
        have h5 := h4.step b5
        have gb5 := gb4.step b5
        replace b1 := bstep b1 b5
        clear h4 gb4 b5 c0 c1 c2 c3
        have ⟨_, _, c0, c1, c2, c3, _⟩ := gb5
        go_wp2_with fail
        refine (refFar_no w5 N A m c es Av nv cv vs Ae ne ce xs a b h5 HNA.out).mono ?_
        rintro e w6 ⟨rfl, b6⟩
        have B6 := Lib.hid (bstep b1 b6)
        clear b1 b6 gb5 c0 c1 c2 c3 h5
        go_wp2
        refine wp_loop_rounds 1 ?_
        rw [rounds_succ]
        go_wp2
        go_ret
        exact ⟨rfl, B6.out⟩
      · have hrb : (r != 0) = true := by simp [hr0]
        clear hr hr0
        go_wp2_with fail
        refine (refRightPart_any w4 N A m c es Av nv cv vs Ae ne ce xs h4).mono ?_
        rintro e w5 ⟨rfl, b5⟩
        rw [HR.out]
        go_wp2
        go_ret
        exact ⟨rfl, bstep b1 b5⟩
  ·
    have HS := Lib.hid hs
    clear hs
    go_wp2_with fail
    refine (small_no w2 N A m c es Av nv cv vs Ae ne ce xs h2 HS.out).mono ?_
    rintro e w3 ⟨rfl, b3⟩
    go_wp2_with fail
    refine (awake5_any w3).mono ?_
    rintro e w4 ⟨rfl, b4⟩
    go_wp2
    go_ret
    exact ⟨rfl, bstep (bstep b1 b3) b4⟩
end Go.Proofs.Ythobfbnopkbniaa
