/-
  The walk of the law WalkPieces; no conditions.
-/
import Derived.Test.YthobfbnopkbniaaWFars
import Derived.Test.YthobfbnopkbniaaWJoined
import Derived.Test.YthobfbnopkbniaaWAnd
import Derived.Test.YthobfbnopkbniaaWPiecesP
namespace Go.Proofs.Ythobfbnopkbniaa
open Go.RowKit

theorem OwnP.part {w0 w : World} {v : Value} {n : Nat} {u : Nat → Value} {F : Nat → List Int} (h : OwnP w0 w v n u F) {i : Nat} (hi : i < n) :
    ∃ g c A1 m1 d1 A2 m2 d2, v = .slice (some ⟨g, 0, none⟩) n c ∧ n ≤ c ∧ c ≤ 9223372036854775807 ∧ g < w.heap.size ∧ w.cell? ⟨g, i * 2, none⟩ = some (.slice A1 m1 d1) ∧ w.cell? ⟨g, i * 2 + 1, none⟩ = some (.slice A2 m2 d2) ∧
      IS w w.heap.size A1 m1 d1 (F (i * 2)) ∧ IS w w.heap.size A2 m2 d2 (F (i * 2 + 1)) := by
  obtain ⟨g, c, rfl, h1, h2, _, h4, h5⟩ := h.at_ (i := i * 2) (by omega)
  obtain ⟨A1, m1, d1, e1, i1⟩ := (h.each (i * 2)).is
  obtain ⟨A2, m2, d2, e2, i2⟩ := (h.each (i * 2 + 1)).is
  exact ⟨g, c, A1, m1, d1, A2, m2, d2, rfl, h1, h2, h4, by rw [h5 _ (by omega), e1], by rw [h5 _ (by omega), e2], i1, i2⟩
theorem joined_yes (w : World) (N : Int) (A : Option Addr) (m c : Nat) (es : List (Int × Int)) (Av : Option Addr) (nv cv : Nat) (vs : List Int) (Ae : Option Addr) (ne ce : Nat) (xs : List Int) (h : GP w N A m c es Av nv cv vs Ae ne ce xs) (hr : pRight N es vs xs = 0) (hh : ∀ x ∈ vs, ∀ y ∈ vs, Hang es xs x y) :
    Calls Try.prog 50 #[.agg #[.int .i64 N, .slice A m c], .agg #[.slice Av nv cv, .slice Ae ne ce]] w fun e w' => e = .returned (.bool true) ∧ Below w.heap.size w w' :=
  (joined_any w N A m c es Av nv cv vs Ae ne ce xs h).mono fun e w' hx => by
    obtain ⟨b, he, hb, hbel⟩ := hx
    exact ⟨by rw [he, hb.2 ⟨hr, hh⟩], hbel⟩
theorem joined_no (w : World) (N : Int) (A : Option Addr) (m c : Nat) (es : List (Int × Int)) (Av : Option Addr) (nv cv : Nat) (vs : List Int) (Ae : Option Addr) (ne ce : Nat) (xs : List Int) (h : GP w N A m c es Av nv cv vs Ae ne ce xs) (hr : pRight N es vs xs ≠ 0) :
    Calls Try.prog 50 #[.agg #[.int .i64 N, .slice A m c], .agg #[.slice Av nv cv, .slice Ae ne ce]] w fun e w' => e = .returned (.bool false) ∧ Below w.heap.size w w' :=
  (joined_any w N A m c es Av nv cv vs Ae ne ce xs h).mono fun e w' hx => by
    obtain ⟨b, he, hb, hbel⟩ := hx
    refine ⟨?_, hbel⟩
    cases b with
    | false => exact he
    | true => exact absurd (hb.1 rfl).1 hr

set_option maxHeartbeats 16000000 in
set_option maxRecDepth 100000 in
theorem law_WalkPieces (w : World) (N : Int) (A : Option Addr) (m c : Nat) (es : List (Int × Int)) (Av : Option Addr) (nv cv : Nat) (vs : List Int) (Ae : Option Addr) (ne ce : Nat) (xs : List Int) (h : GP w N A m c es Av nv cv vs Ae ne ce xs) :
    Calls Try.prog 10 #[.agg #[.int .i64 N, .slice A m c], .agg #[.slice Av nv cv, .slice Ae ne ce]] w fun e w' => e = .returned (.bool true) ∧ Below w.heap.size w w' := by
  obtain ⟨w1, hw1, b1, gb1⟩ := box_gp w N A m c es Av nv cv Ae ne ce
  have h1 := h.step b1
  clear h
  go_enter Try.func10, Try.ntmps10
  go_wp2_with fail
  refine (awake5_any w1).mono ?_
  rintro e w2 ⟨rfl, b2⟩
  have h2 := h1.step b2
  have gb2 := gb1.step b2
  replace b1 := bstep b1 b2
  clear hw1 h1 gb1 b2
  have ⟨_, _, c0, c1, c2, c3, _⟩ := gb2
  by_cases hs : Small N m nv ne
  · have hnv60 := hs.2.1
    have hne60 := hs.2.2.1
    have HS := Lib.hid hs
    clear hs
    go_wp2_with fail
    refine (small_yes w2 N A m c es Av nv cv vs Ae ne ce xs h2 HS.out).mono ?_
    rintro e w3 ⟨rfl, b3⟩
    have h3 := h2.step b3
    have gb3 := gb2.step b3
    replace b1 := bstep b1 b3
    clear h2 gb2 b3 c0 c1 c2 c3
    have ⟨_, _, c0, c1, c2, c3, _⟩ := gb3
    go_wp2_with fail
    refine (pieces_any w3 N A m c es Av nv cv vs Ae ne ce xs h3).mono ?_
    rintro e w4 ⟨b4, hor⟩
    have h4 := h3.step b4
    have gb4 := gb3.step b4
    replace b1 := bstep b1 b4
    clear h3 gb3 b4 c0 c1 c2 c3
    have ⟨_, _, c0, c1, c2, c3, _⟩ := gb4
    rcases hor with ⟨hr, rfl⟩ | ⟨hr, v, n, f, u, F, rfl, hown, hpc, hfl⟩
    · have HR := Lib.hid hr
      obtain ⟨r, hrr⟩ : ∃ r, pRight N es vs xs = r := ⟨_, rfl⟩
      rw [hrr] at hr ⊢
      have hrb : (r != 0) = true := by simp [hr]
      clear hr hrr
      go_wp2_with fail
      refine (joined_no w4 N A m c es Av nv cv vs Ae ne ce xs h4 HR.out).mono ?_
      rintro e w5 ⟨rfl, b5⟩
      go_wp2
      go_ret
      exact ⟨rfl, bstep b1 b5⟩
    · have HR := Lib.hid hr
      have HP := Lib.hid (pRight_ok hr)
      obtain ⟨pA, pc, rfl⟩ := hown.len
      have hnl := hpc.le
      have hvl := (pRight_ok hr).lens
      have hlenv := h4.v.len
      have hlene := h4.e.len
      have H4 := Lib.hid h4
      have GB4 := Lib.hid gb4
      have B1 := Lib.hid b1
      have OW := Lib.hid hown
      have PC := Lib.hid hpc
      have FL := Lib.hid hfl
      have hst : Hid (Below w4.heap.size w4 w4) := Lib.hid (Below.refl _ _)
      have hgl := gb4.1
      have hpl := gb4.2.1
      have Z1 : Hid (inFirst f 0 vs = 0) := Lib.hid (inFirst_zero fun x _ i hi => by obtain ⟨j, hj, _⟩ := hpc.lt x i hi; omega)
      have Z2 : Hid (inFirst (fun e => f (ends es e).1) 0 xs = 0) := Lib.hid (inFirst_zero fun x _ i hi => by obtain ⟨j, hj, _⟩ := hpc.lt _ i hi; omega)
      clear hown hpc hfl h4 gb4 hr b1 c0 c1 c2 c3
      go_wp2
      go_loopw [7, 8, 9] (fun a b i wr => ∃ k p q : Nat, k ≤ n ∧ i = .int .i64 k ∧ a = .int .i64 p ∧ b = .int .i64 q ∧ Hid (inFirst f k vs = p) ∧ Hid (inFirst (fun e => f (ends es e).1) k xs = q) ∧ Hid (Below w4.heap.size w4 wr)) (fun _ _ i _ => n - (intOf i).toNat)
      case atStart => exact ⟨0, 0, 0, Nat.zero_le _, rfl, rfl, rfl, Z1, Z2, hst⟩
      case round =>
        clear hst
        obtain ⟨k, p, q, hk, rfl, rfl, rfl, HPS, HQS, hbel⟩ := hrel
        have gb7 := GB4.out.step hbel.out
        have ⟨hg7, hp7, c0, c1, c2, c3, _⟩ := gb7
        by_cases hlt : k < n
        · obtain ⟨g, cc, A1, m1, d1, A2, m2, d2, hsl, hnc, hcm, hgw, e0, e1, i1, i2⟩ := (OW.out.later hbel.out).part hlt
          cases hsl
          have I1 := Lib.hid i1
          have I2 := Lib.hid i2
          have HGP : ∀ x : After wr, Hid (GP x.at_ N A m c es A1 m1 d1 (F (k * 2)) A2 m2 d2 (F (k * 2 + 1))) := fun x => Lib.hid ⟨(H4.out.g.step hbel.out).step x.below, H4.out.n, i1.step x.below, i2.step x.below⟩
          have HJ : ∀ x : After wr, Hid (Calls Try.prog 50 #[.agg #[.int .i64 N, .slice A m c], .agg #[.slice A1 m1 d1, .slice A2 m2 d2]] x.at_ fun e w' => e = .returned (.bool true) ∧ Below x.at_.heap.size x.at_ w') := fun x => Lib.hid (joined_yes x.at_ N A m c es A1 m1 d1 _ A2 m2 d2 _ (HGP x).out (FL.out.right HR.out PC.out k) (FL.out.hang HP.out PC.out k))
          have hm1 : m1 ≠ 0 := fun e => FL.out.some_ PC.out hlt (List.eq_nil_of_length_eq_zero (i1.len.trans e))
          have d10 : ((m1 : Int) == 0) = false := by simp; omega
          have hn := After.has wr
          have k0 := After.cell hg7 c0
          have k1 := After.cell hg7 c1
          have k2 := After.cell hgw e0
          have k3 := After.cell hgw e1
          have hk0 : (0 : Int) ≤ (k : Int) := by omega
          have hk1 : (k : Int) < (n : Int) := by omega
          have HPS' : Hid (inFirst f (k + 1) vs = p + m1) := Lib.hid (by rw [inFirst_succ, HPS.out, ← (FL.out k).1, i1.len])
          have HQS' : Hid (inFirst (fun e => f (ends es e).1) (k + 1) xs = q + m2) := Lib.hid (by rw [inFirst_succ, HQS.out, ← (FL.out k).2, i2.len])
          have hpb : p + m1 ≤ 1024 := by rw [← HPS'.out]; exact Nat.le_trans (List.length_filter_le _ _) hvl.1
          have hqb : q + m2 ≤ 1024 := by rw [← HQS'.out]; exact Nat.le_trans (List.length_filter_le _ _) hvl.2.1
          have hl1 := i1.le
          have hl2 := i2.le
          have hx1 := i1.cap
          have hx2 := i2.cap
          clear HGP i1 i2 c0 c1 c2 c3
          go_wp2
          refine wp_region_after (by kernel_rfl) (by kernel_rfl) ?_
          repeat (go_big_quiet_step ((go_at_call 50; exact After.call (HJ _).out)))
          refine wpQuiet_nil ?_
          intro _ hw'
          obtain ⟨x, rfl⟩ := hw'
          have hxb := x.below
          obtain ⟨wx, hwx⟩ : ∃ wx, x.at_ = wx := ⟨_, rfl⟩
          rw [hwx] at hxb ⊢
          clear hwx
          have e0' := (hxb.cell (p := ⟨g, k * 2, none⟩) hgw).trans e0
          have e1' := (hxb.cell (p := ⟨g, k * 2 + 1, none⟩) hgw).trans e1
          have HBX : Hid (Below w4.heap.size w4 wx) := Lib.hid (bstep hbel.out hxb)
          clear k0 k1 k2 k3 HJ hn hxb e0 e1 hbel gb7
          go_wp2
          clear e0' e1'
          go_loopw [10] (fun j wy => ∃ s : Nat, s ≤ k ∧ j = .int .i64 s ∧ Hid (Below w4.heap.size w4 wy)) (fun j _ => k - (intOf j).toNat)
          case atStart => exact ⟨0, Nat.zero_le _, rfl, HBX⟩
          case round =>
            clear HBX
            obtain ⟨s, hsk, rfl, hbel⟩ := hrel
            by_cases hls : s < k
            · have OL := OW.out.later hbel.out
              obtain ⟨g1, cc1, A3, m3, d3, A4, m4, d4, hsl, _, _, hgw', e0, e1, i1, i2⟩ := OL.part hlt
              cases hsl
              obtain ⟨g2, cc2, A5, m5, d5, A6, m6, d6, hsl, _, _, _, e2, e3, i3, i4⟩ := OL.part (show s < n by omega)
              cases hsl
              have hap := FL.out.apart (show k ≠ s by omega)
              have HA1 : ∀ x : After wr, Hid (Calls Try.prog 51 #[.slice A3 m3 d3, .slice A5 m5 d5] x.at_ fun e w' => e = .returned (.slice none 0 0) ∧ x.at_ = w') := fun x => Lib.hid (and_none x.at_ _ _ A3 A5 m3 d3 m5 d5 _ _ (i1.step x.below) (i3.step x.below) hap.1)
              have HA2 : ∀ x : After wr, Hid (Calls Try.prog 51 #[.slice A4 m4 d4, .slice A6 m6 d6] x.at_ fun e w' => e = .returned (.slice none 0 0) ∧ x.at_ = w') := fun x => Lib.hid (and_none x.at_ _ _ A4 A6 m4 d4 m6 d6 _ _ (i2.step x.below) (i4.step x.below) hap.2)
              have hn := After.has wr
              have k0 := After.cell hgw' e0
              have k1 := After.cell hgw' e1
              have k2 := After.cell hgw' e2
              have k3 := After.cell hgw' e3
              have hs0 : (0 : Int) ≤ (s : Int) := by omega
              have hs1 : (s : Int) < (n : Int) := by omega
              have hs2 : (s : Int) < (k : Int) := by omega
              clear OL i1 i2 i3 i4 hap e0 e1 e2 e3
              go_wp2
              refine wp_region_after (by kernel_rfl) (by kernel_rfl) ?_
              repeat (go_big_quiet_step ((go_at_call 51; first | (with_reducible exact After.same (HA1 _).out) | (with_reducible exact After.same (HA2 _).out))))
              refine wpQuiet_nil ?_
              intro _ hw'
              obtain ⟨x, rfl⟩ := hw'
              have hxb := x.below
              obtain ⟨wx, hwx⟩ : ∃ wx, x.at_ = wx := ⟨_, rfl⟩
              rw [hwx] at hxb ⊢
              clear hwx
              have HBY : Hid (Below w4.heap.size w4 wx) := Lib.hid (bstep hbel.out hxb)
              clear k0 k1 k2 k3 HA1 HA2 hn hxb hbel
              go_wp2
              go_roundw
              case rel => exact ⟨s + 1, by omega, by go_num, HBY⟩
              case measure => simp [intOf]; omega
            · obtain rfl : s = k := by omega
              go_wp2
              go_roundw
              case rel => exact ⟨s + 1, p + m1, q + m2, by omega, by go_num, by go_num, by go_num, HPS', HQS', hbel⟩
              case measure => simp [intOf]; omega
        · obtain rfl : k = n := by omega
          have hpe : p = nv := by
            rw [← HPS.out, inFirst_all (n := k) fun x hx => ?_, hlenv]
            obtain ⟨i, hi⟩ := Option.isSome_iff_exists.1 (PC.out.all x hx)
            obtain ⟨j, hj, hjn⟩ := PC.out.lt x i hi
            exact ⟨j, by rw [hi, hj], hjn⟩
          have hqe : q = ne := by
            rw [← HQS.out, inFirst_all (n := k) fun x hx => ?_, hlene]
            obtain ⟨i, hi⟩ := Option.isSome_iff_exists.1 (PC.out.all _ (HP.out.ends x hx).1)
            obtain ⟨j, hj, hjn⟩ := PC.out.lt _ i hi
            exact ⟨j, by rw [← hj]; exact hi, hjn⟩
          replace hpe := hpe.symm
          replace hqe := hqe.symm
          subst hpe
          subst hqe
          have HGP : GP wr N A m c es Av nv cv vs Ae ne ce xs := H4.out.step hbel.out
          go_wp2_with fail
          refine (joined_any wr N A m c es Av nv cv vs Ae ne ce xs HGP).mono ?_
          rintro e w9 ⟨b, rfl, hb, b9⟩
          have HB9 := Lib.hid (bstep B1.out (bstep hbel.out b9))
          have hone := PC.out.one HP.out
          by_cases hn1 : k ≤ 1
          · have hbt : b = true := hb.2 ⟨HR.out, hone.1 hn1⟩
            subst hbt
            have d1 : decide ((k : Int) ≤ 1) = true := by simp; omega
            clear hb b9 hone HGP c0 c1 c2 c3
            go_wp2
            go_ret
            exact ⟨rfl, HB9.out⟩
          · have hbt : b = false := by
              cases b with
              | false => rfl
              | true => exact absurd (hone.2 (hb.1 rfl).2) hn1
            subst hbt
            have d1 : decide ((k : Int) ≤ 1) = false := by simp; omega
            clear hb b9 hone HGP c0 c1 c2 c3
            go_wp2
            go_ret
            exact ⟨rfl, HB9.out⟩
  ·
    have HS := Lib.hid hs
    clear hs
    go_wp2_with fail
    refine (small_no w2 N A m c es Av nv cv vs Ae ne ce xs h2 HS.out).mono ?_
    rintro e w3 ⟨rfl, b3⟩
    go_wp2_with fail
    refine (awake5_any w3).mono ?_
    rintro e w4 ⟨rfl, b4⟩
    go_wp2
    go_ret
    exact ⟨rfl, bstep (bstep b1 b3) b4⟩
end Go.Proofs.Ythobfbnopkbniaa
