/-
  The law FaceOnce. No conditions.
-/
import Derived.Test.YthobfbnopkbniaaVFOnceP
import Derived.Test.YthobfbnopkbniaaFaceD
namespace Go.Proofs.Ythobfbnopkbniaa
open Go.RowKit

set_option maxHeartbeats 8000000 in
set_option maxRecDepth 100000 in
theorem law_FaceOnce (w : World) (N : Int) (A : Option Addr) (m c : Nat) (es : List (Int × Int)) (Av : Option Addr) (nv cv : Nat) (vs : List Int) (Ae : Option Addr) (ne ce : Nat) (xs : List Int) (At : Option Addr) (nt ct : Nat) (tt : List (List Int)) (h : GP w N A m c es Av nv cv vs Ae ne ce xs) (ht : TS w w.heap.size At nt ct tt) :
    Calls Try.prog 12 #[.agg #[.int .i64 N, .slice A m c], .agg #[.slice Av nv cv, .slice Ae ne ce], .slice At nt ct] w fun e w' => e = .returned (.bool true) ∧ Below w.heap.size w w' := by
  obtain ⟨w1, hw1, b1, gb1⟩ := box_gp w N A m c es Av nv cv Ae ne ce
  have h1 := h.step b1
  have t1 := ht.step b1
  clear h ht
  go_enter Try.func12, Try.ntmps12
  go_wp2_with fail
  refine (awakeFace w1).mono ?_
  rintro e w2 ⟨rfl, b2⟩
  have h2 := h1.step b2
  have t2 := t1.step b2
  have gb2 := gb1.step b2
  replace b1 := bstep b1 b2
  clear hw1 h1 t1 gb1 b2
  have ⟨_, _, c0, c1, c2, c3, _⟩ := gb2
  go_wp2_with fail
  refine (small6_any w2 N A m c es Av nv cv vs Ae ne ce xs At nt ct tt h2 t2).mono ?_
  rintro e w3 ⟨⟨hs, rfl⟩ | ⟨hs, rfl⟩, b3⟩
  · have h3 := h2.step b3
    have t3 := t2.step b3
    have gb3 := gb2.step b3
    replace b1 := bstep b1 b3
    clear h2 t2 gb2 b3 c0 c1 c2 c3
    have ⟨_, _, c0, c1, c2, c3, _⟩ := gb3
    have hm60 := hs.1.1
    have hne60 := hs.1.2.2.1
    clear hs
    go_wp2_with fail
    refine (walks_any w3 N A m c es Av nv cv vs Ae ne ce xs At nt ct tt h3 t3 hm60 hne60).mono ?_
    rintro e w4 ⟨⟨hp, hT, AL, nL, cL, rfl, hL⟩ | ⟨hno, rfl⟩, b4⟩
    · have h4 := h3.step b4
      have gb4 := gb3.step b4
      replace b1 := bstep b1 b4
      have hpk := Lib.hid (pRight_ok hp)
      have hlen := h4.e.len
      have HCNT := Lib.hid (walks_count (pRight_ok hp) hT)
      have HND := Lib.hid (walks_nodup (pRight_ok hp) hT)
      have HRISE := Lib.hid (walks_rise (tt := tt) (pRight_ok hp))
      have HGOOD := Lib.hid (walks_good (pRight_ok hp) hT).1
      have HFST := Lib.hid (fun p h => walk_first (tt := tt) (p := p) (pRight_ok hp) h)
      have hxl := xs_len (pRight_ok hp)
      have hLl := walks_len (tt := tt) (pRight_ok hp)
      obtain ⟨L, hLe⟩ : ∃ L, walksOf es tt vs xs = L := ⟨_, rfl⟩
      rw [hLe] at hL HCNT HND HRISE HGOOD HFST hLl
      have hnL := hL.le
      have hcL := hL.cap
      have hll := Lib.hid hL.len
      have hnL4 : nL ≤ 4096 := by have := hL.len; omega
      have HL := Lib.hid hL
      have GB4 := Lib.hid gb4
      have B1 := Lib.hid b1
      have hcn2 := h4.e.cap
      have hle2 := h4.e.le
      clear h3 t3 gb3 b4 c0 c1 c2 c3 hL hLe hp hT h4 gb4 b1
      go_wp2
      have hst : Own w4 w4 (.slice none 0 0) (flatW (L.take 0)) := Own.start w4
      go_loopw [9, 10] (fun v i wr => ∃ k : Nat, k ≤ nL ∧ i = .int .i64 k ∧ Own w4 wr v (flatW (L.take k))) (fun _ i _ => nL - (intOf i).toNat)
      case atStart => exact ⟨0, Nat.zero_le _, rfl, hst⟩
      case round =>
        clear hst
        obtain ⟨k, hk, rfl, hown⟩ := hrel
        obtain ⟨mA, mn, mc, rfl⟩ := hown.slice_
        have hbel := hown.below
        by_cases hlt : k < nL
        · obtain ⟨bL, oL, y, ds, A1, n1, k1, rfl, hbL, hgd, hy64, hcy4, hcd4, isd⟩ := HL.out.get hlt
          have hkl : Hid (k < L.length) := Lib.hid (by have := hll.out; omega)
          have l1 := isd.le
          have cap1 := isd.cap
          have len1 := isd.len
          have hmemL : (y, ds) ∈ L := by rw [← hgd.out]; exact HL.out.mem hlt
          obtain ⟨hf0, hf1⟩ := HFST.out _ hmemL
          have hgood := HGOOD.out _ hmemL
          dsimp only at hf0 hf1 hgood
          have hds4 : ds.length ≤ 2048 := by
            have h1 := (flatW_sub (L := L) (k := k + 1)).length_le
            rw [flatW_step hkl.out hgd.out, HCNT.out, List.length_append] at h1
            omega
          have hbLr : bL < wr.heap.size := Nat.lt_of_lt_of_le hbL hbel.size
          have hcy := (hbel.cell (p := ⟨bL, oL + k * 2, none⟩) hbL).trans hcy4
          have hcd := (hbel.cell (p := ⟨bL, oL + k * 2 + 1, none⟩) hbL).trans hcd4
          have HCY := Lib.hid hcy4
          have HCD := Lib.hid hcd4
          have HISD := Lib.hid isd
          have HOWN := Lib.hid hown
          have hkint : (0 : Int) ≤ (k : Int) := by omega
          clear hcy4 hcd4
          by_cases hk0 : k = 0
          · have d2 : decide ((0 : Int) < (k : Int)) = false := by simp [hk0]
            have d2' : decide (0 < k) = false := by simp [hk0]
            clear hk0
            by_cases hz1 : n1 = 0
            · have hyn := hf0 (List.eq_nil_of_length_eq_zero (by omega))
              have hd1 : decide (0 ≤ y) = false := decide_eq_false (by omega)
              have d4 : decide ((0 : Int) < (n1 : Int)) = false := by simp [hz1]
              have d4' : decide (0 < n1) = false := by simp [hz1]
              have d5 : ((n1 : Int) == 0) = true := by simp [hz1]
              have d5' : (n1 == 0) = true := by simp [hz1]
              clear hf0 hf1 hgood isd hown hbel
              go_wp2
              go_quiet (fail)
              obtain ⟨wy, hwy⟩ : ∃ wy, wr.drewN nq = wy := ⟨_, rfl⟩
              have hx : Ext wr wy := by rw [← hwy]; exact (Drawn.of _ _).below _
              rw [hwy]
              clear hwy
              have hst : Own w4 wy (.slice mA mn mc) (flatW (L.take k) ++ ds.take 0) := by rw [List.take_zero, List.append_nil]; exact HOWN.out.later hx
              have hcy := (hx.cell (p := ⟨bL, oL + k * 2, none⟩) hbLr).trans hcy
              have hcd := (hx.cell (p := ⟨bL, oL + k * 2 + 1, none⟩) hbLr).trans hcd
              clear hx
              go_wp2
              clear hcy hcd
              go_loopw [9, 11] (fun v i wi => ∃ t : Nat, t ≤ n1 ∧ i = .int .i64 t ∧ Own w4 wi v (flatW (L.take k) ++ ds.take t)) (fun _ i _ => n1 - (intOf i).toNat)
              case atStart => exact ⟨0, Nat.zero_le _, rfl, hst⟩
              case round =>
                clear hst
                obtain ⟨t, ht, rfl, hown⟩ := hrel
                obtain ⟨mA', mn', mc', rfl⟩ := hown.slice_
                have hbel := hown.below
                by_cases hlt1 : t < n1
                · exact absurd hlt1 (by omega)
                ·
                  obtain rfl : t = n1 := by omega
                  rw [List.take_of_length_le (l := ds) (by omega), ← flatW_step hkl.out hgd.out] at hown
                  have hcy := (hbel.cell (p := ⟨bL, oL + k * 2, none⟩) hbL).trans HCY.out
                  have hcd := (hbel.cell (p := ⟨bL, oL + k * 2 + 1, none⟩) hbL).trans HCD.out
                  have HOW := Lib.hid hown
                  clear hown hbel
                  go_wp2
                  go_roundw
                  case rel => exact ⟨k + 1, by omega, by go_num, HOW.out⟩
                  case measure => simp [intOf]; omega
            ·
              have d4 : decide ((0 : Int) < (n1 : Int)) = true := by simp; omega
              have d4' : decide (0 < n1) = true := by simp; omega
              have d5 : ((n1 : Int) == 0) = false := by simp [hz1]
              have d5' : (n1 == 0) = false := by simp [hz1]
              have hn1p : 0 < n1 := by omega
              obtain ⟨b1, o1, z1, rfl, hb1, hz1', hz164, hcz1⟩ := isd.get hn1p
              have hz1y : z1 = y := by rw [← hz1'.out]; exact hf1 (fun e => by rw [e] at len1; simp at len1; omega)
              rw [hz1y] at hcz1
              have hc1 := (hbel.cell (p := ⟨b1, o1 + 0, none⟩) hb1).trans hcz1
              rw [Nat.add_zero] at hc1
              have hyy2 : (y != y) = false := by simp
              clear hz1 hz1' hz1y hcz1
              clear hf0 hf1 isd hown hbel
              go_wp2
              go_quiet (fail)
              obtain ⟨wy, hwy⟩ : ∃ wy, wr.drewN nq = wy := ⟨_, rfl⟩
              have hx : Ext wr wy := by rw [← hwy]; exact (Drawn.of _ _).below _
              rw [hwy]
              clear hwy
              have hst : Own w4 wy (.slice mA mn mc) (flatW (L.take k) ++ ds.take 0) := by rw [List.take_zero, List.append_nil]; exact HOWN.out.later hx
              have hcy := (hx.cell (p := ⟨bL, oL + k * 2, none⟩) hbLr).trans hcy
              have hcd := (hx.cell (p := ⟨bL, oL + k * 2 + 1, none⟩) hbLr).trans hcd
              clear hx
              go_wp2
              clear hcy hcd
              go_loopw [9, 11] (fun v i wi => ∃ t : Nat, t ≤ n1 ∧ i = .int .i64 t ∧ Own w4 wi v (flatW (L.take k) ++ ds.take t)) (fun _ i _ => n1 - (intOf i).toNat)
              case atStart => exact ⟨0, Nat.zero_le _, rfl, hst⟩
              case round =>
                clear hst
                obtain ⟨t, ht, rfl, hown⟩ := hrel
                obtain ⟨mA, mn, mc, rfl⟩ := hown.slice_
                have hbel := hown.below
                by_cases hlt1 : t < n1
                · have HNEW := Lib.hid (flatW_new HND.out hkl.out hgd.out (by omega) (rfl : ds.getD t 0 = ds.getD t 0))
                  obtain ⟨b2, o2, z, hA2, hb1, hz, hz64, hcz⟩ := HISD.out.get hlt1
                  injection hA2 with hA2
                  injection hA2 with e1 e2
                  subst e1 e2
                  rw [hz.out] at HNEW
                  have hcz := (hbel.cell (p := ⟨b1, o1 + t, none⟩) hb1).trans hcz
                  have hcy := (hbel.cell (p := ⟨bL, oL + k * 2, none⟩) hbL).trans HCY.out
                  have hcd := (hbel.cell (p := ⟨bL, oL + k * 2 + 1, none⟩) hbL).trans HCD.out
                  have hbLr : bL < wr.heap.size := Nat.lt_of_lt_of_le hbL hbel.size
                  have hb1r : b1 < wr.heap.size := Nat.lt_of_lt_of_le hb1 hbel.size
                  have hzy : decide (z < y) = false := decide_eq_false (by
                    have := hgood z (by rw [← hz.out, getD_idx (by omega)]; exact List.getElem_mem _)
                    omega)
                  have HMIS : Hid (IS wr wr.heap.size mA mn mc (flatW (L.take k) ++ ds.take t)) := Lib.hid (by
                    obtain ⟨A', n', c', e, his⟩ := hown.is
                    injection e with e1 e2 e3
                    subst e1 e2 e3
                    exact his)
                  have hml : Hid ((flatW (L.take k) ++ ds.take t).length + 1 ≤ 1000000000000) := Lib.hid (by
                    have h1 := (flatW_sub (L := L) (k := k)).length_le
                    have h2 : (ds.take t).length ≤ t := List.length_take_le _ _
                    have h3 := hds4
                    rw [HCNT.out] at h1
                    rw [List.length_append]
                    omega)
                  have HOWN2 := Lib.hid hown
                  have htl : Hid (ds.take (t + 1) = ds.take t ++ [z]) := Lib.hid (take_getD (by omega) hz.out)
                  clear hown hbel
                  go_wp2
                  refine wp_region_rel 26 [[],[],[],[1,2],[1,2,3],[1,2,3,4],[],[1,2,3,4,5,6],[1,2,3,4,5,6,7],[0,1,2,3,4,5,6,7,8],[0,1,2,3,4,5,6,7,8,9],[0,1,2,3,4,5,6,7,8,9,10],[0,1,2,3,4,5,6,7,8,9,10],[0,1,2,3,4,5,6,7,8,9,10,11,12],[0,1,2,3,4,5,6,7,8,9,10,11,12,13],[0,1,2,3,4,5,6,7,8,9,10,11,12,13,14],[0,1,2,3,4,5,6,7,8,9,10],[0,1,2,3,4,5,6,7,8,9,10,11,12,13,14,15,16],[0,1,2,3,4,5,6,7,8,9,10,11,12,13,14,15,16,17],[0,1,2,3,4,5,6,7,8,9,10],[0,1,2,3,4,5,6,7,8,9,10],[0,1,2,3,4,5,6,7,8,9,10,19,20],[0,1,2,3,4,5,6,7,8,9,10,19,20,21],[0,1,2,3,4,5,6,7,8,9,10,19,20,21,22],[0,1,2,3,4,5,6,7,8,9,10,11,12,13,14,15,16,17,18,19,20,21,22,23],[0,1,2,3,4,5,6,7,8,9,10,11,12,13,14,15,16,17,18,19,20,21,22,23,24]]
                    [fun x _ => x = .slice mA mn mc,
                     fun x _ => x = .slice (some ⟨bL, oL, none⟩) nL cL,
                     fun x _ => x = .int .i64 k,
                     fun x _ => x = .pointer (some ⟨bL, oL + k * 2, none⟩),
                     fun x _ => x = .pointer (some ⟨bL, oL + k * 2 + 1, none⟩),
                     fun x _ => x = .slice (some ⟨b1, o1, none⟩) n1 k1,
                     fun x _ => x = .int .i64 t,
                     fun x _ => x = .pointer (some ⟨b1, o1 + t, none⟩),
                     fun x _ => x = .int .i64 z,
                     fun x _ => x = .bool false,
                     fun x _ => x = .bool false,
                     fun x _ => x = .slice (some ⟨bL, oL, none⟩) nL cL,
                     fun x _ => x = .int .i64 k,
                     fun x _ => x = .pointer (some ⟨bL, oL + k * 2, none⟩),
                     fun x _ => x = .pointer (some ⟨bL, oL + k * 2 + 1, none⟩),
                     fun x _ => x = .slice (some ⟨b1, o1, none⟩) n1 k1,
                     fun x _ => x = .int .i64 t,
                     fun x _ => x = .pointer (some ⟨b1, o1 + t, none⟩),
                     fun x _ => x = .int .i64 z,
                     fun x _ => x = .slice (some ⟨bL, oL, none⟩) nL cL,
                     fun x _ => x = .int .i64 k,
                     fun x _ => x = .pointer (some ⟨bL, oL + k * 2, none⟩),
                     fun x _ => x = .pointer (some ⟨bL, oL + k * 2, none⟩),
                     fun x _ => x = .int .i64 y,
                     fun x _ => x = .bool false,
                     fun x _ => x = .bool false]
                    (by kernel_rfl) (by kernel_rfl) rfl ⟨?_, ?_, ?_, ?_, ?_, ?_, ?_, ?_, ?_, ?_, ?_, ?_, ?_, ?_, ?_, ?_, ?_, ?_, ?_, ?_, ?_, ?_, ?_, ?_, ?_, ?_, trivial⟩ ?_
                  · intro wr hx v0 h0 v1 h1 v2 h2 v3 h3 v4 h4 v5 h5 v6 h6 v7 h7 v8 h8 v9 h9 v10 h10 v11 h11 v12 h12 v13 h13 v14 h14 v15 h15 v16 h16 v17 h17 v18 h18 v19 h19 v20 h20 v21 h21 v22 h22 v23 h23 v24 h24 v25 h25 K hK
                    have p0 := (hx.cell (p := ⟨bL, oL + k * 2, none⟩) hbLr).trans hcy
                    have p1 := (hx.cell (p := ⟨bL, oL + k * 2 + 1, none⟩) hbLr).trans hcd
                    have p2 := (hx.cell (p := ⟨b1, o1 + t, none⟩) hb1r).trans hcz
                    simp only [Act.put, List.setIfInBounds_toArray, List.set_cons_zero, List.set_cons_succ] at hK ⊢
                    clear h0 h1 h2 h3 h4 h5 h6 h7 h8 h9 h10 h11 h12 h13 h14 h15 h16 h17 h18 h19 h20 h21 h22 h23 h24 h25
                    go_wp2
                    exact hK _ _ (Ext.refl _) (fun _ _ => rfl)
                  · intro wr hx v0 h0 v1 h1 v2 h2 v3 h3 v4 h4 v5 h5 v6 h6 v7 h7 v8 h8 v9 h9 v10 h10 v11 h11 v12 h12 v13 h13 v14 h14 v15 h15 v16 h16 v17 h17 v18 h18 v19 h19 v20 h20 v21 h21 v22 h22 v23 h23 v24 h24 v25 h25 K hK
                    have p0 := (hx.cell (p := ⟨bL, oL + k * 2, none⟩) hbLr).trans hcy
                    have p1 := (hx.cell (p := ⟨bL, oL + k * 2 + 1, none⟩) hbLr).trans hcd
                    have p2 := (hx.cell (p := ⟨b1, o1 + t, none⟩) hb1r).trans hcz
                    simp only [Act.put, List.setIfInBounds_toArray, List.set_cons_zero, List.set_cons_succ] at hK ⊢
                    clear h0 h1 h2 h3 h4 h5 h6 h7 h8 h9 h10 h11 h12 h13 h14 h15 h16 h17 h18 h19 h20 h21 h22 h23 h24 h25
                    go_wp2
                    exact hK _ _ (Ext.refl _) (fun _ _ => rfl)
                  · intro wr hx v0 h0 v1 h1 v2 h2 v3 h3 v4 h4 v5 h5 v6 h6 v7 h7 v8 h8 v9 h9 v10 h10 v11 h11 v12 h12 v13 h13 v14 h14 v15 h15 v16 h16 v17 h17 v18 h18 v19 h19 v20 h20 v21 h21 v22 h22 v23 h23 v24 h24 v25 h25 K hK
                    have p0 := (hx.cell (p := ⟨bL, oL + k * 2, none⟩) hbLr).trans hcy
                    have p1 := (hx.cell (p := ⟨bL, oL + k * 2 + 1, none⟩) hbLr).trans hcd
                    have p2 := (hx.cell (p := ⟨b1, o1 + t, none⟩) hb1r).trans hcz
                    simp only [Act.put, List.setIfInBounds_toArray, List.set_cons_zero, List.set_cons_succ] at hK ⊢
                    clear h0 h1 h2 h3 h4 h5 h6 h7 h8 h9 h10 h11 h12 h13 h14 h15 h16 h17 h18 h19 h20 h21 h22 h23 h24 h25
                    go_wp2
                    exact hK _ _ (Ext.refl _) (fun _ _ => rfl)
                  · intro wr hx v0 h0 v1 h1 v2 h2 v3 h3 v4 h4 v5 h5 v6 h6 v7 h7 v8 h8 v9 h9 v10 h10 v11 h11 v12 h12 v13 h13 v14 h14 v15 h15 v16 h16 v17 h17 v18 h18 v19 h19 v20 h20 v21 h21 v22 h22 v23 h23 v24 h24 v25 h25 K hK
                    have p0 := (hx.cell (p := ⟨bL, oL + k * 2, none⟩) hbLr).trans hcy
                    have p1 := (hx.cell (p := ⟨bL, oL + k * 2 + 1, none⟩) hbLr).trans hcd
                    have p2 := (hx.cell (p := ⟨b1, o1 + t, none⟩) hb1r).trans hcz
                    simp only [Act.put, List.setIfInBounds_toArray, List.set_cons_zero, List.set_cons_succ] at hK ⊢
                    obtain rfl := (h1 (by decide)).now
                    obtain rfl := (h2 (by decide)).now
                    clear h0 h1 h2 h3 h4 h5 h6 h7 h8 h9 h10 h11 h12 h13 h14 h15 h16 h17 h18 h19 h20 h21 h22 h23 h24 h25
                    go_wp2
                    exact hK _ _ (Ext.refl _) (fun _ _ => rfl)
                  · intro wr hx v0 h0 v1 h1 v2 h2 v3 h3 v4 h4 v5 h5 v6 h6 v7 h7 v8 h8 v9 h9 v10 h10 v11 h11 v12 h12 v13 h13 v14 h14 v15 h15 v16 h16 v17 h17 v18 h18 v19 h19 v20 h20 v21 h21 v22 h22 v23 h23 v24 h24 v25 h25 K hK
                    have p0 := (hx.cell (p := ⟨bL, oL + k * 2, none⟩) hbLr).trans hcy
                    have p1 := (hx.cell (p := ⟨bL, oL + k * 2 + 1, none⟩) hbLr).trans hcd
                    have p2 := (hx.cell (p := ⟨b1, o1 + t, none⟩) hb1r).trans hcz
                    simp only [Act.put, List.setIfInBounds_toArray, List.set_cons_zero, List.set_cons_succ] at hK ⊢
                    obtain rfl := (h3 (by decide)).now
                    clear h0 h1 h2 h3 h4 h5 h6 h7 h8 h9 h10 h11 h12 h13 h14 h15 h16 h17 h18 h19 h20 h21 h22 h23 h24 h25
                    go_wp2
                    exact hK _ _ (Ext.refl _) (fun _ _ => rfl)
                  · intro wr hx v0 h0 v1 h1 v2 h2 v3 h3 v4 h4 v5 h5 v6 h6 v7 h7 v8 h8 v9 h9 v10 h10 v11 h11 v12 h12 v13 h13 v14 h14 v15 h15 v16 h16 v17 h17 v18 h18 v19 h19 v20 h20 v21 h21 v22 h22 v23 h23 v24 h24 v25 h25 K hK
                    have p0 := (hx.cell (p := ⟨bL, oL + k * 2, none⟩) hbLr).trans hcy
                    have p1 := (hx.cell (p := ⟨bL, oL + k * 2 + 1, none⟩) hbLr).trans hcd
                    have p2 := (hx.cell (p := ⟨b1, o1 + t, none⟩) hb1r).trans hcz
                    simp only [Act.put, List.setIfInBounds_toArray, List.set_cons_zero, List.set_cons_succ] at hK ⊢
                    obtain rfl := (h4 (by decide)).now
                    clear h0 h1 h2 h3 h4 h5 h6 h7 h8 h9 h10 h11 h12 h13 h14 h15 h16 h17 h18 h19 h20 h21 h22 h23 h24 h25
                    go_wp2
                    exact hK _ _ (Ext.refl _) (fun _ _ => rfl)
                  · intro wr hx v0 h0 v1 h1 v2 h2 v3 h3 v4 h4 v5 h5 v6 h6 v7 h7 v8 h8 v9 h9 v10 h10 v11 h11 v12 h12 v13 h13 v14 h14 v15 h15 v16 h16 v17 h17 v18 h18 v19 h19 v20 h20 v21 h21 v22 h22 v23 h23 v24 h24 v25 h25 K hK
                    have p0 := (hx.cell (p := ⟨bL, oL + k * 2, none⟩) hbLr).trans hcy
                    have p1 := (hx.cell (p := ⟨bL, oL + k * 2 + 1, none⟩) hbLr).trans hcd
                    have p2 := (hx.cell (p := ⟨b1, o1 + t, none⟩) hb1r).trans hcz
                    simp only [Act.put, List.setIfInBounds_toArray, List.set_cons_zero, List.set_cons_succ] at hK ⊢
                    clear h0 h1 h2 h3 h4 h5 h6 h7 h8 h9 h10 h11 h12 h13 h14 h15 h16 h17 h18 h19 h20 h21 h22 h23 h24 h25
                    go_wp2
                    exact hK _ _ (Ext.refl _) (fun _ _ => rfl)
                  · intro wr hx v0 h0 v1 h1 v2 h2 v3 h3 v4 h4 v5 h5 v6 h6 v7 h7 v8 h8 v9 h9 v10 h10 v11 h11 v12 h12 v13 h13 v14 h14 v15 h15 v16 h16 v17 h17 v18 h18 v19 h19 v20 h20 v21 h21 v22 h22 v23 h23 v24 h24 v25 h25 K hK
                    have p0 := (hx.cell (p := ⟨bL, oL + k * 2, none⟩) hbLr).trans hcy
                    have p1 := (hx.cell (p := ⟨bL, oL + k * 2 + 1, none⟩) hbLr).trans hcd
                    have p2 := (hx.cell (p := ⟨b1, o1 + t, none⟩) hb1r).trans hcz
                    simp only [Act.put, List.setIfInBounds_toArray, List.set_cons_zero, List.set_cons_succ] at hK ⊢
                    obtain rfl := (h5 (by decide)).now
                    obtain rfl := (h6 (by decide)).now
                    clear h0 h1 h2 h3 h4 h5 h6 h7 h8 h9 h10 h11 h12 h13 h14 h15 h16 h17 h18 h19 h20 h21 h22 h23 h24 h25
                    go_wp2
                    exact hK _ _ (Ext.refl _) (fun _ _ => rfl)
                  · intro wr hx v0 h0 v1 h1 v2 h2 v3 h3 v4 h4 v5 h5 v6 h6 v7 h7 v8 h8 v9 h9 v10 h10 v11 h11 v12 h12 v13 h13 v14 h14 v15 h15 v16 h16 v17 h17 v18 h18 v19 h19 v20 h20 v21 h21 v22 h22 v23 h23 v24 h24 v25 h25 K hK
                    have p0 := (hx.cell (p := ⟨bL, oL + k * 2, none⟩) hbLr).trans hcy
                    have p1 := (hx.cell (p := ⟨bL, oL + k * 2 + 1, none⟩) hbLr).trans hcd
                    have p2 := (hx.cell (p := ⟨b1, o1 + t, none⟩) hb1r).trans hcz
                    simp only [Act.put, List.setIfInBounds_toArray, List.set_cons_zero, List.set_cons_succ] at hK ⊢
                    obtain rfl := (h7 (by decide)).now
                    clear h0 h1 h2 h3 h4 h5 h6 h7 h8 h9 h10 h11 h12 h13 h14 h15 h16 h17 h18 h19 h20 h21 h22 h23 h24 h25
                    go_wp2
                    exact hK _ _ (Ext.refl _) (fun _ _ => rfl)
                  · intro wr hx v0 h0 v1 h1 v2 h2 v3 h3 v4 h4 v5 h5 v6 h6 v7 h7 v8 h8 v9 h9 v10 h10 v11 h11 v12 h12 v13 h13 v14 h14 v15 h15 v16 h16 v17 h17 v18 h18 v19 h19 v20 h20 v21 h21 v22 h22 v23 h23 v24 h24 v25 h25 K hK
                    have p0 := (hx.cell (p := ⟨bL, oL + k * 2, none⟩) hbLr).trans hcy
                    have p1 := (hx.cell (p := ⟨bL, oL + k * 2 + 1, none⟩) hbLr).trans hcd
                    have p2 := (hx.cell (p := ⟨b1, o1 + t, none⟩) hb1r).trans hcz
                    simp only [Act.put, List.setIfInBounds_toArray, List.set_cons_zero, List.set_cons_succ] at hK ⊢
                    obtain rfl := (h0 (by decide)).now
                    obtain rfl := (h8 (by decide)).now
                    clear h0 h1 h2 h3 h4 h5 h6 h7 h8 h9 h10 h11 h12 h13 h14 h15 h16 h17 h18 h19 h20 h21 h22 h23 h24 h25
                    go_wp2_with fail
                    refine (in_no wr _ mA mn mc _ z (HMIS.out.step hx) HNEW.out).mono ?_
                    rintro e w' ⟨rfl, rfl⟩
                    go_wp2
                    exact hK _ _ (Ext.refl _) (fun _ _ => rfl)
                  · intro wr hx v0 h0 v1 h1 v2 h2 v3 h3 v4 h4 v5 h5 v6 h6 v7 h7 v8 h8 v9 h9 v10 h10 v11 h11 v12 h12 v13 h13 v14 h14 v15 h15 v16 h16 v17 h17 v18 h18 v19 h19 v20 h20 v21 h21 v22 h22 v23 h23 v24 h24 v25 h25 K hK
                    have p0 := (hx.cell (p := ⟨bL, oL + k * 2, none⟩) hbLr).trans hcy
                    have p1 := (hx.cell (p := ⟨bL, oL + k * 2 + 1, none⟩) hbLr).trans hcd
                    have p2 := (hx.cell (p := ⟨b1, o1 + t, none⟩) hb1r).trans hcz
                    simp only [Act.put, List.setIfInBounds_toArray, List.set_cons_zero, List.set_cons_succ] at hK ⊢
                    obtain rfl := (h9 (by decide)).now
                    clear h0 h1 h2 h3 h4 h5 h6 h7 h8 h9 h10 h11 h12 h13 h14 h15 h16 h17 h18 h19 h20 h21 h22 h23 h24 h25
                    go_wp2
                    exact hK _ _ (Ext.refl _) (fun _ _ => rfl)
                  · intro wr hx v0 h0 v1 h1 v2 h2 v3 h3 v4 h4 v5 h5 v6 h6 v7 h7 v8 h8 v9 h9 v10 h10 v11 h11 v12 h12 v13 h13 v14 h14 v15 h15 v16 h16 v17 h17 v18 h18 v19 h19 v20 h20 v21 h21 v22 h22 v23 h23 v24 h24 v25 h25 K hK
                    have p0 := (hx.cell (p := ⟨bL, oL + k * 2, none⟩) hbLr).trans hcy
                    have p1 := (hx.cell (p := ⟨bL, oL + k * 2 + 1, none⟩) hbLr).trans hcd
                    have p2 := (hx.cell (p := ⟨b1, o1 + t, none⟩) hb1r).trans hcz
                    simp only [Act.put, List.setIfInBounds_toArray, List.set_cons_zero, List.set_cons_succ] at hK ⊢
                    obtain rfl := (h10 (by decide)).now
                    clear h0 h1 h2 h3 h4 h5 h6 h7 h8 h9 h10 h11 h12 h13 h14 h15 h16 h17 h18 h19 h20 h21 h22 h23 h24 h25
                    go_wp2
                    exact hK _ _ (Ext.refl _) (fun _ _ => rfl)
                  · intro wr hx v0 h0 v1 h1 v2 h2 v3 h3 v4 h4 v5 h5 v6 h6 v7 h7 v8 h8 v9 h9 v10 h10 v11 h11 v12 h12 v13 h13 v14 h14 v15 h15 v16 h16 v17 h17 v18 h18 v19 h19 v20 h20 v21 h21 v22 h22 v23 h23 v24 h24 v25 h25 K hK
                    have p0 := (hx.cell (p := ⟨bL, oL + k * 2, none⟩) hbLr).trans hcy
                    have p1 := (hx.cell (p := ⟨bL, oL + k * 2 + 1, none⟩) hbLr).trans hcd
                    have p2 := (hx.cell (p := ⟨b1, o1 + t, none⟩) hb1r).trans hcz
                    simp only [Act.put, List.setIfInBounds_toArray, List.set_cons_zero, List.set_cons_succ] at hK ⊢
                    obtain rfl := (h10 (by decide)).now
                    clear h0 h1 h2 h3 h4 h5 h6 h7 h8 h9 h10 h11 h12 h13 h14 h15 h16 h17 h18 h19 h20 h21 h22 h23 h24 h25
                    go_wp2
                    exact hK _ _ (Ext.refl _) (fun _ _ => rfl)
                  · intro wr hx v0 h0 v1 h1 v2 h2 v3 h3 v4 h4 v5 h5 v6 h6 v7 h7 v8 h8 v9 h9 v10 h10 v11 h11 v12 h12 v13 h13 v14 h14 v15 h15 v16 h16 v17 h17 v18 h18 v19 h19 v20 h20 v21 h21 v22 h22 v23 h23 v24 h24 v25 h25 K hK
                    have p0 := (hx.cell (p := ⟨bL, oL + k * 2, none⟩) hbLr).trans hcy
                    have p1 := (hx.cell (p := ⟨bL, oL + k * 2 + 1, none⟩) hbLr).trans hcd
                    have p2 := (hx.cell (p := ⟨b1, o1 + t, none⟩) hb1r).trans hcz
                    simp only [Act.put, List.setIfInBounds_toArray, List.set_cons_zero, List.set_cons_succ] at hK ⊢
                    obtain rfl := (h10 (by decide)).now
                    obtain rfl := (h11 (by decide)).now
                    obtain rfl := (h12 (by decide)).now
                    clear h0 h1 h2 h3 h4 h5 h6 h7 h8 h9 h10 h11 h12 h13 h14 h15 h16 h17 h18 h19 h20 h21 h22 h23 h24 h25
                    go_wp2
                    exact hK _ _ (Ext.refl _) (fun _ _ => rfl)
                  · intro wr hx v0 h0 v1 h1 v2 h2 v3 h3 v4 h4 v5 h5 v6 h6 v7 h7 v8 h8 v9 h9 v10 h10 v11 h11 v12 h12 v13 h13 v14 h14 v15 h15 v16 h16 v17 h17 v18 h18 v19 h19 v20 h20 v21 h21 v22 h22 v23 h23 v24 h24 v25 h25 K hK
                    have p0 := (hx.cell (p := ⟨bL, oL + k * 2, none⟩) hbLr).trans hcy
                    have p1 := (hx.cell (p := ⟨bL, oL + k * 2 + 1, none⟩) hbLr).trans hcd
                    have p2 := (hx.cell (p := ⟨b1, o1 + t, none⟩) hb1r).trans hcz
                    simp only [Act.put, List.setIfInBounds_toArray, List.set_cons_zero, List.set_cons_succ] at hK ⊢
                    obtain rfl := (h10 (by decide)).now
                    obtain rfl := (h13 (by decide)).now
                    clear h0 h1 h2 h3 h4 h5 h6 h7 h8 h9 h10 h11 h12 h13 h14 h15 h16 h17 h18 h19 h20 h21 h22 h23 h24 h25
                    go_wp2
                    exact hK _ _ (Ext.refl _) (fun _ _ => rfl)
                  · intro wr hx v0 h0 v1 h1 v2 h2 v3 h3 v4 h4 v5 h5 v6 h6 v7 h7 v8 h8 v9 h9 v10 h10 v11 h11 v12 h12 v13 h13 v14 h14 v15 h15 v16 h16 v17 h17 v18 h18 v19 h19 v20 h20 v21 h21 v22 h22 v23 h23 v24 h24 v25 h25 K hK
                    have p0 := (hx.cell (p := ⟨bL, oL + k * 2, none⟩) hbLr).trans hcy
                    have p1 := (hx.cell (p := ⟨bL, oL + k * 2 + 1, none⟩) hbLr).trans hcd
                    have p2 := (hx.cell (p := ⟨b1, o1 + t, none⟩) hb1r).trans hcz
                    simp only [Act.put, List.setIfInBounds_toArray, List.set_cons_zero, List.set_cons_succ] at hK ⊢
                    obtain rfl := (h10 (by decide)).now
                    obtain rfl := (h14 (by decide)).now
                    clear h0 h1 h2 h3 h4 h5 h6 h7 h8 h9 h10 h11 h12 h13 h14 h15 h16 h17 h18 h19 h20 h21 h22 h23 h24 h25
                    go_wp2
                    exact hK _ _ (Ext.refl _) (fun _ _ => rfl)
                  · intro wr hx v0 h0 v1 h1 v2 h2 v3 h3 v4 h4 v5 h5 v6 h6 v7 h7 v8 h8 v9 h9 v10 h10 v11 h11 v12 h12 v13 h13 v14 h14 v15 h15 v16 h16 v17 h17 v18 h18 v19 h19 v20 h20 v21 h21 v22 h22 v23 h23 v24 h24 v25 h25 K hK
                    have p0 := (hx.cell (p := ⟨bL, oL + k * 2, none⟩) hbLr).trans hcy
                    have p1 := (hx.cell (p := ⟨bL, oL + k * 2 + 1, none⟩) hbLr).trans hcd
                    have p2 := (hx.cell (p := ⟨b1, o1 + t, none⟩) hb1r).trans hcz
                    simp only [Act.put, List.setIfInBounds_toArray, List.set_cons_zero, List.set_cons_succ] at hK ⊢
                    obtain rfl := (h10 (by decide)).now
                    clear h0 h1 h2 h3 h4 h5 h6 h7 h8 h9 h10 h11 h12 h13 h14 h15 h16 h17 h18 h19 h20 h21 h22 h23 h24 h25
                    go_wp2
                    exact hK _ _ (Ext.refl _) (fun _ _ => rfl)
                  · intro wr hx v0 h0 v1 h1 v2 h2 v3 h3 v4 h4 v5 h5 v6 h6 v7 h7 v8 h8 v9 h9 v10 h10 v11 h11 v12 h12 v13 h13 v14 h14 v15 h15 v16 h16 v17 h17 v18 h18 v19 h19 v20 h20 v21 h21 v22 h22 v23 h23 v24 h24 v25 h25 K hK
                    have p0 := (hx.cell (p := ⟨bL, oL + k * 2, none⟩) hbLr).trans hcy
                    have p1 := (hx.cell (p := ⟨bL, oL + k * 2 + 1, none⟩) hbLr).trans hcd
                    have p2 := (hx.cell (p := ⟨b1, o1 + t, none⟩) hb1r).trans hcz
                    simp only [Act.put, List.setIfInBounds_toArray, List.set_cons_zero, List.set_cons_succ] at hK ⊢
                    obtain rfl := (h10 (by decide)).now
                    obtain rfl := (h15 (by decide)).now
                    obtain rfl := (h16 (by decide)).now
                    clear h0 h1 h2 h3 h4 h5 h6 h7 h8 h9 h10 h11 h12 h13 h14 h15 h16 h17 h18 h19 h20 h21 h22 h23 h24 h25
                    go_wp2
                    exact hK _ _ (Ext.refl _) (fun _ _ => rfl)
                  · intro wr hx v0 h0 v1 h1 v2 h2 v3 h3 v4 h4 v5 h5 v6 h6 v7 h7 v8 h8 v9 h9 v10 h10 v11 h11 v12 h12 v13 h13 v14 h14 v15 h15 v16 h16 v17 h17 v18 h18 v19 h19 v20 h20 v21 h21 v22 h22 v23 h23 v24 h24 v25 h25 K hK
                    have p0 := (hx.cell (p := ⟨bL, oL + k * 2, none⟩) hbLr).trans hcy
                    have p1 := (hx.cell (p := ⟨bL, oL + k * 2 + 1, none⟩) hbLr).trans hcd
                    have p2 := (hx.cell (p := ⟨b1, o1 + t, none⟩) hb1r).trans hcz
                    simp only [Act.put, List.setIfInBounds_toArray, List.set_cons_zero, List.set_cons_succ] at hK ⊢
                    obtain rfl := (h10 (by decide)).now
                    obtain rfl := (h17 (by decide)).now
                    clear h0 h1 h2 h3 h4 h5 h6 h7 h8 h9 h10 h11 h12 h13 h14 h15 h16 h17 h18 h19 h20 h21 h22 h23 h24 h25
                    go_wp2
                    exact hK _ _ (Ext.refl _) (fun _ _ => rfl)
                  · intro wr hx v0 h0 v1 h1 v2 h2 v3 h3 v4 h4 v5 h5 v6 h6 v7 h7 v8 h8 v9 h9 v10 h10 v11 h11 v12 h12 v13 h13 v14 h14 v15 h15 v16 h16 v17 h17 v18 h18 v19 h19 v20 h20 v21 h21 v22 h22 v23 h23 v24 h24 v25 h25 K hK
                    have p0 := (hx.cell (p := ⟨bL, oL + k * 2, none⟩) hbLr).trans hcy
                    have p1 := (hx.cell (p := ⟨bL, oL + k * 2 + 1, none⟩) hbLr).trans hcd
                    have p2 := (hx.cell (p := ⟨b1, o1 + t, none⟩) hb1r).trans hcz
                    simp only [Act.put, List.setIfInBounds_toArray, List.set_cons_zero, List.set_cons_succ] at hK ⊢
                    obtain rfl := (h10 (by decide)).now
                    clear h0 h1 h2 h3 h4 h5 h6 h7 h8 h9 h10 h11 h12 h13 h14 h15 h16 h17 h18 h19 h20 h21 h22 h23 h24 h25
                    go_wp2
                    exact hK _ _ (Ext.refl _) (fun _ _ => rfl)
                  · intro wr hx v0 h0 v1 h1 v2 h2 v3 h3 v4 h4 v5 h5 v6 h6 v7 h7 v8 h8 v9 h9 v10 h10 v11 h11 v12 h12 v13 h13 v14 h14 v15 h15 v16 h16 v17 h17 v18 h18 v19 h19 v20 h20 v21 h21 v22 h22 v23 h23 v24 h24 v25 h25 K hK
                    have p0 := (hx.cell (p := ⟨bL, oL + k * 2, none⟩) hbLr).trans hcy
                    have p1 := (hx.cell (p := ⟨bL, oL + k * 2 + 1, none⟩) hbLr).trans hcd
                    have p2 := (hx.cell (p := ⟨b1, o1 + t, none⟩) hb1r).trans hcz
                    simp only [Act.put, List.setIfInBounds_toArray, List.set_cons_zero, List.set_cons_succ] at hK ⊢
                    obtain rfl := (h10 (by decide)).now
                    clear h0 h1 h2 h3 h4 h5 h6 h7 h8 h9 h10 h11 h12 h13 h14 h15 h16 h17 h18 h19 h20 h21 h22 h23 h24 h25
                    go_wp2
                    exact hK _ _ (Ext.refl _) (fun _ _ => rfl)
                  · intro wr hx v0 h0 v1 h1 v2 h2 v3 h3 v4 h4 v5 h5 v6 h6 v7 h7 v8 h8 v9 h9 v10 h10 v11 h11 v12 h12 v13 h13 v14 h14 v15 h15 v16 h16 v17 h17 v18 h18 v19 h19 v20 h20 v21 h21 v22 h22 v23 h23 v24 h24 v25 h25 K hK
                    have p0 := (hx.cell (p := ⟨bL, oL + k * 2, none⟩) hbLr).trans hcy
                    have p1 := (hx.cell (p := ⟨bL, oL + k * 2 + 1, none⟩) hbLr).trans hcd
                    have p2 := (hx.cell (p := ⟨b1, o1 + t, none⟩) hb1r).trans hcz
                    simp only [Act.put, List.setIfInBounds_toArray, List.set_cons_zero, List.set_cons_succ] at hK ⊢
                    obtain rfl := (h10 (by decide)).now
                    obtain rfl := (h19 (by decide)).now
                    obtain rfl := (h20 (by decide)).now
                    clear h0 h1 h2 h3 h4 h5 h6 h7 h8 h9 h10 h11 h12 h13 h14 h15 h16 h17 h18 h19 h20 h21 h22 h23 h24 h25
                    go_wp2
                    exact hK _ _ (Ext.refl _) (fun _ _ => rfl)
                  · intro wr hx v0 h0 v1 h1 v2 h2 v3 h3 v4 h4 v5 h5 v6 h6 v7 h7 v8 h8 v9 h9 v10 h10 v11 h11 v12 h12 v13 h13 v14 h14 v15 h15 v16 h16 v17 h17 v18 h18 v19 h19 v20 h20 v21 h21 v22 h22 v23 h23 v24 h24 v25 h25 K hK
                    have p0 := (hx.cell (p := ⟨bL, oL + k * 2, none⟩) hbLr).trans hcy
                    have p1 := (hx.cell (p := ⟨bL, oL + k * 2 + 1, none⟩) hbLr).trans hcd
                    have p2 := (hx.cell (p := ⟨b1, o1 + t, none⟩) hb1r).trans hcz
                    simp only [Act.put, List.setIfInBounds_toArray, List.set_cons_zero, List.set_cons_succ] at hK ⊢
                    obtain rfl := (h10 (by decide)).now
                    obtain rfl := (h21 (by decide)).now
                    clear h0 h1 h2 h3 h4 h5 h6 h7 h8 h9 h10 h11 h12 h13 h14 h15 h16 h17 h18 h19 h20 h21 h22 h23 h24 h25
                    go_wp2
                    exact hK _ _ (Ext.refl _) (fun _ _ => rfl)
                  · intro wr hx v0 h0 v1 h1 v2 h2 v3 h3 v4 h4 v5 h5 v6 h6 v7 h7 v8 h8 v9 h9 v10 h10 v11 h11 v12 h12 v13 h13 v14 h14 v15 h15 v16 h16 v17 h17 v18 h18 v19 h19 v20 h20 v21 h21 v22 h22 v23 h23 v24 h24 v25 h25 K hK
                    have p0 := (hx.cell (p := ⟨bL, oL + k * 2, none⟩) hbLr).trans hcy
                    have p1 := (hx.cell (p := ⟨bL, oL + k * 2 + 1, none⟩) hbLr).trans hcd
                    have p2 := (hx.cell (p := ⟨b1, o1 + t, none⟩) hb1r).trans hcz
                    simp only [Act.put, List.setIfInBounds_toArray, List.set_cons_zero, List.set_cons_succ] at hK ⊢
                    obtain rfl := (h10 (by decide)).now
                    obtain rfl := (h22 (by decide)).now
                    clear h0 h1 h2 h3 h4 h5 h6 h7 h8 h9 h10 h11 h12 h13 h14 h15 h16 h17 h18 h19 h20 h21 h22 h23 h24 h25
                    go_wp2
                    exact hK _ _ (Ext.refl _) (fun _ _ => rfl)
                  · intro wr hx v0 h0 v1 h1 v2 h2 v3 h3 v4 h4 v5 h5 v6 h6 v7 h7 v8 h8 v9 h9 v10 h10 v11 h11 v12 h12 v13 h13 v14 h14 v15 h15 v16 h16 v17 h17 v18 h18 v19 h19 v20 h20 v21 h21 v22 h22 v23 h23 v24 h24 v25 h25 K hK
                    have p0 := (hx.cell (p := ⟨bL, oL + k * 2, none⟩) hbLr).trans hcy
                    have p1 := (hx.cell (p := ⟨bL, oL + k * 2 + 1, none⟩) hbLr).trans hcd
                    have p2 := (hx.cell (p := ⟨b1, o1 + t, none⟩) hb1r).trans hcz
                    simp only [Act.put, List.setIfInBounds_toArray, List.set_cons_zero, List.set_cons_succ] at hK ⊢
                    obtain rfl := (h10 (by decide)).now
                    obtain rfl := (h18 (by decide)).now
                    obtain rfl := (h23 (by decide)).now
                    clear h0 h1 h2 h3 h4 h5 h6 h7 h8 h9 h10 h11 h12 h13 h14 h15 h16 h17 h18 h19 h20 h21 h22 h23 h24 h25
                    go_wp2
                    exact hK _ _ (Ext.refl _) (fun _ _ => rfl)
                  · intro wr hx v0 h0 v1 h1 v2 h2 v3 h3 v4 h4 v5 h5 v6 h6 v7 h7 v8 h8 v9 h9 v10 h10 v11 h11 v12 h12 v13 h13 v14 h14 v15 h15 v16 h16 v17 h17 v18 h18 v19 h19 v20 h20 v21 h21 v22 h22 v23 h23 v24 h24 v25 h25 K hK
                    have p0 := (hx.cell (p := ⟨bL, oL + k * 2, none⟩) hbLr).trans hcy
                    have p1 := (hx.cell (p := ⟨bL, oL + k * 2 + 1, none⟩) hbLr).trans hcd
                    have p2 := (hx.cell (p := ⟨b1, o1 + t, none⟩) hb1r).trans hcz
                    simp only [Act.put, List.setIfInBounds_toArray, List.set_cons_zero, List.set_cons_succ] at hK ⊢
                    obtain rfl := (h10 (by decide)).now
                    obtain rfl := (h24 (by decide)).now
                    clear h0 h1 h2 h3 h4 h5 h6 h7 h8 h9 h10 h11 h12 h13 h14 h15 h16 h17 h18 h19 h20 h21 h22 h23 h24 h25
                    go_wp2
                    exact hK _ _ (Ext.refl _) (fun _ _ => rfl)
                  intro w8 hx v0 h0 v1 h1 v2 h2 v3 h3 v4 h4 v5 h5 v6 h6 v7 h7 v8 h8 v9 h9 v10 h10 v11 h11 v12 h12 v13 h13 v14 h14 v15 h15 v16 h16 v17 h17 v18 h18 v19 h19 v20 h20 v21 h21 v22 h22 v23 h23 v24 h24 v25 h25
                  have p0 := (hx.cell (p := ⟨bL, oL + k * 2, none⟩) hbLr).trans hcy
                  have p1 := (hx.cell (p := ⟨bL, oL + k * 2 + 1, none⟩) hbLr).trans hcd
                  have p2 := (hx.cell (p := ⟨b1, o1 + t, none⟩) hb1r).trans hcz
                  obtain rfl := h25.now
                  clear h0 h1 h2 h3 h4 h5 h6 h7 h8 h9 h10 h11 h12 h13 h14 h15 h16 h17 h18 h19 h20 h21 h22 h23 h24 h25
                  refine tail_none (by kernel_rfl) ?_
                  simp only [Act.put, List.setIfInBounds_toArray, List.set_cons_zero, List.set_cons_succ]
                  have hown8 := HOWN2.out.later hx
                  have q0 := (hx.cell (p := ⟨bL, oL + k * 2, none⟩) hbLr).trans hcy
                  have q1 := (hx.cell (p := ⟨bL, oL + k * 2 + 1, none⟩) hbLr).trans hcd
                  have q2 := (hx.cell (p := ⟨b1, o1 + t, none⟩) hb1r).trans hcz
                  clear hx hcy hcd hcz
                  go_wp2_with (with_reducible show wpList _ _ _ (Oper.mk (some 143) _ _ _ _ _ :: _) _ _; go_must (refine wpList_append_one (v := .slice mA mn mc) (w0 := w4) rfl _ _ rfl rfl hown8 _ hz64 rfl hml.out ?_; intro v' w9 hown9 _ _))
                  go_roundw
                  case rel => exact ⟨t + 1, by omega, by go_num, by rw [htl.out, ← List.append_assoc]; exact hown9⟩
                  case measure => simp [intOf]; omega
                ·
                  obtain rfl : t = n1 := by omega
                  rw [List.take_of_length_le (l := ds) (by omega), ← flatW_step hkl.out hgd.out] at hown
                  have hcy := (hbel.cell (p := ⟨bL, oL + k * 2, none⟩) hbL).trans HCY.out
                  have hcd := (hbel.cell (p := ⟨bL, oL + k * 2 + 1, none⟩) hbL).trans HCD.out
                  have HOW := Lib.hid hown
                  clear hown hbel
                  go_wp2
                  go_roundw
                  case rel => exact ⟨k + 1, by omega, by go_num, HOW.out⟩
                  case measure => simp [intOf]; omega
          · obtain ⟨k', hk'⟩ : ∃ k', k = k' + 1 := ⟨k - 1, by omega⟩
            have d2 : decide ((0 : Int) < (k : Int)) = true := by simp; omega
            have d2' : decide (0 < k) = true := by simp; omega
            have hkk : (k : Int) - 1 = (k' : Int) := by omega
            have hk0' : (0 : Int) ≤ (k' : Int) := by omega
            have hk1' : (k' : Int) < (nL : Int) := by omega
            obtain ⟨bL', oL', y', ds', A1', n1', k1', hAL, _, hgd', hy64', hcy4', _, _⟩ := HL.out.get (k := k') (by omega)
            injection hAL with hAL
            injection hAL with e1 e2
            subst e1 e2
            have hcy' := (hbel.cell (p := ⟨bL, oL + k' * 2, none⟩) hbL).trans hcy4'
            have hyy : y' < y := by
              have kl : k < L.length := hkl.out
              have kl' : k' < L.length := by omega
              have := List.pairwise_iff_getElem.1 HRISE.out k' k kl' kl (by omega)
              have g1 := hgd.out
              have g2 := hgd'.out
              rw [List.getD_eq_getElem?_getD, List.getElem?_eq_getElem kl] at g1
              rw [List.getD_eq_getElem?_getD, List.getElem?_eq_getElem kl'] at g2
              have g1' : L[k] = (y, ds) := g1
              have g2' : L[k'] = (y', ds') := g2
              rw [g1', g2'] at this
              exact this
            have d3 : decide (y ≤ y') = false := decide_eq_false (by omega)
            clear hk' hk0 hyy hcy4'
            by_cases hz1 : n1 = 0
            · have hyn := hf0 (List.eq_nil_of_length_eq_zero (by omega))
              have hd1 : decide (0 ≤ y) = false := decide_eq_false (by omega)
              have d4 : decide ((0 : Int) < (n1 : Int)) = false := by simp [hz1]
              have d4' : decide (0 < n1) = false := by simp [hz1]
              have d5 : ((n1 : Int) == 0) = true := by simp [hz1]
              have d5' : (n1 == 0) = true := by simp [hz1]
              clear hf0 hf1 hgood isd hown hbel
              go_wp2
              go_quiet (fail)
              obtain ⟨wy, hwy⟩ : ∃ wy, wr.drewN nq = wy := ⟨_, rfl⟩
              have hx : Ext wr wy := by rw [← hwy]; exact (Drawn.of _ _).below _
              rw [hwy]
              clear hwy
              have hst : Own w4 wy (.slice mA mn mc) (flatW (L.take k) ++ ds.take 0) := by rw [List.take_zero, List.append_nil]; exact HOWN.out.later hx
              have hcy := (hx.cell (p := ⟨bL, oL + k * 2, none⟩) hbLr).trans hcy
              have hcd := (hx.cell (p := ⟨bL, oL + k * 2 + 1, none⟩) hbLr).trans hcd
              clear hx
              go_wp2
              clear hcy hcd
              go_loopw [9, 11] (fun v i wi => ∃ t : Nat, t ≤ n1 ∧ i = .int .i64 t ∧ Own w4 wi v (flatW (L.take k) ++ ds.take t)) (fun _ i _ => n1 - (intOf i).toNat)
              case atStart => exact ⟨0, Nat.zero_le _, rfl, hst⟩
              case round =>
                clear hst
                obtain ⟨t, ht, rfl, hown⟩ := hrel
                obtain ⟨mA', mn', mc', rfl⟩ := hown.slice_
                have hbel := hown.below
                by_cases hlt1 : t < n1
                · exact absurd hlt1 (by omega)
                ·
                  obtain rfl : t = n1 := by omega
                  rw [List.take_of_length_le (l := ds) (by omega), ← flatW_step hkl.out hgd.out] at hown
                  have hcy := (hbel.cell (p := ⟨bL, oL + k * 2, none⟩) hbL).trans HCY.out
                  have hcd := (hbel.cell (p := ⟨bL, oL + k * 2 + 1, none⟩) hbL).trans HCD.out
                  have HOW := Lib.hid hown
                  clear hown hbel
                  go_wp2
                  go_roundw
                  case rel => exact ⟨k + 1, by omega, by go_num, HOW.out⟩
                  case measure => simp [intOf]; omega
            ·
              have d4 : decide ((0 : Int) < (n1 : Int)) = true := by simp; omega
              have d4' : decide (0 < n1) = true := by simp; omega
              have d5 : ((n1 : Int) == 0) = false := by simp [hz1]
              have d5' : (n1 == 0) = false := by simp [hz1]
              have hn1p : 0 < n1 := by omega
              obtain ⟨b1, o1, z1, rfl, hb1, hz1', hz164, hcz1⟩ := isd.get hn1p
              have hz1y : z1 = y := by rw [← hz1'.out]; exact hf1 (fun e => by rw [e] at len1; simp at len1; omega)
              rw [hz1y] at hcz1
              have hc1 := (hbel.cell (p := ⟨b1, o1 + 0, none⟩) hb1).trans hcz1
              rw [Nat.add_zero] at hc1
              have hyy2 : (y != y) = false := by simp
              clear hz1 hz1' hz1y hcz1
              clear hf0 hf1 isd hown hbel
              go_wp2
              go_quiet (fail)
              obtain ⟨wy, hwy⟩ : ∃ wy, wr.drewN nq = wy := ⟨_, rfl⟩
              have hx : Ext wr wy := by rw [← hwy]; exact (Drawn.of _ _).below _
              rw [hwy]
              clear hwy
              have hst : Own w4 wy (.slice mA mn mc) (flatW (L.take k) ++ ds.take 0) := by rw [List.take_zero, List.append_nil]; exact HOWN.out.later hx
              have hcy := (hx.cell (p := ⟨bL, oL + k * 2, none⟩) hbLr).trans hcy
              have hcd := (hx.cell (p := ⟨bL, oL + k * 2 + 1, none⟩) hbLr).trans hcd
              clear hx
              go_wp2
              clear hcy hcd
              go_loopw [9, 11] (fun v i wi => ∃ t : Nat, t ≤ n1 ∧ i = .int .i64 t ∧ Own w4 wi v (flatW (L.take k) ++ ds.take t)) (fun _ i _ => n1 - (intOf i).toNat)
              case atStart => exact ⟨0, Nat.zero_le _, rfl, hst⟩
              case round =>
                clear hst
                obtain ⟨t, ht, rfl, hown⟩ := hrel
                obtain ⟨mA, mn, mc, rfl⟩ := hown.slice_
                have hbel := hown.below
                by_cases hlt1 : t < n1
                · have HNEW := Lib.hid (flatW_new HND.out hkl.out hgd.out (by omega) (rfl : ds.getD t 0 = ds.getD t 0))
                  obtain ⟨b2, o2, z, hA2, hb1, hz, hz64, hcz⟩ := HISD.out.get hlt1
                  injection hA2 with hA2
                  injection hA2 with e1 e2
                  subst e1 e2
                  rw [hz.out] at HNEW
                  have hcz := (hbel.cell (p := ⟨b1, o1 + t, none⟩) hb1).trans hcz
                  have hcy := (hbel.cell (p := ⟨bL, oL + k * 2, none⟩) hbL).trans HCY.out
                  have hcd := (hbel.cell (p := ⟨bL, oL + k * 2 + 1, none⟩) hbL).trans HCD.out
                  have hbLr : bL < wr.heap.size := Nat.lt_of_lt_of_le hbL hbel.size
                  have hb1r : b1 < wr.heap.size := Nat.lt_of_lt_of_le hb1 hbel.size
                  have hzy : decide (z < y) = false := decide_eq_false (by
                    have := hgood z (by rw [← hz.out, getD_idx (by omega)]; exact List.getElem_mem _)
                    omega)
                  have HMIS : Hid (IS wr wr.heap.size mA mn mc (flatW (L.take k) ++ ds.take t)) := Lib.hid (by
                    obtain ⟨A', n', c', e, his⟩ := hown.is
                    injection e with e1 e2 e3
                    subst e1 e2 e3
                    exact his)
                  have hml : Hid ((flatW (L.take k) ++ ds.take t).length + 1 ≤ 1000000000000) := Lib.hid (by
                    have h1 := (flatW_sub (L := L) (k := k)).length_le
                    have h2 : (ds.take t).length ≤ t := List.length_take_le _ _
                    have h3 := hds4
                    rw [HCNT.out] at h1
                    rw [List.length_append]
                    omega)
                  have HOWN2 := Lib.hid hown
                  have htl : Hid (ds.take (t + 1) = ds.take t ++ [z]) := Lib.hid (take_getD (by omega) hz.out)
                  clear hown hbel
                  go_wp2
                  refine wp_region_rel 26 [[],[],[],[1,2],[1,2,3],[1,2,3,4],[],[1,2,3,4,5,6],[1,2,3,4,5,6,7],[0,1,2,3,4,5,6,7,8],[0,1,2,3,4,5,6,7,8,9],[0,1,2,3,4,5,6,7,8,9,10],[0,1,2,3,4,5,6,7,8,9,10],[0,1,2,3,4,5,6,7,8,9,10,11,12],[0,1,2,3,4,5,6,7,8,9,10,11,12,13],[0,1,2,3,4,5,6,7,8,9,10,11,12,13,14],[0,1,2,3,4,5,6,7,8,9,10],[0,1,2,3,4,5,6,7,8,9,10,11,12,13,14,15,16],[0,1,2,3,4,5,6,7,8,9,10,11,12,13,14,15,16,17],[0,1,2,3,4,5,6,7,8,9,10],[0,1,2,3,4,5,6,7,8,9,10],[0,1,2,3,4,5,6,7,8,9,10,19,20],[0,1,2,3,4,5,6,7,8,9,10,19,20,21],[0,1,2,3,4,5,6,7,8,9,10,19,20,21,22],[0,1,2,3,4,5,6,7,8,9,10,11,12,13,14,15,16,17,18,19,20,21,22,23],[0,1,2,3,4,5,6,7,8,9,10,11,12,13,14,15,16,17,18,19,20,21,22,23,24]]
                    [fun x _ => x = .slice mA mn mc,
                     fun x _ => x = .slice (some ⟨bL, oL, none⟩) nL cL,
                     fun x _ => x = .int .i64 k,
                     fun x _ => x = .pointer (some ⟨bL, oL + k * 2, none⟩),
                     fun x _ => x = .pointer (some ⟨bL, oL + k * 2 + 1, none⟩),
                     fun x _ => x = .slice (some ⟨b1, o1, none⟩) n1 k1,
                     fun x _ => x = .int .i64 t,
                     fun x _ => x = .pointer (some ⟨b1, o1 + t, none⟩),
                     fun x _ => x = .int .i64 z,
                     fun x _ => x = .bool false,
                     fun x _ => x = .bool false,
                     fun x _ => x = .slice (some ⟨bL, oL, none⟩) nL cL,
                     fun x _ => x = .int .i64 k,
                     fun x _ => x = .pointer (some ⟨bL, oL + k * 2, none⟩),
                     fun x _ => x = .pointer (some ⟨bL, oL + k * 2 + 1, none⟩),
                     fun x _ => x = .slice (some ⟨b1, o1, none⟩) n1 k1,
                     fun x _ => x = .int .i64 t,
                     fun x _ => x = .pointer (some ⟨b1, o1 + t, none⟩),
                     fun x _ => x = .int .i64 z,
                     fun x _ => x = .slice (some ⟨bL, oL, none⟩) nL cL,
                     fun x _ => x = .int .i64 k,
                     fun x _ => x = .pointer (some ⟨bL, oL + k * 2, none⟩),
                     fun x _ => x = .pointer (some ⟨bL, oL + k * 2, none⟩),
                     fun x _ => x = .int .i64 y,
                     fun x _ => x = .bool false,
                     fun x _ => x = .bool false]
                    (by kernel_rfl) (by kernel_rfl) rfl ⟨?_, ?_, ?_, ?_, ?_, ?_, ?_, ?_, ?_, ?_, ?_, ?_, ?_, ?_, ?_, ?_, ?_, ?_, ?_, ?_, ?_, ?_, ?_, ?_, ?_, ?_, trivial⟩ ?_
                  · intro wr hx v0 h0 v1 h1 v2 h2 v3 h3 v4 h4 v5 h5 v6 h6 v7 h7 v8 h8 v9 h9 v10 h10 v11 h11 v12 h12 v13 h13 v14 h14 v15 h15 v16 h16 v17 h17 v18 h18 v19 h19 v20 h20 v21 h21 v22 h22 v23 h23 v24 h24 v25 h25 K hK
                    have p0 := (hx.cell (p := ⟨bL, oL + k * 2, none⟩) hbLr).trans hcy
                    have p1 := (hx.cell (p := ⟨bL, oL + k * 2 + 1, none⟩) hbLr).trans hcd
                    have p2 := (hx.cell (p := ⟨b1, o1 + t, none⟩) hb1r).trans hcz
                    simp only [Act.put, List.setIfInBounds_toArray, List.set_cons_zero, List.set_cons_succ] at hK ⊢
                    clear h0 h1 h2 h3 h4 h5 h6 h7 h8 h9 h10 h11 h12 h13 h14 h15 h16 h17 h18 h19 h20 h21 h22 h23 h24 h25
                    go_wp2
                    exact hK _ _ (Ext.refl _) (fun _ _ => rfl)
                  · intro wr hx v0 h0 v1 h1 v2 h2 v3 h3 v4 h4 v5 h5 v6 h6 v7 h7 v8 h8 v9 h9 v10 h10 v11 h11 v12 h12 v13 h13 v14 h14 v15 h15 v16 h16 v17 h17 v18 h18 v19 h19 v20 h20 v21 h21 v22 h22 v23 h23 v24 h24 v25 h25 K hK
                    have p0 := (hx.cell (p := ⟨bL, oL + k * 2, none⟩) hbLr).trans hcy
                    have p1 := (hx.cell (p := ⟨bL, oL + k * 2 + 1, none⟩) hbLr).trans hcd
                    have p2 := (hx.cell (p := ⟨b1, o1 + t, none⟩) hb1r).trans hcz
                    simp only [Act.put, List.setIfInBounds_toArray, List.set_cons_zero, List.set_cons_succ] at hK ⊢
                    clear h0 h1 h2 h3 h4 h5 h6 h7 h8 h9 h10 h11 h12 h13 h14 h15 h16 h17 h18 h19 h20 h21 h22 h23 h24 h25
                    go_wp2
                    exact hK _ _ (Ext.refl _) (fun _ _ => rfl)
                  · intro wr hx v0 h0 v1 h1 v2 h2 v3 h3 v4 h4 v5 h5 v6 h6 v7 h7 v8 h8 v9 h9 v10 h10 v11 h11 v12 h12 v13 h13 v14 h14 v15 h15 v16 h16 v17 h17 v18 h18 v19 h19 v20 h20 v21 h21 v22 h22 v23 h23 v24 h24 v25 h25 K hK
                    have p0 := (hx.cell (p := ⟨bL, oL + k * 2, none⟩) hbLr).trans hcy
                    have p1 := (hx.cell (p := ⟨bL, oL + k * 2 + 1, none⟩) hbLr).trans hcd
                    have p2 := (hx.cell (p := ⟨b1, o1 + t, none⟩) hb1r).trans hcz
                    simp only [Act.put, List.setIfInBounds_toArray, List.set_cons_zero, List.set_cons_succ] at hK ⊢
                    clear h0 h1 h2 h3 h4 h5 h6 h7 h8 h9 h10 h11 h12 h13 h14 h15 h16 h17 h18 h19 h20 h21 h22 h23 h24 h25
                    go_wp2
                    exact hK _ _ (Ext.refl _) (fun _ _ => rfl)
                  · intro wr hx v0 h0 v1 h1 v2 h2 v3 h3 v4 h4 v5 h5 v6 h6 v7 h7 v8 h8 v9 h9 v10 h10 v11 h11 v12 h12 v13 h13 v14 h14 v15 h15 v16 h16 v17 h17 v18 h18 v19 h19 v20 h20 v21 h21 v22 h22 v23 h23 v24 h24 v25 h25 K hK
                    have p0 := (hx.cell (p := ⟨bL, oL + k * 2, none⟩) hbLr).trans hcy
                    have p1 := (hx.cell (p := ⟨bL, oL + k * 2 + 1, none⟩) hbLr).trans hcd
                    have p2 := (hx.cell (p := ⟨b1, o1 + t, none⟩) hb1r).trans hcz
                    simp only [Act.put, List.setIfInBounds_toArray, List.set_cons_zero, List.set_cons_succ] at hK ⊢
                    obtain rfl := (h1 (by decide)).now
                    obtain rfl := (h2 (by decide)).now
                    clear h0 h1 h2 h3 h4 h5 h6 h7 h8 h9 h10 h11 h12 h13 h14 h15 h16 h17 h18 h19 h20 h21 h22 h23 h24 h25
                    go_wp2
                    exact hK _ _ (Ext.refl _) (fun _ _ => rfl)
                  · intro wr hx v0 h0 v1 h1 v2 h2 v3 h3 v4 h4 v5 h5 v6 h6 v7 h7 v8 h8 v9 h9 v10 h10 v11 h11 v12 h12 v13 h13 v14 h14 v15 h15 v16 h16 v17 h17 v18 h18 v19 h19 v20 h20 v21 h21 v22 h22 v23 h23 v24 h24 v25 h25 K hK
                    have p0 := (hx.cell (p := ⟨bL, oL + k * 2, none⟩) hbLr).trans hcy
                    have p1 := (hx.cell (p := ⟨bL, oL + k * 2 + 1, none⟩) hbLr).trans hcd
                    have p2 := (hx.cell (p := ⟨b1, o1 + t, none⟩) hb1r).trans hcz
                    simp only [Act.put, List.setIfInBounds_toArray, List.set_cons_zero, List.set_cons_succ] at hK ⊢
                    obtain rfl := (h3 (by decide)).now
                    clear h0 h1 h2 h3 h4 h5 h6 h7 h8 h9 h10 h11 h12 h13 h14 h15 h16 h17 h18 h19 h20 h21 h22 h23 h24 h25
                    go_wp2
                    exact hK _ _ (Ext.refl _) (fun _ _ => rfl)
                  · intro wr hx v0 h0 v1 h1 v2 h2 v3 h3 v4 h4 v5 h5 v6 h6 v7 h7 v8 h8 v9 h9 v10 h10 v11 h11 v12 h12 v13 h13 v14 h14 v15 h15 v16 h16 v17 h17 v18 h18 v19 h19 v20 h20 v21 h21 v22 h22 v23 h23 v24 h24 v25 h25 K hK
                    have p0 := (hx.cell (p := ⟨bL, oL + k * 2, none⟩) hbLr).trans hcy
                    have p1 := (hx.cell (p := ⟨bL, oL + k * 2 + 1, none⟩) hbLr).trans hcd
                    have p2 := (hx.cell (p := ⟨b1, o1 + t, none⟩) hb1r).trans hcz
                    simp only [Act.put, List.setIfInBounds_toArray, List.set_cons_zero, List.set_cons_succ] at hK ⊢
                    obtain rfl := (h4 (by decide)).now
                    clear h0 h1 h2 h3 h4 h5 h6 h7 h8 h9 h10 h11 h12 h13 h14 h15 h16 h17 h18 h19 h20 h21 h22 h23 h24 h25
                    go_wp2
                    exact hK _ _ (Ext.refl _) (fun _ _ => rfl)
                  · intro wr hx v0 h0 v1 h1 v2 h2 v3 h3 v4 h4 v5 h5 v6 h6 v7 h7 v8 h8 v9 h9 v10 h10 v11 h11 v12 h12 v13 h13 v14 h14 v15 h15 v16 h16 v17 h17 v18 h18 v19 h19 v20 h20 v21 h21 v22 h22 v23 h23 v24 h24 v25 h25 K hK
                    have p0 := (hx.cell (p := ⟨bL, oL + k * 2, none⟩) hbLr).trans hcy
                    have p1 := (hx.cell (p := ⟨bL, oL + k * 2 + 1, none⟩) hbLr).trans hcd
                    have p2 := (hx.cell (p := ⟨b1, o1 + t, none⟩) hb1r).trans hcz
                    simp only [Act.put, List.setIfInBounds_toArray, List.set_cons_zero, List.set_cons_succ] at hK ⊢
                    clear h0 h1 h2 h3 h4 h5 h6 h7 h8 h9 h10 h11 h12 h13 h14 h15 h16 h17 h18 h19 h20 h21 h22 h23 h24 h25
                    go_wp2
                    exact hK _ _ (Ext.refl _) (fun _ _ => rfl)
                  · intro wr hx v0 h0 v1 h1 v2 h2 v3 h3 v4 h4 v5 h5 v6 h6 v7 h7 v8 h8 v9 h9 v10 h10 v11 h11 v12 h12 v13 h13 v14 h14 v15 h15 v16 h16 v17 h17 v18 h18 v19 h19 v20 h20 v21 h21 v22 h22 v23 h23 v24 h24 v25 h25 K hK
                    have p0 := (hx.cell (p := ⟨bL, oL + k * 2, none⟩) hbLr).trans hcy
                    have p1 := (hx.cell (p := ⟨bL, oL + k * 2 + 1, none⟩) hbLr).trans hcd
                    have p2 := (hx.cell (p := ⟨b1, o1 + t, none⟩) hb1r).trans hcz
                    simp only [Act.put, List.setIfInBounds_toArray, List.set_cons_zero, List.set_cons_succ] at hK ⊢
                    obtain rfl := (h5 (by decide)).now
                    obtain rfl := (h6 (by decide)).now
                    clear h0 h1 h2 h3 h4 h5 h6 h7 h8 h9 h10 h11 h12 h13 h14 h15 h16 h17 h18 h19 h20 h21 h22 h23 h24 h25
                    go_wp2
                    exact hK _ _ (Ext.refl _) (fun _ _ => rfl)
                  · intro wr hx v0 h0 v1 h1 v2 h2 v3 h3 v4 h4 v5 h5 v6 h6 v7 h7 v8 h8 v9 h9 v10 h10 v11 h11 v12 h12 v13 h13 v14 h14 v15 h15 v16 h16 v17 h17 v18 h18 v19 h19 v20 h20 v21 h21 v22 h22 v23 h23 v24 h24 v25 h25 K hK
                    have p0 := (hx.cell (p := ⟨bL, oL + k * 2, none⟩) hbLr).trans hcy
                    have p1 := (hx.cell (p := ⟨bL, oL + k * 2 + 1, none⟩) hbLr).trans hcd
                    have p2 := (hx.cell (p := ⟨b1, o1 + t, none⟩) hb1r).trans hcz
                    simp only [Act.put, List.setIfInBounds_toArray, List.set_cons_zero, List.set_cons_succ] at hK ⊢
                    obtain rfl := (h7 (by decide)).now
                    clear h0 h1 h2 h3 h4 h5 h6 h7 h8 h9 h10 h11 h12 h13 h14 h15 h16 h17 h18 h19 h20 h21 h22 h23 h24 h25
                    go_wp2
                    exact hK _ _ (Ext.refl _) (fun _ _ => rfl)
                  · intro wr hx v0 h0 v1 h1 v2 h2 v3 h3 v4 h4 v5 h5 v6 h6 v7 h7 v8 h8 v9 h9 v10 h10 v11 h11 v12 h12 v13 h13 v14 h14 v15 h15 v16 h16 v17 h17 v18 h18 v19 h19 v20 h20 v21 h21 v22 h22 v23 h23 v24 h24 v25 h25 K hK
                    have p0 := (hx.cell (p := ⟨bL, oL + k * 2, none⟩) hbLr).trans hcy
                    have p1 := (hx.cell (p := ⟨bL, oL + k * 2 + 1, none⟩) hbLr).trans hcd
                    have p2 := (hx.cell (p := ⟨b1, o1 + t, none⟩) hb1r).trans hcz
                    simp only [Act.put, List.setIfInBounds_toArray, List.set_cons_zero, List.set_cons_succ] at hK ⊢
                    obtain rfl := (h0 (by decide)).now
                    obtain rfl := (h8 (by decide)).now
                    clear h0 h1 h2 h3 h4 h5 h6 h7 h8 h9 h10 h11 h12 h13 h14 h15 h16 h17 h18 h19 h20 h21 h22 h23 h24 h25
                    go_wp2_with fail
                    refine (in_no wr _ mA mn mc _ z (HMIS.out.step hx) HNEW.out).mono ?_
                    rintro e w' ⟨rfl, rfl⟩
                    go_wp2
                    exact hK _ _ (Ext.refl _) (fun _ _ => rfl)
                  · intro wr hx v0 h0 v1 h1 v2 h2 v3 h3 v4 h4 v5 h5 v6 h6 v7 h7 v8 h8 v9 h9 v10 h10 v11 h11 v12 h12 v13 h13 v14 h14 v15 h15 v16 h16 v17 h17 v18 h18 v19 h19 v20 h20 v21 h21 v22 h22 v23 h23 v24 h24 v25 h25 K hK
                    have p0 := (hx.cell (p := ⟨bL, oL + k * 2, none⟩) hbLr).trans hcy
                    have p1 := (hx.cell (p := ⟨bL, oL + k * 2 + 1, none⟩) hbLr).trans hcd
                    have p2 := (hx.cell (p := ⟨b1, o1 + t, none⟩) hb1r).trans hcz
                    simp only [Act.put, List.setIfInBounds_toArray, List.set_cons_zero, List.set_cons_succ] at hK ⊢
                    obtain rfl := (h9 (by decide)).now
                    clear h0 h1 h2 h3 h4 h5 h6 h7 h8 h9 h10 h11 h12 h13 h14 h15 h16 h17 h18 h19 h20 h21 h22 h23 h24 h25
                    go_wp2
                    exact hK _ _ (Ext.refl _) (fun _ _ => rfl)
                  · intro wr hx v0 h0 v1 h1 v2 h2 v3 h3 v4 h4 v5 h5 v6 h6 v7 h7 v8 h8 v9 h9 v10 h10 v11 h11 v12 h12 v13 h13 v14 h14 v15 h15 v16 h16 v17 h17 v18 h18 v19 h19 v20 h20 v21 h21 v22 h22 v23 h23 v24 h24 v25 h25 K hK
                    have p0 := (hx.cell (p := ⟨bL, oL + k * 2, none⟩) hbLr).trans hcy
                    have p1 := (hx.cell (p := ⟨bL, oL + k * 2 + 1, none⟩) hbLr).trans hcd
                    have p2 := (hx.cell (p := ⟨b1, o1 + t, none⟩) hb1r).trans hcz
                    simp only [Act.put, List.setIfInBounds_toArray, List.set_cons_zero, List.set_cons_succ] at hK ⊢
                    obtain rfl := (h10 (by decide)).now
                    clear h0 h1 h2 h3 h4 h5 h6 h7 h8 h9 h10 h11 h12 h13 h14 h15 h16 h17 h18 h19 h20 h21 h22 h23 h24 h25
                    go_wp2
                    exact hK _ _ (Ext.refl _) (fun _ _ => rfl)
                  · intro wr hx v0 h0 v1 h1 v2 h2 v3 h3 v4 h4 v5 h5 v6 h6 v7 h7 v8 h8 v9 h9 v10 h10 v11 h11 v12 h12 v13 h13 v14 h14 v15 h15 v16 h16 v17 h17 v18 h18 v19 h19 v20 h20 v21 h21 v22 h22 v23 h23 v24 h24 v25 h25 K hK
                    have p0 := (hx.cell (p := ⟨bL, oL + k * 2, none⟩) hbLr).trans hcy
                    have p1 := (hx.cell (p := ⟨bL, oL + k * 2 + 1, none⟩) hbLr).trans hcd
                    have p2 := (hx.cell (p := ⟨b1, o1 + t, none⟩) hb1r).trans hcz
                    simp only [Act.put, List.setIfInBounds_toArray, List.set_cons_zero, List.set_cons_succ] at hK ⊢
                    obtain rfl := (h10 (by decide)).now
                    clear h0 h1 h2 h3 h4 h5 h6 h7 h8 h9 h10 h11 h12 h13 h14 h15 h16 h17 h18 h19 h20 h21 h22 h23 h24 h25
                    go_wp2
                    exact hK _ _ (Ext.refl _) (fun _ _ => rfl)
                  · intro wr hx v0 h0 v1 h1 v2 h2 v3 h3 v4 h4 v5 h5 v6 h6 v7 h7 v8 h8 v9 h9 v10 h10 v11 h11 v12 h12 v13 h13 v14 h14 v15 h15 v16 h16 v17 h17 v18 h18 v19 h19 v20 h20 v21 h21 v22 h22 v23 h23 v24 h24 v25 h25 K hK
                    have p0 := (hx.cell (p := ⟨bL, oL + k * 2, none⟩) hbLr).trans hcy
                    have p1 := (hx.cell (p := ⟨bL, oL + k * 2 + 1, none⟩) hbLr).trans hcd
                    have p2 := (hx.cell (p := ⟨b1, o1 + t, none⟩) hb1r).trans hcz
                    simp only [Act.put, List.setIfInBounds_toArray, List.set_cons_zero, List.set_cons_succ] at hK ⊢
                    obtain rfl := (h10 (by decide)).now
                    obtain rfl := (h11 (by decide)).now
                    obtain rfl := (h12 (by decide)).now
                    clear h0 h1 h2 h3 h4 h5 h6 h7 h8 h9 h10 h11 h12 h13 h14 h15 h16 h17 h18 h19 h20 h21 h22 h23 h24 h25
                    go_wp2
                    exact hK _ _ (Ext.refl _) (fun _ _ => rfl)
                  · intro wr hx v0 h0 v1 h1 v2 h2 v3 h3 v4 h4 v5 h5 v6 h6 v7 h7 v8 h8 v9 h9 v10 h10 v11 h11 v12 h12 v13 h13 v14 h14 v15 h15 v16 h16 v17 h17 v18 h18 v19 h19 v20 h20 v21 h21 v22 h22 v23 h23 v24 h24 v25 h25 K hK
                    have p0 := (hx.cell (p := ⟨bL, oL + k * 2, none⟩) hbLr).trans hcy
                    have p1 := (hx.cell (p := ⟨bL, oL + k * 2 + 1, none⟩) hbLr).trans hcd
                    have p2 := (hx.cell (p := ⟨b1, o1 + t, none⟩) hb1r).trans hcz
                    simp only [Act.put, List.setIfInBounds_toArray, List.set_cons_zero, List.set_cons_succ] at hK ⊢
                    obtain rfl := (h10 (by decide)).now
                    obtain rfl := (h13 (by decide)).now
                    clear h0 h1 h2 h3 h4 h5 h6 h7 h8 h9 h10 h11 h12 h13 h14 h15 h16 h17 h18 h19 h20 h21 h22 h23 h24 h25
                    go_wp2
                    exact hK _ _ (Ext.refl _) (fun _ _ => rfl)
                  · intro wr hx v0 h0 v1 h1 v2 h2 v3 h3 v4 h4 v5 h5 v6 h6 v7 h7 v8 h8 v9 h9 v10 h10 v11 h11 v12 h12 v13 h13 v14 h14 v15 h15 v16 h16 v17 h17 v18 h18 v19 h19 v20 h20 v21 h21 v22 h22 v23 h23 v24 h24 v25 h25 K hK
                    have p0 := (hx.cell (p := ⟨bL, oL + k * 2, none⟩) hbLr).trans hcy
                    have p1 := (hx.cell (p := ⟨bL, oL + k * 2 + 1, none⟩) hbLr).trans hcd
                    have p2 := (hx.cell (p := ⟨b1, o1 + t, none⟩) hb1r).trans hcz
                    simp only [Act.put, List.setIfInBounds_toArray, List.set_cons_zero, List.set_cons_succ] at hK ⊢
                    obtain rfl := (h10 (by decide)).now
                    obtain rfl := (h14 (by decide)).now
                    clear h0 h1 h2 h3 h4 h5 h6 h7 h8 h9 h10 h11 h12 h13 h14 h15 h16 h17 h18 h19 h20 h21 h22 h23 h24 h25
                    go_wp2
                    exact hK _ _ (Ext.refl _) (fun _ _ => rfl)
                  · intro wr hx v0 h0 v1 h1 v2 h2 v3 h3 v4 h4 v5 h5 v6 h6 v7 h7 v8 h8 v9 h9 v10 h10 v11 h11 v12 h12 v13 h13 v14 h14 v15 h15 v16 h16 v17 h17 v18 h18 v19 h19 v20 h20 v21 h21 v22 h22 v23 h23 v24 h24 v25 h25 K hK
                    have p0 := (hx.cell (p := ⟨bL, oL + k * 2, none⟩) hbLr).trans hcy
                    have p1 := (hx.cell (p := ⟨bL, oL + k * 2 + 1, none⟩) hbLr).trans hcd
                    have p2 := (hx.cell (p := ⟨b1, o1 + t, none⟩) hb1r).trans hcz
                    simp only [Act.put, List.setIfInBounds_toArray, List.set_cons_zero, List.set_cons_succ] at hK ⊢
                    obtain rfl := (h10 (by decide)).now
                    clear h0 h1 h2 h3 h4 h5 h6 h7 h8 h9 h10 h11 h12 h13 h14 h15 h16 h17 h18 h19 h20 h21 h22 h23 h24 h25
                    go_wp2
                    exact hK _ _ (Ext.refl _) (fun _ _ => rfl)
                  · intro wr hx v0 h0 v1 h1 v2 h2 v3 h3 v4 h4 v5 h5 v6 h6 v7 h7 v8 h8 v9 h9 v10 h10 v11 h11 v12 h12 v13 h13 v14 h14 v15 h15 v16 h16 v17 h17 v18 h18 v19 h19 v20 h20 v21 h21 v22 h22 v23 h23 v24 h24 v25 h25 K hK
                    have p0 := (hx.cell (p := ⟨bL, oL + k * 2, none⟩) hbLr).trans hcy
                    have p1 := (hx.cell (p := ⟨bL, oL + k * 2 + 1, none⟩) hbLr).trans hcd
                    have p2 := (hx.cell (p := ⟨b1, o1 + t, none⟩) hb1r).trans hcz
                    simp only [Act.put, List.setIfInBounds_toArray, List.set_cons_zero, List.set_cons_succ] at hK ⊢
                    obtain rfl := (h10 (by decide)).now
                    obtain rfl := (h15 (by decide)).now
                    obtain rfl := (h16 (by decide)).now
                    clear h0 h1 h2 h3 h4 h5 h6 h7 h8 h9 h10 h11 h12 h13 h14 h15 h16 h17 h18 h19 h20 h21 h22 h23 h24 h25
                    go_wp2
                    exact hK _ _ (Ext.refl _) (fun _ _ => rfl)
                  · intro wr hx v0 h0 v1 h1 v2 h2 v3 h3 v4 h4 v5 h5 v6 h6 v7 h7 v8 h8 v9 h9 v10 h10 v11 h11 v12 h12 v13 h13 v14 h14 v15 h15 v16 h16 v17 h17 v18 h18 v19 h19 v20 h20 v21 h21 v22 h22 v23 h23 v24 h24 v25 h25 K hK
                    have p0 := (hx.cell (p := ⟨bL, oL + k * 2, none⟩) hbLr).trans hcy
                    have p1 := (hx.cell (p := ⟨bL, oL + k * 2 + 1, none⟩) hbLr).trans hcd
                    have p2 := (hx.cell (p := ⟨b1, o1 + t, none⟩) hb1r).trans hcz
                    simp only [Act.put, List.setIfInBounds_toArray, List.set_cons_zero, List.set_cons_succ] at hK ⊢
                    obtain rfl := (h10 (by decide)).now
                    obtain rfl := (h17 (by decide)).now
                    clear h0 h1 h2 h3 h4 h5 h6 h7 h8 h9 h10 h11 h12 h13 h14 h15 h16 h17 h18 h19 h20 h21 h22 h23 h24 h25
                    go_wp2
                    exact hK _ _ (Ext.refl _) (fun _ _ => rfl)
                  · intro wr hx v0 h0 v1 h1 v2 h2 v3 h3 v4 h4 v5 h5 v6 h6 v7 h7 v8 h8 v9 h9 v10 h10 v11 h11 v12 h12 v13 h13 v14 h14 v15 h15 v16 h16 v17 h17 v18 h18 v19 h19 v20 h20 v21 h21 v22 h22 v23 h23 v24 h24 v25 h25 K hK
                    have p0 := (hx.cell (p := ⟨bL, oL + k * 2, none⟩) hbLr).trans hcy
                    have p1 := (hx.cell (p := ⟨bL, oL + k * 2 + 1, none⟩) hbLr).trans hcd
                    have p2 := (hx.cell (p := ⟨b1, o1 + t, none⟩) hb1r).trans hcz
                    simp only [Act.put, List.setIfInBounds_toArray, List.set_cons_zero, List.set_cons_succ] at hK ⊢
                    obtain rfl := (h10 (by decide)).now
                    clear h0 h1 h2 h3 h4 h5 h6 h7 h8 h9 h10 h11 h12 h13 h14 h15 h16 h17 h18 h19 h20 h21 h22 h23 h24 h25
                    go_wp2
                    exact hK _ _ (Ext.refl _) (fun _ _ => rfl)
                  · intro wr hx v0 h0 v1 h1 v2 h2 v3 h3 v4 h4 v5 h5 v6 h6 v7 h7 v8 h8 v9 h9 v10 h10 v11 h11 v12 h12 v13 h13 v14 h14 v15 h15 v16 h16 v17 h17 v18 h18 v19 h19 v20 h20 v21 h21 v22 h22 v23 h23 v24 h24 v25 h25 K hK
                    have p0 := (hx.cell (p := ⟨bL, oL + k * 2, none⟩) hbLr).trans hcy
                    have p1 := (hx.cell (p := ⟨bL, oL + k * 2 + 1, none⟩) hbLr).trans hcd
                    have p2 := (hx.cell (p := ⟨b1, o1 + t, none⟩) hb1r).trans hcz
                    simp only [Act.put, List.setIfInBounds_toArray, List.set_cons_zero, List.set_cons_succ] at hK ⊢
                    obtain rfl := (h10 (by decide)).now
                    clear h0 h1 h2 h3 h4 h5 h6 h7 h8 h9 h10 h11 h12 h13 h14 h15 h16 h17 h18 h19 h20 h21 h22 h23 h24 h25
                    go_wp2
                    exact hK _ _ (Ext.refl _) (fun _ _ => rfl)
                  · intro wr hx v0 h0 v1 h1 v2 h2 v3 h3 v4 h4 v5 h5 v6 h6 v7 h7 v8 h8 v9 h9 v10 h10 v11 h11 v12 h12 v13 h13 v14 h14 v15 h15 v16 h16 v17 h17 v18 h18 v19 h19 v20 h20 v21 h21 v22 h22 v23 h23 v24 h24 v25 h25 K hK
                    have p0 := (hx.cell (p := ⟨bL, oL + k * 2, none⟩) hbLr).trans hcy
                    have p1 := (hx.cell (p := ⟨bL, oL + k * 2 + 1, none⟩) hbLr).trans hcd
                    have p2 := (hx.cell (p := ⟨b1, o1 + t, none⟩) hb1r).trans hcz
                    simp only [Act.put, List.setIfInBounds_toArray, List.set_cons_zero, List.set_cons_succ] at hK ⊢
                    obtain rfl := (h10 (by decide)).now
                    obtain rfl := (h19 (by decide)).now
                    obtain rfl := (h20 (by decide)).now
                    clear h0 h1 h2 h3 h4 h5 h6 h7 h8 h9 h10 h11 h12 h13 h14 h15 h16 h17 h18 h19 h20 h21 h22 h23 h24 h25
                    go_wp2
                    exact hK _ _ (Ext.refl _) (fun _ _ => rfl)
                  · intro wr hx v0 h0 v1 h1 v2 h2 v3 h3 v4 h4 v5 h5 v6 h6 v7 h7 v8 h8 v9 h9 v10 h10 v11 h11 v12 h12 v13 h13 v14 h14 v15 h15 v16 h16 v17 h17 v18 h18 v19 h19 v20 h20 v21 h21 v22 h22 v23 h23 v24 h24 v25 h25 K hK
                    have p0 := (hx.cell (p := ⟨bL, oL + k * 2, none⟩) hbLr).trans hcy
                    have p1 := (hx.cell (p := ⟨bL, oL + k * 2 + 1, none⟩) hbLr).trans hcd
                    have p2 := (hx.cell (p := ⟨b1, o1 + t, none⟩) hb1r).trans hcz
                    simp only [Act.put, List.setIfInBounds_toArray, List.set_cons_zero, List.set_cons_succ] at hK ⊢
                    obtain rfl := (h10 (by decide)).now
                    obtain rfl := (h21 (by decide)).now
                    clear h0 h1 h2 h3 h4 h5 h6 h7 h8 h9 h10 h11 h12 h13 h14 h15 h16 h17 h18 h19 h20 h21 h22 h23 h24 h25
                    go_wp2
                    exact hK _ _ (Ext.refl _) (fun _ _ => rfl)
                  · intro wr hx v0 h0 v1 h1 v2 h2 v3 h3 v4 h4 v5 h5 v6 h6 v7 h7 v8 h8 v9 h9 v10 h10 v11 h11 v12 h12 v13 h13 v14 h14 v15 h15 v16 h16 v17 h17 v18 h18 v19 h19 v20 h20 v21 h21 v22 h22 v23 h23 v24 h24 v25 h25 K hK
                    have p0 := (hx.cell (p := ⟨bL, oL + k * 2, none⟩) hbLr).trans hcy
                    have p1 := (hx.cell (p := ⟨bL, oL + k * 2 + 1, none⟩) hbLr).trans hcd
                    have p2 := (hx.cell (p := ⟨b1, o1 + t, none⟩) hb1r).trans hcz
                    simp only [Act.put, List.setIfInBounds_toArray, List.set_cons_zero, List.set_cons_succ] at hK ⊢
                    obtain rfl := (h10 (by decide)).now
                    obtain rfl := (h22 (by decide)).now
                    clear h0 h1 h2 h3 h4 h5 h6 h7 h8 h9 h10 h11 h12 h13 h14 h15 h16 h17 h18 h19 h20 h21 h22 h23 h24 h25
                    go_wp2
                    exact hK _ _ (Ext.refl _) (fun _ _ => rfl)
                  · intro wr hx v0 h0 v1 h1 v2 h2 v3 h3 v4 h4 v5 h5 v6 h6 v7 h7 v8 h8 v9 h9 v10 h10 v11 h11 v12 h12 v13 h13 v14 h14 v15 h15 v16 h16 v17 h17 v18 h18 v19 h19 v20 h20 v21 h21 v22 h22 v23 h23 v24 h24 v25 h25 K hK
                    have p0 := (hx.cell (p := ⟨bL, oL + k * 2, none⟩) hbLr).trans hcy
                    have p1 := (hx.cell (p := ⟨bL, oL + k * 2 + 1, none⟩) hbLr).trans hcd
                    have p2 := (hx.cell (p := ⟨b1, o1 + t, none⟩) hb1r).trans hcz
                    simp only [Act.put, List.setIfInBounds_toArray, List.set_cons_zero, List.set_cons_succ] at hK ⊢
                    obtain rfl := (h10 (by decide)).now
                    obtain rfl := (h18 (by decide)).now
                    obtain rfl := (h23 (by decide)).now
                    clear h0 h1 h2 h3 h4 h5 h6 h7 h8 h9 h10 h11 h12 h13 h14 h15 h16 h17 h18 h19 h20 h21 h22 h23 h24 h25
                    go_wp2
                    exact hK _ _ (Ext.refl _) (fun _ _ => rfl)
                  · intro wr hx v0 h0 v1 h1 v2 h2 v3 h3 v4 h4 v5 h5 v6 h6 v7 h7 v8 h8 v9 h9 v10 h10 v11 h11 v12 h12 v13 h13 v14 h14 v15 h15 v16 h16 v17 h17 v18 h18 v19 h19 v20 h20 v21 h21 v22 h22 v23 h23 v24 h24 v25 h25 K hK
                    have p0 := (hx.cell (p := ⟨bL, oL + k * 2, none⟩) hbLr).trans hcy
                    have p1 := (hx.cell (p := ⟨bL, oL + k * 2 + 1, none⟩) hbLr).trans hcd
                    have p2 := (hx.cell (p := ⟨b1, o1 + t, none⟩) hb1r).trans hcz
                    simp only [Act.put, List.setIfInBounds_toArray, List.set_cons_zero, List.set_cons_succ] at hK ⊢
                    obtain rfl := (h10 (by decide)).now
                    obtain rfl := (h24 (by decide)).now
                    clear h0 h1 h2 h3 h4 h5 h6 h7 h8 h9 h10 h11 h12 h13 h14 h15 h16 h17 h18 h19 h20 h21 h22 h23 h24 h25
                    go_wp2
                    exact hK _ _ (Ext.refl _) (fun _ _ => rfl)
                  intro w8 hx v0 h0 v1 h1 v2 h2 v3 h3 v4 h4 v5 h5 v6 h6 v7 h7 v8 h8 v9 h9 v10 h10 v11 h11 v12 h12 v13 h13 v14 h14 v15 h15 v16 h16 v17 h17 v18 h18 v19 h19 v20 h20 v21 h21 v22 h22 v23 h23 v24 h24 v25 h25
                  have p0 := (hx.cell (p := ⟨bL, oL + k * 2, none⟩) hbLr).trans hcy
                  have p1 := (hx.cell (p := ⟨bL, oL + k * 2 + 1, none⟩) hbLr).trans hcd
                  have p2 := (hx.cell (p := ⟨b1, o1 + t, none⟩) hb1r).trans hcz
                  obtain rfl := h25.now
                  clear h0 h1 h2 h3 h4 h5 h6 h7 h8 h9 h10 h11 h12 h13 h14 h15 h16 h17 h18 h19 h20 h21 h22 h23 h24 h25
                  refine tail_none (by kernel_rfl) ?_
                  simp only [Act.put, List.setIfInBounds_toArray, List.set_cons_zero, List.set_cons_succ]
                  have hown8 := HOWN2.out.later hx
                  have q0 := (hx.cell (p := ⟨bL, oL + k * 2, none⟩) hbLr).trans hcy
                  have q1 := (hx.cell (p := ⟨bL, oL + k * 2 + 1, none⟩) hbLr).trans hcd
                  have q2 := (hx.cell (p := ⟨b1, o1 + t, none⟩) hb1r).trans hcz
                  clear hx hcy hcd hcz
                  go_wp2_with (with_reducible show wpList _ _ _ (Oper.mk (some 143) _ _ _ _ _ :: _) _ _; go_must (refine wpList_append_one (v := .slice mA mn mc) (w0 := w4) rfl _ _ rfl rfl hown8 _ hz64 rfl hml.out ?_; intro v' w9 hown9 _ _))
                  go_roundw
                  case rel => exact ⟨t + 1, by omega, by go_num, by rw [htl.out, ← List.append_assoc]; exact hown9⟩
                  case measure => simp [intOf]; omega
                ·
                  obtain rfl : t = n1 := by omega
                  rw [List.take_of_length_le (l := ds) (by omega), ← flatW_step hkl.out hgd.out] at hown
                  have hcy := (hbel.cell (p := ⟨bL, oL + k * 2, none⟩) hbL).trans HCY.out
                  have hcd := (hbel.cell (p := ⟨bL, oL + k * 2 + 1, none⟩) hbL).trans HCD.out
                  have HOW := Lib.hid hown
                  clear hown hbel
                  go_wp2
                  go_roundw
                  case rel => exact ⟨k + 1, by omega, by go_num, HOW.out⟩
                  case measure => simp [intOf]; omega
        · obtain rfl : k = nL := by omega
          rw [List.take_of_length_le (by have := hll.out; omega)] at hown
          obtain ⟨A', n', c', e, his⟩ := hown.is
          injection e with e1 e2 e3
          subst e1 e2 e3
          have hmn : ((mn : Int) == 2 * (ne : Int)) = true := by
            have := his.len
            rw [HCNT.out] at this
            simp
            omega
          have hmle := his.le
          have hmcap := his.cap
          have ⟨_, _, c0, c1, c2, c3, _⟩ := GB4.out.step hbel
          have HB := Lib.hid (bstep B1.out hbel)
          clear his hown hbel
          go_wp2
          go_ret
          exact ⟨rfl, HB.out⟩
    · obtain ⟨q, hq⟩ : ∃ q, (if pRight N es vs xs = 0 then 5 else pRight N es vs xs) = q := ⟨_, rfl⟩
      have hq0 : (q != 0) = true := by
        rw [← hq]
        split
        · rfl
        · simpa [bne_iff_ne]
      rw [hq]
      have B1 := Lib.hid (bstep b1 b4)
      clear b1 b4 h3 t3 gb3 c0 c1 c2 c3 hno hq
      go_wp2
      go_ret
      exact ⟨rfl, B1.out⟩
  · have B1 := Lib.hid (bstep b1 b3)
    clear b1 b3 h2 t2 gb2 c0 c1 c2 c3 hs
    go_wp2_with fail
    refine (awakeFace w3).mono ?_
    rintro e w4 ⟨rfl, b4⟩
    have B2 := Lib.hid (bstep B1.out b4)
    clear b4
    go_wp2_with fail
    go_ret
    exact ⟨rfl, B2.out⟩
end Go.Proofs.Ythobfbnopkbniaa
