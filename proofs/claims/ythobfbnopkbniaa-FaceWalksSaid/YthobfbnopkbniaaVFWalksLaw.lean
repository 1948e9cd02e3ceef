/-
  The law FaceWalks. No conditions.
-/
import Derived.Test.YthobfbnopkbniaaVFRefK
import Derived.Test.YthobfbnopkbniaaFaceD
namespace Go.Proofs.Ythobfbnopkbniaa
open Go.RowKit

set_option maxHeartbeats 8000000 in
set_option maxRecDepth 100000 in
theorem law_FaceWalks (w : World) (N : Int) (A : Option Addr) (m c : Nat) (es : List (Int × Int)) (Av : Option Addr) (nv cv : Nat) (vs : List Int) (Ae : Option Addr) (ne ce : Nat) (xs : List Int) (At : Option Addr) (nt ct : Nat) (tt : List (List Int)) (d : Int) (h : GP w N A m c es Av nv cv vs Ae ne ce xs) (ht : TS w w.heap.size At nt ct tt) (_ : I64 d) :
    Calls Try.prog 14 #[.agg #[.int .i64 N, .slice A m c], .agg #[.slice Av nv cv, .slice Ae ne ce], .slice At nt ct, .int .i64 d] w fun e w' => e = .returned (.bool true) ∧ Below w.heap.size w w' := by
  obtain ⟨w1, hw1, b1, gb1⟩ := box_gp w N A m c es Av nv cv Ae ne ce
  have h1 := h.step b1
  have t1 := ht.step b1
  clear h ht
  go_enter Try.func14, Try.ntmps14
  go_wp2_with fail
  refine (awakeFace w1).mono ?_
  rintro e w2 ⟨rfl, b2⟩
  have h2 := h1.step b2
  have t2 := t1.step b2
  have gb2 := gb1.step b2
  replace b1 := bstep b1 b2
  clear hw1 h1 t1 gb1 b2
  have ⟨_, _, c0, c1, c2, c3, _⟩ := gb2
  go_wp2_with fail
  refine (small6_any w2 N A m c es Av nv cv vs Ae ne ce xs At nt ct tt h2 t2).mono ?_
  rintro e w3 ⟨⟨hs, rfl⟩ | ⟨hs, rfl⟩, b3⟩
  · have h3 := h2.step b3
    have t3 := t2.step b3
    have gb3 := gb2.step b3
    replace b1 := bstep b1 b3
    clear h2 t2 gb2 b3 c0 c1 c2 c3
    have ⟨_, _, c0, c1, c2, c3, _⟩ := gb3
    have hm60 := hs.1.1
    have hne60 := hs.1.2.2.1
    clear hs
    go_wp2_with fail
    refine (walks_any w3 N A m c es Av nv cv vs Ae ne ce xs At nt ct tt h3 t3 hm60 hne60).mono ?_
    rintro e w4 ⟨⟨hp, hT, AL, nL, cL, rfl, hL⟩ | ⟨hno, rfl⟩, b4⟩
    · have h4 := h3.step b4
      have t4 := t3.step b4
      have gb4 := gb3.step b4
      replace b1 := bstep b1 b4
      have HPT := Lib.hid (And.intro hp hT)
      clear h3 t3 gb3 b4 c0 c1 c2 c3 hp hT
      have ⟨_, _, c0, c1, c2, c3, _⟩ := gb4
      go_wp2_with fail
      refine (key_any w4 N A m c es Av nv cv vs Ae ne ce xs At nt ct tt d h4 t4 hm60 hne60).mono ?_
      rintro e w5 ⟨⟨_, _, rfl⟩ | ⟨hno, rfl⟩, b5⟩
      · have h5 := h4.step b5
        have t5 := t4.step b5
        have gb5 := gb4.step b5
        have hL5 := hL.step b5
        replace b1 := bstep b1 b5
        clear h4 t4 gb4 b5 c0 c1 c2 c3 hL
        obtain ⟨L, hLe⟩ : ∃ L, walksOf es tt vs xs = L := ⟨_, rfl⟩
        rw [hLe] at hL5 ⊢
        obtain ⟨kv, kb, hkv⟩ : ∃ kv kb, keyVal (keyOf L d) = .tuple #[.int .i64 kv, .bool kb] := by
          cases keyOf L d with
          | none => exact ⟨0, false, rfl⟩
          | some k => exact ⟨k, true, rfl⟩
        rw [hkv]
        have HKV := Lib.hid hkv
        have HLE := Lib.hid hLe
        clear hkv hLe
        have ⟨_, _, c0, c1, c2, c3, _⟩ := gb5
        go_wp2_with fail
        refine (right6_any w5 N A m c es Av nv cv vs Ae ne ce xs At nt ct tt h5 t5 hm60 hne60).mono ?_
        rintro e w6 ⟨⟨q, rfl, hq⟩, b6⟩
        obtain rfl : q = 0 := by
          rcases hq with ⟨h, _⟩ | ⟨_, _, h⟩ | ⟨_, h, _⟩
          · exact absurd HPT.out.1 h
          · exact h
          · exact absurd HPT.out.2 h
        have h6 := h5.step b6
        have t6 := t5.step b6
        have gb6 := gb5.step b6
        have hL6 := hL5.step b6
        replace b1 := bstep b1 b6
        clear h5 t5 gb5 b6 c0 c1 c2 c3 hL5 hq
        have ⟨_, _, c0, c1, c2, c3, _⟩ := gb6
        go_wp2_with fail
        refine (refWalks_any w6 N A m c es Av nv cv vs Ae ne ce xs At nt ct tt h6 t6 (pRight_ok HPT.out.1) HPT.out.2).mono ?_
        rintro e w7 ⟨AM, nM, cM, rfl, hM, b7⟩
        rw [HLE.out] at hM
        have hL7 := hL6.step b7
        have hWL := walks_len (tt := tt) (pRight_ok HPT.out.1)
        rw [HLE.out] at hWL
        have hnM : nM = nL := by rw [← hM.len, hL7.len]
        subst hnM
        have hnL := hL7.le
        have hcL := hL7.cap
        have hnM' := hM.le
        have hcM := hM.cap
        have hln := hL7.len
        have hnL4 : nM ≤ 4096 := by omega
        have B1 := Lib.hid (bstep b1 b7)
        have HL := Lib.hid hL7
        have HM := Lib.hid hM
        clear h6 t6 gb6 b7 c0 c1 c2 c3 hL6 hL7 hM b1 hln
        go_wp2
        have hst : Below w7.heap.size w7 w7 := Below.refl _ _
        go_loopw [15] (fun i wr => ∃ k : Nat, k ≤ nM ∧ i = .int .i64 k ∧ Below w7.heap.size w7 wr) (fun i _ => nM - (intOf i).toNat)
        case atStart => exact ⟨0, Nat.zero_le _, rfl, hst⟩
        case round =>
          clear hst
          obtain ⟨k, hk, rfl, hbel⟩ := hrel
          by_cases hlt : k < nM
          · obtain ⟨bL, oL, y, ds, A1, n1, k1, rfl, hbL, hgd, hy64, hcy7, hcd7, isd7⟩ := HL.out.get hlt
            obtain ⟨bM, oM, y', ds', A2, n2, k2, rfl, hbM, hgd', _, hcy7', hcd7', isd7'⟩ := HM.out.get hlt
            have hg2 := hgd'.out
            rw [hgd.out] at hg2
            injection hg2 with hg2 hg3
            subst hg2 hg3
            have hbLr : bL < wr.heap.size := Nat.lt_of_lt_of_le hbL hbel.size
            have hbMr : bM < wr.heap.size := Nat.lt_of_lt_of_le hbM hbel.size
            have hcy := (hbel.cell (p := ⟨bL, oL + k * 2, none⟩) hbL).trans hcy7
            have hcd := (hbel.cell (p := ⟨bL, oL + k * 2 + 1, none⟩) hbL).trans hcd7
            have hcy' := (hbel.cell (p := ⟨bM, oM + k * 2, none⟩) hbM).trans hcy7'
            have hcd' := (hbel.cell (p := ⟨bM, oM + k * 2 + 1, none⟩) hbM).trans hcd7'
            have ISD := Lib.hid (isd7.step hbel)
            have ISD' := Lib.hid (isd7'.step hbel)
            have HB := Lib.hid hbel
            clear hcy7 hcd7 hcy7' hcd7' isd7 isd7' hbel hgd hgd'
            have hkint : (0 : Int) ≤ (k : Int) := by omega
            go_wp2
            refine wp_region_rel 25 [[],[],[0,1],[0,1,2],[0,1,2,3],[],[],[5,6],[5,6,7],[5,6,7,8],[0,1,2,3,4,5,6,7,8,9],[0,1,2,3,4,5,6,7,8,9,10],[0,1,2,3,4,5,6,7,8,9,10,11],[0,1,2,3,4,5,6,7,8,9,10,11],[0,1,2,3,4,5,6,7,8,9,10,11,12,13],[0,1,2,3,4,5,6,7,8,9,10,11,12,13,14],[0,1,2,3,4,5,6,7,8,9,10,11,12,13,14,15],[0,1,2,3,4,5,6,7,8,9,10,11],[0,1,2,3,4,5,6,7,8,9,10,11],[0,1,2,3,4,5,6,7,8,9,10,11,17,18],[0,1,2,3,4,5,6,7,8,9,10,11,17,18,19],[0,1,2,3,4,5,6,7,8,9,10,11,17,18,19,20],[0,1,2,3,4,5,6,7,8,9,10,11,12,13,14,15,16,17,18,19,20,21],[0,1,2,3,4,5,6,7,8,9,10,11,12,13,14,15,16,17,18,19,20,21,22],[0,1,2,3,4,5,6,7,8,9,10,11,12,13,14,15,16,17,18,19,20,21,22,23]]
              [fun x _ => x = .slice (some ⟨bL, oL, none⟩) nM cL,
               fun x _ => x = .int .i64 k,
               fun x _ => x = .pointer (some ⟨bL, oL + k * 2, none⟩),
               fun x _ => x = .pointer (some ⟨bL, oL + k * 2, none⟩),
               fun x _ => x = .int .i64 y,
               fun x _ => x = .slice (some ⟨bM, oM, none⟩) nM cM,
               fun x _ => x = .int .i64 k,
               fun x _ => x = .pointer (some ⟨bM, oM + k * 2, none⟩),
               fun x _ => x = .pointer (some ⟨bM, oM + k * 2, none⟩),
               fun x _ => x = .int .i64 y,
               fun x _ => x = .bool false,
               fun x _ => x = .bool false,
               fun x _ => x = .slice (some ⟨bL, oL, none⟩) nM cL,
               fun x _ => x = .int .i64 k,
               fun x _ => x = .pointer (some ⟨bL, oL + k * 2, none⟩),
               fun x _ => x = .pointer (some ⟨bL, oL + k * 2 + 1, none⟩),
               fun x _ => x = .slice A1 n1 k1,
               fun x _ => x = .slice (some ⟨bM, oM, none⟩) nM cM,
               fun x _ => x = .int .i64 k,
               fun x _ => x = .pointer (some ⟨bM, oM + k * 2, none⟩),
               fun x _ => x = .pointer (some ⟨bM, oM + k * 2 + 1, none⟩),
               fun x _ => x = .slice A2 n2 k2,
               fun x _ => x = .bool true,
               fun x _ => x = .bool false,
               fun x _ => x = .bool false]
              (by kernel_rfl) (by kernel_rfl) rfl ⟨?_, ?_, ?_, ?_, ?_, ?_, ?_, ?_, ?_, ?_, ?_, ?_, ?_, ?_, ?_, ?_, ?_, ?_, ?_, ?_, ?_, ?_, ?_, ?_, ?_, trivial⟩ ?_
            · intro wr hx v0 h0 v1 h1 v2 h2 v3 h3 v4 h4 v5 h5 v6 h6 v7 h7 v8 h8 v9 h9 v10 h10 v11 h11 v12 h12 v13 h13 v14 h14 v15 h15 v16 h16 v17 h17 v18 h18 v19 h19 v20 h20 v21 h21 v22 h22 v23 h23 v24 h24 K hK
              have p0 := (hx.cell (p := ⟨bL, oL + k * 2, none⟩) hbLr).trans hcy
              have p1 := (hx.cell (p := ⟨bL, oL + k * 2 + 1, none⟩) hbLr).trans hcd
              have p2 := (hx.cell (p := ⟨bM, oM + k * 2, none⟩) hbMr).trans hcy'
              have p3 := (hx.cell (p := ⟨bM, oM + k * 2 + 1, none⟩) hbMr).trans hcd'
              simp only [Act.put, List.setIfInBounds_toArray, List.set_cons_zero, List.set_cons_succ] at hK ⊢
              clear h0 h1 h2 h3 h4 h5 h6 h7 h8 h9 h10 h11 h12 h13 h14 h15 h16 h17 h18 h19 h20 h21 h22 h23 h24
              go_wp2
              exact hK _ _ (Ext.refl _) (fun _ _ => rfl)
            · intro wr hx v0 h0 v1 h1 v2 h2 v3 h3 v4 h4 v5 h5 v6 h6 v7 h7 v8 h8 v9 h9 v10 h10 v11 h11 v12 h12 v13 h13 v14 h14 v15 h15 v16 h16 v17 h17 v18 h18 v19 h19 v20 h20 v21 h21 v22 h22 v23 h23 v24 h24 K hK
              have p0 := (hx.cell (p := ⟨bL, oL + k * 2, none⟩) hbLr).trans hcy
              have p1 := (hx.cell (p := ⟨bL, oL + k * 2 + 1, none⟩) hbLr).trans hcd
              have p2 := (hx.cell (p := ⟨bM, oM + k * 2, none⟩) hbMr).trans hcy'
              have p3 := (hx.cell (p := ⟨bM, oM + k * 2 + 1, none⟩) hbMr).trans hcd'
              simp only [Act.put, List.setIfInBounds_toArray, List.set_cons_zero, List.set_cons_succ] at hK ⊢
              clear h0 h1 h2 h3 h4 h5 h6 h7 h8 h9 h10 h11 h12 h13 h14 h15 h16 h17 h18 h19 h20 h21 h22 h23 h24
              go_wp2
              exact hK _ _ (Ext.refl _) (fun _ _ => rfl)
            · intro wr hx v0 h0 v1 h1 v2 h2 v3 h3 v4 h4 v5 h5 v6 h6 v7 h7 v8 h8 v9 h9 v10 h10 v11 h11 v12 h12 v13 h13 v14 h14 v15 h15 v16 h16 v17 h17 v18 h18 v19 h19 v20 h20 v21 h21 v22 h22 v23 h23 v24 h24 K hK
              have p0 := (hx.cell (p := ⟨bL, oL + k * 2, none⟩) hbLr).trans hcy
              have p1 := (hx.cell (p := ⟨bL, oL + k * 2 + 1, none⟩) hbLr).trans hcd
              have p2 := (hx.cell (p := ⟨bM, oM + k * 2, none⟩) hbMr).trans hcy'
              have p3 := (hx.cell (p := ⟨bM, oM + k * 2 + 1, none⟩) hbMr).trans hcd'
              simp only [Act.put, List.setIfInBounds_toArray, List.set_cons_zero, List.set_cons_succ] at hK ⊢
              obtain rfl := (h0 (by decide)).now
              obtain rfl := (h1 (by decide)).now
              clear h0 h1 h2 h3 h4 h5 h6 h7 h8 h9 h10 h11 h12 h13 h14 h15 h16 h17 h18 h19 h20 h21 h22 h23 h24
              go_wp2
              exact hK _ _ (Ext.refl _) (fun _ _ => rfl)
            · intro wr hx v0 h0 v1 h1 v2 h2 v3 h3 v4 h4 v5 h5 v6 h6 v7 h7 v8 h8 v9 h9 v10 h10 v11 h11 v12 h12 v13 h13 v14 h14 v15 h15 v16 h16 v17 h17 v18 h18 v19 h19 v20 h20 v21 h21 v22 h22 v23 h23 v24 h24 K hK
              have p0 := (hx.cell (p := ⟨bL, oL + k * 2, none⟩) hbLr).trans hcy
              have p1 := (hx.cell (p := ⟨bL, oL + k * 2 + 1, none⟩) hbLr).trans hcd
              have p2 := (hx.cell (p := ⟨bM, oM + k * 2, none⟩) hbMr).trans hcy'
              have p3 := (hx.cell (p := ⟨bM, oM + k * 2 + 1, none⟩) hbMr).trans hcd'
              simp only [Act.put, List.setIfInBounds_toArray, List.set_cons_zero, List.set_cons_succ] at hK ⊢
              obtain rfl := (h2 (by decide)).now
              clear h0 h1 h2 h3 h4 h5 h6 h7 h8 h9 h10 h11 h12 h13 h14 h15 h16 h17 h18 h19 h20 h21 h22 h23 h24
              go_wp2
              exact hK _ _ (Ext.refl _) (fun _ _ => rfl)
            · intro wr hx v0 h0 v1 h1 v2 h2 v3 h3 v4 h4 v5 h5 v6 h6 v7 h7 v8 h8 v9 h9 v10 h10 v11 h11 v12 h12 v13 h13 v14 h14 v15 h15 v16 h16 v17 h17 v18 h18 v19 h19 v20 h20 v21 h21 v22 h22 v23 h23 v24 h24 K hK
              have p0 := (hx.cell (p := ⟨bL, oL + k * 2, none⟩) hbLr).trans hcy
              have p1 := (hx.cell (p := ⟨bL, oL + k * 2 + 1, none⟩) hbLr).trans hcd
              have p2 := (hx.cell (p := ⟨bM, oM + k * 2, none⟩) hbMr).trans hcy'
              have p3 := (hx.cell (p := ⟨bM, oM + k * 2 + 1, none⟩) hbMr).trans hcd'
              simp only [Act.put, List.setIfInBounds_toArray, List.set_cons_zero, List.set_cons_succ] at hK ⊢
              obtain rfl := (h3 (by decide)).now
              clear h0 h1 h2 h3 h4 h5 h6 h7 h8 h9 h10 h11 h12 h13 h14 h15 h16 h17 h18 h19 h20 h21 h22 h23 h24
              go_wp2
              exact hK _ _ (Ext.refl _) (fun _ _ => rfl)
            · intro wr hx v0 h0 v1 h1 v2 h2 v3 h3 v4 h4 v5 h5 v6 h6 v7 h7 v8 h8 v9 h9 v10 h10 v11 h11 v12 h12 v13 h13 v14 h14 v15 h15 v16 h16 v17 h17 v18 h18 v19 h19 v20 h20 v21 h21 v22 h22 v23 h23 v24 h24 K hK
              have p0 := (hx.cell (p := ⟨bL, oL + k * 2, none⟩) hbLr).trans hcy
              have p1 := (hx.cell (p := ⟨bL, oL + k * 2 + 1, none⟩) hbLr).trans hcd
              have p2 := (hx.cell (p := ⟨bM, oM + k * 2, none⟩) hbMr).trans hcy'
              have p3 := (hx.cell (p := ⟨bM, oM + k * 2 + 1, none⟩) hbMr).trans hcd'
              simp only [Act.put, List.setIfInBounds_toArray, List.set_cons_zero, List.set_cons_succ] at hK ⊢
              clear h0 h1 h2 h3 h4 h5 h6 h7 h8 h9 h10 h11 h12 h13 h14 h15 h16 h17 h18 h19 h20 h21 h22 h23 h24
              go_wp2
              exact hK _ _ (Ext.refl _) (fun _ _ => rfl)
            · intro wr hx v0 h0 v1 h1 v2 h2 v3 h3 v4 h4 v5 h5 v6 h6 v7 h7 v8 h8 v9 h9 v10 h10 v11 h11 v12 h12 v13 h13 v14 h14 v15 h15 v16 h16 v17 h17 v18 h18 v19 h19 v20 h20 v21 h21 v22 h22 v23 h23 v24 h24 K hK
              have p0 := (hx.cell (p := ⟨bL, oL + k * 2, none⟩) hbLr).trans hcy
              have p1 := (hx.cell (p := ⟨bL, oL + k * 2 + 1, none⟩) hbLr).trans hcd
              have p2 := (hx.cell (p := ⟨bM, oM + k * 2, none⟩) hbMr).trans hcy'
              have p3 := (hx.cell (p := ⟨bM, oM + k * 2 + 1, none⟩) hbMr).trans hcd'
              simp only [Act.put, List.setIfInBounds_toArray, List.set_cons_zero, List.set_cons_succ] at hK ⊢
              clear h0 h1 h2 h3 h4 h5 h6 h7 h8 h9 h10 h11 h12 h13 h14 h15 h16 h17 h18 h19 h20 h21 h22 h23 h24
              go_wp2
              exact hK _ _ (Ext.refl _) (fun _ _ => rfl)
            · intro wr hx v0 h0 v1 h1 v2 h2 v3 h3 v4 h4 v5 h5 v6 h6 v7 h7 v8 h8 v9 h9 v10 h10 v11 h11 v12 h12 v13 h13 v14 h14 v15 h15 v16 h16 v17 h17 v18 h18 v19 h19 v20 h20 v21 h21 v22 h22 v23 h23 v24 h24 K hK
              have p0 := (hx.cell (p := ⟨bL, oL + k * 2, none⟩) hbLr).trans hcy
              have p1 := (hx.cell (p := ⟨bL, oL + k * 2 + 1, none⟩) hbLr).trans hcd
              have p2 := (hx.cell (p := ⟨bM, oM + k * 2, none⟩) hbMr).trans hcy'
              have p3 := (hx.cell (p := ⟨bM, oM + k * 2 + 1, none⟩) hbMr).trans hcd'
              simp only [Act.put, List.setIfInBounds_toArray, List.set_cons_zero, List.set_cons_succ] at hK ⊢
              obtain rfl := (h5 (by decide)).now
              obtain rfl := (h6 (by decide)).now
              clear h0 h1 h2 h3 h4 h5 h6 h7 h8 h9 h10 h11 h12 h13 h14 h15 h16 h17 h18 h19 h20 h21 h22 h23 h24
              go_wp2
              exact hK _ _ (Ext.refl _) (fun _ _ => rfl)
            · intro wr hx v0 h0 v1 h1 v2 h2 v3 h3 v4 h4 v5 h5 v6 h6 v7 h7 v8 h8 v9 h9 v10 h10 v11 h11 v12 h12 v13 h13 v14 h14 v15 h15 v16 h16 v17 h17 v18 h18 v19 h19 v20 h20 v21 h21 v22 h22 v23 h23 v24 h24 K hK
              have p0 := (hx.cell (p := ⟨bL, oL + k * 2, none⟩) hbLr).trans hcy
              have p1 := (hx.cell (p := ⟨bL, oL + k * 2 + 1, none⟩) hbLr).trans hcd
              have p2 := (hx.cell (p := ⟨bM, oM + k * 2, none⟩) hbMr).trans hcy'
              have p3 := (hx.cell (p := ⟨bM, oM + k * 2 + 1, none⟩) hbMr).trans hcd'
              simp only [Act.put, List.setIfInBounds_toArray, List.set_cons_zero, List.set_cons_succ] at hK ⊢
              obtain rfl := (h7 (by decide)).now
              clear h0 h1 h2 h3 h4 h5 h6 h7 h8 h9 h10 h11 h12 h13 h14 h15 h16 h17 h18 h19 h20 h21 h22 h23 h24
              go_wp2
              exact hK _ _ (Ext.refl _) (fun _ _ => rfl)
            · intro wr hx v0 h0 v1 h1 v2 h2 v3 h3 v4 h4 v5 h5 v6 h6 v7 h7 v8 h8 v9 h9 v10 h10 v11 h11 v12 h12 v13 h13 v14 h14 v15 h15 v16 h16 v17 h17 v18 h18 v19 h19 v20 h20 v21 h21 v22 h22 v23 h23 v24 h24 K hK
              have p0 := (hx.cell (p := ⟨bL, oL + k * 2, none⟩) hbLr).trans hcy
              have p1 := (hx.cell (p := ⟨bL, oL + k * 2 + 1, none⟩) hbLr).trans hcd
              have p2 := (hx.cell (p := ⟨bM, oM + k * 2, none⟩) hbMr).trans hcy'
              have p3 := (hx.cell (p := ⟨bM, oM + k * 2 + 1, none⟩) hbMr).trans hcd'
              simp only [Act.put, List.setIfInBounds_toArray, List.set_cons_zero, List.set_cons_succ] at hK ⊢
              obtain rfl := (h8 (by decide)).now
              clear h0 h1 h2 h3 h4 h5 h6 h7 h8 h9 h10 h11 h12 h13 h14 h15 h16 h17 h18 h19 h20 h21 h22 h23 h24
              go_wp2
              exact hK _ _ (Ext.refl _) (fun _ _ => rfl)
            · intro wr hx v0 h0 v1 h1 v2 h2 v3 h3 v4 h4 v5 h5 v6 h6 v7 h7 v8 h8 v9 h9 v10 h10 v11 h11 v12 h12 v13 h13 v14 h14 v15 h15 v16 h16 v17 h17 v18 h18 v19 h19 v20 h20 v21 h21 v22 h22 v23 h23 v24 h24 K hK
              have p0 := (hx.cell (p := ⟨bL, oL + k * 2, none⟩) hbLr).trans hcy
              have p1 := (hx.cell (p := ⟨bL, oL + k * 2 + 1, none⟩) hbLr).trans hcd
              have p2 := (hx.cell (p := ⟨bM, oM + k * 2, none⟩) hbMr).trans hcy'
              have p3 := (hx.cell (p := ⟨bM, oM + k * 2 + 1, none⟩) hbMr).trans hcd'
              simp only [Act.put, List.setIfInBounds_toArray, List.set_cons_zero, List.set_cons_succ] at hK ⊢
              obtain rfl := (h4 (by decide)).now
              obtain rfl := (h9 (by decide)).now
              clear h0 h1 h2 h3 h4 h5 h6 h7 h8 h9 h10 h11 h12 h13 h14 h15 h16 h17 h18 h19 h20 h21 h22 h23 h24
              go_wp2
              exact hK _ _ (Ext.refl _) (fun _ _ => rfl)
            · intro wr hx v0 h0 v1 h1 v2 h2 v3 h3 v4 h4 v5 h5 v6 h6 v7 h7 v8 h8 v9 h9 v10 h10 v11 h11 v12 h12 v13 h13 v14 h14 v15 h15 v16 h16 v17 h17 v18 h18 v19 h19 v20 h20 v21 h21 v22 h22 v23 h23 v24 h24 K hK
              have p0 := (hx.cell (p := ⟨bL, oL + k * 2, none⟩) hbLr).trans hcy
              have p1 := (hx.cell (p := ⟨bL, oL + k * 2 + 1, none⟩) hbLr).trans hcd
              have p2 := (hx.cell (p := ⟨bM, oM + k * 2, none⟩) hbMr).trans hcy'
              have p3 := (hx.cell (p := ⟨bM, oM + k * 2 + 1, none⟩) hbMr).trans hcd'
              simp only [Act.put, List.setIfInBounds_toArray, List.set_cons_zero, List.set_cons_succ] at hK ⊢
              obtain rfl := (h10 (by decide)).now
              clear h0 h1 h2 h3 h4 h5 h6 h7 h8 h9 h10 h11 h12 h13 h14 h15 h16 h17 h18 h19 h20 h21 h22 h23 h24
              go_wp2
              exact hK _ _ (Ext.refl _) (fun _ _ => rfl)
            · intro wr hx v0 h0 v1 h1 v2 h2 v3 h3 v4 h4 v5 h5 v6 h6 v7 h7 v8 h8 v9 h9 v10 h10 v11 h11 v12 h12 v13 h13 v14 h14 v15 h15 v16 h16 v17 h17 v18 h18 v19 h19 v20 h20 v21 h21 v22 h22 v23 h23 v24 h24 K hK
              have p0 := (hx.cell (p := ⟨bL, oL + k * 2, none⟩) hbLr).trans hcy
              have p1 := (hx.cell (p := ⟨bL, oL + k * 2 + 1, none⟩) hbLr).trans hcd
              have p2 := (hx.cell (p := ⟨bM, oM + k * 2, none⟩) hbMr).trans hcy'
              have p3 := (hx.cell (p := ⟨bM, oM + k * 2 + 1, none⟩) hbMr).trans hcd'
              simp only [Act.put, List.setIfInBounds_toArray, List.set_cons_zero, List.set_cons_succ] at hK ⊢
              obtain rfl := (h11 (by decide)).now
              clear h0 h1 h2 h3 h4 h5 h6 h7 h8 h9 h10 h11 h12 h13 h14 h15 h16 h17 h18 h19 h20 h21 h22 h23 h24
              go_wp2
              exact hK _ _ (Ext.refl _) (fun _ _ => rfl)
            · intro wr hx v0 h0 v1 h1 v2 h2 v3 h3 v4 h4 v5 h5 v6 h6 v7 h7 v8 h8 v9 h9 v10 h10 v11 h11 v12 h12 v13 h13 v14 h14 v15 h15 v16 h16 v17 h17 v18 h18 v19 h19 v20 h20 v21 h21 v22 h22 v23 h23 v24 h24 K hK
              have p0 := (hx.cell (p := ⟨bL, oL + k * 2, none⟩) hbLr).trans hcy
              have p1 := (hx.cell (p := ⟨bL, oL + k * 2 + 1, none⟩) hbLr).trans hcd
              have p2 := (hx.cell (p := ⟨bM, oM + k * 2, none⟩) hbMr).trans hcy'
              have p3 := (hx.cell (p := ⟨bM, oM + k * 2 + 1, none⟩) hbMr).trans hcd'
              simp only [Act.put, List.setIfInBounds_toArray, List.set_cons_zero, List.set_cons_succ] at hK ⊢
              obtain rfl := (h11 (by decide)).now
              clear h0 h1 h2 h3 h4 h5 h6 h7 h8 h9 h10 h11 h12 h13 h14 h15 h16 h17 h18 h19 h20 h21 h22 h23 h24
              go_wp2
              exact hK _ _ (Ext.refl _) (fun _ _ => rfl)
            · intro wr hx v0 h0 v1 h1 v2 h2 v3 h3 v4 h4 v5 h5 v6 h6 v7 h7 v8 h8 v9 h9 v10 h10 v11 h11 v12 h12 v13 h13 v14 h14 v15 h15 v16 h16 v17 h17 v18 h18 v19 h19 v20 h20 v21 h21 v22 h22 v23 h23 v24 h24 K hK
              have p0 := (hx.cell (p := ⟨bL, oL + k * 2, none⟩) hbLr).trans hcy
              have p1 := (hx.cell (p := ⟨bL, oL + k * 2 + 1, none⟩) hbLr).trans hcd
              have p2 := (hx.cell (p := ⟨bM, oM + k * 2, none⟩) hbMr).trans hcy'
              have p3 := (hx.cell (p := ⟨bM, oM + k * 2 + 1, none⟩) hbMr).trans hcd'
              simp only [Act.put, List.setIfInBounds_toArray, List.set_cons_zero, List.set_cons_succ] at hK ⊢
              obtain rfl := (h11 (by decide)).now
              obtain rfl := (h12 (by decide)).now
              obtain rfl := (h13 (by decide)).now
              clear h0 h1 h2 h3 h4 h5 h6 h7 h8 h9 h10 h11 h12 h13 h14 h15 h16 h17 h18 h19 h20 h21 h22 h23 h24
              go_wp2
              exact hK _ _ (Ext.refl _) (fun _ _ => rfl)
            · intro wr hx v0 h0 v1 h1 v2 h2 v3 h3 v4 h4 v5 h5 v6 h6 v7 h7 v8 h8 v9 h9 v10 h10 v11 h11 v12 h12 v13 h13 v14 h14 v15 h15 v16 h16 v17 h17 v18 h18 v19 h19 v20 h20 v21 h21 v22 h22 v23 h23 v24 h24 K hK
              have p0 := (hx.cell (p := ⟨bL, oL + k * 2, none⟩) hbLr).trans hcy
              have p1 := (hx.cell (p := ⟨bL, oL + k * 2 + 1, none⟩) hbLr).trans hcd
              have p2 := (hx.cell (p := ⟨bM, oM + k * 2, none⟩) hbMr).trans hcy'
              have p3 := (hx.cell (p := ⟨bM, oM + k * 2 + 1, none⟩) hbMr).trans hcd'
              simp only [Act.put, List.setIfInBounds_toArray, List.set_cons_zero, List.set_cons_succ] at hK ⊢
              obtain rfl := (h11 (by decide)).now
              obtain rfl := (h14 (by decide)).now
              clear h0 h1 h2 h3 h4 h5 h6 h7 h8 h9 h10 h11 h12 h13 h14 h15 h16 h17 h18 h19 h20 h21 h22 h23 h24
              go_wp2
              exact hK _ _ (Ext.refl _) (fun _ _ => rfl)
            · intro wr hx v0 h0 v1 h1 v2 h2 v3 h3 v4 h4 v5 h5 v6 h6 v7 h7 v8 h8 v9 h9 v10 h10 v11 h11 v12 h12 v13 h13 v14 h14 v15 h15 v16 h16 v17 h17 v18 h18 v19 h19 v20 h20 v21 h21 v22 h22 v23 h23 v24 h24 K hK
              have p0 := (hx.cell (p := ⟨bL, oL + k * 2, none⟩) hbLr).trans hcy
              have p1 := (hx.cell (p := ⟨bL, oL + k * 2 + 1, none⟩) hbLr).trans hcd
              have p2 := (hx.cell (p := ⟨bM, oM + k * 2, none⟩) hbMr).trans hcy'
              have p3 := (hx.cell (p := ⟨bM, oM + k * 2 + 1, none⟩) hbMr).trans hcd'
              simp only [Act.put, List.setIfInBounds_toArray, List.set_cons_zero, List.set_cons_succ] at hK ⊢
              obtain rfl := (h11 (by decide)).now
              obtain rfl := (h15 (by decide)).now
              clear h0 h1 h2 h3 h4 h5 h6 h7 h8 h9 h10 h11 h12 h13 h14 h15 h16 h17 h18 h19 h20 h21 h22 h23 h24
              go_wp2
              exact hK _ _ (Ext.refl _) (fun _ _ => rfl)
            · intro wr hx v0 h0 v1 h1 v2 h2 v3 h3 v4 h4 v5 h5 v6 h6 v7 h7 v8 h8 v9 h9 v10 h10 v11 h11 v12 h12 v13 h13 v14 h14 v15 h15 v16 h16 v17 h17 v18 h18 v19 h19 v20 h20 v21 h21 v22 h22 v23 h23 v24 h24 K hK
              have p0 := (hx.cell (p := ⟨bL, oL + k * 2, none⟩) hbLr).trans hcy
              have p1 := (hx.cell (p := ⟨bL, oL + k * 2 + 1, none⟩) hbLr).trans hcd
              have p2 := (hx.cell (p := ⟨bM, oM + k * 2, none⟩) hbMr).trans hcy'
              have p3 := (hx.cell (p := ⟨bM, oM + k * 2 + 1, none⟩) hbMr).trans hcd'
              simp only [Act.put, List.setIfInBounds_toArray, List.set_cons_zero, List.set_cons_succ] at hK ⊢
              obtain rfl := (h11 (by decide)).now
              clear h0 h1 h2 h3 h4 h5 h6 h7 h8 h9 h10 h11 h12 h13 h14 h15 h16 h17 h18 h19 h20 h21 h22 h23 h24
              go_wp2
              exact hK _ _ (Ext.refl _) (fun _ _ => rfl)
            · intro wr hx v0 h0 v1 h1 v2 h2 v3 h3 v4 h4 v5 h5 v6 h6 v7 h7 v8 h8 v9 h9 v10 h10 v11 h11 v12 h12 v13 h13 v14 h14 v15 h15 v16 h16 v17 h17 v18 h18 v19 h19 v20 h20 v21 h21 v22 h22 v23 h23 v24 h24 K hK
              have p0 := (hx.cell (p := ⟨bL, oL + k * 2, none⟩) hbLr).trans hcy
              have p1 := (hx.cell (p := ⟨bL, oL + k * 2 + 1, none⟩) hbLr).trans hcd
              have p2 := (hx.cell (p := ⟨bM, oM + k * 2, none⟩) hbMr).trans hcy'
              have p3 := (hx.cell (p := ⟨bM, oM + k * 2 + 1, none⟩) hbMr).trans hcd'
              simp only [Act.put, List.setIfInBounds_toArray, List.set_cons_zero, List.set_cons_succ] at hK ⊢
              obtain rfl := (h11 (by decide)).now
              clear h0 h1 h2 h3 h4 h5 h6 h7 h8 h9 h10 h11 h12 h13 h14 h15 h16 h17 h18 h19 h20 h21 h22 h23 h24
              go_wp2
              exact hK _ _ (Ext.refl _) (fun _ _ => rfl)
            · intro wr hx v0 h0 v1 h1 v2 h2 v3 h3 v4 h4 v5 h5 v6 h6 v7 h7 v8 h8 v9 h9 v10 h10 v11 h11 v12 h12 v13 h13 v14 h14 v15 h15 v16 h16 v17 h17 v18 h18 v19 h19 v20 h20 v21 h21 v22 h22 v23 h23 v24 h24 K hK
              have p0 := (hx.cell (p := ⟨bL, oL + k * 2, none⟩) hbLr).trans hcy
              have p1 := (hx.cell (p := ⟨bL, oL + k * 2 + 1, none⟩) hbLr).trans hcd
              have p2 := (hx.cell (p := ⟨bM, oM + k * 2, none⟩) hbMr).trans hcy'
              have p3 := (hx.cell (p := ⟨bM, oM + k * 2 + 1, none⟩) hbMr).trans hcd'
              simp only [Act.put, List.setIfInBounds_toArray, List.set_cons_zero, List.set_cons_succ] at hK ⊢
              obtain rfl := (h11 (by decide)).now
              obtain rfl := (h17 (by decide)).now
              obtain rfl := (h18 (by decide)).now
              clear h0 h1 h2 h3 h4 h5 h6 h7 h8 h9 h10 h11 h12 h13 h14 h15 h16 h17 h18 h19 h20 h21 h22 h23 h24
              go_wp2
              exact hK _ _ (Ext.refl _) (fun _ _ => rfl)
            · intro wr hx v0 h0 v1 h1 v2 h2 v3 h3 v4 h4 v5 h5 v6 h6 v7 h7 v8 h8 v9 h9 v10 h10 v11 h11 v12 h12 v13 h13 v14 h14 v15 h15 v16 h16 v17 h17 v18 h18 v19 h19 v20 h20 v21 h21 v22 h22 v23 h23 v24 h24 K hK
              have p0 := (hx.cell (p := ⟨bL, oL + k * 2, none⟩) hbLr).trans hcy
              have p1 := (hx.cell (p := ⟨bL, oL + k * 2 + 1, none⟩) hbLr).trans hcd
              have p2 := (hx.cell (p := ⟨bM, oM + k * 2, none⟩) hbMr).trans hcy'
              have p3 := (hx.cell (p := ⟨bM, oM + k * 2 + 1, none⟩) hbMr).trans hcd'
              simp only [Act.put, List.setIfInBounds_toArray, List.set_cons_zero, List.set_cons_succ] at hK ⊢
              obtain rfl := (h11 (by decide)).now
              obtain rfl := (h19 (by decide)).now
              clear h0 h1 h2 h3 h4 h5 h6 h7 h8 h9 h10 h11 h12 h13 h14 h15 h16 h17 h18 h19 h20 h21 h22 h23 h24
              go_wp2
              exact hK _ _ (Ext.refl _) (fun _ _ => rfl)
            · intro wr hx v0 h0 v1 h1 v2 h2 v3 h3 v4 h4 v5 h5 v6 h6 v7 h7 v8 h8 v9 h9 v10 h10 v11 h11 v12 h12 v13 h13 v14 h14 v15 h15 v16 h16 v17 h17 v18 h18 v19 h19 v20 h20 v21 h21 v22 h22 v23 h23 v24 h24 K hK
              have p0 := (hx.cell (p := ⟨bL, oL + k * 2, none⟩) hbLr).trans hcy
              have p1 := (hx.cell (p := ⟨bL, oL + k * 2 + 1, none⟩) hbLr).trans hcd
              have p2 := (hx.cell (p := ⟨bM, oM + k * 2, none⟩) hbMr).trans hcy'
              have p3 := (hx.cell (p := ⟨bM, oM + k * 2 + 1, none⟩) hbMr).trans hcd'
              simp only [Act.put, List.setIfInBounds_toArray, List.set_cons_zero, List.set_cons_succ] at hK ⊢
              obtain rfl := (h11 (by decide)).now
              obtain rfl := (h20 (by decide)).now
              clear h0 h1 h2 h3 h4 h5 h6 h7 h8 h9 h10 h11 h12 h13 h14 h15 h16 h17 h18 h19 h20 h21 h22 h23 h24
              go_wp2
              exact hK _ _ (Ext.refl _) (fun _ _ => rfl)
            · intro wr hx v0 h0 v1 h1 v2 h2 v3 h3 v4 h4 v5 h5 v6 h6 v7 h7 v8 h8 v9 h9 v10 h10 v11 h11 v12 h12 v13 h13 v14 h14 v15 h15 v16 h16 v17 h17 v18 h18 v19 h19 v20 h20 v21 h21 v22 h22 v23 h23 v24 h24 K hK
              have p0 := (hx.cell (p := ⟨bL, oL + k * 2, none⟩) hbLr).trans hcy
              have p1 := (hx.cell (p := ⟨bL, oL + k * 2 + 1, none⟩) hbLr).trans hcd
              have p2 := (hx.cell (p := ⟨bM, oM + k * 2, none⟩) hbMr).trans hcy'
              have p3 := (hx.cell (p := ⟨bM, oM + k * 2 + 1, none⟩) hbMr).trans hcd'
              simp only [Act.put, List.setIfInBounds_toArray, List.set_cons_zero, List.set_cons_succ] at hK ⊢
              obtain rfl := (h11 (by decide)).now
              obtain rfl := (h16 (by decide)).now
              obtain rfl := (h21 (by decide)).now
              clear h0 h1 h2 h3 h4 h5 h6 h7 h8 h9 h10 h11 h12 h13 h14 h15 h16 h17 h18 h19 h20 h21 h22 h23 h24
              go_wp2_with fail
              refine (refEqual_any wr _ _ A1 A2 n1 k1 n2 k2 _ _ (ISD.out.step hx) (ISD'.out.step hx)).mono ?_
              rintro e w' ⟨rfl, hd⟩
              rw [decide_eq_true rfl]
              go_wp2
              exact hK _ _ (hd.below _) (fun _ _ => rfl)
            · intro wr hx v0 h0 v1 h1 v2 h2 v3 h3 v4 h4 v5 h5 v6 h6 v7 h7 v8 h8 v9 h9 v10 h10 v11 h11 v12 h12 v13 h13 v14 h14 v15 h15 v16 h16 v17 h17 v18 h18 v19 h19 v20 h20 v21 h21 v22 h22 v23 h23 v24 h24 K hK
              have p0 := (hx.cell (p := ⟨bL, oL + k * 2, none⟩) hbLr).trans hcy
              have p1 := (hx.cell (p := ⟨bL, oL + k * 2 + 1, none⟩) hbLr).trans hcd
              have p2 := (hx.cell (p := ⟨bM, oM + k * 2, none⟩) hbMr).trans hcy'
              have p3 := (hx.cell (p := ⟨bM, oM + k * 2 + 1, none⟩) hbMr).trans hcd'
              simp only [Act.put, List.setIfInBounds_toArray, List.set_cons_zero, List.set_cons_succ] at hK ⊢
              obtain rfl := (h11 (by decide)).now
              obtain rfl := (h22 (by decide)).now
              clear h0 h1 h2 h3 h4 h5 h6 h7 h8 h9 h10 h11 h12 h13 h14 h15 h16 h17 h18 h19 h20 h21 h22 h23 h24
              go_wp2
              exact hK _ _ (Ext.refl _) (fun _ _ => rfl)
            · intro wr hx v0 h0 v1 h1 v2 h2 v3 h3 v4 h4 v5 h5 v6 h6 v7 h7 v8 h8 v9 h9 v10 h10 v11 h11 v12 h12 v13 h13 v14 h14 v15 h15 v16 h16 v17 h17 v18 h18 v19 h19 v20 h20 v21 h21 v22 h22 v23 h23 v24 h24 K hK
              have p0 := (hx.cell (p := ⟨bL, oL + k * 2, none⟩) hbLr).trans hcy
              have p1 := (hx.cell (p := ⟨bL, oL + k * 2 + 1, none⟩) hbLr).trans hcd
              have p2 := (hx.cell (p := ⟨bM, oM + k * 2, none⟩) hbMr).trans hcy'
              have p3 := (hx.cell (p := ⟨bM, oM + k * 2 + 1, none⟩) hbMr).trans hcd'
              simp only [Act.put, List.setIfInBounds_toArray, List.set_cons_zero, List.set_cons_succ] at hK ⊢
              obtain rfl := (h11 (by decide)).now
              obtain rfl := (h23 (by decide)).now
              clear h0 h1 h2 h3 h4 h5 h6 h7 h8 h9 h10 h11 h12 h13 h14 h15 h16 h17 h18 h19 h20 h21 h22 h23 h24
              go_wp2
              exact hK _ _ (Ext.refl _) (fun _ _ => rfl)
            intro w8 hx v0 h0 v1 h1 v2 h2 v3 h3 v4 h4 v5 h5 v6 h6 v7 h7 v8 h8 v9 h9 v10 h10 v11 h11 v12 h12 v13 h13 v14 h14 v15 h15 v16 h16 v17 h17 v18 h18 v19 h19 v20 h20 v21 h21 v22 h22 v23 h23 v24 h24
            have p0 := (hx.cell (p := ⟨bL, oL + k * 2, none⟩) hbLr).trans hcy
            have p1 := (hx.cell (p := ⟨bL, oL + k * 2 + 1, none⟩) hbLr).trans hcd
            have p2 := (hx.cell (p := ⟨bM, oM + k * 2, none⟩) hbMr).trans hcy'
            have p3 := (hx.cell (p := ⟨bM, oM + k * 2 + 1, none⟩) hbMr).trans hcd'
            obtain rfl := h24.now
            clear h0 h1 h2 h3 h4 h5 h6 h7 h8 h9 h10 h11 h12 h13 h14 h15 h16 h17 h18 h19 h20 h21 h22 h23 h24
            refine tail_none (by kernel_rfl) ?_
            simp only [Act.put, List.setIfInBounds_toArray, List.set_cons_zero, List.set_cons_succ]
            have HB8 := Lib.hid (HB.out.trans (hx.mono HB.out.size))
            clear hx hcy hcd hcy' hcd'
            go_wp2
            go_roundw
            case rel => exact ⟨k + 1, by omega, by go_num, HB8.out⟩
            case measure => simp [intOf]; omega
          · obtain rfl : k = nM := by omega
            have hMr := HM.out.step hbel
            have HB := Lib.hid (bstep B1.out hbel)
            clear hbel
            go_wp2_with fail
            refine (refKey_any wr _ AM k cM L d hMr).mono ?_
            rintro e w9 ⟨rfl, rfl⟩
            rw [HKV.out]
            clear hMr
            have hvv : (kv == kv) = true := by simp
            cases kb with
            | false =>
              go_wp2
              go_ret
              exact ⟨rfl, HB.out⟩
            | true =>
              go_wp2
              go_ret
              exact ⟨by simp, HB.out⟩
      · exact absurd HPT.out hno
    · have h4 := h3.step b4
      have t4 := t3.step b4
      have gb4 := gb3.step b4
      replace b1 := bstep b1 b4
      clear h3 t3 gb3 b4 c0 c1 c2 c3
      have ⟨_, _, c0, c1, c2, c3, _⟩ := gb4
      obtain ⟨q, hq⟩ : ∃ q, (if pRight N es vs xs = 0 then 5 else pRight N es vs xs) = q := ⟨_, rfl⟩
      rw [hq]
      go_wp2_with fail
      refine (key_any w4 N A m c es Av nv cv vs Ae ne ce xs At nt ct tt d h4 t4 hm60 hne60).mono ?_
      rintro e w5 ⟨⟨h8, h9, rfl⟩ | ⟨_, rfl⟩, b5⟩
      · exact absurd ⟨h8, h9⟩ hno
      · have h5 := h4.step b5
        have t5 := t4.step b5
        have gb5 := gb4.step b5
        replace b1 := bstep b1 b5
        clear h4 t4 gb4 b5 c0 c1 c2 c3
        have ⟨_, _, c0, c1, c2, c3, _⟩ := gb5
        simp only [keyVal]
        go_wp2_with fail
        refine (right6_any w5 N A m c es Av nv cv vs Ae ne ce xs At nt ct tt h5 t5 hm60 hne60).mono ?_
        rintro e w6 ⟨⟨q', rfl, hq'⟩, b6⟩
        obtain ⟨hqq, hq0⟩ : q' = q ∧ q ≠ 0 := by
          rcases hq' with ⟨h, h'⟩ | ⟨h, h', _⟩ | ⟨h, _, h'⟩
          · rw [if_neg h] at hq
            exact ⟨h'.trans hq, by rw [← hq]; exact h⟩
          · exact absurd ⟨h, h'⟩ hno
          · rw [if_pos h] at hq
            exact ⟨h'.trans hq, by rw [← hq]; decide⟩
        subst hqq
        have hqb : (q' != 0) = true := by simpa [bne_iff_ne] using hq0
        have B1 := Lib.hid (bstep b1 b6)
        clear h5 t5 gb5 b6 c0 c1 c2 c3 hq hq' hno hq0 b1
        go_wp2
        go_ret
        exact ⟨rfl, B1.out⟩
  · have B1 := Lib.hid (bstep b1 b3)
    clear b1 b3 h2 t2 gb2 c0 c1 c2 c3 hs
    go_wp2_with fail
    refine (awakeFace w3).mono ?_
    rintro e w4 ⟨rfl, b4⟩
    have B2 := Lib.hid (bstep B1.out b4)
    clear b4
    go_wp2_with fail
    go_ret
    exact ⟨rfl, B2.out⟩
end Go.Proofs.Ythobfbnopkbniaa
