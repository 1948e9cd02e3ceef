/-
  The contract of walk.Beyond, at a dart that is no loop. No conditions on the program.
-/
import Derived.Test.YthobfbnopkbniaaWBeyond
namespace Go.Proofs.Ythobfbnopkbniaa
open Go.RowKit

theorem filter_snoc {p : Int → Bool} {l : List Int} {k : Nat} {z : Int} (hk : k < l.length) (hz : l.getD k 0 = z) : (l.take (k + 1)).filter p = (l.take k).filter p ++ (if p z then [z] else []) := by
  rw [take_getD hk hz, List.filter_append]
  congr 1
  cases h : p z <;> simp [h]

set_option maxHeartbeats 16000000 in
set_option maxRecDepth 100000 in
theorem beyond_far (w : World) (N : Int) (A : Option Addr) (m c : Nat) (es : List (Int × Int)) (Av : Option Addr) (nv cv : Nat) (vs : List Int) (Ae : Option Addr) (ne ce : Nat) (xs : List Int) (v d : Int) (h : GP w N A m c es Av nv cv vs Ae ne ce xs) (hd : I64 d) (hr : pRight N es vs xs = 0) (hd0 : 0 ≤ d) (hdx : d / 2 ∈ xs) (htl : tail es d = v) (hh : head es d ≠ v) :
    Calls Try.prog 44 #[.agg #[.int .i64 N, .slice A m c], .agg #[.slice Av nv cv, .slice Ae ne ce], .int .i64 v, .int .i64 d] w (BeyRes w es vs xs v d) := by
  have HR := Lib.hid hr
  have hp := Lib.hid (pRight_ok hr)
  have HHV := Lib.hid (head_in (pRight_ok hr) hdx).1
  obtain ⟨u, hu⟩ : ∃ u, head es d = u := ⟨_, rfl⟩
  rw [hu] at HHV hh
  have HU := Lib.hid hu
  have hub : (u == v) = false := by simp [hh]
  have HH := Lib.hid hh
  clear hh hr hu
  have HD := Lib.hid (decide_eq_true hdx)
  have hdr := hp.out.xr _ hdx
  have hxl := hp.out.lens.2.1
  have ht1 : (v != v) = false := by simp
  have hb1 := bits_xor_one hd
  have hd1 := hd.2
  have htw0 : 0 ≤ twin d := by unfold twin; split <;> omega
  have htw1 : twin d < 2 * es.length := by unfold twin; split <;> omega
  have HTW0 := Lib.hid htw0
  have HTW1 := Lib.hid htw1
  have HDL : Hid (d < 2 * es.length) := Lib.hid (by omega)
  have HDX := Lib.hid hdx
  have HTL := Lib.hid htl
  clear htw0 htw1 hdx hdr htl
  obtain ⟨w1, hw1, b1, gb1⟩ := box_gp w N A m c es Av nv cv Ae ne ce
  obtain ⟨wa, hwa, ba, sa, hca⟩ := box_one w1 #[.slice none 0 0, .slice none 0 0] 27
  have hra : wa.heap[w1.heap.size]? = some (.cells #[.slice none 0 0, .slice none 0 0] 27 (0, 0)) := by rw [← hwa]; exact heap_alloc_new _ _
  have h1 := (h.step b1).step ba
  have gba := gb1.step ba
  have B1 := bstep b1 ba
  have hsw : w.heap.size ≤ w1.heap.size := b1.size
  clear h b1 gb1 ba hca sa
  go_enter Try.func44, Try.ntmps44
  have ⟨_, _, c0, c1, c2, c3, _⟩ := gba
  go_wp2_with fail
  refine (gRightPart_any wa N A m c es Av nv cv vs Ae ne ce xs h1).mono ?_
  rintro e w2 ⟨rfl, b2⟩
  rw [HR.out]
  have h2 := h1.step b2
  have gb2 := gba.step b2
  have B2 := bstep B1 b2
  have hr2 := (b2.block _ (Array.getElem?_eq_some_iff.1 hra).1).trans hra
  clear hw1 hwa h1 c0 c1 c2 c3 gba b2 B1 hra
  have ⟨hg2, hp2, c0, c1, c2, c3, _⟩ := gb2
  have z0 : w2.cell? ⟨w1.heap.size, 0, none⟩ = some (.slice none 0 0) := cell_of_row w2 _ 0 _ _ _ hr2
  have z1 : w2.cell? ⟨w1.heap.size, 1, none⟩ = some (.slice none 0 0) := cell_of_row w2 _ 1 _ _ _ hr2
  have f0 : w2.frozen? ⟨w1.heap.size, 0, none⟩ = false := frozen_of_row hr2
  have f1 : w2.frozen? ⟨w1.heap.size, 1, none⟩ = false := frozen_of_row hr2
  have hnx : ne ≤ 1000000 := by have := h2.e.len; omega
  go_wp2_with fail
  refine (has_any w2 _ Ae ne ce xs (d / 2) h2.e hnx hp.out.xp).mono ?_
  rintro e w3 ⟨rfl, rfl⟩
  rw [HD.out]
  have hgl := h2.g.len
  go_wp2_with fail
  refine (target_any w2 N A m c es (twin d) h2.g HTW0.out (by have := HTW1.out; omega)).mono ?_
  rintro e w3 ⟨rfl, b3⟩
  rw [head_twin, HTL.out]
  have h3 := h2.step b3
  have gb3 := gb2.step b3
  have B3 := bstep B2 b3
  have hr3 := (b3.block _ (Array.getElem?_eq_some_iff.1 hr2).1).trans hr2
  clear z0 z1 f0 f1 c0 c1 c2 c3 hr2 h2 gb2 b3 B2
  have ⟨_, _, c0, c1, c2, c3, _⟩ := gb3
  go_wp2_with fail
  refine (target_any w3 N A m c es d h3.g hd0 (by have := HDL.out; omega)).mono ?_
  rintro e w4 ⟨rfl, b4⟩
  have h4 := h3.step b4
  have gb4 := gb3.step b4
  have B4 := bstep B3 b4
  have hr4 := (b4.block _ (Array.getElem?_eq_some_iff.1 hr3).1).trans hr3
  clear c0 c1 c2 c3 hr3 h3 gb3 b4 B3
  have ⟨hg4, hp4, c0, c1, c2, c3, _⟩ := gb4
  have z0 : w4.cell? ⟨w1.heap.size, 0, none⟩ = some (.slice none 0 0) := cell_of_row w4 _ 0 _ _ _ hr4
  have z1 : w4.cell? ⟨w1.heap.size, 1, none⟩ = some (.slice none 0 0) := cell_of_row w4 _ 1 _ _ _ hr4
  have f0 : w4.frozen? ⟨w1.heap.size, 0, none⟩ = false := frozen_of_row hr4
  have f1 : w4.frozen? ⟨w1.heap.size, 1, none⟩ = false := frozen_of_row hr4
  rw [HU.out]
  go_wp2
  have H4 := Lib.hid h4
  clear h4 z0 z1 f0 f1
  refine wp_region_rel 7 [[],[],[],[1,2],[],[],[0,1,2,3,4,5]]
    [fun v _ => v = .agg #[.int .i64 N, .slice A m c],
     fun v _ => v = .agg #[.int .i64 N, .slice A m c],
     fun v _ => v = .agg #[.slice Av nv cv, .slice Ae ne ce],
     fun x w' => ∃ b, x = .map (some b) ∧ DM w' b (fun v => dartsOf es v xs),
     fun v _ => v = .int .i64 u,
     fun x _ => x = .int .i64 v,
     fun x w' => ∃ b f ms, x = .map (some b) ∧ MI w' b ms.length f ∧ RI es xs v u vs f ms ms.length]
    (by kernel_rfl) (by kernel_rfl) rfl ⟨?_, ?_, ?_, ?_, ?_, ?_, ?_, trivial⟩ ?_
  · intro wr hx v0 h0 v1 h1 v2 h2 v3 h3 v4 h4 v5 h5 v6 h6 K hK
    have ⟨_, _, q0, q1, q2, q3, _⟩ := gb4.step hx
    simp only [Act.put, List.setIfInBounds_toArray, List.set_cons_zero, List.set_cons_succ] at hK ⊢
    clear h0 h1 h2 h3 h4 h5 h6
    go_wp2
    exact hK _ _ (Ext.refl _) (fun _ _ => rfl)
  · intro wr hx v0 h0 v1 h1 v2 h2 v3 h3 v4 h4 v5 h5 v6 h6 K hK
    have ⟨_, _, q0, q1, q2, q3, _⟩ := gb4.step hx
    simp only [Act.put, List.setIfInBounds_toArray, List.set_cons_zero, List.set_cons_succ] at hK ⊢
    clear h0 h1 h2 h3 h4 h5 h6
    go_wp2
    exact hK _ _ (Ext.refl _) (fun _ _ => rfl)
  · intro wr hx v0 h0 v1 h1 v2 h2 v3 h3 v4 h4 v5 h5 v6 h6 K hK
    have ⟨_, _, q0, q1, q2, q3, _⟩ := gb4.step hx
    simp only [Act.put, List.setIfInBounds_toArray, List.set_cons_zero, List.set_cons_succ] at hK ⊢
    clear h0 h1 h2 h3 h4 h5 h6
    go_wp2
    exact hK _ _ (Ext.refl _) (fun _ _ => rfl)
  · intro wr hx v0 h0 v1 h1 v2 h2 v3 h3 v4 h4 v5 h5 v6 h6 K hK
    have ⟨_, _, q0, q1, q2, q3, _⟩ := gb4.step hx
    simp only [Act.put, List.setIfInBounds_toArray, List.set_cons_zero, List.set_cons_succ] at hK ⊢
    obtain rfl := (h1 (by decide)).now
    obtain rfl := (h2 (by decide)).now
    clear h0 h1 h2 h3 h4 h5 h6
    go_wp2_with fail
    refine (leaving_any wr N A m c es Av nv cv vs Ae ne ce xs (H4.out.step hx) hp.out).mono ?_
    rintro e w' ⟨b, rfl, hdm, _, hb⟩
    go_wp2
    exact hK _ _ hb (fun w'' hx' => ⟨_, rfl, hdm.step hx'⟩)
  · intro wr hx v0 h0 v1 h1 v2 h2 v3 h3 v4 h4 v5 h5 v6 h6 K hK
    have ⟨_, _, q0, q1, q2, q3, _⟩ := gb4.step hx
    simp only [Act.put, List.setIfInBounds_toArray, List.set_cons_zero, List.set_cons_succ] at hK ⊢
    clear h0 h1 h2 h3 h4 h5 h6
    go_wp2
    exact hK _ _ (Ext.refl _) (fun _ _ => rfl)
  · intro wr hx v0 h0 v1 h1 v2 h2 v3 h3 v4 h4 v5 h5 v6 h6 K hK
    have ⟨_, _, q0, q1, q2, q3, _⟩ := gb4.step hx
    simp only [Act.put, List.setIfInBounds_toArray, List.set_cons_zero, List.set_cons_succ] at hK ⊢
    clear h0 h1 h2 h3 h4 h5 h6
    go_wp2
    exact hK _ _ (Ext.refl _) (fun _ _ => rfl)
  · intro wr hx v0 h0 v1 h1 v2 h2 v3 h3 v4 h4 v5 h5 v6 h6 K hK
    have ⟨_, _, q0, q1, q2, q3, _⟩ := gb4.step hx
    simp only [Act.put, List.setIfInBounds_toArray, List.set_cons_zero, List.set_cons_succ] at hK ⊢
    obtain rfl := (h0 (by decide)).now
    obtain ⟨b3, rfl, hdm⟩ := (h3 (by decide)).now
    obtain rfl := (h4 (by decide)).now
    obtain rfl := (h5 (by decide)).now
    clear h0 h1 h2 h3 h4 h5 h6
    go_wp2_with fail
    refine (reach_any wr N A m c es vs xs b3 u v (H4.out.step hx).g hdm hp.out HHV.out).mono ?_
    rintro e w' ⟨b, f, ms, rfl, hmi, hri, _, hb⟩
    go_wp2
    exact hK _ _ hb (fun w'' hx' => ⟨_, _, _, rfl, MV.step hmi hx', hri⟩)
  intro wr hx v0 h0 v1 h1 v2 h2 v3 h3 v4 h4 v5 h5 v6 h6
  have ⟨_, _, q0, q1, q2, q3, _⟩ := gb4.step hx
  obtain ⟨mb, f, ms, rfl, hmi, hri⟩ := h6.now
  clear h0 h1 h2 h3 h4 h5 h6
  refine tail_quiet (by kernel_rfl) ?_
  simp only [List.drop_succ_cons, List.drop_zero, Act.put, List.setIfInBounds_toArray, List.set_cons_zero, List.set_cons_succ]
  repeat (go_big_quiet_step (fail))
  refine wpQuiet_nil ?_
  have h5 := H4.out.step hx
  have gb5 := gb4.step hx
  have B5 := Lib.hid (bstep B4 hx)
  have hr5 := Lib.hid ((hx.block _ (Array.getElem?_eq_some_iff.1 hr4).1).trans hr4)
  have hml := hmi.lt
  have HRI := Lib.hid hri
  have HMI := Lib.hid hmi
  have hlenv := h5.v.len
  have hlev := h5.v.le
  have hcapv := h5.v.cap
  have hlene := h5.e.len
  have hlee := h5.e.le
  have hcape := h5.e.cap
  have hmg := h5.g.len
  have hmc := h5.g.cap
  have hmle := h5.g.le
  have H5 := Lib.hid h5
  have GB5 := Lib.hid gb5
  obtain ⟨hvl, hxl2, hNl⟩ := hp.out.lens
  have hst : WInv wr (wr.alloc (.cells #[.slice none 0 0, .slice none 0 0] 27)) wr.heap.size (.slice none 0 0) (.slice none 0 0) [] [] :=
    ⟨heap_alloc_new _ _, (Own.start wr).alloc _, (Own.start wr).alloc _, Nat.le_refl _, .inl rfl⟩
  clear hx hri hmi h5 gb5 gb4 H4 c0 c1 c2 c3 q0 q1 q2 q3 hr4 B4 hg4 hp4
  have ⟨hg5, hp5, c0, c1, c2, c3, _⟩ := GB5.out
  have hs5 : wr.heap.size < (wr.alloc (.cells #[.slice none 0 0, .slice none 0 0] 27)).heap.size := by simp
  go_wp2
  obtain ⟨wo, hwo⟩ : ∃ wo : World, wo = wr := ⟨_, rfl⟩
  rw [← hwo] at hst H5 GB5 B5 hr5 HMI hml ⊢
  rw [← hwo] at hg5 hp5 c0 c1 c2 c3
  clear hwo hs5
  have C0 := Lib.hid c0
  have C1 := Lib.hid c1
  have C3 := Lib.hid c3
  clear c0 c1 c2 c3
  go_loopw [70] (fun i wr => ∃ k : Nat, k ≤ nv ∧ i = .int .i64 k ∧ ∃ v1, WInv wo wr wo.heap.size v1 (.slice none 0 0) ((vs.take k).filter (fun x => (f x).isSome || x == v)) []) (fun i _ => nv - (intOf i).toNat)
  case atStart => exact ⟨0, Nat.zero_le _, rfl, _, hst⟩
  case round =>
    clear hst
    obtain ⟨k, hk, rfl, v1, inv⟩ := hrel
    have hmi : MI wr mb ms.length f := HMI.out.below inv.r1.below hml
    have e0 := inv.cell 0
    have e1 := inv.cell 1
    obtain ⟨vA, vn, vc, rfl⟩ := inv.r1.slice_
    by_cases hlt : k < nv
    · obtain ⟨bv, ov, z, rfl, hbv, hz, hz64, hcz⟩ := (H5.out.v.below inv.r1.below).get hlt
      have hkl : Hid (k < vs.length) := Lib.hid (by omega)
      have INV := Lib.hid inv
      have hfl : Hid (((vs.take k).filter (fun x => (f x).isSome || x == v)).length + 1 ≤ 1000000000000) := Lib.hid (by
        have h1 := List.length_filter_le (fun x => (f x).isSome || x == v) (vs.take k)
        have h2 : (vs.take k).length ≤ k := List.length_take_le _ _
        omega)
      clear inv
      cases hf : f z with
      | some q =>
        have HF := Lib.hid hf
        have hpz : Hid (((f z).isSome || z == v) = true) := Lib.hid (by rw [hf]; rfl)
        clear hf
        go_wp2_with (first
          | (with_reducible show wpList _ _ _ (Oper.mk (some 77) _ _ _ _ _ :: _) _ _; go_must (refine wpList_iok_some (g := f) (k := z) rfl _ _ rfl rfl hmi rfl hz64 q HF.out ?_))
          | (with_reducible show wpList _ _ _ (Oper.mk (some 90) _ _ _ _ _ :: _) _ _; go_must (refine wpList_append_one (v := .slice vA vn vc) (w0 := wo) rfl _ _ rfl rfl INV.out.r1 _ hz64 rfl hfl.out ?_; intro v' w5 hown' hg5' hb5'; obtain ⟨hbx, ⟨u0, hu0⟩, hf0⟩ := INV.out.mid (.inl rfl) hg5' 0 (by omega); obtain ⟨xA, xn, xc, rfl⟩ := hown'.slice_)))
        go_roundw
        case rel => exact ⟨k + 1, by omega, by go_num, _, by rw [filter_snoc hkl.out hz.out, if_pos hpz.out]; exact INV.out.put1 rfl hown' hg5'⟩
        case measure => simp [intOf]; omega
      | none =>
        have HF := Lib.hid hf
        by_cases hzv : z = v
        · have hzb : (z == v) = true := by simp [hzv]
          have hpz : Hid (((f z).isSome || z == v) = true) := Lib.hid (by rw [hf, hzb]; rfl)
          clear hf hzv
          go_wp2_with (first
            | (with_reducible show wpList _ _ _ (Oper.mk (some 77) _ _ _ _ _ :: _) _ _; go_must (refine wpList_iok_none (g := f) (k := z) rfl _ _ rfl rfl hmi rfl hz64 HF.out ?_))
            | (with_reducible show wpList _ _ _ (Oper.mk (some 90) _ _ _ _ _ :: _) _ _; go_must (refine wpList_append_one (v := .slice vA vn vc) (w0 := wo) rfl _ _ rfl rfl INV.out.r1 _ hz64 rfl hfl.out ?_; intro v' w5 hown' hg5' hb5'; obtain ⟨hbx, ⟨u0, hu0⟩, hf0⟩ := INV.out.mid (.inl rfl) hg5' 0 (by omega); obtain ⟨xA, xn, xc, rfl⟩ := hown'.slice_)))
          go_roundw
          case rel => exact ⟨k + 1, by omega, by go_num, _, by rw [filter_snoc hkl.out hz.out, if_pos hpz.out]; exact INV.out.put1 rfl hown' hg5'⟩
          case measure => simp [intOf]; omega
        · have hzb : (z == v) = false := by simp [hzv]
          have hpz : Hid (((f z).isSome || z == v) = false) := Lib.hid (by rw [hf, hzb]; rfl)
          clear hf hzv
          go_wp2_with (with_reducible show wpList _ _ _ (Oper.mk (some 77) _ _ _ _ _ :: _) _ _; go_must (refine wpList_iok_none (g := f) (k := z) rfl _ _ rfl rfl hmi rfl hz64 HF.out ?_))
          go_roundw
          case rel => exact ⟨k + 1, by omega, by go_num, _, by rw [filter_snoc hkl.out hz.out, if_neg (by rw [hpz.out]; simp), List.append_nil]; exact INV.out⟩
          case measure => simp [intOf]; omega
    · obtain rfl : k = nv := by omega
      rw [List.take_of_length_le (by omega)] at inv
      have hj0 : WInv wo wr wo.heap.size (.slice vA vn vc) (.slice none 0 0) (vs.filter (fun x => (f x).isSome || x == v)) ((xs.take 0).filter (fun e => (f (ends es e).1).isSome || (f (ends es e).2).isSome)) := inv
      have c3 := (inv.r1.below.cell (p := ⟨w.heap.size + 1, 1, none⟩) hp5).trans C3.out
      clear inv e0 e1 hmi
      go_wp2
      clear c3
      obtain ⟨ws, hws⟩ : ∃ ws : World, ws = wr := ⟨_, rfl⟩
      rw [← hws] at hj0 ⊢
      clear hws
      go_loopw [96] (fun i wr => ∃ j : Nat, j ≤ ne ∧ i = .int .i64 j ∧ ∃ v2, WInv wo wr wo.heap.size (.slice vA vn vc) v2 (vs.filter (fun x => (f x).isSome || x == v)) ((xs.take j).filter (fun e => (f (ends es e).1).isSome || (f (ends es e).2).isSome))) (fun i _ => ne - (intOf i).toNat)
      case atStart => exact ⟨0, Nat.zero_le _, rfl, _, hj0⟩
      case round =>
        clear hj0
        obtain ⟨j, hj, rfl, v2, inv⟩ := hrel
        have hmi : MI wr mb ms.length f := HMI.out.below inv.r2.below hml
        have e0 := inv.cell 0
        have e1 := inv.cell 1
        have c0 := (inv.r2.below.cell (p := ⟨w.heap.size, 0, none⟩) hg5).trans C0.out
        have c1 := (inv.r2.below.cell (p := ⟨w.heap.size, 1, none⟩) hg5).trans C1.out
        obtain ⟨yA, yn, yc, rfl⟩ := inv.r2.slice_
        by_cases hlt : j < ne
        · obtain ⟨be, oe, z, rfl, hbe, hz, hz64, hcz⟩ := (H5.out.e.below inv.r2.below).get hlt
          have hkl : Hid (j < xs.length) := Lib.hid (by omega)
          have hzm := H5.out.e.mem hlt
          rw [hz.out] at hzm
          have hzr := hp.out.xr z hzm
          have hen' := hp.out.ends z hzm
          obtain ⟨q, rfl⟩ := Int.eq_ofNat_of_zero_le hzr.1
          have hqm : q < m := by omega
          obtain ⟨bg, og, x, y, rfl, hbg, hxy, hx64, hy64, hcx, hcy⟩ := (H5.out.g.below inv.r2.below).get hqm
          have hen : ends es q = (x, y) := by unfold ends; rw [Int.toNat_natCast]; exact hxy.out
          have hq0 : (0 : Int) ≤ (q : Int) := by omega
          have hq1 : (q : Int) < (m : Int) := by omega
          have INV := Lib.hid inv
          have hfl : Hid (((xs.take j).filter (fun e => (f (ends es e).1).isSome || (f (ends es e).2).isSome)).length + 1 ≤ 1000000000000) := Lib.hid (by
            have h1 := List.length_filter_le (fun e => (f (ends es e).1).isSome || (f (ends es e).2).isSome) (xs.take j)
            have h2 : (xs.take j).length ≤ j := List.length_take_le _ _
            omega)
          have hpe : Hid (((f (ends es q).1).isSome || (f (ends es q).2).isSome) = ((f x).isSome || (f y).isSome)) := Lib.hid (by rw [hen])
          clear inv hzm hzr hen' hen
          cases hf : f x with
          | some qx =>
            have HF := Lib.hid hf
            have hpz : Hid (((f (ends es q).1).isSome || (f (ends es q).2).isSome) = true) := Lib.hid (by rw [hpe.out, hf]; rfl)
            clear hf
            cases hfy : f y with
            | some qy =>
              have HFY := Lib.hid hfy
              clear hfy
              go_wp2_with (first
                | (with_reducible show wpList _ _ _ (Oper.mk (some 108) _ _ _ _ _ :: _) _ _; go_must (refine wpList_iok_some (g := f) (k := x) rfl _ _ rfl rfl hmi rfl hx64 qx HF.out ?_))
                | (with_reducible show wpList _ _ _ (Oper.mk (some 119) _ _ _ _ _ :: _) _ _; go_must (refine wpList_iok_some (g := f) (k := y) rfl _ _ rfl rfl hmi rfl hy64 qy HFY.out ?_))
                | (with_reducible show wpList _ _ _ (Oper.mk (some 130) _ _ _ _ _ :: _) _ _; go_must (refine wpList_append_one (v := .slice yA yn yc) (w0 := wo) rfl _ _ rfl rfl INV.out.r2 _ hz64 rfl hfl.out ?_; intro v' w5 hown' hg5' hb5'; obtain ⟨hbx, ⟨u0, hu0⟩, hf0⟩ := INV.out.mid (.inr rfl) hg5' 1 (by omega); obtain ⟨xA, xn, xc, rfl⟩ := hown'.slice_)))
              go_roundw
              case rel => exact ⟨j + 1, by omega, by go_num, _, by rw [filter_snoc hkl.out hz.out, if_pos hpz.out]; exact INV.out.put2 hown' hg5' hb5'⟩
              case measure => simp [intOf]; omega
            | none =>
              have HFY := Lib.hid hfy
              clear hfy
              go_wp2_with (first
                | (with_reducible show wpList _ _ _ (Oper.mk (some 108) _ _ _ _ _ :: _) _ _; go_must (refine wpList_iok_some (g := f) (k := x) rfl _ _ rfl rfl hmi rfl hx64 qx HF.out ?_))
                | (with_reducible show wpList _ _ _ (Oper.mk (some 119) _ _ _ _ _ :: _) _ _; go_must (refine wpList_iok_none (g := f) (k := y) rfl _ _ rfl rfl hmi rfl hy64  HFY.out ?_))
                | (with_reducible show wpList _ _ _ (Oper.mk (some 130) _ _ _ _ _ :: _) _ _; go_must (refine wpList_append_one (v := .slice yA yn yc) (w0 := wo) rfl _ _ rfl rfl INV.out.r2 _ hz64 rfl hfl.out ?_; intro v' w5 hown' hg5' hb5'; obtain ⟨hbx, ⟨u0, hu0⟩, hf0⟩ := INV.out.mid (.inr rfl) hg5' 1 (by omega); obtain ⟨xA, xn, xc, rfl⟩ := hown'.slice_)))
              go_roundw
              case rel => exact ⟨j + 1, by omega, by go_num, _, by rw [filter_snoc hkl.out hz.out, if_pos hpz.out]; exact INV.out.put2 hown' hg5' hb5'⟩
              case measure => simp [intOf]; omega
          | none =>
            have HF := Lib.hid hf
            cases hfy : f y with
            | some qy =>
              have HFY := Lib.hid hfy
              have hpz : Hid (((f (ends es q).1).isSome || (f (ends es q).2).isSome) = true) := Lib.hid (by rw [hpe.out, hf, hfy]; rfl)
              clear hfy hf
              go_wp2_with (first
                | (with_reducible show wpList _ _ _ (Oper.mk (some 108) _ _ _ _ _ :: _) _ _; go_must (refine wpList_iok_none (g := f) (k := x) rfl _ _ rfl rfl hmi rfl hx64  HF.out ?_))
                | (with_reducible show wpList _ _ _ (Oper.mk (some 119) _ _ _ _ _ :: _) _ _; go_must (refine wpList_iok_some (g := f) (k := y) rfl _ _ rfl rfl hmi rfl hy64 qy HFY.out ?_))
                | (with_reducible show wpList _ _ _ (Oper.mk (some 130) _ _ _ _ _ :: _) _ _; go_must (refine wpList_append_one (v := .slice yA yn yc) (w0 := wo) rfl _ _ rfl rfl INV.out.r2 _ hz64 rfl hfl.out ?_; intro v' w5 hown' hg5' hb5'; obtain ⟨hbx, ⟨u0, hu0⟩, hf0⟩ := INV.out.mid (.inr rfl) hg5' 1 (by omega); obtain ⟨xA, xn, xc, rfl⟩ := hown'.slice_)))
              go_roundw
              case rel => exact ⟨j + 1, by omega, by go_num, _, by rw [filter_snoc hkl.out hz.out, if_pos hpz.out]; exact INV.out.put2 hown' hg5' hb5'⟩
              case measure => simp [intOf]; omega
            | none =>
              have HFY := Lib.hid hfy
              have hpz : Hid (((f (ends es q).1).isSome || (f (ends es q).2).isSome) = false) := Lib.hid (by rw [hpe.out, hf, hfy]; rfl)
              clear hfy hf
              go_wp2_with (first
                | (with_reducible show wpList _ _ _ (Oper.mk (some 108) _ _ _ _ _ :: _) _ _; go_must (refine wpList_iok_none (g := f) (k := x) rfl _ _ rfl rfl hmi rfl hx64  HF.out ?_))
                | (with_reducible show wpList _ _ _ (Oper.mk (some 119) _ _ _ _ _ :: _) _ _; go_must (refine wpList_iok_none (g := f) (k := y) rfl _ _ rfl rfl hmi rfl hy64  HFY.out ?_))
                | (with_reducible show wpList _ _ _ (Oper.mk (some 130) _ _ _ _ _ :: _) _ _; go_must (refine wpList_append_one (v := .slice yA yn yc) (w0 := wo) rfl _ _ rfl rfl INV.out.r2 _ hz64 rfl hfl.out ?_; intro v' w5 hown' hg5' hb5'; obtain ⟨hbx, ⟨u0, hu0⟩, hf0⟩ := INV.out.mid (.inr rfl) hg5' 1 (by omega); obtain ⟨xA, xn, xc, rfl⟩ := hown'.slice_)))
              go_roundw
              case rel => exact ⟨j + 1, by omega, by go_num, _, by rw [filter_snoc hkl.out hz.out, if_neg (by rw [hpz.out]; simp), List.append_nil]; exact INV.out⟩
              case measure => simp [intOf]; omega
        · obtain rfl : j = ne := by omega
          rw [List.take_of_length_le (by omega)] at inv
          have hl5 := (Array.getElem?_eq_some_iff.1 hr5.out).1
          have hrw := (inv.r2.below.block _ hl5).trans hr5.out
          have z0 : wr.cell? ⟨w1.heap.size, 0, none⟩ = some (.slice none 0 0) := cell_of_row wr _ 0 _ _ _ hrw
          have z1 : wr.cell? ⟨w1.heap.size, 1, none⟩ = some (.slice none 0 0) := cell_of_row wr _ 1 _ _ _ hrw
          have f0 : wr.frozen? ⟨w1.heap.size, 0, none⟩ = false := frozen_of_row hrw
          have f1 : wr.frozen? ⟨w1.heap.size, 1, none⟩ = false := frozen_of_row hrw
          have i1 := inv.r1.isNew
          have i2 := inv.r2.isNew
          have hbel := Lib.hid inv.r2.below
          have HRW := Lib.hid hrw
          clear inv hmi c0 c1 hrw
          go_wp2
          try simp only [Exit.inBlock, Exit.then]
          refine bodyPost_ret (results_cell_row2 (P := Try.prog) (b := .bool true) rfl _ _ w1.heap.size 27 _ (0, 0) _ rfl (pair_set HRW.out) Try.underlying27 rfl (by kernel_rfl) rfl) rfl ?_
          have hgr := pair_grown wr w1.heap.size (.slice vA vn vc) (.slice yA yn yc)
          obtain ⟨A1, m1, d1, e1', his1, hnew1⟩ := i1
          obtain ⟨A2, m2, d2, e2', his2, hnew2⟩ := i2
          rw [e1', e2'] at hgr ⊢
          have hb0 := bstep B5.out hbel.out
          exact beyRes_mk (his1.apart hgr (fun a ha => by have := hnew1 a ha; omega)) (his2.apart hgr (fun a ha => by have := hnew2 a ha; omega)) (.inr ⟨by rw [HU.out]; exact HH.out, f, ms, by rw [HU.out]; exact HRI.out, rfl, rfl⟩) (hb0.grown hgr hb0.size (fun k hk => by cases hk; exact hsw))

theorem beyond_yes (w : World) (N : Int) (A : Option Addr) (m c : Nat) (es : List (Int × Int)) (Av : Option Addr) (nv cv : Nat) (vs : List Int) (Ae : Option Addr) (ne ce : Nat) (xs : List Int) (v d : Int) (h : GP w N A m c es Av nv cv vs Ae ne ce xs) (hd : I64 d) (hc : BeyC N es vs xs v d) :
    Calls Try.prog 44 #[.agg #[.int .i64 N, .slice A m c], .agg #[.slice Av nv cv, .slice Ae ne ce], .int .i64 v, .int .i64 d] w (BeyRes w es vs xs v d) := by
  obtain ⟨hr, hd0, hdx, htl⟩ := hc
  by_cases hh : head es d = v
  · exact beyond_loop w N A m c es Av nv cv vs Ae ne ce xs v d h hd hr hd0 hdx htl hh
  · exact beyond_far w N A m c es Av nv cv vs Ae ne ce xs v d h hd hr hd0 hdx htl hh
end Go.Proofs.Ythobfbnopkbniaa
