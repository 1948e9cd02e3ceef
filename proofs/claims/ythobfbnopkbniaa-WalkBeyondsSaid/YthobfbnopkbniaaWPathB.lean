/-
  The contract of walk.Path. No conditions on the program.
-/
import Derived.Test.YthobfbnopkbniaaWPath
import Derived.Deep.LoopGhost
namespace Go.Proofs.Ythobfbnopkbniaa
open Go.RowKit

set_option maxHeartbeats 4000000 in
set_option maxRecDepth 100000 in
theorem path_no (w : World) (N : Int) (A : Option Addr) (m c : Nat) (es : List (Int × Int)) (Av : Option Addr) (nv cv : Nat) (vs : List Int) (Ae : Option Addr) (ne ce : Nat) (xs : List Int) (a b : Int) (h : GP w N A m c es Av nv cv vs Ae ne ce xs) (hno : ¬ (pRight N es vs xs = 0 ∧ a ∈ vs ∧ b ∈ vs)) :
    Calls Try.prog 27 #[.agg #[.int .i64 N, .slice A m c], .agg #[.slice Av nv cv, .slice Ae ne ce], .int .i64 a, .int .i64 b] w fun e w' => e = .returned (.tuple #[.slice none 0 0, .bool false]) ∧ Below w.heap.size w w' := by
  obtain ⟨r, hr⟩ : ∃ r, pRight N es vs xs = r := ⟨_, rfl⟩
  have HR := Lib.hid hr
  by_cases hr0 : r = 0
  · subst hr0
    have hp := Lib.hid (pRight_ok hr)
    clear hr
    by_cases ha : a ∈ vs
    · have hb : b ∉ vs := fun hb => hno ⟨HR.out, ha, hb⟩
      have HA := Lib.hid (decide_eq_true ha)
      have HB := Lib.hid (decide_eq_false hb)
      clear ha hb hno
      obtain ⟨w1, hw1, b1, gb1⟩ := box_gp w N A m c es Av nv cv Ae ne ce
      have h1 := h.step b1
      clear h
      go_enter Try.func27, Try.ntmps27
      have ⟨_, _, c0, c1, c2, c3, _⟩ := gb1
      go_wp2_with fail
      refine (gRightPart_any w1 N A m c es Av nv cv vs Ae ne ce xs h1).mono ?_
      rintro e w2 ⟨rfl, b2⟩
      rw [HR.out]
      have h2 := h1.step b2
      have gb2 := gb1.step b2
      replace b1 := bstep b1 b2
      clear hw1 h1 c0 c1 c2 c3 gb1 b2
      have ⟨hg2, hp2, c0, c1, c2, c3, _⟩ := gb2
      have hnv : nv ≤ 1000000 := by have := hp.out.lens.1; have := h2.v.len; omega
      have hce := h2.e.cap
      go_wp2_with fail
      refine (has_any w2 _ Av nv cv vs a h2.v hnv hp.out.vp).mono ?_
      rintro e w3 ⟨rfl, rfl⟩
      rw [HA.out]
      go_wp2_with fail
      refine (has_any w2 _ Av nv cv vs b h2.v hnv hp.out.vp).mono ?_
      rintro e w3 ⟨rfl, rfl⟩
      rw [HB.out]
      go_wp2
      go_ret2
      exact ⟨rfl, b1⟩
    · have HA := Lib.hid (decide_eq_false ha)
      clear ha hno
      obtain ⟨w1, hw1, b1, gb1⟩ := box_gp w N A m c es Av nv cv Ae ne ce
      have h1 := h.step b1
      clear h
      go_enter Try.func27, Try.ntmps27
      have ⟨_, _, c0, c1, c2, c3, _⟩ := gb1
      go_wp2_with fail
      refine (gRightPart_any w1 N A m c es Av nv cv vs Ae ne ce xs h1).mono ?_
      rintro e w2 ⟨rfl, b2⟩
      rw [HR.out]
      have h2 := h1.step b2
      have gb2 := gb1.step b2
      replace b1 := bstep b1 b2
      clear hw1 h1 c0 c1 c2 c3 gb1 b2
      have ⟨hg2, hp2, c0, c1, c2, c3, _⟩ := gb2
      have hnv : nv ≤ 1000000 := by have := hp.out.lens.1; have := h2.v.len; omega
      have hce := h2.e.cap
      go_wp2_with fail
      refine (has_any w2 _ Av nv cv vs a h2.v hnv hp.out.vp).mono ?_
      rintro e w3 ⟨rfl, rfl⟩
      rw [HA.out]
      go_wp2
      go_ret2
      exact ⟨rfl, b1⟩
  · have hrb : (r != 0) = true := by simp [hr0]
    clear hr0 hr hno
    obtain ⟨w1, hw1, b1, gb1⟩ := box_gp w N A m c es Av nv cv Ae ne ce
    have h1 := h.step b1
    clear h
    go_enter Try.func27, Try.ntmps27
    have ⟨_, _, c0, c1, c2, c3, _⟩ := gb1
    go_wp2_with fail
    refine (gRightPart_any w1 N A m c es Av nv cv vs Ae ne ce xs h1).mono ?_
    rintro e w2 ⟨rfl, b2⟩
    rw [HR.out]
    go_wp2
    go_ret2
    exact ⟨rfl, bstep b1 b2⟩

set_option maxHeartbeats 16000000 in
set_option maxRecDepth 100000 in
theorem path_yes (w : World) (N : Int) (A : Option Addr) (m c : Nat) (es : List (Int × Int)) (Av : Option Addr) (nv cv : Nat) (vs : List Int) (Ae : Option Addr) (ne ce : Nat) (xs : List Int) (a b : Int) (h : GP w N A m c es Av nv cv vs Ae ne ce xs) (hr : pRight N es vs xs = 0) (ha : a ∈ vs) (hb : b ∈ vs) :
    Calls Try.prog 27 #[.agg #[.int .i64 N, .slice A m c], .agg #[.slice Av nv cv, .slice Ae ne ce], .int .i64 a, .int .i64 b] w (PathYes w es vs xs a b) := by
  have HR := Lib.hid hr
  have hp := Lib.hid (pRight_ok hr)
  have HA := Lib.hid (decide_eq_true ha)
  have HB := Lib.hid (decide_eq_true hb)
  have HAM := Lib.hid ha
  have HBM := Lib.hid hb
  clear ha hb hr
  obtain ⟨w1, hw1, b1, gb1⟩ := box_gp w N A m c es Av nv cv Ae ne ce
  have h1 := h.step b1
  clear h
  go_enter Try.func27, Try.ntmps27
  have ⟨_, _, c0, c1, c2, c3, _⟩ := gb1
  go_wp2_with fail
  refine (gRightPart_any w1 N A m c es Av nv cv vs Ae ne ce xs h1).mono ?_
  rintro e w2 ⟨rfl, b2⟩
  rw [HR.out]
  have h2 := h1.step b2
  have gb2 := gb1.step b2
  replace b1 := bstep b1 b2
  clear hw1 h1 c0 c1 c2 c3 gb1 b2
  have ⟨hg2, hp2, c0, c1, c2, c3, _⟩ := gb2
  have hnv : nv ≤ 1000000 := by have := hp.out.lens.1; have := h2.v.len; omega
  have hce := h2.e.cap
  go_wp2_with fail
  refine (has_any w2 _ Av nv cv vs a h2.v hnv hp.out.vp).mono ?_
  rintro e w3 ⟨rfl, rfl⟩
  rw [HA.out]
  go_wp2_with fail
  refine (has_any w2 _ Av nv cv vs b h2.v hnv hp.out.vp).mono ?_
  rintro e w3 ⟨rfl, rfl⟩
  rw [HB.out]
  go_wp2_with fail
  refine (leaving_any w2 N A m c es Av nv cv vs Ae ne ce xs h2 hp.out).mono ?_
  rintro e w3 ⟨db, rfl, hdm3, _, b3⟩
  have h3 := h2.step b3
  have gb3 := gb2.step b3
  replace b1 := bstep b1 b3
  clear h2 gb2 b3 c0 c1 c2 c3
  have ⟨hg3, hp3, c0, c1, c2, c3, _⟩ := gb3
  go_wp2_with fail
  refine (reach_any w3 N A m c es vs xs db b (-1) h3.g hdm3 hp.out HBM.out).mono ?_
  rintro e w4 ⟨mb, f, ms, rfl, hmi4, hri, _, b4⟩
  have h4 := h3.step b4
  have gb4 := gb3.step b4
  have hdm4 := hdm3.step b4
  replace b1 := bstep b1 b4
  have HRI := Lib.hid hri
  clear h3 gb3 b4 c0 c1 c2 c3 hdm3 hri
  have ⟨hg4, hp4, c0, c1, c2, c3, _⟩ := gb4
  obtain ⟨w5, hw5, b5, s5, hc5⟩ := box_one w4 #[.map (some mb)] 52
  have hmi5 : MI w5 mb ms.length f := MV.step hmi4 b5
  have k0 : w5.cell? ⟨w4.heap.size, 0, none⟩ = some (.map (some mb)) := hc5 0
  have ha64 : I64 a := by have := hp.out.vr a HAM.out; have := hp.out.lens; exact ⟨by omega, by omega⟩
  clear hc5
  cases hfa : f a with
  | none =>
    have HF := Lib.hid hfa
    clear hfa
    go_wp2_with (with_reducible show wpList _ _ _ (Oper.mk (some 45) _ _ _ _ _ :: _) _ _; go_must (refine wpList_iok_none (g := f) (k := a) rfl _ _ rfl rfl hmi5 rfl ha64 HF.out ?_))
    go_ret2
    exact pathYes_none HRI.out HF.out ((bstep b1 b5).alloc (bstep b1 b5).size _)
  | some k =>
    obtain ⟨n0, rfl, _⟩ := HRI.out.way a k hfa
    have hn0 : n0 ≤ 1024 := by
      have h1 := HRI.out.small a ((HRI.out.mem a).2 (by rw [hfa]; rfl))
      rw [val_of hfa] at h1
      have := HRI.out.len
      have := hp.out.lens
      omega
    have HF := Lib.hid hfa
    clear hfa
    have hst : PInv es xs vs f a n0 w5 (w5.alloc (.cells #[.int .i64 (n0 : Int)] 3)) a n0 [] (.slice none 0 0) :=
      ⟨(Own.start w5).alloc _, by simp [Value.ownBlock], heap_alloc_new _ _, HF.out, HAM.out, fun l hl => hl, by simp⟩
    have hd5 := (hdm4.step b5).db
    have hg5 := h4.g.step b5
    have gb5 := gb4.step b5
    have B5 := Lib.hid (bstep b1 b5)
    have HD5 := Lib.hid hd5
    have HG5 := Lib.hid hg5
    have HM5 := Lib.hid hmi5
    have lm5 := hmi5.lt
    have hml := h4.g.len
    have hDI := HRI.out.dist
    have HDI := Lib.hid hDI
    have hfb := (k0 : w5.cell? ⟨w4.heap.size, 0, none⟩ = some (.map (some mb)))
    go_wp2_with (with_reducible show wpList _ _ _ (Oper.mk (some 45) _ _ _ _ _ :: _) _ _; go_must (refine wpList_iok_some (g := f) (k := a) rfl _ _ rfl rfl hmi5 rfl ha64 n0 HF.out ?_))
    have ⟨hgb5, _, g0, g1, _, _, _⟩ := gb5
    have G0 := Lib.hid g0
    have G1 := Lib.hid g1
    have K0 := Lib.hid k0
    obtain ⟨fb, hfbe⟩ : ∃ fb, w4.heap.size = fb := ⟨_, rfl⟩
    rw [hfbe] at K0 s5 hfb ⊢
    clear hfbe hd5 hg5 hmi5 g0 g1 k0 hDI c0 c1 c2 c3 hw5 h4 gb4 gb5 hdm4 b1 b5 hfb
    obtain ⟨nb, hnb⟩ : ∃ nb, w5.heap.size = nb := ⟨_, rfl⟩
    have HNB := Lib.hid hnb
    rw [hnb]
    clear hnb
    go_loopg [14, 15] (n0 + 1) (fun gk out vv wr => ∃ (v : Int) (n : Nat) (pre : List Int), vv = .int .i64 v ∧ gk = n + 1 ∧ (∃ A' n' c', out = .slice A' n' c') ∧ PInv es xs vs f a n0 w5 wr v n pre out)
    case atStart => exact ⟨a, n0, [], rfl, rfl, ⟨_, _, _, rfl⟩, hst⟩
    case round =>
      clear hst
      obtain ⟨v, n, pre, rfl, rfl, ⟨A6, n6, d6, rfl⟩, inv⟩ := hrel
      have kn : wr.cell? ⟨nb, 0, none⟩ = some (.int .i64 (n : Int)) := by rw [← HNB.out]; exact cell_of_row wr _ 0 _ _ _ inv.cell
      have hnle : n ≤ 1024 := by have := inv.len; omega
      have hv64 : I64 v := by have := hp.out.vr v inv.mem; have := hp.out.lens; exact ⟨by omega, by omega⟩
      cases n with
      | zero =>
        have INV := Lib.hid inv
        clear inv
        go_wp2
        go_ret2
        obtain ⟨A7, n7, d7, e7, is7⟩ := INV.out.own.is
        have hpa := INV.out.way [] INV.out.far
        rw [List.append_nil] at hpa
        rw [← (Value.slice.inj e7).1, ← (Value.slice.inj e7).2.1, ← (Value.slice.inj e7).2.2] at is7
        exact pathYes_some HRI.out is7 hpa (bstep B5.out INV.out.own.below)
      | succ n =>
        obtain ⟨i, hi, hin, hino⟩ := HDI.out.first_near (v := v) (n := n) (by rw [inv.far]; rfl)
        obtain ⟨d, hd⟩ : ∃ d, (dartsOf es v xs).getD i 0 = d := ⟨_, rfl⟩
        rw [hd] at hin
        have hdm := mem_dartsOf.1 (show d ∈ dartsOf es v xs by rw [← hd, getD_idx hi]; exact List.getElem_mem hi)
        have hdr := hp.out.xr _ hdm.1
        have hd0 : 0 ≤ d := by omega
        have hd1 : d < 2 * m := by omega
        have hd64 : I64 d := ⟨by omega, by have := hp.out.size; have := hp.out.n0; omega⟩
        have kn' : wr.cell? ⟨nb, 0, none⟩ = some (.int .i64 ((n : Int) + 1)) := by rw [kn]; rfl
        have hdb := HD5.out.below inv.own.below
        have hpos : (0 : Int) < (n : Int) + 1 := by omega
        have hnear : Hid (∀ A' n' c', IS wr w5.heap.size A' n' c' (dartsOf es v xs) → Calls Try.prog 68 #[.slice A' n' c', nearV fb w.heap.size nb] wr fun e w' => e = .returned (.int .i64 i) ∧ Below wr.heap.size wr w') := Lib.hid (by
          intro A' n' c' his
          have hsz := inv.own.below.size
          refine indexFunc_at wr A' n' c' (dartsOf es v xs) fb w.heap.size nb (fun d => val f (head es d) == ((n : Int) + 1) - 1) i (his.more hsz) (by rw [← his.len]; exact hi) ?_ ?_ ?_
          · rw [hd]; simp only [beq_iff_eq]; omega
          · intro j hj
            have := hino j hj
            simp only [beq_eq_false_iff_ne]
            omega
          · intro w' d' hx hd'
            have hb' : Below w5.heap.size w5 w' := inv.own.below.trans (hx.mono hsz)
            obtain ⟨h1, h2⟩ := mem_dartsOf.1 hd'
            have hr' := hp.out.xr _ h1
            have hhv := (head_in hp.out h1).1
            have hh64 : I64 (head es d') := by have := hp.out.vr _ hhv; have := hp.out.lens; exact ⟨by omega, by omega⟩
            exact near_any w' N A m c es fb w.heap.size nb mb ms.length f d' ((n : Int) + 1) ((HG5.out.below hb').more hb'.size) ((hb'.cell (p := ⟨w.heap.size, 0, none⟩) hgb5).trans G0.out) ((hb'.cell (p := ⟨w.heap.size, 1, none⟩) hgb5).trans G1.out)
              ((hb'.cell (p := ⟨fb, 0, none⟩) s5).trans K0.out) ((hx.cell (p := ⟨nb, 0, none⟩) (World.block_lt_of_cell? wr _ kn')).trans kn') (HM5.out.below hb' lm5) (by omega) (by omega) hh64 (by omega) (by omega))
        have HDM := Lib.hid hdm
        have HDD := Lib.hid hd
        have HII := Lib.hid hi
        have HIN := Lib.hid hin
        have HINO := Lib.hid hino
        have INV := Lib.hid inv
        clear kn hdm hd hi hin hino inv hdr
        go_wp2_with (with_reducible show wpList _ _ _ (Oper.mk (some 57) _ _ _ _ _ :: _) _ _; go_must (refine wpList_dbrow rfl _ _ rfl rfl hdb v rfl hv64 ?_; intro A8 n8 c8 is8))
        refine (hnear.out A8 n8 c8 is8).mono ?_
        rintro e w7 ⟨rfl, b7⟩
        have hdb7 : DB w7 w5.heap.size db (fun v => dartsOf es v xs) := hdb.below (b7.mono INV.out.own.below.size)
        have INV7 := Lib.hid (INV.out.later b7)
        have hl9 : Hid (pre.length + 1 ≤ 1000000000000) := Lib.hid (by have := INV7.out.len; omega)
        have hi0 : (0 : Int) ≤ (i : Int) := by omega
        have hn1le : n + 1 ≤ 1024 := hnle
        have ho7 := INV7.out.own
        clear is8 hdb hnear INV b7 kn'
        go_wp2_with (first
          | ((with_reducible show wpList _ _ _ (Oper.mk (some 63) _ _ _ _ _ :: _) _ _); go_must (refine wpList_dbrow rfl _ _ rfl rfl hdb7 v rfl hv64 ?_; intro A9 n9 c9 is9; obtain ⟨b9, o9, rfl, hb9, hc9, hi9, hle9, hcap9⟩ := is9.cellAt HII.out HDD.out; clear is9))
          | (with_reducible show wpList _ _ _ (Oper.mk (some 68) _ _ _ _ _ :: _) _ _; go_must (refine wpList_append_one (v := .slice A6 n6 d6) (w0 := w5) rfl _ _ rfl rfl ho7 _ hd64 rfl hl9.out ?_; intro v10 w10 ho10 hg10 hb10; obtain ⟨hne10, hcell10⟩ := INV7.out.mid ho10 hg10 hb10; obtain ⟨A10, n10, d10, rfl, _⟩ := ho10.is)))
        have hdb10 : DB w10 w5.heap.size db (fun v => dartsOf es v xs) := HD5.out.below ho10.below
        have hB10 := ho10.below.size
        have q0 : w10.cell? ⟨w.heap.size, 0, none⟩ = some (.int .i64 N) := (ho10.below.cell (p := ⟨w.heap.size, 0, none⟩) hgb5).trans G0.out
        have q1 : w10.cell? ⟨w.heap.size, 1, none⟩ = some (.slice A m c) := (ho10.below.cell (p := ⟨w.heap.size, 1, none⟩) hgb5).trans G1.out
        have hgl10 : w.heap.size < w10.heap.size := by omega
        have HG10 : Hid (ES w10 w10.heap.size A m c es) := Lib.hid ((HG5.out.below ho10.below).more hB10)
        have HO10 := Lib.hid ho10
        have HC10 := Lib.hid hcell10
        have HNE10 := Lib.hid hne10
        obtain ⟨u, hu⟩ : ∃ u, head es d = u := ⟨_, rfl⟩
        have HU := Lib.hid hu
        clear ho10 hg10 hb10 hcell10 hne10 hc9 hdb7 ho7 hu hi9 hle9 hcap9
        refine wp_region_rel 8 [[],[],[],[1,2],[],[1,2,3,4],[1,2,3,4,5],[0,1,2,3,4,5,6]]
          [fun v _ => v = .agg #[.int .i64 N, .slice A m c],
           fun v _ => v = .map (some db),
           fun x _ => x = .int .i64 v,
           fun x w' => ∃ A9 n9 c9, x = .slice A9 n9 c9 ∧ IS w' w5.heap.size A9 n9 c9 (dartsOf es v xs),
           fun v _ => v = .int .i64 i,
           fun x w' => ∃ b9 o9, x = .pointer (some ⟨b9, o9, none⟩) ∧ w'.cell? ⟨b9, o9, none⟩ = some (.int .i64 d),
           fun v _ => v = .int .i64 d,
           fun v _ => v = .int .i64 u]
          (by kernel_rfl) (by kernel_rfl) rfl ⟨?_, ?_, ?_, ?_, ?_, ?_, ?_, ?_, trivial⟩ ?_
        · intro wr hx v0 h0 v1 h1 v2 h2 v3 h3 v4 h4 v5 h5 v6 h6 v7 h7 K hK
          have r0 := (hx.cell (p := ⟨w.heap.size, 0, none⟩) hgl10).trans q0
          have r1 := (hx.cell (p := ⟨w.heap.size, 1, none⟩) hgl10).trans q1
          simp only [Act.put, List.setIfInBounds_toArray, List.set_cons_zero, List.set_cons_succ] at hK ⊢
          clear h0 h1 h2 h3 h4 h5 h6 h7
          go_wp2
          exact hK _ _ (Ext.refl _) (fun _ _ => rfl)
        · intro wr hx v0 h0 v1 h1 v2 h2 v3 h3 v4 h4 v5 h5 v6 h6 v7 h7 K hK
          have r0 := (hx.cell (p := ⟨w.heap.size, 0, none⟩) hgl10).trans q0
          have r1 := (hx.cell (p := ⟨w.heap.size, 1, none⟩) hgl10).trans q1
          simp only [Act.put, List.setIfInBounds_toArray, List.set_cons_zero, List.set_cons_succ] at hK ⊢
          clear h0 h1 h2 h3 h4 h5 h6 h7
          go_wp2
          exact hK _ _ (Ext.refl _) (fun _ _ => rfl)
        · intro wr hx v0 h0 v1 h1 v2 h2 v3 h3 v4 h4 v5 h5 v6 h6 v7 h7 K hK
          have r0 := (hx.cell (p := ⟨w.heap.size, 0, none⟩) hgl10).trans q0
          have r1 := (hx.cell (p := ⟨w.heap.size, 1, none⟩) hgl10).trans q1
          simp only [Act.put, List.setIfInBounds_toArray, List.set_cons_zero, List.set_cons_succ] at hK ⊢
          clear h0 h1 h2 h3 h4 h5 h6 h7
          go_wp2
          exact hK _ _ (Ext.refl _) (fun _ _ => rfl)
        · intro wr hx v0 h0 v1 h1 v2 h2 v3 h3 v4 h4 v5 h5 v6 h6 v7 h7 K hK
          have r0 := (hx.cell (p := ⟨w.heap.size, 0, none⟩) hgl10).trans q0
          have r1 := (hx.cell (p := ⟨w.heap.size, 1, none⟩) hgl10).trans q1
          simp only [Act.put, List.setIfInBounds_toArray, List.set_cons_zero, List.set_cons_succ] at hK ⊢
          obtain rfl := (h1 (by decide)).now
          obtain rfl := (h2 (by decide)).now
          clear h0 h1 h2 h3 h4 h5 h6 h7
          have hdb11 := hdb10.below (hx.mono hB10)
          go_wp2_with (at_lookup; go_must (refine wpList_dbrow rfl _ _ rfl rfl hdb11 v rfl hv64 ?_; intro A9 n9 c9 is9))
          exact hK _ _ (Ext.refl _) (fun w'' hx' => ⟨_, _, _, rfl, is9.below (hx'.mono (Nat.le_trans hB10 hx.size))⟩)
        · intro wr hx v0 h0 v1 h1 v2 h2 v3 h3 v4 h4 v5 h5 v6 h6 v7 h7 K hK
          have r0 := (hx.cell (p := ⟨w.heap.size, 0, none⟩) hgl10).trans q0
          have r1 := (hx.cell (p := ⟨w.heap.size, 1, none⟩) hgl10).trans q1
          simp only [Act.put, List.setIfInBounds_toArray, List.set_cons_zero, List.set_cons_succ] at hK ⊢
          clear h0 h1 h2 h3 h4 h5 h6 h7
          go_wp2
          exact hK _ _ (Ext.refl _) (fun _ _ => rfl)
        · intro wr hx v0 h0 v1 h1 v2 h2 v3 h3 v4 h4 v5 h5 v6 h6 v7 h7 K hK
          have r0 := (hx.cell (p := ⟨w.heap.size, 0, none⟩) hgl10).trans q0
          have r1 := (hx.cell (p := ⟨w.heap.size, 1, none⟩) hgl10).trans q1
          simp only [Act.put, List.setIfInBounds_toArray, List.set_cons_zero, List.set_cons_succ] at hK ⊢
          obtain ⟨A9, n9, c9, rfl, is9⟩ := (h3 (by decide)).now
          obtain rfl := (h4 (by decide)).now
          clear h0 h1 h2 h3 h4 h5 h6 h7
          obtain ⟨b9, o9, rfl, hb9, hc9, hi9, hle9, hcap9⟩ := is9.cellAt HII.out HDD.out
          clear is9
          go_wp2
          exact hK _ _ (Ext.refl _) (fun w'' hx' => ⟨_, _, rfl, (hx'.cell (p := ⟨b9, o9 + i, none⟩) (Nat.lt_of_lt_of_le hb9 (Nat.le_trans hB10 hx.size))).trans hc9⟩)
        · intro wr hx v0 h0 v1 h1 v2 h2 v3 h3 v4 h4 v5 h5 v6 h6 v7 h7 K hK
          have r0 := (hx.cell (p := ⟨w.heap.size, 0, none⟩) hgl10).trans q0
          have r1 := (hx.cell (p := ⟨w.heap.size, 1, none⟩) hgl10).trans q1
          simp only [Act.put, List.setIfInBounds_toArray, List.set_cons_zero, List.set_cons_succ] at hK ⊢
          obtain ⟨b9, o9, rfl, hc9⟩ := (h5 (by decide)).now
          clear h0 h1 h2 h3 h4 h5 h6 h7
          go_wp2
          exact hK _ _ (Ext.refl _) (fun _ _ => rfl)
        · intro wr hx v0 h0 v1 h1 v2 h2 v3 h3 v4 h4 v5 h5 v6 h6 v7 h7 K hK
          have r0 := (hx.cell (p := ⟨w.heap.size, 0, none⟩) hgl10).trans q0
          have r1 := (hx.cell (p := ⟨w.heap.size, 1, none⟩) hgl10).trans q1
          simp only [Act.put, List.setIfInBounds_toArray, List.set_cons_zero, List.set_cons_succ] at hK ⊢
          obtain rfl := (h0 (by decide)).now
          obtain rfl := (h6 (by decide)).now
          clear h0 h1 h2 h3 h4 h5 h6 h7
          go_wp2_with fail
          refine (target_any wr N A m c es d (HG10.out.step hx) hd0 hd1).mono ?_
          rintro e w' ⟨rfl, hb⟩
          rw [HU.out]
          go_wp2
          exact hK _ _ hb (fun w'' hx' => rfl)
        intro wr hx v0 h0 v1 h1 v2 h2 v3 h3 v4 h4 v5 h5 v6 h6 v7 h7
        have r0 := (hx.cell (p := ⟨w.heap.size, 0, none⟩) hgl10).trans q0
        have r1 := (hx.cell (p := ⟨w.heap.size, 1, none⟩) hgl10).trans q1
        obtain rfl := h7.now
        clear h0 h1 h2 h3 h4 h5 h6 h7
        refine tail_quiet (by kernel_rfl) ?_
        simp only [List.drop_succ_cons, List.drop_zero, Act.put, List.setIfInBounds_toArray, List.set_cons_zero, List.set_cons_succ]
        repeat (go_big_quiet_step (fail))
        refine wpQuiet_nil ?_
        have HX := Lib.hid hx
        have kn : wr.cell? ⟨nb, 0, none⟩ = some (.int .i64 ((n : Int) + 1)) := by
          rw [← HNB.out]
          exact cell_of_row wr _ 0 _ _ _ ((hx.block _ (Array.getElem?_eq_some_iff.1 HC10.out).1).trans HC10.out)
        have kf : wr.frozen? ⟨nb, 0, none⟩ = false := by
          rw [← HNB.out]
          exact frozen_of_row ((hx.block _ (Array.getElem?_eq_some_iff.1 HC10.out).1).trans HC10.out)
        clear hx q0 q1 r0 r1 hdb10
        go_wp2
        go_roundg (n + 1)
        case measure => omega
        case rel =>
          refine ⟨u, n, pre ++ [d], rfl, rfl, ⟨_, _, _, rfl⟩, ?_⟩
          rw [← HNB.out]
          exact INV7.out.step hp.out HDI.out HO10.out HNE10.out HC10.out HX.out HII.out HDD.out HIN.out HINO.out HDM.out.1 HU.out
end Go.Proofs.Ythobfbnopkbniaa
