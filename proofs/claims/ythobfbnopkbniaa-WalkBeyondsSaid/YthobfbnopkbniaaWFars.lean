/-
  The walk of the law WalkFars; no conditions.
-/
import Derived.Test.YthobfbnopkbniaaWAwake
import Derived.Test.YthobfbnopkbniaaWRef
namespace Go.Proofs.Ythobfbnopkbniaa
open Go.RowKit

section
variable {N : Int} {es : List (Int × Int)} {vs xs ms : List Int} {a z r : Int} {f : Int → Option Int}
theorem far_val (hri : RI es xs (-1) a vs f ms ms.length) (h : FarIs es xs vs a z r) : (∃ n : Nat, f z = some (n : Int) ∧ r = n) ∨ (f z = none ∧ r = -1) := by
  rcases h with ⟨n, rfl, hw, hm⟩ | ⟨rfl, hn⟩
  · exact .inl ⟨n, (hri.dist.some_iff z n).2 ⟨n, rfl, hw, hm⟩, rfl⟩
  · refine .inr ⟨?_, rfl⟩
    cases hf : f z with
    | none => rfl
    | some q =>
      obtain ⟨n, rfl, hw⟩ := hri.way z q hf
      have h1 := hri.small z ((hri.mem z).2 (by rw [hf]; rfl))
      rw [val_of hf] at h1
      have h2 := hri.len
      exact absurd hw (hn n (by omega))
theorem met_count (hri : RI es xs (-1) a vs f ms ms.length) (hv : vs.Nodup) : (vs.filter fun x => (f x).isSome).length = ms.length := by
  refine Nat.le_antisymm (nodup_len (hv.filter _) fun x hx => ?_) (nodup_len hri.nodup fun x hx => ?_)
  · exact (hri.mem x).2 (List.mem_filter.1 hx).2
  · exact List.mem_filter.2 ⟨hri.sub x hx, (hri.mem x).1 hx⟩
end

set_option maxHeartbeats 8000000 in
set_option maxRecDepth 100000 in
theorem law_WalkFars (w : World) (N : Int) (A : Option Addr) (m c : Nat) (es : List (Int × Int)) (Av : Option Addr) (nv cv : Nat) (vs : List Int) (Ae : Option Addr) (ne ce : Nat) (xs : List Int) (a : Int) (h : GP w N A m c es Av nv cv vs Ae ne ce xs) (_ha : I64 a) :
    Calls Try.prog 6 #[.agg #[.int .i64 N, .slice A m c], .agg #[.slice Av nv cv, .slice Ae ne ce], .int .i64 a] w fun e w' => e = .returned (.bool true) ∧ Below w.heap.size w w' := by
  obtain ⟨w1, hw1, b1, gb1⟩ := box_gp w N A m c es Av nv cv Ae ne ce
  have h1 := h.step b1
  clear h
  go_enter Try.func6, Try.ntmps6
  go_wp2_with fail
  refine (awake5_any w1).mono ?_
  rintro e w2 ⟨rfl, b2⟩
  have h2 := h1.step b2
  have gb2 := gb1.step b2
  replace b1 := bstep b1 b2
  clear hw1 h1 gb1 b2
  have ⟨_, _, c0, c1, c2, c3, _⟩ := gb2
  by_cases hs : Small N m nv ne
  · have hnv60 := hs.2.1
    have hne60 := hs.2.2.1
    have HS := Lib.hid hs
    clear hs
    go_wp2_with fail
    refine (small_yes w2 N A m c es Av nv cv vs Ae ne ce xs h2 HS.out).mono ?_
    rintro e w3 ⟨rfl, b3⟩
    have h3 := h2.step b3
    have gb3 := gb2.step b3
    replace b1 := bstep b1 b3
    clear h2 gb2 b3 c0 c1 c2 c3
    have ⟨_, _, c0, c1, c2, c3, _⟩ := gb3
    go_wp2_with fail
    refine (far_any w3 N A m c es Av nv cv vs Ae ne ce xs a h3).mono ?_
    rintro e w4 ⟨⟨hr, ham, mb, f, ms, rfl, hmi, hri⟩ | ⟨hno, rfl⟩, b4⟩
    · have h4 := h3.step b4
      have gb4 := gb3.step b4
      replace b1 := bstep b1 b4
      clear h3 gb3 b4 c0 c1 c2 c3
      have ⟨_, _, c0, c1, c2, c3, _⟩ := gb4
      have hp := Lib.hid (pRight_ok hr)
      have HR := Lib.hid hr
      have HAM := Lib.hid ham
      have HRI := Lib.hid hri
      clear hr ham hri
      go_wp2_with fail
      refine (refRightPart_any w4 N A m c es Av nv cv vs Ae ne ce xs h4).mono ?_
      rintro e w5 ⟨rfl, b5⟩
      rw [HR.out]
      have h5 := h4.step b5
      have gb5 := gb4.step b5
      have hmi5 : MI w5 mb ms.length f := MV.step hmi b5
      replace b1 := bstep b1 b5
      clear h4 gb4 b5 c0 c1 c2 c3 hmi
      have ⟨hg5, hp5, c0, c1, c2, c3, _⟩ := gb5
      go_wp2_with fail
      refine (in_yes w5 _ Av nv cv vs a h5.v HAM.out).mono ?_
      rintro e w6 ⟨rfl, rfl⟩
      have hlenv := h5.v.len
      have hlev := h5.v.le
      have hcapv := h5.v.cap
      have HMI := Lib.hid hmi5
      have H5 := Lib.hid h5
      have GB5 := Lib.hid gb5
      have B1 := Lib.hid b1
      have hst : Hid (Below w5.heap.size w5 w5) := Lib.hid (Below.refl _ _)
      clear hmi5 h5 gb5 b1 c0 c1 c2 c3
      have ⟨_, _, c0, c1, c2, c3, _⟩ := GB5.out
      go_wp2
      go_loopw [8, 9] (fun n i wr => ∃ k : Nat, k ≤ nv ∧ i = .int .i64 k ∧ n = .int .i64 (((vs.take k).filter fun x => (f x).isSome).length : Nat) ∧ Hid (Below w5.heap.size w5 wr)) (fun _ i _ => nv - (intOf i).toNat)
      case atStart => exact ⟨0, Nat.zero_le _, rfl, by simp, hst⟩
      case round =>
        clear hst c0 c1 c2 c3
        obtain ⟨k, hk, rfl, rfl, hbel⟩ := hrel
        have gb6 := GB5.out.step hbel.out
        have ⟨_, _, c0, c1, c2, c3, _⟩ := gb6
        have hmi : MI wr mb ms.length f := MV.step HMI.out hbel.out
        by_cases hlt : k < nv
        · obtain ⟨bv, ov, z, rfl, hbv, hz, hz64, hcz⟩ := (H5.out.v.below hbel.out).get hlt
          have hkl : Hid (k < vs.length) := Lib.hid (by omega)
          have hzm : Hid (z ∈ vs) := Lib.hid (by rw [← hz.out]; exact H5.out.v.mem hlt)
          have H6 := Lib.hid (H5.out.step hbel.out)
          have hk0 : (0 : Int) ≤ (k : Int) := by omega
          have hk1 : (k : Int) < (nv : Int) := by omega
          have hbv' : bv < wr.heap.size := Nat.lt_of_lt_of_le hbv hbel.out.size
          have hml := hmi.lt
          have HM6 := Lib.hid hmi
          obtain ⟨cn, hcn⟩ : ∃ cn, ((vs.take k).filter fun x => (f x).isSome).length = cn := ⟨_, rfl⟩
          have hcnk : cn ≤ 60 := by
            rw [← hcn]
            have h1 := List.length_filter_le (fun x => (f x).isSome) (vs.take k)
            have h2 : (vs.take k).length ≤ k := List.length_take_le _ _
            omega
          rw [hcn]
          have HCN := Lib.hid hcn
          clear hcn hmi
          go_wp2
          refine wp_region_rel 9 [[],[],[],[],[3],[],[3,4,5],[3,4,5,6],[0,1,2,3,4,5,6,7]]
            [fun v _ => v = .agg #[.int .i64 N, .slice A m c],
             fun v _ => v = .agg #[.slice (some ⟨bv, ov, none⟩) nv cv, .slice Ae ne ce],
             fun v _ => v = .int .i64 a,
             fun v _ => v = .pointer (some ⟨w.heap.size + 1, 0, none⟩),
             fun v _ => v = .slice (some ⟨bv, ov, none⟩) nv cv,
             fun v _ => v = .int .i64 k,
             fun v _ => v = .pointer (some ⟨bv, ov + k, none⟩),
             fun v _ => v = .int .i64 z,
             fun v w' => ∃ r, v = .int .i64 r ∧ FarIs es xs vs a z r]
            (by kernel_rfl) (by kernel_rfl) rfl ⟨?_, ?_, ?_, ?_, ?_, ?_, ?_, ?_, ?_, trivial⟩ ?_
          · intro wr hx v0 h0 v1 h1 v2 h2 v3 h3 v4 h4 v5 h5 v6 h6 v7 h7 v8 h8 K hK
            have ⟨_, _, q0, q1, q2, q3, _⟩ := gb6.step hx
            have q4 := (hx.cell (p := ⟨bv, ov + k, none⟩) hbv').trans hcz
            simp only [Act.put, List.setIfInBounds_toArray, List.set_cons_zero, List.set_cons_succ] at hK ⊢
            clear h0 h1 h2 h3 h4 h5 h6 h7 h8
            go_wp2
            exact hK _ _ (Ext.refl _) (fun _ _ => rfl)
          · intro wr hx v0 h0 v1 h1 v2 h2 v3 h3 v4 h4 v5 h5 v6 h6 v7 h7 v8 h8 K hK
            have ⟨_, _, q0, q1, q2, q3, _⟩ := gb6.step hx
            have q4 := (hx.cell (p := ⟨bv, ov + k, none⟩) hbv').trans hcz
            simp only [Act.put, List.setIfInBounds_toArray, List.set_cons_zero, List.set_cons_succ] at hK ⊢
            clear h0 h1 h2 h3 h4 h5 h6 h7 h8
            go_wp2
            exact hK _ _ (Ext.refl _) (fun _ _ => rfl)
          · intro wr hx v0 h0 v1 h1 v2 h2 v3 h3 v4 h4 v5 h5 v6 h6 v7 h7 v8 h8 K hK
            have ⟨_, _, q0, q1, q2, q3, _⟩ := gb6.step hx
            have q4 := (hx.cell (p := ⟨bv, ov + k, none⟩) hbv').trans hcz
            simp only [Act.put, List.setIfInBounds_toArray, List.set_cons_zero, List.set_cons_succ] at hK ⊢
            clear h0 h1 h2 h3 h4 h5 h6 h7 h8
            go_wp2
            exact hK _ _ (Ext.refl _) (fun _ _ => rfl)
          · intro wr hx v0 h0 v1 h1 v2 h2 v3 h3 v4 h4 v5 h5 v6 h6 v7 h7 v8 h8 K hK
            have ⟨_, _, q0, q1, q2, q3, _⟩ := gb6.step hx
            have q4 := (hx.cell (p := ⟨bv, ov + k, none⟩) hbv').trans hcz
            simp only [Act.put, List.setIfInBounds_toArray, List.set_cons_zero, List.set_cons_succ] at hK ⊢
            clear h0 h1 h2 h3 h4 h5 h6 h7 h8
            go_wp2
            exact hK _ _ (Ext.refl _) (fun _ _ => rfl)
          · intro wr hx v0 h0 v1 h1 v2 h2 v3 h3 v4 h4 v5 h5 v6 h6 v7 h7 v8 h8 K hK
            have ⟨_, _, q0, q1, q2, q3, _⟩ := gb6.step hx
            have q4 := (hx.cell (p := ⟨bv, ov + k, none⟩) hbv').trans hcz
            simp only [Act.put, List.setIfInBounds_toArray, List.set_cons_zero, List.set_cons_succ] at hK ⊢
            obtain rfl := (h3 (by decide)).now
            clear h0 h1 h2 h3 h4 h5 h6 h7 h8
            go_wp2
            exact hK _ _ (Ext.refl _) (fun _ _ => rfl)
          · intro wr hx v0 h0 v1 h1 v2 h2 v3 h3 v4 h4 v5 h5 v6 h6 v7 h7 v8 h8 K hK
            have ⟨_, _, q0, q1, q2, q3, _⟩ := gb6.step hx
            have q4 := (hx.cell (p := ⟨bv, ov + k, none⟩) hbv').trans hcz
            simp only [Act.put, List.setIfInBounds_toArray, List.set_cons_zero, List.set_cons_succ] at hK ⊢
            clear h0 h1 h2 h3 h4 h5 h6 h7 h8
            go_wp2
            exact hK _ _ (Ext.refl _) (fun _ _ => rfl)
          · intro wr hx v0 h0 v1 h1 v2 h2 v3 h3 v4 h4 v5 h5 v6 h6 v7 h7 v8 h8 K hK
            have ⟨_, _, q0, q1, q2, q3, _⟩ := gb6.step hx
            have q4 := (hx.cell (p := ⟨bv, ov + k, none⟩) hbv').trans hcz
            simp only [Act.put, List.setIfInBounds_toArray, List.set_cons_zero, List.set_cons_succ] at hK ⊢
            obtain rfl := (h4 (by decide)).now
            obtain rfl := (h5 (by decide)).now
            clear h0 h1 h2 h3 h4 h5 h6 h7 h8
            go_wp2
            exact hK _ _ (Ext.refl _) (fun _ _ => rfl)
          · intro wr hx v0 h0 v1 h1 v2 h2 v3 h3 v4 h4 v5 h5 v6 h6 v7 h7 v8 h8 K hK
            have ⟨_, _, q0, q1, q2, q3, _⟩ := gb6.step hx
            have q4 := (hx.cell (p := ⟨bv, ov + k, none⟩) hbv').trans hcz
            simp only [Act.put, List.setIfInBounds_toArray, List.set_cons_zero, List.set_cons_succ] at hK ⊢
            obtain rfl := (h6 (by decide)).now
            clear h0 h1 h2 h3 h4 h5 h6 h7 h8
            go_wp2
            exact hK _ _ (Ext.refl _) (fun _ _ => rfl)
          · intro wr hx v0 h0 v1 h1 v2 h2 v3 h3 v4 h4 v5 h5 v6 h6 v7 h7 v8 h8 K hK
            have ⟨_, _, q0, q1, q2, q3, _⟩ := gb6.step hx
            have q4 := (hx.cell (p := ⟨bv, ov + k, none⟩) hbv').trans hcz
            simp only [Act.put, List.setIfInBounds_toArray, List.set_cons_zero, List.set_cons_succ] at hK ⊢
            obtain rfl := (h0 (by decide)).now
            obtain rfl := (h1 (by decide)).now
            obtain rfl := (h2 (by decide)).now
            obtain rfl := (h7 (by decide)).now
            clear h0 h1 h2 h3 h4 h5 h6 h7 h8
            go_wp2_with fail
            refine (refFar_yes wr N A m c es _ nv cv vs Ae ne ce xs a z (H6.out.step hx) hp.out HAM.out hzm.out).mono ?_
            rintro e w' ⟨⟨r, rfl, hfi⟩, hb⟩
            go_wp2
            exact hK _ _ hb (fun w'' hx' => ⟨_, rfl, hfi⟩)
          intro wr hx v0 h0 v1 h1 v2 h2 v3 h3 v4 h4 v5 h5 v6 h6 v7 h7 v8 h8
          have ⟨_, _, q0, q1, q2, q3, _⟩ := gb6.step hx
          have q4 := (hx.cell (p := ⟨bv, ov + k, none⟩) hbv').trans hcz
          obtain ⟨r, rfl, hfi⟩ := h8.now
          clear h0 h1 h2 h3 h4 h5 h6 h7 h8
          refine tail_quiet (by kernel_rfl) ?_
          simp only [List.drop_succ_cons, List.drop_zero, Act.put, List.setIfInBounds_toArray, List.set_cons_zero, List.set_cons_succ]
          repeat (go_big_quiet_step (fail))
          refine wpQuiet_nil ?_
          have hb7 := hbel.out.trans (hx.mono hbel.out.size)
          have HB7 := Lib.hid hb7
          have hm7 : MI wr mb ms.length f := MV.step HM6.out hx
          clear hx hcz c0 c1 c2 c3 hb7 gb6
          rcases far_val HRI.out hfi with ⟨q, hf, rfl⟩ | ⟨hf, rfl⟩
          · have HF := Lib.hid hf
            have hq0 : (0 : Int) ≤ (q : Int) := by omega
            have d1 : (((q : Int)) != (q : Int)) = false := by simp
            have hcount : Hid (((vs.take (k + 1)).filter fun x => (f x).isSome).length = cn + 1) := Lib.hid (by rw [filter_snoc hkl.out hz.out, if_pos (by rw [hf]; rfl), List.length_append, HCN.out]; rfl)
            clear hf hfi
            go_wp2_with (with_reducible show wpList _ _ _ (Oper.mk (some 63) _ _ _ _ _ :: _) _ _; go_must (refine wpList_iok_some (g := f) (k := z) rfl _ _ rfl rfl hm7 rfl hz64 q HF.out ?_))
            go_roundw
            case rel => exact ⟨k + 1, by omega, by go_num, by rw [hcount.out]; go_num, HB7⟩
            case measure => simp [intOf]; omega
          · have HF := Lib.hid hf
            have hcount : Hid (((vs.take (k + 1)).filter fun x => (f x).isSome).length = cn) := Lib.hid (by rw [filter_snoc hkl.out hz.out, if_neg (by rw [hf]; simp), List.append_nil, HCN.out])
            clear hf hfi
            go_wp2_with (with_reducible show wpList _ _ _ (Oper.mk (some 63) _ _ _ _ _ :: _) _ _; go_must (refine wpList_iok_none (g := f) (k := z) rfl _ _ rfl rfl hm7 rfl hz64 HF.out ?_))
            go_roundw
            case rel => exact ⟨k + 1, by omega, by go_num, by rw [hcount.out], HB7⟩
            case measure => simp [intOf]; omega
        · obtain rfl : k = nv := by omega
          have hcnt := met_count HRI.out (sorted_nodup hp.out.vp)
          rw [List.take_of_length_le (by omega), hcnt]
          have hdd : ((ms.length : Int) == (ms.length : Int)) = true := by simp
          clear hcnt
          go_wp2_with (with_reducible show wpList _ _ _ (Oper.mk (some 83) _ _ _ _ _ :: _) _ _; go_must (refine wpList_ilen rfl _ rfl rfl hmi ?_))
          go_ret
          exact ⟨rfl, bstep B1.out hbel.out⟩
    · have h4 := h3.step b4
      have gb4 := gb3.step b4
      replace b1 := bstep b1 b4
      clear h3 gb3 b4 c0 c1 c2 c3
      have ⟨_, _, c0, c1, c2, c3, _⟩ := gb4
      obtain ⟨r, hr⟩ : ∃ r, pRight N es vs xs = r := ⟨_, rfl⟩
      have HR := Lib.hid hr
      by_cases hr0 : r = 0
      · subst hr0
        have HNA : Hid (a ∉ vs) := Lib.hid fun hh => hno ⟨hr, hh⟩
        clear hr hno
        go_wp2_with fail
        refine (refRightPart_any w4 N A m c es Av nv cv vs Ae ne ce xs h4).mono ?_
        rintro e w5 ⟨rfl, b5⟩
        rw [HR.out]
        have h5 := h4.step b5
        have gb5 := gb4.step b5
        replace b1 := bstep b1 b5
        clear h4 gb4 b5 c0 c1 c2 c3
        have ⟨_, _, c0, c1, c2, c3, _⟩ := gb5
        go_wp2_with fail
        refine (in_no w5 _ Av nv cv vs a h5.v HNA.out).mono ?_
        rintro e w6 ⟨rfl, rfl⟩
        go_wp2
        go_ret
        exact ⟨rfl, b1⟩
      · have hrb : (r != 0) = true := by simp [hr0]
        clear hr hno hr0
        go_wp2_with fail
        refine (refRightPart_any w4 N A m c es Av nv cv vs Ae ne ce xs h4).mono ?_
        rintro e w5 ⟨rfl, b5⟩
        rw [HR.out]
        go_wp2
        go_ret
        exact ⟨rfl, bstep b1 b5⟩
  ·
    have HS := Lib.hid hs
    clear hs
    go_wp2_with fail
    refine (small_no w2 N A m c es Av nv cv vs Ae ne ce xs h2 HS.out).mono ?_
    rintro e w3 ⟨rfl, b3⟩
    go_wp2_with fail
    refine (awake5_any w3).mono ?_
    rintro e w4 ⟨rfl, b4⟩
    go_wp2
    go_ret
    exact ⟨rfl, bstep (bstep b1 b3) b4⟩
end Go.Proofs.Ythobfbnopkbniaa
