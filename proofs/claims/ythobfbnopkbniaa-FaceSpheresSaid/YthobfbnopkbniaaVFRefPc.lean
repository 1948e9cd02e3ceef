/-
  The contract of ref05.Pieces. No conditions on the program.
-/
import Derived.Test.YthobfbnopkbniaaVFRefP
import Derived.Test.YthobfbnopkbniaaVFRefPP
namespace Go.Proofs.Ythobfbnopkbniaa
open Go.RowKit

theorem Own.besidePart {w0 w1 w w' : World} {v u : Value} {q : Option Nat} {ys : List Int} {n : Nat} {F : Nat → List Int} {o : Obj} (h : Own w1 w v ys) (hr : OwnR w0 w u q n F) (hg : (w.alloc o).grownBy w' u.ownBlock) (h01 : w1.heap.size ≤ w0.heap.size := by exact Nat.le_refl _) : Own w1 w' v ys := by
  refine (h.alloc o).kept hg (fun k hk => ?_) ?_
  · obtain ⟨xs, h1, _⟩ := hr.row
    exact Nat.le_trans h01 (h1.lt k hk).1
  · cases hv : v.ownBlock with
    | none => exact .inl rfl
    | some k =>
      refine .inr fun e => ?_
      obtain ⟨cur, hc, _⟩ := h.ownsInt hv
      obtain ⟨cur', hc'⟩ := hr.isPart e.symm
      rw [hc] at hc'
      injection hc' with hc'
      injection hc' with _ ht
      revert ht
      decide
theorem gb_four {w : World} {g p : Nat} {N : Int} {A : Option Addr} {m c : Nat} {es : List (Int × Int)} {Av : Option Addr} {nv cv : Nat} {Ae : Option Addr} {ne ce : Nat} (h : GB w g p N A m c es Av nv cv Ae ne ce) :
    w.cell? ⟨g, 0, none⟩ = some (.int .i64 N) ∧ w.cell? ⟨g, 1, none⟩ = some (.slice A m c) ∧ w.cell? ⟨p, 0, none⟩ = some (.slice Av nv cv) ∧ w.cell? ⟨p, 1, none⟩ = some (.slice Ae ne ce) := ⟨h.2.2.1, h.2.2.2.1, h.2.2.2.2.1, h.2.2.2.2.2.1⟩

set_option maxHeartbeats 8000000 in
set_option maxRecDepth 100000 in
theorem refPieces_any (w : World) (N : Int) (A : Option Addr) (m c : Nat) (es : List (Int × Int)) (Av : Option Addr) (nv cv : Nat) (vs : List Int) (Ae : Option Addr) (ne ce : Nat) (xs : List Int) (h : GP w N A m c es Av nv cv vs Ae ne ce xs) (hp : POK N es vs xs) :
    Calls Try.prog 80 #[.agg #[.int .i64 N, .slice A m c], .agg #[.slice Av nv cv, .slice Ae ne ce]] w fun e w' => (∃ A n c, e = .returned (.slice A n c) ∧ ∃ F, PS w' w'.heap.size A n c F ∧ ∃ f, PcI es xs vs vs n f ∧
      ∀ j : Nat, j < n → F (j * 2) = vs.filter (fun x => f x == some (j : Int)) ∧ F (j * 2 + 1) = xs.filter (fun e => f (ends es e).1 == some (j : Int))) ∧ Below w.heap.size w w' := by
  obtain ⟨w1, hw1, b1, gb1⟩ := box_gp w N A m c es Av nv cv Ae ne ce
  have h1 := h.step b1
  clear h
  have ⟨_, _, c0, c1, c2, c3, _⟩ := gb1
  have HP := Lib.hid hp
  have H1 := Lib.hid h1
  have GB1 := Lib.hid gb1
  have B1 := Lib.hid b1
  have hnvl := h1.v.len
  have hlv := h1.v.le
  have hcv := h1.v.cap
  have hnv1024 : nv ≤ 1024 := by
    have h4 := nodup_len (a := vs) (b := upto1 N.toNat) (sorted_nodup hp.vp) fun x hx => mem_upto1.2 (by have := hp.vr x hx; omega)
    rw [upto1_len] at h4
    have := hp.size
    have := hp.n0
    omega
  clear hp h1 gb1 b1
  go_enter Try.func80, Try.ntmps80
  go_wp2
  clear hw1 c0 c1 c2 c3
  have hst : Own w1 w1 (.slice none 0 0) [] ∧ OwnR w1 w1 (.slice none 0 0) (Value.slice none 0 0).ownBlock 0 (fun _ => []) ∧ RpI es xs vs (vs.take 0) [] 0 (fun _ => none) (fun _ => []) := ⟨Own.start w1, OwnR.start (Below.refl _ _), RpI.start_⟩
  go_loopw [5, 6, 7] (fun ov dv i wr => ∃ k : Nat, k ≤ nv ∧ i = .int .i64 k ∧ ∃ done n f F, Own w1 wr dv done ∧ OwnR w1 wr ov dv.ownBlock n F ∧ RpI es xs vs (vs.take k) done n f F) (fun _ _ i _ => nv - (intOf i).toNat)
  case atStart => exact ⟨0, Nat.zero_le _, rfl, _, _, _, _, hst⟩
  case round =>
    clear hst
    obtain ⟨k, hk, rfl, done, n, f, F, hown, hrow, hrp⟩ := hrel
    obtain ⟨dA, dn, dc, rfl⟩ := hown.slice_
    obtain ⟨oA, oc, rfl⟩ := hrow.slice
    have hbel := hown.below
    have ⟨hg5, hp5, c0, c1, c2, c3, _⟩ := GB1.out.step hbel
    have hdl := hrp.len
    have htk : (vs.take k).length ≤ k := List.length_take_le _ _
    have hdl2 : done.length ≤ 1048576 := Nat.le_trans hdl (by omega)
    have hnk : n ≤ k := Nat.le_trans hrp.pc.le htk
    by_cases hlt : k < nv
    · obtain ⟨bv, ov, z, hAv, hbv, hz, hz64, hcz⟩ := (H1.out.v.below hbel).get hlt
      subst hAv
      have HKL : Hid (k < vs.length) := Lib.hid (by omega)
      have HZV : Hid (z ∈ vs) := Lib.hid (by rw [← hz.out]; exact H1.out.v.mem hlt)
      have hk0 : (0 : Int) ≤ (k : Int) := by omega
      have hk1 : (k : Int) < (nv : Int) := by omega
      have hbv' : bv < wr.heap.size := Nat.lt_of_lt_of_le hbv hbel.size
      have his : IS wr wr.heap.size dA dn dc done := by
        obtain ⟨A', n', c', e, his⟩ := hown.is
        injection e with e1 e2 e3
        subst e1 e2 e3
        exact his
      have HOWN := Lib.hid hown
      have HROW := Lib.hid hrow
      have HRP := Lib.hid hrp
      have HB := Lib.hid hbel
      have HTK : Hid (vs.take (k + 1) = vs.take k ++ [z]) := Lib.hid (take_getD HKL.out hz.out)
      clear hown hrow hrp hbel hdl htk hz
      go_wp2_with fail
      refine (in_any wr _ dA dn dc done z his).mono ?_
      rintro e w5 ⟨rfl, rfl⟩
      by_cases hzd : z ∈ done
      · rw [decide_eq_true hzd]
        have HM := Lib.hid (HRP.out.met hzd)
        clear hzd his
        go_wp2
        go_roundw
        case rel => exact ⟨k + 1, by omega, by go_num, _, _, _, _, HOWN.out, HROW.out, by rw [HTK.out]; exact HM.out⟩
        case measure => simp [intOf]; omega
      · rw [decide_eq_false hzd]
        have HZD := Lib.hid hzd
        clear hzd his
        go_wp2_with fail
        refine wp_region_rel 9 [[],[],[],[2],[],[2,3,4],[2,3,4,5],[2,3,4,5,6],[0,1,2,3,4,5,6,7]]
          [fun x _ => x = .agg #[.int .i64 N, .slice A m c],
           fun x _ => x = .agg #[.slice (some ⟨bv, ov, none⟩) nv cv, .slice Ae ne ce],
           fun x _ => x = .pointer (some ⟨w.heap.size + 1, 0, none⟩),
           fun x _ => x = .slice (some ⟨bv, ov, none⟩) nv cv,
           fun x _ => x = .int .i64 k,
           fun x _ => x = .pointer (some ⟨bv, ov + k, none⟩),
           fun x _ => x = .int .i64 z,
           fun x W => ∃ A, x = .slice A 1 1 ∧ IS W W.heap.size A 1 1 [z],
           fun x W => ∃ A n' c' M, x = .slice A n' c' ∧ IS W W.heap.size A n' c' M ∧ (∀ a, A = some a → wr.heap.size ≤ a.block) ∧ M.length ≤ vs.length ∧ ∀ u, u ∈ M ↔ Hang es xs z u]
          (by kernel_rfl) (by kernel_rfl) rfl ⟨?_, ?_, ?_, ?_, ?_, ?_, ?_, ?_, ?_, trivial⟩ ?_
        · intro wr hx v0 h0 v1 h1 v2 h2 v3 h3 v4 h4 v5 h5 v6 h6 v7 h7 v8 h8 K hK
          have q0 := (hx.cell (p := ⟨w.heap.size, 0, none⟩) hg5).trans c0
          have q1 := (hx.cell (p := ⟨w.heap.size, 1, none⟩) hg5).trans c1
          have q2 := (hx.cell (p := ⟨w.heap.size + 1, 0, none⟩) hp5).trans c2
          have q3 := (hx.cell (p := ⟨w.heap.size + 1, 1, none⟩) hp5).trans c3
          have q4 := (hx.cell (p := ⟨bv, ov + k, none⟩) hbv').trans hcz
          simp only [Act.put, List.setIfInBounds_toArray, List.set_cons_zero, List.set_cons_succ] at hK ⊢
          clear h0 h1 h2 h3 h4 h5 h6 h7 h8
          go_wp2
          exact hK _ _ (Ext.refl _) (fun _ _ => rfl)
        · intro wr hx v0 h0 v1 h1 v2 h2 v3 h3 v4 h4 v5 h5 v6 h6 v7 h7 v8 h8 K hK
          have q0 := (hx.cell (p := ⟨w.heap.size, 0, none⟩) hg5).trans c0
          have q1 := (hx.cell (p := ⟨w.heap.size, 1, none⟩) hg5).trans c1
          have q2 := (hx.cell (p := ⟨w.heap.size + 1, 0, none⟩) hp5).trans c2
          have q3 := (hx.cell (p := ⟨w.heap.size + 1, 1, none⟩) hp5).trans c3
          have q4 := (hx.cell (p := ⟨bv, ov + k, none⟩) hbv').trans hcz
          simp only [Act.put, List.setIfInBounds_toArray, List.set_cons_zero, List.set_cons_succ] at hK ⊢
          clear h0 h1 h2 h3 h4 h5 h6 h7 h8
          go_wp2
          exact hK _ _ (Ext.refl _) (fun _ _ => rfl)
        · intro wr hx v0 h0 v1 h1 v2 h2 v3 h3 v4 h4 v5 h5 v6 h6 v7 h7 v8 h8 K hK
          have q0 := (hx.cell (p := ⟨w.heap.size, 0, none⟩) hg5).trans c0
          have q1 := (hx.cell (p := ⟨w.heap.size, 1, none⟩) hg5).trans c1
          have q2 := (hx.cell (p := ⟨w.heap.size + 1, 0, none⟩) hp5).trans c2
          have q3 := (hx.cell (p := ⟨w.heap.size + 1, 1, none⟩) hp5).trans c3
          have q4 := (hx.cell (p := ⟨bv, ov + k, none⟩) hbv').trans hcz
          simp only [Act.put, List.setIfInBounds_toArray, List.set_cons_zero, List.set_cons_succ] at hK ⊢
          clear h0 h1 h2 h3 h4 h5 h6 h7 h8
          go_wp2
          exact hK _ _ (Ext.refl _) (fun _ _ => rfl)
        · intro wr hx v0 h0 v1 h1 v2 h2 v3 h3 v4 h4 v5 h5 v6 h6 v7 h7 v8 h8 K hK
          have q0 := (hx.cell (p := ⟨w.heap.size, 0, none⟩) hg5).trans c0
          have q1 := (hx.cell (p := ⟨w.heap.size, 1, none⟩) hg5).trans c1
          have q2 := (hx.cell (p := ⟨w.heap.size + 1, 0, none⟩) hp5).trans c2
          have q3 := (hx.cell (p := ⟨w.heap.size + 1, 1, none⟩) hp5).trans c3
          have q4 := (hx.cell (p := ⟨bv, ov + k, none⟩) hbv').trans hcz
          simp only [Act.put, List.setIfInBounds_toArray, List.set_cons_zero, List.set_cons_succ] at hK ⊢
          obtain rfl := (h2 (by decide)).now
          clear h0 h1 h2 h3 h4 h5 h6 h7 h8
          go_wp2
          exact hK _ _ (Ext.refl _) (fun _ _ => rfl)
        · intro wr hx v0 h0 v1 h1 v2 h2 v3 h3 v4 h4 v5 h5 v6 h6 v7 h7 v8 h8 K hK
          have q0 := (hx.cell (p := ⟨w.heap.size, 0, none⟩) hg5).trans c0
          have q1 := (hx.cell (p := ⟨w.heap.size, 1, none⟩) hg5).trans c1
          have q2 := (hx.cell (p := ⟨w.heap.size + 1, 0, none⟩) hp5).trans c2
          have q3 := (hx.cell (p := ⟨w.heap.size + 1, 1, none⟩) hp5).trans c3
          have q4 := (hx.cell (p := ⟨bv, ov + k, none⟩) hbv').trans hcz
          simp only [Act.put, List.setIfInBounds_toArray, List.set_cons_zero, List.set_cons_succ] at hK ⊢
          clear h0 h1 h2 h3 h4 h5 h6 h7 h8
          go_wp2
          exact hK _ _ (Ext.refl _) (fun _ _ => rfl)
        · intro wr hx v0 h0 v1 h1 v2 h2 v3 h3 v4 h4 v5 h5 v6 h6 v7 h7 v8 h8 K hK
          have q0 := (hx.cell (p := ⟨w.heap.size, 0, none⟩) hg5).trans c0
          have q1 := (hx.cell (p := ⟨w.heap.size, 1, none⟩) hg5).trans c1
          have q2 := (hx.cell (p := ⟨w.heap.size + 1, 0, none⟩) hp5).trans c2
          have q3 := (hx.cell (p := ⟨w.heap.size + 1, 1, none⟩) hp5).trans c3
          have q4 := (hx.cell (p := ⟨bv, ov + k, none⟩) hbv').trans hcz
          simp only [Act.put, List.setIfInBounds_toArray, List.set_cons_zero, List.set_cons_succ] at hK ⊢
          obtain rfl := (h3 (by decide)).now
          obtain rfl := (h4 (by decide)).now
          clear h0 h1 h2 h3 h4 h5 h6 h7 h8
          go_wp2
          exact hK _ _ (Ext.refl _) (fun _ _ => rfl)
        · intro wr hx v0 h0 v1 h1 v2 h2 v3 h3 v4 h4 v5 h5 v6 h6 v7 h7 v8 h8 K hK
          have q0 := (hx.cell (p := ⟨w.heap.size, 0, none⟩) hg5).trans c0
          have q1 := (hx.cell (p := ⟨w.heap.size, 1, none⟩) hg5).trans c1
          have q2 := (hx.cell (p := ⟨w.heap.size + 1, 0, none⟩) hp5).trans c2
          have q3 := (hx.cell (p := ⟨w.heap.size + 1, 1, none⟩) hp5).trans c3
          have q4 := (hx.cell (p := ⟨bv, ov + k, none⟩) hbv').trans hcz
          simp only [Act.put, List.setIfInBounds_toArray, List.set_cons_zero, List.set_cons_succ] at hK ⊢
          obtain rfl := (h5 (by decide)).now
          clear h0 h1 h2 h3 h4 h5 h6 h7 h8
          go_wp2
          exact hK _ _ (Ext.refl _) (fun _ _ => rfl)
        · intro wr hx v0 h0 v1 h1 v2 h2 v3 h3 v4 h4 v5 h5 v6 h6 v7 h7 v8 h8 K hK
          have q0 := (hx.cell (p := ⟨w.heap.size, 0, none⟩) hg5).trans c0
          have q1 := (hx.cell (p := ⟨w.heap.size, 1, none⟩) hg5).trans c1
          have q2 := (hx.cell (p := ⟨w.heap.size + 1, 0, none⟩) hp5).trans c2
          have q3 := (hx.cell (p := ⟨w.heap.size + 1, 1, none⟩) hp5).trans c3
          have q4 := (hx.cell (p := ⟨bv, ov + k, none⟩) hbv').trans hcz
          simp only [Act.put, List.setIfInBounds_toArray, List.set_cons_zero, List.set_cons_succ] at hK ⊢
          obtain rfl := (h6 (by decide)).now
          clear h0 h1 h2 h3 h4 h5 h6 h7 h8
          go_wp2
          exact hK _ _ (Ext.alloc _ _) (fun W hW => ⟨_, rfl, (((IS.one _ _ hz64).more (by simp)).below hW).more hW.size⟩)
        · intro wr hx v0 h0 v1 h1 v2 h2 v3 h3 v4 h4 v5 h5 v6 h6 v7 h7 v8 h8 K hK
          have q0 := (hx.cell (p := ⟨w.heap.size, 0, none⟩) hg5).trans c0
          have q1 := (hx.cell (p := ⟨w.heap.size, 1, none⟩) hg5).trans c1
          have q2 := (hx.cell (p := ⟨w.heap.size + 1, 0, none⟩) hp5).trans c2
          have q3 := (hx.cell (p := ⟨w.heap.size + 1, 1, none⟩) hp5).trans c3
          have q4 := (hx.cell (p := ⟨bv, ov + k, none⟩) hbv').trans hcz
          simp only [Act.put, List.setIfInBounds_toArray, List.set_cons_zero, List.set_cons_succ] at hK ⊢
          obtain rfl := (h0 (by decide)).now
          obtain rfl := (h1 (by decide)).now
          obtain ⟨A7, rfl, is7⟩ := (h7 (by decide)).now
          clear h0 h1 h2 h3 h4 h5 h6 h7 h8
          go_wp2_with fail
          refine (spread_any wr N A m c es _ nv cv vs Ae ne ce xs z A7 1 1 (H1.out.step (HB.out.trans (hx.mono HB.out.size))) is7 HP.out HZV.out).mono ?_
          rintro e w' ⟨⟨A, n', c', M, rfl, his, hnw, hMl, hM⟩, hb⟩
          go_wp2
          exact hK _ _ hb (fun W hW => ⟨A, n', c', M, rfl, his.step hW, fun a ha => Nat.le_trans hx.size (hnw a ha), hMl, hM⟩)
        intro w8 hx v0 h0 v1 h1 v2 h2 v3 h3 v4 h4 v5 h5 v6 h6 v7 h7 v8 h8
        have q0 := (hx.cell (p := ⟨w.heap.size, 0, none⟩) hg5).trans c0
        have q1 := (hx.cell (p := ⟨w.heap.size, 1, none⟩) hg5).trans c1
        have q2 := (hx.cell (p := ⟨w.heap.size + 1, 0, none⟩) hp5).trans c2
        have q3 := (hx.cell (p := ⟨w.heap.size + 1, 1, none⟩) hp5).trans c3
        have q4 := (hx.cell (p := ⟨bv, ov + k, none⟩) hbv').trans hcz
        obtain ⟨lA, ln, lc, M, rfl, isM, hnw, hMl, hM⟩ := h8.now
        clear h0 h1 h2 h3 h4 h5 h6 h7 h8
        refine tail_quiet (by kernel_rfl) ?_
        simp only [List.drop_succ_cons, List.drop_zero, Act.put, List.setIfInBounds_toArray, List.set_cons_zero, List.set_cons_succ]
        repeat (go_big_quiet_step (fail))
        refine wpQuiet_nil ?_
        have HOWN8 := Lib.hid (HOWN.out.later hx)
        have HROW8 := Lib.hid (HROW.out.later hx)
        have HMO := Lib.hid (HRP.out.more HP.out HZV.out HZD.out hM (by omega))
        have hdM : Hid (done.length + ln ≤ 1000000000000) := Lib.hid (by have := isM.len; omega)
        have B8 := Lib.hid (HB.out.trans (hx.mono HB.out.size))
        have hMl2 := isM.len
        have HNW := Lib.hid hnw
        have ISM := Lib.hid isM
        have HWS := Lib.hid hx.size
        clear hx hM hnw c0 c1 c2 c3 hcz hMl hMl2
        go_wp2_with (with_reducible show wpList _ _ _ (Oper.mk (some 34) _ _ _ _ _ :: _) _ _; go_must (refine wpList_append_is (v := .slice dA dn dc) (w0 := w1) rfl _ _ rfl rfl HOWN8.out rfl ISM.out hdM.out ?_; intro v9 w9 hown9 hg9 hb9; obtain ⟨d0, d1, d2, d3⟩ := gb_four (GB1.out.step hown9.below)))
        have HOWN9 := Lib.hid hown9
        have hrow9 := HROW8.out.turned HOWN8.out hg9 hb9
        have hisM : RowAt w8 (Value.slice dA dn dc).ownBlock (.slice lA ln lc) M := ⟨_, _, _, rfl, ISM.out, fun _ a ha e => by
          have h1 := (HOWN.out.row.lt _ e).2
          have h2 := HNW.out a ha
          omega⟩
        obtain ⟨lA', ln', lc', e9, isM9, _⟩ := hisM.keep hg9.size (fun b hb hne => hg9.block b hb hne) (.inl rfl)
        injection e9 with e1 e2 e3
        subst e1 e2 e3
        refine (sub_any w9 N A m c es _ nv cv vs Ae ne ce xs M lA ln lc (H1.out.step hown9.below) isM9 HP.out).mono ?_
        rintro e w10 ⟨A1, m1, e1, A2, m2, e2, rfl, i1, i2, hnw1, hnw2, b10⟩
        have hown10 := hown9.later b10
        have hrow10 := hrow9.later b10
        have hrlt : ∀ b, (Value.slice oA n oc).ownBlock = some b → b < w9.heap.size := fun b hb => hrow9.lt hb
        have hqlt : ∀ b, v9.ownBlock = some b → b < w9.heap.size := fun b hb => (hown9.row.lt b hb).2
        have r1 : RowAt w10 (Value.slice oA n oc).ownBlock (.slice A1 m1 e1) (vs.filter fun x => decide (x ∈ M)) := ⟨_, _, _, rfl, i1, fun _ a ha e => by have := hrlt _ e; have := hnw1 a ha; omega⟩
        have r2 : RowAt w10 (Value.slice oA n oc).ownBlock (.slice A2 m2 e2) (xs.filter fun e => decide ((ends es e).1 ∈ M) && decide ((ends es e).2 ∈ M)) := ⟨_, _, _, rfl, i2, fun _ a ha e => by have := hrlt _ e; have := hnw2 a ha; omega⟩
        have s1 : RowAt w10 v9.ownBlock (.slice A1 m1 e1) (vs.filter fun x => decide (x ∈ M)) := ⟨_, _, _, rfl, i1, fun _ a ha e => by have := hqlt _ e; have := hnw1 a ha; omega⟩
        have s2 : RowAt w10 v9.ownBlock (.slice A2 m2 e2) (xs.filter fun e => decide ((ends es e).1 ∈ M) && decide ((ends es e).2 ∈ M)) := ⟨_, _, _, rfl, i2, fun _ a ha e => by have := hqlt _ e; have := hnw2 a ha; omega⟩
        have HOWN10 := Lib.hid hown10
        have HRR := Lib.hid (⟨hrow10, r1, r2, s1, s2⟩ : OwnR w1 w10 (.slice oA n oc) v9.ownBlock n F ∧ _ ∧ _ ∧ _ ∧ _)
        have hnl : n + 1 ≤ 1000000 := by omega
        have pf1 : ∀ j, j < n * 2 → partF es vs xs M F n j = F j := fun j hj => by unfold partF; rw [if_neg (by omega), if_neg (by omega)]
        have pf2 : partF es vs xs M F n (n * 2) = vs.filter fun x => decide (x ∈ M) := by unfold partF; rw [if_pos rfl]
        have pf3 : partF es vs xs M F n (n * 2 + 1) = xs.filter fun e => decide ((ends es e).1 ∈ M) && decide ((ends es e).2 ∈ M) := by unfold partF; rw [if_neg (by omega), if_pos rfl]
        have PF := Lib.hid (And.intro pf1 (And.intro pf2 pf3))
        clear hown9 hrow9 hisM isM9 i1 i2 hnw1 hnw2 b10 hown10 hrow10 hrlt hqlt r1 r2 s1 s2 hg9 hb9 pf1 pf2 pf3 d0 d1 d2 d3
        go_wp2_with (with_reducible show wpList _ _ _ (Oper.mk (some 41) _ _ _ _ _ :: _) _ _; go_must (refine wpList_append_partR (v := .slice oA n oc) (F' := partF es vs xs M F n) rfl _ _ rfl rfl HRR.out.1 HRR.out.2.1 HRR.out.2.2.1 HRR.out.2.2.2.1 HRR.out.2.2.2.2 rfl hnl PF.out.1 PF.out.2.1 PF.out.2.2 ?_; intro v11 w11 hrow11 hg11))
        have HOWN11 := Lib.hid (HOWN10.out.besidePart HRR.out.1 hg11)
        have HR11 := Lib.hid hrow11
        clear hrow11 hg11
        go_roundw
        case rel => exact ⟨k + 1, by omega, by go_num, _, _, _, _, HOWN11.out, HR11.out, by rw [HTK.out]; exact HMO.out⟩
        case measure => simp [intOf]; omega
    · obtain rfl : k = nv := by omega
      rw [List.take_of_length_le (by omega)] at hrp
      obtain ⟨A', c', e, hps⟩ := hrow.ps
      injection e with e1 e2 e3
      subst e1 e3
      have HPS := Lib.hid hps
      have HRP := Lib.hid hrp
      have HB := Lib.hid (bstep B1.out hbel)
      clear hps hrp hown hrow hbel hdl htk
      go_wp2
      go_ret
      exact ⟨⟨_, _, _, rfl, F, HPS.out, f, HRP.out.pc, HRP.out.fl⟩, HB.out⟩
end Go.Proofs.Ythobfbnopkbniaa
