/-
  The contract of ref05.Sub: of a part, what is in a list. No conditions on the program.
-/
import Derived.Test.YthobfbnopkbniaaVFSpread
import Derived.Test.YthobfbnopkbniaaFaceD
namespace Go.Proofs.Ythobfbnopkbniaa
open Go.RowKit

section
variable {w wr w' : World} {pb eb : Nat} {v1 v2 : Value} {xs ys : List Int} {x y : Int}
theorem WInv.later (h : WInv w wr pb v1 v2 xs ys) (hb : Below wr.heap.size wr w') : WInv w w' pb v1 v2 xs ys := ⟨(hb.block pb h.lt).trans h.box, h.r1.later hb, h.r2.later hb, h.new, h.apart⟩
theorem WInv.midq (h : WInv w wr pb v1 v2 xs ys) {v : Value} (hv : v = v1 ∨ v = v2) (hg : wr.grownBy w' v.ownBlock) (i : Nat) (hi : i < 2) :
    w'.heap[pb]? = some (.cells #[v1, v2] 27 (0, 0)) ∧ (∃ u, w'.cell? ⟨pb, i, none⟩ = some u) ∧ w'.frozen? ⟨pb, i, none⟩ = false := by
  have hlt := h.lt
  have hne : v.ownBlock ≠ some pb := by
    rcases hv with rfl | rfl
    · exact h.r1.notPart h.box
    · exact h.r2.notPart h.box
  have hbox := (hg.block pb hlt (fun e => hne e.symm)).trans h.box
  refine ⟨hbox, ?_, by simp [World.frozen?, hbox]⟩
  rw [cell_of_row w' pb i _ _ _ hbox]
  match i, hi with
  | 0, _ => exact ⟨_, rfl⟩
  | 1, _ => exact ⟨_, rfl⟩
theorem WInv.put1q (h : WInv w wr pb v1 v2 xs ys) (h2 : v2.ownBlock = none) {v' : Value} {xs' : List Int} (hr : Own w w' v' xs') (hg : wr.grownBy w' v1.ownBlock) :
    WInv w (w'.setCell ⟨pb, 0, none⟩ v') pb v' v2 xs' ys := by
  obtain ⟨hbox, _, _⟩ := h.midq (.inl rfl) hg 0 (by omega)
  have hset : w'.grownBy (w'.setCell ⟨pb, 0, none⟩ v') (some pb) := ⟨rfl, rfl, rfl, by simp [World.setCell], fun i _ hi => Below.heap_setCell _ _ _ _ (fun e => hi (by rw [e]))⟩
  have h2' : Own w w' v2 ys := h.r2.kept hg (fun k hk => (h.r1.row.lt k hk).1) (.inl h2)
  refine ⟨by simp [World.setCell, Array.getElem?_modify, hbox], hr.kept hset (fun k hk => by cases hk; exact h.new) (.inr (hr.notPart hbox)), h2'.kept hset (fun k hk => by cases hk; exact h.new) (.inl h2), h.new, ?_⟩
  rw [h2]
  cases v'.ownBlock <;> simp
theorem WInv.put2q (h : WInv w wr pb v1 v2 xs ys) {v' : Value} {ys' : List Int} (hr : Own w w' v' ys') (hg : wr.grownBy w' v2.ownBlock) (ho : v'.ownBlock = v2.ownBlock ∨ v'.ownBlock = some wr.heap.size) :
    WInv w (w'.setCell ⟨pb, 1, none⟩ v') pb v1 v' xs ys' := by
  obtain ⟨hbox, _, _⟩ := h.midq (.inr rfl) hg 1 (by omega)
  have hset : w'.grownBy (w'.setCell ⟨pb, 1, none⟩ v') (some pb) := ⟨rfl, rfl, rfl, by simp [World.setCell], fun i _ hi => Below.heap_setCell _ _ _ _ (fun e => hi (by rw [e]))⟩
  have h1' : Own w w' v1 xs := h.r1.kept hg (fun k hk => (h.r2.row.lt k hk).1) h.apart
  refine ⟨by simp [World.setCell, Array.getElem?_modify, hbox], h1'.kept hset (fun k hk => by cases hk; exact h.new) (.inr (h1'.notPart hbox)), hr.kept hset (fun k hk => by cases hk; exact h.new) (.inr (hr.notPart hbox)), h.new, ?_⟩
  rcases ho with e | e
  · rw [e]; exact h.apart
  · rw [e]
    cases hv : v1.ownBlock with
    | none => exact .inl rfl
    | some k =>
      refine .inr fun e' => ?_
      injection e' with e'
      obtain ⟨cur, hc, _⟩ := h.r1.ownsInt hv
      have := (Array.getElem?_eq_some_iff.1 hc).1
      omega
theorem WInv.set (h : WInv w wr pb v1 v2 xs ys) (hg : wr.grownBy w' (some eb)) (hw : w.heap.size ≤ eb) (hne : pb ≠ eb) (h1 : v1.ownBlock ≠ some eb) (h2 : v2.ownBlock ≠ some eb) : WInv w w' pb v1 v2 xs ys :=
  ⟨(hg.block pb h.lt (fun e => hne (by injection e))).trans h.box, h.r1.set hg hw h1, h.r2.set hg hw h2, h.new, h.apart⟩
theorem WInv.ne_edge (h : WInv w wr pb v1 v2 xs ys) (he : EdgeAt wr eb x y) : pb ≠ eb := fun e => by
  have := h.box
  rw [e, he] at this
  injection this with this
  injection this with _ ht
  revert ht
  decide
end
theorem filter_take {xs : List Int} {k : Nat} {z : Int} (p : Int → Bool) (hk : k < xs.length) (hz : xs.getD k 0 = z) : (xs.take (k + 1)).filter p = (xs.take k).filter p ++ if p z then [z] else [] := by
  rw [take_getD hk hz, List.filter_append]
  congr 1
  by_cases h : p z <;> simp [h]

set_option maxHeartbeats 8000000 in
set_option maxRecDepth 100000 in
theorem sub_any (w : World) (N : Int) (A : Option Addr) (m c : Nat) (es : List (Int × Int)) (Av : Option Addr) (nv cv : Nat) (vs : List Int) (Ae : Option Addr) (ne ce : Nat) (xs : List Int) (M : List Int) (AM : Option Addr) (nM cM : Nat) (h : GP w N A m c es Av nv cv vs Ae ne ce xs) (hM : IS w w.heap.size AM nM cM M) (hp : POK N es vs xs) :
    Calls Try.prog 89 #[.agg #[.int .i64 N, .slice A m c], .agg #[.slice Av nv cv, .slice Ae ne ce], .slice AM nM cM] w fun e w' => ∃ A1 n1 c1 A2 n2 c2, e = .returned (.agg #[.slice A1 n1 c1, .slice A2 n2 c2]) ∧
      IS w' w'.heap.size A1 n1 c1 (vs.filter fun x => decide (x ∈ M)) ∧ IS w' w'.heap.size A2 n2 c2 (xs.filter fun e => decide ((ends es e).1 ∈ M) && decide ((ends es e).2 ∈ M)) ∧ (∀ a, A1 = some a → w.heap.size ≤ a.block) ∧ (∀ a, A2 = some a → w.heap.size ≤ a.block) ∧ Below w.heap.size w w' := by
  obtain ⟨w1, hw1, b1, gb1⟩ := box_gp w N A m c es Av nv cv Ae ne ce
  obtain ⟨w2, hw2, b2, s2, k2⟩ := box_one w1 #[.slice none 0 0, .slice none 0 0] 27
  have h2 := (h.step b1).step b2
  have m2 := (hM.step b1).step b2
  have gb2 := gb1.step b2
  have hst : WInv w2 (w2.alloc (.cells #[.slice none 0 0, .slice none 0 0] 27)) w2.heap.size (.slice none 0 0) (.slice none 0 0) [] [] :=
    ⟨heap_alloc_new _ _, (Own.start w2).alloc _, (Own.start w2).alloc _, Nat.le_refl _, .inl rfl⟩
  have HP := Lib.hid hp
  have B12 := Lib.hid (bstep b1 b2)
  have hsz1 := b1.size
  have K2 := Lib.hid k2
  have GB2 := Lib.hid gb2
  have H2 := Lib.hid h2
  have M2 := Lib.hid m2
  have hnvl := h2.v.len
  have hlv := h2.v.le
  have hcv := h2.v.cap
  have hnel := h2.e.len
  have hle := h2.e.le
  have hce := h2.e.cap
  have hlg := h2.g.le
  have hcg := h2.g.cap
  have hnv1024 : nv ≤ 1024 := by
    have h4 := nodup_len (a := vs) (b := upto1 N.toNat) (sorted_nodup hp.vp) fun x hx => mem_upto1.2 (by have := hp.vr x hx; omega)
    rw [upto1_len] at h4
    have := hp.size
    have := hp.n0
    omega
  have hne1024 : ne ≤ 1024 := by have h5 := nodup_len (a := xs) (b := upto1 es.length) (sorted_nodup hp.xp) fun x hx => mem_upto1.2 (hp.xr x hx); rw [upto1_len] at h5; have := hp.size; have := hp.n0; omega
  have ⟨_, _, c0, c1, c2, c3, _⟩ := gb1
  have hg0 := gb1.1
  have hp0 := gb1.2.1
  clear h hM h2 m2 gb2 gb1 hp k2 b1 b2
  go_enter Try.func89, Try.ntmps89
  go_wp2
  clear c0 c1 c2 c3
  have hst1 : WInv w2 (w2.alloc (.cells #[.slice none 0 0, .slice none 0 0] 27)) w2.heap.size (.slice none 0 0) (.slice none 0 0) ((vs.take 0).filter fun x => decide (x ∈ M)) [] := hst
  clear hst
  go_loopw [8] (fun i wr => ∃ k : Nat, k ≤ nv ∧ i = .int .i64 k ∧ ∃ v, WInv w2 wr w2.heap.size v (.slice none 0 0) ((vs.take k).filter fun x => decide (x ∈ M)) []) (fun i _ => nv - (intOf i).toNat)
  case atStart => exact ⟨0, Nat.zero_le _, rfl, _, hst1⟩
  case round =>
    clear hst1
    obtain ⟨k, hk, rfl, v, inv⟩ := hrel
    have hbel := inv.r1.below
    have ⟨_, _, c0, c1, c2, c3, _⟩ := GB2.out.step hbel
    have e0 := inv.cell 0
    have e1 := inv.cell 1
    obtain ⟨vA, vn, vc, rfl⟩ := inv.r1.slice_
    by_cases hlt : k < nv
    · obtain ⟨bv, ov, z, hAv, hbv, hz, hz64, hcz⟩ := (H2.out.v.below hbel).get hlt
      subst hAv
      have HKL : Hid (k < vs.length) := Lib.hid (by omega)
      have hk0 : (0 : Int) ≤ (k : Int) := by omega
      have hk1 : (k : Int) < (nv : Int) := by omega
      have hft := filter_take (fun x => decide (x ∈ M)) HKL.out hz.out
      have HFT := Lib.hid hft
      have INV := Lib.hid inv
      have hbv' : bv < wr.heap.size := Nat.lt_of_lt_of_le hbv hbel.size
      have hpl := inv.lt
      have hml : Hid (((vs.take k).filter fun x => decide (x ∈ M)).length + 1 ≤ 1000000000000) := Lib.hid (by
        have h1 := List.length_filter_le (fun x => decide (x ∈ M)) (vs.take k)
        have h2 : (vs.take k).length ≤ k := List.length_take_le _ _
        omega)
      have mr := M2.out.step hbel
      clear inv hft hbel
      go_wp2_with fail
      refine (in_any wr _ AM nM cM M z mr).mono ?_
      rintro e w5 ⟨rfl, rfl⟩
      by_cases hzM : z ∈ M
      · rw [decide_eq_true hzM]
        have HF2 : Hid ((vs.take (k + 1)).filter (fun x => decide (x ∈ M)) = (vs.take k).filter (fun x => decide (x ∈ M)) ++ [z]) := Lib.hid (by rw [HFT.out, if_pos (decide_eq_true hzM)])
        clear hzM mr
        go_wp2_with fail
        obtain ⟨pb, hpb⟩ : ∃ pb, w2.heap.size = pb := ⟨_, rfl⟩
        rw [hpb] at INV e0 e1 hpl ⊢
        have hgp : w.heap.size + 1 < wr.heap.size := by omega
        refine wp_region_rel 8 [[],[0],[],[2],[],[2,3,4],[2,3,4,5],[2,3,4,5,6]]
          [fun x _ => x = .pointer (some ⟨pb, 0, none⟩),
           fun x _ => x = .slice vA vn vc,
           fun x _ => x = .pointer (some ⟨w.heap.size + 1, 0, none⟩),
           fun x _ => x = .slice (some ⟨bv, ov, none⟩) nv cv,
           fun x _ => x = .int .i64 k,
           fun x _ => x = .pointer (some ⟨bv, ov + k, none⟩),
           fun x _ => x = .int .i64 z,
           fun x W => ∃ A, x = .slice A 1 1 ∧ IS W W.heap.size A 1 1 [z]]
          (by kernel_rfl) (by kernel_rfl) rfl ⟨?_, ?_, ?_, ?_, ?_, ?_, ?_, ?_, trivial⟩ ?_
        · intro wr hx v0 h0 v1 h1 v2 h2 v3 h3 v4 h4 v5 h5 v6 h6 v7 h7 K hK
          have q0 := (hx.cell (p := ⟨pb, 0, none⟩) hpl).trans e0
          have q1 := (hx.cell (p := ⟨w.heap.size + 1, 0, none⟩) hgp).trans c2
          have q2 := (hx.cell (p := ⟨bv, ov + k, none⟩) hbv').trans hcz
          simp only [Act.put, List.setIfInBounds_toArray, List.set_cons_zero, List.set_cons_succ] at hK ⊢
          clear h0 h1 h2 h3 h4 h5 h6 h7
          go_wp2
          exact hK _ _ (Ext.refl _) (fun _ _ => rfl)
        · intro wr hx v0 h0 v1 h1 v2 h2 v3 h3 v4 h4 v5 h5 v6 h6 v7 h7 K hK
          have q0 := (hx.cell (p := ⟨pb, 0, none⟩) hpl).trans e0
          have q1 := (hx.cell (p := ⟨w.heap.size + 1, 0, none⟩) hgp).trans c2
          have q2 := (hx.cell (p := ⟨bv, ov + k, none⟩) hbv').trans hcz
          simp only [Act.put, List.setIfInBounds_toArray, List.set_cons_zero, List.set_cons_succ] at hK ⊢
          obtain rfl := (h0 (by decide)).now
          clear h0 h1 h2 h3 h4 h5 h6 h7
          go_wp2
          exact hK _ _ (Ext.refl _) (fun _ _ => rfl)
        · intro wr hx v0 h0 v1 h1 v2 h2 v3 h3 v4 h4 v5 h5 v6 h6 v7 h7 K hK
          have q0 := (hx.cell (p := ⟨pb, 0, none⟩) hpl).trans e0
          have q1 := (hx.cell (p := ⟨w.heap.size + 1, 0, none⟩) hgp).trans c2
          have q2 := (hx.cell (p := ⟨bv, ov + k, none⟩) hbv').trans hcz
          simp only [Act.put, List.setIfInBounds_toArray, List.set_cons_zero, List.set_cons_succ] at hK ⊢
          clear h0 h1 h2 h3 h4 h5 h6 h7
          go_wp2
          exact hK _ _ (Ext.refl _) (fun _ _ => rfl)
        · intro wr hx v0 h0 v1 h1 v2 h2 v3 h3 v4 h4 v5 h5 v6 h6 v7 h7 K hK
          have q0 := (hx.cell (p := ⟨pb, 0, none⟩) hpl).trans e0
          have q1 := (hx.cell (p := ⟨w.heap.size + 1, 0, none⟩) hgp).trans c2
          have q2 := (hx.cell (p := ⟨bv, ov + k, none⟩) hbv').trans hcz
          simp only [Act.put, List.setIfInBounds_toArray, List.set_cons_zero, List.set_cons_succ] at hK ⊢
          obtain rfl := (h2 (by decide)).now
          clear h0 h1 h2 h3 h4 h5 h6 h7
          go_wp2
          exact hK _ _ (Ext.refl _) (fun _ _ => rfl)
        · intro wr hx v0 h0 v1 h1 v2 h2 v3 h3 v4 h4 v5 h5 v6 h6 v7 h7 K hK
          have q0 := (hx.cell (p := ⟨pb, 0, none⟩) hpl).trans e0
          have q1 := (hx.cell (p := ⟨w.heap.size + 1, 0, none⟩) hgp).trans c2
          have q2 := (hx.cell (p := ⟨bv, ov + k, none⟩) hbv').trans hcz
          simp only [Act.put, List.setIfInBounds_toArray, List.set_cons_zero, List.set_cons_succ] at hK ⊢
          clear h0 h1 h2 h3 h4 h5 h6 h7
          go_wp2
          exact hK _ _ (Ext.refl _) (fun _ _ => rfl)
        · intro wr hx v0 h0 v1 h1 v2 h2 v3 h3 v4 h4 v5 h5 v6 h6 v7 h7 K hK
          have q0 := (hx.cell (p := ⟨pb, 0, none⟩) hpl).trans e0
          have q1 := (hx.cell (p := ⟨w.heap.size + 1, 0, none⟩) hgp).trans c2
          have q2 := (hx.cell (p := ⟨bv, ov + k, none⟩) hbv').trans hcz
          simp only [Act.put, List.setIfInBounds_toArray, List.set_cons_zero, List.set_cons_succ] at hK ⊢
          obtain rfl := (h3 (by decide)).now
          obtain rfl := (h4 (by decide)).now
          clear h0 h1 h2 h3 h4 h5 h6 h7
          go_wp2
          exact hK _ _ (Ext.refl _) (fun _ _ => rfl)
        · intro wr hx v0 h0 v1 h1 v2 h2 v3 h3 v4 h4 v5 h5 v6 h6 v7 h7 K hK
          have q0 := (hx.cell (p := ⟨pb, 0, none⟩) hpl).trans e0
          have q1 := (hx.cell (p := ⟨w.heap.size + 1, 0, none⟩) hgp).trans c2
          have q2 := (hx.cell (p := ⟨bv, ov + k, none⟩) hbv').trans hcz
          simp only [Act.put, List.setIfInBounds_toArray, List.set_cons_zero, List.set_cons_succ] at hK ⊢
          obtain rfl := (h5 (by decide)).now
          clear h0 h1 h2 h3 h4 h5 h6 h7
          go_wp2
          exact hK _ _ (Ext.refl _) (fun _ _ => rfl)
        · intro wr hx v0 h0 v1 h1 v2 h2 v3 h3 v4 h4 v5 h5 v6 h6 v7 h7 K hK
          have q0 := (hx.cell (p := ⟨pb, 0, none⟩) hpl).trans e0
          have q1 := (hx.cell (p := ⟨w.heap.size + 1, 0, none⟩) hgp).trans c2
          have q2 := (hx.cell (p := ⟨bv, ov + k, none⟩) hbv').trans hcz
          simp only [Act.put, List.setIfInBounds_toArray, List.set_cons_zero, List.set_cons_succ] at hK ⊢
          obtain rfl := (h6 (by decide)).now
          clear h0 h1 h2 h3 h4 h5 h6 h7
          go_wp2
          exact hK _ _ (Ext.alloc _ _) (fun W hW => ⟨_, rfl, (((IS.one _ _ hz64).more (by simp)).below hW).more hW.size⟩)
        intro w8 hx v0 h0 v1 h1 v2 h2 v3 h3 v4 h4 v5 h5 v6 h6 v7 h7
        have q0 := (hx.cell (p := ⟨pb, 0, none⟩) hpl).trans e0
        have q1 := (hx.cell (p := ⟨w.heap.size + 1, 0, none⟩) hgp).trans c2
        have q2 := (hx.cell (p := ⟨bv, ov + k, none⟩) hbv').trans hcz
        obtain rfl := h1.now
        obtain ⟨A7, rfl, is7⟩ := h7.now
        clear h0 h1 h2 h3 h4 h5 h6 h7
        refine tail_seq (by kernel_rfl) ?_
        simp only [List.drop_succ_cons, List.drop_zero, Act.put, List.setIfInBounds_toArray, List.set_cons_zero, List.set_cons_succ]
        have INV8 := Lib.hid (INV.out.later hx)
        clear c0 c1 c2 c3 e0 e1 q0 q1 q2 hx
        go_wp2_with (with_reducible show wpList _ _ _ (Oper.mk (some 33) _ _ _ _ _ :: _) _ _; go_must (refine wpList_append_is (v := .slice vA vn vc) (w0 := w2) rfl _ _ rfl rfl INV8.out.r1 rfl is7 hml.out ?_; intro v' w5 hown' hg5 hb5; obtain ⟨hbx, ⟨u0, hu0⟩, hf0⟩ := INV8.out.midq (.inl rfl) hg5 0 (by omega); obtain ⟨xA, xn, xc, rfl⟩ := hown'.slice_))
        rw [hpb] at *
        go_roundw
        case rel => exact ⟨k + 1, by omega, by go_num, _, by rw [HF2.out]; exact INV8.out.put1q rfl hown' hg5⟩
        case measure => simp [intOf]; omega
      · rw [decide_eq_false hzM]
        have HF2 : Hid ((vs.take (k + 1)).filter (fun x => decide (x ∈ M)) = (vs.take k).filter (fun x => decide (x ∈ M))) := Lib.hid (by rw [HFT.out, if_neg (by simp [hzM]), List.append_nil])
        clear hzM mr
        go_wp2
        go_roundw
        case rel => exact ⟨k + 1, by omega, by go_num, _, by rw [HF2.out]; exact INV.out⟩
        case measure => simp [intOf]; omega
    · obtain rfl : k = nv := by omega
      rw [List.take_of_length_le (by omega)] at inv
      have hj0 : WInv w2 wr w2.heap.size (.slice vA vn vc) (.slice none 0 0) (vs.filter fun x => decide (x ∈ M)) ((xs.take 0).filter fun e => decide ((ends es e).1 ∈ M) && decide ((ends es e).2 ∈ M)) := inv
      clear inv e0 e1 hbel
      go_wp2
      clear c0 c1 c2 c3
      go_loopw [9] (fun i wr => ∃ j : Nat, j ≤ ne ∧ i = .int .i64 j ∧ ∃ v, WInv w2 wr w2.heap.size (.slice vA vn vc) v (vs.filter fun x => decide (x ∈ M)) ((xs.take j).filter fun e => decide ((ends es e).1 ∈ M) && decide ((ends es e).2 ∈ M))) (fun i _ => ne - (intOf i).toNat)
      case atStart => exact ⟨0, Nat.zero_le _, rfl, _, hj0⟩
      case round =>
        clear hj0
        obtain ⟨j, hj, rfl, v, inv⟩ := hrel
        have hbel := inv.r2.below
        have ⟨hg5, hp5, c0, c1, c2, c3, _⟩ := GB2.out.step hbel
        have e0 := inv.cell 0
        have e1 := inv.cell 1
        obtain ⟨yA, yn, yc, rfl⟩ := inv.r2.slice_
        by_cases hlt : j < ne
        · obtain ⟨be, oe, qq, hAe, hbe, hqz, hq64, hcz⟩ := (H2.out.e.below hbel).get hlt
          subst hAe
          have HKL : Hid (j < xs.length) := Lib.hid (by omega)
          have hqm : qq ∈ xs := hqz.out ▸ H2.out.e.mem hlt
          have hzr := HP.out.xr qq hqm
          obtain ⟨q, rfl⟩ := Int.eq_ofNat_of_zero_le hzr.1
          have hmlen := H2.out.g.len
          have hqm' : q < m := by omega
          obtain ⟨bg, og, x, y, hAg, hbg, hxy, hx64, hy64, hcx, hcy⟩ := (H2.out.g.below hbel).get hqm'
          subst hAg
          have HEN : Hid (ends es q = (x, y)) := Lib.hid (by unfold ends; rw [Int.toNat_natCast]; exact hxy.out)
          have hq0 : (0 : Int) ≤ (q : Int) := by omega
          have hq1 : (q : Int) < (m : Int) := by omega
          have hj0 : (0 : Int) ≤ (j : Int) := by omega
          have hj1 : (j : Int) < (ne : Int) := by omega
          have hbe' : be < wr.heap.size := Nat.lt_of_lt_of_le hbe hbel.size
          have hbg' : bg < wr.heap.size := Nat.lt_of_lt_of_le hbg hbel.size
          have hft := filter_take (fun e => decide ((ends es e).1 ∈ M) && decide ((ends es e).2 ∈ M)) HKL.out hqz.out
          rw [HEN.out] at hft
          have HFT := Lib.hid hft
          have INV := Lib.hid inv
          have HBEL := Lib.hid hbel
          have hml : Hid (((xs.take j).filter fun e => decide ((ends es e).1 ∈ M) && decide ((ends es e).2 ∈ M)).length + 1 ≤ 1000000000000) := Lib.hid (by
            have h1 := List.length_filter_le (fun e => decide ((ends es e).1 ∈ M) && decide ((ends es e).2 ∈ M)) (xs.take j)
            have h2 : (xs.take j).length ≤ j := List.length_take_le _ _
            omega)
          have HHS := Lib.hid hbel.size
          clear inv hft hbel hzr hqm hmlen e0 e1
          go_wp2
          refine wp_region_rel 10 [[],[0],[],[2],[],[2,3,4],[2,3,4,5],[0,1,2,3,4,5,6],[0,1,2,3,4,5,6,7],[]]
            [fun v _ => v = .pointer (some ⟨w.heap.size, 1, none⟩),
             fun v _ => v = .slice (some ⟨bg, og, none⟩) m c,
             fun v _ => v = .pointer (some ⟨w.heap.size + 1, 1, none⟩),
             fun v _ => v = .slice (some ⟨be, oe, none⟩) ne ce,
             fun v _ => v = .int .i64 j,
             fun v _ => v = .pointer (some ⟨be, oe + j, none⟩),
             fun v _ => v = .int .i64 q,
             fun v _ => v = .pointer (some ⟨bg, og + q * 2, none⟩),
             fun v _ => v = .agg #[.int .i64 x, .int .i64 y],
             fun v w' => ∃ eb, v = .pointer (some ⟨eb, 0, none⟩) ∧ w2.heap.size ≤ eb ∧ w'.heap[eb]? = some (.cells #[.int .i64 0, .int .i64 0] 86 (0, 0))]
            (by kernel_rfl) (by kernel_rfl) rfl ⟨?_, ?_, ?_, ?_, ?_, ?_, ?_, ?_, ?_, ?_, trivial⟩ ?_
          · intro wr hx v0 h0 v1 h1 v2 h2 v3 h3 v4 h4 v5 h5 v6 h6 v7 h7 v8 h8 v9 h9 K hK
            have q1 := (hx.cell (p := ⟨w.heap.size, 1, none⟩) hg5).trans c1
            have q3 := (hx.cell (p := ⟨w.heap.size + 1, 1, none⟩) hp5).trans c3
            have q4 := (hx.cell (p := ⟨be, oe + j, none⟩) hbe').trans hcz
            have q5 := (hx.cell (p := ⟨bg, og + q * 2, none⟩) hbg').trans hcx
            have q6 := (hx.cell (p := ⟨bg, og + q * 2 + 1, none⟩) hbg').trans hcy
            simp only [Act.put, List.setIfInBounds_toArray, List.set_cons_zero, List.set_cons_succ] at hK ⊢
            clear h0 h1 h2 h3 h4 h5 h6 h7 h8 h9
            go_wp2
            exact hK _ _ (Ext.refl _) (fun _ _ => rfl)
          · intro wr hx v0 h0 v1 h1 v2 h2 v3 h3 v4 h4 v5 h5 v6 h6 v7 h7 v8 h8 v9 h9 K hK
            have q1 := (hx.cell (p := ⟨w.heap.size, 1, none⟩) hg5).trans c1
            have q3 := (hx.cell (p := ⟨w.heap.size + 1, 1, none⟩) hp5).trans c3
            have q4 := (hx.cell (p := ⟨be, oe + j, none⟩) hbe').trans hcz
            have q5 := (hx.cell (p := ⟨bg, og + q * 2, none⟩) hbg').trans hcx
            have q6 := (hx.cell (p := ⟨bg, og + q * 2 + 1, none⟩) hbg').trans hcy
            simp only [Act.put, List.setIfInBounds_toArray, List.set_cons_zero, List.set_cons_succ] at hK ⊢
            obtain rfl := (h0 (by decide)).now
            clear h0 h1 h2 h3 h4 h5 h6 h7 h8 h9
            go_wp2
            exact hK _ _ (Ext.refl _) (fun _ _ => rfl)
          · intro wr hx v0 h0 v1 h1 v2 h2 v3 h3 v4 h4 v5 h5 v6 h6 v7 h7 v8 h8 v9 h9 K hK
            have q1 := (hx.cell (p := ⟨w.heap.size, 1, none⟩) hg5).trans c1
            have q3 := (hx.cell (p := ⟨w.heap.size + 1, 1, none⟩) hp5).trans c3
            have q4 := (hx.cell (p := ⟨be, oe + j, none⟩) hbe').trans hcz
            have q5 := (hx.cell (p := ⟨bg, og + q * 2, none⟩) hbg').trans hcx
            have q6 := (hx.cell (p := ⟨bg, og + q * 2 + 1, none⟩) hbg').trans hcy
            simp only [Act.put, List.setIfInBounds_toArray, List.set_cons_zero, List.set_cons_succ] at hK ⊢
            clear h0 h1 h2 h3 h4 h5 h6 h7 h8 h9
            go_wp2
            exact hK _ _ (Ext.refl _) (fun _ _ => rfl)
          · intro wr hx v0 h0 v1 h1 v2 h2 v3 h3 v4 h4 v5 h5 v6 h6 v7 h7 v8 h8 v9 h9 K hK
            have q1 := (hx.cell (p := ⟨w.heap.size, 1, none⟩) hg5).trans c1
            have q3 := (hx.cell (p := ⟨w.heap.size + 1, 1, none⟩) hp5).trans c3
            have q4 := (hx.cell (p := ⟨be, oe + j, none⟩) hbe').trans hcz
            have q5 := (hx.cell (p := ⟨bg, og + q * 2, none⟩) hbg').trans hcx
            have q6 := (hx.cell (p := ⟨bg, og + q * 2 + 1, none⟩) hbg').trans hcy
            simp only [Act.put, List.setIfInBounds_toArray, List.set_cons_zero, List.set_cons_succ] at hK ⊢
            obtain rfl := (h2 (by decide)).now
            clear h0 h1 h2 h3 h4 h5 h6 h7 h8 h9
            go_wp2
            exact hK _ _ (Ext.refl _) (fun _ _ => rfl)
          · intro wr hx v0 h0 v1 h1 v2 h2 v3 h3 v4 h4 v5 h5 v6 h6 v7 h7 v8 h8 v9 h9 K hK
            have q1 := (hx.cell (p := ⟨w.heap.size, 1, none⟩) hg5).trans c1
            have q3 := (hx.cell (p := ⟨w.heap.size + 1, 1, none⟩) hp5).trans c3
            have q4 := (hx.cell (p := ⟨be, oe + j, none⟩) hbe').trans hcz
            have q5 := (hx.cell (p := ⟨bg, og + q * 2, none⟩) hbg').trans hcx
            have q6 := (hx.cell (p := ⟨bg, og + q * 2 + 1, none⟩) hbg').trans hcy
            simp only [Act.put, List.setIfInBounds_toArray, List.set_cons_zero, List.set_cons_succ] at hK ⊢
            clear h0 h1 h2 h3 h4 h5 h6 h7 h8 h9
            go_wp2
            exact hK _ _ (Ext.refl _) (fun _ _ => rfl)
          · intro wr hx v0 h0 v1 h1 v2 h2 v3 h3 v4 h4 v5 h5 v6 h6 v7 h7 v8 h8 v9 h9 K hK
            have q1 := (hx.cell (p := ⟨w.heap.size, 1, none⟩) hg5).trans c1
            have q3 := (hx.cell (p := ⟨w.heap.size + 1, 1, none⟩) hp5).trans c3
            have q4 := (hx.cell (p := ⟨be, oe + j, none⟩) hbe').trans hcz
            have q5 := (hx.cell (p := ⟨bg, og + q * 2, none⟩) hbg').trans hcx
            have q6 := (hx.cell (p := ⟨bg, og + q * 2 + 1, none⟩) hbg').trans hcy
            simp only [Act.put, List.setIfInBounds_toArray, List.set_cons_zero, List.set_cons_succ] at hK ⊢
            obtain rfl := (h3 (by decide)).now
            obtain rfl := (h4 (by decide)).now
            clear h0 h1 h2 h3 h4 h5 h6 h7 h8 h9
            go_wp2
            exact hK _ _ (Ext.refl _) (fun _ _ => rfl)
          · intro wr hx v0 h0 v1 h1 v2 h2 v3 h3 v4 h4 v5 h5 v6 h6 v7 h7 v8 h8 v9 h9 K hK
            have q1 := (hx.cell (p := ⟨w.heap.size, 1, none⟩) hg5).trans c1
            have q3 := (hx.cell (p := ⟨w.heap.size + 1, 1, none⟩) hp5).trans c3
            have q4 := (hx.cell (p := ⟨be, oe + j, none⟩) hbe').trans hcz
            have q5 := (hx.cell (p := ⟨bg, og + q * 2, none⟩) hbg').trans hcx
            have q6 := (hx.cell (p := ⟨bg, og + q * 2 + 1, none⟩) hbg').trans hcy
            simp only [Act.put, List.setIfInBounds_toArray, List.set_cons_zero, List.set_cons_succ] at hK ⊢
            obtain rfl := (h5 (by decide)).now
            clear h0 h1 h2 h3 h4 h5 h6 h7 h8 h9
            go_wp2
            exact hK _ _ (Ext.refl _) (fun _ _ => rfl)
          · intro wr hx v0 h0 v1 h1 v2 h2 v3 h3 v4 h4 v5 h5 v6 h6 v7 h7 v8 h8 v9 h9 K hK
            have q1 := (hx.cell (p := ⟨w.heap.size, 1, none⟩) hg5).trans c1
            have q3 := (hx.cell (p := ⟨w.heap.size + 1, 1, none⟩) hp5).trans c3
            have q4 := (hx.cell (p := ⟨be, oe + j, none⟩) hbe').trans hcz
            have q5 := (hx.cell (p := ⟨bg, og + q * 2, none⟩) hbg').trans hcx
            have q6 := (hx.cell (p := ⟨bg, og + q * 2 + 1, none⟩) hbg').trans hcy
            simp only [Act.put, List.setIfInBounds_toArray, List.set_cons_zero, List.set_cons_succ] at hK ⊢
            obtain rfl := (h1 (by decide)).now
            obtain rfl := (h6 (by decide)).now
            clear h0 h1 h2 h3 h4 h5 h6 h7 h8 h9
            go_wp2
            exact hK _ _ (Ext.refl _) (fun _ _ => rfl)
          · intro wr hx v0 h0 v1 h1 v2 h2 v3 h3 v4 h4 v5 h5 v6 h6 v7 h7 v8 h8 v9 h9 K hK
            have q1 := (hx.cell (p := ⟨w.heap.size, 1, none⟩) hg5).trans c1
            have q3 := (hx.cell (p := ⟨w.heap.size + 1, 1, none⟩) hp5).trans c3
            have q4 := (hx.cell (p := ⟨be, oe + j, none⟩) hbe').trans hcz
            have q5 := (hx.cell (p := ⟨bg, og + q * 2, none⟩) hbg').trans hcx
            have q6 := (hx.cell (p := ⟨bg, og + q * 2 + 1, none⟩) hbg').trans hcy
            simp only [Act.put, List.setIfInBounds_toArray, List.set_cons_zero, List.set_cons_succ] at hK ⊢
            obtain rfl := (h7 (by decide)).now
            clear h0 h1 h2 h3 h4 h5 h6 h7 h8 h9
            go_wp2
            exact hK _ _ (Ext.refl _) (fun _ _ => rfl)
          · intro wr hx v0 h0 v1 h1 v2 h2 v3 h3 v4 h4 v5 h5 v6 h6 v7 h7 v8 h8 v9 h9 K hK
            have q1 := (hx.cell (p := ⟨w.heap.size, 1, none⟩) hg5).trans c1
            have q3 := (hx.cell (p := ⟨w.heap.size + 1, 1, none⟩) hp5).trans c3
            have q4 := (hx.cell (p := ⟨be, oe + j, none⟩) hbe').trans hcz
            have q5 := (hx.cell (p := ⟨bg, og + q * 2, none⟩) hbg').trans hcx
            have q6 := (hx.cell (p := ⟨bg, og + q * 2 + 1, none⟩) hbg').trans hcy
            simp only [Act.put, List.setIfInBounds_toArray, List.set_cons_zero, List.set_cons_succ] at hK ⊢
            clear h0 h1 h2 h3 h4 h5 h6 h7 h8 h9
            go_wp2
            exact hK _ _ (Ext.alloc _ _) (fun w'' hx' => ⟨_, rfl, Nat.le_trans HHS.out hx.size, (hx'.block _ (by simp)).trans (heap_alloc_new _ _)⟩)
          intro wr hx v0 h0 v1 h1 v2 h2 v3 h3 v4 h4 v5 h5 v6 h6 v7 h7 v8 h8 v9 h9
          have q1 := (hx.cell (p := ⟨w.heap.size, 1, none⟩) hg5).trans c1
          have q3 := (hx.cell (p := ⟨w.heap.size + 1, 1, none⟩) hp5).trans c3
          have q4 := (hx.cell (p := ⟨be, oe + j, none⟩) hbe').trans hcz
          have q5 := (hx.cell (p := ⟨bg, og + q * 2, none⟩) hbg').trans hcx
          have q6 := (hx.cell (p := ⟨bg, og + q * 2 + 1, none⟩) hbg').trans hcy
          obtain rfl := h8.now
          obtain ⟨eb, rfl, hebw, hebc⟩ := h9.now
          clear h0 h1 h2 h3 h4 h5 h6 h7 h8 h9
          refine tail_seq (by kernel_rfl) ?_
          simp only [List.drop_succ_cons, List.drop_zero, Act.put, List.setIfInBounds_toArray, List.set_cons_zero, List.set_cons_succ]
          have k0 : wr.cell? ⟨eb, 0, none⟩ = some (.int .i64 0) := cell_of_row wr eb 0 _ _ _ hebc
          have k1 : wr.cell? ⟨eb, 1, none⟩ = some (.int .i64 0) := cell_of_row wr eb 1 _ _ _ hebc
          have f0 : wr.frozen? ⟨eb, 0, none⟩ = false := frozen_of_row hebc
          have f1 : wr.frozen? ⟨eb, 1, none⟩ = false := frozen_of_row hebc
          have hed0 : EdgeAt wr eb 0 0 := hebc
          have inv8 := INV.out.later hx
          have n1 := hed0.ne_own inv8.r1
          have n2 := hed0.ne_own inv8.r2
          have n3 := inv8.ne_edge hed0
          have INV8 := Lib.hid ((inv8.set (grown_set _ eb 0 (.int .i64 x)) hebw n3 n1 n2).set (grown_set _ eb 1 (.int .i64 y)) hebw n3 n1 n2)
          have hblk : EdgeAt ((wr.setCell ⟨eb, 0, none⟩ (.int .i64 x)).setCell ⟨eb, 1, none⟩ (.int .i64 y)) eb x y := by
            unfold EdgeAt
            simp [World.setCell, Array.getElem?_modify, hebc]
          have HED := Lib.hid hblk
          clear hcx hcy c0 c1 c2 c3 q1 q3 q4 q5 q6 hebc hblk hed0 inv8 n1 n2 n3
          obtain ⟨w5, hw5⟩ : ∃ w5, (wr.setCell ⟨eb, 0, none⟩ (.int .i64 x)).setCell ⟨eb, 1, none⟩ (.int .i64 y) = w5 := ⟨_, rfl⟩
          have hb5 : Hid (Below w2.heap.size w2 w5) := Lib.hid (by rw [← hw5]; exact INV8.out.r1.below)
          rw [hw5] at INV8 HED
          have d0 := HED.out.c0
          have d1 := HED.out.c1
          have mr := M2.out.step hb5.out
          go_wp2_with fail
          refine (in_any w5 _ AM nM cM M x mr).mono ?_
          rintro e w6 ⟨rfl, rfl⟩
          by_cases hxM : x ∈ M
          · rw [decide_eq_true hxM]
            go_wp2_with fail
            refine (in_any w5 _ AM nM cM M y mr).mono ?_
            rintro e w6 ⟨rfl, rfl⟩
            by_cases hyM : y ∈ M
            · rw [decide_eq_true hyM]
              have HF2 : Hid ((xs.take (j + 1)).filter (fun e => decide ((ends es e).1 ∈ M) && decide ((ends es e).2 ∈ M)) = (xs.take j).filter (fun e => decide ((ends es e).1 ∈ M) && decide ((ends es e).2 ∈ M)) ++ [(q : Int)]) := Lib.hid (by rw [HFT.out, if_pos (by simp [hxM, hyM])])
              have ⟨_, hp6, _, _, _, c3, _⟩ := GB2.out.step hb5.out
              have hcz5 := (hb5.out.cell (p := ⟨be, oe + j, none⟩) hbe).trans ((HBEL.out.cell (p := ⟨be, oe + j, none⟩) hbe).symm.trans hcz)
              have e0 := INV8.out.cell 0
              have e1 := INV8.out.cell 1
              have hpl := INV8.out.lt
              have hbe5 : be < w5.heap.size := Nat.lt_of_lt_of_le hbe hb5.out.size
              clear hxM hyM mr d0 d1 hw5 k0 k1 f0 f1 hcz
              go_wp2_with fail
              obtain ⟨pb, hpb⟩ : ∃ pb, w2.heap.size = pb := ⟨_, rfl⟩
              rw [hpb] at INV8 e0 e1 hpl ⊢
              refine wp_region_rel 8 [[],[0],[],[2],[],[2,3,4],[2,3,4,5],[2,3,4,5,6]]
                [fun x _ => x = .pointer (some ⟨pb, 1, none⟩),
                 fun x _ => x = .slice yA yn yc,
                 fun x _ => x = .pointer (some ⟨w.heap.size + 1, 1, none⟩),
                 fun x _ => x = .slice (some ⟨be, oe, none⟩) ne ce,
                 fun x _ => x = .int .i64 j,
                 fun x _ => x = .pointer (some ⟨be, oe + j, none⟩),
                 fun x _ => x = .int .i64 q,
                 fun x W => ∃ A, x = .slice A 1 1 ∧ IS W W.heap.size A 1 1 [(q : Int)]]
                (by kernel_rfl) (by kernel_rfl) rfl ⟨?_, ?_, ?_, ?_, ?_, ?_, ?_, ?_, trivial⟩ ?_
              · intro wr hx v0 h0 v1 h1 v2 h2 v3 h3 v4 h4 v5 h5 v6 h6 v7 h7 K hK
                have q0 := (hx.cell (p := ⟨pb, 1, none⟩) hpl).trans e1
                have q1 := (hx.cell (p := ⟨w.heap.size + 1, 1, none⟩) hp6).trans c3
                have q2 := (hx.cell (p := ⟨be, oe + j, none⟩) hbe5).trans hcz5
                simp only [Act.put, List.setIfInBounds_toArray, List.set_cons_zero, List.set_cons_succ] at hK ⊢
                clear h0 h1 h2 h3 h4 h5 h6 h7
                go_wp2
                exact hK _ _ (Ext.refl _) (fun _ _ => rfl)
              · intro wr hx v0 h0 v1 h1 v2 h2 v3 h3 v4 h4 v5 h5 v6 h6 v7 h7 K hK
                have q0 := (hx.cell (p := ⟨pb, 1, none⟩) hpl).trans e1
                have q1 := (hx.cell (p := ⟨w.heap.size + 1, 1, none⟩) hp6).trans c3
                have q2 := (hx.cell (p := ⟨be, oe + j, none⟩) hbe5).trans hcz5
                simp only [Act.put, List.setIfInBounds_toArray, List.set_cons_zero, List.set_cons_succ] at hK ⊢
                obtain rfl := (h0 (by decide)).now
                clear h0 h1 h2 h3 h4 h5 h6 h7
                go_wp2
                exact hK _ _ (Ext.refl _) (fun _ _ => rfl)
              · intro wr hx v0 h0 v1 h1 v2 h2 v3 h3 v4 h4 v5 h5 v6 h6 v7 h7 K hK
                have q0 := (hx.cell (p := ⟨pb, 1, none⟩) hpl).trans e1
                have q1 := (hx.cell (p := ⟨w.heap.size + 1, 1, none⟩) hp6).trans c3
                have q2 := (hx.cell (p := ⟨be, oe + j, none⟩) hbe5).trans hcz5
                simp only [Act.put, List.setIfInBounds_toArray, List.set_cons_zero, List.set_cons_succ] at hK ⊢
                clear h0 h1 h2 h3 h4 h5 h6 h7
                go_wp2
                exact hK _ _ (Ext.refl _) (fun _ _ => rfl)
              · intro wr hx v0 h0 v1 h1 v2 h2 v3 h3 v4 h4 v5 h5 v6 h6 v7 h7 K hK
                have q0 := (hx.cell (p := ⟨pb, 1, none⟩) hpl).trans e1
                have q1 := (hx.cell (p := ⟨w.heap.size + 1, 1, none⟩) hp6).trans c3
                have q2 := (hx.cell (p := ⟨be, oe + j, none⟩) hbe5).trans hcz5
                simp only [Act.put, List.setIfInBounds_toArray, List.set_cons_zero, List.set_cons_succ] at hK ⊢
                obtain rfl := (h2 (by decide)).now
                clear h0 h1 h2 h3 h4 h5 h6 h7
                go_wp2
                exact hK _ _ (Ext.refl _) (fun _ _ => rfl)
              · intro wr hx v0 h0 v1 h1 v2 h2 v3 h3 v4 h4 v5 h5 v6 h6 v7 h7 K hK
                have q0 := (hx.cell (p := ⟨pb, 1, none⟩) hpl).trans e1
                have q1 := (hx.cell (p := ⟨w.heap.size + 1, 1, none⟩) hp6).trans c3
                have q2 := (hx.cell (p := ⟨be, oe + j, none⟩) hbe5).trans hcz5
                simp only [Act.put, List.setIfInBounds_toArray, List.set_cons_zero, List.set_cons_succ] at hK ⊢
                clear h0 h1 h2 h3 h4 h5 h6 h7
                go_wp2
                exact hK _ _ (Ext.refl _) (fun _ _ => rfl)
              · intro wr hx v0 h0 v1 h1 v2 h2 v3 h3 v4 h4 v5 h5 v6 h6 v7 h7 K hK
                have q0 := (hx.cell (p := ⟨pb, 1, none⟩) hpl).trans e1
                have q1 := (hx.cell (p := ⟨w.heap.size + 1, 1, none⟩) hp6).trans c3
                have q2 := (hx.cell (p := ⟨be, oe + j, none⟩) hbe5).trans hcz5
                simp only [Act.put, List.setIfInBounds_toArray, List.set_cons_zero, List.set_cons_succ] at hK ⊢
                obtain rfl := (h3 (by decide)).now
                obtain rfl := (h4 (by decide)).now
                clear h0 h1 h2 h3 h4 h5 h6 h7
                go_wp2
                exact hK _ _ (Ext.refl _) (fun _ _ => rfl)
              · intro wr hx v0 h0 v1 h1 v2 h2 v3 h3 v4 h4 v5 h5 v6 h6 v7 h7 K hK
                have q0 := (hx.cell (p := ⟨pb, 1, none⟩) hpl).trans e1
                have q1 := (hx.cell (p := ⟨w.heap.size + 1, 1, none⟩) hp6).trans c3
                have q2 := (hx.cell (p := ⟨be, oe + j, none⟩) hbe5).trans hcz5
                simp only [Act.put, List.setIfInBounds_toArray, List.set_cons_zero, List.set_cons_succ] at hK ⊢
                obtain rfl := (h5 (by decide)).now
                clear h0 h1 h2 h3 h4 h5 h6 h7
                go_wp2
                exact hK _ _ (Ext.refl _) (fun _ _ => rfl)
              · intro wr hx v0 h0 v1 h1 v2 h2 v3 h3 v4 h4 v5 h5 v6 h6 v7 h7 K hK
                have q0 := (hx.cell (p := ⟨pb, 1, none⟩) hpl).trans e1
                have q1 := (hx.cell (p := ⟨w.heap.size + 1, 1, none⟩) hp6).trans c3
                have q2 := (hx.cell (p := ⟨be, oe + j, none⟩) hbe5).trans hcz5
                simp only [Act.put, List.setIfInBounds_toArray, List.set_cons_zero, List.set_cons_succ] at hK ⊢
                obtain rfl := (h6 (by decide)).now
                clear h0 h1 h2 h3 h4 h5 h6 h7
                go_wp2
                exact hK _ _ (Ext.alloc _ _) (fun W hW => ⟨_, rfl, (((IS.one _ _ hq64).more (by simp)).below hW).more hW.size⟩)
              intro w8 hx v0 h0 v1 h1 v2 h2 v3 h3 v4 h4 v5 h5 v6 h6 v7 h7
              have q0 := (hx.cell (p := ⟨pb, 1, none⟩) hpl).trans e1
              have q1 := (hx.cell (p := ⟨w.heap.size + 1, 1, none⟩) hp6).trans c3
              have q2 := (hx.cell (p := ⟨be, oe + j, none⟩) hbe5).trans hcz5
              obtain rfl := h1.now
              obtain ⟨A7, rfl, is7⟩ := h7.now
              clear h0 h1 h2 h3 h4 h5 h6 h7
              refine tail_seq (by kernel_rfl) ?_
              simp only [List.drop_succ_cons, List.drop_zero, Act.put, List.setIfInBounds_toArray, List.set_cons_zero, List.set_cons_succ]
              have INV9 := Lib.hid (INV8.out.later hx)
              clear c3 e0 e1 q0 q1 q2 hx hcz5
              go_wp2_with (with_reducible show wpList _ _ _ (Oper.mk (some 69) _ _ _ _ _ :: _) _ _; go_must (refine wpList_append_is (v := .slice yA yn yc) (w0 := w2) rfl _ _ rfl rfl INV9.out.r2 rfl is7 hml.out ?_; intro v' w9 hown' hg5' hb9; obtain ⟨hbx, ⟨u0, hu0⟩, hf0⟩ := INV9.out.midq (.inr rfl) hg5' 1 (by omega); obtain ⟨xA, xn, xc, rfl⟩ := hown'.slice_))
              rw [hpb] at *
              go_roundw
              case rel => exact ⟨j + 1, by omega, by go_num, _, by rw [HF2.out]; exact INV9.out.put2q hown' hg5' hb9⟩
              case measure => simp [intOf]; omega
            · rw [decide_eq_false hyM]
              have HF2 : Hid ((xs.take (j + 1)).filter (fun e => decide ((ends es e).1 ∈ M) && decide ((ends es e).2 ∈ M)) = (xs.take j).filter (fun e => decide ((ends es e).1 ∈ M) && decide ((ends es e).2 ∈ M))) := Lib.hid (by rw [HFT.out, if_neg (by simp [hyM]), List.append_nil])
              clear hxM hyM mr d0 d1 hw5 k0 k1 f0 f1 hcz
              go_wp2
              go_roundw
              case rel => exact ⟨j + 1, by omega, by go_num, _, by rw [HF2.out]; exact INV8.out⟩
              case measure => simp [intOf]; omega
          · rw [decide_eq_false hxM]
            have HF2 : Hid ((xs.take (j + 1)).filter (fun e => decide ((ends es e).1 ∈ M) && decide ((ends es e).2 ∈ M)) = (xs.take j).filter (fun e => decide ((ends es e).1 ∈ M) && decide ((ends es e).2 ∈ M))) := Lib.hid (by rw [HFT.out, if_neg (by simp [hxM]), List.append_nil])
            clear hxM mr d0 d1 hw5 k0 k1 f0 f1 hcz
            go_wp2
            go_roundw
            case rel => exact ⟨j + 1, by omega, by go_num, _, by rw [HF2.out]; exact INV8.out⟩
            case measure => simp [intOf]; omega
        · obtain rfl : j = ne := by omega
          rw [List.take_of_length_le (by omega)] at inv
          have hrb2 : w2.heap[w1.heap.size]? = some (.cells #[.slice none 0 0, .slice none 0 0] 27 (0, 0)) := by rw [← hw2]; exact heap_alloc_new _ _
          have hrb : wr.heap[w1.heap.size]? = some (.cells #[.slice none 0 0, .slice none 0 0] 27 (0, 0)) := (inv.r2.below.block _ s2).trans hrb2
          have z0 := cell_of_row wr w1.heap.size 0 _ _ _ hrb
          have z1 := cell_of_row wr w1.heap.size 1 _ _ _ hrb
          have f0 : wr.frozen? ⟨w1.heap.size, 0, none⟩ = false := by simp [World.frozen?, hrb]
          have f1 : wr.frozen? ⟨w1.heap.size, 1, none⟩ = false := by simp [World.frozen?, hrb]
          have i1 := inv.r1.isNew
          have i2 := inv.r2.isNew
          clear inv
          go_wp2
          obtain ⟨A1, m1, d1, e1', his1, hnew1⟩ := i1
          obtain ⟨A2, m2, d2, e2', his2, hnew2⟩ := i2
          have hset : ∀ (W : World) (i : Nat) (u : Value), W.grownBy (W.setCell ⟨w1.heap.size, i, none⟩ u) (some w1.heap.size) := fun W i u => ⟨rfl, rfl, rfl, by simp [World.setCell], fun i _ hi => Below.heap_setCell _ _ _ _ (fun e => hi (by rw [e]))⟩
          have hbx : ((wr.setCell ⟨w1.heap.size, 0, none⟩ (.slice vA vn vc)).setCell ⟨w1.heap.size, 1, none⟩ (.slice yA yn yc)).heap[w1.heap.size]? = some (.cells #[.slice vA vn vc, .slice yA yn yc] 27 (0, 0)) := by
            simp [World.setCell, Array.getElem?_modify, hrb]
          try simp only [Exit.inBlock, Exit.then]
          refine bodyPost_ret (results_cell_row rfl _ _ w1.heap.size 27 #[.slice vA vn vc, .slice yA yn yc] (0, 0) _ rfl hbx Try.underlying27 rfl (by kernel_rfl)) rfl ?_
          have j1 := (his1.apart (hset wr 0 (.slice vA vn vc)) (fun a ha => by have := hnew1 a ha; omega)).apart (hset _ 1 (.slice yA yn yc)) (fun a ha => by have := hnew1 a ha; omega)
          have j2 := (his2.apart (hset wr 0 (.slice vA vn vc)) (fun a ha => by have := hnew2 a ha; omega)).apart (hset _ 1 (.slice yA yn yc)) (fun a ha => by have := hnew2 a ha; omega)
          rw [e1', e2'] at j1 j2 ⊢
          refine ⟨A1, m1, d1, A2, m2, d2, rfl, j1, j2, fun a ha => by have := hnew1 a ha; omega, fun a ha => by have := hnew2 a ha; omega, ?_⟩
          have b0 : Below w.heap.size w wr := B12.out.trans (hbel.mono (by omega))
          exact (b0.grown (hset wr 0 _) b0.size (fun k' hk' => by cases hk'; omega)).grown (hset _ 1 _) (by simp [World.setCell]; exact b0.size) (fun k' hk' => by cases hk'; omega)
end Go.Proofs.Ythobfbnopkbniaa
