/-
  The contract of ref07.Sphere, for graphs and parts of at most 60 edges; the law FaceSpheres. No other conditions.
-/
import Derived.Test.YthobfbnopkbniaaVFRefG
import Derived.Test.YthobfbnopkbniaaFaceD
namespace Go.Proofs.Ythobfbnopkbniaa
open Go.RowKit

theorem SphAns.uniq {N : Int} {es : List (Int × Int)} {vs xs : List Int} {tt : List (List Int)} {b b' : Bool} (h : SphAns N es vs xs tt b) (h' : SphAns N es vs xs tt b') : b = b' := by
  rw [Bool.eq_iff_iff]
  exact h.trans h'.symm
theorem SphAns.not {N : Int} {es : List (Int × Int)} {vs xs : List Int} {tt : List (List Int)} {b : Bool} (h : SphAns N es vs xs tt b) (hn : ¬ (pRight N es vs xs = 0 ∧ TurnOK N es xs tt)) : b = false := by
  cases b with
  | false => rfl
  | true => exact absurd ⟨(h.1 rfl).1, (h.1 rfl).2.1⟩ hn

set_option maxHeartbeats 4000000 in
set_option maxRecDepth 100000 in
theorem refSphere_any (w : World) (N : Int) (A : Option Addr) (m c : Nat) (es : List (Int × Int)) (Av : Option Addr) (nv cv : Nat) (vs : List Int) (Ae : Option Addr) (ne ce : Nat) (xs : List Int) (At : Option Addr) (nt ct : Nat) (tt : List (List Int)) (h : GP w N A m c es Av nv cv vs Ae ne ce xs) (ht : TS w w.heap.size At nt ct tt) (hm60 : m ≤ 60) (hne60 : ne ≤ 60) :
    Calls Try.prog 57 #[.agg #[.int .i64 N, .slice A m c], .agg #[.slice Av nv cv, .slice Ae ne ce], .slice At nt ct] w fun e w' => (∃ b, e = .returned (.bool b) ∧ SphAns N es vs xs tt b) ∧ Below w.heap.size w w' := by
  obtain ⟨w1, hw1, b1, gb1⟩ := box_gp w N A m c es Av nv cv Ae ne ce
  have h1 := h.step b1
  have t1 := ht.step b1
  clear h ht
  have ⟨_, _, c0, c1, c2, c3, _⟩ := gb1
  go_enter Try.func57, Try.ntmps57
  go_wp2_with fail
  refine (right6_any w1 N A m c es Av nv cv vs Ae ne ce xs At nt ct tt h1 t1 hm60 hne60).mono ?_
  rintro e w5 ⟨⟨q, rfl, hq⟩, b5⟩
  by_cases hq0 : q = 0
  · subst hq0
    have hok : pRight N es vs xs = 0 ∧ TurnOK N es xs tt := by
      rcases hq with ⟨h, h'⟩ | ⟨h, h', _⟩ | ⟨_, _, h⟩
      · exact absurd h'.symm h
      · exact ⟨h, h'⟩
      · cases h
    have h5 := h1.step b5
    have t5 := t1.step b5
    have gb5 := gb1.step b5
    replace b1 := bstep b1 b5
    clear h1 t1 gb1 b5 c0 c1 c2 c3 hw1 hq
    have ⟨_, _, c0, c1, c2, c3, _⟩ := gb5
    have HOK := Lib.hid hok
    go_wp2_with fail
    refine (refGenus_any w5 N A m c es Av nv cv vs Ae ne ce xs At nt ct tt h5 t5 (pRight_ok hok.1) hok.2).mono ?_
    rintro e w6 ⟨⟨A6, n6, c6, rfl, f, hpc, his⟩, b6⟩
    obtain ⟨gs, hgs⟩ : ∃ gs, genusOf es tt vs xs f n6 = gs := ⟨_, rfl⟩
    rw [hgs] at his
    have HPC := Lib.hid hpc
    have HGS := Lib.hid hgs
    have hn := his.le
    have hc := his.cap
    have hlen := Lib.hid his.len
    have HG := Lib.hid his
    have HB := Lib.hid (bstep b1 b6)
    have hcap6 : n6 ≤ 1024 := by
      have h1 := hpc.le
      have h4 := nodup_len (a := vs) (b := upto1 N.toNat) (sorted_nodup (pRight_ok hok.1).vp) fun x hx => mem_upto1.2 (by have := (pRight_ok hok.1).vr x hx; omega)
      rw [upto1_len] at h4
      have := (pRight_ok hok.1).size
      have := (pRight_ok hok.1).n0
      omega
    clear his hpc hgs b1 b6 h5 t5 gb5 c0 c1 c2 c3 hok
    go_wp2
    go_loop [8] (fun i => ∃ k : Nat, k ≤ n6 ∧ i = .int .i64 k ∧ Hid (∀ j, j < k → gs.getD j 0 = 0)) (fun i => n6 - (intOf i).toNat)
    case atStart => exact ⟨0, Nat.zero_le _, rfl, Lib.hid fun j hj => absurd hj (by omega)⟩
    case round =>
      obtain ⟨k, hk, rfl, hz⟩ := hrel
      by_cases hlt : k < n6
      · obtain ⟨b, o, z, rfl, hb, hgz, hz64, hcz⟩ := HG.out.get hlt
        have hk0 : (0 : Int) ≤ (k : Int) := by omega
        have hk1 : (k : Int) < (n6 : Int) := by omega
        by_cases hz0 : z = 0
        · subst hz0
          go_wp2_with fail
          go_round
          case rel =>
            refine ⟨k + 1, by omega, by go_num, Lib.hid fun j hj => ?_⟩
            rcases Nat.lt_or_ge j k with hjk | hjk
            · exact hz.out j hjk
            · obtain rfl : j = k := by omega
              exact hgz.out
          case measure => simp [intOf]; omega
        · have hzb : (z != 0) = true := by simpa [bne_iff_ne] using hz0
          have HZ := Lib.hid hz0
          clear hz0
          go_wp2_with fail
          go_ret
          have hzm : z ∈ gs := by rw [← hgz.out]; exact HG.out.mem hlt
          exact ⟨.inl ⟨rfl, fun e => (by cases e), fun hh => absurd (hh.2.2 _ _ HPC.out z (by rw [HGS.out]; exact hzm)) HZ.out⟩, HB.out⟩
      · go_wp2
        go_ret
        refine ⟨.inr ⟨rfl, fun _ => ⟨HOK.out.1, HOK.out.2, fun n' f' h' g hg => ?_⟩, fun _ => rfl⟩, HB.out⟩
        obtain ⟨rfl, rfl⟩ := HPC.out.unique h' (pRight_ok HOK.out.1)
        rw [HGS.out] at hg
        obtain ⟨j, hj, rfl⟩ := List.getElem_of_mem hg
        have := hz.out j (by have := hlen.out; omega)
        rwa [getD_idx hj] at this
  · have hqb : (q != 0) = true := by simpa [bne_iff_ne] using hq0
    have HNO : Hid (¬ (pRight N es vs xs = 0 ∧ TurnOK N es xs tt)) := Lib.hid (by
      rcases hq with ⟨h, _⟩ | ⟨_, _, h⟩ | ⟨_, h, _⟩
      · exact fun hh => h hh.1
      · exact absurd h hq0
      · exact fun hh => h hh.2)
    have HB := Lib.hid (bstep b1 b5)
    clear h1 t1 gb1 c0 c1 c2 c3 hw1 b1 b5 hq hq0
    go_wp2
    go_ret
    exact ⟨⟨false, rfl, fun e => (by cases e), fun hh => absurd ⟨hh.1, hh.2.1⟩ HNO.out⟩, HB.out⟩

set_option maxHeartbeats 8000000 in
set_option maxRecDepth 100000 in
theorem law_FaceSpheres (w : World) (N : Int) (A : Option Addr) (m c : Nat) (es : List (Int × Int)) (Av : Option Addr) (nv cv : Nat) (vs : List Int) (Ae : Option Addr) (ne ce : Nat) (xs : List Int) (At : Option Addr) (nt ct : Nat) (tt : List (List Int)) (h : GP w N A m c es Av nv cv vs Ae ne ce xs) (ht : TS w w.heap.size At nt ct tt) :
    Calls Try.prog 13 #[.agg #[.int .i64 N, .slice A m c], .agg #[.slice Av nv cv, .slice Ae ne ce], .slice At nt ct] w fun e w' => e = .returned (.bool true) ∧ Below w.heap.size w w' := by
  obtain ⟨w1, hw1, b1, gb1⟩ := box_gp w N A m c es Av nv cv Ae ne ce
  have h1 := h.step b1
  have t1 := ht.step b1
  clear h ht
  go_enter Try.func13, Try.ntmps13
  go_wp2_with fail
  refine (awakeFace w1).mono ?_
  rintro e w2 ⟨rfl, b2⟩
  have h2 := h1.step b2
  have t2 := t1.step b2
  have gb2 := gb1.step b2
  replace b1 := bstep b1 b2
  clear hw1 h1 t1 gb1 b2
  have ⟨_, _, c0, c1, c2, c3, _⟩ := gb2
  go_wp2_with fail
  refine (small6_any w2 N A m c es Av nv cv vs Ae ne ce xs At nt ct tt h2 t2).mono ?_
  rintro e w3 ⟨⟨hs, rfl⟩ | ⟨hs, rfl⟩, b3⟩
  · have h3 := h2.step b3
    have t3 := t2.step b3
    have gb3 := gb2.step b3
    replace b1 := bstep b1 b3
    clear h2 t2 gb2 b3 c0 c1 c2 c3
    have ⟨_, _, c0, c1, c2, c3, _⟩ := gb3
    have hm60 := hs.1.1
    have hne60 := hs.1.2.2.1
    clear hs
    go_wp2_with fail
    refine (genus_any w3 N A m c es Av nv cv vs Ae ne ce xs At nt ct tt h3 t3 hm60 hne60).mono ?_
    rintro e w4 ⟨⟨hp, hT, n, f, A4, c4, hpc, rfl, his⟩ | ⟨hno, rfl⟩, b4⟩
    · have h4 := h3.step b4
      have t4 := t3.step b4
      have gb4 := gb3.step b4
      replace b1 := bstep b1 b4
      have HPT := Lib.hid (And.intro hp hT)
      have HPC := Lib.hid hpc
      clear h3 t3 gb3 b4 c0 c1 c2 c3 hp hT hpc
      have ⟨_, _, c0, c1, c2, c3, _⟩ := gb4
      go_wp2_with fail
      refine (right6_any w4 N A m c es Av nv cv vs Ae ne ce xs At nt ct tt h4 t4 hm60 hne60).mono ?_
      rintro e w6 ⟨⟨q, rfl, hq⟩, b6⟩
      obtain rfl : q = 0 := by
        rcases hq with ⟨h, _⟩ | ⟨_, _, h⟩ | ⟨_, h, _⟩
        · exact absurd HPT.out.1 h
        · exact h
        · exact absurd HPT.out.2 h
      have h6 := h4.step b6
      have t6 := t4.step b6
      have gb6 := gb4.step b6
      have is6 := his.step b6
      have hn4 := is6.le
      have hc4 := is6.cap
      have H6 := Lib.hid h6
      have T6 := Lib.hid t6
      have GB6 := Lib.hid gb6
      have IS6 := Lib.hid is6
      have B1 := Lib.hid (bstep b1 b6)
      clear h4 t4 gb4 b6 c0 c1 c2 c3 hq h6 t6 gb6 is6 his b1
      go_wp2
      have ⟨hg6, hp6, d0, d1, d2, d3, _⟩ := GB6.out
      refine wp_region_rel 21 [[],[0],[0,1],[0,1,2],[0,1,2],[0,1,2],[0,1,2],[0,1,2,4,5,6],[0,1,2,3,4,5,6,7],[0,1,2,3,4,5,6,7,8],[0,1,2,3,4,5,6,7,8,9],[0,1,2,3,4,5,6,7,8,9,10],[0,1,2,3,4,5,6,7,8,9,10],[0,1,2,3,4,5,6,7,8,9,10],[0,1,2,3,4,5,6,7,8,9,10,11,12,13],[0,1,2,3,4,5,6,7,8,9,10],[0,1,2,3,4,5,6,7,8,9,10],[0,1,2,3,4,5,6,7,8,9,10],[0,1,2,3,4,5,6,7,8,9,10,11,12,13,14,15,16,17],[0,1,2,3,4,5,6,7,8,9,10,11,12,13,14,15,16,17,18],[0,1,2,3,4,5,6,7,8,9,10,11,12,13,14,15,16,17,18,19]]
        [fun x _ => x = .int .i64 0,
         fun x _ => x = .bool true,
         fun x _ => x = .bool true,
         fun x _ => x = .slice A4 n c4,
         fun x _ => x = .agg #[.int .i64 N, .slice A m c],
         fun x _ => x = .agg #[.slice Av nv cv, .slice Ae ne ce],
         fun x _ => x = .slice At nt ct,
         fun x W => ∃ A c, x = .slice A n c ∧ IS W W.heap.size A n c (genusOf es tt vs xs f n),
         fun x _ => x = .bool true,
         fun x _ => x = .bool true,
         fun x _ => x = .bool true,
         fun x _ => x = .agg #[.int .i64 N, .slice A m c],
         fun x _ => x = .agg #[.slice Av nv cv, .slice Ae ne ce],
         fun x _ => x = .slice At nt ct,
         fun x _ => ∃ b, x = .bool b ∧ SphAns N es vs xs tt b,
         fun x _ => x = .agg #[.int .i64 N, .slice A m c],
         fun x _ => x = .agg #[.slice Av nv cv, .slice Ae ne ce],
         fun x _ => x = .slice At nt ct,
         fun x _ => ∃ b, x = .bool b ∧ SphAns N es vs xs tt b,
         fun x _ => x = .bool true,
         fun x _ => x = .bool true]
        (by kernel_rfl) (by kernel_rfl) rfl ⟨?_, ?_, ?_, ?_, ?_, ?_, ?_, ?_, ?_, ?_, ?_, ?_, ?_, ?_, ?_, ?_, ?_, ?_, ?_, ?_, ?_, trivial⟩ ?_
      · intro wr hx v0 h0 v1 h1 v2 h2 v3 h3 v4 h4 v5 h5 v6 h6 v7 h7 v8 h8 v9 h9 v10 h10 v11 h11 v12 h12 v13 h13 v14 h14 v15 h15 v16 h16 v17 h17 v18 h18 v19 h19 v20 h20 K hK
        have q0 := (hx.cell (p := ⟨w.heap.size, 0, none⟩) hg6).trans d0
        have q1 := (hx.cell (p := ⟨w.heap.size, 1, none⟩) hg6).trans d1
        have q2 := (hx.cell (p := ⟨w.heap.size + 1, 0, none⟩) hp6).trans d2
        have q3 := (hx.cell (p := ⟨w.heap.size + 1, 1, none⟩) hp6).trans d3
        simp only [Act.put, List.setIfInBounds_toArray, List.set_cons_zero, List.set_cons_succ] at hK ⊢
        clear h0 h1 h2 h3 h4 h5 h6 h7 h8 h9 h10 h11 h12 h13 h14 h15 h16 h17 h18 h19 h20
        go_wp2
        exact hK _ _ (Ext.refl _) (fun _ _ => rfl)
      · intro wr hx v0 h0 v1 h1 v2 h2 v3 h3 v4 h4 v5 h5 v6 h6 v7 h7 v8 h8 v9 h9 v10 h10 v11 h11 v12 h12 v13 h13 v14 h14 v15 h15 v16 h16 v17 h17 v18 h18 v19 h19 v20 h20 K hK
        have q0 := (hx.cell (p := ⟨w.heap.size, 0, none⟩) hg6).trans d0
        have q1 := (hx.cell (p := ⟨w.heap.size, 1, none⟩) hg6).trans d1
        have q2 := (hx.cell (p := ⟨w.heap.size + 1, 0, none⟩) hp6).trans d2
        have q3 := (hx.cell (p := ⟨w.heap.size + 1, 1, none⟩) hp6).trans d3
        simp only [Act.put, List.setIfInBounds_toArray, List.set_cons_zero, List.set_cons_succ] at hK ⊢
        obtain rfl := (h0 (by decide)).now
        clear h0 h1 h2 h3 h4 h5 h6 h7 h8 h9 h10 h11 h12 h13 h14 h15 h16 h17 h18 h19 h20
        go_wp2
        exact hK _ _ (Ext.refl _) (fun _ _ => rfl)
      · intro wr hx v0 h0 v1 h1 v2 h2 v3 h3 v4 h4 v5 h5 v6 h6 v7 h7 v8 h8 v9 h9 v10 h10 v11 h11 v12 h12 v13 h13 v14 h14 v15 h15 v16 h16 v17 h17 v18 h18 v19 h19 v20 h20 K hK
        have q0 := (hx.cell (p := ⟨w.heap.size, 0, none⟩) hg6).trans d0
        have q1 := (hx.cell (p := ⟨w.heap.size, 1, none⟩) hg6).trans d1
        have q2 := (hx.cell (p := ⟨w.heap.size + 1, 0, none⟩) hp6).trans d2
        have q3 := (hx.cell (p := ⟨w.heap.size + 1, 1, none⟩) hp6).trans d3
        simp only [Act.put, List.setIfInBounds_toArray, List.set_cons_zero, List.set_cons_succ] at hK ⊢
        obtain rfl := (h1 (by decide)).now
        clear h0 h1 h2 h3 h4 h5 h6 h7 h8 h9 h10 h11 h12 h13 h14 h15 h16 h17 h18 h19 h20
        go_wp2
        exact hK _ _ (Ext.refl _) (fun _ _ => rfl)
      · intro wr hx v0 h0 v1 h1 v2 h2 v3 h3 v4 h4 v5 h5 v6 h6 v7 h7 v8 h8 v9 h9 v10 h10 v11 h11 v12 h12 v13 h13 v14 h14 v15 h15 v16 h16 v17 h17 v18 h18 v19 h19 v20 h20 K hK
        have q0 := (hx.cell (p := ⟨w.heap.size, 0, none⟩) hg6).trans d0
        have q1 := (hx.cell (p := ⟨w.heap.size, 1, none⟩) hg6).trans d1
        have q2 := (hx.cell (p := ⟨w.heap.size + 1, 0, none⟩) hp6).trans d2
        have q3 := (hx.cell (p := ⟨w.heap.size + 1, 1, none⟩) hp6).trans d3
        simp only [Act.put, List.setIfInBounds_toArray, List.set_cons_zero, List.set_cons_succ] at hK ⊢
        obtain rfl := (h2 (by decide)).now
        clear h0 h1 h2 h3 h4 h5 h6 h7 h8 h9 h10 h11 h12 h13 h14 h15 h16 h17 h18 h19 h20
        go_wp2
        exact hK _ _ (Ext.refl _) (fun _ _ => rfl)
      · intro wr hx v0 h0 v1 h1 v2 h2 v3 h3 v4 h4 v5 h5 v6 h6 v7 h7 v8 h8 v9 h9 v10 h10 v11 h11 v12 h12 v13 h13 v14 h14 v15 h15 v16 h16 v17 h17 v18 h18 v19 h19 v20 h20 K hK
        have q0 := (hx.cell (p := ⟨w.heap.size, 0, none⟩) hg6).trans d0
        have q1 := (hx.cell (p := ⟨w.heap.size, 1, none⟩) hg6).trans d1
        have q2 := (hx.cell (p := ⟨w.heap.size + 1, 0, none⟩) hp6).trans d2
        have q3 := (hx.cell (p := ⟨w.heap.size + 1, 1, none⟩) hp6).trans d3
        simp only [Act.put, List.setIfInBounds_toArray, List.set_cons_zero, List.set_cons_succ] at hK ⊢
        obtain rfl := (h2 (by decide)).now
        clear h0 h1 h2 h3 h4 h5 h6 h7 h8 h9 h10 h11 h12 h13 h14 h15 h16 h17 h18 h19 h20
        go_wp2
        exact hK _ _ (Ext.refl _) (fun _ _ => rfl)
      · intro wr hx v0 h0 v1 h1 v2 h2 v3 h3 v4 h4 v5 h5 v6 h6 v7 h7 v8 h8 v9 h9 v10 h10 v11 h11 v12 h12 v13 h13 v14 h14 v15 h15 v16 h16 v17 h17 v18 h18 v19 h19 v20 h20 K hK
        have q0 := (hx.cell (p := ⟨w.heap.size, 0, none⟩) hg6).trans d0
        have q1 := (hx.cell (p := ⟨w.heap.size, 1, none⟩) hg6).trans d1
        have q2 := (hx.cell (p := ⟨w.heap.size + 1, 0, none⟩) hp6).trans d2
        have q3 := (hx.cell (p := ⟨w.heap.size + 1, 1, none⟩) hp6).trans d3
        simp only [Act.put, List.setIfInBounds_toArray, List.set_cons_zero, List.set_cons_succ] at hK ⊢
        obtain rfl := (h2 (by decide)).now
        clear h0 h1 h2 h3 h4 h5 h6 h7 h8 h9 h10 h11 h12 h13 h14 h15 h16 h17 h18 h19 h20
        go_wp2
        exact hK _ _ (Ext.refl _) (fun _ _ => rfl)
      · intro wr hx v0 h0 v1 h1 v2 h2 v3 h3 v4 h4 v5 h5 v6 h6 v7 h7 v8 h8 v9 h9 v10 h10 v11 h11 v12 h12 v13 h13 v14 h14 v15 h15 v16 h16 v17 h17 v18 h18 v19 h19 v20 h20 K hK
        have q0 := (hx.cell (p := ⟨w.heap.size, 0, none⟩) hg6).trans d0
        have q1 := (hx.cell (p := ⟨w.heap.size, 1, none⟩) hg6).trans d1
        have q2 := (hx.cell (p := ⟨w.heap.size + 1, 0, none⟩) hp6).trans d2
        have q3 := (hx.cell (p := ⟨w.heap.size + 1, 1, none⟩) hp6).trans d3
        simp only [Act.put, List.setIfInBounds_toArray, List.set_cons_zero, List.set_cons_succ] at hK ⊢
        obtain rfl := (h2 (by decide)).now
        clear h0 h1 h2 h3 h4 h5 h6 h7 h8 h9 h10 h11 h12 h13 h14 h15 h16 h17 h18 h19 h20
        go_wp2
        exact hK _ _ (Ext.refl _) (fun _ _ => rfl)
      · intro wr hx v0 h0 v1 h1 v2 h2 v3 h3 v4 h4 v5 h5 v6 h6 v7 h7 v8 h8 v9 h9 v10 h10 v11 h11 v12 h12 v13 h13 v14 h14 v15 h15 v16 h16 v17 h17 v18 h18 v19 h19 v20 h20 K hK
        have q0 := (hx.cell (p := ⟨w.heap.size, 0, none⟩) hg6).trans d0
        have q1 := (hx.cell (p := ⟨w.heap.size, 1, none⟩) hg6).trans d1
        have q2 := (hx.cell (p := ⟨w.heap.size + 1, 0, none⟩) hp6).trans d2
        have q3 := (hx.cell (p := ⟨w.heap.size + 1, 1, none⟩) hp6).trans d3
        simp only [Act.put, List.setIfInBounds_toArray, List.set_cons_zero, List.set_cons_succ] at hK ⊢
        obtain rfl := (h2 (by decide)).now
        obtain rfl := (h4 (by decide)).now
        obtain rfl := (h5 (by decide)).now
        obtain rfl := (h6 (by decide)).now
        clear h0 h1 h2 h3 h4 h5 h6 h7 h8 h9 h10 h11 h12 h13 h14 h15 h16 h17 h18 h19 h20
        go_wp2_with fail
        refine (refGenus_any wr N A m c es Av nv cv vs Ae ne ce xs At nt ct tt (H6.out.step hx) (T6.out.step hx) (pRight_ok HPT.out.1) HPT.out.2).mono ?_
        rintro e w' ⟨⟨A, n', c, rfl, f', hpc', his'⟩, hb⟩
        obtain ⟨rfl, rfl⟩ := HPC.out.unique hpc' (pRight_ok HPT.out.1)
        go_wp2
        exact hK _ _ hb (fun W hW => ⟨A, c, rfl, his'.step hW⟩)
      · intro wr hx v0 h0 v1 h1 v2 h2 v3 h3 v4 h4 v5 h5 v6 h6 v7 h7 v8 h8 v9 h9 v10 h10 v11 h11 v12 h12 v13 h13 v14 h14 v15 h15 v16 h16 v17 h17 v18 h18 v19 h19 v20 h20 K hK
        have q0 := (hx.cell (p := ⟨w.heap.size, 0, none⟩) hg6).trans d0
        have q1 := (hx.cell (p := ⟨w.heap.size, 1, none⟩) hg6).trans d1
        have q2 := (hx.cell (p := ⟨w.heap.size + 1, 0, none⟩) hp6).trans d2
        have q3 := (hx.cell (p := ⟨w.heap.size + 1, 1, none⟩) hp6).trans d3
        simp only [Act.put, List.setIfInBounds_toArray, List.set_cons_zero, List.set_cons_succ] at hK ⊢
        obtain rfl := (h2 (by decide)).now
        obtain rfl := (h3 (by decide)).now
        obtain ⟨A7, c7, rfl, is7⟩ := (h7 (by decide)).now
        clear h0 h1 h2 h3 h4 h5 h6 h7 h8 h9 h10 h11 h12 h13 h14 h15 h16 h17 h18 h19 h20
        go_wp2_with fail
        refine (refEqual_any wr _ _ A4 A7 n c4 n c7 _ _ (IS6.out.step hx) is7).mono ?_
        rintro e w' ⟨rfl, hd⟩
        rw [decide_eq_true rfl]
        go_wp2
        exact hK _ _ (hd.below _) (fun _ _ => rfl)
      · intro wr hx v0 h0 v1 h1 v2 h2 v3 h3 v4 h4 v5 h5 v6 h6 v7 h7 v8 h8 v9 h9 v10 h10 v11 h11 v12 h12 v13 h13 v14 h14 v15 h15 v16 h16 v17 h17 v18 h18 v19 h19 v20 h20 K hK
        have q0 := (hx.cell (p := ⟨w.heap.size, 0, none⟩) hg6).trans d0
        have q1 := (hx.cell (p := ⟨w.heap.size, 1, none⟩) hg6).trans d1
        have q2 := (hx.cell (p := ⟨w.heap.size + 1, 0, none⟩) hp6).trans d2
        have q3 := (hx.cell (p := ⟨w.heap.size + 1, 1, none⟩) hp6).trans d3
        simp only [Act.put, List.setIfInBounds_toArray, List.set_cons_zero, List.set_cons_succ] at hK ⊢
        obtain rfl := (h2 (by decide)).now
        obtain rfl := (h8 (by decide)).now
        clear h0 h1 h2 h3 h4 h5 h6 h7 h8 h9 h10 h11 h12 h13 h14 h15 h16 h17 h18 h19 h20
        go_wp2
        exact hK _ _ (Ext.refl _) (fun _ _ => rfl)
      · intro wr hx v0 h0 v1 h1 v2 h2 v3 h3 v4 h4 v5 h5 v6 h6 v7 h7 v8 h8 v9 h9 v10 h10 v11 h11 v12 h12 v13 h13 v14 h14 v15 h15 v16 h16 v17 h17 v18 h18 v19 h19 v20 h20 K hK
        have q0 := (hx.cell (p := ⟨w.heap.size, 0, none⟩) hg6).trans d0
        have q1 := (hx.cell (p := ⟨w.heap.size, 1, none⟩) hg6).trans d1
        have q2 := (hx.cell (p := ⟨w.heap.size + 1, 0, none⟩) hp6).trans d2
        have q3 := (hx.cell (p := ⟨w.heap.size + 1, 1, none⟩) hp6).trans d3
        simp only [Act.put, List.setIfInBounds_toArray, List.set_cons_zero, List.set_cons_succ] at hK ⊢
        obtain rfl := (h9 (by decide)).now
        clear h0 h1 h2 h3 h4 h5 h6 h7 h8 h9 h10 h11 h12 h13 h14 h15 h16 h17 h18 h19 h20
        go_wp2
        exact hK _ _ (Ext.refl _) (fun _ _ => rfl)
      · intro wr hx v0 h0 v1 h1 v2 h2 v3 h3 v4 h4 v5 h5 v6 h6 v7 h7 v8 h8 v9 h9 v10 h10 v11 h11 v12 h12 v13 h13 v14 h14 v15 h15 v16 h16 v17 h17 v18 h18 v19 h19 v20 h20 K hK
        have q0 := (hx.cell (p := ⟨w.heap.size, 0, none⟩) hg6).trans d0
        have q1 := (hx.cell (p := ⟨w.heap.size, 1, none⟩) hg6).trans d1
        have q2 := (hx.cell (p := ⟨w.heap.size + 1, 0, none⟩) hp6).trans d2
        have q3 := (hx.cell (p := ⟨w.heap.size + 1, 1, none⟩) hp6).trans d3
        simp only [Act.put, List.setIfInBounds_toArray, List.set_cons_zero, List.set_cons_succ] at hK ⊢
        obtain rfl := (h10 (by decide)).now
        clear h0 h1 h2 h3 h4 h5 h6 h7 h8 h9 h10 h11 h12 h13 h14 h15 h16 h17 h18 h19 h20
        go_wp2
        exact hK _ _ (Ext.refl _) (fun _ _ => rfl)
      · intro wr hx v0 h0 v1 h1 v2 h2 v3 h3 v4 h4 v5 h5 v6 h6 v7 h7 v8 h8 v9 h9 v10 h10 v11 h11 v12 h12 v13 h13 v14 h14 v15 h15 v16 h16 v17 h17 v18 h18 v19 h19 v20 h20 K hK
        have q0 := (hx.cell (p := ⟨w.heap.size, 0, none⟩) hg6).trans d0
        have q1 := (hx.cell (p := ⟨w.heap.size, 1, none⟩) hg6).trans d1
        have q2 := (hx.cell (p := ⟨w.heap.size + 1, 0, none⟩) hp6).trans d2
        have q3 := (hx.cell (p := ⟨w.heap.size + 1, 1, none⟩) hp6).trans d3
        simp only [Act.put, List.setIfInBounds_toArray, List.set_cons_zero, List.set_cons_succ] at hK ⊢
        obtain rfl := (h10 (by decide)).now
        clear h0 h1 h2 h3 h4 h5 h6 h7 h8 h9 h10 h11 h12 h13 h14 h15 h16 h17 h18 h19 h20
        go_wp2
        exact hK _ _ (Ext.refl _) (fun _ _ => rfl)
      · intro wr hx v0 h0 v1 h1 v2 h2 v3 h3 v4 h4 v5 h5 v6 h6 v7 h7 v8 h8 v9 h9 v10 h10 v11 h11 v12 h12 v13 h13 v14 h14 v15 h15 v16 h16 v17 h17 v18 h18 v19 h19 v20 h20 K hK
        have q0 := (hx.cell (p := ⟨w.heap.size, 0, none⟩) hg6).trans d0
        have q1 := (hx.cell (p := ⟨w.heap.size, 1, none⟩) hg6).trans d1
        have q2 := (hx.cell (p := ⟨w.heap.size + 1, 0, none⟩) hp6).trans d2
        have q3 := (hx.cell (p := ⟨w.heap.size + 1, 1, none⟩) hp6).trans d3
        simp only [Act.put, List.setIfInBounds_toArray, List.set_cons_zero, List.set_cons_succ] at hK ⊢
        obtain rfl := (h10 (by decide)).now
        clear h0 h1 h2 h3 h4 h5 h6 h7 h8 h9 h10 h11 h12 h13 h14 h15 h16 h17 h18 h19 h20
        go_wp2
        exact hK _ _ (Ext.refl _) (fun _ _ => rfl)
      · intro wr hx v0 h0 v1 h1 v2 h2 v3 h3 v4 h4 v5 h5 v6 h6 v7 h7 v8 h8 v9 h9 v10 h10 v11 h11 v12 h12 v13 h13 v14 h14 v15 h15 v16 h16 v17 h17 v18 h18 v19 h19 v20 h20 K hK
        have q0 := (hx.cell (p := ⟨w.heap.size, 0, none⟩) hg6).trans d0
        have q1 := (hx.cell (p := ⟨w.heap.size, 1, none⟩) hg6).trans d1
        have q2 := (hx.cell (p := ⟨w.heap.size + 1, 0, none⟩) hp6).trans d2
        have q3 := (hx.cell (p := ⟨w.heap.size + 1, 1, none⟩) hp6).trans d3
        simp only [Act.put, List.setIfInBounds_toArray, List.set_cons_zero, List.set_cons_succ] at hK ⊢
        obtain rfl := (h10 (by decide)).now
        obtain rfl := (h11 (by decide)).now
        obtain rfl := (h12 (by decide)).now
        obtain rfl := (h13 (by decide)).now
        clear h0 h1 h2 h3 h4 h5 h6 h7 h8 h9 h10 h11 h12 h13 h14 h15 h16 h17 h18 h19 h20
        go_wp2_with fail
        refine (sphere_any wr N A m c es Av nv cv vs Ae ne ce xs At nt ct tt (H6.out.step hx) (T6.out.step hx) hm60 hne60).mono ?_
        rintro e w' ⟨⟨b, rfl, hS⟩, hb⟩
        go_wp2
        exact hK _ _ hb (fun _ _ => ⟨b, rfl, hS⟩)
      · intro wr hx v0 h0 v1 h1 v2 h2 v3 h3 v4 h4 v5 h5 v6 h6 v7 h7 v8 h8 v9 h9 v10 h10 v11 h11 v12 h12 v13 h13 v14 h14 v15 h15 v16 h16 v17 h17 v18 h18 v19 h19 v20 h20 K hK
        have q0 := (hx.cell (p := ⟨w.heap.size, 0, none⟩) hg6).trans d0
        have q1 := (hx.cell (p := ⟨w.heap.size, 1, none⟩) hg6).trans d1
        have q2 := (hx.cell (p := ⟨w.heap.size + 1, 0, none⟩) hp6).trans d2
        have q3 := (hx.cell (p := ⟨w.heap.size + 1, 1, none⟩) hp6).trans d3
        simp only [Act.put, List.setIfInBounds_toArray, List.set_cons_zero, List.set_cons_succ] at hK ⊢
        obtain rfl := (h10 (by decide)).now
        clear h0 h1 h2 h3 h4 h5 h6 h7 h8 h9 h10 h11 h12 h13 h14 h15 h16 h17 h18 h19 h20
        go_wp2
        exact hK _ _ (Ext.refl _) (fun _ _ => rfl)
      · intro wr hx v0 h0 v1 h1 v2 h2 v3 h3 v4 h4 v5 h5 v6 h6 v7 h7 v8 h8 v9 h9 v10 h10 v11 h11 v12 h12 v13 h13 v14 h14 v15 h15 v16 h16 v17 h17 v18 h18 v19 h19 v20 h20 K hK
        have q0 := (hx.cell (p := ⟨w.heap.size, 0, none⟩) hg6).trans d0
        have q1 := (hx.cell (p := ⟨w.heap.size, 1, none⟩) hg6).trans d1
        have q2 := (hx.cell (p := ⟨w.heap.size + 1, 0, none⟩) hp6).trans d2
        have q3 := (hx.cell (p := ⟨w.heap.size + 1, 1, none⟩) hp6).trans d3
        simp only [Act.put, List.setIfInBounds_toArray, List.set_cons_zero, List.set_cons_succ] at hK ⊢
        obtain rfl := (h10 (by decide)).now
        clear h0 h1 h2 h3 h4 h5 h6 h7 h8 h9 h10 h11 h12 h13 h14 h15 h16 h17 h18 h19 h20
        go_wp2
        exact hK _ _ (Ext.refl _) (fun _ _ => rfl)
      · intro wr hx v0 h0 v1 h1 v2 h2 v3 h3 v4 h4 v5 h5 v6 h6 v7 h7 v8 h8 v9 h9 v10 h10 v11 h11 v12 h12 v13 h13 v14 h14 v15 h15 v16 h16 v17 h17 v18 h18 v19 h19 v20 h20 K hK
        have q0 := (hx.cell (p := ⟨w.heap.size, 0, none⟩) hg6).trans d0
        have q1 := (hx.cell (p := ⟨w.heap.size, 1, none⟩) hg6).trans d1
        have q2 := (hx.cell (p := ⟨w.heap.size + 1, 0, none⟩) hp6).trans d2
        have q3 := (hx.cell (p := ⟨w.heap.size + 1, 1, none⟩) hp6).trans d3
        simp only [Act.put, List.setIfInBounds_toArray, List.set_cons_zero, List.set_cons_succ] at hK ⊢
        obtain rfl := (h10 (by decide)).now
        clear h0 h1 h2 h3 h4 h5 h6 h7 h8 h9 h10 h11 h12 h13 h14 h15 h16 h17 h18 h19 h20
        go_wp2
        exact hK _ _ (Ext.refl _) (fun _ _ => rfl)
      · intro wr hx v0 h0 v1 h1 v2 h2 v3 h3 v4 h4 v5 h5 v6 h6 v7 h7 v8 h8 v9 h9 v10 h10 v11 h11 v12 h12 v13 h13 v14 h14 v15 h15 v16 h16 v17 h17 v18 h18 v19 h19 v20 h20 K hK
        have q0 := (hx.cell (p := ⟨w.heap.size, 0, none⟩) hg6).trans d0
        have q1 := (hx.cell (p := ⟨w.heap.size, 1, none⟩) hg6).trans d1
        have q2 := (hx.cell (p := ⟨w.heap.size + 1, 0, none⟩) hp6).trans d2
        have q3 := (hx.cell (p := ⟨w.heap.size + 1, 1, none⟩) hp6).trans d3
        simp only [Act.put, List.setIfInBounds_toArray, List.set_cons_zero, List.set_cons_succ] at hK ⊢
        obtain rfl := (h10 (by decide)).now
        obtain rfl := (h15 (by decide)).now
        obtain rfl := (h16 (by decide)).now
        obtain rfl := (h17 (by decide)).now
        clear h0 h1 h2 h3 h4 h5 h6 h7 h8 h9 h10 h11 h12 h13 h14 h15 h16 h17 h18 h19 h20
        go_wp2_with fail
        refine (refSphere_any wr N A m c es Av nv cv vs Ae ne ce xs At nt ct tt (H6.out.step hx) (T6.out.step hx) hm60 hne60).mono ?_
        rintro e w' ⟨⟨b, rfl, hS⟩, hb⟩
        go_wp2
        exact hK _ _ hb (fun _ _ => ⟨b, rfl, hS⟩)
      · intro wr hx v0 h0 v1 h1 v2 h2 v3 h3 v4 h4 v5 h5 v6 h6 v7 h7 v8 h8 v9 h9 v10 h10 v11 h11 v12 h12 v13 h13 v14 h14 v15 h15 v16 h16 v17 h17 v18 h18 v19 h19 v20 h20 K hK
        have q0 := (hx.cell (p := ⟨w.heap.size, 0, none⟩) hg6).trans d0
        have q1 := (hx.cell (p := ⟨w.heap.size, 1, none⟩) hg6).trans d1
        have q2 := (hx.cell (p := ⟨w.heap.size + 1, 0, none⟩) hp6).trans d2
        have q3 := (hx.cell (p := ⟨w.heap.size + 1, 1, none⟩) hp6).trans d3
        simp only [Act.put, List.setIfInBounds_toArray, List.set_cons_zero, List.set_cons_succ] at hK ⊢
        obtain rfl := (h10 (by decide)).now
        obtain ⟨b1, rfl, s1⟩ := (h14 (by decide)).now
        obtain ⟨b2, rfl, s2⟩ := (h18 (by decide)).now
        clear h0 h1 h2 h3 h4 h5 h6 h7 h8 h9 h10 h11 h12 h13 h14 h15 h16 h17 h18 h19 h20
        obtain rfl := s1.uniq s2
        clear s1 s2
        go_wp2
        exact hK _ _ (Ext.refl _) (fun _ _ => by simp)
      · intro wr hx v0 h0 v1 h1 v2 h2 v3 h3 v4 h4 v5 h5 v6 h6 v7 h7 v8 h8 v9 h9 v10 h10 v11 h11 v12 h12 v13 h13 v14 h14 v15 h15 v16 h16 v17 h17 v18 h18 v19 h19 v20 h20 K hK
        have q0 := (hx.cell (p := ⟨w.heap.size, 0, none⟩) hg6).trans d0
        have q1 := (hx.cell (p := ⟨w.heap.size, 1, none⟩) hg6).trans d1
        have q2 := (hx.cell (p := ⟨w.heap.size + 1, 0, none⟩) hp6).trans d2
        have q3 := (hx.cell (p := ⟨w.heap.size + 1, 1, none⟩) hp6).trans d3
        simp only [Act.put, List.setIfInBounds_toArray, List.set_cons_zero, List.set_cons_succ] at hK ⊢
        obtain rfl := (h10 (by decide)).now
        obtain rfl := (h19 (by decide)).now
        clear h0 h1 h2 h3 h4 h5 h6 h7 h8 h9 h10 h11 h12 h13 h14 h15 h16 h17 h18 h19 h20
        go_wp2
        exact hK _ _ (Ext.refl _) (fun _ _ => rfl)
      intro w8 hx v0 h0 v1 h1 v2 h2 v3 h3 v4 h4 v5 h5 v6 h6 v7 h7 v8 h8 v9 h9 v10 h10 v11 h11 v12 h12 v13 h13 v14 h14 v15 h15 v16 h16 v17 h17 v18 h18 v19 h19 v20 h20
      have q0 := (hx.cell (p := ⟨w.heap.size, 0, none⟩) hg6).trans d0
      have q1 := (hx.cell (p := ⟨w.heap.size, 1, none⟩) hg6).trans d1
      have q2 := (hx.cell (p := ⟨w.heap.size + 1, 0, none⟩) hp6).trans d2
      have q3 := (hx.cell (p := ⟨w.heap.size + 1, 1, none⟩) hp6).trans d3
      obtain rfl := h20.now
      clear h0 h1 h2 h3 h4 h5 h6 h7 h8 h9 h10 h11 h12 h13 h14 h15 h16 h17 h18 h19 h20
      refine tail_quiet (by kernel_rfl) ?_
      simp only [List.drop_succ_cons, List.drop_zero, Act.put, List.setIfInBounds_toArray, List.set_cons_zero, List.set_cons_succ]
      repeat (go_big_quiet_step (fail))
      refine wpQuiet_nil ?_
      have HB8 := Lib.hid (B1.out.trans (hx.mono B1.out.size))
      clear hx d0 d1 d2 d3
      go_wp2
      go_ret
      exact ⟨rfl, HB8.out⟩
    · have h4 := h3.step b4
      have t4 := t3.step b4
      have gb4 := gb3.step b4
      replace b1 := bstep b1 b4
      clear h3 t3 gb3 b4 c0 c1 c2 c3
      have ⟨_, _, c0, c1, c2, c3, _⟩ := gb4
      obtain ⟨q, hq⟩ : ∃ q, (if pRight N es vs xs = 0 then 5 else pRight N es vs xs) = q := ⟨_, rfl⟩
      rw [hq]
      go_wp2_with fail
      refine (right6_any w4 N A m c es Av nv cv vs Ae ne ce xs At nt ct tt h4 t4 hm60 hne60).mono ?_
      rintro e w6 ⟨⟨q', rfl, hq'⟩, b6⟩
      obtain ⟨hqq, hq0⟩ : q' = q ∧ q ≠ 0 := by
        rcases hq' with ⟨h, h'⟩ | ⟨h, h', _⟩ | ⟨h, _, h'⟩
        · rw [if_neg h] at hq
          exact ⟨h'.trans hq, by rw [← hq]; exact h⟩
        · exact absurd ⟨h, h'⟩ hno
        · rw [if_pos h] at hq
          exact ⟨h'.trans hq, by rw [← hq]; decide⟩
      subst hqq
      have hqb : (q' != 0) = true := by simpa [bne_iff_ne] using hq0
      have h6 := h4.step b6
      have t6 := t4.step b6
      have gb6 := gb4.step b6
      replace b1 := bstep b1 b6
      have HNO := Lib.hid hno
      clear h4 t4 gb4 b6 c0 c1 c2 c3 hq hq' hno hq0
      have ⟨_, _, c0, c1, c2, c3, _⟩ := gb6
      go_wp2_with fail
      refine (sphere_any w6 N A m c es Av nv cv vs Ae ne ce xs At nt ct tt h6 t6 hm60 hne60).mono ?_
      rintro e w7 ⟨⟨b, rfl, hS⟩, b7⟩
      obtain rfl := hS.not HNO.out
      have B1 := Lib.hid (bstep b1 b7)
      clear h6 t6 gb6 b7 c0 c1 c2 c3 hS b1
      go_wp2
      go_ret
      exact ⟨rfl, B1.out⟩
  · have B1 := Lib.hid (bstep b1 b3)
    clear b1 b3 h2 t2 gb2 c0 c1 c2 c3 hs
    go_wp2_with fail
    refine (awakeFace w3).mono ?_
    rintro e w4 ⟨rfl, b4⟩
    have B2 := Lib.hid (bstep B1.out b4)
    clear b4
    go_wp2_with fail
    go_ret
    exact ⟨rfl, B2.out⟩
end Go.Proofs.Ythobfbnopkbniaa
