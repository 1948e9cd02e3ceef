/-
  The contracts of ref07.Corner and ref07.Genus. No conditions on the program.
-/
import Derived.Test.YthobfbnopkbniaaVFRefPc
import Derived.Test.YthobfbnopkbniaaVFRefW
import Derived.Test.YthobfbnopkbniaaFaceD
import Derived.Test.YthobfbnopkbniaaVFOnceP
namespace Go.Proofs.Ythobfbnopkbniaa
open Go.RowKit

set_option maxHeartbeats 4000000 in
set_option maxRecDepth 100000 in
theorem corner_any (w : World) (N : Int) (A : Option Addr) (m c : Nat) (es : List (Int × Int)) (y : Int) (Ad : Option Addr) (nd cd : Nat) (hg : ES w w.heap.size A m c es) (h0 : -2000 ≤ y) (h1 : 0 ≤ y → y < 2 * (m : Int)) :
    Calls Try.prog 81 #[.agg #[.int .i64 N, .slice A m c], .agg #[.int .i64 y, .slice Ad nd cd]] w fun e w' => e = .returned (.int .i64 (if y < 0 then -1 - y else tail es y)) ∧ Below w.heap.size w w' := by
  obtain ⟨w1, hw1, b1, hs1, hcell⟩ := box_one w #[.int .i64 N, .slice A m c] 24
  obtain ⟨w2, hw2, b2, hs2, hcell2⟩ := box_one w1 #[.int .i64 y, .slice Ad nd cd] 83
  have c0 := (b2.cell (p := ⟨w.heap.size, 0, none⟩) hs1).trans (hcell 0)
  have c1 := (b2.cell (p := ⟨w.heap.size, 1, none⟩) hs1).trans (hcell 1)
  have d0 := hcell2 0
  have d1 := hcell2 1
  have hg2 := (hg.step b1).step b2
  have B2 := Lib.hid (bstep b1 b2)
  clear hcell hcell2 hg b1 b2
  go_enter Try.func81, Try.ntmps81
  by_cases hy : y < 0
  · rw [if_pos hy]
    have hd : decide (y < 0) = true := decide_eq_true hy
    have hwr : IntKind.i64.wrap (-1 - y) = -1 - y := IntWalk.i64_in _ (by omega)
    clear hg2
    go_wp2
    go_ret
    exact ⟨rfl, B2.out⟩
  · rw [if_neg hy]
    have hd : decide (y < 0) = false := decide_eq_false hy
    have hm := hg2.le
    have hc := hg2.cap
    go_wp2_with fail
    refine (refTail_any w2 _ N A m c es y hg2 (Nat.le_refl _) (by omega) (h1 (by omega))).mono ?_
    rintro e w3 ⟨rfl, b3⟩
    have B3 := Lib.hid (bstep B2.out b3)
    clear b3
    go_wp2
    go_ret
    exact ⟨rfl, B3.out⟩

theorem corner_is {N : Int} {es : List (Int × Int)} {vs xs : List Int} {tt : List (List Int)} (hp : POK N es vs xs) {p : Int × List Int} (h : p ∈ walksOf es tt vs xs) : (if p.1 < 0 then -1 - p.1 else tail es p.1) = cornerOf es p ∧ -2000 ≤ p.1 ∧ (0 ≤ p.1 → p.1 < 2 * (es.length : Int)) := by
  obtain ⟨h1, h2, _⟩ := walks_corner hp h
  have hs := hp.size
  unfold cornerOf
  by_cases he : p.2 = []
  · obtain ⟨v, hv, e⟩ := h1 he
    have := hp.vr v hv
    rw [if_pos he, if_pos (by omega)]
    exact ⟨rfl, by omega, fun _ => by omega⟩
  · have := hp.xr _ (h2 he)
    rw [if_neg he, if_neg (by omega)]
    exact ⟨rfl, by omega, fun _ => by omega⟩
theorem faceCnt_next {es : List (Int × Int)} {f : Int → Option Int} {L : List (Int × List Int)} {k j : Nat} {p : Int × List Int} (hk : k < L.length) (hpk : L.getD k (0, []) = p) : (faceCnt es f (L.take (k + 1)) j : Int) = (faceCnt es f (L.take k) j : Int) + if f (cornerOf es p) = some (j : Int) then 1 else 0 := by
  have ht : L.take (k + 1) = L.take k ++ [p] := by
    rw [List.take_add_one, List.getElem?_eq_getElem hk]
    rw [List.getD_eq_getElem?_getD, List.getElem?_eq_getElem hk] at hpk
    rw [← hpk]
    rfl
  unfold faceCnt
  rw [ht, List.filter_append, List.length_append]
  by_cases h : f (cornerOf es p) = some (j : Int)
  · rw [if_pos h]
    simp [h]
  · rw [if_neg h]
    simp [h]

set_option maxHeartbeats 8000000 in
set_option maxRecDepth 100000 in
theorem refGenus_any (w : World) (N : Int) (A : Option Addr) (m c : Nat) (es : List (Int × Int)) (Av : Option Addr) (nv cv : Nat) (vs : List Int) (Ae : Option Addr) (ne ce : Nat) (xs : List Int) (At : Option Addr) (nt ct : Nat) (tt : List (List Int)) (h : GP w N A m c es Av nv cv vs Ae ne ce xs) (ht : TS w w.heap.size At nt ct tt) (hp : POK N es vs xs) (hT : TurnOK N es xs tt) :
    Calls Try.prog 56 #[.agg #[.int .i64 N, .slice A m c], .agg #[.slice Av nv cv, .slice Ae ne ce], .slice At nt ct] w fun e w' => (∃ A n c, e = .returned (.slice A n c) ∧ ∃ f, PcI es xs vs vs n f ∧ IS w' w'.heap.size A n c (genusOf es tt vs xs f n)) ∧ Below w.heap.size w w' := by
  obtain ⟨w1, hw1, b1, gb1⟩ := box_gp w N A m c es Av nv cv Ae ne ce
  have h1 := h.step b1
  have t1 := ht.step b1
  clear h ht
  have ⟨_, _, c0, c1, c2, c3, _⟩ := gb1
  go_enter Try.func56, Try.ntmps56
  go_wp2_with fail
  refine (refWalks_any w1 N A m c es Av nv cv vs Ae ne ce xs At nt ct tt h1 t1 hp hT).mono ?_
  rintro e w5 ⟨AL, nL, cL, rfl, hL, b5⟩
  have h5 := h1.step b5
  have gb5 := gb1.step b5
  replace b1 := bstep b1 b5
  clear h1 t1 gb1 b5 c0 c1 c2 c3 hw1
  have ⟨_, _, c0, c1, c2, c3, _⟩ := gb5
  go_wp2_with fail
  refine (refPieces_any w5 N A m c es Av nv cv vs Ae ne ce xs h5 hp).mono ?_
  rintro e w6 ⟨⟨Ap, n, cp, rfl, F, hps, f, hpc, hfl⟩, b6⟩
  have h6 := h5.step b6
  have gb6 := gb5.step b6
  have hL6 := hL.step b6
  replace b1 := bstep b1 b6
  obtain ⟨L, hLe⟩ : ∃ L, walksOf es tt vs xs = L := ⟨_, rfl⟩
  rw [hLe] at hL6
  have HLE := Lib.hid hLe
  have HP := Lib.hid hp
  have HPC := Lib.hid hpc
  have HFL := Lib.hid hfl
  have HPS := Lib.hid hps
  have HL6 := Lib.hid hL6
  have H6 := Lib.hid h6
  have GB6 := Lib.hid gb6
  have B1 := Lib.hid b1
  have hnp := hps.1
  have hcp := hps.2.1
  have hnL := hL6.le
  have hcL := hL6.cap
  have hvl1024 : vs.length ≤ 1024 := by
    have h4 := nodup_len (a := vs) (b := upto1 N.toNat) (sorted_nodup hp.vp) fun x hx => mem_upto1.2 (by have := hp.vr x hx; omega)
    rw [upto1_len] at h4
    have := hp.size
    have := hp.n0
    omega
  have hxl1024 : xs.length ≤ 1024 := by have h5 := nodup_len (a := xs) (b := upto1 es.length) (sorted_nodup hp.xp) fun x hx => mem_upto1.2 (hp.xr x hx); rw [upto1_len] at h5; have := hp.size; have := hp.n0; omega
  have hn1024 : n ≤ 1024 := by have := hpc.le; omega
  have hnL4 : nL ≤ 4096 := by
    have := walks_len (tt := tt) hp
    rw [hLe] at this
    have := hL6.len
    omega
  clear h5 gb5 hL b6 c0 c1 c2 c3 hLe hpc hfl hps hL6 h6 gb6 b1 hp hT
  go_wp2
  have hst : Own w6 w6 (.slice none 0 0) ((List.range 0).map (genusAt es vs xs f L)) := Own.start w6
  go_loopw [9, 10] (fun v i wr => ∃ t : Nat, t ≤ n ∧ i = .int .i64 t ∧ Own w6 wr v ((List.range t).map (genusAt es vs xs f L))) (fun _ i _ => n - (intOf i).toNat)
  case atStart => exact ⟨0, Nat.zero_le _, rfl, hst⟩
  case round =>
    clear hst
    obtain ⟨j, ht, rfl, hown⟩ := hrel
    obtain ⟨oA, on, oc, rfl⟩ := hown.slice_
    have hbz := hown.below
    by_cases hlt : j < n
    · obtain ⟨bp, op, A1, n1, k1, A2, n2, k2, rfl, hbp, hc1, hc2, is1, is2⟩ := HPS.out.getB hbz hlt
      have hc1' : w6.cell? ⟨bp, op + j * 2, none⟩ = some (.slice A1 n1 k1) := (hbz.cell (p := ⟨bp, op + j * 2, none⟩) hbp).symm.trans hc1
      obtain ⟨hf1, hf2⟩ := HFL.out j hlt
      have l1 := is1.le
      have cap1 := is1.cap
      have l2 := is2.le
      have cap2 := is2.cap
      have hle1 := is1.len
      have hle2 := is2.len
      rw [hf1] at hle1
      rw [hf2] at hle2
      have hn1 : n1 ≤ 1024 := by have := List.length_filter_le (fun x => f x == some (j : Int)) vs; omega
      have hn2 : n2 ≤ 1024 := by have := List.length_filter_le (fun e => f (ends es e).1 == some (j : Int)) xs; omega
      have HG1 : Hid (genusAt es vs xs f L j = Int.tdiv (2 - (n1 : Int) + (n2 : Int) - (faceCnt es f L j : Int)) 2) := Lib.hid (by unfold genusAt; rw [hle1, hle2])
      have hbpr : bp < wr.heap.size := Nat.lt_of_lt_of_le hbp hbz.size
      have IS1 := Lib.hid is1
      have HF1 := Lib.hid hf1
      have HOWN := Lib.hid hown
      have HC1 := Lib.hid hc1'
      have HB := Lib.hid hbz
      have hj0 : (0 : Int) ≤ (j : Int) := by omega
      have hj1 : (j : Int) < (n : Int) := by omega
      clear is1 is2 hle1 hle2 hf1 hf2 hown hc1' hbz
      go_wp2
      refine wp_region_rel 14 [[],[],[0,1],[0,1,2],[0,1,2,3],[0,1,2,3,4],[0,1,2,3,4,5],[],[],[7,8],[7,8,9],[7,8,9,10],[7,8,9,10,11],[0,1,2,3,4,5,6,7,8,9,10,11,12]]
        [fun x _ => x = .slice (some ⟨bp, op, none⟩) n cp,
         fun x _ => x = .int .i64 j,
         fun x _ => x = .pointer (some ⟨bp, op + j * 2, none⟩),
         fun x _ => x = .pointer (some ⟨bp, op + j * 2, none⟩),
         fun x _ => x = .slice A1 n1 k1,
         fun x _ => x = .int .i64 n1,
         fun x _ => x = .int .i64 (2 - (n1 : Int)),
         fun x _ => x = .slice (some ⟨bp, op, none⟩) n cp,
         fun x _ => x = .int .i64 j,
         fun x _ => x = .pointer (some ⟨bp, op + j * 2, none⟩),
         fun x _ => x = .pointer (some ⟨bp, op + j * 2 + 1, none⟩),
         fun x _ => x = .slice A2 n2 k2,
         fun x _ => x = .int .i64 n2,
         fun x _ => x = .int .i64 (2 - (n1 : Int) + (n2 : Int))]
        (by kernel_rfl) (by kernel_rfl) rfl ⟨?_, ?_, ?_, ?_, ?_, ?_, ?_, ?_, ?_, ?_, ?_, ?_, ?_, ?_, trivial⟩ ?_
      · intro wr hx v0 h0 v1 h1 v2 h2 v3 h3 v4 h4 v5 h5 v6 h6 v7 h7 v8 h8 v9 h9 v10 h10 v11 h11 v12 h12 v13 h13 K hK
        have p0 := (hx.cell (p := ⟨bp, op + j * 2, none⟩) hbpr).trans hc1
        have p1 := (hx.cell (p := ⟨bp, op + j * 2 + 1, none⟩) hbpr).trans hc2
        simp only [Act.put, List.setIfInBounds_toArray, List.set_cons_zero, List.set_cons_succ] at hK ⊢
        clear h0 h1 h2 h3 h4 h5 h6 h7 h8 h9 h10 h11 h12 h13
        go_wp2
        exact hK _ _ (Ext.refl _) (fun _ _ => rfl)
      · intro wr hx v0 h0 v1 h1 v2 h2 v3 h3 v4 h4 v5 h5 v6 h6 v7 h7 v8 h8 v9 h9 v10 h10 v11 h11 v12 h12 v13 h13 K hK
        have p0 := (hx.cell (p := ⟨bp, op + j * 2, none⟩) hbpr).trans hc1
        have p1 := (hx.cell (p := ⟨bp, op + j * 2 + 1, none⟩) hbpr).trans hc2
        simp only [Act.put, List.setIfInBounds_toArray, List.set_cons_zero, List.set_cons_succ] at hK ⊢
        clear h0 h1 h2 h3 h4 h5 h6 h7 h8 h9 h10 h11 h12 h13
        go_wp2
        exact hK _ _ (Ext.refl _) (fun _ _ => rfl)
      · intro wr hx v0 h0 v1 h1 v2 h2 v3 h3 v4 h4 v5 h5 v6 h6 v7 h7 v8 h8 v9 h9 v10 h10 v11 h11 v12 h12 v13 h13 K hK
        have p0 := (hx.cell (p := ⟨bp, op + j * 2, none⟩) hbpr).trans hc1
        have p1 := (hx.cell (p := ⟨bp, op + j * 2 + 1, none⟩) hbpr).trans hc2
        simp only [Act.put, List.setIfInBounds_toArray, List.set_cons_zero, List.set_cons_succ] at hK ⊢
        obtain rfl := (h0 (by decide)).now
        obtain rfl := (h1 (by decide)).now
        clear h0 h1 h2 h3 h4 h5 h6 h7 h8 h9 h10 h11 h12 h13
        go_wp2
        exact hK _ _ (Ext.refl _) (fun _ _ => rfl)
      · intro wr hx v0 h0 v1 h1 v2 h2 v3 h3 v4 h4 v5 h5 v6 h6 v7 h7 v8 h8 v9 h9 v10 h10 v11 h11 v12 h12 v13 h13 K hK
        have p0 := (hx.cell (p := ⟨bp, op + j * 2, none⟩) hbpr).trans hc1
        have p1 := (hx.cell (p := ⟨bp, op + j * 2 + 1, none⟩) hbpr).trans hc2
        simp only [Act.put, List.setIfInBounds_toArray, List.set_cons_zero, List.set_cons_succ] at hK ⊢
        obtain rfl := (h2 (by decide)).now
        clear h0 h1 h2 h3 h4 h5 h6 h7 h8 h9 h10 h11 h12 h13
        go_wp2
        exact hK _ _ (Ext.refl _) (fun _ _ => rfl)
      · intro wr hx v0 h0 v1 h1 v2 h2 v3 h3 v4 h4 v5 h5 v6 h6 v7 h7 v8 h8 v9 h9 v10 h10 v11 h11 v12 h12 v13 h13 K hK
        have p0 := (hx.cell (p := ⟨bp, op + j * 2, none⟩) hbpr).trans hc1
        have p1 := (hx.cell (p := ⟨bp, op + j * 2 + 1, none⟩) hbpr).trans hc2
        simp only [Act.put, List.setIfInBounds_toArray, List.set_cons_zero, List.set_cons_succ] at hK ⊢
        obtain rfl := (h3 (by decide)).now
        clear h0 h1 h2 h3 h4 h5 h6 h7 h8 h9 h10 h11 h12 h13
        go_wp2
        exact hK _ _ (Ext.refl _) (fun _ _ => rfl)
      · intro wr hx v0 h0 v1 h1 v2 h2 v3 h3 v4 h4 v5 h5 v6 h6 v7 h7 v8 h8 v9 h9 v10 h10 v11 h11 v12 h12 v13 h13 K hK
        have p0 := (hx.cell (p := ⟨bp, op + j * 2, none⟩) hbpr).trans hc1
        have p1 := (hx.cell (p := ⟨bp, op + j * 2 + 1, none⟩) hbpr).trans hc2
        simp only [Act.put, List.setIfInBounds_toArray, List.set_cons_zero, List.set_cons_succ] at hK ⊢
        obtain rfl := (h4 (by decide)).now
        clear h0 h1 h2 h3 h4 h5 h6 h7 h8 h9 h10 h11 h12 h13
        go_wp2
        exact hK _ _ (Ext.refl _) (fun _ _ => rfl)
      · intro wr hx v0 h0 v1 h1 v2 h2 v3 h3 v4 h4 v5 h5 v6 h6 v7 h7 v8 h8 v9 h9 v10 h10 v11 h11 v12 h12 v13 h13 K hK
        have p0 := (hx.cell (p := ⟨bp, op + j * 2, none⟩) hbpr).trans hc1
        have p1 := (hx.cell (p := ⟨bp, op + j * 2 + 1, none⟩) hbpr).trans hc2
        simp only [Act.put, List.setIfInBounds_toArray, List.set_cons_zero, List.set_cons_succ] at hK ⊢
        obtain rfl := (h5 (by decide)).now
        clear h0 h1 h2 h3 h4 h5 h6 h7 h8 h9 h10 h11 h12 h13
        go_wp2
        exact hK _ _ (Ext.refl _) (fun _ _ => rfl)
      · intro wr hx v0 h0 v1 h1 v2 h2 v3 h3 v4 h4 v5 h5 v6 h6 v7 h7 v8 h8 v9 h9 v10 h10 v11 h11 v12 h12 v13 h13 K hK
        have p0 := (hx.cell (p := ⟨bp, op + j * 2, none⟩) hbpr).trans hc1
        have p1 := (hx.cell (p := ⟨bp, op + j * 2 + 1, none⟩) hbpr).trans hc2
        simp only [Act.put, List.setIfInBounds_toArray, List.set_cons_zero, List.set_cons_succ] at hK ⊢
        clear h0 h1 h2 h3 h4 h5 h6 h7 h8 h9 h10 h11 h12 h13
        go_wp2
        exact hK _ _ (Ext.refl _) (fun _ _ => rfl)
      · intro wr hx v0 h0 v1 h1 v2 h2 v3 h3 v4 h4 v5 h5 v6 h6 v7 h7 v8 h8 v9 h9 v10 h10 v11 h11 v12 h12 v13 h13 K hK
        have p0 := (hx.cell (p := ⟨bp, op + j * 2, none⟩) hbpr).trans hc1
        have p1 := (hx.cell (p := ⟨bp, op + j * 2 + 1, none⟩) hbpr).trans hc2
        simp only [Act.put, List.setIfInBounds_toArray, List.set_cons_zero, List.set_cons_succ] at hK ⊢
        clear h0 h1 h2 h3 h4 h5 h6 h7 h8 h9 h10 h11 h12 h13
        go_wp2
        exact hK _ _ (Ext.refl _) (fun _ _ => rfl)
      · intro wr hx v0 h0 v1 h1 v2 h2 v3 h3 v4 h4 v5 h5 v6 h6 v7 h7 v8 h8 v9 h9 v10 h10 v11 h11 v12 h12 v13 h13 K hK
        have p0 := (hx.cell (p := ⟨bp, op + j * 2, none⟩) hbpr).trans hc1
        have p1 := (hx.cell (p := ⟨bp, op + j * 2 + 1, none⟩) hbpr).trans hc2
        simp only [Act.put, List.setIfInBounds_toArray, List.set_cons_zero, List.set_cons_succ] at hK ⊢
        obtain rfl := (h7 (by decide)).now
        obtain rfl := (h8 (by decide)).now
        clear h0 h1 h2 h3 h4 h5 h6 h7 h8 h9 h10 h11 h12 h13
        go_wp2
        exact hK _ _ (Ext.refl _) (fun _ _ => rfl)
      · intro wr hx v0 h0 v1 h1 v2 h2 v3 h3 v4 h4 v5 h5 v6 h6 v7 h7 v8 h8 v9 h9 v10 h10 v11 h11 v12 h12 v13 h13 K hK
        have p0 := (hx.cell (p := ⟨bp, op + j * 2, none⟩) hbpr).trans hc1
        have p1 := (hx.cell (p := ⟨bp, op + j * 2 + 1, none⟩) hbpr).trans hc2
        simp only [Act.put, List.setIfInBounds_toArray, List.set_cons_zero, List.set_cons_succ] at hK ⊢
        obtain rfl := (h9 (by decide)).now
        clear h0 h1 h2 h3 h4 h5 h6 h7 h8 h9 h10 h11 h12 h13
        go_wp2
        exact hK _ _ (Ext.refl _) (fun _ _ => rfl)
      · intro wr hx v0 h0 v1 h1 v2 h2 v3 h3 v4 h4 v5 h5 v6 h6 v7 h7 v8 h8 v9 h9 v10 h10 v11 h11 v12 h12 v13 h13 K hK
        have p0 := (hx.cell (p := ⟨bp, op + j * 2, none⟩) hbpr).trans hc1
        have p1 := (hx.cell (p := ⟨bp, op + j * 2 + 1, none⟩) hbpr).trans hc2
        simp only [Act.put, List.setIfInBounds_toArray, List.set_cons_zero, List.set_cons_succ] at hK ⊢
        obtain rfl := (h10 (by decide)).now
        clear h0 h1 h2 h3 h4 h5 h6 h7 h8 h9 h10 h11 h12 h13
        go_wp2
        exact hK _ _ (Ext.refl _) (fun _ _ => rfl)
      · intro wr hx v0 h0 v1 h1 v2 h2 v3 h3 v4 h4 v5 h5 v6 h6 v7 h7 v8 h8 v9 h9 v10 h10 v11 h11 v12 h12 v13 h13 K hK
        have p0 := (hx.cell (p := ⟨bp, op + j * 2, none⟩) hbpr).trans hc1
        have p1 := (hx.cell (p := ⟨bp, op + j * 2 + 1, none⟩) hbpr).trans hc2
        simp only [Act.put, List.setIfInBounds_toArray, List.set_cons_zero, List.set_cons_succ] at hK ⊢
        obtain rfl := (h11 (by decide)).now
        clear h0 h1 h2 h3 h4 h5 h6 h7 h8 h9 h10 h11 h12 h13
        go_wp2
        exact hK _ _ (Ext.refl _) (fun _ _ => rfl)
      · intro wr hx v0 h0 v1 h1 v2 h2 v3 h3 v4 h4 v5 h5 v6 h6 v7 h7 v8 h8 v9 h9 v10 h10 v11 h11 v12 h12 v13 h13 K hK
        have p0 := (hx.cell (p := ⟨bp, op + j * 2, none⟩) hbpr).trans hc1
        have p1 := (hx.cell (p := ⟨bp, op + j * 2 + 1, none⟩) hbpr).trans hc2
        simp only [Act.put, List.setIfInBounds_toArray, List.set_cons_zero, List.set_cons_succ] at hK ⊢
        obtain rfl := (h6 (by decide)).now
        obtain rfl := (h12 (by decide)).now
        clear h0 h1 h2 h3 h4 h5 h6 h7 h8 h9 h10 h11 h12 h13
        go_wp2
        exact hK _ _ (Ext.refl _) (fun _ _ => rfl)
      intro w8 hx v0 h0 v1 h1 v2 h2 v3 h3 v4 h4 v5 h5 v6 h6 v7 h7 v8 h8 v9 h9 v10 h10 v11 h11 v12 h12 v13 h13
      have p0 := (hx.cell (p := ⟨bp, op + j * 2, none⟩) hbpr).trans hc1
      have p1 := (hx.cell (p := ⟨bp, op + j * 2 + 1, none⟩) hbpr).trans hc2
      obtain rfl := h13.now
      clear h0 h1 h2 h3 h4 h5 h6 h7 h8 h9 h10 h11 h12 h13
      refine tail_quiet (by kernel_rfl) ?_
      simp only [List.drop_succ_cons, List.drop_zero, Act.put, List.setIfInBounds_toArray, List.set_cons_zero, List.set_cons_succ]
      repeat (go_big_quiet_step (fail))
      refine wpQuiet_nil ?_
      have HOWN8 := Lib.hid (HOWN.out.later hx)
      have hst : ∃ q : Nat, faceCnt es f (L.take 0) j = q ∧ q ≤ 0 ∧ (Value.int .i64 (2 - (n1 : Int) + (n2 : Int))) = .int .i64 (2 - (n1 : Int) + (n2 : Int) - (q : Int)) ∧ Below w6.heap.size w6 w8 ∧ Own w6 w8 (.slice oA on oc) ((List.range j).map (genusAt es vs xs f L)) := ⟨0, rfl, Nat.le_refl _, by simp, HB.out.trans (hx.mono HB.out.size), HOWN8.out⟩
      clear hx hc1 hc2
      go_wp2
      go_loopw [11, 12] (fun nv_ i wi => ∃ t : Nat, t ≤ nL ∧ i = .int .i64 t ∧ ∃ q : Nat, faceCnt es f (L.take t) j = q ∧ q ≤ t ∧ nv_ = .int .i64 (2 - (n1 : Int) + (n2 : Int) - (q : Int)) ∧ Below w6.heap.size w6 wi ∧ Own w6 wi (.slice oA on oc) ((List.range j).map (genusAt es vs xs f L))) (fun _ i _ => nL - (intOf i).toNat)
      case atStart => exact ⟨0, Nat.zero_le _, rfl, hst⟩
      case round =>
        clear hst
        obtain ⟨t, htn, rfl, q, hq, hqt, rfl, hbel, hown⟩ := hrel
        by_cases hltL : t < nL
        · obtain ⟨bL, oL, y, ds, A', n', c', rfl, hbL, hgd, hy64, hcy6, hcd6, isd⟩ := HL6.out.get hltL
          have htL : Hid (t < L.length) := Lib.hid (by have := HL6.out.len; omega)
          have hmem : (y, ds) ∈ walksOf es tt vs xs := by rw [HLE.out, ← hgd.out]; exact HL6.out.mem hltL
          obtain ⟨hcz, hy0, hy1⟩ := corner_is HP.out hmem
          have hcv := (walks_corner HP.out hmem).2.2
          have hml := H6.out.g.len
          dsimp only at hcz hy0 hy1
          obtain ⟨cz, hcze⟩ : ∃ cz, cornerOf es (y, ds) = cz := ⟨_, rfl⟩
          rw [hcze] at hcz hcv
          have hbLr : bL < wr.heap.size := Nat.lt_of_lt_of_le hbL hbel.size
          have hbpr : bp < wr.heap.size := Nat.lt_of_lt_of_le hbp hbel.size
          have hcy := (hbel.cell (p := ⟨bL, oL + t * 2, none⟩) hbL).trans hcy6
          have hcd := (hbel.cell (p := ⟨bL, oL + t * 2 + 1, none⟩) hbL).trans hcd6
          have hc1 := (hbel.cell (p := ⟨bp, op + j * 2, none⟩) hbp).trans HC1.out
          have ⟨hg5, hp5, c0, c1, _, _, _⟩ := GB6.out.step hbel
          have H7 := Lib.hid (H6.out.step hbel)
          have HNX := Lib.hid (faceCnt_next (es := es) (f := f) (j := j) htL.out hgd.out)
          rw [hcze, hq] at HNX
          obtain ⟨bb, hbb⟩ : ∃ bb, decide (cz ∈ F (j * 2)) = bb := ⟨_, rfl⟩
          have hiff : cz ∈ F (j * 2) ↔ f cz = some (j : Int) := by
            rw [HF1.out, List.mem_filter, beq_iff_eq]
            exact ⟨fun h => h.2, fun h => ⟨hcv, h⟩⟩
          have HBB := Lib.hid hbb
          have HIFF := Lib.hid hiff
          have HCZ := Lib.hid hcz
          have HOW := Lib.hid hown
          have HBE := Lib.hid hbel
          have IS1r := Lib.hid ((IS1.out.below hbel).more hbel.size)
          have t0 : (0 : Int) ≤ (t : Int) := by omega
          have t1 : (t : Int) < (nL : Int) := by omega
          have hy2 : 0 ≤ y → y < 2 * (m : Int) := fun h => by have := hy1 h; omega
          clear hown hbel hcy6 hcd6 isd hmem hcze hcv hbb hiff hcz hy1 hgd hq
          go_wp2
          refine wp_region_rel 12 [[],[],[0,1],[0,1,2],[0,1,2,3],[],[],[],[6,7],[6,7,8],[5,6,7,8,9],[0,1,2,3,4,5,6,7,8,9,10]]
            [fun x _ => x = .slice (some ⟨bp, op, none⟩) n cp,
             fun x _ => x = .int .i64 j,
             fun x _ => x = .pointer (some ⟨bp, op + j * 2, none⟩),
             fun x _ => x = .pointer (some ⟨bp, op + j * 2, none⟩),
             fun x _ => x = .slice A1 n1 k1,
             fun x _ => x = .agg #[.int .i64 N, .slice A m c],
             fun x _ => x = .slice (some ⟨bL, oL, none⟩) nL cL,
             fun x _ => x = .int .i64 t,
             fun x _ => x = .pointer (some ⟨bL, oL + t * 2, none⟩),
             fun x _ => x = .agg #[.int .i64 y, .slice A' n' c'],
             fun x _ => x = .int .i64 cz,
             fun x _ => x = .bool bb]
            (by kernel_rfl) (by kernel_rfl) rfl ⟨?_, ?_, ?_, ?_, ?_, ?_, ?_, ?_, ?_, ?_, ?_, ?_, trivial⟩ ?_
          · intro wr hx v0 h0 v1 h1 v2 h2 v3 h3 v4 h4 v5 h5 v6 h6 v7 h7 v8 h8 v9 h9 v10 h10 v11 h11 K hK
            have p0 := (hx.cell (p := ⟨bL, oL + t * 2, none⟩) hbLr).trans hcy
            have p1 := (hx.cell (p := ⟨bL, oL + t * 2 + 1, none⟩) hbLr).trans hcd
            have p2 := (hx.cell (p := ⟨bp, op + j * 2, none⟩) hbpr).trans hc1
            have p3 := (hx.cell (p := ⟨w.heap.size, 0, none⟩) hg5).trans c0
            have p4 := (hx.cell (p := ⟨w.heap.size, 1, none⟩) hg5).trans c1
            simp only [Act.put, List.setIfInBounds_toArray, List.set_cons_zero, List.set_cons_succ] at hK ⊢
            clear h0 h1 h2 h3 h4 h5 h6 h7 h8 h9 h10 h11
            go_wp2
            exact hK _ _ (Ext.refl _) (fun _ _ => rfl)
          · intro wr hx v0 h0 v1 h1 v2 h2 v3 h3 v4 h4 v5 h5 v6 h6 v7 h7 v8 h8 v9 h9 v10 h10 v11 h11 K hK
            have p0 := (hx.cell (p := ⟨bL, oL + t * 2, none⟩) hbLr).trans hcy
            have p1 := (hx.cell (p := ⟨bL, oL + t * 2 + 1, none⟩) hbLr).trans hcd
            have p2 := (hx.cell (p := ⟨bp, op + j * 2, none⟩) hbpr).trans hc1
            have p3 := (hx.cell (p := ⟨w.heap.size, 0, none⟩) hg5).trans c0
            have p4 := (hx.cell (p := ⟨w.heap.size, 1, none⟩) hg5).trans c1
            simp only [Act.put, List.setIfInBounds_toArray, List.set_cons_zero, List.set_cons_succ] at hK ⊢
            clear h0 h1 h2 h3 h4 h5 h6 h7 h8 h9 h10 h11
            go_wp2
            exact hK _ _ (Ext.refl _) (fun _ _ => rfl)
          · intro wr hx v0 h0 v1 h1 v2 h2 v3 h3 v4 h4 v5 h5 v6 h6 v7 h7 v8 h8 v9 h9 v10 h10 v11 h11 K hK
            have p0 := (hx.cell (p := ⟨bL, oL + t * 2, none⟩) hbLr).trans hcy
            have p1 := (hx.cell (p := ⟨bL, oL + t * 2 + 1, none⟩) hbLr).trans hcd
            have p2 := (hx.cell (p := ⟨bp, op + j * 2, none⟩) hbpr).trans hc1
            have p3 := (hx.cell (p := ⟨w.heap.size, 0, none⟩) hg5).trans c0
            have p4 := (hx.cell (p := ⟨w.heap.size, 1, none⟩) hg5).trans c1
            simp only [Act.put, List.setIfInBounds_toArray, List.set_cons_zero, List.set_cons_succ] at hK ⊢
            obtain rfl := (h0 (by decide)).now
            obtain rfl := (h1 (by decide)).now
            clear h0 h1 h2 h3 h4 h5 h6 h7 h8 h9 h10 h11
            go_wp2
            exact hK _ _ (Ext.refl _) (fun _ _ => rfl)
          · intro wr hx v0 h0 v1 h1 v2 h2 v3 h3 v4 h4 v5 h5 v6 h6 v7 h7 v8 h8 v9 h9 v10 h10 v11 h11 K hK
            have p0 := (hx.cell (p := ⟨bL, oL + t * 2, none⟩) hbLr).trans hcy
            have p1 := (hx.cell (p := ⟨bL, oL + t * 2 + 1, none⟩) hbLr).trans hcd
            have p2 := (hx.cell (p := ⟨bp, op + j * 2, none⟩) hbpr).trans hc1
            have p3 := (hx.cell (p := ⟨w.heap.size, 0, none⟩) hg5).trans c0
            have p4 := (hx.cell (p := ⟨w.heap.size, 1, none⟩) hg5).trans c1
            simp only [Act.put, List.setIfInBounds_toArray, List.set_cons_zero, List.set_cons_succ] at hK ⊢
            obtain rfl := (h2 (by decide)).now
            clear h0 h1 h2 h3 h4 h5 h6 h7 h8 h9 h10 h11
            go_wp2
            exact hK _ _ (Ext.refl _) (fun _ _ => rfl)
          · intro wr hx v0 h0 v1 h1 v2 h2 v3 h3 v4 h4 v5 h5 v6 h6 v7 h7 v8 h8 v9 h9 v10 h10 v11 h11 K hK
            have p0 := (hx.cell (p := ⟨bL, oL + t * 2, none⟩) hbLr).trans hcy
            have p1 := (hx.cell (p := ⟨bL, oL + t * 2 + 1, none⟩) hbLr).trans hcd
            have p2 := (hx.cell (p := ⟨bp, op + j * 2, none⟩) hbpr).trans hc1
            have p3 := (hx.cell (p := ⟨w.heap.size, 0, none⟩) hg5).trans c0
            have p4 := (hx.cell (p := ⟨w.heap.size, 1, none⟩) hg5).trans c1
            simp only [Act.put, List.setIfInBounds_toArray, List.set_cons_zero, List.set_cons_succ] at hK ⊢
            obtain rfl := (h3 (by decide)).now
            clear h0 h1 h2 h3 h4 h5 h6 h7 h8 h9 h10 h11
            go_wp2
            exact hK _ _ (Ext.refl _) (fun _ _ => rfl)
          · intro wr hx v0 h0 v1 h1 v2 h2 v3 h3 v4 h4 v5 h5 v6 h6 v7 h7 v8 h8 v9 h9 v10 h10 v11 h11 K hK
            have p0 := (hx.cell (p := ⟨bL, oL + t * 2, none⟩) hbLr).trans hcy
            have p1 := (hx.cell (p := ⟨bL, oL + t * 2 + 1, none⟩) hbLr).trans hcd
            have p2 := (hx.cell (p := ⟨bp, op + j * 2, none⟩) hbpr).trans hc1
            have p3 := (hx.cell (p := ⟨w.heap.size, 0, none⟩) hg5).trans c0
            have p4 := (hx.cell (p := ⟨w.heap.size, 1, none⟩) hg5).trans c1
            simp only [Act.put, List.setIfInBounds_toArray, List.set_cons_zero, List.set_cons_succ] at hK ⊢
            clear h0 h1 h2 h3 h4 h5 h6 h7 h8 h9 h10 h11
            go_wp2
            exact hK _ _ (Ext.refl _) (fun _ _ => rfl)
          · intro wr hx v0 h0 v1 h1 v2 h2 v3 h3 v4 h4 v5 h5 v6 h6 v7 h7 v8 h8 v9 h9 v10 h10 v11 h11 K hK
            have p0 := (hx.cell (p := ⟨bL, oL + t * 2, none⟩) hbLr).trans hcy
            have p1 := (hx.cell (p := ⟨bL, oL + t * 2 + 1, none⟩) hbLr).trans hcd
            have p2 := (hx.cell (p := ⟨bp, op + j * 2, none⟩) hbpr).trans hc1
            have p3 := (hx.cell (p := ⟨w.heap.size, 0, none⟩) hg5).trans c0
            have p4 := (hx.cell (p := ⟨w.heap.size, 1, none⟩) hg5).trans c1
            simp only [Act.put, List.setIfInBounds_toArray, List.set_cons_zero, List.set_cons_succ] at hK ⊢
            clear h0 h1 h2 h3 h4 h5 h6 h7 h8 h9 h10 h11
            go_wp2
            exact hK _ _ (Ext.refl _) (fun _ _ => rfl)
          · intro wr hx v0 h0 v1 h1 v2 h2 v3 h3 v4 h4 v5 h5 v6 h6 v7 h7 v8 h8 v9 h9 v10 h10 v11 h11 K hK
            have p0 := (hx.cell (p := ⟨bL, oL + t * 2, none⟩) hbLr).trans hcy
            have p1 := (hx.cell (p := ⟨bL, oL + t * 2 + 1, none⟩) hbLr).trans hcd
            have p2 := (hx.cell (p := ⟨bp, op + j * 2, none⟩) hbpr).trans hc1
            have p3 := (hx.cell (p := ⟨w.heap.size, 0, none⟩) hg5).trans c0
            have p4 := (hx.cell (p := ⟨w.heap.size, 1, none⟩) hg5).trans c1
            simp only [Act.put, List.setIfInBounds_toArray, List.set_cons_zero, List.set_cons_succ] at hK ⊢
            clear h0 h1 h2 h3 h4 h5 h6 h7 h8 h9 h10 h11
            go_wp2
            exact hK _ _ (Ext.refl _) (fun _ _ => rfl)
          · intro wr hx v0 h0 v1 h1 v2 h2 v3 h3 v4 h4 v5 h5 v6 h6 v7 h7 v8 h8 v9 h9 v10 h10 v11 h11 K hK
            have p0 := (hx.cell (p := ⟨bL, oL + t * 2, none⟩) hbLr).trans hcy
            have p1 := (hx.cell (p := ⟨bL, oL + t * 2 + 1, none⟩) hbLr).trans hcd
            have p2 := (hx.cell (p := ⟨bp, op + j * 2, none⟩) hbpr).trans hc1
            have p3 := (hx.cell (p := ⟨w.heap.size, 0, none⟩) hg5).trans c0
            have p4 := (hx.cell (p := ⟨w.heap.size, 1, none⟩) hg5).trans c1
            simp only [Act.put, List.setIfInBounds_toArray, List.set_cons_zero, List.set_cons_succ] at hK ⊢
            obtain rfl := (h6 (by decide)).now
            obtain rfl := (h7 (by decide)).now
            clear h0 h1 h2 h3 h4 h5 h6 h7 h8 h9 h10 h11
            go_wp2
            exact hK _ _ (Ext.refl _) (fun _ _ => rfl)
          · intro wr hx v0 h0 v1 h1 v2 h2 v3 h3 v4 h4 v5 h5 v6 h6 v7 h7 v8 h8 v9 h9 v10 h10 v11 h11 K hK
            have p0 := (hx.cell (p := ⟨bL, oL + t * 2, none⟩) hbLr).trans hcy
            have p1 := (hx.cell (p := ⟨bL, oL + t * 2 + 1, none⟩) hbLr).trans hcd
            have p2 := (hx.cell (p := ⟨bp, op + j * 2, none⟩) hbpr).trans hc1
            have p3 := (hx.cell (p := ⟨w.heap.size, 0, none⟩) hg5).trans c0
            have p4 := (hx.cell (p := ⟨w.heap.size, 1, none⟩) hg5).trans c1
            simp only [Act.put, List.setIfInBounds_toArray, List.set_cons_zero, List.set_cons_succ] at hK ⊢
            obtain rfl := (h8 (by decide)).now
            clear h0 h1 h2 h3 h4 h5 h6 h7 h8 h9 h10 h11
            go_wp2
            exact hK _ _ (Ext.refl _) (fun _ _ => rfl)
          · intro wr hx v0 h0 v1 h1 v2 h2 v3 h3 v4 h4 v5 h5 v6 h6 v7 h7 v8 h8 v9 h9 v10 h10 v11 h11 K hK
            have p0 := (hx.cell (p := ⟨bL, oL + t * 2, none⟩) hbLr).trans hcy
            have p1 := (hx.cell (p := ⟨bL, oL + t * 2 + 1, none⟩) hbLr).trans hcd
            have p2 := (hx.cell (p := ⟨bp, op + j * 2, none⟩) hbpr).trans hc1
            have p3 := (hx.cell (p := ⟨w.heap.size, 0, none⟩) hg5).trans c0
            have p4 := (hx.cell (p := ⟨w.heap.size, 1, none⟩) hg5).trans c1
            simp only [Act.put, List.setIfInBounds_toArray, List.set_cons_zero, List.set_cons_succ] at hK ⊢
            obtain rfl := (h5 (by decide)).now
            obtain rfl := (h9 (by decide)).now
            clear h0 h1 h2 h3 h4 h5 h6 h7 h8 h9 h10 h11
            go_wp2_with fail
            refine (corner_any wr N A m c es y A' n' c' (H7.out.step hx).g hy0 hy2).mono ?_
            rintro e w' ⟨rfl, hb⟩
            rw [HCZ.out]
            go_wp2
            exact hK _ _ hb (fun _ _ => rfl)
          · intro wr hx v0 h0 v1 h1 v2 h2 v3 h3 v4 h4 v5 h5 v6 h6 v7 h7 v8 h8 v9 h9 v10 h10 v11 h11 K hK
            have p0 := (hx.cell (p := ⟨bL, oL + t * 2, none⟩) hbLr).trans hcy
            have p1 := (hx.cell (p := ⟨bL, oL + t * 2 + 1, none⟩) hbLr).trans hcd
            have p2 := (hx.cell (p := ⟨bp, op + j * 2, none⟩) hbpr).trans hc1
            have p3 := (hx.cell (p := ⟨w.heap.size, 0, none⟩) hg5).trans c0
            have p4 := (hx.cell (p := ⟨w.heap.size, 1, none⟩) hg5).trans c1
            simp only [Act.put, List.setIfInBounds_toArray, List.set_cons_zero, List.set_cons_succ] at hK ⊢
            obtain rfl := (h4 (by decide)).now
            obtain rfl := (h10 (by decide)).now
            clear h0 h1 h2 h3 h4 h5 h6 h7 h8 h9 h10 h11
            go_wp2_with fail
            refine (in_any wr _ A1 n1 k1 _ cz (IS1r.out.step hx)).mono ?_
            rintro e w' ⟨rfl, rfl⟩
            rw [HBB.out]
            go_wp2
            exact hK _ _ (Ext.refl _) (fun _ _ => rfl)
          intro w9 hx v0 h0 v1 h1 v2 h2 v3 h3 v4 h4 v5 h5 v6 h6 v7 h7 v8 h8 v9 h9 v10 h10 v11 h11
          have p0 := (hx.cell (p := ⟨bL, oL + t * 2, none⟩) hbLr).trans hcy
          have p1 := (hx.cell (p := ⟨bL, oL + t * 2 + 1, none⟩) hbLr).trans hcd
          have p2 := (hx.cell (p := ⟨bp, op + j * 2, none⟩) hbpr).trans hc1
          have p3 := (hx.cell (p := ⟨w.heap.size, 0, none⟩) hg5).trans c0
          have p4 := (hx.cell (p := ⟨w.heap.size, 1, none⟩) hg5).trans c1
          obtain rfl := h11.now
          clear h0 h1 h2 h3 h4 h5 h6 h7 h8 h9 h10 h11
          refine tail_none (by kernel_rfl) ?_
          simp only [Act.put, List.setIfInBounds_toArray, List.set_cons_zero, List.set_cons_succ]
          have HOWN8 := Lib.hid (HOW.out.later hx)
          have HB8 := Lib.hid (HBE.out.trans (hx.mono HBE.out.size))
          cases bb with
          | true =>
            have hfc : f cz = some (j : Int) := HIFF.out.1 (of_decide_eq_true HBB.out)
            have HN2 : Hid (faceCnt es f (L.take (t + 1)) j = q + 1) := Lib.hid (by have h := HNX.out; rw [if_pos hfc] at h; omega)
            clear hx hcy hcd hc1 c0 c1 hfc
            go_wp2
            go_roundw
            case rel => exact ⟨t + 1, by omega, by go_num, q + 1, HN2.out, by omega, by congr 1; omega, HB8.out, HOWN8.out⟩
            case measure => simp [intOf]; omega
          | false =>
            have hfc : ¬ f cz = some (j : Int) := fun h => by have := HBB.out; rw [decide_eq_true (HIFF.out.2 h)] at this; cases this
            have HN2 : Hid (faceCnt es f (L.take (t + 1)) j = q) := Lib.hid (by have h := HNX.out; rw [if_neg hfc] at h; omega)
            clear hx hcy hcd hc1 c0 c1 hfc
            go_wp2
            go_roundw
            case rel => exact ⟨t + 1, by omega, by go_num, q, HN2.out, by omega, rfl, HB8.out, HOWN8.out⟩
            case measure => simp [intOf]; omega
        · obtain rfl : t = nL := by omega
          rw [List.take_of_length_le (by have := HL6.out.len; omega)] at hq
          have HZ : Hid (I64 (Int.tdiv (2 - (n1 : Int) + (n2 : Int) - (q : Int)) 2)) := Lib.hid (by
            have := Int.natAbs_tdiv_le_natAbs (2 - (n1 : Int) + (n2 : Int) - (q : Int)) 2
            exact ⟨by omega, by omega⟩)
          have HGA : Hid (genusAt es vs xs f L j = Int.tdiv (2 - (n1 : Int) + (n2 : Int) - (q : Int)) 2) := Lib.hid (by rw [HG1.out, hq])
          have HOW := Lib.hid hown
          clear hown hbel hq
          go_wp2_with (with_reducible show wpList _ _ _ (Oper.mk (some 64) _ _ _ _ _ :: _) _ _; go_must (refine wpList_append_one (v := .slice oA on oc) (w0 := w6) rfl _ _ rfl rfl HOW.out _ HZ.out rfl (by rw [List.length_map, List.length_range]; omega) ?_; intro v' w9 hown9 _ _))
          go_roundw
          case rel => exact ⟨j + 1, by omega, by go_num, by rw [range_map_next, HGA.out]; exact hown9⟩
          case measure => simp [intOf]; omega
    · obtain rfl : j = n := by omega
      obtain ⟨A', n', c', e, his⟩ := hown.is
      injection e with e1 e2 e3
      subst e1 e2 e3
      have hnt : on = j := by
        have := his.len
        rw [List.length_map, List.length_range] at this
        exact this.symm
      subst hnt
      have HI := Lib.hid his
      have HBZ := Lib.hid (bstep B1.out hbz)
      clear his hbz hown
      go_wp2
      go_ret
      refine ⟨⟨_, _, _, rfl, f, HPC.out, ?_⟩, HBZ.out⟩
      unfold genusOf
      rw [HLE.out]
      exact HI.out
end Go.Proofs.Ythobfbnopkbniaa
