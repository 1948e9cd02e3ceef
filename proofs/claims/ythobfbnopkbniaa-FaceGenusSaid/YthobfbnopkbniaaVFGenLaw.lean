/-
  The law FaceGenus. No conditions.
-/
import Derived.Test.YthobfbnopkbniaaVFGenR
import Derived.Test.YthobfbnopkbniaaFaceD
namespace Go.Proofs.Ythobfbnopkbniaa
open Go.RowKit

theorem SphAns.not_ {N : Int} {es : List (Int × Int)} {vs xs : List Int} {tt : List (List Int)} {b : Bool} (h : SphAns N es vs xs tt b) (hn : ¬ (pRight N es vs xs = 0 ∧ TurnOK N es xs tt)) : b = false := by
  cases b with
  | false => rfl
  | true => exact absurd ⟨(h.1 rfl).1, (h.1 rfl).2.1⟩ hn

set_option maxHeartbeats 8000000 in
set_option maxRecDepth 100000 in
theorem law_FaceGenus (w : World) (N : Int) (A : Option Addr) (m c : Nat) (es : List (Int × Int)) (Av : Option Addr) (nv cv : Nat) (vs : List Int) (Ae : Option Addr) (ne ce : Nat) (xs : List Int) (At : Option Addr) (nt ct : Nat) (tt : List (List Int)) (h : GP w N A m c es Av nv cv vs Ae ne ce xs) (ht : TS w w.heap.size At nt ct tt) :
    Calls Try.prog 16 #[.agg #[.int .i64 N, .slice A m c], .agg #[.slice Av nv cv, .slice Ae ne ce], .slice At nt ct] w fun e w' => e = .returned (.bool true) ∧ Below w.heap.size w w' := by
  obtain ⟨w1, hw1, b1, gb1⟩ := box_gp w N A m c es Av nv cv Ae ne ce
  have h1 := h.step b1
  have t1 := ht.step b1
  clear h ht
  go_enter Try.func16, Try.ntmps16
  go_wp2_with fail
  refine (awakeFace w1).mono ?_
  rintro e w2 ⟨rfl, b2⟩
  have h2 := h1.step b2
  have t2 := t1.step b2
  have gb2 := gb1.step b2
  replace b1 := bstep b1 b2
  clear hw1 h1 t1 gb1 b2
  have ⟨_, _, c0, c1, c2, c3, _⟩ := gb2
  go_wp2_with fail
  refine (small6_any w2 N A m c es Av nv cv vs Ae ne ce xs At nt ct tt h2 t2).mono ?_
  rintro e w3 ⟨⟨hs, rfl⟩ | ⟨hs, rfl⟩, b3⟩
  · have h3 := h2.step b3
    have t3 := t2.step b3
    have gb3 := gb2.step b3
    replace b1 := bstep b1 b3
    clear h2 t2 gb2 b3 c0 c1 c2 c3
    have ⟨_, _, c0, c1, c2, c3, _⟩ := gb3
    have hm60 := hs.1.1
    have hne60 := hs.1.2.2.1
    clear hs
    go_wp2_with fail
    refine (genus_any w3 N A m c es Av nv cv vs Ae ne ce xs At nt ct tt h3 t3 hm60 hne60).mono ?_
    rintro e w4 ⟨⟨hp, hT, n, f, A4, c4, hpc, rfl, his⟩ | ⟨hno, rfl⟩, b4⟩
    · have h4 := h3.step b4
      have t4 := t3.step b4
      have gb4 := gb3.step b4
      replace b1 := bstep b1 b4
      have HPT := Lib.hid (And.intro hp hT)
      have HPC := Lib.hid hpc
      clear h3 t3 gb3 b4 c0 c1 c2 c3 hp hT hpc
      have ⟨_, _, c0, c1, c2, c3, _⟩ := gb4
      go_wp2_with fail
      refine (new_any w4 N A m c es Av nv cv vs Ae ne ce xs At nt ct tt h4 t4 hm60 hne60).mono ?_
      rintro e w5 ⟨⟨_, _, r, rfl, hrs⟩ | ⟨hno, _⟩, b5⟩
      · have h5 := h4.step b5
        have t5 := t4.step b5
        have gb5 := gb4.step b5
        have is5 := his.step b5
        replace b1 := bstep b1 b5
        clear h4 t4 gb4 b5 c0 c1 c2 c3 his
        have hxl : xs.length ≤ 60 := by have := h5.e.len; omega
        have hsz : ∀ t ∈ tt, t.length ≤ 1024 := fun t ht => by
          obtain ⟨u, hu, rfl⟩ := List.getElem_of_mem ht
          have := HPT.out.2.size hu
          rw [List.getD_eq_getElem?_getD, List.getElem?_eq_getElem hu] at this
          have h2 : tt[u].length ≤ 2 * xs.length := this
          omega
        have hN := (pRight_ok HPT.out.1).size
        have htl := HPT.out.2.1
        have hft : (tt.map first).length ≤ 1024 := by rw [List.length_map]; omega
        have HFL := Lib.hid (map_first_len hsz)
        have hmt : ((tt.map first).map List.reverse).map first = mirr tt := rfl
        have hmt1 : (mirr tt).length ≤ 1024 := by unfold mirr; rw [List.length_map, flip_len]; omega
        have HML : Hid (∀ t ∈ mirr tt, t.length ≤ 1024) := Lib.hid (map_first_len (flip_row hsz))
        go_wp2_with fail
        refine (mirror_any w5 r _ _ _ _ hrs hft HFL.out).mono ?_
        rintro e w6 ⟨r2, rfl, hr2, b6⟩
        rw [hmt] at hr2
        go_wp2_with fail
        refine (turn_any w6 r2 _ _ _ _ hr2 hmt1 HML.out).mono ?_
        rintro e w7 ⟨Am, nm, cm, rfl, tm, b7⟩
        have b57 := bstep b6 b7
        have h7 := h5.step b57
        have t7 := t5.step b57
        have gb7 := gb5.step b57
        have is7 := is5.step b57
        replace b1 := bstep b1 b57
        clear h5 t5 gb5 b57 b6 b7 is5 hrs hr2 hft hmt1 hsz
        have ⟨_, _, c0, c1, c2, c3, _⟩ := gb7
        go_wp2_with fail
        refine (genus_any w7 N A m c es Av nv cv vs Ae ne ce xs Am nm cm (mirr tt) h7 tm hm60 hne60).mono ?_
        rintro e w8 ⟨⟨_, _, n8, f8, A8, c8, hpc8, rfl, his8⟩ | ⟨hno, _⟩, b8⟩
        · obtain ⟨rfl, rfl⟩ := HPC.out.unique hpc8 (pRight_ok HPT.out.1)
          rw [mirr_genus (pRight_ok HPT.out.1) HPT.out.2 HPC.out] at his8
          have h8 := h7.step b8
          have t8 := t7.step b8
          have tm8 := tm.step b8
          have gb8 := gb7.step b8
          have is8 := is7.step b8
          replace b1 := bstep b1 b8
          clear h7 t7 tm gb7 b8 is7 c0 c1 c2 c3 hpc8
          have ⟨_, _, c0, c1, c2, c3, _⟩ := gb8
          go_wp2_with fail
          refine (walks_any w8 N A m c es Av nv cv vs Ae ne ce xs At nt ct tt h8 t8 hm60 hne60).mono ?_
          rintro e w9 ⟨⟨_, _, A9, n9, c9, rfl, hL9⟩ | ⟨hno, _⟩, b9⟩
          · have h9 := h8.step b9
            have tm9 := tm8.step b9
            have gb9 := gb8.step b9
            have is9 := is8.step b9
            have is9' := his8.step b9
            replace b1 := bstep b1 b9
            have hl9 := hL9.len
            have hn9 := hL9.le
            have hc9 := hL9.cap
            clear h8 t8 tm8 gb8 b9 is8 his8 c0 c1 c2 c3 hL9
            have ⟨_, _, c0, c1, c2, c3, _⟩ := gb9
            go_wp2_with fail
            refine (walks_any w9 N A m c es Av nv cv vs Ae ne ce xs Am nm cm (mirr tt) h9 tm9 hm60 hne60).mono ?_
            rintro e wA ⟨⟨_, _, AA, nA, cA, rfl, hLA⟩ | ⟨hno, _⟩, bA⟩
            · have isA := is9.step bA
              have isA' := is9'.step bA
              have hlA := hLA.len
              have hnA := hLA.le
              have hcA := hLA.cap
              have hnn : nA = n9 := by
                have := mirr_walks (pRight_ok HPT.out.1) HPT.out.2
                omega
              subst hnn
              have B1 := Lib.hid (bstep b1 bA)
              obtain ⟨gs, hgs⟩ : ∃ gs, genusOf es tt vs xs f n = gs := ⟨_, rfl⟩
              rw [hgs] at isA isA'
              have hnng : ∀ k, k < n → 0 ≤ gs.getD k 0 := fun k hk => by
                rw [← hgs]
                unfold genusOf
                rw [List.getD_eq_getElem?_getD, List.getElem?_map, List.getElem?_range hk]
                exact genus_nonneg HPT.out.1 HPT.out.2 HPC.out k
              have HNN := Lib.hid hnng
              have ISA := Lib.hid isA
              have ISA' := Lib.hid isA'
              have hnle := isA.le
              have hncap := isA.cap
              have hnle' := isA'.le
              have hncap' := isA'.cap
              have hn1024 : n ≤ 1024 := by
                have h1 := HPC.out.le
                have h4 := nodup_len (a := vs) (b := upto1 N.toNat) (sorted_nodup (pRight_ok HPT.out.1).vp) fun x hx => mem_upto1.2 (by have := (pRight_ok HPT.out.1).vr x hx; omega)
                rw [upto1_len] at h4
                omega
              clear h9 tm9 gb9 bA is9 is9' c0 c1 c2 c3 hLA isA isA' hgs hnng b1 hl9 hlA
              go_wp2
              go_loop [18] (fun i => ∃ k : Nat, k ≤ n ∧ i = .int .i64 k) (fun i => n - (intOf i).toNat)
              case atStart => exact ⟨0, Nat.zero_le _, rfl⟩
              case round =>
                obtain ⟨k, hk, rfl⟩ := hrel
                by_cases hlt : k < n
                · obtain ⟨b, o, z, rfl, hb, hgz, hz64, hcz⟩ := ISA.out.get hlt
                  have hk0 : (0 : Int) ≤ (k : Int) := by omega
                  have hk1 : (k : Int) < (n : Int) := by omega
                  have hz0 := HNN.out k hlt
                  rw [hgz.out] at hz0
                  have hzd : decide (z < 0) = false := decide_eq_false (by omega)
                  go_wp2
                  go_round
                  case rel => exact ⟨k + 1, by omega, by go_num⟩
                  case measure => simp [intOf]; omega
                · go_wp2_with fail
                  refine (refEqual_any wA _ _ A4 A8 n c4 n c8 _ _ ISA.out ISA'.out).mono ?_
                  rintro e wB ⟨rfl, hd⟩
                  rw [decide_eq_true rfl]
                  have B2 := Lib.hid (B1.out.trans (hd.below _))
                  clear hd
                  go_wp2
                  go_ret
                  exact ⟨rfl, B2.out⟩
            · exact absurd ⟨HPT.out.1, HPT.out.2.mirr⟩ hno
          · exact absurd HPT.out hno
        · exact absurd ⟨HPT.out.1, HPT.out.2.mirr⟩ hno
      · exact absurd HPT.out hno
    · have h4 := h3.step b4
      have t4 := t3.step b4
      have gb4 := gb3.step b4
      replace b1 := bstep b1 b4
      clear h3 t3 gb3 b4 c0 c1 c2 c3
      have ⟨_, _, c0, c1, c2, c3, _⟩ := gb4
      obtain ⟨q, hq⟩ : ∃ q, (if pRight N es vs xs = 0 then 5 else pRight N es vs xs) = q := ⟨_, rfl⟩
      rw [hq]
      go_wp2_with fail
      refine (new_any w4 N A m c es Av nv cv vs Ae ne ce xs At nt ct tt h4 t4 hm60 hne60).mono ?_
      rintro e w6 ⟨⟨h8, h9, _⟩ | ⟨_, rfl⟩, b6⟩
      · exact absurd ⟨h8, h9⟩ hno
      · rw [hq]
        have hq0 : q ≠ 0 := by
          rw [← hq]
          split
          · decide
          · assumption
        have hqb : (q != 0) = true := by simpa [bne_iff_ne] using hq0
        have h6 := h4.step b6
        have t6 := t4.step b6
        have gb6 := gb4.step b6
        replace b1 := bstep b1 b6
        have HNO := Lib.hid hno
        clear h4 t4 gb4 b6 c0 c1 c2 c3 hq hno hq0
        have ⟨_, _, c0, c1, c2, c3, _⟩ := gb6
        go_wp2_with fail
        refine (sphere_any w6 N A m c es Av nv cv vs Ae ne ce xs At nt ct tt h6 t6 hm60 hne60).mono ?_
        rintro e w7 ⟨⟨b, rfl, hS⟩, b7⟩
        obtain rfl := hS.not_ HNO.out
        have B1 := Lib.hid (bstep b1 b7)
        clear h6 t6 gb6 b7 c0 c1 c2 c3 hS b1
        go_wp2
        go_ret
        exact ⟨rfl, B1.out⟩
  · have B1 := Lib.hid (bstep b1 b3)
    clear b1 b3 h2 t2 gb2 c0 c1 c2 c3 hs
    go_wp2_with fail
    refine (awakeFace w3).mono ?_
    rintro e w4 ⟨rfl, b4⟩
    have B2 := Lib.hid (bstep B1.out b4)
    clear b4
    go_wp2_with fail
    go_ret
    exact ⟨rfl, B2.out⟩
end Go.Proofs.Ythobfbnopkbniaa
