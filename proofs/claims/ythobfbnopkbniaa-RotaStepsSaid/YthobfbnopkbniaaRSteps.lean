/-
  The walk of the law RotaSteps; no conditions.
-/
import Derived.Test.YthobfbnopkbniaaRDo
import Derived.Test.YthobfbnopkbniaaRAwake
namespace Go.Proofs.Ythobfbnopkbniaa
open Go.RowKit

set_option maxHeartbeats 8000000 in
set_option maxRecDepth 100000 in
theorem law_RotaSteps (w : World) (N : Int) (A : Option Addr) (m c : Nat) (es : List (Int × Int)) (Av : Option Addr) (nv cv : Nat) (vs : List Int) (Ae : Option Addr) (ne ce : Nat) (xs : List Int) (At : Option Addr) (nt ct : Nat) (tt : List (List Int)) (d : Int) (h : GP w N A m c es Av nv cv vs Ae ne ce xs) (ht : TS w w.heap.size At nt ct tt) (hd : I64 d) :
    Calls Try.prog 3 #[.agg #[.int .i64 N, .slice A m c], .agg #[.slice Av nv cv, .slice Ae ne ce], .slice At nt ct, .int .i64 d] w fun e w' => e = .returned (.bool true) ∧ Below w.heap.size w w' := by
  obtain ⟨w1, hw1, b1, gb1⟩ := box_gp w N A m c es Av nv cv Ae ne ce
  have h1 := h.step b1
  have t1 := ht.step b1
  clear h ht
  go_enter Try.func3, Try.ntmps3
  go_wp2_with fail
  refine (awake6_any w1).mono ?_
  rintro e w2 ⟨rfl, b2⟩
  have h2 := h1.step b2
  have t2 := t1.step b2
  have gb2 := gb1.step b2
  replace b1 := bstep b1 b2
  clear hw1 h1 t1 gb1 b2
  have ⟨_, _, c0, c1, c2, c3, _⟩ := gb2
  go_wp2_with fail
  refine (small6_any w2 N A m c es Av nv cv vs Ae ne ce xs At nt ct tt h2 t2).mono ?_
  rintro e w3 ⟨⟨hs, rfl⟩ | ⟨hs, rfl⟩, b3⟩
  · have h3 := h2.step b3
    have t3 := t2.step b3
    have gb3 := gb2.step b3
    replace b1 := bstep b1 b3
    clear h2 t2 gb2 b3 c0 c1 c2 c3
    have ⟨_, _, c0, c1, c2, c3, _⟩ := gb3
    have hm60 := hs.1.1
    have hne60 := hs.1.2.2.1
    clear hs
    go_wp2_with fail
    refine (new_any w3 N A m c es Av nv cv vs Ae ne ce xs At nt ct tt h3 t3 hm60 hne60).mono ?_
    rintro e w4 ⟨⟨hp, hT, r, rfl, hrs⟩ | ⟨hno, rfl⟩, b4⟩
    · have h4 := h3.step b4
      have gb4 := gb3.step b4
      replace b1 := bstep b1 b4
      clear h3 t3 gb3 b4 c0 c1 c2 c3
      have ⟨_, hpl, c0, c1, c2, c3, _⟩ := gb4
      have hrt : RT w4 r es xs tt := hrs
      have hpk := Lib.hid (pRight_ok hp)
      have hTT := Lib.hid hT
      clear hp hT hrs
      have hlen := h4.e.len
      have hle := h4.e.le
      have hcap := h4.e.cap
      by_cases hx : d / 2 ∈ xs
      · obtain ⟨a, ha⟩ : ∃ a, stepOf es tt d 1 = a := ⟨_, rfl⟩
        obtain ⟨n, hn⟩ : ∃ n, stepOf es tt (twin d) (-1) = n := ⟨_, rfl⟩
        have htw : twin d / 2 ∈ xs := by rw [twin_half]; exact hx
        have ha2 : a / 2 ∈ xs := by rw [← ha]; exact (step_mem hpk.out hTT.out hx 1).1
        have hn2 : n / 2 ∈ xs := by rw [← hn]; exact (step_mem hpk.out hTT.out htw (-1)).1
        have cA := t_after_yes hrt hpk.out hTT.out hx
        have cB := t_before_yes hrt hpk.out hTT.out ha2
        have cN := t_next_yes hrt hpk.out hTT.out hx
        have cM := t_back_yes hrt hpk.out hTT.out hn2
        have cC := t_back_yes hrt hpk.out hTT.out hx
        have cK := t_next_yes (d := twin a) hrt hpk.out hTT.out (by rw [twin_half]; exact ha2)
        have e1 : stepOf es tt a (-1) = d := by rw [← ha]; exact (step_step hpk.out hTT.out hx).1
        have e2 : stepOf es tt n 1 = twin d := by rw [← hn]; exact (step_step hpk.out hTT.out htw).2
        rw [ha] at cA cC
        rw [e1] at cB
        rw [hn] at cN
        rw [e2, twin_twin] at cM
        rw [twin_twin, e1] at cK
        have CA := Lib.hid cA
        have CB := Lib.hid cB
        have CN := Lib.hid cN
        have CM := Lib.hid cM
        have CC := Lib.hid cC
        have CK := Lib.hid cK
        clear cA cB cN cM cC cK ha hn ha2 hn2 e1 e2 htw hx h4 gb4
        go_wp2_with fail
        refine CA.out.mono ?_
        rintro e w5 ⟨rfl, rfl⟩
        go_wp2_with fail
        refine CB.out.mono ?_
        rintro e w5 ⟨rfl, rfl⟩
        go_wp2_with fail
        refine CN.out.mono ?_
        rintro e w5 ⟨rfl, rfl⟩
        go_wp2_with fail
        refine CM.out.mono ?_
        rintro e w5 ⟨rfl, rfl⟩
        go_wp2_with fail
        refine CC.out.mono ?_
        rintro e w5 ⟨rfl, rfl⟩
        go_wp2_with fail
        refine CK.out.mono ?_
        rintro e w5 ⟨rfl, rfl⟩
        have z1 : (d == d) = true := by simp
        go_wp2
        go_ret
        exact ⟨rfl, b1⟩
      · have hdno := Lib.hid hx
        go_wp2_with fail
        refine (t_after_no hrt hx hd).mono ?_
        rintro e w5 ⟨rfl, rfl⟩
        go_wp2_with fail
        refine (t_before_no hrt hx hd).mono ?_
        rintro e w5 ⟨rfl, rfl⟩
        go_wp2_with fail
        refine (t_next_no hrt hx hd).mono ?_
        rintro e w5 ⟨rfl, rfl⟩
        go_wp2_with fail
        refine (t_back_no hrt hx hd).mono ?_
        rintro e w5 ⟨rfl, rfl⟩
        clear hx
        by_cases hneg : d < 0
        · go_wp2
          go_ret
          exact ⟨rfl, b1⟩
        · have hd0 : 0 ≤ d := by omega
          have hd1 := hd.2
          go_wp2_with fail
          refine (in_no w4 _ Ae ne ce xs (d / 2) h4.e hdno.out).mono ?_
          rintro e w5 ⟨rfl, rfl⟩
          go_wp2
          go_ret
          exact ⟨rfl, b1⟩
    · obtain ⟨q, hq⟩ : ∃ q, (if pRight N es vs xs = 0 then 5 else pRight N es vs xs) = q := ⟨_, rfl⟩
      rw [hq]
      have hqb : (q != 0) = true := by
        rw [← hq]
        simp only [bne_iff_ne, ne_eq]
        split <;> omega
      clear hno hq
      go_wp2
      go_ret
      exact ⟨rfl, bstep b1 b4⟩
  · clear hs
    go_wp2_with fail
    refine (awake6_any w3).mono ?_
    rintro e w4 ⟨rfl, b4⟩
    go_wp2
    go_ret
    exact ⟨rfl, bstep (bstep b1 b3) b4⟩
end Go.Proofs.Ythobfbnopkbniaa
