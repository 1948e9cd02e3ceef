/-
  The walk of the law RotaMirror; no conditions.
-/
import Derived.Test.YthobfbnopkbniaaRDo
import Derived.Test.YthobfbnopkbniaaRAwake
import Derived.Test.YthobfbnopkbniaaRTwice
import Derived.Test.YthobfbnopkbniaaREqual
import Derived.Test.YthobfbnopkbniaaRBox
import Derived.Test.YthobfbnopkbniaaRFlip
namespace Go.Proofs.Ythobfbnopkbniaa
open Go.RowKit

theorem t_twin_back {w : World} {r : Nat} {N : Int} {es : List (Int × Int)} {vs xs : List Int} {tt : List (List Int)} {d : Int} (h : RT w r es xs tt) (hp : POK N es vs xs) (hT : TurnOK N es xs tt) (hd : d / 2 ∈ xs) (W : World) (hx : Ext w W) :
    Calls Try.prog 23 #[.pointer (some ⟨r, 0, none⟩), .int .i64 d] W fun e w' => e = .returned (.tuple #[.int .i64 (twin (stepOf es tt d 1)), .bool true]) ∧ W = w' :=
  t_back_yes (RS.step h hx) hp hT hd

set_option maxHeartbeats 2000000 in
set_option maxRecDepth 100000 in
theorem law_RotaMirror (w : World) (N : Int) (A : Option Addr) (m c : Nat) (es : List (Int × Int)) (Av : Option Addr) (nv cv : Nat) (vs : List Int) (Ae : Option Addr) (ne ce : Nat) (xs : List Int) (At : Option Addr) (nt ct : Nat) (tt : List (List Int)) (h : GP w N A m c es Av nv cv vs Ae ne ce xs) (ht : TS w w.heap.size At nt ct tt) :
    Calls Try.prog 9 #[.agg #[.int .i64 N, .slice A m c], .agg #[.slice Av nv cv, .slice Ae ne ce], .slice At nt ct] w fun e w' => e = .returned (.bool true) ∧ Below w.heap.size w w' := by
  obtain ⟨w1, hw1, b1, gb1⟩ := box_gp w N A m c es Av nv cv Ae ne ce
  have h1 := h.step b1
  have t1 := ht.step b1
  clear h ht
  refine (callsIn_wide (n := 5)).1 (callsIn_of_wp_marks Try.func9 rfl trivial (wpIn_wide.2 ?_) rfl)
  simp only [Try.ntmps9, List.size_toArray, List.length_cons, List.length_nil, Nat.reduceAdd, Nat.reduceSub, Array.replicate_succ, Array.replicate_zero, List.push_toArray, List.append_toArray, List.nil_append, List.cons_append]
  obtain ⟨rb, hrb⟩ : ∃ rb, w1.heap.size = rb := ⟨_, rfl⟩
  obtain ⟨w2, hw2, b2, s2, rc2⟩ := box_new w1 (.bool false) 4
  have hrbw : w.heap.size ≤ rb := by rw [← hrb]; exact b1.size
  rw [hrb] at rc2 s2
  have h2 := h1.step b2
  have t2 := t1.step b2
  have gb2 := gb1.step b2
  replace b1 := bstep b1 b2
  clear h1 t1 gb1 b2
  have ⟨_, _, c0, c1, c2, c3, _⟩ := gb2
  go_wp2_with fail
  refine (awake6_any w2).mono ?_
  rintro e w3 ⟨rfl, b3⟩
  have h3 := h2.step b3
  have t3 := t2.step b3
  have gb3 := gb2.step b3
  have rc3 := (b3.block rb s2).trans rc2
  replace b1 := bstep b1 b3
  have s3 : rb < w3.heap.size := by have := b3.size; omega
  clear hw1 hw2 h2 t2 gb2 rc2 b3 c0 c1 c2 c3 s2 hrb
  have ⟨_, _, c0, c1, c2, c3, _⟩ := gb3
  go_wp2_with fail
  refine (small6_any w3 N A m c es Av nv cv vs Ae ne ce xs At nt ct tt h3 t3).mono ?_
  rintro e w4 ⟨⟨hs, rfl⟩ | ⟨hs, rfl⟩, b4⟩
  · have h4 := h3.step b4
    have t4 := t3.step b4
    have gb4 := gb3.step b4
    have rc4 := (b4.block rb s3).trans rc3
    replace b1 := bstep b1 b4
    have s4 : rb < w4.heap.size := by have := b4.size; omega
    clear h3 t3 gb3 rc3 b4 c0 c1 c2 c3 s3
    have ⟨_, _, c0, c1, c2, c3, _⟩ := gb4
    have hm60 := hs.1.1
    have hne60 := hs.1.2.2.1
    have htl := hs.2.1
    have hrow := hs.2.2
    clear hs
    go_wp2_with fail
    refine (new_any w4 N A m c es Av nv cv vs Ae ne ce xs At nt ct tt h4 t4 hm60 hne60).mono ?_
    rintro e w5 ⟨⟨hp, hT, r, rfl, hrs⟩ | ⟨hno, rfl⟩, b5⟩
    · have h5 := h4.step b5
      have t5 := t4.step b5
      have gb5 := gb4.step b5
      have rc5 := (b5.block rb s4).trans rc4
      replace b1 := bstep b1 b5
      have s5 : rb < w5.heap.size := by have := b5.size; omega
      clear h4 t4 gb4 rc4 b5 c0 c1 c2 c3 s4
      have ⟨_, _, c0, c1, c2, c3, _⟩ := gb5
      have HP := Lib.hid hp
      have hpk := Lib.hid (pRight_ok hp)
      have hTT := Lib.hid hT
      clear hp hT
      obtain ⟨rx, hrx⟩ : ∃ rx, w5.heap.size = rx := ⟨_, rfl⟩
      obtain ⟨w6, hw6, b6, s6, pc6⟩ := box_new w5 (.pointer (some ⟨r, 0, none⟩)) 31
      rw [hrx] at s6 pc6
      have hrs6 := RS.step hrs b6
      have rc6 := (b6.block rb s5).trans rc5
      have b16 := bstep b1 b6
      have px6 := box_cell pc6
      have hrb6 : rb < w6.heap.size := by have := b6.size; omega
      have hft : (tt.map first).length ≤ 1024 := by rw [List.length_map]; omega
      have hfl : ∀ t ∈ tt.map first, t.length ≤ 1024 := fun t ht => Nat.le_trans (map_first_len hrow t ht) (by omega)
      have hfk : ((flip tt).map first).length ≤ 1024 := by rw [List.length_map, flip_len]; omega
      have hfm : ∀ t ∈ (flip tt).map first, t.length ≤ 1024 := fun t ht => Nat.le_trans (map_first_len (flip_row hrow) t ht) (by omega)
      have HFL := Lib.hid hfl
      have HFM := Lib.hid hfm
      clear h5 t5 gb5 c0 c1 c2 c3 hrs b6 b1 hrow hfl hfm s5 rc5
      go_wp2_with fail
      clear hw6 hrx pc6
      refine (mirror_any w6 r _ _ _ _ hrs6 hft HFL.out).mono ?_
      rintro e w7 ⟨m1, rfl, hm7, b7⟩
      obtain ⟨mx, hmx⟩ : ∃ mx, w7.heap.size = mx := ⟨_, rfl⟩
      obtain ⟨w8, hw8, b8, s8, mc8⟩ := box_new w7 (.pointer (some ⟨m1, 0, none⟩)) 31
      rw [hmx] at s8 mc8
      have b78 := bstep b7 b8
      have hrs8 := RS.step hrs6 b78
      have hms8 : RT w8 m1 es xs (flip tt) := RS.step hm7 b8
      have rc8 := (b78.block rb hrb6).trans rc6
      have hrb8 : rb < w8.heap.size := by have := b78.size; omega
      have px8 := (b78.cell (p := ⟨rx, 0, none⟩) s6).trans px6
      have rx8 : rx < w8.heap.size := by have := b78.size; omega
      have mx8 := box_cell mc8
      have b18 := bstep b16 b78
      clear b7 b8 b78 hrs6 hm7 rc6 hrb6 px6 s6 b16
      go_wp2_with fail
      clear hw8 hmx mc8
      refine wp_region_rel 7 [[],[0],[0,1],[],[0,1,2,3],[0,1,2,3,4],[0,1,2,3,4,5]]
        [fun v _ => v = .pointer (some ⟨m1, 0, none⟩),
         fun v w' => ∃ q pl, v = .pointer (some ⟨q, 0, none⟩) ∧ RS w' q (lvOf es xs) ((flip (flip tt)).map first) pl (allDarts xs),
         fun v w' => ∃ A' n' c', v = .slice A' n' c' ∧ TS w' w'.heap.size A' n' c' (tt.map first),
         fun v _ => v = .pointer (some ⟨r, 0, none⟩),
         fun v w' => ∃ A' n' c', v = .slice A' n' c' ∧ TS w' w'.heap.size A' n' c' (tt.map first),
         fun v _ => v = .bool true,
         fun v _ => v = .bool false]
        (by kernel_rfl) (by kernel_rfl) rfl ⟨?_, ?_, ?_, ?_, ?_, ?_, ?_, trivial⟩ ?_
      · intro wr hx v0 h0 v1 h1 v2 h2 v3 h3 v4 h4 v5 h5 v6 h6 K hK
        have px := (hx.cell (p := ⟨rx, 0, none⟩) rx8).trans px8
        have qm := (hx.cell (p := ⟨mx, 0, none⟩) s8).trans mx8
        simp only [Act.put, List.setIfInBounds_toArray, List.set_cons_zero, List.set_cons_succ] at hK ⊢
        clear h0 h1 h2 h3 h4 h5 h6
        go_wp2
        exact hK _ _ (Ext.refl _) (fun _ _ => rfl)
      · intro wr hx v0 h0 v1 h1 v2 h2 v3 h3 v4 h4 v5 h5 v6 h6 K hK
        have px := (hx.cell (p := ⟨rx, 0, none⟩) rx8).trans px8
        have qm := (hx.cell (p := ⟨mx, 0, none⟩) s8).trans mx8
        simp only [Act.put, List.setIfInBounds_toArray, List.set_cons_zero, List.set_cons_succ] at hK ⊢
        obtain rfl := (h0 (by decide)).now
        clear h0 h1 h2 h3 h4 h5 h6
        go_wp2_with fail
        refine (mirror_any _ m1 _ _ _ _ (RS.step hms8 hx) hfk HFM.out).mono ?_
        rintro e w9 ⟨q9, rfl, hq9, b9⟩
        go_wp2
        exact hK _ _ b9 (fun w' hx' => ⟨_, _, rfl, RS.step hq9 hx'⟩)
      · intro wr hx v0 h0 v1 h1 v2 h2 v3 h3 v4 h4 v5 h5 v6 h6 K hK
        have px := (hx.cell (p := ⟨rx, 0, none⟩) rx8).trans px8
        have qm := (hx.cell (p := ⟨mx, 0, none⟩) s8).trans mx8
        simp only [Act.put, List.setIfInBounds_toArray, List.set_cons_zero, List.set_cons_succ] at hK ⊢
        obtain ⟨q9, pl9, rfl, hq9⟩ := (h1 (by decide)).now
        clear h0 h1 h2 h3 h4 h5 h6
        go_wp2_with fail
        rw [flip_flip hTT.out] at hq9
        refine (turn_any _ q9 _ _ _ _ hq9 hft HFL.out).mono ?_
        rintro e w9 ⟨A9, n9, c9, rfl, t9, b9⟩
        go_wp2
        exact hK _ _ b9 (fun w' hx' => ⟨_, _, _, rfl, t9.step hx'⟩)
      · intro wr hx v0 h0 v1 h1 v2 h2 v3 h3 v4 h4 v5 h5 v6 h6 K hK
        have px := (hx.cell (p := ⟨rx, 0, none⟩) rx8).trans px8
        have qm := (hx.cell (p := ⟨mx, 0, none⟩) s8).trans mx8
        simp only [Act.put, List.setIfInBounds_toArray, List.set_cons_zero, List.set_cons_succ] at hK ⊢
        clear h0 h1 h2 h3 h4 h5 h6
        go_wp2
        exact hK _ _ (Ext.refl _) (fun _ _ => rfl)
      · intro wr hx v0 h0 v1 h1 v2 h2 v3 h3 v4 h4 v5 h5 v6 h6 K hK
        have px := (hx.cell (p := ⟨rx, 0, none⟩) rx8).trans px8
        have qm := (hx.cell (p := ⟨mx, 0, none⟩) s8).trans mx8
        simp only [Act.put, List.setIfInBounds_toArray, List.set_cons_zero, List.set_cons_succ] at hK ⊢
        obtain rfl := (h3 (by decide)).now
        clear h0 h1 h2 h3 h4 h5 h6
        go_wp2_with fail
        refine (turn_any _ r _ _ _ _ (RS.step hrs8 hx) hft HFL.out).mono ?_
        rintro e w9 ⟨A9, n9, c9, rfl, t9, b9⟩
        go_wp2
        exact hK _ _ b9 (fun w' hx' => ⟨_, _, _, rfl, t9.step hx'⟩)
      · intro wr hx v0 h0 v1 h1 v2 h2 v3 h3 v4 h4 v5 h5 v6 h6 K hK
        have px := (hx.cell (p := ⟨rx, 0, none⟩) rx8).trans px8
        have qm := (hx.cell (p := ⟨mx, 0, none⟩) s8).trans mx8
        simp only [Act.put, List.setIfInBounds_toArray, List.set_cons_zero, List.set_cons_succ] at hK ⊢
        obtain ⟨A8, n8, c8, rfl, t8⟩ := (h2 (by decide)).now
        obtain ⟨A9, n9, c9, rfl, t9⟩ := (h4 (by decide)).now
        clear h0 h1 h2 h3 h4 h5 h6
        go_wp2_with fail
        refine (equal6_any _ _ _ _ _ _ _ _ _ _ _ t8 t9 (Nat.le_refl _) (Nat.le_refl _)).mono ?_
        rintro e w9 ⟨rfl, b9⟩
        rw [decide_eq_true rfl]
        go_wp2
        exact hK _ _ b9 (fun _ _ => rfl)
      · intro wr hx v0 h0 v1 h1 v2 h2 v3 h3 v4 h4 v5 h5 v6 h6 K hK
        have px := (hx.cell (p := ⟨rx, 0, none⟩) rx8).trans px8
        have qm := (hx.cell (p := ⟨mx, 0, none⟩) s8).trans mx8
        simp only [Act.put, List.setIfInBounds_toArray, List.set_cons_zero, List.set_cons_succ] at hK ⊢
        obtain rfl := (h5 (by decide)).now
        clear h0 h1 h2 h3 h4 h5 h6
        go_wp2
        exact hK _ _ (Ext.refl _) (fun _ _ => rfl)
      intro wr hx v0 h0 v1 h1 v2 h2 v3 h3 v4 h4 v5 h5 v6 h6
      have px := (hx.cell (p := ⟨rx, 0, none⟩) rx8).trans px8
      have qm := (hx.cell (p := ⟨mx, 0, none⟩) s8).trans mx8
      obtain rfl := h6.now
      clear h0 h1 h2 h3 h4 h5 h6
      refine tail_none (by kernel_rfl) ?_
      simp only [Act.put, List.setIfInBounds_toArray, List.set_cons_zero, List.set_cons_succ]
      have hrsA := RS.step hrs8 hx
      have hmsA : RT wr m1 es xs (flip tt) := RS.step hms8 hx
      have rcA := (hx.block rb hrb8).trans rc8
      have pxA := (hx.cell (p := ⟨rx, 0, none⟩) rx8).trans px8
      have mxA := (hx.cell (p := ⟨mx, 0, none⟩) s8).trans mx8
      have b1A := bstep b18 hx
      have hz := hx.size
      clear hrs8 hms8 rc8 px8 mx8 b18 hx
      have hrbA : rb < wr.heap.size := by omega
      have rxA : rx < wr.heap.size := by omega
      have sxA : mx < wr.heap.size := by omega
      clear hz hrb8 rx8 s8
      go_wp2_with fail
      refine (darts_any wr (some ⟨r, 0, none⟩)).mono ?_
      rintro e w9 ⟨bx, rfl, bc9, hbx, bx9, b9⟩
      have hrs9 := RS.step hrsA b9
      have hms9 : RT w9 m1 es xs (flip tt) := RS.step hmsA b9
      have rc9 := (b9.block rb hrbA).trans rcA
      have px9 := (b9.cell (p := ⟨rx, 0, none⟩) rxA).trans pxA
      have sc9 := (b9.cell (p := ⟨mx, 0, none⟩) sxA).trans mxA
      have b19 := bstep b1A b9
      have hz := b9.size
      clear hrsA hmsA rcA pxA mxA b1A b9
      go_wp2_with fail
      obtain ⟨Ad, nd, cd, hnd, hdi⟩ := hrs9.di (bx := bx)
      replace hdi := hdi bc9
      have hr9 : r < w9.heap.size := hrs9.lt
      have hrb9 : rb < w9.heap.size := by omega
      have rx9 : rx < w9.heap.size := by omega
      have sx9 : mx < w9.heap.size := by omega
      clear hbx bc9 hz hrbA rxA sxA
      refine wp_range_darts_v (bx := bx) (p := some ⟨r, 0, none⟩) (Ad := Ad) (nd := nd) (cd := cd) (B := w9.heap.size) (ds := allDarts xs) rfl (fun _ W => Ext w9 W) (fun _ _ => False) ?sI ?sX ?D (Ext.refl _) (by simp) ?body ?done ?stop
      case sI => exact fun _ W W' hw ha => Below.trans hw (ha.below hw.size)
      case sX => exact fun _ _ _ h _ => h
      case D => exact fun _ W hw => hdi.below (Nat.le_refl _) bx9 (fun a ha => by cases ha; exact hr9) hw
      case stop => exact fun _ _ _ _ h _ => h.elim
      case body =>
        intro l n k W hi hk
        have hxm : (allDarts xs).getD k 0 / 2 ∈ xs := by
          rw [← mem_allDarts, getD_idx (by omega)]
          exact List.getElem_mem _
        have htm : twin ((allDarts xs).getD k 0) / 2 ∈ xs := by rw [twin_half]; exact hxm
        have hrW : RT W r es xs tt := RS.step hrs9 hi
        have hmW : RT W m1 es xs (flip tt) := RS.step hms9 hi
        have c1 := t_next_yes hmW hpk.out hTT.out.flip hxm
        have hsm := (step_mem hpk.out hTT.out htm 1).1
        rw [step_flip hpk.out hTT.out htm] at c1
        have c2 := t_twin_back hrs9 hpk.out hTT.out htm
        have px := (hi.cell (p := ⟨rx, 0, none⟩) rx9).trans px9
        have sc := (hi.cell (p := ⟨mx, 0, none⟩) sx9).trans sc9
        have hx64 := dart_i64 hpk.out hxm
        have hy64 := dart_i64 hpk.out (show twin (stepOf es tt (twin ((allDarts xs).getD k 0)) 1) / 2 ∈ xs by rw [twin_half]; exact hsm)
        obtain ⟨x, hx⟩ : ∃ x, (allDarts xs).getD k 0 = x := ⟨_, rfl⟩
        rw [hx] at c1 c2 hy64 hx64 hxm htm
        obtain ⟨y, hy⟩ : ∃ y, stepOf es tt (twin x) 1 = y := ⟨_, rfl⟩
        rw [hy] at c1 c2 hy64
        obtain ⟨tx, htx⟩ : ∃ tx, twin x = tx := ⟨_, rfl⟩
        rw [htx] at c2
        obtain ⟨ty, hty⟩ : ∃ ty, twin y = ty := ⟨_, rfl⟩
        rw [hty] at c2 hy64
        have htt : twin ty = y := by rw [← hty, twin_twin]
        have htw := twin_any W x hx64.1 (by omega)
        rw [htx] at htw
        have HTX := Lib.hid htx
        have HTT := Lib.hid htt
        have C1 := Lib.hid c1
        have C2 := Lib.hid c2
        rw [hx]
        have HI := Lib.hid hi
        have rxW : rx < W.heap.size := by have := hi.size; omega
        have mxW : mx < W.heap.size := by have := hi.size; omega
        clear hx hy hxm hi hdi hrs9 hms9 px9 sc9 rc9 hrW hmW c1 c2 hsm htm htx hty htw htt
        simp only [List.setIfInBounds_toArray, List.set_cons_zero, List.set_cons_succ]
        gi_step
        gi_step
        refine rnd_region rfl (fun ⟨_, _, h⟩ => h) ?_
        go_wp2_with fail
        refine C1.out.mono ?_
        rintro e W1 ⟨rfl, rfl⟩
        go_wp2_with fail
        gi_step
        refine rnd_region_rel 9 [[],[],[1],[0,1,2],[0,1,2,3],[0,1,2,3,4],[0,1,2,3,4],[0,1,2,3,4,5],[0,1,2,3,4,5,6,7]]
          [fun v _ => v = .pointer (some ⟨r, 0, none⟩),
           fun v _ => v = .int .i64 x,
           fun v _ => v = .int .i64 tx,
           fun v _ => v = .tuple #[.int .i64 ty, .bool true],
           fun v _ => v = .tuple #[.int .i64 ty, .bool true],
           fun v _ => v = .int .i64 ty,
           fun v _ => v = .bool true,
           fun v _ => v = .int .i64 ty,
           fun v _ => v = .bool true]
          (by kernel_rfl) (by rintro ⟨_, _, h⟩; exact h) (by kernel_rfl) (by kernel_rfl) rfl ⟨?_, ?_, ?_, ?_, ?_, ?_, ?_, ?_, ?_, trivial⟩ ?_
        · intro wr hx v0 h0 v1 h1 v2 h2 v3 h3 v4 h4 v5 h5 v6 h6 v7 h7 v8 h8 K hK
          have p1 := (hx.cell (p := ⟨rx, 0, none⟩) rxW).trans px
          simp only [Act.put, List.setIfInBounds_toArray, List.set_cons_zero, List.set_cons_succ] at hK ⊢
          clear h0 h1 h2 h3 h4 h5 h6 h7 h8
          go_wp2
          exact hK _ _ (Ext.refl _) (fun _ _ => rfl)
        · intro wr hx v0 h0 v1 h1 v2 h2 v3 h3 v4 h4 v5 h5 v6 h6 v7 h7 v8 h8 K hK
          have p1 := (hx.cell (p := ⟨rx, 0, none⟩) rxW).trans px
          simp only [Act.put, List.setIfInBounds_toArray, List.set_cons_zero, List.set_cons_succ] at hK ⊢
          clear h0 h1 h2 h3 h4 h5 h6 h7 h8
          go_wp2
          exact hK _ _ (Ext.refl _) (fun _ _ => rfl)
        · intro wr hx v0 h0 v1 h1 v2 h2 v3 h3 v4 h4 v5 h5 v6 h6 v7 h7 v8 h8 K hK
          have p1 := (hx.cell (p := ⟨rx, 0, none⟩) rxW).trans px
          simp only [Act.put, List.setIfInBounds_toArray, List.set_cons_zero, List.set_cons_succ] at hK ⊢
          obtain rfl := (h1 (by decide)).now
          clear h0 h1 h2 h3 h4 h5 h6 h7 h8
          go_wp2_with fail
          refine (twin_any wr x hx64.1 (by omega)).mono ?_
          rintro e w9 ⟨rfl, rfl⟩
          rw [HTX.out]
          go_wp2
          exact hK _ _ (Ext.refl _) (fun _ _ => rfl)
        · intro wr hx v0 h0 v1 h1 v2 h2 v3 h3 v4 h4 v5 h5 v6 h6 v7 h7 v8 h8 K hK
          have p1 := (hx.cell (p := ⟨rx, 0, none⟩) rxW).trans px
          simp only [Act.put, List.setIfInBounds_toArray, List.set_cons_zero, List.set_cons_succ] at hK ⊢
          obtain rfl := (h0 (by decide)).now
          obtain rfl := (h2 (by decide)).now
          clear h0 h1 h2 h3 h4 h5 h6 h7 h8
          go_wp2_with fail
          refine (C2.out wr (HI.out.trans hx)).mono ?_
          rintro e w9 ⟨rfl, rfl⟩
          go_wp2
          exact hK _ _ (Ext.refl _) (fun _ _ => rfl)
        · intro wr hx v0 h0 v1 h1 v2 h2 v3 h3 v4 h4 v5 h5 v6 h6 v7 h7 v8 h8 K hK
          have p1 := (hx.cell (p := ⟨rx, 0, none⟩) rxW).trans px
          simp only [Act.put, List.setIfInBounds_toArray, List.set_cons_zero, List.set_cons_succ] at hK ⊢
          obtain rfl := (h3 (by decide)).now
          clear h0 h1 h2 h3 h4 h5 h6 h7 h8
          go_wp2
          exact hK _ _ (Ext.refl _) (fun _ _ => rfl)
        · intro wr hx v0 h0 v1 h1 v2 h2 v3 h3 v4 h4 v5 h5 v6 h6 v7 h7 v8 h8 K hK
          have p1 := (hx.cell (p := ⟨rx, 0, none⟩) rxW).trans px
          simp only [Act.put, List.setIfInBounds_toArray, List.set_cons_zero, List.set_cons_succ] at hK ⊢
          obtain rfl := (h4 (by decide)).now
          clear h0 h1 h2 h3 h4 h5 h6 h7 h8
          go_wp2
          exact hK _ _ (Ext.refl _) (fun _ _ => rfl)
        · intro wr hx v0 h0 v1 h1 v2 h2 v3 h3 v4 h4 v5 h5 v6 h6 v7 h7 v8 h8 K hK
          have p1 := (hx.cell (p := ⟨rx, 0, none⟩) rxW).trans px
          simp only [Act.put, List.setIfInBounds_toArray, List.set_cons_zero, List.set_cons_succ] at hK ⊢
          obtain rfl := (h4 (by decide)).now
          clear h0 h1 h2 h3 h4 h5 h6 h7 h8
          go_wp2
          exact hK _ _ (Ext.refl _) (fun _ _ => rfl)
        · intro wr hx v0 h0 v1 h1 v2 h2 v3 h3 v4 h4 v5 h5 v6 h6 v7 h7 v8 h8 K hK
          have p1 := (hx.cell (p := ⟨rx, 0, none⟩) rxW).trans px
          simp only [Act.put, List.setIfInBounds_toArray, List.set_cons_zero, List.set_cons_succ] at hK ⊢
          obtain rfl := (h5 (by decide)).now
          clear h0 h1 h2 h3 h4 h5 h6 h7 h8
          go_wp2
          exact hK _ _ (Ext.refl _) (fun _ _ => rfl)
        · intro wr hx v0 h0 v1 h1 v2 h2 v3 h3 v4 h4 v5 h5 v6 h6 v7 h7 v8 h8 K hK
          have p1 := (hx.cell (p := ⟨rx, 0, none⟩) rxW).trans px
          simp only [Act.put, List.setIfInBounds_toArray, List.set_cons_zero, List.set_cons_succ] at hK ⊢
          obtain rfl := (h6 (by decide)).now
          clear h0 h1 h2 h3 h4 h5 h6 h7 h8
          go_wp2
          exact hK _ _ (Ext.refl _) (fun _ _ => rfl)
        intro wr hx v0 h0 v1 h1 v2 h2 v3 h3 v4 h4 v5 h5 v6 h6 v7 h7 v8 h8
        have p1 := (hx.cell (p := ⟨rx, 0, none⟩) rxW).trans px
        obtain rfl := h7.now
        obtain rfl := h8.now
        clear h0 h1 h2 h3 h4 h5 h6 h7 h8
        refine tail_none (by kernel_rfl) ?_
        simp only [Act.put, List.setIfInBounds_toArray, List.set_cons_zero, List.set_cons_succ]
        gi_step
        gi_step
        gi_step
        refine rnd_region rfl (fun ⟨_, _, h⟩ => h) ?_
        go_wp2_with fail
        refine (twin_any wr ty hy64.1 (by omega)).mono ?_
        rintro e w9 ⟨rfl, rfl⟩
        rw [HTT.out]
        go_wp2_with fail
        gi_step
        gi_step
        gi_step
        exact ⟨keepsFrom_ext hx, HI.out.trans hx⟩
      case done =>
        intro D W hD hW hDef
        have rcW := (hW.block rb hrb9).trans rc9
        have q1 := box_cell rcW
        have q2 := box_frozen rcW
        have bW := bstep b19 hW
        have hDw : w.heap.size ≤ D := by have := b19.size; omega
        clear hdi hrs9 hms9 px9 sc9 rc9
        go_wp2_with fail
        exact leave_set_mark rfl rfl rcW hDef ⟨rfl, below_mark (bW.setCell (p := ⟨rb, 0, none⟩) hrbw _) hDw⟩
    · obtain ⟨q, hq⟩ : ∃ q, (if pRight N es vs xs = 0 then 5 else pRight N es vs xs) = q := ⟨_, rfl⟩
      rw [hq]
      have hqb : (q != 0) = true := by
        rw [← hq]
        simp only [bne_iff_ne, ne_eq]
        split <;> omega
      obtain ⟨w6, hw6, b6, s6, pc6⟩ := box_new w5 (.pointer none) 31
      have rc5 := (b5.block rb s4).trans rc4
      have rc6 := (b6.block rb (by have := b5.size; omega)).trans rc5
      have b16 := bstep (bstep b1 b5) b6
      have px6 := box_cell pc6
      have q1 := box_cell rc6
      have q2 := box_frozen rc6
      subst hw6
      clear hno hq b5 b6 rc4 rc5
      go_wp2_with fail
      exact leave_set rfl rfl rc6 ⟨rfl, b16.setCell (p := ⟨rb, 0, none⟩) hrbw _⟩
  · clear hs
    have rc4 := (b4.block rb s3).trans rc3
    have s4 : rb < w4.heap.size := by have := b4.size; omega
    replace b1 := bstep b1 b4
    clear b4
    go_wp2_with fail
    refine (awake6_any w4).mono ?_
    rintro e w5 ⟨rfl, b5⟩
    have rc5 := (b5.block rb s4).trans rc4
    have q1 := box_cell rc5
    have q2 := box_frozen rc5
    go_wp2_with fail
    exact leave_set rfl rfl rc5 ⟨rfl, (bstep b1 b5).setCell (p := ⟨rb, 0, none⟩) hrbw _⟩
end Go.Proofs.Ythobfbnopkbniaa
