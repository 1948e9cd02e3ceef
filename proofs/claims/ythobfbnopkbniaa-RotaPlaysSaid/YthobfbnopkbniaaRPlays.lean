/-
  The walk of the law RotaPlays; no conditions.
-/
import Derived.Test.YthobfbnopkbniaaRDo
import Derived.Test.YthobfbnopkbniaaRAwake
import Derived.Test.YthobfbnopkbniaaREqual
import Derived.Test.YthobfbnopkbniaaRBox
import Derived.Test.YthobfbnopkbniaaRRefS
namespace Go.Proofs.Ythobfbnopkbniaa
open Go.RowKit

/-- What the law's walk stands on: a graph, a part, lists in boxes; the result's box. -/
structure Stand (w0 W : World) (tb rb : Nat) (N : Int) (A : Option Addr) (m c : Nat) (es : List (Int × Int)) (Av : Option Addr) (nv cv : Nat) (vs : List Int) (Ae : Option Addr) (ne ce : Nat) (xs : List Int) (At : Option Addr) (nt ct : Nat) (tt : List (List Int)) : Prop where
  gp : GP W N A m c es Av nv cv vs Ae ne ce xs
  ts : TS W W.heap.size At nt ct tt
  gb : GB W w0.heap.size (w0.heap.size + 1) N A m c es Av nv cv Ae ne ce
  tc : W.heap[tb]? = some (.cells #[.slice At nt ct] 28 (0, 0))
  rc : W.heap[rb]? = some (.cells #[.bool false] 4 (0, 0))
  below : Below w0.heap.size w0 W
section
variable {w0 W W' : World} {tb rb : Nat} {N : Int} {A : Option Addr} {m c : Nat} {es : List (Int × Int)} {Av : Option Addr} {nv cv : Nat} {vs : List Int} {Ae : Option Addr} {ne ce : Nat} {xs : List Int} {At : Option Addr} {nt ct : Nat} {tt : List (List Int)}
theorem Stand.step (h : Stand w0 W tb rb N A m c es Av nv cv vs Ae ne ce xs At nt ct tt) (hb : Below W.heap.size W W') : Stand w0 W' tb rb N A m c es Av nv cv vs Ae ne ce xs At nt ct tt :=
  ⟨h.gp.step hb, h.ts.step hb, h.gb.step hb, (hb.block _ (Array.getElem?_eq_some_iff.1 h.tc).1).trans h.tc, (hb.block _ (Array.getElem?_eq_some_iff.1 h.rc).1).trans h.rc, bstep h.below hb⟩
theorem Stand.tcell (h : Stand w0 W tb rb N A m c es Av nv cv vs Ae ne ce xs At nt ct tt) : W.cell? ⟨tb, 0, none⟩ = some (.slice At nt ct) := box_cell h.tc
theorem Stand.rcell (h : Stand w0 W tb rb N A m c es Av nv cv vs Ae ne ce xs At nt ct tt) : W.cell? ⟨rb, 0, none⟩ = some (.bool false) ∧ W.frozen? ⟨rb, 0, none⟩ = false := ⟨box_cell h.rc, box_frozen h.rc⟩
theorem Stand.lt (h : Stand w0 W tb rb N A m c es Av nv cv vs Ae ne ce xs At nt ct tt) : rb < W.heap.size := (Array.getElem?_eq_some_iff.1 h.rc).1
end
theorem stand_start (w : World) (N : Int) (A : Option Addr) (m c : Nat) (es : List (Int × Int)) (Av : Option Addr) (nv cv : Nat) (vs : List Int) (Ae : Option Addr) (ne ce : Nat) (xs : List Int) (At : Option Addr) (nt ct : Nat) (tt : List (List Int)) (h : GP w N A m c es Av nv cv vs Ae ne ce xs) (ht : TS w w.heap.size At nt ct tt) :
    ∃ w1 w2 w3 tb rb, (w.alloc (.cells #[.int .i64 N, .slice A m c] 24)).alloc (.cells #[.slice Av nv cv, .slice Ae ne ce] 27) = w1 ∧ w1.heap.size = tb ∧ w1.alloc (.cells #[.slice At nt ct] 28) = w2 ∧ w2.heap.size = rb ∧
      w2.alloc (.cells #[.bool false] 4) = w3 ∧ w.heap.size ≤ rb ∧ Stand w w3 tb rb N A m c es Av nv cv vs Ae ne ce xs At nt ct tt := by
  obtain ⟨w1, hw1, b1, gb1⟩ := box_gp w N A m c es Av nv cv Ae ne ce
  obtain ⟨w2, hw2, b2, s2, c2⟩ := box_new w1 (.slice At nt ct) 28
  obtain ⟨w3, hw3, b3, s3, c3⟩ := box_new w2 (.bool false) 4
  have b := bstep (bstep b1 b2) b3
  have hs := (bstep b1 b2).size
  exact ⟨w1, w2, w3, _, _, hw1, rfl, hw2, rfl, hw3, hs, h.step b, ht.step b, gb1.step (bstep b2 b3), (b3.block _ s2).trans c2, c3, b⟩

theorem allDarts_get : ∀ {xs : List Int} {k : Nat}, k < 2 * xs.length → (allDarts xs).getD k 0 = 2 * xs.getD (k / 2) 0 + ((k % 2 : Nat) : Int)
  | [], _, h => absurd h (by simp)
  | x :: xs, 0, _ => by simp [allDarts]
  | x :: xs, 1, _ => by simp [allDarts]
  | x :: xs, k + 2, h => by
    have h' : k < 2 * xs.length := by simp at h; omega
    have ih := allDarts_get h'
    have e1 : (k + 2) / 2 = k / 2 + 1 := by omega
    have e2 : (k + 2) % 2 = k % 2 := by omega
    rw [e1, e2]
    simp only [allDarts, List.getD_cons_succ]
    exact ih

set_option maxHeartbeats 4000000 in
set_option maxRecDepth 100000 in
theorem law_RotaPlays (w : World) (N : Int) (A : Option Addr) (m c : Nat) (es : List (Int × Int)) (Av : Option Addr) (nv cv : Nat) (vs : List Int) (Ae : Option Addr) (ne ce : Nat) (xs : List Int) (At : Option Addr) (nt ct : Nat) (tt : List (List Int)) (h : GP w N A m c es Av nv cv vs Ae ne ce xs) (ht : TS w w.heap.size At nt ct tt) :
    Calls Try.prog 7 #[.agg #[.int .i64 N, .slice A m c], .agg #[.slice Av nv cv, .slice Ae ne ce], .slice At nt ct] w fun e w' => e = .returned (.bool true) ∧ Below w.heap.size w w' := by
  obtain ⟨w1, w2, w3, tb, rb, hw1, htb, hw2, hrb, hw3, hrbw, st3⟩ := stand_start w N A m c es Av nv cv vs Ae ne ce xs At nt ct tt h ht
  clear h ht
  refine (callsIn_wide (n := 5)).1 (callsIn_of_wp_marks Try.func7 rfl trivial (wpIn_wide.2 ?_) rfl)
  simp only [Try.ntmps7, List.size_toArray, List.length_cons, List.length_nil, Nat.reduceAdd, Nat.reduceSub, Array.replicate_succ, Array.replicate_zero, List.push_toArray, List.append_toArray, List.nil_append, List.cons_append]
  go_wp2_with fail
  clear hw1 hw2 hw3 htb hrb
  refine (awake6_any w3).mono ?_
  rintro e w4 ⟨rfl, b4⟩
  have st4 := st3.step b4
  clear st3 b4
  have ⟨_, _, c0, c1, c2, c3, _⟩ := st4.gb
  have tc := st4.tcell
  go_wp2_with fail
  refine (small6_any w4 N A m c es Av nv cv vs Ae ne ce xs At nt ct tt st4.gp st4.ts).mono ?_
  rintro e w5 ⟨⟨hs, rfl⟩ | ⟨hs, rfl⟩, b5⟩
  · have st5 := st4.step b5
    clear st4 b5 c0 c1 c2 c3 tc
    have ⟨_, _, c0, c1, c2, c3, _⟩ := st5.gb
    have tc := st5.tcell
    have hm60 := hs.1.1
    have hne60 := hs.1.2.2.1
    have htl := hs.2.1
    have hrow := Lib.hid hs.2.2
    clear hs
    go_wp2_with fail
    refine (new_any w5 N A m c es Av nv cv vs Ae ne ce xs At nt ct tt st5.gp st5.ts hm60 hne60).mono ?_
    rintro e w6 ⟨⟨hp, hT, r, rfl, hrs⟩ | ⟨hno, rfl⟩, b6⟩
    · have st6 := st5.step b6
      clear st5 b6 c0 c1 c2 c3 tc
      have HP := Lib.hid hp
      have hpk := Lib.hid (pRight_ok hp)
      have hTT := Lib.hid hT
      clear hp hT
      obtain ⟨rx, hrx⟩ : ∃ rx, w6.heap.size = rx := ⟨_, rfl⟩
      obtain ⟨w7, hw7, b7, s7, pc7⟩ := box_new w6 (.pointer (some ⟨r, 0, none⟩)) 31
      rw [hrx] at s7 pc7
      have st7 := st6.step b7
      have hrs7 := RS.step hrs b7
      have px7 := box_cell pc7
      clear st6 hrs b7 pc7
      have ⟨_, _, c0, c1, c2, c3, _⟩ := st7.gb
      have tc := st7.tcell
      have hft : (tt.map first).length ≤ 1024 := by rw [List.length_map]; omega
      have HFL := Lib.hid (show ∀ t ∈ tt.map first, t.length ≤ 1024 from fun t ht => Nat.le_trans (map_first_len hrow.out t ht) (by omega))
      have HFT := Lib.hid (show ∀ t ∈ tt, t.length ≤ 1024 from fun t ht => Nat.le_trans (hrow.out t ht) (by omega))
      have hntt : nt ≤ 1024 := by rw [← st7.ts.len]; omega
      go_wp2_with fail
      clear hw7 hrx
      refine (right6_any w7 N A m c es Av nv cv vs Ae ne ce xs At nt ct tt st7.gp st7.ts hm60 hne60).mono ?_
      rintro e w8 ⟨⟨q, rfl, hq⟩, b8⟩
      obtain rfl : q = 0 := by
        rcases hq with ⟨h1, _⟩ | ⟨_, _, h⟩ | ⟨_, h1, _⟩
        · exact absurd HP.out h1
        · exact h
        · exact absurd hTT.out h1
      have st8 := st7.step b8
      have hrs8 := RS.step hrs7 b8
      have px8 := (b8.cell (p := ⟨rx, 0, none⟩) s7).trans px7
      have rx8 : rx < w8.heap.size := by have := b8.size; omega
      clear hq st7 hrs7 px7 b8 s7 c0 c1 c2 c3 tc
      go_wp2_with fail
      refine wp_region_rel 10 [[],[0],[0,1],[0,1,2],[0,1,2,3],[0,1,2],[0,1,2,3,4,5],[0,1,2,3,4,5,6],[0,1,2,3,4,5,6,7],[0,1,2,3,4,5,6,7,8]]
        [fun v _ => v = .int .i64 0,
         fun v _ => v = .bool false,
         fun v _ => v = .bool false,
         fun v _ => v = .pointer (some ⟨r, 0, none⟩),
         fun v w' => ∃ A' n' c', v = .slice A' n' c' ∧ TS w' w'.heap.size A' n' c' (tt.map first),
         fun v _ => v = .slice At nt ct,
         fun v w' => ∃ A' n' c', v = .slice A' n' c' ∧ TS w' w'.heap.size A' n' c' (tt.map first),
         fun v _ => v = .bool true,
         fun v _ => v = .bool false,
         fun v _ => v = .bool false]
        (by kernel_rfl) (by kernel_rfl) rfl ⟨?_, ?_, ?_, ?_, ?_, ?_, ?_, ?_, ?_, ?_, trivial⟩ ?_
      · intro wr hx v0 h0 v1 h1 v2 h2 v3 h3 v4 h4 v5 h5 v6 h6 v7 h7 v8 h8 v9 h9 K hK
        have px := (hx.cell (p := ⟨rx, 0, none⟩) rx8).trans px8
        have tc := (st8.step hx).tcell
        simp only [Act.put, List.setIfInBounds_toArray, List.set_cons_zero, List.set_cons_succ] at hK ⊢
        clear h0 h1 h2 h3 h4 h5 h6 h7 h8 h9
        go_wp2
        exact hK _ _ (Ext.refl _) (fun _ _ => rfl)
      · intro wr hx v0 h0 v1 h1 v2 h2 v3 h3 v4 h4 v5 h5 v6 h6 v7 h7 v8 h8 v9 h9 K hK
        have px := (hx.cell (p := ⟨rx, 0, none⟩) rx8).trans px8
        have tc := (st8.step hx).tcell
        simp only [Act.put, List.setIfInBounds_toArray, List.set_cons_zero, List.set_cons_succ] at hK ⊢
        obtain rfl := (h0 (by decide)).now
        clear h0 h1 h2 h3 h4 h5 h6 h7 h8 h9
        go_wp2
        exact hK _ _ (Ext.refl _) (fun _ _ => rfl)
      · intro wr hx v0 h0 v1 h1 v2 h2 v3 h3 v4 h4 v5 h5 v6 h6 v7 h7 v8 h8 v9 h9 K hK
        have px := (hx.cell (p := ⟨rx, 0, none⟩) rx8).trans px8
        have tc := (st8.step hx).tcell
        simp only [Act.put, List.setIfInBounds_toArray, List.set_cons_zero, List.set_cons_succ] at hK ⊢
        obtain rfl := (h1 (by decide)).now
        clear h0 h1 h2 h3 h4 h5 h6 h7 h8 h9
        go_wp2
        exact hK _ _ (Ext.refl _) (fun _ _ => rfl)
      · intro wr hx v0 h0 v1 h1 v2 h2 v3 h3 v4 h4 v5 h5 v6 h6 v7 h7 v8 h8 v9 h9 K hK
        have px := (hx.cell (p := ⟨rx, 0, none⟩) rx8).trans px8
        have tc := (st8.step hx).tcell
        simp only [Act.put, List.setIfInBounds_toArray, List.set_cons_zero, List.set_cons_succ] at hK ⊢
        obtain rfl := (h2 (by decide)).now
        clear h0 h1 h2 h3 h4 h5 h6 h7 h8 h9
        go_wp2
        exact hK _ _ (Ext.refl _) (fun _ _ => rfl)
      · intro wr hx v0 h0 v1 h1 v2 h2 v3 h3 v4 h4 v5 h5 v6 h6 v7 h7 v8 h8 v9 h9 K hK
        have px := (hx.cell (p := ⟨rx, 0, none⟩) rx8).trans px8
        have tc := (st8.step hx).tcell
        simp only [Act.put, List.setIfInBounds_toArray, List.set_cons_zero, List.set_cons_succ] at hK ⊢
        obtain rfl := (h2 (by decide)).now
        obtain rfl := (h3 (by decide)).now
        clear h0 h1 h2 h3 h4 h5 h6 h7 h8 h9
        go_wp2_with fail
        refine (turn_any _ r _ _ _ _ (RS.step hrs8 hx) hft HFL.out).mono ?_
        rintro e w9 ⟨A9, n9, c9, rfl, t9, b9⟩
        go_wp2
        exact hK _ _ b9 (fun w' hx' => ⟨_, _, _, rfl, t9.step hx'⟩)
      · intro wr hx v0 h0 v1 h1 v2 h2 v3 h3 v4 h4 v5 h5 v6 h6 v7 h7 v8 h8 v9 h9 K hK
        have px := (hx.cell (p := ⟨rx, 0, none⟩) rx8).trans px8
        have tc := (st8.step hx).tcell
        simp only [Act.put, List.setIfInBounds_toArray, List.set_cons_zero, List.set_cons_succ] at hK ⊢
        obtain rfl := (h2 (by decide)).now
        clear h0 h1 h2 h3 h4 h5 h6 h7 h8 h9
        go_wp2
        exact hK _ _ (Ext.refl _) (fun _ _ => rfl)
      · intro wr hx v0 h0 v1 h1 v2 h2 v3 h3 v4 h4 v5 h5 v6 h6 v7 h7 v8 h8 v9 h9 K hK
        have px := (hx.cell (p := ⟨rx, 0, none⟩) rx8).trans px8
        have tc := (st8.step hx).tcell
        simp only [Act.put, List.setIfInBounds_toArray, List.set_cons_zero, List.set_cons_succ] at hK ⊢
        obtain rfl := (h2 (by decide)).now
        obtain rfl := (h5 (by decide)).now
        clear h0 h1 h2 h3 h4 h5 h6 h7 h8 h9
        go_wp2_with fail
        refine (first6_any _ At nt ct tt (st8.step hx).ts hntt HFT.out).mono ?_
        rintro e w9 ⟨A9, n9, c9, rfl, t9, b9⟩
        go_wp2
        exact hK _ _ b9 (fun w' hx' => ⟨_, _, _, rfl, t9.step hx'⟩)
      · intro wr hx v0 h0 v1 h1 v2 h2 v3 h3 v4 h4 v5 h5 v6 h6 v7 h7 v8 h8 v9 h9 K hK
        have px := (hx.cell (p := ⟨rx, 0, none⟩) rx8).trans px8
        have tc := (st8.step hx).tcell
        simp only [Act.put, List.setIfInBounds_toArray, List.set_cons_zero, List.set_cons_succ] at hK ⊢
        obtain rfl := (h2 (by decide)).now
        obtain ⟨A8, n8, c8, rfl, t8⟩ := (h4 (by decide)).now
        obtain ⟨A9, n9, c9, rfl, t9⟩ := (h6 (by decide)).now
        clear h0 h1 h2 h3 h4 h5 h6 h7 h8 h9
        go_wp2_with fail
        refine (equal6_any _ _ _ _ _ _ _ _ _ _ _ t8 t9 (Nat.le_refl _) (Nat.le_refl _)).mono ?_
        rintro e w9 ⟨rfl, b9⟩
        rw [decide_eq_true rfl]
        go_wp2
        exact hK _ _ b9 (fun _ _ => rfl)
      · intro wr hx v0 h0 v1 h1 v2 h2 v3 h3 v4 h4 v5 h5 v6 h6 v7 h7 v8 h8 v9 h9 K hK
        have px := (hx.cell (p := ⟨rx, 0, none⟩) rx8).trans px8
        have tc := (st8.step hx).tcell
        simp only [Act.put, List.setIfInBounds_toArray, List.set_cons_zero, List.set_cons_succ] at hK ⊢
        obtain rfl := (h2 (by decide)).now
        obtain rfl := (h7 (by decide)).now
        clear h0 h1 h2 h3 h4 h5 h6 h7 h8 h9
        go_wp2
        exact hK _ _ (Ext.refl _) (fun _ _ => rfl)
      · intro wr hx v0 h0 v1 h1 v2 h2 v3 h3 v4 h4 v5 h5 v6 h6 v7 h7 v8 h8 v9 h9 K hK
        have px := (hx.cell (p := ⟨rx, 0, none⟩) rx8).trans px8
        have tc := (st8.step hx).tcell
        simp only [Act.put, List.setIfInBounds_toArray, List.set_cons_zero, List.set_cons_succ] at hK ⊢
        obtain rfl := (h2 (by decide)).now
        obtain rfl := (h8 (by decide)).now
        clear h0 h1 h2 h3 h4 h5 h6 h7 h8 h9
        go_wp2
        exact hK _ _ (Ext.refl _) (fun _ _ => rfl)
      intro w9 hx v0 h0 v1 h1 v2 h2 v3 h3 v4 h4 v5 h5 v6 h6 v7 h7 v8 h8 v9 h9
      have px := (hx.cell (p := ⟨rx, 0, none⟩) rx8).trans px8
      have tc := (st8.step hx).tcell
      obtain rfl := h9.now
      clear h0 h1 h2 h3 h4 h5 h6 h7 h8 h9
      refine tail_none (by kernel_rfl) ?_
      simp only [Act.put, List.setIfInBounds_toArray, List.set_cons_zero, List.set_cons_succ]
      have st9 := st8.step hx
      have hrs9 := RS.step hrs8 hx
      have px9 := (hx.cell (p := ⟨rx, 0, none⟩) rx8).trans px8
      have rx9 : rx < w9.heap.size := by have := hx.size; omega
      clear st8 hrs8 px8 rx8 hx
      obtain ⟨nb, hnb⟩ : ∃ nb, w9.heap.size = nb := ⟨_, rfl⟩
      obtain ⟨w10, hw10, b10, s10, nc10⟩ := box_new w9 (.int .i64 0) 3
      rw [hnb] at s10 nc10
      have px10 := (b10.cell (p := ⟨rx, 0, none⟩) rx9).trans px9
      have pxa : (w9.alloc (.cells #[.int .i64 0] 3)).cell? ⟨rx, 0, none⟩ = some (.pointer (some ⟨r, 0, none⟩)) := by rw [hw10]; exact px10
      have HW10 := Lib.hid hw10
      have hnbw : w.heap.size ≤ nb := by rw [← hnb]; exact st9.below.size
      have hrbn : rb < nb := by rw [← hnb]; exact st9.lt
      have rxn : rx < nb := by rw [← hnb]; exact rx9
      clear hw10 px px10
      go_wp2_with fail
      have HNB := Lib.hid hnb
      rw [HW10.out]
      clear pxa hnb
      refine (darts_any w10 (some ⟨r, 0, none⟩)).mono ?_
      rintro e w11 ⟨bx, rfl, bc11, hbx, bx11, b11⟩
      have hb911 : Below nb w9 w11 := by rw [← HNB.out]; exact bstep b10 b11
      have nc11 := (b11.block nb s10).trans nc10
      have hbn : nb < bx := by omega
      have nb11 : nb < w11.heap.size := by omega
      clear b10 b11 nc10 hbx s10 HW10
      go_wp2_with fail
      obtain ⟨Ad, nd, cd, hnd, hc3, hds⟩ := hrs9.dp
      rw [HNB.out] at hds
      have hrn : r < nb := by rw [← HNB.out]; exact hrs9.lt
      rw [allDarts_len] at hnd
      have hstep : ∀ {W : World}, Below nb w9 W → Below w9.heap.size w9 W := fun {W} h => by rw [HNB.out]; exact h
      have HRS9 := Lib.hid hrs9
      have HST9 := Lib.hid st9
      have PX9 := Lib.hid px9
      refine wp_range_darts_v (bx := bx) (p := some ⟨r, 0, none⟩) (Ad := Ad) (nd := nd) (cd := cd) (B := nb) (ds := allDarts xs) rfl
        (fun k W => Below nb w9 W ∧ W.heap[nb]? = some (.cells #[.int .i64 (k : Nat)] 3 (0, 0)) ∧ W.cell? ⟨bx, 0, none⟩ = some (.pointer (some ⟨r, 0, none⟩)) ∧ w11.heap.size ≤ W.heap.size)
        (fun _ _ => False) ?sI ?sX ?D ⟨hb911, nc11, bc11, Nat.le_refl _⟩ (by simp) ?body ?done ?stop
      case sI => exact fun k W W' ⟨h1, h2, h3, h4⟩ ha => ⟨h1.trans ((ha.below h4).mono (by omega)), ha.same _ _ h2 (.inl (by omega)), ha.cell h3, Nat.le_trans h4 ha.size⟩
      case sX => exact fun _ _ _ h _ => h
      case D => exact fun k W ⟨h1, _, h3, _⟩ => ⟨h3, .inr ⟨r, rfl, (h1.cell (p := ⟨r, 3, none⟩) hrn).trans hc3, hds.below h1⟩⟩
      case stop => exact fun _ _ _ _ h _ => h.elim
      case body =>
        rintro l n k W ⟨hB, hnc, hbc, hsz⟩ hk
        have hk2 : k < 2 * xs.length := by omega
        have hxm : (allDarts xs).getD k 0 / 2 ∈ xs := by
          rw [← mem_allDarts, getD_idx (by rw [allDarts_len]; exact hk2)]
          exact List.getElem_mem _
        have hget := allDarts_get hk2
        have stW := st9.step (hstep hB)
        have hrW : RT W r es xs tt := RS.step hrs9 (hstep hB)
        have px := (hB.cell (p := ⟨rx, 0, none⟩) rxn).trans px9
        have hne' := stW.gp.e.len
        obtain ⟨be, oe, z, hAe, hbe, hz, hz64, hcz⟩ := stW.gp.e.get (k := k / 2) (by omega)
        have hnec := stW.gp.e.cap
        have hnel := stW.gp.e.le
        rw [hz.out] at hget
        have hzr : 0 ≤ z ∧ z ≤ 1024 := by
          have h1 := dart_i64 hpk.out hxm
          omega
        have hx64 := dart_i64 hpk.out hxm
        obtain ⟨x, hx⟩ : ∃ x, (allDarts xs).getD k 0 = x := ⟨_, rfl⟩
        rw [hx] at hget hxm hx64
        rw [hx]
        have hke : k < 2 * ne := by omega
        have hge : decide (2 * (ne : Int) ≤ (k : Int)) = false := decide_eq_false (by omega)
        have k2 : (k : Int) < 2 * (ne : Int) := by omega
        have k3 : k / 2 < ne := by omega
        have nbW : nb < W.heap.size := by omega
        have bxW : bx < W.heap.size := by omega
        have hq := box_cell hnc
        have hxe : (x != (2 * z + (k : Int) % 2)) = false := by simp; omega
        have wa : IntKind.i64.wrap (2 * (ne : Int)) = 2 * (ne : Int) := IntWalk.i64_in _ (by omega)
        have wb : IntKind.i64.wrap (2 * z) = 2 * z := IntWalk.i64_in _ (by omega)
        have wc : IntKind.i64.wrap (2 * z + (k : Int) % 2) = 2 * z + (k : Int) % 2 := IntWalk.i64_in _ (by omega)
        have STW := Lib.hid stW
        have HRW := Lib.hid hrW
        have HXM := Lib.hid hxm
        have HB := Lib.hid hB
        have HNC := Lib.hid hnc
        have HBC := Lib.hid hbc
        subst hAe
        clear hx hget hxm hc3 hds hrs9 st9 hz stW hrW hB hb911 nc11 bc11 px9 hnc hbc hne' hk2
        simp only [List.setIfInBounds_toArray, List.set_cons_zero, List.set_cons_succ]
        gi_step
        gi_step
        gi_step
        refine rnd_region_rel 20 [[],[],[1],[1,2],[1,2,3],[0,1,2,3,4],[0,1,2,3,4,5],[0,1,2,3,4,5,6],[0,1,2,3,4,5,6],[0,1,2,3,4,5,6,8],[0,1,2,3,4,5,6],[0,1,2,3,4,5,6,10],[0,1,2,3,4,5,6,8,9,10,11],[0,1,2,3,4,5,6,8,9,10,11,12],[0,1,2,3,4,5,6,8,9,10,11,12,13],[0,1,2,3,4,5,6],[0,1,2,3,4,5,6,15],[0,1,2,3,4,5,6,8,9,10,11,12,13,14,15,16],[0,1,2,3,4,5,6,7,8,9,10,11,12,13,14,15,16,17],[0,1,2,3,4,5,6,7,8,9,10,11,12,13,14,15,16,17,18]]
          [fun v _ => v = .int .i64 k,
           fun v _ => v = .pointer (some ⟨w.heap.size + 1, 1, none⟩),
           fun v _ => v = .slice (some ⟨be, oe, none⟩) ne ce,
           fun v _ => v = .int .i64 ne,
           fun v _ => v = .int .i64 (2 * (ne : Int)),
           fun v _ => v = .bool false,
           fun v _ => v = .bool false,
           fun v _ => v = .int .i64 x,
           fun v _ => v = .pointer (some ⟨w.heap.size + 1, 1, none⟩),
           fun v _ => v = .slice (some ⟨be, oe, none⟩) ne ce,
           fun v _ => v = .int .i64 k,
           fun v _ => v = .int .i64 ((k : Int) / 2),
           fun v _ => v = .pointer (some ⟨be, oe + k / 2, none⟩),
           fun v _ => v = .int .i64 z,
           fun v _ => v = .int .i64 (2 * z),
           fun v _ => v = .int .i64 k,
           fun v _ => v = .int .i64 ((k : Int) % 2),
           fun v _ => v = .int .i64 (2 * z + (k : Int) % 2),
           fun v _ => v = .bool false,
           fun v _ => v = .bool false]
          (by kernel_rfl) (by rintro ⟨_, _, h⟩; exact h) (by kernel_rfl) (by kernel_rfl) rfl ⟨?_, ?_, ?_, ?_, ?_, ?_, ?_, ?_, ?_, ?_, ?_, ?_, ?_, ?_, ?_, ?_, ?_, ?_, ?_, ?_, trivial⟩ ?_
        · intro wr hx v0 h0 v1 h1 v2 h2 v3 h3 v4 h4 v5 h5 v6 h6 v7 h7 v8 h8 v9 h9 v10 h10 v11 h11 v12 h12 v13 h13 v14 h14 v15 h15 v16 h16 v17 h17 v18 h18 v19 h19 K hK
          have ⟨_, _, c0, c1, c2, c3, _⟩ := (STW.out.step hx).gb
          have q1 := (hx.cell (p := ⟨nb, 0, none⟩) nbW).trans hq
          have q2 := (hx.cell (p := ⟨be, oe + k / 2, none⟩) hbe).trans hcz
          simp only [Act.put, List.setIfInBounds_toArray, List.set_cons_zero, List.set_cons_succ] at hK ⊢
          clear h0 h1 h2 h3 h4 h5 h6 h7 h8 h9 h10 h11 h12 h13 h14 h15 h16 h17 h18 h19
          go_wp2
          exact hK _ _ (Ext.refl _) (fun _ _ => rfl)
        · intro wr hx v0 h0 v1 h1 v2 h2 v3 h3 v4 h4 v5 h5 v6 h6 v7 h7 v8 h8 v9 h9 v10 h10 v11 h11 v12 h12 v13 h13 v14 h14 v15 h15 v16 h16 v17 h17 v18 h18 v19 h19 K hK
          have ⟨_, _, c0, c1, c2, c3, _⟩ := (STW.out.step hx).gb
          have q1 := (hx.cell (p := ⟨nb, 0, none⟩) nbW).trans hq
          have q2 := (hx.cell (p := ⟨be, oe + k / 2, none⟩) hbe).trans hcz
          simp only [Act.put, List.setIfInBounds_toArray, List.set_cons_zero, List.set_cons_succ] at hK ⊢
          clear h0 h1 h2 h3 h4 h5 h6 h7 h8 h9 h10 h11 h12 h13 h14 h15 h16 h17 h18 h19
          go_wp2
          exact hK _ _ (Ext.refl _) (fun _ _ => rfl)
        · intro wr hx v0 h0 v1 h1 v2 h2 v3 h3 v4 h4 v5 h5 v6 h6 v7 h7 v8 h8 v9 h9 v10 h10 v11 h11 v12 h12 v13 h13 v14 h14 v15 h15 v16 h16 v17 h17 v18 h18 v19 h19 K hK
          have ⟨_, _, c0, c1, c2, c3, _⟩ := (STW.out.step hx).gb
          have q1 := (hx.cell (p := ⟨nb, 0, none⟩) nbW).trans hq
          have q2 := (hx.cell (p := ⟨be, oe + k / 2, none⟩) hbe).trans hcz
          simp only [Act.put, List.setIfInBounds_toArray, List.set_cons_zero, List.set_cons_succ] at hK ⊢
          obtain rfl := (h1 (by decide)).now
          clear h0 h1 h2 h3 h4 h5 h6 h7 h8 h9 h10 h11 h12 h13 h14 h15 h16 h17 h18 h19
          go_wp2
          exact hK _ _ (Ext.refl _) (fun _ _ => rfl)
        · intro wr hx v0 h0 v1 h1 v2 h2 v3 h3 v4 h4 v5 h5 v6 h6 v7 h7 v8 h8 v9 h9 v10 h10 v11 h11 v12 h12 v13 h13 v14 h14 v15 h15 v16 h16 v17 h17 v18 h18 v19 h19 K hK
          have ⟨_, _, c0, c1, c2, c3, _⟩ := (STW.out.step hx).gb
          have q1 := (hx.cell (p := ⟨nb, 0, none⟩) nbW).trans hq
          have q2 := (hx.cell (p := ⟨be, oe + k / 2, none⟩) hbe).trans hcz
          simp only [Act.put, List.setIfInBounds_toArray, List.set_cons_zero, List.set_cons_succ] at hK ⊢
          obtain rfl := (h2 (by decide)).now
          clear h0 h1 h2 h3 h4 h5 h6 h7 h8 h9 h10 h11 h12 h13 h14 h15 h16 h17 h18 h19
          go_wp2
          exact hK _ _ (Ext.refl _) (fun _ _ => rfl)
        · intro wr hx v0 h0 v1 h1 v2 h2 v3 h3 v4 h4 v5 h5 v6 h6 v7 h7 v8 h8 v9 h9 v10 h10 v11 h11 v12 h12 v13 h13 v14 h14 v15 h15 v16 h16 v17 h17 v18 h18 v19 h19 K hK
          have ⟨_, _, c0, c1, c2, c3, _⟩ := (STW.out.step hx).gb
          have q1 := (hx.cell (p := ⟨nb, 0, none⟩) nbW).trans hq
          have q2 := (hx.cell (p := ⟨be, oe + k / 2, none⟩) hbe).trans hcz
          simp only [Act.put, List.setIfInBounds_toArray, List.set_cons_zero, List.set_cons_succ] at hK ⊢
          obtain rfl := (h3 (by decide)).now
          clear h0 h1 h2 h3 h4 h5 h6 h7 h8 h9 h10 h11 h12 h13 h14 h15 h16 h17 h18 h19
          go_wp2
          exact hK _ _ (Ext.refl _) (fun _ _ => rfl)
        · intro wr hx v0 h0 v1 h1 v2 h2 v3 h3 v4 h4 v5 h5 v6 h6 v7 h7 v8 h8 v9 h9 v10 h10 v11 h11 v12 h12 v13 h13 v14 h14 v15 h15 v16 h16 v17 h17 v18 h18 v19 h19 K hK
          have ⟨_, _, c0, c1, c2, c3, _⟩ := (STW.out.step hx).gb
          have q1 := (hx.cell (p := ⟨nb, 0, none⟩) nbW).trans hq
          have q2 := (hx.cell (p := ⟨be, oe + k / 2, none⟩) hbe).trans hcz
          simp only [Act.put, List.setIfInBounds_toArray, List.set_cons_zero, List.set_cons_succ] at hK ⊢
          obtain rfl := (h0 (by decide)).now
          obtain rfl := (h4 (by decide)).now
          clear h0 h1 h2 h3 h4 h5 h6 h7 h8 h9 h10 h11 h12 h13 h14 h15 h16 h17 h18 h19
          go_wp2
          exact hK _ _ (Ext.refl _) (fun _ _ => rfl)
        · intro wr hx v0 h0 v1 h1 v2 h2 v3 h3 v4 h4 v5 h5 v6 h6 v7 h7 v8 h8 v9 h9 v10 h10 v11 h11 v12 h12 v13 h13 v14 h14 v15 h15 v16 h16 v17 h17 v18 h18 v19 h19 K hK
          have ⟨_, _, c0, c1, c2, c3, _⟩ := (STW.out.step hx).gb
          have q1 := (hx.cell (p := ⟨nb, 0, none⟩) nbW).trans hq
          have q2 := (hx.cell (p := ⟨be, oe + k / 2, none⟩) hbe).trans hcz
          simp only [Act.put, List.setIfInBounds_toArray, List.set_cons_zero, List.set_cons_succ] at hK ⊢
          obtain rfl := (h5 (by decide)).now
          clear h0 h1 h2 h3 h4 h5 h6 h7 h8 h9 h10 h11 h12 h13 h14 h15 h16 h17 h18 h19
          go_wp2
          exact hK _ _ (Ext.refl _) (fun _ _ => rfl)
        · intro wr hx v0 h0 v1 h1 v2 h2 v3 h3 v4 h4 v5 h5 v6 h6 v7 h7 v8 h8 v9 h9 v10 h10 v11 h11 v12 h12 v13 h13 v14 h14 v15 h15 v16 h16 v17 h17 v18 h18 v19 h19 K hK
          have ⟨_, _, c0, c1, c2, c3, _⟩ := (STW.out.step hx).gb
          have q1 := (hx.cell (p := ⟨nb, 0, none⟩) nbW).trans hq
          have q2 := (hx.cell (p := ⟨be, oe + k / 2, none⟩) hbe).trans hcz
          simp only [Act.put, List.setIfInBounds_toArray, List.set_cons_zero, List.set_cons_succ] at hK ⊢
          obtain rfl := (h6 (by decide)).now
          clear h0 h1 h2 h3 h4 h5 h6 h7 h8 h9 h10 h11 h12 h13 h14 h15 h16 h17 h18 h19
          go_wp2
          exact hK _ _ (Ext.refl _) (fun _ _ => rfl)
        · intro wr hx v0 h0 v1 h1 v2 h2 v3 h3 v4 h4 v5 h5 v6 h6 v7 h7 v8 h8 v9 h9 v10 h10 v11 h11 v12 h12 v13 h13 v14 h14 v15 h15 v16 h16 v17 h17 v18 h18 v19 h19 K hK
          have ⟨_, _, c0, c1, c2, c3, _⟩ := (STW.out.step hx).gb
          have q1 := (hx.cell (p := ⟨nb, 0, none⟩) nbW).trans hq
          have q2 := (hx.cell (p := ⟨be, oe + k / 2, none⟩) hbe).trans hcz
          simp only [Act.put, List.setIfInBounds_toArray, List.set_cons_zero, List.set_cons_succ] at hK ⊢
          obtain rfl := (h6 (by decide)).now
          clear h0 h1 h2 h3 h4 h5 h6 h7 h8 h9 h10 h11 h12 h13 h14 h15 h16 h17 h18 h19
          go_wp2
          exact hK _ _ (Ext.refl _) (fun _ _ => rfl)
        · intro wr hx v0 h0 v1 h1 v2 h2 v3 h3 v4 h4 v5 h5 v6 h6 v7 h7 v8 h8 v9 h9 v10 h10 v11 h11 v12 h12 v13 h13 v14 h14 v15 h15 v16 h16 v17 h17 v18 h18 v19 h19 K hK
          have ⟨_, _, c0, c1, c2, c3, _⟩ := (STW.out.step hx).gb
          have q1 := (hx.cell (p := ⟨nb, 0, none⟩) nbW).trans hq
          have q2 := (hx.cell (p := ⟨be, oe + k / 2, none⟩) hbe).trans hcz
          simp only [Act.put, List.setIfInBounds_toArray, List.set_cons_zero, List.set_cons_succ] at hK ⊢
          obtain rfl := (h6 (by decide)).now
          obtain rfl := (h8 (by decide)).now
          clear h0 h1 h2 h3 h4 h5 h6 h7 h8 h9 h10 h11 h12 h13 h14 h15 h16 h17 h18 h19
          go_wp2
          exact hK _ _ (Ext.refl _) (fun _ _ => rfl)
        · intro wr hx v0 h0 v1 h1 v2 h2 v3 h3 v4 h4 v5 h5 v6 h6 v7 h7 v8 h8 v9 h9 v10 h10 v11 h11 v12 h12 v13 h13 v14 h14 v15 h15 v16 h16 v17 h17 v18 h18 v19 h19 K hK
          have ⟨_, _, c0, c1, c2, c3, _⟩ := (STW.out.step hx).gb
          have q1 := (hx.cell (p := ⟨nb, 0, none⟩) nbW).trans hq
          have q2 := (hx.cell (p := ⟨be, oe + k / 2, none⟩) hbe).trans hcz
          simp only [Act.put, List.setIfInBounds_toArray, List.set_cons_zero, List.set_cons_succ] at hK ⊢
          obtain rfl := (h6 (by decide)).now
          clear h0 h1 h2 h3 h4 h5 h6 h7 h8 h9 h10 h11 h12 h13 h14 h15 h16 h17 h18 h19
          go_wp2
          exact hK _ _ (Ext.refl _) (fun _ _ => rfl)
        · intro wr hx v0 h0 v1 h1 v2 h2 v3 h3 v4 h4 v5 h5 v6 h6 v7 h7 v8 h8 v9 h9 v10 h10 v11 h11 v12 h12 v13 h13 v14 h14 v15 h15 v16 h16 v17 h17 v18 h18 v19 h19 K hK
          have ⟨_, _, c0, c1, c2, c3, _⟩ := (STW.out.step hx).gb
          have q1 := (hx.cell (p := ⟨nb, 0, none⟩) nbW).trans hq
          have q2 := (hx.cell (p := ⟨be, oe + k / 2, none⟩) hbe).trans hcz
          simp only [Act.put, List.setIfInBounds_toArray, List.set_cons_zero, List.set_cons_succ] at hK ⊢
          obtain rfl := (h6 (by decide)).now
          obtain rfl := (h10 (by decide)).now
          clear h0 h1 h2 h3 h4 h5 h6 h7 h8 h9 h10 h11 h12 h13 h14 h15 h16 h17 h18 h19
          go_wp2
          exact hK _ _ (Ext.refl _) (fun _ _ => rfl)
        · intro wr hx v0 h0 v1 h1 v2 h2 v3 h3 v4 h4 v5 h5 v6 h6 v7 h7 v8 h8 v9 h9 v10 h10 v11 h11 v12 h12 v13 h13 v14 h14 v15 h15 v16 h16 v17 h17 v18 h18 v19 h19 K hK
          have ⟨_, _, c0, c1, c2, c3, _⟩ := (STW.out.step hx).gb
          have q1 := (hx.cell (p := ⟨nb, 0, none⟩) nbW).trans hq
          have q2 := (hx.cell (p := ⟨be, oe + k / 2, none⟩) hbe).trans hcz
          simp only [Act.put, List.setIfInBounds_toArray, List.set_cons_zero, List.set_cons_succ] at hK ⊢
          obtain rfl := (h6 (by decide)).now
          obtain rfl := (h9 (by decide)).now
          obtain rfl := (h11 (by decide)).now
          clear h0 h1 h2 h3 h4 h5 h6 h7 h8 h9 h10 h11 h12 h13 h14 h15 h16 h17 h18 h19
          go_wp2
          exact hK _ _ (Ext.refl _) (fun _ _ => rfl)
        · intro wr hx v0 h0 v1 h1 v2 h2 v3 h3 v4 h4 v5 h5 v6 h6 v7 h7 v8 h8 v9 h9 v10 h10 v11 h11 v12 h12 v13 h13 v14 h14 v15 h15 v16 h16 v17 h17 v18 h18 v19 h19 K hK
          have ⟨_, _, c0, c1, c2, c3, _⟩ := (STW.out.step hx).gb
          have q1 := (hx.cell (p := ⟨nb, 0, none⟩) nbW).trans hq
          have q2 := (hx.cell (p := ⟨be, oe + k / 2, none⟩) hbe).trans hcz
          simp only [Act.put, List.setIfInBounds_toArray, List.set_cons_zero, List.set_cons_succ] at hK ⊢
          obtain rfl := (h6 (by decide)).now
          obtain rfl := (h12 (by decide)).now
          clear h0 h1 h2 h3 h4 h5 h6 h7 h8 h9 h10 h11 h12 h13 h14 h15 h16 h17 h18 h19
          go_wp2
          exact hK _ _ (Ext.refl _) (fun _ _ => rfl)
        · intro wr hx v0 h0 v1 h1 v2 h2 v3 h3 v4 h4 v5 h5 v6 h6 v7 h7 v8 h8 v9 h9 v10 h10 v11 h11 v12 h12 v13 h13 v14 h14 v15 h15 v16 h16 v17 h17 v18 h18 v19 h19 K hK
          have ⟨_, _, c0, c1, c2, c3, _⟩ := (STW.out.step hx).gb
          have q1 := (hx.cell (p := ⟨nb, 0, none⟩) nbW).trans hq
          have q2 := (hx.cell (p := ⟨be, oe + k / 2, none⟩) hbe).trans hcz
          simp only [Act.put, List.setIfInBounds_toArray, List.set_cons_zero, List.set_cons_succ] at hK ⊢
          obtain rfl := (h6 (by decide)).now
          obtain rfl := (h13 (by decide)).now
          clear h0 h1 h2 h3 h4 h5 h6 h7 h8 h9 h10 h11 h12 h13 h14 h15 h16 h17 h18 h19
          go_wp2
          exact hK _ _ (Ext.refl _) (fun _ _ => rfl)
        · intro wr hx v0 h0 v1 h1 v2 h2 v3 h3 v4 h4 v5 h5 v6 h6 v7 h7 v8 h8 v9 h9 v10 h10 v11 h11 v12 h12 v13 h13 v14 h14 v15 h15 v16 h16 v17 h17 v18 h18 v19 h19 K hK
          have ⟨_, _, c0, c1, c2, c3, _⟩ := (STW.out.step hx).gb
          have q1 := (hx.cell (p := ⟨nb, 0, none⟩) nbW).trans hq
          have q2 := (hx.cell (p := ⟨be, oe + k / 2, none⟩) hbe).trans hcz
          simp only [Act.put, List.setIfInBounds_toArray, List.set_cons_zero, List.set_cons_succ] at hK ⊢
          obtain rfl := (h6 (by decide)).now
          clear h0 h1 h2 h3 h4 h5 h6 h7 h8 h9 h10 h11 h12 h13 h14 h15 h16 h17 h18 h19
          go_wp2
          exact hK _ _ (Ext.refl _) (fun _ _ => rfl)
        · intro wr hx v0 h0 v1 h1 v2 h2 v3 h3 v4 h4 v5 h5 v6 h6 v7 h7 v8 h8 v9 h9 v10 h10 v11 h11 v12 h12 v13 h13 v14 h14 v15 h15 v16 h16 v17 h17 v18 h18 v19 h19 K hK
          have ⟨_, _, c0, c1, c2, c3, _⟩ := (STW.out.step hx).gb
          have q1 := (hx.cell (p := ⟨nb, 0, none⟩) nbW).trans hq
          have q2 := (hx.cell (p := ⟨be, oe + k / 2, none⟩) hbe).trans hcz
          simp only [Act.put, List.setIfInBounds_toArray, List.set_cons_zero, List.set_cons_succ] at hK ⊢
          obtain rfl := (h6 (by decide)).now
          obtain rfl := (h15 (by decide)).now
          clear h0 h1 h2 h3 h4 h5 h6 h7 h8 h9 h10 h11 h12 h13 h14 h15 h16 h17 h18 h19
          go_wp2
          exact hK _ _ (Ext.refl _) (fun _ _ => rfl)
        · intro wr hx v0 h0 v1 h1 v2 h2 v3 h3 v4 h4 v5 h5 v6 h6 v7 h7 v8 h8 v9 h9 v10 h10 v11 h11 v12 h12 v13 h13 v14 h14 v15 h15 v16 h16 v17 h17 v18 h18 v19 h19 K hK
          have ⟨_, _, c0, c1, c2, c3, _⟩ := (STW.out.step hx).gb
          have q1 := (hx.cell (p := ⟨nb, 0, none⟩) nbW).trans hq
          have q2 := (hx.cell (p := ⟨be, oe + k / 2, none⟩) hbe).trans hcz
          simp only [Act.put, List.setIfInBounds_toArray, List.set_cons_zero, List.set_cons_succ] at hK ⊢
          obtain rfl := (h6 (by decide)).now
          obtain rfl := (h14 (by decide)).now
          obtain rfl := (h16 (by decide)).now
          clear h0 h1 h2 h3 h4 h5 h6 h7 h8 h9 h10 h11 h12 h13 h14 h15 h16 h17 h18 h19
          go_wp2
          exact hK _ _ (Ext.refl _) (fun _ _ => rfl)
        · intro wr hx v0 h0 v1 h1 v2 h2 v3 h3 v4 h4 v5 h5 v6 h6 v7 h7 v8 h8 v9 h9 v10 h10 v11 h11 v12 h12 v13 h13 v14 h14 v15 h15 v16 h16 v17 h17 v18 h18 v19 h19 K hK
          have ⟨_, _, c0, c1, c2, c3, _⟩ := (STW.out.step hx).gb
          have q1 := (hx.cell (p := ⟨nb, 0, none⟩) nbW).trans hq
          have q2 := (hx.cell (p := ⟨be, oe + k / 2, none⟩) hbe).trans hcz
          simp only [Act.put, List.setIfInBounds_toArray, List.set_cons_zero, List.set_cons_succ] at hK ⊢
          obtain rfl := (h6 (by decide)).now
          obtain rfl := (h7 (by decide)).now
          obtain rfl := (h17 (by decide)).now
          clear h0 h1 h2 h3 h4 h5 h6 h7 h8 h9 h10 h11 h12 h13 h14 h15 h16 h17 h18 h19
          go_wp2
          exact hK _ _ (Ext.refl _) (fun _ _ => rfl)
        · intro wr hx v0 h0 v1 h1 v2 h2 v3 h3 v4 h4 v5 h5 v6 h6 v7 h7 v8 h8 v9 h9 v10 h10 v11 h11 v12 h12 v13 h13 v14 h14 v15 h15 v16 h16 v17 h17 v18 h18 v19 h19 K hK
          have ⟨_, _, c0, c1, c2, c3, _⟩ := (STW.out.step hx).gb
          have q1 := (hx.cell (p := ⟨nb, 0, none⟩) nbW).trans hq
          have q2 := (hx.cell (p := ⟨be, oe + k / 2, none⟩) hbe).trans hcz
          simp only [Act.put, List.setIfInBounds_toArray, List.set_cons_zero, List.set_cons_succ] at hK ⊢
          obtain rfl := (h6 (by decide)).now
          obtain rfl := (h18 (by decide)).now
          clear h0 h1 h2 h3 h4 h5 h6 h7 h8 h9 h10 h11 h12 h13 h14 h15 h16 h17 h18 h19
          go_wp2
          exact hK _ _ (Ext.refl _) (fun _ _ => rfl)
        intro W1 hx v0 h0 v1 h1 v2 h2 v3 h3 v4 h4 v5 h5 v6 h6 v7 h7 v8 h8 v9 h9 v10 h10 v11 h11 v12 h12 v13 h13 v14 h14 v15 h15 v16 h16 v17 h17 v18 h18 v19 h19
        have ⟨_, _, c0, c1, c2, c3, _⟩ := (STW.out.step hx).gb
        have q1 := (hx.cell (p := ⟨nb, 0, none⟩) nbW).trans hq
        have q2 := (hx.cell (p := ⟨be, oe + k / 2, none⟩) hbe).trans hcz
        obtain rfl := h19.now
        clear h0 h1 h2 h3 h4 h5 h6 h7 h8 h9 h10 h11 h12 h13 h14 h15 h16 h17 h18 h19
        refine tail_none (by kernel_rfl) ?_
        simp only [Act.put, List.setIfInBounds_toArray, List.set_cons_zero, List.set_cons_succ]
        gi_step
        gi_step
        gi_step
        gi_step
        gi_step
        gi_step
        gi_step
        have hnc1 := (hx.block nb nbW).trans HNC.out
        have q3 := box_frozen hnc1
        have hk1 : IntKind.i64.wrap ((k : Int) + 1) = (k : Int) + 1 := IntWalk.i64_in _ (by omega)
        refine rnd_region rfl (fun ⟨_, _, h⟩ => h) ?_
        go_wp2_with fail
        have hnc2 := box_set hnc1 (.int .i64 ((k : Int) + 1))
        have hb2 : Below nb W (W1.setCell ⟨nb, 0, none⟩ (.int .i64 ((k : Int) + 1))) := (hx.mono (by omega)).trans (set_below (Nat.le_refl _) _)
        have hsz2 := set_size W1 nb (.int .i64 ((k : Int) + 1))
        have hkf : KeepsFrom w11.heap.size W (W1.setCell ⟨nb, 0, none⟩ (.int .i64 ((k : Int) + 1))) := (keepsFrom_ext hx).trans (set_keeps _ _ _ _)
        have hbc2 : (W1.setCell ⟨nb, 0, none⟩ (.int .i64 ((k : Int) + 1))).cell? ⟨bx, 0, none⟩ = some (.pointer (some ⟨r, 0, none⟩)) := by
          rw [World.cell?_setCell_other _ _ _ _ (fun e => by injection e with e _ _; omega)]
          exact (hx.cell (p := ⟨bx, 0, none⟩) bxW).trans HBC.out
        obtain ⟨W2, hW2⟩ : ∃ W2, W1.setCell ⟨nb, 0, none⟩ (.int .i64 ((k : Int) + 1)) = W2 := ⟨_, rfl⟩
        rw [hW2] at hnc2 hb2 hsz2 hkf hbc2 ⊢
        have hB2 : Below nb w9 W2 := HB.out.trans hb2
        have st2 := HST9.out.step (hstep hB2)
        have hr2 : RT W2 r es xs tt := RS.step HRS9.out (hstep hB2)
        have px2 := (hB2.cell (p := ⟨rx, 0, none⟩) rxn).trans PX9.out
        have C1 := Lib.hid (t_after_yes hr2 hpk.out hTT.out HXM.out)
        have C2 := Lib.hid (t_before_yes hr2 hpk.out hTT.out HXM.out)
        have C3 := Lib.hid (t_next_yes hr2 hpk.out hTT.out HXM.out)
        have S1 := Lib.hid (fun (V : World) (hV : Ext W2 V) => step6_any V N A m c es vs xs At nt ct tt (st2.step hV).gp.g (st2.step hV).ts hpk.out hTT.out x HXM.out 1 (.inl rfl))
        have S2 := Lib.hid (fun (V : World) (hV : Ext W2 V) => step6_any V N A m c es vs xs At nt ct tt (st2.step hV).gp.g (st2.step hV).ts hpk.out hTT.out x HXM.out (-1) (.inr rfl))
        have S3 := Lib.hid (fun (V : World) (hV : Ext W2 V) => next6_any V N A m c es vs xs At nt ct tt (st2.step hV).gp.g (st2.step hV).ts hpk.out hTT.out x HXM.out)
        obtain ⟨y1, hy1⟩ : ∃ y, stepOf es tt x 1 = y := ⟨_, rfl⟩
        obtain ⟨y2, hy2⟩ : ∃ y, stepOf es tt x (-1) = y := ⟨_, rfl⟩
        obtain ⟨y3, hy3⟩ : ∃ y, stepOf es tt (twin x) (-1) = y := ⟨_, rfl⟩
        rw [hy1] at C1 S1
        rw [hy2] at C2 S2
        rw [hy3] at C3 S3
        have ST2 := Lib.hid st2
        have HKF := Lib.hid hkf
        have HNC2 := Lib.hid hnc2
        have HBC2 := Lib.hid hbc2
        have HB2 := Lib.hid hB2
        have sz2 : w11.heap.size ≤ W2.heap.size := by rw [hsz2]; have := hx.size; omega
        have nb2 : nb < W2.heap.size := by omega
        have bx2 : bx < W2.heap.size := by omega
        clear hy1 hy2 hy3 hr2 hkf hnc2 hbc2 hB2 hb2 hsz2 hW2 hnc1 q3 hx hge k2 hxe hq hcz c0 c1 c2 c3 q1 q2 st2
        gi_step
        refine rnd_region rfl (fun ⟨_, _, h⟩ => h) ?_
        go_wp2_with fail
        refine C1.out.mono ?_
        rintro e W3 ⟨rfl, rfl⟩
        go_wp2_with fail
        gi_step
        refine rnd_region rfl (fun ⟨_, _, h⟩ => h) ?_
        go_wp2_with fail
        refine C2.out.mono ?_
        rintro e W3 ⟨rfl, rfl⟩
        go_wp2_with fail
        gi_step
        refine rnd_region rfl (fun ⟨_, _, h⟩ => h) ?_
        go_wp2_with fail
        refine C3.out.mono ?_
        rintro e W3 ⟨rfl, rfl⟩
        go_wp2_with fail
        clear px2
        have ⟨_, _, c0, c1, _, _, _⟩ := ST2.out.gb
        have tc := ST2.out.tcell
        gi_step
        refine rnd_region rfl (fun ⟨_, _, h⟩ => h) ?_
        go_wp2_with fail
        refine (S1.out W2 (Ext.refl _)).mono ?_
        rintro e W3 ⟨rfl, b3⟩
        clear c0 c1 tc
        have ⟨_, _, c0, c1, _, _, _⟩ := (ST2.out.step b3).gb
        have tc := (ST2.out.step b3).tcell
        go_wp2_with fail
        refine (S2.out W3 b3).mono ?_
        rintro e W4 ⟨rfl, b4⟩
        replace b4 := bstep b3 b4
        clear c0 c1 tc b3
        have ⟨_, _, c0, c1, _, _, _⟩ := (ST2.out.step b4).gb
        have tc := (ST2.out.step b4).tcell
        go_wp2_with fail
        refine (S3.out W4 b4).mono ?_
        rintro e W5 ⟨rfl, b5⟩
        replace b5 := bstep b4 b5
        clear c0 c1 tc b4
        go_wp2_with fail
        gi_step
        gi_step
        gi_step
        exact ⟨HKF.out.trans (keepsFrom_ext b5), HB2.out.trans (b5.mono (by omega)), (b5.block nb nb2).trans (HNC2.out.trans (by rfl)), (b5.cell (p := ⟨bx, 0, none⟩) bx2).trans HBC2.out, Nat.le_trans sz2 b5.size⟩
      case done =>
        rintro D W hD ⟨hB, hnc, hbc, hsz⟩ hDef
        have stW := st9.step (hstep hB)
        have hrW : RS W r _ _ _ _ := RS.step hrs9 (hstep hB)
        have pxW := (hB.cell (p := ⟨rx, 0, none⟩) rxn).trans px9
        have hN := hTT.out.1
        have hlt := stW.ts.len
        have hnN : (nt : Int) = N := by omega
        have hn64 := hpk.out.size
        have nbW : nb < W.heap.size := by omega
        have rxW : rx < W.heap.size := by omega
        have hDlt : D < W.heap.size := (Array.getElem?_eq_some_iff.1 hDef).1
        have hxs := stW.gp.e.len
        have hDw : w.heap.size ≤ D := by omega
        have HTS := Lib.hid stW.ts
        clear hD hc3 hds hrs9 st9 hb911 nc11 bc11 px9 hbc hB hsz HRS9 HST9 PX9 hrn
        go_wp2_with fail
        go_loopw [18, 19] (fun i l wr => ∃ k : Nat, k ≤ nt + 2 ∧ i = .int .i64 ((k : Int) - 1) ∧ Ext W wr) (fun i _ _ => nt + 2 - (intOf i + 1).toNat)
        case atStart => exact ⟨0, by omega, rfl, Ext.refl _⟩
        case round =>
          obtain ⟨k, hk, rfl, hx⟩ := hrel
          have stx := stW.step hx
          have hrx := RS.step hrW hx
          have px := (hx.cell (p := ⟨rx, 0, none⟩) rxW).trans pxW
          have ⟨_, _, c0, c1, _, _, _⟩ := stx.gb
          have tc := stx.tcell
          by_cases hlast : k = nt + 2
          · subst hlast
            have hgt : decide (((nt + 2 : Nat) : Int) - 1 ≤ N) = false := decide_eq_false (by omega)
            have hnc' := (hx.block nb nbW).trans hnc
            have q1 := box_cell hnc'
            have ⟨q2, q3⟩ := stx.rcell
            have hDx := (hx.block D hDlt).trans hDef
            have ⟨_, _, _, _, c2, c3, _⟩ := stx.gb
            have hnd2 : nd = 2 * ne := by omega
            have e28 : ((nd : Int) == 2 * (ne : Int)) = true := by simp; omega
            have wa : IntKind.i64.wrap (2 * (ne : Int)) = 2 * (ne : Int) := IntWalk.i64_in _ (by omega)
            have STX := Lib.hid stx
            clear hnd hnd2 hrx stx hnc hnc' stW hrW pxW HTS
            go_wp2_with fail
            exact leave_set_mark rfl rfl STX.out.rc hDx ⟨rfl, below_mark (STX.out.below.setCell (p := ⟨rb, 0, none⟩) hrbw _) hDw⟩
          · obtain ⟨v, hv⟩ : ∃ v : Int, ((k : Int) - 1) = v := ⟨_, rfl⟩
            rw [hv]
            have HV := Lib.hid hv
            have hle : decide (v ≤ N) = true := decide_eq_true (by omega)
            have hv64 : -1 ≤ v ∧ v ≤ 1025 := by omega
            have hvn : v ≤ (nt : Int) := by omega
            have hvk : (v + 1).toNat = k := by omega
            have HVK := Lib.hid hvk
            clear hvk
            have hv1 : IntKind.i64.wrap (v + 1) = v + 1 := IntWalk.i64_in _ (by omega)
            have STX := Lib.hid stx
            have HRX := Lib.hid hrx
            have HX := Lib.hid hx
            have hxsz := hx.size
            by_cases hin : 0 ≤ v ∧ v < N
            · obtain ⟨j, rfl⟩ := Int.eq_ofNat_of_zero_le hin.1
              have hj : j < nt := by omega
              have g1 : decide ((0 : Int) ≤ (j : Int)) = true := decide_eq_true (by omega)
              have g2 : decide ((j : Int) < N) = true := decide_eq_true hin.2
              obtain ⟨b, o, t, A3, n3, c3, hA, hb, htk, hc3, ist⟩ := stx.ts.get hj
              subst hA
              have hjl : j < tt.length := by omega
              have hn3 : n3 ≤ 1024 := by rw [← ist.len, ← htk.out]; exact HFT.out _ (getD_mem hjl)
              have hct := stx.ts.cap
              have hnc := stx.ts.le
              have k0 : (0 : Int) ≤ (j : Int) := by omega
              have k1 : (j : Int) < (nt : Int) := by omega
              have IST := Lib.hid ist
              clear stx hrx hx stW hrW pxW HTS hnc hv ist
              go_wp2_with fail
              refine (first2_new wr A3 n3 c3 t IST.out (by omega)).mono ?_
              rintro e W3 ⟨A4, n4, c4, rfl, is4, b3, _⟩
              have rxr : rx < wr.heap.size := by omega
              have px3 := (b3.cell (p := ⟨rx, 0, none⟩) rxr).trans px
              clear px c0 c1 tc hc3
              go_wp2_with fail
              refine (at_yes W3 r _ _ _ _ (RS.step HRX.out b3) HFL.out j (by rw [List.length_map]; exact hjl)).mono ?_
              rintro e W4 ⟨A5, n5, c5, rfl, is5, b4, _⟩
              rw [getD_map_first, htk.out] at is5
              go_wp2_with fail
              refine (refEqual_any W4 _ _ A5 A4 n5 c5 n4 c4 _ _ is5 (is4.step b4)).mono ?_
              rintro e W5 ⟨rfl, hd5⟩
              rw [decide_eq_true rfl]
              have hx5 := (HX.out.trans (bstep b3 b4)).trans (hd5.below _)
              clear is4 is5 px3
              go_wp2_with fail
              go_roundw
              case rel => exact ⟨k + 1, by omega, by rw [← HV.out]; go_num, hx5⟩
              case measure => have := HVK.out; simp [intOf]; omega
            · have hout : v < 0 ∨ ((tt.map first).length : Int) ≤ v := by rw [List.length_map]; omega
              have HOUT := Lib.hid hout
              have hsel : (v < 0) ∨ (0 ≤ v ∧ decide (v < N) = false) := by
                rcases Int.lt_or_le v 0 with h | h
                · exact .inl h
                · exact .inr ⟨h, decide_eq_false (by omega)⟩
              clear stx hrx hx stW hrW pxW HTS hnc hv hout hin
              rcases hsel with hneg | ⟨hpos, hge⟩
              · have g1 : decide (0 ≤ v) = false := decide_eq_false (by omega)
                go_wp2_with fail
                refine (at_no wr r _ _ _ _ HRX.out v HOUT.out).mono ?_
                rintro e W4 ⟨rfl, rfl⟩
                go_wp2_with fail
                refine (refEqual_any wr 0 0 none none 0 0 0 0 [] [] IS.none_ IS.none_).mono ?_
                rintro e W5 ⟨rfl, hd5⟩
                rw [decide_eq_true rfl]
                have hx5 := HX.out.trans (hd5.below _)
                clear px c0 c1 tc
                go_wp2_with fail
                go_roundw
                case rel => exact ⟨k + 1, by omega, by rw [← HV.out]; go_num, hx5⟩
                case measure => have := HVK.out; simp [intOf]; omega
              · have g1 : decide (0 ≤ v) = true := decide_eq_true hpos
                go_wp2_with fail
                refine (at_no wr r _ _ _ _ HRX.out v HOUT.out).mono ?_
                rintro e W4 ⟨rfl, rfl⟩
                go_wp2_with fail
                refine (refEqual_any wr 0 0 none none 0 0 0 0 [] [] IS.none_ IS.none_).mono ?_
                rintro e W5 ⟨rfl, hd5⟩
                rw [decide_eq_true rfl]
                have hx5 := HX.out.trans (hd5.below _)
                clear px c0 c1 tc
                go_wp2_with fail
                go_roundw
                case rel => exact ⟨k + 1, by omega, by rw [← HV.out]; go_num, hx5⟩
                case measure => have := HVK.out; simp [intOf]; omega
    · obtain ⟨q, hq⟩ : ∃ q, (if pRight N es vs xs = 0 then 5 else pRight N es vs xs) = q := ⟨_, rfl⟩
      have hq0 : q ≠ 0 := by
        rw [← hq]
        split <;> omega
      have hr6 : ∀ q', Right6 N es vs xs tt q' → q' = q := fun q' h => by
        rw [← hq]
        rcases h with ⟨h1, rfl⟩ | ⟨h1, h2, _⟩ | ⟨h1, h2, rfl⟩
        · rw [if_neg h1]
        · exact absurd ⟨h1, h2⟩ hno
        · rw [if_pos h1]
      rw [hq]
      have hqb : (q != 0) = true := by simp [hq0]
      have hqq : (q == q) = true := by simp
      have st6 := st5.step b6
      obtain ⟨w7, hw7, b7, s7, pc7⟩ := box_new w6 (.pointer none) 31
      have st7 := st6.step b7
      have px7 := box_cell pc7
      have ⟨_, _, c0, c1, c2, c3, _⟩ := st7.gb
      have tc7 := st7.tcell
      have HR6 := Lib.hid hr6
      have s7' : w6.heap.size < w7.heap.size := s7
      subst hw7
      clear hno hq hq0 st5 st6 b6 b7 hr6
      go_wp2_with fail
      refine (right6_any _ N A m c es Av nv cv vs Ae ne ce xs At nt ct tt st7.gp st7.ts hm60 hne60).mono ?_
      rintro e w8 ⟨⟨q', rfl, hq'⟩, b8⟩
      obtain rfl := HR6.out _ hq'
      have st8 := st7.step b8
      have px8 := (b8.cell (p := ⟨w6.heap.size, 0, none⟩) s7').trans px7
      have ⟨q2, q3⟩ := st8.rcell
      clear st7 px7 c0 c1 c2 c3 tc7 b8 pc7
      go_wp2_with fail
      exact leave_set rfl rfl st8.rc ⟨rfl, st8.below.setCell (p := ⟨rb, 0, none⟩) hrbw _⟩
  · have st5 := st4.step b5
    clear hs st4 b5 c0 c1 c2 c3 tc
    go_wp2_with fail
    refine (awake6_any w5).mono ?_
    rintro e w6 ⟨rfl, b6⟩
    have st6 := st5.step b6
    have ⟨q1, q2⟩ := st6.rcell
    go_wp2_with fail
    exact leave_set rfl rfl st6.rc ⟨rfl, st6.below.setCell (p := ⟨rb, 0, none⟩) hrbw _⟩
end Go.Proofs.Ythobfbnopkbniaa
