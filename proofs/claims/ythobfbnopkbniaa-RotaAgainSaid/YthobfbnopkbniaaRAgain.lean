/-
  The walk of the law RotaAgain; no conditions.
-/
import Derived.Test.YthobfbnopkbniaaRDo
import Derived.Test.YthobfbnopkbniaaRAwake
import Derived.Test.YthobfbnopkbniaaRTwice
import Derived.Test.YthobfbnopkbniaaREqual
import Derived.Test.YthobfbnopkbniaaRBox
import Derived.Test.YthobfbnopkbniaaIdle
namespace Go.Proofs.Ythobfbnopkbniaa
open Go.RowKit

set_option maxHeartbeats 2000000 in
set_option maxRecDepth 100000 in
theorem law_RotaAgain (w : World) (N : Int) (A : Option Addr) (m c : Nat) (es : List (Int × Int)) (Av : Option Addr) (nv cv : Nat) (vs : List Int) (Ae : Option Addr) (ne ce : Nat) (xs : List Int) (At : Option Addr) (nt ct : Nat) (tt : List (List Int)) (h : GP w N A m c es Av nv cv vs Ae ne ce xs) (ht : TS w w.heap.size At nt ct tt) :
    Calls Try.prog 5 #[.agg #[.int .i64 N, .slice A m c], .agg #[.slice Av nv cv, .slice Ae ne ce], .slice At nt ct] w fun e w' => e = .returned (.bool true) ∧ Below w.heap.size w w' := by
  obtain ⟨w1, hw1, b1, gb1⟩ := box_gp w N A m c es Av nv cv Ae ne ce
  have h1 := h.step b1
  have t1 := ht.step b1
  clear h ht
  refine (callsIn_wide (n := 5)).1 (callsIn_of_wp_marks Try.func5 rfl trivial (wpIn_wide.2 ?_) rfl)
  simp only [Try.ntmps5, List.size_toArray, List.length_cons, List.length_nil, Nat.reduceAdd, Nat.reduceSub, Array.replicate_succ, Array.replicate_zero, List.push_toArray, List.append_toArray, List.nil_append, List.cons_append]
  obtain ⟨rb, hrb⟩ : ∃ rb, w1.heap.size = rb := ⟨_, rfl⟩
  obtain ⟨w2, hw2, b2, s2, rc2⟩ := box_new w1 (.bool false) 4
  have hrbw : w.heap.size ≤ rb := by rw [← hrb]; exact b1.size
  rw [hrb] at rc2 s2
  have h2 := h1.step b2
  have t2 := t1.step b2
  have gb2 := gb1.step b2
  replace b1 := bstep b1 b2
  clear h1 t1 gb1 b2
  have ⟨_, _, c0, c1, c2, c3, _⟩ := gb2
  go_wp2_with fail
  refine (awake6_any w2).mono ?_
  rintro e w3 ⟨rfl, b3⟩
  have h3 := h2.step b3
  have t3 := t2.step b3
  have gb3 := gb2.step b3
  have rc3 := (b3.block rb s2).trans rc2
  replace b1 := bstep b1 b3
  have s3 : rb < w3.heap.size := by have := b3.size; omega
  clear hw1 hw2 h2 t2 gb2 rc2 b3 c0 c1 c2 c3 s2 hrb
  have ⟨_, _, c0, c1, c2, c3, _⟩ := gb3
  go_wp2_with fail
  refine (small6_any w3 N A m c es Av nv cv vs Ae ne ce xs At nt ct tt h3 t3).mono ?_
  rintro e w4 ⟨⟨hs, rfl⟩ | ⟨hs, rfl⟩, b4⟩
  · have h4 := h3.step b4
    have t4 := t3.step b4
    have gb4 := gb3.step b4
    have rc4 := (b4.block rb s3).trans rc3
    replace b1 := bstep b1 b4
    have s4 : rb < w4.heap.size := by have := b4.size; omega
    clear h3 t3 gb3 rc3 b4 c0 c1 c2 c3 s3
    have ⟨_, _, c0, c1, c2, c3, _⟩ := gb4
    have hm60 := hs.1.1
    have hne60 := hs.1.2.2.1
    have htl := hs.2.1
    have hrow := hs.2.2
    clear hs
    go_wp2_with fail
    refine (new_any w4 N A m c es Av nv cv vs Ae ne ce xs At nt ct tt h4 t4 hm60 hne60).mono ?_
    rintro e w5 ⟨⟨hp, hT, r, rfl, hrs⟩ | ⟨hno, rfl⟩, b5⟩
    · have h5 := h4.step b5
      have t5 := t4.step b5
      have gb5 := gb4.step b5
      have rc5 := (b5.block rb s4).trans rc4
      replace b1 := bstep b1 b5
      have s5 : rb < w5.heap.size := by have := b5.size; omega
      clear h4 t4 gb4 rc4 b5 c0 c1 c2 c3 s4
      have ⟨_, _, c0, c1, c2, c3, _⟩ := gb5
      have HP := Lib.hid hp
      have hpk := Lib.hid (pRight_ok hp)
      have hTT := Lib.hid hT
      clear hp hT
      obtain ⟨rx, hrx⟩ : ∃ rx, w5.heap.size = rx := ⟨_, rfl⟩
      obtain ⟨w6, hw6, b6, s6, pc6⟩ := box_new w5 (.pointer (some ⟨r, 0, none⟩)) 31
      rw [hrx] at s6 pc6
      have hr5 : r < w5.heap.size := by obtain ⟨_, _, _, _, _, _, _, _, _, _, h0, _⟩ := hrs; exact h0
      have h6 := h5.step b6
      have gb6 := gb5.step b6
      have hrs6 := RS.step hrs b6
      have rc6 := (b6.block rb s5).trans rc5
      have b16 := bstep b1 b6
      have px6 := box_cell pc6
      have s6' : w5.heap.size < w6.heap.size := by rw [hrx]; exact s6
      have hle5 : w.heap.size ≤ rx := by rw [← hrx]; exact b1.size
      have hrb6 : rb < w6.heap.size := by omega
      have hr6 : r < w6.heap.size := by omega
      have hft : (tt.map first).length ≤ 1024 := by rw [List.length_map]; omega
      have hfl : ∀ t ∈ tt.map first, t.length ≤ 1024 := fun t ht => Nat.le_trans (map_first_len hrow t ht) (by omega)
      have HFL := Lib.hid hfl
      clear h5 t5 gb5 c0 c1 c2 c3 hrs b6 b1 hrow hfl s5 hr5 rc5
      go_wp2_with fail
      clear hw6
      refine wp_region_idle 9 7 [[],[],[],[2],[0,1,2,3],[0,1,2,3,4],[0,1,2,3,4,5],[0,1,2,3,4,5],[]]
        [fun v _ => v = .agg #[.int .i64 N, .slice A m c],
         fun v _ => v = .agg #[.slice Av nv cv, .slice Ae ne ce],
         fun v _ => v = .pointer (some ⟨r, 0, none⟩),
         fun v w' => ∃ A' n' c', v = .slice A' n' c' ∧ TS w' w'.heap.size A' n' c' (tt.map first),
         fun v w' => ∃ s, v = .tuple #[.pointer (some ⟨s, 0, none⟩), .int .i64 0] ∧ RS w' s (lvOf es xs) (tt.map first) (placeN tt tt.length) (allDarts xs),
         fun v w' => ∃ s, v = .tuple #[.pointer (some ⟨s, 0, none⟩), .int .i64 0] ∧ RS w' s (lvOf es xs) (tt.map first) (placeN tt tt.length) (allDarts xs),
         fun v w' => ∃ s, v = .pointer (some ⟨s, 0, none⟩) ∧ RS w' s (lvOf es xs) (tt.map first) (placeN tt tt.length) (allDarts xs),
         fun v _ => v = .int .i64 0,
         fun v w' => ∃ eb, v = .pointer (some ⟨eb, 0, none⟩) ∧ w6.heap.size ≤ eb ∧ w'.heap[eb]? = some (.cells #[.pointer none] 31 (0, 0))]
        (by kernel_rfl) (by kernel_rfl) rfl rfl rfl rfl rfl rfl rfl rfl rfl rfl rfl ⟨?_, ?_, ?_, ?_, ?_, ?_, ?_, ?_, ?_, trivial⟩ ?_
      · intro wr hx v0 h0 v1 h1 v2 h2 v3 h3 v4 h4 v5 h5 v6 h6 v7 h7 v8 h8 K hK
        have ⟨_, _, c0, c1, c2, c3, _⟩ := gb6.step hx
        have px := (hx.cell (p := ⟨rx, 0, none⟩) s6).trans px6
        simp only [Act.put, List.setIfInBounds_toArray, List.set_cons_zero, List.set_cons_succ] at hK ⊢
        clear h0 h1 h2 h3 h4 h5 h6 h7 h8
        go_wp2
        exact hK _ _ (Ext.refl _) (fun _ _ => rfl)
      · intro wr hx v0 h0 v1 h1 v2 h2 v3 h3 v4 h4 v5 h5 v6 h6 v7 h7 v8 h8 K hK
        have ⟨_, _, c0, c1, c2, c3, _⟩ := gb6.step hx
        have px := (hx.cell (p := ⟨rx, 0, none⟩) s6).trans px6
        simp only [Act.put, List.setIfInBounds_toArray, List.set_cons_zero, List.set_cons_succ] at hK ⊢
        clear h0 h1 h2 h3 h4 h5 h6 h7 h8
        go_wp2
        exact hK _ _ (Ext.refl _) (fun _ _ => rfl)
      · intro wr hx v0 h0 v1 h1 v2 h2 v3 h3 v4 h4 v5 h5 v6 h6 v7 h7 v8 h8 K hK
        have ⟨_, _, c0, c1, c2, c3, _⟩ := gb6.step hx
        have px := (hx.cell (p := ⟨rx, 0, none⟩) s6).trans px6
        simp only [Act.put, List.setIfInBounds_toArray, List.set_cons_zero, List.set_cons_succ] at hK ⊢
        clear h0 h1 h2 h3 h4 h5 h6 h7 h8
        go_wp2
        exact hK _ _ (Ext.refl _) (fun _ _ => rfl)
      · intro wr hx v0 h0 v1 h1 v2 h2 v3 h3 v4 h4 v5 h5 v6 h6 v7 h7 v8 h8 K hK
        have ⟨_, _, c0, c1, c2, c3, _⟩ := gb6.step hx
        have px := (hx.cell (p := ⟨rx, 0, none⟩) s6).trans px6
        simp only [Act.put, List.setIfInBounds_toArray, List.set_cons_zero, List.set_cons_succ] at hK ⊢
        obtain rfl := (h2 (by decide)).now
        clear h0 h1 h2 h3 h4 h5 h6 h7 h8
        go_wp2_with fail
        refine (turn_any _ r _ _ _ _ (RS.step hrs6 hx) hft HFL.out).mono ?_
        rintro e w9 ⟨A9, n9, c9, rfl, t9, b9⟩
        go_wp2
        exact hK _ _ b9 (fun w' hx' => ⟨_, _, _, rfl, t9.step hx'⟩)
      · intro wr hx v0 h0 v1 h1 v2 h2 v3 h3 v4 h4 v5 h5 v6 h6 v7 h7 v8 h8 K hK
        have ⟨_, _, c0, c1, c2, c3, _⟩ := gb6.step hx
        have px := (hx.cell (p := ⟨rx, 0, none⟩) s6).trans px6
        simp only [Act.put, List.setIfInBounds_toArray, List.set_cons_zero, List.set_cons_succ] at hK ⊢
        obtain rfl := (h0 (by decide)).now
        obtain rfl := (h1 (by decide)).now
        obtain ⟨A9, n9, c9, rfl, t9⟩ := (h3 (by decide)).now
        clear h0 h1 h2 h3 h4 h5 h6 h7 h8
        go_wp2_with fail
        refine (new_any _ N A m c es Av nv cv vs Ae ne ce xs A9 n9 c9 (tt.map first) (h6.step hx) t9 hm60 hne60).mono ?_
        rintro e w9 ⟨⟨_, _, s, rfl, hss⟩ | ⟨hno, rfl⟩, b9⟩
        (rw [map_first_first, List.length_map, placeN_map_first] at hss)
        (go_wp2)
        (exact hK _ _ b9 (fun w' hx' => ⟨_, rfl, RS.step hss hx'⟩))
        exact absurd ⟨HP.out, hTT.out.first⟩ hno
      · intro wr hx v0 h0 v1 h1 v2 h2 v3 h3 v4 h4 v5 h5 v6 h6 v7 h7 v8 h8 K hK
        have ⟨_, _, c0, c1, c2, c3, _⟩ := gb6.step hx
        have px := (hx.cell (p := ⟨rx, 0, none⟩) s6).trans px6
        simp only [Act.put, List.setIfInBounds_toArray, List.set_cons_zero, List.set_cons_succ] at hK ⊢
        obtain ⟨s, rfl, hss⟩ := (h4 (by decide)).now
        clear h0 h1 h2 h3 h4 h5 h6 h7 h8
        go_wp2_with fail
        exact hK _ _ (Ext.refl _) (fun w' hx' => ⟨_, rfl, RS.step hss hx'⟩)
      · intro wr hx v0 h0 v1 h1 v2 h2 v3 h3 v4 h4 v5 h5 v6 h6 v7 h7 v8 h8 K hK
        have ⟨_, _, c0, c1, c2, c3, _⟩ := gb6.step hx
        have px := (hx.cell (p := ⟨rx, 0, none⟩) s6).trans px6
        simp only [Act.put, List.setIfInBounds_toArray, List.set_cons_zero, List.set_cons_succ] at hK ⊢
        obtain ⟨s, rfl, hss⟩ := (h5 (by decide)).now
        clear h0 h1 h2 h3 h4 h5 h6 h7 h8
        go_wp2_with fail
        exact hK _ _ (Ext.refl _) (fun w' hx' => ⟨_, rfl, RS.step hss hx'⟩)
      · intro wr hx v0 h0 v1 h1 v2 h2 v3 h3 v4 h4 v5 h5 v6 h6 v7 h7 v8 h8 K hK
        have ⟨_, _, c0, c1, c2, c3, _⟩ := gb6.step hx
        have px := (hx.cell (p := ⟨rx, 0, none⟩) s6).trans px6
        simp only [Act.put, List.setIfInBounds_toArray, List.set_cons_zero, List.set_cons_succ] at hK ⊢
        obtain ⟨s, rfl, hss⟩ := (h5 (by decide)).now
        clear h0 h1 h2 h3 h4 h5 h6 h7 h8
        go_wp2
        exact hK _ _ (Ext.refl _) (fun _ _ => rfl)
      · intro wr hx v0 h0 v1 h1 v2 h2 v3 h3 v4 h4 v5 h5 v6 h6 v7 h7 v8 h8 K hK
        have ⟨_, _, c0, c1, c2, c3, _⟩ := gb6.step hx
        have px := (hx.cell (p := ⟨rx, 0, none⟩) s6).trans px6
        simp only [Act.put, List.setIfInBounds_toArray, List.set_cons_zero, List.set_cons_succ] at hK ⊢
        clear h0 h1 h2 h3 h4 h5 h6 h7 h8
        go_wp2
        exact hK _ _ (Ext.alloc _ _) (fun w'' hx' => ⟨_, rfl, hx.size, (hx'.block _ (by simp)).trans (heap_alloc_new wr _)⟩)
      intro wr hx v0 h0 v1 h1 v2 h2 v3 h3 v4 h4 v5 h5 v6 h6 v7 h7 v8 h8
      have ⟨_, _, c0, c1, c2, c3, _⟩ := gb6.step hx
      have px := (hx.cell (p := ⟨rx, 0, none⟩) s6).trans px6
      obtain ⟨s, rfl, hss⟩ := h6.now
      obtain rfl := h7.now
      obtain ⟨sx, rfl, hsx, hsc⟩ := h8.now
      clear h0 h1 h2 h3 h4 h5 h6 h7 h8
      simp only [List.drop_succ_cons, List.drop_zero, Act.put, List.setIfInBounds_toArray, List.set_cons_zero, List.set_cons_succ]
      refine ⟨_, run_store_rota hsc _, ?_⟩
      have hpast := past_box hsc (.pointer (some ⟨s, 0, none⟩))
      have hsc' := box_set hsc (.pointer (some ⟨s, 0, none⟩))
      have hsz := set_size wr sx (.pointer (some ⟨s, 0, none⟩))
      have hb7 : Below w6.heap.size w6 (wr.setCell ⟨sx, 0, none⟩ (.pointer (some ⟨s, 0, none⟩))) := hx.setCell (p := ⟨sx, 0, none⟩) hsx _
      have hss7 := RS.past_ hss hpast
      obtain ⟨w7, hw7⟩ : ∃ w7, wr.setCell ⟨sx, 0, none⟩ (.pointer (some ⟨s, 0, none⟩)) = w7 := ⟨_, rfl⟩
      rw [hw7] at hpast hsc' hb7 hss7 hsz
      have sx7 : sx < w7.heap.size := by rw [hsz]; exact (Array.getElem?_eq_some_iff.1 hsc).1
      have rx7 : rx < w7.heap.size := by have := hb7.size; omega
      have hrs7 := RS.step hrs6 hb7
      have rc7 := (hb7.block rb hrb6).trans rc6
      have hrb7 : rb < w7.heap.size := by have := hb7.size; omega
      have px7 := (hb7.cell (p := ⟨rx, 0, none⟩) s6).trans px6
      have sc7 := box_cell hsc'
      have b17 := bstep b16 hb7
      clear hpast hsc hss hb7 hrs6 rc6 px6 gb6 h6 hsz hsx b16 hx hrb6
      go_wp2_with fail
      clear hw7
      refine wp_region_rel 10 [[],[0],[0,1],[0,1,2],[0,1,2,3],[0,1,2],[0,1,2,3,4,5],[0,1,2,3,4,5,6],[0,1,2,3,4,5,6,7],[0,1,2,3,4,5,6,7,8]]
        [fun v _ => v = .int .i64 0,
         fun v _ => v = .bool false,
         fun v _ => v = .bool false,
         fun v _ => v = .pointer (some ⟨s, 0, none⟩),
         fun v w' => ∃ A' n' c', v = .slice A' n' c' ∧ TS w' w'.heap.size A' n' c' (tt.map first),
         fun v _ => v = .pointer (some ⟨r, 0, none⟩),
         fun v w' => ∃ A' n' c', v = .slice A' n' c' ∧ TS w' w'.heap.size A' n' c' (tt.map first),
         fun v _ => v = .bool true,
         fun v _ => v = .bool false,
         fun v _ => v = .bool false]
        (by kernel_rfl) (by kernel_rfl) rfl ⟨?_, ?_, ?_, ?_, ?_, ?_, ?_, ?_, ?_, ?_, trivial⟩ ?_
      · intro wr hx v0 h0 v1 h1 v2 h2 v3 h3 v4 h4 v5 h5 v6 h6 v7 h7 v8 h8 v9 h9 K hK
        have px := (hx.cell (p := ⟨rx, 0, none⟩) rx7).trans px7
        have sc := (hx.cell (p := ⟨sx, 0, none⟩) sx7).trans sc7
        simp only [Act.put, List.setIfInBounds_toArray, List.set_cons_zero, List.set_cons_succ] at hK ⊢
        clear h0 h1 h2 h3 h4 h5 h6 h7 h8 h9
        go_wp2
        exact hK _ _ (Ext.refl _) (fun _ _ => rfl)
      · intro wr hx v0 h0 v1 h1 v2 h2 v3 h3 v4 h4 v5 h5 v6 h6 v7 h7 v8 h8 v9 h9 K hK
        have px := (hx.cell (p := ⟨rx, 0, none⟩) rx7).trans px7
        have sc := (hx.cell (p := ⟨sx, 0, none⟩) sx7).trans sc7
        simp only [Act.put, List.setIfInBounds_toArray, List.set_cons_zero, List.set_cons_succ] at hK ⊢
        obtain rfl := (h0 (by decide)).now
        clear h0 h1 h2 h3 h4 h5 h6 h7 h8 h9
        go_wp2
        exact hK _ _ (Ext.refl _) (fun _ _ => rfl)
      · intro wr hx v0 h0 v1 h1 v2 h2 v3 h3 v4 h4 v5 h5 v6 h6 v7 h7 v8 h8 v9 h9 K hK
        have px := (hx.cell (p := ⟨rx, 0, none⟩) rx7).trans px7
        have sc := (hx.cell (p := ⟨sx, 0, none⟩) sx7).trans sc7
        simp only [Act.put, List.setIfInBounds_toArray, List.set_cons_zero, List.set_cons_succ] at hK ⊢
        obtain rfl := (h1 (by decide)).now
        clear h0 h1 h2 h3 h4 h5 h6 h7 h8 h9
        go_wp2
        exact hK _ _ (Ext.refl _) (fun _ _ => rfl)
      · intro wr hx v0 h0 v1 h1 v2 h2 v3 h3 v4 h4 v5 h5 v6 h6 v7 h7 v8 h8 v9 h9 K hK
        have px := (hx.cell (p := ⟨rx, 0, none⟩) rx7).trans px7
        have sc := (hx.cell (p := ⟨sx, 0, none⟩) sx7).trans sc7
        simp only [Act.put, List.setIfInBounds_toArray, List.set_cons_zero, List.set_cons_succ] at hK ⊢
        obtain rfl := (h2 (by decide)).now
        clear h0 h1 h2 h3 h4 h5 h6 h7 h8 h9
        go_wp2
        exact hK _ _ (Ext.refl _) (fun _ _ => rfl)
      · intro wr hx v0 h0 v1 h1 v2 h2 v3 h3 v4 h4 v5 h5 v6 h6 v7 h7 v8 h8 v9 h9 K hK
        have px := (hx.cell (p := ⟨rx, 0, none⟩) rx7).trans px7
        have sc := (hx.cell (p := ⟨sx, 0, none⟩) sx7).trans sc7
        simp only [Act.put, List.setIfInBounds_toArray, List.set_cons_zero, List.set_cons_succ] at hK ⊢
        obtain rfl := (h2 (by decide)).now
        obtain rfl := (h3 (by decide)).now
        clear h0 h1 h2 h3 h4 h5 h6 h7 h8 h9
        go_wp2_with fail
        refine (turn_any _ s _ _ _ _ (RS.step hss7 hx) hft HFL.out).mono ?_
        rintro e w9 ⟨A9, n9, c9, rfl, t9, b9⟩
        go_wp2
        exact hK _ _ b9 (fun w' hx' => ⟨_, _, _, rfl, t9.step hx'⟩)
      · intro wr hx v0 h0 v1 h1 v2 h2 v3 h3 v4 h4 v5 h5 v6 h6 v7 h7 v8 h8 v9 h9 K hK
        have px := (hx.cell (p := ⟨rx, 0, none⟩) rx7).trans px7
        have sc := (hx.cell (p := ⟨sx, 0, none⟩) sx7).trans sc7
        simp only [Act.put, List.setIfInBounds_toArray, List.set_cons_zero, List.set_cons_succ] at hK ⊢
        obtain rfl := (h2 (by decide)).now
        clear h0 h1 h2 h3 h4 h5 h6 h7 h8 h9
        go_wp2
        exact hK _ _ (Ext.refl _) (fun _ _ => rfl)
      · intro wr hx v0 h0 v1 h1 v2 h2 v3 h3 v4 h4 v5 h5 v6 h6 v7 h7 v8 h8 v9 h9 K hK
        have px := (hx.cell (p := ⟨rx, 0, none⟩) rx7).trans px7
        have sc := (hx.cell (p := ⟨sx, 0, none⟩) sx7).trans sc7
        simp only [Act.put, List.setIfInBounds_toArray, List.set_cons_zero, List.set_cons_succ] at hK ⊢
        obtain rfl := (h2 (by decide)).now
        obtain rfl := (h5 (by decide)).now
        clear h0 h1 h2 h3 h4 h5 h6 h7 h8 h9
        go_wp2_with fail
        refine (turn_any _ r _ _ _ _ (RS.step hrs7 hx) hft HFL.out).mono ?_
        rintro e w9 ⟨A9, n9, c9, rfl, t9, b9⟩
        go_wp2
        exact hK _ _ b9 (fun w' hx' => ⟨_, _, _, rfl, t9.step hx'⟩)
      · intro wr hx v0 h0 v1 h1 v2 h2 v3 h3 v4 h4 v5 h5 v6 h6 v7 h7 v8 h8 v9 h9 K hK
        have px := (hx.cell (p := ⟨rx, 0, none⟩) rx7).trans px7
        have sc := (hx.cell (p := ⟨sx, 0, none⟩) sx7).trans sc7
        simp only [Act.put, List.setIfInBounds_toArray, List.set_cons_zero, List.set_cons_succ] at hK ⊢
        obtain rfl := (h2 (by decide)).now
        obtain ⟨A8, n8, c8, rfl, t8⟩ := (h4 (by decide)).now
        obtain ⟨A9, n9, c9, rfl, t9⟩ := (h6 (by decide)).now
        clear h0 h1 h2 h3 h4 h5 h6 h7 h8 h9
        go_wp2_with fail
        refine (equal6_any _ _ _ _ _ _ _ _ _ _ _ t8 t9 (Nat.le_refl _) (Nat.le_refl _)).mono ?_
        rintro e w9 ⟨rfl, b9⟩
        rw [decide_eq_true rfl]
        go_wp2
        exact hK _ _ b9 (fun _ _ => rfl)
      · intro wr hx v0 h0 v1 h1 v2 h2 v3 h3 v4 h4 v5 h5 v6 h6 v7 h7 v8 h8 v9 h9 K hK
        have px := (hx.cell (p := ⟨rx, 0, none⟩) rx7).trans px7
        have sc := (hx.cell (p := ⟨sx, 0, none⟩) sx7).trans sc7
        simp only [Act.put, List.setIfInBounds_toArray, List.set_cons_zero, List.set_cons_succ] at hK ⊢
        obtain rfl := (h2 (by decide)).now
        obtain rfl := (h7 (by decide)).now
        clear h0 h1 h2 h3 h4 h5 h6 h7 h8 h9
        go_wp2
        exact hK _ _ (Ext.refl _) (fun _ _ => rfl)
      · intro wr hx v0 h0 v1 h1 v2 h2 v3 h3 v4 h4 v5 h5 v6 h6 v7 h7 v8 h8 v9 h9 K hK
        have px := (hx.cell (p := ⟨rx, 0, none⟩) rx7).trans px7
        have sc := (hx.cell (p := ⟨sx, 0, none⟩) sx7).trans sc7
        simp only [Act.put, List.setIfInBounds_toArray, List.set_cons_zero, List.set_cons_succ] at hK ⊢
        obtain rfl := (h2 (by decide)).now
        obtain rfl := (h8 (by decide)).now
        clear h0 h1 h2 h3 h4 h5 h6 h7 h8 h9
        go_wp2
        exact hK _ _ (Ext.refl _) (fun _ _ => rfl)
      intro wr hx v0 h0 v1 h1 v2 h2 v3 h3 v4 h4 v5 h5 v6 h6 v7 h7 v8 h8 v9 h9
      have px := (hx.cell (p := ⟨rx, 0, none⟩) rx7).trans px7
      have sc := (hx.cell (p := ⟨sx, 0, none⟩) sx7).trans sc7
      obtain rfl := h9.now
      clear h0 h1 h2 h3 h4 h5 h6 h7 h8 h9
      refine tail_none (by kernel_rfl) ?_
      simp only [Act.put, List.setIfInBounds_toArray, List.set_cons_zero, List.set_cons_succ]
      have hrs8 := RS.step hrs7 hx
      have hss8 := RS.step hss7 hx
      have rc8 := (hx.block rb hrb7).trans rc7
      have px8 := (hx.cell (p := ⟨rx, 0, none⟩) rx7).trans px7
      have sc8 := (hx.cell (p := ⟨sx, 0, none⟩) sx7).trans sc7
      have b18 := bstep b17 hx
      have hz := hx.size
      clear hrs7 hss7 rc7 px7 sc7 b17 hsc' hx
      have hrb8 : rb < wr.heap.size := by omega
      have rx8 : rx < wr.heap.size := by omega
      have sx8 : sx < wr.heap.size := by omega
      clear hz hrb7 rx7 sx7
      go_wp2_with fail
      refine (darts_any wr (some ⟨r, 0, none⟩)).mono ?_
      rintro e w9 ⟨bx, rfl, bc9, hbx, bx9, b9⟩
      have hrs9 := RS.step hrs8 b9
      have hss9 := RS.step hss8 b9
      have rc9 := (b9.block rb hrb8).trans rc8
      have px9 := (b9.cell (p := ⟨rx, 0, none⟩) rx8).trans px8
      have sc9 := (b9.cell (p := ⟨sx, 0, none⟩) sx8).trans sc8
      have b19 := bstep b18 b9
      have hz := b9.size
      clear hrs8 hss8 rc8 px8 sc8 b18 b9
      go_wp2_with fail
      obtain ⟨Ad, nd, cd, hnd, hdi⟩ := hrs9.di (bx := bx)
      replace hdi := hdi bc9
      have hr9 : r < w9.heap.size := hrs9.lt
      have hrb9 : rb < w9.heap.size := by omega
      have rx9 : rx < w9.heap.size := by omega
      have sx9 : sx < w9.heap.size := by omega
      clear hbx bc9 hz hrb8 rx8 sx8 hr6 s6' hrx
      refine wp_range_darts_v (bx := bx) (p := some ⟨r, 0, none⟩) (Ad := Ad) (nd := nd) (cd := cd) (B := w9.heap.size) (ds := allDarts xs) rfl (fun _ W => Ext w9 W) (fun _ _ => False) ?sI ?sX ?D (Ext.refl _) (by simp) ?body ?done ?stop
      case sI => exact fun _ W W' hw ha => Below.trans hw (ha.below hw.size)
      case sX => exact fun _ _ _ h _ => h
      case D => exact fun _ W hw => hdi.below (Nat.le_refl _) bx9 (fun a ha => by cases ha; exact hr9) hw
      case stop => exact fun _ _ _ _ h _ => h.elim
      case body =>
        intro l n k W hi hk
        have hxm : (allDarts xs).getD k 0 / 2 ∈ xs := by
          rw [← mem_allDarts, getD_idx (by omega)]
          exact List.getElem_mem _
        have c1 := Lib.hid (t_next_yes (es := es) (tt := tt) (RS.step hrs9 hi) hpk.out hTT.out hxm)
        have c2 := Lib.hid (t_next_yes (es := es) (tt := tt) (RS.step hss9 hi) hpk.out hTT.out hxm)
        have px := (hi.cell (p := ⟨rx, 0, none⟩) rx9).trans px9
        have sc := (hi.cell (p := ⟨sx, 0, none⟩) sx9).trans sc9
        obtain ⟨x, hx⟩ : ∃ x, (allDarts xs).getD k 0 = x := ⟨_, rfl⟩
        rw [hx] at c1 c2
        obtain ⟨y, hy⟩ : ∃ y, stepOf es tt (twin x) (-1) = y := ⟨_, rfl⟩
        rw [hy] at c1 c2
        rw [hx]
        have HI := Lib.hid hi
        clear hx hy hxm hi hdi hrs9 hss9 px9 sc9 rc9
        simp only [List.setIfInBounds_toArray, List.set_cons_zero, List.set_cons_succ]
        gi_step
        gi_step
        refine rnd_region rfl (fun ⟨_, _, h⟩ => h) ?_
        go_wp2_with fail
        refine c1.out.mono ?_
        rintro e W1 ⟨rfl, rfl⟩
        go_wp2_with fail
        gi_step
        refine rnd_region rfl (fun ⟨_, _, h⟩ => h) ?_
        go_wp2_with fail
        refine c2.out.mono ?_
        rintro e W1 ⟨rfl, rfl⟩
        go_wp2_with fail
        gi_step
        refine rnd_region rfl (fun ⟨_, _, h⟩ => h) ?_
        go_wp2_with fail
        gi_step
        gi_step
        gi_step
        exact ⟨KeepsFrom.refl _ _, HI.out⟩
      case done =>
        intro D W hD hW hDef
        have rcW := (hW.block rb hrb9).trans rc9
        have q1 := box_cell rcW
        have q2 := box_frozen rcW
        have bW := bstep b19 hW
        have hDw : w.heap.size ≤ D := by have := b19.size; omega
        clear hdi hrs9 hss9 px9 sc9 rc9
        go_wp2_with fail
        exact leave_set_mark rfl rfl rcW hDef ⟨rfl, below_mark (bW.setCell (p := ⟨rb, 0, none⟩) hrbw _) hDw⟩
    · obtain ⟨q, hq⟩ : ∃ q, (if pRight N es vs xs = 0 then 5 else pRight N es vs xs) = q := ⟨_, rfl⟩
      rw [hq]
      have hqb : (q != 0) = true := by
        rw [← hq]
        simp only [bne_iff_ne, ne_eq]
        split <;> omega
      obtain ⟨w6, hw6, b6, s6, pc6⟩ := box_new w5 (.pointer none) 31
      have rc5 := (b5.block rb s4).trans rc4
      have rc6 := (b6.block rb (by have := b5.size; omega)).trans rc5
      have b16 := bstep (bstep b1 b5) b6
      have px6 := box_cell pc6
      have q1 := box_cell rc6
      have q2 := box_frozen rc6
      subst hw6
      clear hno hq b5 b6 rc4 rc5
      go_wp2_with fail
      exact leave_set rfl rfl rc6 ⟨rfl, b16.setCell (p := ⟨rb, 0, none⟩) hrbw _⟩
  · clear hs
    have rc4 := (b4.block rb s3).trans rc3
    have s4 : rb < w4.heap.size := by have := b4.size; omega
    replace b1 := bstep b1 b4
    clear b4
    go_wp2_with fail
    refine (awake6_any w4).mono ?_
    rintro e w5 ⟨rfl, b5⟩
    have rc5 := (b5.block rb s4).trans rc4
    have q1 := box_cell rc5
    have q2 := box_frozen rc5
    go_wp2_with fail
    exact leave_set rfl rfl rc5 ⟨rfl, (bstep b1 b5).setCell (p := ⟨rb, 0, none⟩) hrbw _⟩
end Go.Proofs.Ythobfbnopkbniaa
