/-
  Joined texts: FAwake. No conditions.
-/
import Derived.Test.YthobfbnopkbniaaFaceC

section
namespace Go.Proofs.Ythobfbnopkbniaa
open Go.RowKit

theorem ex_genus {n : Nat} {f : Int → Option Int} (h : PcI [(0, 1), (0, 1)] (upto 2) (upto (2 : Int).toNat) (upto (2 : Int).toNat) n f) : ∀ g ∈ genusOf [(0, 1), (0, 1)] [[0, 2], [1, 3]] (upto (2 : Int).toNat) (upto 2) f n, g = 0 := by
  have hp := pRight_ok ex_right
  have hu : upto (2 : Int).toNat = [0, 1] := by decide
  have hu2 : upto 2 = [0, 1] := by decide
  have h01 : Hang [(0, 1), (0, 1)] (upto 2) 0 1 := Hang.dart hp (d := 0) (by decide)
  have hn1 : n ≤ 1 := (h.one hp).2 fun x hx y hy => by
    rw [hu] at hx hy
    simp only [List.mem_cons, List.not_mem_nil, or_false] at hx hy
    rcases hx with rfl | rfl <;> rcases hy with rfl | rfl
    · exact Hang.refl _
    · exact h01
    · exact h01.symm hp
    · exact Hang.refl _
  obtain ⟨k, hk⟩ := Option.isSome_iff_exists.1 (h.all 0 (by rw [hu]; simp))
  obtain ⟨i, rfl, hi⟩ := h.lt 0 k hk
  obtain rfl : i = 0 := by omega
  obtain rfl : n = 1 := by omega
  have hk1 : f 1 = some 0 := (h.of_some hp hk).2 h01
  intro g hg
  unfold genusOf at hg
  rw [ex_walks, show List.range 1 = [0] from rfl, List.map_cons, List.map_nil, List.mem_singleton] at hg
  rw [hg, hu, hu2]
  have hk0 : f 0 = some 0 := hk
  unfold genusAt faceCnt
  simp [hk0, hk1, ends, cornerOf, tail]

theorem ex_walks_ws {w w' : World} {e : Ending} (h : WalksRes w 2 [(0, 1), (0, 1)] (upto (2 : Int).toNat) (upto 2) [[0, 2], [1, 3]] e w') :
    ∃ A c, e = .returned (.tuple #[.slice A 2 c, .int .i64 0]) ∧ WS w' w'.heap.size A 2 c [(0, [0, 3]), (1, [1, 2])] ∧ Below w.heap.size w w' := by
  obtain ⟨⟨_, _, A, n, c, rfl, hW⟩ | ⟨hno, _⟩, hb⟩ := h
  · rw [ex_walks] at hW
    have hlen := hW.len
    obtain rfl : n = 2 := by simpa using hlen.symm
    exact ⟨A, c, rfl, hW, hb⟩
  · exact absurd ⟨ex_right, ex_turn⟩ hno

set_option maxHeartbeats 4000000 in
set_option maxRecDepth 100000 in
theorem awakeFace : AwakeFace := by
  intro w
  go_enter Try.func52, Try.ntmps52
  go_wp2
  obtain ⟨wb, hwb⟩ : ∃ wb, ((w.alloc (.cells #[.int .i64 0, .int .i64 1, .int .i64 0, .int .i64 1] 86)).alloc (.cells #[.int .i64 2, .slice (some ⟨w.heap.size, 0, none⟩) 2 2] 24)) = wb := ⟨_, rfl⟩
  have hbw : Below w.heap.size w wb := by rw [← hwb]; exact ((Below.refl _ _).alloc (Nat.le_refl _) _).alloc (by simp) _
  have hsz : wb.heap.size = w.heap.size + 2 := by rw [← hwb]; simp
  have c0 : wb.cell? ⟨w.heap.size + 1, 0, none⟩ = some (.int .i64 2) := by rw [← hwb]; simp
  have c1 : wb.cell? ⟨w.heap.size + 1, 1, none⟩ = some (.slice (some ⟨w.heap.size, 0, none⟩) 2 2) := by rw [← hwb]; simp
  have hes : ES wb wb.heap.size (some ⟨w.heap.size, 0, none⟩) 2 2 [(0, 1), (0, 1)] := by
    refine ⟨rfl, Nat.le_refl _, by omega, by simp [I64], fun _ => ⟨_, 0, rfl, by omega, fun j hj => ?_⟩⟩
    rw [← hwb]
    match j, hj with
    | 0, _ => simp
    | 1, _ => simp
  have hgl : w.heap.size + 1 < wb.heap.size := by omega
  rw [hwb]
  clear hwb
  refine wp_region_rel 7 [[],[],[1],[],[],[3,4],[0,1,2,3,4,5]]
    [fun v _ => v = .agg #[.int .i64 2, .slice (some ⟨w.heap.size, 0, none⟩) 2 2],
     fun v _ => v = .agg #[.int .i64 2, .slice (some ⟨w.heap.size, 0, none⟩) 2 2],
     fun v w' => ∃ A1 n1 d1 A2 n2 d2, v = .agg #[.slice A1 n1 d1, .slice A2 n2 d2] ∧ IS w' w'.heap.size A1 n1 d1 (upto (2 : Int).toNat) ∧ IS w' w'.heap.size A2 n2 d2 (upto 2),
     fun v w' => ∃ A, v = .slice A 2 2 ∧ IS w' w'.heap.size A 2 2 [0, 2],
     fun v w' => ∃ A, v = .slice A 2 2 ∧ IS w' w'.heap.size A 2 2 [1, 3],
     fun v w' => ∃ A, v = .slice A 2 2 ∧ TS w' w'.heap.size A 2 2 [[0, 2], [1, 3]],
     fun v w' => ∃ A c, v = .tuple #[.slice A 2 c, .int .i64 0] ∧ WS w' w'.heap.size A 2 c [(0, [0, 3]), (1, [1, 2])]]
    (by kernel_rfl) (by kernel_rfl) rfl ⟨?_, ?_, ?_, ?_, ?_, ?_, ?_, trivial⟩ ?_
  · intro wr hx v0 h0 v1 h1 v2 h2 v3 h3 v4 h4 v5 h5 v6 h6 K hK
    have k0 := (hx.cell (p := ⟨w.heap.size + 1, 0, none⟩) hgl).trans c0
    have k1 := (hx.cell (p := ⟨w.heap.size + 1, 1, none⟩) hgl).trans c1
    simp only [Act.put, List.setIfInBounds_toArray, List.set_cons_zero, List.set_cons_succ] at hK ⊢
    clear h0 h1 h2 h3 h4 h5 h6
    go_wp2
    exact hK _ _ (Ext.refl _) (fun _ _ => rfl)
  · intro wr hx v0 h0 v1 h1 v2 h2 v3 h3 v4 h4 v5 h5 v6 h6 K hK
    have k0 := (hx.cell (p := ⟨w.heap.size + 1, 0, none⟩) hgl).trans c0
    have k1 := (hx.cell (p := ⟨w.heap.size + 1, 1, none⟩) hgl).trans c1
    simp only [Act.put, List.setIfInBounds_toArray, List.set_cons_zero, List.set_cons_succ] at hK ⊢
    clear h0 h1 h2 h3 h4 h5 h6
    go_wp2
    exact hK _ _ (Ext.refl _) (fun _ _ => rfl)
  · intro wr hx v0 h0 v1 h1 v2 h2 v3 h3 v4 h4 v5 h5 v6 h6 K hK
    have k0 := (hx.cell (p := ⟨w.heap.size + 1, 0, none⟩) hgl).trans c0
    have k1 := (hx.cell (p := ⟨w.heap.size + 1, 1, none⟩) hgl).trans c1
    simp only [Act.put, List.setIfInBounds_toArray, List.set_cons_zero, List.set_cons_succ] at hK ⊢
    obtain rfl := (h1 (by decide)).now
    clear h0 h1 h2 h3 h4 h5 h6
    go_wp2_with fail
    refine (whole_any wr 2 _ 2 2 _ (hes.step hx) (by omega) (by omega) (by omega)).mono ?_
    rintro e w' ⟨A1, n1, d1, A2, n2, d2, rfl, his1, his2, hb⟩
    go_wp2
    exact hK _ _ hb (fun w'' hx' => ⟨_, _, _, _, _, _, rfl, his1.step hx', his2.step hx'⟩)
  · intro wr hx v0 h0 v1 h1 v2 h2 v3 h3 v4 h4 v5 h5 v6 h6 K hK
    have k0 := (hx.cell (p := ⟨w.heap.size + 1, 0, none⟩) hgl).trans c0
    have k1 := (hx.cell (p := ⟨w.heap.size + 1, 1, none⟩) hgl).trans c1
    simp only [Act.put, List.setIfInBounds_toArray, List.set_cons_zero, List.set_cons_succ] at hK ⊢
    clear h0 h1 h2 h3 h4 h5 h6
    go_wp2
    exact hK _ _ (Ext.alloc _ _) (fun w'' hx' => ⟨_, rfl, (IS.two_ wr 0 2 ⟨by omega, by omega⟩ ⟨by omega, by omega⟩).step hx'⟩)
  · intro wr hx v0 h0 v1 h1 v2 h2 v3 h3 v4 h4 v5 h5 v6 h6 K hK
    have k0 := (hx.cell (p := ⟨w.heap.size + 1, 0, none⟩) hgl).trans c0
    have k1 := (hx.cell (p := ⟨w.heap.size + 1, 1, none⟩) hgl).trans c1
    simp only [Act.put, List.setIfInBounds_toArray, List.set_cons_zero, List.set_cons_succ] at hK ⊢
    clear h0 h1 h2 h3 h4 h5 h6
    go_wp2
    exact hK _ _ (Ext.alloc _ _) (fun w'' hx' => ⟨_, rfl, (IS.two_ wr 1 3 ⟨by omega, by omega⟩ ⟨by omega, by omega⟩).step hx'⟩)
  · intro wr hx v0 h0 v1 h1 v2 h2 v3 h3 v4 h4 v5 h5 v6 h6 K hK
    have k0 := (hx.cell (p := ⟨w.heap.size + 1, 0, none⟩) hgl).trans c0
    have k1 := (hx.cell (p := ⟨w.heap.size + 1, 1, none⟩) hgl).trans c1
    simp only [Act.put, List.setIfInBounds_toArray, List.set_cons_zero, List.set_cons_succ] at hK ⊢
    obtain ⟨A3, rfl, i3⟩ := (h3 (by decide)).now
    obtain ⟨A4, rfl, i4⟩ := (h4 (by decide)).now
    clear h0 h1 h2 h3 h4 h5 h6
    go_wp2
    exact hK _ _ (Ext.alloc _ _) (fun w'' hx' => ⟨_, rfl, (TS.two _ i3 i4).step hx'⟩)
  · intro wr hx v0 h0 v1 h1 v2 h2 v3 h3 v4 h4 v5 h5 v6 h6 K hK
    have k0 := (hx.cell (p := ⟨w.heap.size + 1, 0, none⟩) hgl).trans c0
    have k1 := (hx.cell (p := ⟨w.heap.size + 1, 1, none⟩) hgl).trans c1
    simp only [Act.put, List.setIfInBounds_toArray, List.set_cons_zero, List.set_cons_succ] at hK ⊢
    obtain rfl := (h0 (by decide)).now
    obtain ⟨A1, n1, d1, A2, n2, d2, rfl, i1, i2⟩ := (h2 (by decide)).now
    obtain ⟨A5, rfl, i5⟩ := (h5 (by decide)).now
    clear h0 h1 h2 h3 h4 h5 h6
    go_wp2_with fail
    refine (walks_any wr 2 _ 2 2 _ A1 n1 d1 _ A2 n2 d2 _ _ 2 2 [[0, 2], [1, 3]] ⟨hes.step hx, ⟨by omega, by omega⟩, i1, i2⟩ i5 (by omega) (by have := i2.len; rw [upto_len] at this; omega)).mono ?_
    rintro e w' hr
    obtain ⟨AW, cW, rfl, hW, hb⟩ := ex_walks_ws hr
    go_wp2
    exact hK _ _ hb (fun w'' hx' => ⟨_, _, rfl, hW.step hx'⟩)
  intro wc hx v0 h0 v1 h1 v2 h2 v3 h3 v4 h4 v5 h5 v6 h6
  have k0 := (hx.cell (p := ⟨w.heap.size + 1, 0, none⟩) hgl).trans c0
  have k1 := (hx.cell (p := ⟨w.heap.size + 1, 1, none⟩) hgl).trans c1
  obtain ⟨AW, cW, rfl, hW⟩ := h6.now
  clear h0 h1 h2 h3 h4 h5 h6
  refine tail_quiet (by kernel_rfl) ?_
  simp only [List.drop_succ_cons, List.drop_zero, Act.put, List.setIfInBounds_toArray, List.set_cons_zero, List.set_cons_succ]
  repeat (go_big_quiet_step (fail))
  refine wpQuiet_nil ?_
  obtain ⟨b, o, y0, t0, AX, nX, dX, rfl, hbl, hg0, _, _, e0, iX⟩ := hW.get (k := 0) (by omega)
  obtain ⟨b', o', y1, t1, AY, nY, dY, he, _, hg1, _, _, e1, iY⟩ := hW.get (k := 1) (by omega)
  injection he with he
  injection he with q1 q2
  subst q1 q2
  have g0 := hg0.out
  have g1 := hg1.out
  simp at g0 g1
  obtain ⟨rfl, rfl⟩ := g0
  obtain ⟨rfl, rfl⟩ := g1
  have hWl := hW.le
  have hWc := hW.cap
  have hesc := hes.step hx
  have k0 := (hx.cell (p := ⟨w.heap.size + 1, 0, none⟩) hgl).trans c0
  have k1 := (hx.cell (p := ⟨w.heap.size + 1, 1, none⟩) hgl).trans c1
  have hgc : w.heap.size + 1 < wc.heap.size := Nat.lt_of_lt_of_le hgl hx.size
  have HBC := Lib.hid (hbw.trans (hx.mono hbw.size))
  clear hg0 hg1 hx hW hes c0 c1 hgl
  rw [show o + 0 * 2 + 1 = o + 1 by omega] at e0
  rw [show o + 1 * 2 + 1 = o + 3 by omega] at e1
  have hl2 : (o + 0 * 2 : Nat) = o := by omega
  have hl3 : (o + 1 * 2 : Nat) = o + 2 := by omega
  go_wp2
  refine wp_region_rel 32 [[],[0],[0,1],[0,1,2],[0,1,2,3],[0,1,2,3,4],[0,1,2,3,4,5],[0,1,2,3,4,5,6],[0,1,2,3,4,5,6,7],[0,1,2,3,4,5,6,7,8],[0,1,2,3,4,5,6,7,8,9],[0,1,2,3,4,5,6,7,8,9,10],[0,1,2,3,4,5,6,7],[0,1,2,3,4,5,6,7,8,9,10,11,12],[0,1,2,3,4,5,6,7,8,9,10,11,12,13],[0,1,2,3,4,5,6,7,8,9,10,11,12,13,14],[0,1,2,3,4,5,6,7,8,9,10,11,12,13,14,15],[0,1,2,3,4,5,6,7,8,9,10,11,12,13,14,15,16],[0,1,2,3,4,5,6,7,8,9,10,11,12,13,14,15,16,17],[0,1,2,3,4,5,6,7,8,9,10,11,12,13,14,15,16,17,18],[0,1,2,3,4,5,6,7,8,9,10,11,12,13,14,15],[0,1,2,3,4,5,6,7,8,9,10,11,12,13,14,15,16,17,18,19,20],[0,1,2,3,4,5,6,7,8,9,10,11,12,13,14,15,16,17,18,19,20,21],[0,1,2,3,4,5,6,7,8,9,10,11,12,13,14,15,16,17,18,19,20,21,22],[0,1,2,3,4,5,6,7,8,9,10,11,12,13,14,15,16,17,18,19,20,21,22,23],[0,1,2,3,4,5,6,7,8,9,10,11,12,13,14,15,16,17,18,19,20,21,22,23],[0,1,2,3,4,5,6,7,8,9,10,11,12,13,14,15,16,17,18,19,20,21,22,23,25],[0,1,2,3,4,5,6,7,8,9,10,11,12,13,14,15,16,17,18,19,20,21,22,23],[0,1,2,3,4,5,6,7,8,9,10,11,12,13,14,15,16,17,18,19,20,21,22,23],[0,1,2,3,4,5,6,7,8,9,10,11,12,13,14,15,16,17,18,19,20,21,22,23,27,28],[0,1,2,3,4,5,6,7,8,9,10,11,12,13,14,15,16,17,18,19,20,21,22,23,24,25,26,27,28,29],[0,1,2,3,4,5,6,7,8,9,10,11,12,13,14,15,16,17,18,19,20,21,22,23,24,25,26,27,28,29,30]]
    [fun x _ => x = .int .i64 0,
     fun x _ => x = .bool true,
     fun x _ => x = .bool true,
     fun x _ => x = .slice (some ⟨b, o, none⟩) 2 cW,
     fun x _ => x = .int .i64 2,
     fun x _ => x = .bool true,
     fun x _ => x = .bool true,
     fun x _ => x = .bool true,
     fun x _ => x = .slice (some ⟨b, o, none⟩) 2 cW,
     fun x _ => x = .pointer (some ⟨b, o, none⟩),
     fun x _ => x = .pointer (some ⟨b, o + 1, none⟩),
     fun x _ => x = .slice AX nX dX,
     fun x w' => ∃ A, x = .slice A 2 2 ∧ IS w' w'.heap.size A 2 2 [0, 3],
     fun x _ => x = .bool true,
     fun x _ => x = .bool true,
     fun x _ => x = .bool true,
     fun x _ => x = .slice (some ⟨b, o, none⟩) 2 cW,
     fun x _ => x = .pointer (some ⟨b, o + 2, none⟩),
     fun x _ => x = .pointer (some ⟨b, o + 3, none⟩),
     fun x _ => x = .slice AY nY dY,
     fun x w' => ∃ A, x = .slice A 2 2 ∧ IS w' w'.heap.size A 2 2 [1, 2],
     fun x _ => x = .bool true,
     fun x _ => x = .bool true,
     fun x _ => x = .bool true,
     fun x _ => x = .agg #[.int .i64 2, .slice (some ⟨w.heap.size, 0, none⟩) 2 2],
     fun x _ => x = .agg #[.int .i64 2, .slice (some ⟨w.heap.size, 0, none⟩) 2 2],
     fun v w' => ∃ A1 n1 d1 A2 n2 d2, v = .agg #[.slice A1 n1 d1, .slice A2 n2 d2] ∧ IS w' w'.heap.size A1 n1 d1 (upto (2 : Int).toNat) ∧ IS w' w'.heap.size A2 n2 d2 (upto 2),
     fun v w' => ∃ A, v = .slice A 2 2 ∧ IS w' w'.heap.size A 2 2 [0, 2],
     fun v w' => ∃ A, v = .slice A 2 2 ∧ IS w' w'.heap.size A 2 2 [1, 3],
     fun v w' => ∃ A, v = .slice A 2 2 ∧ TS w' w'.heap.size A 2 2 [[0, 2], [1, 3]],
     fun x _ => x = .bool true,
     fun x _ => x = .bool true]
    (by kernel_rfl) (by kernel_rfl) rfl ⟨?_, ?_, ?_, ?_, ?_, ?_, ?_, ?_, ?_, ?_, ?_, ?_, ?_, ?_, ?_, ?_, ?_, ?_, ?_, ?_, ?_, ?_, ?_, ?_, ?_, ?_, ?_, ?_, ?_, ?_, ?_, ?_, trivial⟩ ?_
  · intro wr hx v0 h0 v1 h1 v2 h2 v3 h3 v4 h4 v5 h5 v6 h6 v7 h7 v8 h8 v9 h9 v10 h10 v11 h11 v12 h12 v13 h13 v14 h14 v15 h15 v16 h16 v17 h17 v18 h18 v19 h19 v20 h20 v21 h21 v22 h22 v23 h23 v24 h24 v25 h25 v26 h26 v27 h27 v28 h28 v29 h29 v30 h30 v31 h31 K hK
    have p0 := (hx.cell (p := ⟨w.heap.size + 1, 0, none⟩) hgc).trans k0
    have p1 := (hx.cell (p := ⟨w.heap.size + 1, 1, none⟩) hgc).trans k1
    have p2 := (hx.cell (p := ⟨b, o + 1, none⟩) hbl).trans e0
    have p3 := (hx.cell (p := ⟨b, o + 3, none⟩) hbl).trans e1
    simp only [Act.put, List.setIfInBounds_toArray, List.set_cons_zero, List.set_cons_succ] at hK ⊢
    clear h0 h1 h2 h3 h4 h5 h6 h7 h8 h9 h10 h11 h12 h13 h14 h15 h16 h17 h18 h19 h20 h21 h22 h23 h24 h25 h26 h27 h28 h29 h30 h31
    go_wp2
    exact hK _ _ (Ext.refl _) (fun _ _ => rfl)
  · intro wr hx v0 h0 v1 h1 v2 h2 v3 h3 v4 h4 v5 h5 v6 h6 v7 h7 v8 h8 v9 h9 v10 h10 v11 h11 v12 h12 v13 h13 v14 h14 v15 h15 v16 h16 v17 h17 v18 h18 v19 h19 v20 h20 v21 h21 v22 h22 v23 h23 v24 h24 v25 h25 v26 h26 v27 h27 v28 h28 v29 h29 v30 h30 v31 h31 K hK
    have p0 := (hx.cell (p := ⟨w.heap.size + 1, 0, none⟩) hgc).trans k0
    have p1 := (hx.cell (p := ⟨w.heap.size + 1, 1, none⟩) hgc).trans k1
    have p2 := (hx.cell (p := ⟨b, o + 1, none⟩) hbl).trans e0
    have p3 := (hx.cell (p := ⟨b, o + 3, none⟩) hbl).trans e1
    simp only [Act.put, List.setIfInBounds_toArray, List.set_cons_zero, List.set_cons_succ] at hK ⊢
    obtain rfl := (h0 (by decide)).now
    clear h0 h1 h2 h3 h4 h5 h6 h7 h8 h9 h10 h11 h12 h13 h14 h15 h16 h17 h18 h19 h20 h21 h22 h23 h24 h25 h26 h27 h28 h29 h30 h31
    go_wp2
    exact hK _ _ (Ext.refl _) (fun _ _ => rfl)
  · intro wr hx v0 h0 v1 h1 v2 h2 v3 h3 v4 h4 v5 h5 v6 h6 v7 h7 v8 h8 v9 h9 v10 h10 v11 h11 v12 h12 v13 h13 v14 h14 v15 h15 v16 h16 v17 h17 v18 h18 v19 h19 v20 h20 v21 h21 v22 h22 v23 h23 v24 h24 v25 h25 v26 h26 v27 h27 v28 h28 v29 h29 v30 h30 v31 h31 K hK
    have p0 := (hx.cell (p := ⟨w.heap.size + 1, 0, none⟩) hgc).trans k0
    have p1 := (hx.cell (p := ⟨w.heap.size + 1, 1, none⟩) hgc).trans k1
    have p2 := (hx.cell (p := ⟨b, o + 1, none⟩) hbl).trans e0
    have p3 := (hx.cell (p := ⟨b, o + 3, none⟩) hbl).trans e1
    simp only [Act.put, List.setIfInBounds_toArray, List.set_cons_zero, List.set_cons_succ] at hK ⊢
    obtain rfl := (h1 (by decide)).now
    clear h0 h1 h2 h3 h4 h5 h6 h7 h8 h9 h10 h11 h12 h13 h14 h15 h16 h17 h18 h19 h20 h21 h22 h23 h24 h25 h26 h27 h28 h29 h30 h31
    go_wp2
    exact hK _ _ (Ext.refl _) (fun _ _ => rfl)
  · intro wr hx v0 h0 v1 h1 v2 h2 v3 h3 v4 h4 v5 h5 v6 h6 v7 h7 v8 h8 v9 h9 v10 h10 v11 h11 v12 h12 v13 h13 v14 h14 v15 h15 v16 h16 v17 h17 v18 h18 v19 h19 v20 h20 v21 h21 v22 h22 v23 h23 v24 h24 v25 h25 v26 h26 v27 h27 v28 h28 v29 h29 v30 h30 v31 h31 K hK
    have p0 := (hx.cell (p := ⟨w.heap.size + 1, 0, none⟩) hgc).trans k0
    have p1 := (hx.cell (p := ⟨w.heap.size + 1, 1, none⟩) hgc).trans k1
    have p2 := (hx.cell (p := ⟨b, o + 1, none⟩) hbl).trans e0
    have p3 := (hx.cell (p := ⟨b, o + 3, none⟩) hbl).trans e1
    simp only [Act.put, List.setIfInBounds_toArray, List.set_cons_zero, List.set_cons_succ] at hK ⊢
    obtain rfl := (h2 (by decide)).now
    clear h0 h1 h2 h3 h4 h5 h6 h7 h8 h9 h10 h11 h12 h13 h14 h15 h16 h17 h18 h19 h20 h21 h22 h23 h24 h25 h26 h27 h28 h29 h30 h31
    go_wp2
    exact hK _ _ (Ext.refl _) (fun _ _ => rfl)
  · intro wr hx v0 h0 v1 h1 v2 h2 v3 h3 v4 h4 v5 h5 v6 h6 v7 h7 v8 h8 v9 h9 v10 h10 v11 h11 v12 h12 v13 h13 v14 h14 v15 h15 v16 h16 v17 h17 v18 h18 v19 h19 v20 h20 v21 h21 v22 h22 v23 h23 v24 h24 v25 h25 v26 h26 v27 h27 v28 h28 v29 h29 v30 h30 v31 h31 K hK
    have p0 := (hx.cell (p := ⟨w.heap.size + 1, 0, none⟩) hgc).trans k0
    have p1 := (hx.cell (p := ⟨w.heap.size + 1, 1, none⟩) hgc).trans k1
    have p2 := (hx.cell (p := ⟨b, o + 1, none⟩) hbl).trans e0
    have p3 := (hx.cell (p := ⟨b, o + 3, none⟩) hbl).trans e1
    simp only [Act.put, List.setIfInBounds_toArray, List.set_cons_zero, List.set_cons_succ] at hK ⊢
    obtain rfl := (h2 (by decide)).now
    obtain rfl := (h3 (by decide)).now
    clear h0 h1 h2 h3 h4 h5 h6 h7 h8 h9 h10 h11 h12 h13 h14 h15 h16 h17 h18 h19 h20 h21 h22 h23 h24 h25 h26 h27 h28 h29 h30 h31
    go_wp2
    exact hK _ _ (Ext.refl _) (fun _ _ => rfl)
  · intro wr hx v0 h0 v1 h1 v2 h2 v3 h3 v4 h4 v5 h5 v6 h6 v7 h7 v8 h8 v9 h9 v10 h10 v11 h11 v12 h12 v13 h13 v14 h14 v15 h15 v16 h16 v17 h17 v18 h18 v19 h19 v20 h20 v21 h21 v22 h22 v23 h23 v24 h24 v25 h25 v26 h26 v27 h27 v28 h28 v29 h29 v30 h30 v31 h31 K hK
    have p0 := (hx.cell (p := ⟨w.heap.size + 1, 0, none⟩) hgc).trans k0
    have p1 := (hx.cell (p := ⟨w.heap.size + 1, 1, none⟩) hgc).trans k1
    have p2 := (hx.cell (p := ⟨b, o + 1, none⟩) hbl).trans e0
    have p3 := (hx.cell (p := ⟨b, o + 3, none⟩) hbl).trans e1
    simp only [Act.put, List.setIfInBounds_toArray, List.set_cons_zero, List.set_cons_succ] at hK ⊢
    obtain rfl := (h2 (by decide)).now
    obtain rfl := (h4 (by decide)).now
    clear h0 h1 h2 h3 h4 h5 h6 h7 h8 h9 h10 h11 h12 h13 h14 h15 h16 h17 h18 h19 h20 h21 h22 h23 h24 h25 h26 h27 h28 h29 h30 h31
    go_wp2
    exact hK _ _ (Ext.refl _) (fun _ _ => rfl)
  · intro wr hx v0 h0 v1 h1 v2 h2 v3 h3 v4 h4 v5 h5 v6 h6 v7 h7 v8 h8 v9 h9 v10 h10 v11 h11 v12 h12 v13 h13 v14 h14 v15 h15 v16 h16 v17 h17 v18 h18 v19 h19 v20 h20 v21 h21 v22 h22 v23 h23 v24 h24 v25 h25 v26 h26 v27 h27 v28 h28 v29 h29 v30 h30 v31 h31 K hK
    have p0 := (hx.cell (p := ⟨w.heap.size + 1, 0, none⟩) hgc).trans k0
    have p1 := (hx.cell (p := ⟨w.heap.size + 1, 1, none⟩) hgc).trans k1
    have p2 := (hx.cell (p := ⟨b, o + 1, none⟩) hbl).trans e0
    have p3 := (hx.cell (p := ⟨b, o + 3, none⟩) hbl).trans e1
    simp only [Act.put, List.setIfInBounds_toArray, List.set_cons_zero, List.set_cons_succ] at hK ⊢
    obtain rfl := (h2 (by decide)).now
    obtain rfl := (h5 (by decide)).now
    clear h0 h1 h2 h3 h4 h5 h6 h7 h8 h9 h10 h11 h12 h13 h14 h15 h16 h17 h18 h19 h20 h21 h22 h23 h24 h25 h26 h27 h28 h29 h30 h31
    go_wp2
    exact hK _ _ (Ext.refl _) (fun _ _ => rfl)
  · intro wr hx v0 h0 v1 h1 v2 h2 v3 h3 v4 h4 v5 h5 v6 h6 v7 h7 v8 h8 v9 h9 v10 h10 v11 h11 v12 h12 v13 h13 v14 h14 v15 h15 v16 h16 v17 h17 v18 h18 v19 h19 v20 h20 v21 h21 v22 h22 v23 h23 v24 h24 v25 h25 v26 h26 v27 h27 v28 h28 v29 h29 v30 h30 v31 h31 K hK
    have p0 := (hx.cell (p := ⟨w.heap.size + 1, 0, none⟩) hgc).trans k0
    have p1 := (hx.cell (p := ⟨w.heap.size + 1, 1, none⟩) hgc).trans k1
    have p2 := (hx.cell (p := ⟨b, o + 1, none⟩) hbl).trans e0
    have p3 := (hx.cell (p := ⟨b, o + 3, none⟩) hbl).trans e1
    simp only [Act.put, List.setIfInBounds_toArray, List.set_cons_zero, List.set_cons_succ] at hK ⊢
    obtain rfl := (h6 (by decide)).now
    clear h0 h1 h2 h3 h4 h5 h6 h7 h8 h9 h10 h11 h12 h13 h14 h15 h16 h17 h18 h19 h20 h21 h22 h23 h24 h25 h26 h27 h28 h29 h30 h31
    go_wp2
    exact hK _ _ (Ext.refl _) (fun _ _ => rfl)
  · intro wr hx v0 h0 v1 h1 v2 h2 v3 h3 v4 h4 v5 h5 v6 h6 v7 h7 v8 h8 v9 h9 v10 h10 v11 h11 v12 h12 v13 h13 v14 h14 v15 h15 v16 h16 v17 h17 v18 h18 v19 h19 v20 h20 v21 h21 v22 h22 v23 h23 v24 h24 v25 h25 v26 h26 v27 h27 v28 h28 v29 h29 v30 h30 v31 h31 K hK
    have p0 := (hx.cell (p := ⟨w.heap.size + 1, 0, none⟩) hgc).trans k0
    have p1 := (hx.cell (p := ⟨w.heap.size + 1, 1, none⟩) hgc).trans k1
    have p2 := (hx.cell (p := ⟨b, o + 1, none⟩) hbl).trans e0
    have p3 := (hx.cell (p := ⟨b, o + 3, none⟩) hbl).trans e1
    simp only [Act.put, List.setIfInBounds_toArray, List.set_cons_zero, List.set_cons_succ] at hK ⊢
    obtain rfl := (h7 (by decide)).now
    clear h0 h1 h2 h3 h4 h5 h6 h7 h8 h9 h10 h11 h12 h13 h14 h15 h16 h17 h18 h19 h20 h21 h22 h23 h24 h25 h26 h27 h28 h29 h30 h31
    go_wp2
    exact hK _ _ (Ext.refl _) (fun _ _ => rfl)
  · intro wr hx v0 h0 v1 h1 v2 h2 v3 h3 v4 h4 v5 h5 v6 h6 v7 h7 v8 h8 v9 h9 v10 h10 v11 h11 v12 h12 v13 h13 v14 h14 v15 h15 v16 h16 v17 h17 v18 h18 v19 h19 v20 h20 v21 h21 v22 h22 v23 h23 v24 h24 v25 h25 v26 h26 v27 h27 v28 h28 v29 h29 v30 h30 v31 h31 K hK
    have p0 := (hx.cell (p := ⟨w.heap.size + 1, 0, none⟩) hgc).trans k0
    have p1 := (hx.cell (p := ⟨w.heap.size + 1, 1, none⟩) hgc).trans k1
    have p2 := (hx.cell (p := ⟨b, o + 1, none⟩) hbl).trans e0
    have p3 := (hx.cell (p := ⟨b, o + 3, none⟩) hbl).trans e1
    simp only [Act.put, List.setIfInBounds_toArray, List.set_cons_zero, List.set_cons_succ] at hK ⊢
    obtain rfl := (h7 (by decide)).now
    obtain rfl := (h8 (by decide)).now
    clear h0 h1 h2 h3 h4 h5 h6 h7 h8 h9 h10 h11 h12 h13 h14 h15 h16 h17 h18 h19 h20 h21 h22 h23 h24 h25 h26 h27 h28 h29 h30 h31
    go_wp2
    exact hK _ _ (Ext.refl _) (fun _ _ => rfl)
  · intro wr hx v0 h0 v1 h1 v2 h2 v3 h3 v4 h4 v5 h5 v6 h6 v7 h7 v8 h8 v9 h9 v10 h10 v11 h11 v12 h12 v13 h13 v14 h14 v15 h15 v16 h16 v17 h17 v18 h18 v19 h19 v20 h20 v21 h21 v22 h22 v23 h23 v24 h24 v25 h25 v26 h26 v27 h27 v28 h28 v29 h29 v30 h30 v31 h31 K hK
    have p0 := (hx.cell (p := ⟨w.heap.size + 1, 0, none⟩) hgc).trans k0
    have p1 := (hx.cell (p := ⟨w.heap.size + 1, 1, none⟩) hgc).trans k1
    have p2 := (hx.cell (p := ⟨b, o + 1, none⟩) hbl).trans e0
    have p3 := (hx.cell (p := ⟨b, o + 3, none⟩) hbl).trans e1
    simp only [Act.put, List.setIfInBounds_toArray, List.set_cons_zero, List.set_cons_succ] at hK ⊢
    obtain rfl := (h7 (by decide)).now
    obtain rfl := (h9 (by decide)).now
    clear h0 h1 h2 h3 h4 h5 h6 h7 h8 h9 h10 h11 h12 h13 h14 h15 h16 h17 h18 h19 h20 h21 h22 h23 h24 h25 h26 h27 h28 h29 h30 h31
    go_wp2
    exact hK _ _ (Ext.refl _) (fun _ _ => rfl)
  · intro wr hx v0 h0 v1 h1 v2 h2 v3 h3 v4 h4 v5 h5 v6 h6 v7 h7 v8 h8 v9 h9 v10 h10 v11 h11 v12 h12 v13 h13 v14 h14 v15 h15 v16 h16 v17 h17 v18 h18 v19 h19 v20 h20 v21 h21 v22 h22 v23 h23 v24 h24 v25 h25 v26 h26 v27 h27 v28 h28 v29 h29 v30 h30 v31 h31 K hK
    have p0 := (hx.cell (p := ⟨w.heap.size + 1, 0, none⟩) hgc).trans k0
    have p1 := (hx.cell (p := ⟨w.heap.size + 1, 1, none⟩) hgc).trans k1
    have p2 := (hx.cell (p := ⟨b, o + 1, none⟩) hbl).trans e0
    have p3 := (hx.cell (p := ⟨b, o + 3, none⟩) hbl).trans e1
    simp only [Act.put, List.setIfInBounds_toArray, List.set_cons_zero, List.set_cons_succ] at hK ⊢
    obtain rfl := (h7 (by decide)).now
    obtain rfl := (h10 (by decide)).now
    clear h0 h1 h2 h3 h4 h5 h6 h7 h8 h9 h10 h11 h12 h13 h14 h15 h16 h17 h18 h19 h20 h21 h22 h23 h24 h25 h26 h27 h28 h29 h30 h31
    go_wp2
    exact hK _ _ (Ext.refl _) (fun _ _ => rfl)
  · intro wr hx v0 h0 v1 h1 v2 h2 v3 h3 v4 h4 v5 h5 v6 h6 v7 h7 v8 h8 v9 h9 v10 h10 v11 h11 v12 h12 v13 h13 v14 h14 v15 h15 v16 h16 v17 h17 v18 h18 v19 h19 v20 h20 v21 h21 v22 h22 v23 h23 v24 h24 v25 h25 v26 h26 v27 h27 v28 h28 v29 h29 v30 h30 v31 h31 K hK
    have p0 := (hx.cell (p := ⟨w.heap.size + 1, 0, none⟩) hgc).trans k0
    have p1 := (hx.cell (p := ⟨w.heap.size + 1, 1, none⟩) hgc).trans k1
    have p2 := (hx.cell (p := ⟨b, o + 1, none⟩) hbl).trans e0
    have p3 := (hx.cell (p := ⟨b, o + 3, none⟩) hbl).trans e1
    simp only [Act.put, List.setIfInBounds_toArray, List.set_cons_zero, List.set_cons_succ] at hK ⊢
    obtain rfl := (h7 (by decide)).now
    clear h0 h1 h2 h3 h4 h5 h6 h7 h8 h9 h10 h11 h12 h13 h14 h15 h16 h17 h18 h19 h20 h21 h22 h23 h24 h25 h26 h27 h28 h29 h30 h31
    go_wp2
    exact hK _ _ (Ext.alloc _ _) (fun w'' hx' => ⟨_, rfl, (IS.two_ wr 0 3 ⟨by omega, by omega⟩ ⟨by omega, by omega⟩).step hx'⟩)
  · intro wr hx v0 h0 v1 h1 v2 h2 v3 h3 v4 h4 v5 h5 v6 h6 v7 h7 v8 h8 v9 h9 v10 h10 v11 h11 v12 h12 v13 h13 v14 h14 v15 h15 v16 h16 v17 h17 v18 h18 v19 h19 v20 h20 v21 h21 v22 h22 v23 h23 v24 h24 v25 h25 v26 h26 v27 h27 v28 h28 v29 h29 v30 h30 v31 h31 K hK
    have p0 := (hx.cell (p := ⟨w.heap.size + 1, 0, none⟩) hgc).trans k0
    have p1 := (hx.cell (p := ⟨w.heap.size + 1, 1, none⟩) hgc).trans k1
    have p2 := (hx.cell (p := ⟨b, o + 1, none⟩) hbl).trans e0
    have p3 := (hx.cell (p := ⟨b, o + 3, none⟩) hbl).trans e1
    simp only [Act.put, List.setIfInBounds_toArray, List.set_cons_zero, List.set_cons_succ] at hK ⊢
    obtain rfl := (h7 (by decide)).now
    obtain rfl := (h11 (by decide)).now
    obtain ⟨A12, rfl, i12⟩ := (h12 (by decide)).now
    clear h0 h1 h2 h3 h4 h5 h6 h7 h8 h9 h10 h11 h12 h13 h14 h15 h16 h17 h18 h19 h20 h21 h22 h23 h24 h25 h26 h27 h28 h29 h30 h31
    go_wp2_with fail
    refine (refEqual_any wr _ _ AX A12 nX dX 2 2 _ _ (iX.step hx) i12).mono ?_
    rintro e w' ⟨rfl, hd⟩
    go_wp2
    exact hK _ _ (hd.below _) (fun _ _ => rfl)
  · intro wr hx v0 h0 v1 h1 v2 h2 v3 h3 v4 h4 v5 h5 v6 h6 v7 h7 v8 h8 v9 h9 v10 h10 v11 h11 v12 h12 v13 h13 v14 h14 v15 h15 v16 h16 v17 h17 v18 h18 v19 h19 v20 h20 v21 h21 v22 h22 v23 h23 v24 h24 v25 h25 v26 h26 v27 h27 v28 h28 v29 h29 v30 h30 v31 h31 K hK
    have p0 := (hx.cell (p := ⟨w.heap.size + 1, 0, none⟩) hgc).trans k0
    have p1 := (hx.cell (p := ⟨w.heap.size + 1, 1, none⟩) hgc).trans k1
    have p2 := (hx.cell (p := ⟨b, o + 1, none⟩) hbl).trans e0
    have p3 := (hx.cell (p := ⟨b, o + 3, none⟩) hbl).trans e1
    simp only [Act.put, List.setIfInBounds_toArray, List.set_cons_zero, List.set_cons_succ] at hK ⊢
    obtain rfl := (h7 (by decide)).now
    obtain rfl := (h13 (by decide)).now
    clear h0 h1 h2 h3 h4 h5 h6 h7 h8 h9 h10 h11 h12 h13 h14 h15 h16 h17 h18 h19 h20 h21 h22 h23 h24 h25 h26 h27 h28 h29 h30 h31
    go_wp2
    exact hK _ _ (Ext.refl _) (fun _ _ => rfl)
  · intro wr hx v0 h0 v1 h1 v2 h2 v3 h3 v4 h4 v5 h5 v6 h6 v7 h7 v8 h8 v9 h9 v10 h10 v11 h11 v12 h12 v13 h13 v14 h14 v15 h15 v16 h16 v17 h17 v18 h18 v19 h19 v20 h20 v21 h21 v22 h22 v23 h23 v24 h24 v25 h25 v26 h26 v27 h27 v28 h28 v29 h29 v30 h30 v31 h31 K hK
    have p0 := (hx.cell (p := ⟨w.heap.size + 1, 0, none⟩) hgc).trans k0
    have p1 := (hx.cell (p := ⟨w.heap.size + 1, 1, none⟩) hgc).trans k1
    have p2 := (hx.cell (p := ⟨b, o + 1, none⟩) hbl).trans e0
    have p3 := (hx.cell (p := ⟨b, o + 3, none⟩) hbl).trans e1
    simp only [Act.put, List.setIfInBounds_toArray, List.set_cons_zero, List.set_cons_succ] at hK ⊢
    obtain rfl := (h14 (by decide)).now
    clear h0 h1 h2 h3 h4 h5 h6 h7 h8 h9 h10 h11 h12 h13 h14 h15 h16 h17 h18 h19 h20 h21 h22 h23 h24 h25 h26 h27 h28 h29 h30 h31
    go_wp2
    exact hK _ _ (Ext.refl _) (fun _ _ => rfl)
  · intro wr hx v0 h0 v1 h1 v2 h2 v3 h3 v4 h4 v5 h5 v6 h6 v7 h7 v8 h8 v9 h9 v10 h10 v11 h11 v12 h12 v13 h13 v14 h14 v15 h15 v16 h16 v17 h17 v18 h18 v19 h19 v20 h20 v21 h21 v22 h22 v23 h23 v24 h24 v25 h25 v26 h26 v27 h27 v28 h28 v29 h29 v30 h30 v31 h31 K hK
    have p0 := (hx.cell (p := ⟨w.heap.size + 1, 0, none⟩) hgc).trans k0
    have p1 := (hx.cell (p := ⟨w.heap.size + 1, 1, none⟩) hgc).trans k1
    have p2 := (hx.cell (p := ⟨b, o + 1, none⟩) hbl).trans e0
    have p3 := (hx.cell (p := ⟨b, o + 3, none⟩) hbl).trans e1
    simp only [Act.put, List.setIfInBounds_toArray, List.set_cons_zero, List.set_cons_succ] at hK ⊢
    obtain rfl := (h15 (by decide)).now
    clear h0 h1 h2 h3 h4 h5 h6 h7 h8 h9 h10 h11 h12 h13 h14 h15 h16 h17 h18 h19 h20 h21 h22 h23 h24 h25 h26 h27 h28 h29 h30 h31
    go_wp2
    exact hK _ _ (Ext.refl _) (fun _ _ => rfl)
  · intro wr hx v0 h0 v1 h1 v2 h2 v3 h3 v4 h4 v5 h5 v6 h6 v7 h7 v8 h8 v9 h9 v10 h10 v11 h11 v12 h12 v13 h13 v14 h14 v15 h15 v16 h16 v17 h17 v18 h18 v19 h19 v20 h20 v21 h21 v22 h22 v23 h23 v24 h24 v25 h25 v26 h26 v27 h27 v28 h28 v29 h29 v30 h30 v31 h31 K hK
    have p0 := (hx.cell (p := ⟨w.heap.size + 1, 0, none⟩) hgc).trans k0
    have p1 := (hx.cell (p := ⟨w.heap.size + 1, 1, none⟩) hgc).trans k1
    have p2 := (hx.cell (p := ⟨b, o + 1, none⟩) hbl).trans e0
    have p3 := (hx.cell (p := ⟨b, o + 3, none⟩) hbl).trans e1
    simp only [Act.put, List.setIfInBounds_toArray, List.set_cons_zero, List.set_cons_succ] at hK ⊢
    obtain rfl := (h15 (by decide)).now
    obtain rfl := (h16 (by decide)).now
    clear h0 h1 h2 h3 h4 h5 h6 h7 h8 h9 h10 h11 h12 h13 h14 h15 h16 h17 h18 h19 h20 h21 h22 h23 h24 h25 h26 h27 h28 h29 h30 h31
    go_wp2
    exact hK _ _ (Ext.refl _) (fun _ _ => rfl)
  · intro wr hx v0 h0 v1 h1 v2 h2 v3 h3 v4 h4 v5 h5 v6 h6 v7 h7 v8 h8 v9 h9 v10 h10 v11 h11 v12 h12 v13 h13 v14 h14 v15 h15 v16 h16 v17 h17 v18 h18 v19 h19 v20 h20 v21 h21 v22 h22 v23 h23 v24 h24 v25 h25 v26 h26 v27 h27 v28 h28 v29 h29 v30 h30 v31 h31 K hK
    have p0 := (hx.cell (p := ⟨w.heap.size + 1, 0, none⟩) hgc).trans k0
    have p1 := (hx.cell (p := ⟨w.heap.size + 1, 1, none⟩) hgc).trans k1
    have p2 := (hx.cell (p := ⟨b, o + 1, none⟩) hbl).trans e0
    have p3 := (hx.cell (p := ⟨b, o + 3, none⟩) hbl).trans e1
    simp only [Act.put, List.setIfInBounds_toArray, List.set_cons_zero, List.set_cons_succ] at hK ⊢
    obtain rfl := (h15 (by decide)).now
    obtain rfl := (h17 (by decide)).now
    clear h0 h1 h2 h3 h4 h5 h6 h7 h8 h9 h10 h11 h12 h13 h14 h15 h16 h17 h18 h19 h20 h21 h22 h23 h24 h25 h26 h27 h28 h29 h30 h31
    go_wp2
    exact hK _ _ (Ext.refl _) (fun _ _ => rfl)
  · intro wr hx v0 h0 v1 h1 v2 h2 v3 h3 v4 h4 v5 h5 v6 h6 v7 h7 v8 h8 v9 h9 v10 h10 v11 h11 v12 h12 v13 h13 v14 h14 v15 h15 v16 h16 v17 h17 v18 h18 v19 h19 v20 h20 v21 h21 v22 h22 v23 h23 v24 h24 v25 h25 v26 h26 v27 h27 v28 h28 v29 h29 v30 h30 v31 h31 K hK
    have p0 := (hx.cell (p := ⟨w.heap.size + 1, 0, none⟩) hgc).trans k0
    have p1 := (hx.cell (p := ⟨w.heap.size + 1, 1, none⟩) hgc).trans k1
    have p2 := (hx.cell (p := ⟨b, o + 1, none⟩) hbl).trans e0
    have p3 := (hx.cell (p := ⟨b, o + 3, none⟩) hbl).trans e1
    simp only [Act.put, List.setIfInBounds_toArray, List.set_cons_zero, List.set_cons_succ] at hK ⊢
    obtain rfl := (h15 (by decide)).now
    obtain rfl := (h18 (by decide)).now
    clear h0 h1 h2 h3 h4 h5 h6 h7 h8 h9 h10 h11 h12 h13 h14 h15 h16 h17 h18 h19 h20 h21 h22 h23 h24 h25 h26 h27 h28 h29 h30 h31
    go_wp2
    exact hK _ _ (Ext.refl _) (fun _ _ => rfl)
  · intro wr hx v0 h0 v1 h1 v2 h2 v3 h3 v4 h4 v5 h5 v6 h6 v7 h7 v8 h8 v9 h9 v10 h10 v11 h11 v12 h12 v13 h13 v14 h14 v15 h15 v16 h16 v17 h17 v18 h18 v19 h19 v20 h20 v21 h21 v22 h22 v23 h23 v24 h24 v25 h25 v26 h26 v27 h27 v28 h28 v29 h29 v30 h30 v31 h31 K hK
    have p0 := (hx.cell (p := ⟨w.heap.size + 1, 0, none⟩) hgc).trans k0
    have p1 := (hx.cell (p := ⟨w.heap.size + 1, 1, none⟩) hgc).trans k1
    have p2 := (hx.cell (p := ⟨b, o + 1, none⟩) hbl).trans e0
    have p3 := (hx.cell (p := ⟨b, o + 3, none⟩) hbl).trans e1
    simp only [Act.put, List.setIfInBounds_toArray, List.set_cons_zero, List.set_cons_succ] at hK ⊢
    obtain rfl := (h15 (by decide)).now
    clear h0 h1 h2 h3 h4 h5 h6 h7 h8 h9 h10 h11 h12 h13 h14 h15 h16 h17 h18 h19 h20 h21 h22 h23 h24 h25 h26 h27 h28 h29 h30 h31
    go_wp2
    exact hK _ _ (Ext.alloc _ _) (fun w'' hx' => ⟨_, rfl, (IS.two_ wr 1 2 ⟨by omega, by omega⟩ ⟨by omega, by omega⟩).step hx'⟩)
  · intro wr hx v0 h0 v1 h1 v2 h2 v3 h3 v4 h4 v5 h5 v6 h6 v7 h7 v8 h8 v9 h9 v10 h10 v11 h11 v12 h12 v13 h13 v14 h14 v15 h15 v16 h16 v17 h17 v18 h18 v19 h19 v20 h20 v21 h21 v22 h22 v23 h23 v24 h24 v25 h25 v26 h26 v27 h27 v28 h28 v29 h29 v30 h30 v31 h31 K hK
    have p0 := (hx.cell (p := ⟨w.heap.size + 1, 0, none⟩) hgc).trans k0
    have p1 := (hx.cell (p := ⟨w.heap.size + 1, 1, none⟩) hgc).trans k1
    have p2 := (hx.cell (p := ⟨b, o + 1, none⟩) hbl).trans e0
    have p3 := (hx.cell (p := ⟨b, o + 3, none⟩) hbl).trans e1
    simp only [Act.put, List.setIfInBounds_toArray, List.set_cons_zero, List.set_cons_succ] at hK ⊢
    obtain rfl := (h15 (by decide)).now
    obtain rfl := (h19 (by decide)).now
    obtain ⟨A12, rfl, i12⟩ := (h20 (by decide)).now
    clear h0 h1 h2 h3 h4 h5 h6 h7 h8 h9 h10 h11 h12 h13 h14 h15 h16 h17 h18 h19 h20 h21 h22 h23 h24 h25 h26 h27 h28 h29 h30 h31
    go_wp2_with fail
    refine (refEqual_any wr _ _ AY A12 nY dY 2 2 _ _ (iY.step hx) i12).mono ?_
    rintro e w' ⟨rfl, hd⟩
    go_wp2
    exact hK _ _ (hd.below _) (fun _ _ => rfl)
  · intro wr hx v0 h0 v1 h1 v2 h2 v3 h3 v4 h4 v5 h5 v6 h6 v7 h7 v8 h8 v9 h9 v10 h10 v11 h11 v12 h12 v13 h13 v14 h14 v15 h15 v16 h16 v17 h17 v18 h18 v19 h19 v20 h20 v21 h21 v22 h22 v23 h23 v24 h24 v25 h25 v26 h26 v27 h27 v28 h28 v29 h29 v30 h30 v31 h31 K hK
    have p0 := (hx.cell (p := ⟨w.heap.size + 1, 0, none⟩) hgc).trans k0
    have p1 := (hx.cell (p := ⟨w.heap.size + 1, 1, none⟩) hgc).trans k1
    have p2 := (hx.cell (p := ⟨b, o + 1, none⟩) hbl).trans e0
    have p3 := (hx.cell (p := ⟨b, o + 3, none⟩) hbl).trans e1
    simp only [Act.put, List.setIfInBounds_toArray, List.set_cons_zero, List.set_cons_succ] at hK ⊢
    obtain rfl := (h15 (by decide)).now
    obtain rfl := (h21 (by decide)).now
    clear h0 h1 h2 h3 h4 h5 h6 h7 h8 h9 h10 h11 h12 h13 h14 h15 h16 h17 h18 h19 h20 h21 h22 h23 h24 h25 h26 h27 h28 h29 h30 h31
    go_wp2
    exact hK _ _ (Ext.refl _) (fun _ _ => rfl)
  · intro wr hx v0 h0 v1 h1 v2 h2 v3 h3 v4 h4 v5 h5 v6 h6 v7 h7 v8 h8 v9 h9 v10 h10 v11 h11 v12 h12 v13 h13 v14 h14 v15 h15 v16 h16 v17 h17 v18 h18 v19 h19 v20 h20 v21 h21 v22 h22 v23 h23 v24 h24 v25 h25 v26 h26 v27 h27 v28 h28 v29 h29 v30 h30 v31 h31 K hK
    have p0 := (hx.cell (p := ⟨w.heap.size + 1, 0, none⟩) hgc).trans k0
    have p1 := (hx.cell (p := ⟨w.heap.size + 1, 1, none⟩) hgc).trans k1
    have p2 := (hx.cell (p := ⟨b, o + 1, none⟩) hbl).trans e0
    have p3 := (hx.cell (p := ⟨b, o + 3, none⟩) hbl).trans e1
    simp only [Act.put, List.setIfInBounds_toArray, List.set_cons_zero, List.set_cons_succ] at hK ⊢
    obtain rfl := (h22 (by decide)).now
    clear h0 h1 h2 h3 h4 h5 h6 h7 h8 h9 h10 h11 h12 h13 h14 h15 h16 h17 h18 h19 h20 h21 h22 h23 h24 h25 h26 h27 h28 h29 h30 h31
    go_wp2
    exact hK _ _ (Ext.refl _) (fun _ _ => rfl)
  · intro wr hx v0 h0 v1 h1 v2 h2 v3 h3 v4 h4 v5 h5 v6 h6 v7 h7 v8 h8 v9 h9 v10 h10 v11 h11 v12 h12 v13 h13 v14 h14 v15 h15 v16 h16 v17 h17 v18 h18 v19 h19 v20 h20 v21 h21 v22 h22 v23 h23 v24 h24 v25 h25 v26 h26 v27 h27 v28 h28 v29 h29 v30 h30 v31 h31 K hK
    have p0 := (hx.cell (p := ⟨w.heap.size + 1, 0, none⟩) hgc).trans k0
    have p1 := (hx.cell (p := ⟨w.heap.size + 1, 1, none⟩) hgc).trans k1
    have p2 := (hx.cell (p := ⟨b, o + 1, none⟩) hbl).trans e0
    have p3 := (hx.cell (p := ⟨b, o + 3, none⟩) hbl).trans e1
    simp only [Act.put, List.setIfInBounds_toArray, List.set_cons_zero, List.set_cons_succ] at hK ⊢
    obtain rfl := (h23 (by decide)).now
    clear h0 h1 h2 h3 h4 h5 h6 h7 h8 h9 h10 h11 h12 h13 h14 h15 h16 h17 h18 h19 h20 h21 h22 h23 h24 h25 h26 h27 h28 h29 h30 h31
    go_wp2
    exact hK _ _ (Ext.refl _) (fun _ _ => rfl)
  · intro wr hx v0 h0 v1 h1 v2 h2 v3 h3 v4 h4 v5 h5 v6 h6 v7 h7 v8 h8 v9 h9 v10 h10 v11 h11 v12 h12 v13 h13 v14 h14 v15 h15 v16 h16 v17 h17 v18 h18 v19 h19 v20 h20 v21 h21 v22 h22 v23 h23 v24 h24 v25 h25 v26 h26 v27 h27 v28 h28 v29 h29 v30 h30 v31 h31 K hK
    have p0 := (hx.cell (p := ⟨w.heap.size + 1, 0, none⟩) hgc).trans k0
    have p1 := (hx.cell (p := ⟨w.heap.size + 1, 1, none⟩) hgc).trans k1
    have p2 := (hx.cell (p := ⟨b, o + 1, none⟩) hbl).trans e0
    have p3 := (hx.cell (p := ⟨b, o + 3, none⟩) hbl).trans e1
    simp only [Act.put, List.setIfInBounds_toArray, List.set_cons_zero, List.set_cons_succ] at hK ⊢
    obtain rfl := (h23 (by decide)).now
    clear h0 h1 h2 h3 h4 h5 h6 h7 h8 h9 h10 h11 h12 h13 h14 h15 h16 h17 h18 h19 h20 h21 h22 h23 h24 h25 h26 h27 h28 h29 h30 h31
    go_wp2
    exact hK _ _ (Ext.refl _) (fun _ _ => rfl)
  · intro wr hx v0 h0 v1 h1 v2 h2 v3 h3 v4 h4 v5 h5 v6 h6 v7 h7 v8 h8 v9 h9 v10 h10 v11 h11 v12 h12 v13 h13 v14 h14 v15 h15 v16 h16 v17 h17 v18 h18 v19 h19 v20 h20 v21 h21 v22 h22 v23 h23 v24 h24 v25 h25 v26 h26 v27 h27 v28 h28 v29 h29 v30 h30 v31 h31 K hK
    have p0 := (hx.cell (p := ⟨w.heap.size + 1, 0, none⟩) hgc).trans k0
    have p1 := (hx.cell (p := ⟨w.heap.size + 1, 1, none⟩) hgc).trans k1
    have p2 := (hx.cell (p := ⟨b, o + 1, none⟩) hbl).trans e0
    have p3 := (hx.cell (p := ⟨b, o + 3, none⟩) hbl).trans e1
    simp only [Act.put, List.setIfInBounds_toArray, List.set_cons_zero, List.set_cons_succ] at hK ⊢
    obtain rfl := (h23 (by decide)).now
    obtain rfl := (h25 (by decide)).now
    clear h0 h1 h2 h3 h4 h5 h6 h7 h8 h9 h10 h11 h12 h13 h14 h15 h16 h17 h18 h19 h20 h21 h22 h23 h24 h25 h26 h27 h28 h29 h30 h31
    go_wp2_with fail
    refine (whole_any wr 2 _ 2 2 _ (hesc.step hx) (by omega) (by omega) (by omega)).mono ?_
    rintro e w' ⟨A1, n1, d1, A2, n2, d2, rfl, his1, his2, hb⟩
    go_wp2
    exact hK _ _ hb (fun w'' hx' => ⟨_, _, _, _, _, _, rfl, his1.step hx', his2.step hx'⟩)
  · intro wr hx v0 h0 v1 h1 v2 h2 v3 h3 v4 h4 v5 h5 v6 h6 v7 h7 v8 h8 v9 h9 v10 h10 v11 h11 v12 h12 v13 h13 v14 h14 v15 h15 v16 h16 v17 h17 v18 h18 v19 h19 v20 h20 v21 h21 v22 h22 v23 h23 v24 h24 v25 h25 v26 h26 v27 h27 v28 h28 v29 h29 v30 h30 v31 h31 K hK
    have p0 := (hx.cell (p := ⟨w.heap.size + 1, 0, none⟩) hgc).trans k0
    have p1 := (hx.cell (p := ⟨w.heap.size + 1, 1, none⟩) hgc).trans k1
    have p2 := (hx.cell (p := ⟨b, o + 1, none⟩) hbl).trans e0
    have p3 := (hx.cell (p := ⟨b, o + 3, none⟩) hbl).trans e1
    simp only [Act.put, List.setIfInBounds_toArray, List.set_cons_zero, List.set_cons_succ] at hK ⊢
    obtain rfl := (h23 (by decide)).now
    clear h0 h1 h2 h3 h4 h5 h6 h7 h8 h9 h10 h11 h12 h13 h14 h15 h16 h17 h18 h19 h20 h21 h22 h23 h24 h25 h26 h27 h28 h29 h30 h31
    go_wp2
    exact hK _ _ (Ext.alloc _ _) (fun w'' hx' => ⟨_, rfl, (IS.two_ wr 0 2 ⟨by omega, by omega⟩ ⟨by omega, by omega⟩).step hx'⟩)
  · intro wr hx v0 h0 v1 h1 v2 h2 v3 h3 v4 h4 v5 h5 v6 h6 v7 h7 v8 h8 v9 h9 v10 h10 v11 h11 v12 h12 v13 h13 v14 h14 v15 h15 v16 h16 v17 h17 v18 h18 v19 h19 v20 h20 v21 h21 v22 h22 v23 h23 v24 h24 v25 h25 v26 h26 v27 h27 v28 h28 v29 h29 v30 h30 v31 h31 K hK
    have p0 := (hx.cell (p := ⟨w.heap.size + 1, 0, none⟩) hgc).trans k0
    have p1 := (hx.cell (p := ⟨w.heap.size + 1, 1, none⟩) hgc).trans k1
    have p2 := (hx.cell (p := ⟨b, o + 1, none⟩) hbl).trans e0
    have p3 := (hx.cell (p := ⟨b, o + 3, none⟩) hbl).trans e1
    simp only [Act.put, List.setIfInBounds_toArray, List.set_cons_zero, List.set_cons_succ] at hK ⊢
    obtain rfl := (h23 (by decide)).now
    clear h0 h1 h2 h3 h4 h5 h6 h7 h8 h9 h10 h11 h12 h13 h14 h15 h16 h17 h18 h19 h20 h21 h22 h23 h24 h25 h26 h27 h28 h29 h30 h31
    go_wp2
    exact hK _ _ (Ext.alloc _ _) (fun w'' hx' => ⟨_, rfl, (IS.two_ wr 1 3 ⟨by omega, by omega⟩ ⟨by omega, by omega⟩).step hx'⟩)
  · intro wr hx v0 h0 v1 h1 v2 h2 v3 h3 v4 h4 v5 h5 v6 h6 v7 h7 v8 h8 v9 h9 v10 h10 v11 h11 v12 h12 v13 h13 v14 h14 v15 h15 v16 h16 v17 h17 v18 h18 v19 h19 v20 h20 v21 h21 v22 h22 v23 h23 v24 h24 v25 h25 v26 h26 v27 h27 v28 h28 v29 h29 v30 h30 v31 h31 K hK
    have p0 := (hx.cell (p := ⟨w.heap.size + 1, 0, none⟩) hgc).trans k0
    have p1 := (hx.cell (p := ⟨w.heap.size + 1, 1, none⟩) hgc).trans k1
    have p2 := (hx.cell (p := ⟨b, o + 1, none⟩) hbl).trans e0
    have p3 := (hx.cell (p := ⟨b, o + 3, none⟩) hbl).trans e1
    simp only [Act.put, List.setIfInBounds_toArray, List.set_cons_zero, List.set_cons_succ] at hK ⊢
    obtain rfl := (h23 (by decide)).now
    obtain ⟨A3, rfl, i3⟩ := (h27 (by decide)).now
    obtain ⟨A4, rfl, i4⟩ := (h28 (by decide)).now
    clear h0 h1 h2 h3 h4 h5 h6 h7 h8 h9 h10 h11 h12 h13 h14 h15 h16 h17 h18 h19 h20 h21 h22 h23 h24 h25 h26 h27 h28 h29 h30 h31
    go_wp2
    exact hK _ _ (Ext.alloc _ _) (fun w'' hx' => ⟨_, rfl, (TS.two _ i3 i4).step hx'⟩)
  · intro wr hx v0 h0 v1 h1 v2 h2 v3 h3 v4 h4 v5 h5 v6 h6 v7 h7 v8 h8 v9 h9 v10 h10 v11 h11 v12 h12 v13 h13 v14 h14 v15 h15 v16 h16 v17 h17 v18 h18 v19 h19 v20 h20 v21 h21 v22 h22 v23 h23 v24 h24 v25 h25 v26 h26 v27 h27 v28 h28 v29 h29 v30 h30 v31 h31 K hK
    have p0 := (hx.cell (p := ⟨w.heap.size + 1, 0, none⟩) hgc).trans k0
    have p1 := (hx.cell (p := ⟨w.heap.size + 1, 1, none⟩) hgc).trans k1
    have p2 := (hx.cell (p := ⟨b, o + 1, none⟩) hbl).trans e0
    have p3 := (hx.cell (p := ⟨b, o + 3, none⟩) hbl).trans e1
    simp only [Act.put, List.setIfInBounds_toArray, List.set_cons_zero, List.set_cons_succ] at hK ⊢
    obtain rfl := (h23 (by decide)).now
    obtain rfl := (h24 (by decide)).now
    obtain ⟨A1, n1, d1, A2, n2, d2, rfl, i1, i2⟩ := (h26 (by decide)).now
    obtain ⟨A5, rfl, i5⟩ := (h29 (by decide)).now
    clear h0 h1 h2 h3 h4 h5 h6 h7 h8 h9 h10 h11 h12 h13 h14 h15 h16 h17 h18 h19 h20 h21 h22 h23 h24 h25 h26 h27 h28 h29 h30 h31
    go_wp2_with fail
    refine (sphere_any wr 2 _ 2 2 _ A1 n1 d1 _ A2 n2 d2 _ _ 2 2 [[0, 2], [1, 3]] ⟨hesc.step hx, ⟨by omega, by omega⟩, i1, i2⟩ i5 (by omega) (by have := i2.len; rw [upto_len] at this; omega)).mono ?_
    rintro e w' ⟨⟨bb, rfl, hS⟩, hb⟩
    obtain rfl := hS.2 ⟨ex_right, ex_turn, fun n f h => ex_genus h⟩
    go_wp2
    exact hK _ _ hb (fun _ _ => rfl)
  · intro wr hx v0 h0 v1 h1 v2 h2 v3 h3 v4 h4 v5 h5 v6 h6 v7 h7 v8 h8 v9 h9 v10 h10 v11 h11 v12 h12 v13 h13 v14 h14 v15 h15 v16 h16 v17 h17 v18 h18 v19 h19 v20 h20 v21 h21 v22 h22 v23 h23 v24 h24 v25 h25 v26 h26 v27 h27 v28 h28 v29 h29 v30 h30 v31 h31 K hK
    have p0 := (hx.cell (p := ⟨w.heap.size + 1, 0, none⟩) hgc).trans k0
    have p1 := (hx.cell (p := ⟨w.heap.size + 1, 1, none⟩) hgc).trans k1
    have p2 := (hx.cell (p := ⟨b, o + 1, none⟩) hbl).trans e0
    have p3 := (hx.cell (p := ⟨b, o + 3, none⟩) hbl).trans e1
    simp only [Act.put, List.setIfInBounds_toArray, List.set_cons_zero, List.set_cons_succ] at hK ⊢
    obtain rfl := (h23 (by decide)).now
    obtain rfl := (h30 (by decide)).now
    clear h0 h1 h2 h3 h4 h5 h6 h7 h8 h9 h10 h11 h12 h13 h14 h15 h16 h17 h18 h19 h20 h21 h22 h23 h24 h25 h26 h27 h28 h29 h30 h31
    go_wp2
    exact hK _ _ (Ext.refl _) (fun _ _ => rfl)
  intro wd hx v0 h0 v1 h1 v2 h2 v3 h3 v4 h4 v5 h5 v6 h6 v7 h7 v8 h8 v9 h9 v10 h10 v11 h11 v12 h12 v13 h13 v14 h14 v15 h15 v16 h16 v17 h17 v18 h18 v19 h19 v20 h20 v21 h21 v22 h22 v23 h23 v24 h24 v25 h25 v26 h26 v27 h27 v28 h28 v29 h29 v30 h30 v31 h31
  have p0 := (hx.cell (p := ⟨w.heap.size + 1, 0, none⟩) hgc).trans k0
  have p1 := (hx.cell (p := ⟨w.heap.size + 1, 1, none⟩) hgc).trans k1
  have p2 := (hx.cell (p := ⟨b, o + 1, none⟩) hbl).trans e0
  have p3 := (hx.cell (p := ⟨b, o + 3, none⟩) hbl).trans e1
  obtain rfl := h31.now
  clear h0 h1 h2 h3 h4 h5 h6 h7 h8 h9 h10 h11 h12 h13 h14 h15 h16 h17 h18 h19 h20 h21 h22 h23 h24 h25 h26 h27 h28 h29 h30 h31
  refine tail_quiet (by kernel_rfl) ?_
  simp only [List.drop_succ_cons, List.drop_zero, Act.put, List.setIfInBounds_toArray, List.set_cons_zero, List.set_cons_succ]
  repeat (go_big_quiet_step (fail))
  refine wpQuiet_nil ?_
  go_wp2
  go_ret
  exact ⟨rfl, HBC.out.trans (hx.mono HBC.out.size)⟩
end Go.Proofs.Ythobfbnopkbniaa
end
