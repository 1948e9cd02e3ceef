/-
  The contract of tracerylaw06.awake. No conditions.
-/
import Derived.Test.YthobfbnopkbniaaRSmall
import Derived.Test.YthobfbnopkbniaaRel
namespace Go.Proofs.Ythobfbnopkbniaa
open Go.RowKit

theorem new_ok (w : World) (N : Int) (A : Option Addr) (m c : Nat) (es : List (Int × Int)) (Av : Option Addr) (nv cv : Nat) (vs : List Int) (Ae : Option Addr) (ne ce : Nat) (xs : List Int) (At : Option Addr) (nt ct : Nat) (tt : List (List Int)) (h : GP w N A m c es Av nv cv vs Ae ne ce xs) (ht : TS w w.heap.size At nt ct tt) (hm60 : m ≤ 60) (hne60 : ne ≤ 60) (hp : pRight N es vs xs = 0) (hT : TurnOK N es xs tt) :
    Calls Try.prog 19 #[.agg #[.int .i64 N, .slice A m c], .agg #[.slice Av nv cv, .slice Ae ne ce], .slice At nt ct] w fun e w' => ∃ r, e = .returned (.tuple #[.pointer (some ⟨r, 0, none⟩), .int .i64 0]) ∧ RS w' r (lvOf es xs) (tt.map first) (placeN tt tt.length) (allDarts xs) ∧ Below w.heap.size w w' := by
  refine (new_any w N A m c es Av nv cv vs Ae ne ce xs At nt ct tt h ht hm60 hne60).mono ?_
  rintro e w' ⟨h1 | h1, hb⟩
  · obtain ⟨_, _, r, rfl, hrs⟩ := h1
    exact ⟨r, rfl, hrs, hb⟩
  · exact absurd ⟨hp, hT⟩ h1.1
theorem ex_right : pRight 2 [(0, 1), (0, 1)] (upto (2 : Int).toNat) (upto 2) = 0 := by decide
theorem ex_turned : Turned 2 [(0, 1), (0, 1)] (upto 2) [[0, 2], [1, 3]] := by unfold Turned; decide
theorem ex_turn : TurnOK 2 [(0, 1), (0, 1)] (upto 2) [[0, 2], [1, 3]] := (turned_iff (pRight_ok ex_right)).1 ex_turned
theorem ex_next1 (w : World) (r : Nat) (h : RS w r (lvOf [(0, 1), (0, 1)] (upto 2)) ([[0, 2], [1, 3]].map first) (placeN [[0, 2], [1, 3]] 2) (allDarts (upto 2))) :
    Calls Try.prog 22 #[.pointer (some ⟨r, 0, none⟩), .int .i64 0] w fun e w' => e = .returned (.tuple #[.int .i64 3, .bool true]) ∧ w = w' :=
  next_of w _ 0 3 true ⟨by omega, by omega⟩ (beside_yes w r _ _ _ _ h (twin 0) (-1) ⟨by decide, by decide⟩ 1 0 [1, 3] (by decide) (by decide) (by decide) (by decide) (by decide) (by omega) (by omega) (by decide) 1 (by decide))
theorem ex_next2 (w : World) (r : Nat) (h : RS w r (lvOf [(0, 1), (0, 1)] (upto 2)) ([[0, 2], [1, 3]].map first) (placeN [[0, 2], [1, 3]] 2) (allDarts (upto 2))) :
    Calls Try.prog 22 #[.pointer (some ⟨r, 0, none⟩), .int .i64 3] w fun e w' => e = .returned (.tuple #[.int .i64 0, .bool true]) ∧ w = w' :=
  next_of w _ 3 0 true ⟨by omega, by omega⟩ (beside_yes w r _ _ _ _ h (twin 3) (-1) ⟨by decide, by decide⟩ 0 1 [0, 2] (by decide) (by decide) (by decide) (by decide) (by decide) (by omega) (by omega) (by decide) 2 (by decide))
/-- Two rows side by side in a new block. -/
theorem TS.two {w : World} {A1 A2 : Option Addr} {n1 c1 n2 c2 : Nat} {xs ys : List Int} (t : TypeId) (h1 : IS w w.heap.size A1 n1 c1 xs) (h2 : IS w w.heap.size A2 n2 c2 ys) :
    TS (w.alloc (.cells #[.slice A1 n1 c1, .slice A2 n2 c2] t)) (w.alloc (.cells #[.slice A1 n1 c1, .slice A2 n2 c2] t)).heap.size (some ⟨w.heap.size, 0, none⟩) 2 2 [xs, ys] := by
  obtain ⟨w1, hw1, b1, s1, hc⟩ := box_one w #[.slice A1 n1 c1, .slice A2 n2 c2] t
  rw [hw1]
  exact ⟨rfl, Nat.le_refl _, by omega, fun _ => ⟨_, 0, rfl, s1, fun j hj => by
    match j, hj with
    | 0, _ => exact ⟨_, _, _, hc 0, h1.step b1⟩
    | 1, _ => exact ⟨_, _, _, hc 1, h2.step b1⟩⟩⟩
theorem IS.two_ (w : World) (x y : Int) (hx : I64 x) (hy : I64 y) : IS (w.alloc (.cells #[.int .i64 x, .int .i64 y] 3)) (w.alloc (.cells #[.int .i64 x, .int .i64 y] 3)).heap.size (some ⟨w.heap.size, 0, none⟩) 2 2 [x, y] :=
  (IS.two w x y hx hy).more (by simp)

set_option maxHeartbeats 4000000 in
set_option maxRecDepth 100000 in
theorem awake6_any (w : World) : Calls Try.prog 17 #[] w fun e w' => e = .returned (.bool true) ∧ Below w.heap.size w w' := by
  go_enter Try.func17, Try.ntmps17
  go_wp2
  obtain ⟨wb, hwb⟩ : ∃ wb, ((w.alloc (.cells #[.int .i64 0, .int .i64 1, .int .i64 0, .int .i64 1] 86)).alloc (.cells #[.int .i64 2, .slice (some ⟨w.heap.size, 0, none⟩) 2 2] 24)) = wb := ⟨_, rfl⟩
  have hbw : Below w.heap.size w wb := by rw [← hwb]; exact ((Below.refl _ _).alloc (Nat.le_refl _) _).alloc (by simp) _
  have hsz : wb.heap.size = w.heap.size + 2 := by rw [← hwb]; simp
  have c0 : wb.cell? ⟨w.heap.size + 1, 0, none⟩ = some (.int .i64 2) := by rw [← hwb]; simp
  have c1 : wb.cell? ⟨w.heap.size + 1, 1, none⟩ = some (.slice (some ⟨w.heap.size, 0, none⟩) 2 2) := by rw [← hwb]; simp
  have hes : ES wb wb.heap.size (some ⟨w.heap.size, 0, none⟩) 2 2 [(0, 1), (0, 1)] := by
    refine ⟨rfl, Nat.le_refl _, by omega, by simp [I64], fun _ => ⟨_, 0, rfl, by omega, fun j hj => ?_⟩⟩
    rw [← hwb]
    match j, hj with
    | 0, _ => simp
    | 1, _ => simp
  have hgl : w.heap.size + 1 < wb.heap.size := by omega
  rw [hwb]
  clear hwb
  refine wp_region_rel 7 [[], [], [1], [], [], [3, 4], [0, 1, 2, 3, 4, 5]]
    [fun v _ => v = .agg #[.int .i64 2, .slice (some ⟨w.heap.size, 0, none⟩) 2 2], fun v _ => v = .agg #[.int .i64 2, .slice (some ⟨w.heap.size, 0, none⟩) 2 2],
     fun v w' => ∃ A1 n1 d1 A2 n2 d2, v = .agg #[.slice A1 n1 d1, .slice A2 n2 d2] ∧ IS w' w'.heap.size A1 n1 d1 (upto 2) ∧ IS w' w'.heap.size A2 n2 d2 (upto 2),
     fun v w' => ∃ A, v = .slice A 2 2 ∧ IS w' w'.heap.size A 2 2 [0, 2], fun v w' => ∃ A, v = .slice A 2 2 ∧ IS w' w'.heap.size A 2 2 [1, 3],
     fun v w' => ∃ A, v = .slice A 2 2 ∧ TS w' w'.heap.size A 2 2 [[0, 2], [1, 3]],
     fun v w' => ∃ r, v = .tuple #[.pointer (some ⟨r, 0, none⟩), .int .i64 0] ∧ RS w' r (lvOf [(0, 1), (0, 1)] (upto 2)) ([[0, 2], [1, 3]].map first) (placeN [[0, 2], [1, 3]] 2) (allDarts (upto 2))]
    (by kernel_rfl) (by kernel_rfl) rfl ⟨?_, ?_, ?_, ?_, ?_, ?_, ?_, trivial⟩ ?_
  · intro wr hx v0 _ v1 _ v2 _ v3 _ v4 _ v5 _ v6 _ K hK
    have k0 := (hx.cell (p := ⟨w.heap.size + 1, 0, none⟩) hgl).trans c0
    have k1 := (hx.cell (p := ⟨w.heap.size + 1, 1, none⟩) hgl).trans c1
    simp only [Act.put, List.setIfInBounds_toArray, List.set_cons_zero, List.set_cons_succ] at hK ⊢
    go_wp2
    exact hK _ _ (Ext.refl _) (fun _ _ => rfl)
  · intro wr hx v0 _ v1 _ v2 _ v3 _ v4 _ v5 _ v6 _ K hK
    have k0 := (hx.cell (p := ⟨w.heap.size + 1, 0, none⟩) hgl).trans c0
    have k1 := (hx.cell (p := ⟨w.heap.size + 1, 1, none⟩) hgl).trans c1
    simp only [Act.put, List.setIfInBounds_toArray, List.set_cons_zero, List.set_cons_succ] at hK ⊢
    go_wp2
    exact hK _ _ (Ext.refl _) (fun _ _ => rfl)
  · intro wr hx v0 _ v1 h1 v2 _ v3 _ v4 _ v5 _ v6 _ K hK
    obtain rfl := (h1 (by decide)).now
    clear h1
    simp only [Act.put, List.setIfInBounds_toArray, List.set_cons_zero, List.set_cons_succ] at hK ⊢
    go_wp2_with fail
    refine (whole_any wr 2 _ 2 2 _ (hes.step hx) (by omega) (by omega) (by omega)).mono ?_
    rintro e w' ⟨A1, n1, d1, A2, n2, d2, rfl, his1, his2, hb⟩
    go_wp2
    exact hK _ _ hb (fun w'' hx' => ⟨_, _, _, _, _, _, rfl, his1.step hx', his2.step hx'⟩)
  · intro wr hx v0 _ v1 _ v2 _ v3 _ v4 _ v5 _ v6 _ K hK
    simp only [Act.put, List.setIfInBounds_toArray, List.set_cons_zero, List.set_cons_succ] at hK ⊢
    go_wp2
    exact hK _ _ (Ext.alloc _ _) (fun w'' hx' => ⟨_, rfl, (IS.two_ wr 0 2 ⟨by omega, by omega⟩ ⟨by omega, by omega⟩).step hx'⟩)
  · intro wr hx v0 _ v1 _ v2 _ v3 _ v4 _ v5 _ v6 _ K hK
    simp only [Act.put, List.setIfInBounds_toArray, List.set_cons_zero, List.set_cons_succ] at hK ⊢
    go_wp2
    exact hK _ _ (Ext.alloc _ _) (fun w'' hx' => ⟨_, rfl, (IS.two_ wr 1 3 ⟨by omega, by omega⟩ ⟨by omega, by omega⟩).step hx'⟩)
  · intro wr hx v0 _ v1 _ v2 _ v3 h3 v4 h4 v5 _ v6 _ K hK
    obtain ⟨A3, rfl, i3⟩ := (h3 (by decide)).now
    obtain ⟨A4, rfl, i4⟩ := (h4 (by decide)).now
    clear h3 h4
    simp only [Act.put, List.setIfInBounds_toArray, List.set_cons_zero, List.set_cons_succ] at hK ⊢
    go_wp2
    exact hK _ _ (Ext.alloc _ _) (fun w'' hx' => ⟨_, rfl, (TS.two _ i3 i4).step hx'⟩)
  · intro wr hx v0 h0 v1 _ v2 h2 v3 _ v4 _ v5 h5 v6 _ K hK
    obtain rfl := (h0 (by decide)).now
    obtain ⟨A1, n1, d1, A2, n2, d2, rfl, i1, i2⟩ := (h2 (by decide)).now
    obtain ⟨A5, rfl, i5⟩ := (h5 (by decide)).now
    clear h0 h2 h5
    simp only [Act.put, List.setIfInBounds_toArray, List.set_cons_zero, List.set_cons_succ] at hK ⊢
    go_wp2_with fail
    refine (new_ok wr 2 _ 2 2 _ A1 n1 d1 _ A2 n2 d2 _ _ 2 2 [[0, 2], [1, 3]] ⟨hes.step hx, ⟨by omega, by omega⟩, i1, i2⟩ i5 (by omega) (by have := i2.len; rw [upto_len] at this; omega) ex_right ex_turn).mono ?_
    rintro e w' ⟨r, rfl, hrs, hb⟩
    go_wp2
    exact hK _ _ hb (fun w'' hx' => ⟨_, rfl, hrs.step hx'⟩)
  · intro wr hx v0 _ v1 _ v2 _ v3 _ v4 _ v5 _ v6 h6
    obtain ⟨r, rfl, hrs⟩ := h6.now
    refine tail_quiet (by kernel_rfl) ?_
    simp only [List.drop_succ_cons, List.drop_zero, Act.put, List.setIfInBounds_toArray, List.set_cons_zero, List.set_cons_succ]
    clear h6
    repeat (go_big_quiet_step (fail))
    refine wpQuiet_nil ?_
    go_wp2_with fail
    refine (ex_next1 wr r hrs).mono ?_
    rintro e w10 ⟨rfl, rfl⟩
    go_wp2_with fail
    refine (ex_next2 wr r hrs).mono ?_
    rintro e w10 ⟨rfl, rfl⟩
    go_wp2
    go_ret
    exact ⟨rfl, hbw.trans (hx.mono hbw.size)⟩
end Go.Proofs.Ythobfbnopkbniaa
