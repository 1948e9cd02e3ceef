/-
  The walk of the law RotaNil; no conditions.
-/
import Derived.Test.YthobfbnopkbniaaRXor
import Derived.Test.YthobfbnopkbniaaRAwake
import Derived.Test.YthobfbnopkbniaaRBox
import Derived.Test.YthobfbnopkbniaaRTurn
namespace Go.Proofs.Ythobfbnopkbniaa
open Go.RowKit

set_option maxHeartbeats 2000000 in
set_option maxRecDepth 100000 in
theorem at_nil (w : World) (v : Int) : Calls Try.prog 43 #[.pointer none, .int .i64 v] w fun e w' => e = .returned (.slice none 0 0) ∧ w = w' := by
  go_enter Try.func43, Try.ntmps43
  go_wp2
  go_ret
  exact ⟨rfl, rfl⟩
set_option maxHeartbeats 2000000 in
set_option maxRecDepth 100000 in
theorem turn_nil (w : World) : Calls Try.prog 33 #[.pointer none] w fun e w' => e = .returned (.slice none 0 0) ∧ w = w' := by
  go_enter Try.func33, Try.ntmps33
  go_wp2
  go_ret
  exact ⟨rfl, rfl⟩
set_option maxHeartbeats 2000000 in
set_option maxRecDepth 100000 in
theorem mirror_nil (w : World) : Calls Try.prog 48 #[.pointer none] w fun e w' => e = .returned (.pointer none) ∧ w = w' := by
  go_enter Try.func48, Try.ntmps48
  go_wp2
  go_ret
  exact ⟨rfl, rfl⟩

/-- 'for range r.Darts()', r nil. -/
theorem wp_range_darts_nil {g : Operand} {t : Tmp} {body : Code} {Q : Exit → Act → World → Prop} {a : Act} {w : World} {bx : Nat}
    (hg : a.eval g = .func (.func 74) #[] #[.pointer (some ⟨bx, 0, none⟩)]) (hc : w.cell? ⟨bx, 0, none⟩ = some (.pointer none)) (hbx : bx < w.heap.size)
    (hdone : ∀ D W, w.heap.size ≤ D → Ext w W → W.heap[D]? = some (.deferred (some [])) → Q .normal { a with defers := markOf D :: a.defers } W) :
    (Code.rangeFunc g #[t] Code.skip body).wp Try.prog Q a w :=
  wp_range_darts (p := none) (Ad := none) (nd := 0) (cd := 0) (B := 0) (ds := []) hg (fun _ W => Ext w W) (fun _ _ => False) (fun _ _ _ hw ha => Below.trans hw (ha.below hw.size)) (fun _ _ _ h _ => h)
    (fun _ _ hw => ⟨(hw.cell (p := ⟨bx, 0, none⟩) hbx).trans hc, .inl ⟨rfl, rfl⟩⟩) (Ext.refl _) (fun x => { tmps := a.tmps.setIfInBounds t (.int .i64 x), defers := [] })
    (fun _ _ _ _ _ hK => wpIn_skip hK) (fun _ _ k _ _ hk => absurd hk (by omega)) hdone (fun _ _ _ _ h _ => h.elim)

set_option maxHeartbeats 4000000 in
set_option maxRecDepth 100000 in
theorem law_RotaNil (w : World) (d : Int) (hd : I64 d) :
    Calls Try.prog 11 #[.int .i64 d] w fun e w' => e = .returned (.bool true) ∧ Below w.heap.size w w' := by
  obtain ⟨w2, hw2, b1, s2, rc2⟩ := box_new w (.bool false) 4
  refine (callsIn_wide (n := 5)).1 (callsIn_of_wp_marks Try.func11 rfl trivial (wpIn_wide.2 ?_) rfl)
  simp only [Try.ntmps11, List.size_toArray, List.length_cons, List.length_nil, Nat.reduceAdd, Nat.reduceSub, Array.replicate_succ, Array.replicate_zero, List.push_toArray, List.append_toArray, List.nil_append, List.cons_append]
  go_wp2_with fail
  refine (awake6_any w2).mono ?_
  rintro e w3 ⟨rfl, b3⟩
  have rc3 := (b3.block _ s2).trans rc2
  replace b1 := bstep b1 b3
  have s3 : w.heap.size < w3.heap.size := by have := b3.size; omega
  clear hw2 rc2 s2 b3
  go_wp2_with fail
  refine (after_of w3 _ d _ _ (beside_nil w3 d 1)).mono ?_
  rintro e w5 ⟨rfl, rfl⟩
  go_wp2_with fail
  refine (before_of w3 _ d _ _ (beside_nil w3 d (-1))).mono ?_
  rintro e w5 ⟨rfl, rfl⟩
  go_wp2_with fail
  refine (next_of w3 _ d _ _ hd (beside_nil w3 (twin d) (-1))).mono ?_
  rintro e w5 ⟨rfl, rfl⟩
  go_wp2_with fail
  refine (back_no w3 _ d (beside_nil w3 d 1)).mono ?_
  rintro e w5 ⟨rfl, rfl⟩
  go_wp2_with fail
  refine (darts_any w3 none).mono ?_
  rintro e w9 ⟨bx, rfl, bc9, hbx, bx9, b9⟩
  have rc9 := (b9.block _ s3).trans rc3
  replace b1 := bstep b1 b9
  have s9 : w.heap.size < w9.heap.size := by omega
  clear rc3 b9 s3
  go_wp2_with fail
  refine wp_range_darts_nil (bx := bx) rfl bc9 bx9 ?done
  case done =>
    intro D W hD hW hDef
    have rcW := (hW.block _ s9).trans rc9
    have q1 := box_cell rcW
    have q2 := box_frozen rcW
    have bW := bstep b1 hW
    have hDw : w.heap.size ≤ D := by omega
    clear rc9
    go_wp2_with fail
    refine (at_nil W 0).mono ?_
    rintro e w5 ⟨rfl, rfl⟩
    go_wp2_with fail
    refine (turn_nil W).mono ?_
    rintro e w5 ⟨rfl, rfl⟩
    go_wp2_with fail
    refine (mirror_nil W).mono ?_
    rintro e w5 ⟨rfl, rfl⟩
    go_wp2_with fail
    exact leave_set_mark rfl rfl rcW hDef ⟨rfl, below_mark (bW.setCell (p := ⟨w.heap.size, 0, none⟩) (Nat.le_refl _) _) hDw⟩
end Go.Proofs.Ythobfbnopkbniaa
