/-
  The contract of walk.Far. No conditions on the program.
-/
import Derived.Test.YthobfbnopkbniaaWReach
import Derived.Test.YthobfbnopkbniaaRel
import Derived.Test.YthobfbnopkbniaaGHas
import Derived.Test.YthobfbnopkbniaaGPartB
namespace Go.Proofs.Ythobfbnopkbniaa
open Go.RowKit

/-- What Far answers. -/
def FarRes (w : World) (N : Int) (es : List (Int × Int)) (vs xs : List Int) (a : Int) (e : Ending) (w' : World) : Prop :=
  ((pRight N es vs xs = 0 ∧ a ∈ vs ∧ ∃ b f ms, e = .returned (.map (some b)) ∧ MI w' b ms.length f ∧ RI es xs (-1) a vs f ms ms.length) ∨ (¬ (pRight N es vs xs = 0 ∧ a ∈ vs) ∧ e = .returned (.map none))) ∧ Below w.heap.size w w'

set_option maxHeartbeats 4000000 in
set_option maxRecDepth 100000 in
theorem far_any (w : World) (N : Int) (A : Option Addr) (m c : Nat) (es : List (Int × Int)) (Av : Option Addr) (nv cv : Nat) (vs : List Int) (Ae : Option Addr) (ne ce : Nat) (xs : List Int) (a : Int) (h : GP w N A m c es Av nv cv vs Ae ne ce xs) :
    Calls Try.prog 36 #[.agg #[.int .i64 N, .slice A m c], .agg #[.slice Av nv cv, .slice Ae ne ce], .int .i64 a] w (FarRes w N es vs xs a) := by
  obtain ⟨w1, hw1, b1, gb1⟩ := box_gp w N A m c es Av nv cv Ae ne ce
  have h1 := h.step b1
  clear h
  obtain ⟨r, hr⟩ : ∃ r, pRight N es vs xs = r := ⟨_, rfl⟩
  have HR := Lib.hid hr
  by_cases hr0 : r = 0
  · subst hr0
    have hp := Lib.hid (pRight_ok hr)
    clear hr
    go_enter Try.func36, Try.ntmps36
    have ⟨_, _, c0, c1, c2, c3, _⟩ := gb1
    go_wp2_with fail
    refine (gRightPart_any w1 N A m c es Av nv cv vs Ae ne ce xs h1).mono ?_
    rintro e w2 ⟨rfl, b2⟩
    rw [HR.out]
    have h2 := h1.step b2
    have gb2 := gb1.step b2
    replace b1 := bstep b1 b2
    clear hw1 h1 c0 c1 c2 c3 gb1 b2
    have ⟨hg2, hp2, c0, c1, c2, c3, _⟩ := gb2
    have hnv : nv ≤ 1000000 := by have := hp.out.lens.1; have := h2.v.len; omega
    have hce := h2.e.cap
    by_cases ha : a ∈ vs
    · have HA := Lib.hid ha
      have HD := Lib.hid (decide_eq_true ha)
      clear ha
      go_wp2_with fail
      refine (has_any w2 _ Av nv cv vs a h2.v hnv hp.out.vp).mono ?_
      rintro e w3 ⟨rfl, rfl⟩
      rw [HD.out]
      go_wp2
      have H2 := Lib.hid h2
      have B1 := Lib.hid b1
      clear h2 b1
      refine wp_region_rel 6 [[],[],[],[1,2],[],[0,1,2,3,4]]
        [fun v _ => v = .agg #[.int .i64 N, .slice A m c],
         fun v _ => v = .agg #[.int .i64 N, .slice A m c],
         fun v _ => v = .agg #[.slice Av nv cv, .slice Ae ne ce],
         fun v w' => ∃ b, v = .map (some b) ∧ DM w' b (fun v => dartsOf es v xs),
         fun v _ => v = .int .i64 a,
         fun v w' => ∃ b f ms, v = .map (some b) ∧ MI w' b ms.length f ∧ RI es xs (-1) a vs f ms ms.length]
        (by kernel_rfl) (by kernel_rfl) rfl ⟨?_, ?_, ?_, ?_, ?_, ?_, trivial⟩ ?_
      · intro wr hx v0 h0 v1 h1 v2 h2 v3 h3 v4 h4 v5 h5 K hK
        have ⟨_, _, q0, q1, q2, q3, _⟩ := gb2.step hx
        simp only [Act.put, List.setIfInBounds_toArray, List.set_cons_zero, List.set_cons_succ] at hK ⊢
        clear h0 h1 h2 h3 h4 h5
        go_wp2
        exact hK _ _ (Ext.refl _) (fun _ _ => rfl)
      · intro wr hx v0 h0 v1 h1 v2 h2 v3 h3 v4 h4 v5 h5 K hK
        have ⟨_, _, q0, q1, q2, q3, _⟩ := gb2.step hx
        simp only [Act.put, List.setIfInBounds_toArray, List.set_cons_zero, List.set_cons_succ] at hK ⊢
        clear h0 h1 h2 h3 h4 h5
        go_wp2
        exact hK _ _ (Ext.refl _) (fun _ _ => rfl)
      · intro wr hx v0 h0 v1 h1 v2 h2 v3 h3 v4 h4 v5 h5 K hK
        have ⟨_, _, q0, q1, q2, q3, _⟩ := gb2.step hx
        simp only [Act.put, List.setIfInBounds_toArray, List.set_cons_zero, List.set_cons_succ] at hK ⊢
        clear h0 h1 h2 h3 h4 h5
        go_wp2
        exact hK _ _ (Ext.refl _) (fun _ _ => rfl)
      · intro wr hx v0 h0 v1 h1 v2 h2 v3 h3 v4 h4 v5 h5 K hK
        have ⟨_, _, q0, q1, q2, q3, _⟩ := gb2.step hx
        simp only [Act.put, List.setIfInBounds_toArray, List.set_cons_zero, List.set_cons_succ] at hK ⊢
        obtain rfl := (h1 (by decide)).now
        obtain rfl := (h2 (by decide)).now
        clear h0 h1 h2 h3 h4 h5
        go_wp2_with fail
        refine (leaving_any wr N A m c es Av nv cv vs Ae ne ce xs (H2.out.step hx) hp.out).mono ?_
        rintro e w' ⟨b, rfl, hdm, _, hb⟩
        go_wp2
        exact hK _ _ hb (fun w'' hx' => ⟨_, rfl, hdm.step hx'⟩)
      · intro wr hx v0 h0 v1 h1 v2 h2 v3 h3 v4 h4 v5 h5 K hK
        have ⟨_, _, q0, q1, q2, q3, _⟩ := gb2.step hx
        simp only [Act.put, List.setIfInBounds_toArray, List.set_cons_zero, List.set_cons_succ] at hK ⊢
        clear h0 h1 h2 h3 h4 h5
        go_wp2
        exact hK _ _ (Ext.refl _) (fun _ _ => rfl)
      · intro wr hx v0 h0 v1 h1 v2 h2 v3 h3 v4 h4 v5 h5 K hK
        have ⟨_, _, q0, q1, q2, q3, _⟩ := gb2.step hx
        simp only [Act.put, List.setIfInBounds_toArray, List.set_cons_zero, List.set_cons_succ] at hK ⊢
        obtain rfl := (h0 (by decide)).now
        obtain ⟨b3, rfl, hdm⟩ := (h3 (by decide)).now
        obtain rfl := (h4 (by decide)).now
        clear h0 h1 h2 h3 h4 h5
        go_wp2_with fail
        refine (reach_any wr N A m c es vs xs b3 a (-1) (H2.out.step hx).g hdm hp.out HA.out).mono ?_
        rintro e w' ⟨b, f, ms, rfl, hmi, hri, _, hb⟩
        go_wp2
        exact hK _ _ hb (fun w'' hx' => ⟨_, _, _, rfl, MV.step hmi hx', hri⟩)
      intro wr hx v0 h0 v1 h1 v2 h2 v3 h3 v4 h4 v5 h5
      have ⟨_, _, q0, q1, q2, q3, _⟩ := gb2.step hx
      obtain ⟨b, f, ms, rfl, hmi, hri⟩ := h5.now
      clear h0 h1 h2 h3 h4 h5
      refine tail_quiet (by kernel_rfl) ?_
      simp only [List.drop_succ_cons, List.drop_zero, Act.put, List.setIfInBounds_toArray, List.set_cons_zero, List.set_cons_succ]
      repeat (go_big_quiet_step (fail))
      refine wpQuiet_nil ?_
      have HMI := Lib.hid hmi
      have HRI := Lib.hid hri
      have HX := Lib.hid hx
      clear hmi hri hx q0 q1 q2 q3 c0 c1 c2 c3
      go_wp2
      go_ret
      exact ⟨.inl ⟨HR.out, HA.out, b, f, ms, rfl, HMI.out, HRI.out⟩, bstep B1.out HX.out⟩
    · have HA := Lib.hid ha
      have HD := Lib.hid (decide_eq_false ha)
      clear ha
      go_wp2_with fail
      refine (has_any w2 _ Av nv cv vs a h2.v hnv hp.out.vp).mono ?_
      rintro e w3 ⟨rfl, rfl⟩
      rw [HD.out]
      go_wp2
      go_ret
      exact ⟨.inr ⟨fun hh => HA.out hh.2, rfl⟩, b1⟩
  · have hrb : (r != 0) = true := by simp [hr0]
    have HR0 := Lib.hid hr0
    clear hr0 hr
    go_enter Try.func36, Try.ntmps36
    have ⟨_, _, c0, c1, c2, c3, _⟩ := gb1
    go_wp2_with fail
    refine (gRightPart_any w1 N A m c es Av nv cv vs Ae ne ce xs h1).mono ?_
    rintro e w2 ⟨rfl, b2⟩
    rw [HR.out]
    go_wp2
    go_ret
    exact ⟨.inr ⟨fun hh => HR0.out (HR.out.symm.trans hh.1), rfl⟩, bstep b1 b2⟩
end Go.Proofs.Ythobfbnopkbniaa
