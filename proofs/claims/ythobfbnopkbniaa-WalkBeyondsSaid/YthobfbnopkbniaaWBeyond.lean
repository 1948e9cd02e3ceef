/-
  The contract of walk.Beyond. No conditions on the program.
-/
import Derived.Test.YthobfbnopkbniaaWFar
import Derived.Test.YthobfbnopkbniaaRWhole
import Derived.Test.YthobfbnopkbniaaWWay
import Derived.Deep.LoopGhost
namespace Go.Proofs.Ythobfbnopkbniaa
open Go.RowKit

theorem results_cell_row2 {P : Program} {fn : Func} {p u : Tmp} {ty : TypeId} (h : fn.results = #[.cell p ty, .tmp u]) (tmps : Array Value) (w : World) (g : Nat) (t : TypeId) (cs : Array Value) (fr : Nat × Nat) (d : TypeDesc)
    (hp : tmps.getD p undef = .pointer (some ⟨g, 0, none⟩)) (hg : w.heap[g]? = some (.cells cs t fr))
    (hu : P.underlying ty = some d) (hd : (match d with | .struct _ | .array _ _ => true | _ => false) = true) (hi : (P.info? ty).map (·.size) = some cs.size) {b : Value} (hb : tmps.getD u undef = b) :
    (results fn tmps).run P w = .ok (.tuple #[.agg cs, b]) w := by
  have hp' : tmps[p]?.getD undef = .pointer (some ⟨g, 0, none⟩) := by simpa using hp
  have hb' : tmps[u]?.getD undef = b := by simpa using hb
  simp [results, h, hp', hb', asAddr, run_loadVar_row w g t ty cs fr d hg hu hd hi]

/-- When there is something beyond. -/
def BeyC (N : Int) (es : List (Int × Int)) (vs xs : List Int) (v d : Int) : Prop := pRight N es vs xs = 0 ∧ 0 ≤ d ∧ d / 2 ∈ xs ∧ tail es d = v
/-- What is beyond. -/
def BeyIs (es : List (Int × Int)) (vs xs : List Int) (v d : Int) (ys zs : List Int) : Prop :=
  (head es d = v ∧ ys = [v] ∧ zs = [d / 2]) ∨ (head es d ≠ v ∧ ∃ f ms, RI es xs v (head es d) vs f ms ms.length ∧ ys = vs.filter (fun x => (f x).isSome || x == v) ∧ zs = xs.filter (fun e => (f (ends es e).1).isSome || (f (ends es e).2).isSome))
def BeyRes (w : World) (es : List (Int × Int)) (vs xs : List Int) (v d : Int) (e : Ending) (w' : World) : Prop :=
  (∃ A1 n1 c1 A2 n2 c2 ys zs, e = .returned (.tuple #[.agg #[.slice A1 n1 c1, .slice A2 n2 c2], .bool true]) ∧ IS w' w'.heap.size A1 n1 c1 ys ∧ IS w' w'.heap.size A2 n2 c2 zs ∧ BeyIs es vs xs v d ys zs) ∧ Below w.heap.size w w'
theorem beyRes_mk {w w' : World} {es : List (Int × Int)} {vs xs : List Int} {v d : Int} {A1 A2 : Option Addr} {n1 c1 n2 c2 : Nat} {ys zs : List Int} (h1 : IS w' w'.heap.size A1 n1 c1 ys) (h2 : IS w' w'.heap.size A2 n2 c2 zs) (h : BeyIs es vs xs v d ys zs) (hb : Below w.heap.size w w') :
    BeyRes w es vs xs v d (.returned (.tuple #[.agg #[.slice A1 n1 c1, .slice A2 n2 c2], .bool true])) w' := ⟨⟨_, _, _, _, _, _, _, _, rfl, h1, h2, h⟩, hb⟩

set_option maxHeartbeats 8000000 in
set_option maxRecDepth 100000 in
theorem beyond_no (w : World) (N : Int) (A : Option Addr) (m c : Nat) (es : List (Int × Int)) (Av : Option Addr) (nv cv : Nat) (vs : List Int) (Ae : Option Addr) (ne ce : Nat) (xs : List Int) (v d : Int) (h : GP w N A m c es Av nv cv vs Ae ne ce xs) (hd : I64 d) (hno : ¬ BeyC N es vs xs v d) :
    Calls Try.prog 44 #[.agg #[.int .i64 N, .slice A m c], .agg #[.slice Av nv cv, .slice Ae ne ce], .int .i64 v, .int .i64 d] w fun e w' => e = .returned (.tuple #[.agg #[.slice none 0 0, .slice none 0 0], .bool false]) ∧ Below w.heap.size w w' := by
  obtain ⟨r, hr⟩ : ∃ r, pRight N es vs xs = r := ⟨_, rfl⟩
  have HR := Lib.hid hr
  have HNO := Lib.hid hno
  by_cases hr0 : r = 0
  · subst hr0
    have hp := Lib.hid (pRight_ok hr)
    clear hr hno
    by_cases hneg : d < 0
    ·
      obtain ⟨w1, hw1, b1, gb1⟩ := box_gp w N A m c es Av nv cv Ae ne ce
      obtain ⟨wa, hwa, ba, sa, hca⟩ := box_one w1 #[.slice none 0 0, .slice none 0 0] 27
      have hra : wa.heap[w1.heap.size]? = some (.cells #[.slice none 0 0, .slice none 0 0] 27 (0, 0)) := by rw [← hwa]; exact heap_alloc_new _ _
      have h1 := (h.step b1).step ba
      have gba := gb1.step ba
      have B1 := bstep b1 ba
      have hsw : w.heap.size ≤ w1.heap.size := b1.size
      clear h b1 gb1 ba hca sa
      go_enter Try.func44, Try.ntmps44
      have ⟨_, _, c0, c1, c2, c3, _⟩ := gba
      go_wp2_with fail
      refine (gRightPart_any wa N A m c es Av nv cv vs Ae ne ce xs h1).mono ?_
      rintro e w2 ⟨rfl, b2⟩
      rw [HR.out]
      have h2 := h1.step b2
      have gb2 := gba.step b2
      have B2 := bstep B1 b2
      have hr2 := (b2.block _ (Array.getElem?_eq_some_iff.1 hra).1).trans hra
      clear hw1 hwa h1 c0 c1 c2 c3 gba b2 B1 hra
      have ⟨hg2, hp2, c0, c1, c2, c3, _⟩ := gb2
      have z0 : w2.cell? ⟨w1.heap.size, 0, none⟩ = some (.slice none 0 0) := cell_of_row w2 _ 0 _ _ _ hr2
      have z1 : w2.cell? ⟨w1.heap.size, 1, none⟩ = some (.slice none 0 0) := cell_of_row w2 _ 1 _ _ _ hr2
      have f0 : w2.frozen? ⟨w1.heap.size, 0, none⟩ = false := frozen_of_row hr2
      have f1 : w2.frozen? ⟨w1.heap.size, 1, none⟩ = false := frozen_of_row hr2
      go_wp2
      have hbx : ((w2.setCell ⟨w1.heap.size, 0, none⟩ (.slice none 0 0)).setCell ⟨w1.heap.size, 1, none⟩ (.slice none 0 0)).heap[w1.heap.size]? = some (.cells #[.slice none 0 0, .slice none 0 0] 27 (0, 0)) := by
        simp [World.setCell, Array.getElem?_modify, hr2]
      try simp only [Exit.inBlock, Exit.then]
      refine bodyPost_ret (results_cell_row2 (P := Try.prog) (b := .bool false) rfl _ _ (w1.heap.size) 27 #[.slice none 0 0, .slice none 0 0] (0, 0) _ rfl hbx Try.underlying27 rfl (by kernel_rfl) rfl) rfl ?_
      exact ⟨rfl, (B2.setCell hsw _).setCell hsw _⟩
    · have hd0 : 0 ≤ d := by omega
      have hd1 := hd.2
      by_cases hdx : d / 2 ∈ xs
      · have HD := Lib.hid (decide_eq_true hdx)
        have hdr := hp.out.xr _ hdx
        have htl : tail es d ≠ v := fun e => HNO.out ⟨HR.out, hd0, hdx, e⟩
        have hxl := hp.out.lens.2.1
        have ht1 : ((tail es d) != v) = true := by simp [htl]
        have hb1 := bits_xor_one hd
        have htw0 : 0 ≤ twin d := by unfold twin; split <;> omega
        have htw1 : twin d < 2 * es.length := by unfold twin; split <;> omega
        have HTW0 := Lib.hid htw0
        have HTW1 := Lib.hid htw1
        clear htw0 htw1 hdx hdr htl
        obtain ⟨w1, hw1, b1, gb1⟩ := box_gp w N A m c es Av nv cv Ae ne ce
        obtain ⟨wa, hwa, ba, sa, hca⟩ := box_one w1 #[.slice none 0 0, .slice none 0 0] 27
        have hra : wa.heap[w1.heap.size]? = some (.cells #[.slice none 0 0, .slice none 0 0] 27 (0, 0)) := by rw [← hwa]; exact heap_alloc_new _ _
        have h1 := (h.step b1).step ba
        have gba := gb1.step ba
        have B1 := bstep b1 ba
        have hsw : w.heap.size ≤ w1.heap.size := b1.size
        clear h b1 gb1 ba hca sa
        go_enter Try.func44, Try.ntmps44
        have ⟨_, _, c0, c1, c2, c3, _⟩ := gba
        go_wp2_with fail
        refine (gRightPart_any wa N A m c es Av nv cv vs Ae ne ce xs h1).mono ?_
        rintro e w2 ⟨rfl, b2⟩
        rw [HR.out]
        have h2 := h1.step b2
        have gb2 := gba.step b2
        have B2 := bstep B1 b2
        have hr2 := (b2.block _ (Array.getElem?_eq_some_iff.1 hra).1).trans hra
        clear hw1 hwa h1 c0 c1 c2 c3 gba b2 B1 hra
        have ⟨hg2, hp2, c0, c1, c2, c3, _⟩ := gb2
        have z0 : w2.cell? ⟨w1.heap.size, 0, none⟩ = some (.slice none 0 0) := cell_of_row w2 _ 0 _ _ _ hr2
        have z1 : w2.cell? ⟨w1.heap.size, 1, none⟩ = some (.slice none 0 0) := cell_of_row w2 _ 1 _ _ _ hr2
        have f0 : w2.frozen? ⟨w1.heap.size, 0, none⟩ = false := frozen_of_row hr2
        have f1 : w2.frozen? ⟨w1.heap.size, 1, none⟩ = false := frozen_of_row hr2
        have hnx : ne ≤ 1000000 := by have := h2.e.len; omega
        go_wp2_with fail
        refine (has_any w2 _ Ae ne ce xs (d / 2) h2.e hnx hp.out.xp).mono ?_
        rintro e w3 ⟨rfl, rfl⟩
        rw [HD.out]
        have hgl := h2.g.len
        go_wp2_with fail
        refine (target_any w2 N A m c es (twin d) h2.g HTW0.out (by have := HTW1.out; omega)).mono ?_
        rintro e w3 ⟨rfl, b3⟩
        rw [head_twin]
        have hr3 := (b3.block _ (Array.getElem?_eq_some_iff.1 hr2).1).trans hr2
        have y0 : w3.cell? ⟨w1.heap.size, 0, none⟩ = some (.slice none 0 0) := cell_of_row w3 _ 0 _ _ _ hr3
        have y1 : w3.cell? ⟨w1.heap.size, 1, none⟩ = some (.slice none 0 0) := cell_of_row w3 _ 1 _ _ _ hr3
        have g0 : w3.frozen? ⟨w1.heap.size, 0, none⟩ = false := frozen_of_row hr3
        have g1 : w3.frozen? ⟨w1.heap.size, 1, none⟩ = false := frozen_of_row hr3
        have B3 := bstep B2 b3
        clear z0 z1 f0 f1 c0 c1 c2 c3 hr2 b3 B2
        go_wp2
        have hbx : ((w3.setCell ⟨w1.heap.size, 0, none⟩ (.slice none 0 0)).setCell ⟨w1.heap.size, 1, none⟩ (.slice none 0 0)).heap[w1.heap.size]? = some (.cells #[.slice none 0 0, .slice none 0 0] 27 (0, 0)) := by
          simp [World.setCell, Array.getElem?_modify, hr3]
        try simp only [Exit.inBlock, Exit.then]
        refine bodyPost_ret (results_cell_row2 (P := Try.prog) (b := .bool false) rfl _ _ (w1.heap.size) 27 #[.slice none 0 0, .slice none 0 0] (0, 0) _ rfl hbx Try.underlying27 rfl (by kernel_rfl) rfl) rfl ?_
        exact ⟨rfl, (B3.setCell hsw _).setCell hsw _⟩
      · have HD := Lib.hid (decide_eq_false hdx)
        have hxl := hp.out.lens.2.1
        clear hdx
        obtain ⟨w1, hw1, b1, gb1⟩ := box_gp w N A m c es Av nv cv Ae ne ce
        obtain ⟨wa, hwa, ba, sa, hca⟩ := box_one w1 #[.slice none 0 0, .slice none 0 0] 27
        have hra : wa.heap[w1.heap.size]? = some (.cells #[.slice none 0 0, .slice none 0 0] 27 (0, 0)) := by rw [← hwa]; exact heap_alloc_new _ _
        have h1 := (h.step b1).step ba
        have gba := gb1.step ba
        have B1 := bstep b1 ba
        have hsw : w.heap.size ≤ w1.heap.size := b1.size
        clear h b1 gb1 ba hca sa
        go_enter Try.func44, Try.ntmps44
        have ⟨_, _, c0, c1, c2, c3, _⟩ := gba
        go_wp2_with fail
        refine (gRightPart_any wa N A m c es Av nv cv vs Ae ne ce xs h1).mono ?_
        rintro e w2 ⟨rfl, b2⟩
        rw [HR.out]
        have h2 := h1.step b2
        have gb2 := gba.step b2
        have B2 := bstep B1 b2
        have hr2 := (b2.block _ (Array.getElem?_eq_some_iff.1 hra).1).trans hra
        clear hw1 hwa h1 c0 c1 c2 c3 gba b2 B1 hra
        have ⟨hg2, hp2, c0, c1, c2, c3, _⟩ := gb2
        have z0 : w2.cell? ⟨w1.heap.size, 0, none⟩ = some (.slice none 0 0) := cell_of_row w2 _ 0 _ _ _ hr2
        have z1 : w2.cell? ⟨w1.heap.size, 1, none⟩ = some (.slice none 0 0) := cell_of_row w2 _ 1 _ _ _ hr2
        have f0 : w2.frozen? ⟨w1.heap.size, 0, none⟩ = false := frozen_of_row hr2
        have f1 : w2.frozen? ⟨w1.heap.size, 1, none⟩ = false := frozen_of_row hr2
        have hnx : ne ≤ 1000000 := by have := h2.e.len; omega
        go_wp2_with fail
        refine (has_any w2 _ Ae ne ce xs (d / 2) h2.e hnx hp.out.xp).mono ?_
        rintro e w3 ⟨rfl, rfl⟩
        rw [HD.out]
        go_wp2
        have hbx : ((w2.setCell ⟨w1.heap.size, 0, none⟩ (.slice none 0 0)).setCell ⟨w1.heap.size, 1, none⟩ (.slice none 0 0)).heap[w1.heap.size]? = some (.cells #[.slice none 0 0, .slice none 0 0] 27 (0, 0)) := by
          simp [World.setCell, Array.getElem?_modify, hr2]
        try simp only [Exit.inBlock, Exit.then]
        refine bodyPost_ret (results_cell_row2 (P := Try.prog) (b := .bool false) rfl _ _ (w1.heap.size) 27 #[.slice none 0 0, .slice none 0 0] (0, 0) _ rfl hbx Try.underlying27 rfl (by kernel_rfl) rfl) rfl ?_
        exact ⟨rfl, (B2.setCell hsw _).setCell hsw _⟩
  · have hrb : (r != 0) = true := by simp [hr0]
    clear hr0 hr hno
    obtain ⟨w1, hw1, b1, gb1⟩ := box_gp w N A m c es Av nv cv Ae ne ce
    obtain ⟨wa, hwa, ba, sa, hca⟩ := box_one w1 #[.slice none 0 0, .slice none 0 0] 27
    have hra : wa.heap[w1.heap.size]? = some (.cells #[.slice none 0 0, .slice none 0 0] 27 (0, 0)) := by rw [← hwa]; exact heap_alloc_new _ _
    have h1 := (h.step b1).step ba
    have gba := gb1.step ba
    have B1 := bstep b1 ba
    have hsw : w.heap.size ≤ w1.heap.size := b1.size
    clear h b1 gb1 ba hca sa
    go_enter Try.func44, Try.ntmps44
    have ⟨_, _, c0, c1, c2, c3, _⟩ := gba
    go_wp2_with fail
    refine (gRightPart_any wa N A m c es Av nv cv vs Ae ne ce xs h1).mono ?_
    rintro e w2 ⟨rfl, b2⟩
    rw [HR.out]
    have h2 := h1.step b2
    have gb2 := gba.step b2
    have B2 := bstep B1 b2
    have hr2 := (b2.block _ (Array.getElem?_eq_some_iff.1 hra).1).trans hra
    clear hw1 hwa h1 c0 c1 c2 c3 gba b2 B1 hra
    have ⟨hg2, hp2, c0, c1, c2, c3, _⟩ := gb2
    have z0 : w2.cell? ⟨w1.heap.size, 0, none⟩ = some (.slice none 0 0) := cell_of_row w2 _ 0 _ _ _ hr2
    have z1 : w2.cell? ⟨w1.heap.size, 1, none⟩ = some (.slice none 0 0) := cell_of_row w2 _ 1 _ _ _ hr2
    have f0 : w2.frozen? ⟨w1.heap.size, 0, none⟩ = false := frozen_of_row hr2
    have f1 : w2.frozen? ⟨w1.heap.size, 1, none⟩ = false := frozen_of_row hr2
    go_wp2
    have hbx : ((w2.setCell ⟨w1.heap.size, 0, none⟩ (.slice none 0 0)).setCell ⟨w1.heap.size, 1, none⟩ (.slice none 0 0)).heap[w1.heap.size]? = some (.cells #[.slice none 0 0, .slice none 0 0] 27 (0, 0)) := by
      simp [World.setCell, Array.getElem?_modify, hr2]
    try simp only [Exit.inBlock, Exit.then]
    refine bodyPost_ret (results_cell_row2 (P := Try.prog) (b := .bool false) rfl _ _ (w1.heap.size) 27 #[.slice none 0 0, .slice none 0 0] (0, 0) _ rfl hbx Try.underlying27 rfl (by kernel_rfl) rfl) rfl ?_
    exact ⟨rfl, (B2.setCell hsw _).setCell hsw _⟩

theorem pair_set {W : World} {b : Nat} {v1 v2 u1 u2 : Value} {t : TypeId} (h : W.heap[b]? = some (.cells #[v1, v2] t (0, 0))) :
    ((W.setCell ⟨b, 0, none⟩ u1).setCell ⟨b, 1, none⟩ u2).heap[b]? = some (.cells #[u1, u2] t (0, 0)) := by
  simp [World.setCell, Array.getElem?_modify, h]
theorem pair_grown (W : World) (b : Nat) (u1 u2 : Value) : W.grownBy ((W.setCell ⟨b, 0, none⟩ u1).setCell ⟨b, 1, none⟩ u2) (some b) :=
  ⟨rfl, rfl, rfl, by simp [World.setCell], fun i _ hi => (Below.heap_setCell _ _ _ _ (fun e => hi (by rw [e]))).trans (Below.heap_setCell _ _ _ _ (fun e => hi (by rw [e])))⟩

set_option maxHeartbeats 8000000 in
set_option maxRecDepth 100000 in
/-- A loop. -/
theorem beyond_loop (w : World) (N : Int) (A : Option Addr) (m c : Nat) (es : List (Int × Int)) (Av : Option Addr) (nv cv : Nat) (vs : List Int) (Ae : Option Addr) (ne ce : Nat) (xs : List Int) (v d : Int) (h : GP w N A m c es Av nv cv vs Ae ne ce xs) (hd : I64 d) (hr : pRight N es vs xs = 0) (hd0 : 0 ≤ d) (hdx : d / 2 ∈ xs) (htl : tail es d = v) (hh : head es d = v) :
    Calls Try.prog 44 #[.agg #[.int .i64 N, .slice A m c], .agg #[.slice Av nv cv, .slice Ae ne ce], .int .i64 v, .int .i64 d] w (BeyRes w es vs xs v d) := by
  have HR := Lib.hid hr
  have hp := Lib.hid (pRight_ok hr)
  have HH := Lib.hid hh
  have hv64 : I64 v := by have h1 := (head_in (pRight_ok hr) hdx).2; have h2 := (pRight_ok hr).vr _ h1; have h3 := (pRight_ok hr).lens; rw [htl] at h2; exact ⟨by omega, by omega⟩
  have hq64 : I64 (d / 2) := ⟨by omega, by have := hd.2; omega⟩
  have htt : (v == v) = true := by simp
  clear hh hr
  have HD := Lib.hid (decide_eq_true hdx)
  have hdr := hp.out.xr _ hdx
  have hxl := hp.out.lens.2.1
  have ht1 : (v != v) = false := by simp
  have hb1 := bits_xor_one hd
  have hd1 := hd.2
  have htw0 : 0 ≤ twin d := by unfold twin; split <;> omega
  have htw1 : twin d < 2 * es.length := by unfold twin; split <;> omega
  have HTW0 := Lib.hid htw0
  have HTW1 := Lib.hid htw1
  have HDL : Hid (d < 2 * es.length) := Lib.hid (by omega)
  have HDX := Lib.hid hdx
  have HTL := Lib.hid htl
  clear htw0 htw1 hdx hdr htl
  obtain ⟨w1, hw1, b1, gb1⟩ := box_gp w N A m c es Av nv cv Ae ne ce
  obtain ⟨wa, hwa, ba, sa, hca⟩ := box_one w1 #[.slice none 0 0, .slice none 0 0] 27
  have hra : wa.heap[w1.heap.size]? = some (.cells #[.slice none 0 0, .slice none 0 0] 27 (0, 0)) := by rw [← hwa]; exact heap_alloc_new _ _
  have h1 := (h.step b1).step ba
  have gba := gb1.step ba
  have B1 := bstep b1 ba
  have hsw : w.heap.size ≤ w1.heap.size := b1.size
  clear h b1 gb1 ba hca sa
  go_enter Try.func44, Try.ntmps44
  have ⟨_, _, c0, c1, c2, c3, _⟩ := gba
  go_wp2_with fail
  refine (gRightPart_any wa N A m c es Av nv cv vs Ae ne ce xs h1).mono ?_
  rintro e w2 ⟨rfl, b2⟩
  rw [HR.out]
  have h2 := h1.step b2
  have gb2 := gba.step b2
  have B2 := bstep B1 b2
  have hr2 := (b2.block _ (Array.getElem?_eq_some_iff.1 hra).1).trans hra
  clear hw1 hwa h1 c0 c1 c2 c3 gba b2 B1 hra
  have ⟨hg2, hp2, c0, c1, c2, c3, _⟩ := gb2
  have z0 : w2.cell? ⟨w1.heap.size, 0, none⟩ = some (.slice none 0 0) := cell_of_row w2 _ 0 _ _ _ hr2
  have z1 : w2.cell? ⟨w1.heap.size, 1, none⟩ = some (.slice none 0 0) := cell_of_row w2 _ 1 _ _ _ hr2
  have f0 : w2.frozen? ⟨w1.heap.size, 0, none⟩ = false := frozen_of_row hr2
  have f1 : w2.frozen? ⟨w1.heap.size, 1, none⟩ = false := frozen_of_row hr2
  have hnx : ne ≤ 1000000 := by have := h2.e.len; omega
  go_wp2_with fail
  refine (has_any w2 _ Ae ne ce xs (d / 2) h2.e hnx hp.out.xp).mono ?_
  rintro e w3 ⟨rfl, rfl⟩
  rw [HD.out]
  have hgl := h2.g.len
  go_wp2_with fail
  refine (target_any w2 N A m c es (twin d) h2.g HTW0.out (by have := HTW1.out; omega)).mono ?_
  rintro e w3 ⟨rfl, b3⟩
  rw [head_twin, HTL.out]
  have h3 := h2.step b3
  have gb3 := gb2.step b3
  have B3 := bstep B2 b3
  have hr3 := (b3.block _ (Array.getElem?_eq_some_iff.1 hr2).1).trans hr2
  clear z0 z1 f0 f1 c0 c1 c2 c3 hr2 h2 gb2 b3 B2
  have ⟨_, _, c0, c1, c2, c3, _⟩ := gb3
  go_wp2_with fail
  refine (target_any w3 N A m c es d h3.g hd0 (by have := HDL.out; omega)).mono ?_
  rintro e w4 ⟨rfl, b4⟩
  have h4 := h3.step b4
  have gb4 := gb3.step b4
  have B4 := bstep B3 b4
  have hr4 := (b4.block _ (Array.getElem?_eq_some_iff.1 hr3).1).trans hr3
  clear c0 c1 c2 c3 hr3 h3 gb3 b4 B3
  have ⟨hg4, hp4, c0, c1, c2, c3, _⟩ := gb4
  have z0 : w4.cell? ⟨w1.heap.size, 0, none⟩ = some (.slice none 0 0) := cell_of_row w4 _ 0 _ _ _ hr4
  have z1 : w4.cell? ⟨w1.heap.size, 1, none⟩ = some (.slice none 0 0) := cell_of_row w4 _ 1 _ _ _ hr4
  have f0 : w4.frozen? ⟨w1.heap.size, 0, none⟩ = false := frozen_of_row hr4
  have f1 : w4.frozen? ⟨w1.heap.size, 1, none⟩ = false := frozen_of_row hr4
  rw [HH.out]
  obtain ⟨wy, hwy, by1, sy, hcy⟩ := box_one w4 #[.int .i64 v] 3
  obtain ⟨wx, hwx, bx1, sx, hcx⟩ := box_one wy #[.int .i64 (d / 2)] 3
  have iy : IS wy wy.heap.size (some ⟨w4.heap.size, 0, none⟩) 1 1 [v] := by
    rw [← hwy]; exact (IS.one w4 v hv64).more (by simp)
  have ix : IS wx wx.heap.size (some ⟨wy.heap.size, 0, none⟩) 1 1 [d / 2] := by
    rw [← hwx]; exact (IS.one wy (d / 2) hq64).more (by simp)
  have hrx := (bx1.block _ (Nat.lt_of_lt_of_le (Array.getElem?_eq_some_iff.1 hr4).1 by1.size)).trans ((by1.block _ (Array.getElem?_eq_some_iff.1 hr4).1).trans hr4)
  have hl4 := (Array.getElem?_eq_some_iff.1 hr4).1
  have z0 : wx.cell? ⟨w1.heap.size, 0, none⟩ = some (.slice none 0 0) := cell_of_row wx _ 0 _ _ _ hrx
  have z1 : wx.cell? ⟨w1.heap.size, 1, none⟩ = some (.slice none 0 0) := cell_of_row wx _ 1 _ _ _ hrx
  have f0 : wx.frozen? ⟨w1.heap.size, 0, none⟩ = false := frozen_of_row hrx
  have f1 : wx.frozen? ⟨w1.heap.size, 1, none⟩ = false := frozen_of_row hrx
  have HRX := Lib.hid hrx
  have IX := Lib.hid ix
  have IY := Lib.hid (iy.step bx1)
  have BX := Lib.hid (bstep (bstep B4 by1) bx1)
  have hsy := by1.size
  clear iy ix hcx hcy bx1 hrx c0 c1 c2 c3 h4 gb4 hr4 hg4 hp4
  go_wp2
  try simp only [Exit.inBlock, Exit.then]
  refine bodyPost_ret (results_cell_row2 (P := Try.prog) (b := .bool true) rfl _ _ w1.heap.size 27 _ (0, 0) _ rfl (pair_set HRX.out) Try.underlying27 rfl (by kernel_rfl) rfl) rfl ?_
  have hgr := pair_grown wx w1.heap.size (.slice (some ⟨w4.heap.size, 0, none⟩) 1 1) (.slice (some ⟨wy.heap.size, 0, none⟩) 1 1)
  refine beyRes_mk (IY.out.apart hgr (fun a ha => ?_)) (IX.out.apart hgr (fun a ha => ?_)) (.inl ⟨HH.out, rfl, rfl⟩) (BX.out.grown hgr BX.out.size (fun k hk => by cases hk; exact hsw))
  · injection ha with ha; subst ha; simp only; omega
  · injection ha with ha; subst ha; simp only; omega
end Go.Proofs.Ythobfbnopkbniaa
