/-
  The contracts of slices.IndexFunc at the closure of walk.Path, of that closure, and of walk.Path. No conditions on the program.
-/
import Derived.Test.YthobfbnopkbniaaWFar
import Derived.Test.YthobfbnopkbniaaWWay
namespace Go.Proofs.Ythobfbnopkbniaa
open Go.RowKit

/-- The closure: is a dart's end so far? -/
abbrev nearV (fb gb nb : Nat) : Value := .func (.func 69) #[] #[.pointer (some ⟨fb, 0, none⟩), .pointer (some ⟨gb, 0, none⟩), .pointer (some ⟨nb, 0, none⟩)]

set_option maxHeartbeats 4000000 in
set_option maxRecDepth 100000 in
theorem near_any (w : World) (N : Int) (A : Option Addr) (m c : Nat) (es : List (Int × Int)) (fb gb nb mb cnt : Nat) (f : Int → Option Int) (d q : Int) (hg : ES w w.heap.size A m c es) (hgb : w.cell? ⟨gb, 0, none⟩ = some (.int .i64 N)) (hgc : w.cell? ⟨gb, 1, none⟩ = some (.slice A m c)) (hfb : w.cell? ⟨fb, 0, none⟩ = some (.map (some mb))) (hnb : w.cell? ⟨nb, 0, none⟩ = some (.int .i64 q))
    (hm : MI w mb cnt f) (hd0 : 0 ≤ d) (hd1 : d < 2 * m) (hh : I64 (head es d)) (hq0 : 0 < q) (hq1 : q ≤ 100000) :
    Calls Try.prog 69 #[.int .i64 d, .pointer (some ⟨fb, 0, none⟩), .pointer (some ⟨gb, 0, none⟩), .pointer (some ⟨nb, 0, none⟩)] w fun e w' => e = .returned (.bool (val f (head es d) == q - 1)) ∧ Below w.heap.size w w' := by
  have lg := World.block_lt_of_cell? w _ hgb
  have lf := World.block_lt_of_cell? w _ hfb
  have ln := World.block_lt_of_cell? w _ hnb
  have HG := Lib.hid hg
  have HM := Lib.hid hm
  have w1 : IntKind.i64.wrap (q - 1) = q - 1 := IntWalk.i64_in _ (by omega)
  obtain ⟨u, hu⟩ : ∃ u, head es d = u := ⟨_, rfl⟩
  rw [hu] at hh ⊢
  have HU := Lib.hid hu
  obtain ⟨k, hk⟩ : ∃ k, (f u).getD 0 = k := ⟨_, rfl⟩
  have HK := Lib.hid hk
  have HV : Hid (val f u = k) := Lib.hid hk
  rw [HV.out]
  clear hg hm hu hk
  go_enter Try.func69, Try.ntmps69
  go_wp2
  refine wp_region_rel 8 [[],[],[],[1,2],[0,1,2,3],[],[5],[0,1,2,3,4,5,6]]
    [fun v _ => v = .map (some mb),
     fun v _ => v = .agg #[.int .i64 N, .slice A m c],
     fun v _ => v = .int .i64 d,
     fun v _ => v = .int .i64 u,
     fun v _ => v = .int .i64 k,
     fun v _ => v = .int .i64 q,
     fun v _ => v = .int .i64 (q - 1),
     fun v _ => v = .bool (k == q - 1)]
    (by kernel_rfl) (by kernel_rfl) rfl ⟨?_, ?_, ?_, ?_, ?_, ?_, ?_, ?_, trivial⟩ ?_
  · intro wr hx v0 h0 v1 h1 v2 h2 v3 h3 v4 h4 v5 h5 v6 h6 v7 h7 K hK
    have q0 := (hx.cell (p := ⟨gb, 0, none⟩) lg).trans hgb
    have q1 := (hx.cell (p := ⟨gb, 1, none⟩) lg).trans hgc
    have q2 := (hx.cell (p := ⟨fb, 0, none⟩) lf).trans hfb
    have q3 := (hx.cell (p := ⟨nb, 0, none⟩) ln).trans hnb
    simp only [Act.put, List.setIfInBounds_toArray, List.set_cons_zero, List.set_cons_succ] at hK ⊢
    clear h0 h1 h2 h3 h4 h5 h6 h7
    go_wp2
    exact hK _ _ (Ext.refl _) (fun _ _ => rfl)
  · intro wr hx v0 h0 v1 h1 v2 h2 v3 h3 v4 h4 v5 h5 v6 h6 v7 h7 K hK
    have q0 := (hx.cell (p := ⟨gb, 0, none⟩) lg).trans hgb
    have q1 := (hx.cell (p := ⟨gb, 1, none⟩) lg).trans hgc
    have q2 := (hx.cell (p := ⟨fb, 0, none⟩) lf).trans hfb
    have q3 := (hx.cell (p := ⟨nb, 0, none⟩) ln).trans hnb
    simp only [Act.put, List.setIfInBounds_toArray, List.set_cons_zero, List.set_cons_succ] at hK ⊢
    clear h0 h1 h2 h3 h4 h5 h6 h7
    go_wp2
    exact hK _ _ (Ext.refl _) (fun _ _ => rfl)
  · intro wr hx v0 h0 v1 h1 v2 h2 v3 h3 v4 h4 v5 h5 v6 h6 v7 h7 K hK
    have q0 := (hx.cell (p := ⟨gb, 0, none⟩) lg).trans hgb
    have q1 := (hx.cell (p := ⟨gb, 1, none⟩) lg).trans hgc
    have q2 := (hx.cell (p := ⟨fb, 0, none⟩) lf).trans hfb
    have q3 := (hx.cell (p := ⟨nb, 0, none⟩) ln).trans hnb
    simp only [Act.put, List.setIfInBounds_toArray, List.set_cons_zero, List.set_cons_succ] at hK ⊢
    clear h0 h1 h2 h3 h4 h5 h6 h7
    go_wp2
    exact hK _ _ (Ext.refl _) (fun _ _ => rfl)
  · intro wr hx v0 h0 v1 h1 v2 h2 v3 h3 v4 h4 v5 h5 v6 h6 v7 h7 K hK
    have q0 := (hx.cell (p := ⟨gb, 0, none⟩) lg).trans hgb
    have q1 := (hx.cell (p := ⟨gb, 1, none⟩) lg).trans hgc
    have q2 := (hx.cell (p := ⟨fb, 0, none⟩) lf).trans hfb
    have q3 := (hx.cell (p := ⟨nb, 0, none⟩) ln).trans hnb
    simp only [Act.put, List.setIfInBounds_toArray, List.set_cons_zero, List.set_cons_succ] at hK ⊢
    obtain rfl := (h1 (by decide)).now
    obtain rfl := (h2 (by decide)).now
    clear h0 h1 h2 h3 h4 h5 h6 h7
    go_wp2_with fail
    refine (target_any wr N A m c es d (HG.out.step hx) hd0 hd1).mono ?_
    rintro e w' ⟨rfl, hb⟩
    rw [HU.out]
    go_wp2
    exact hK _ _ hb (fun w'' hx' => rfl)
  · intro wr hx v0 h0 v1 h1 v2 h2 v3 h3 v4 h4 v5 h5 v6 h6 v7 h7 K hK
    have q0 := (hx.cell (p := ⟨gb, 0, none⟩) lg).trans hgb
    have q1 := (hx.cell (p := ⟨gb, 1, none⟩) lg).trans hgc
    have q2 := (hx.cell (p := ⟨fb, 0, none⟩) lf).trans hfb
    have q3 := (hx.cell (p := ⟨nb, 0, none⟩) ln).trans hnb
    simp only [Act.put, List.setIfInBounds_toArray, List.set_cons_zero, List.set_cons_succ] at hK ⊢
    obtain rfl := (h0 (by decide)).now
    obtain rfl := (h3 (by decide)).now
    clear h0 h1 h2 h3 h4 h5 h6 h7
    have hm2 : MI wr mb cnt f := MV.step HM.out hx
    go_wp2_with (at_lookup; go_must (refine wpList_ilook (g := f) (k := u) rfl _ _ rfl rfl hm2 rfl hh k HK.out ?_))
    exact hK _ _ (Ext.refl _) (fun _ _ => rfl)
  · intro wr hx v0 h0 v1 h1 v2 h2 v3 h3 v4 h4 v5 h5 v6 h6 v7 h7 K hK
    have q0 := (hx.cell (p := ⟨gb, 0, none⟩) lg).trans hgb
    have q1 := (hx.cell (p := ⟨gb, 1, none⟩) lg).trans hgc
    have q2 := (hx.cell (p := ⟨fb, 0, none⟩) lf).trans hfb
    have q3 := (hx.cell (p := ⟨nb, 0, none⟩) ln).trans hnb
    simp only [Act.put, List.setIfInBounds_toArray, List.set_cons_zero, List.set_cons_succ] at hK ⊢
    clear h0 h1 h2 h3 h4 h5 h6 h7
    go_wp2
    exact hK _ _ (Ext.refl _) (fun _ _ => rfl)
  · intro wr hx v0 h0 v1 h1 v2 h2 v3 h3 v4 h4 v5 h5 v6 h6 v7 h7 K hK
    have q0 := (hx.cell (p := ⟨gb, 0, none⟩) lg).trans hgb
    have q1 := (hx.cell (p := ⟨gb, 1, none⟩) lg).trans hgc
    have q2 := (hx.cell (p := ⟨fb, 0, none⟩) lf).trans hfb
    have q3 := (hx.cell (p := ⟨nb, 0, none⟩) ln).trans hnb
    simp only [Act.put, List.setIfInBounds_toArray, List.set_cons_zero, List.set_cons_succ] at hK ⊢
    obtain rfl := (h5 (by decide)).now
    clear h0 h1 h2 h3 h4 h5 h6 h7
    go_wp2
    exact hK _ _ (Ext.refl _) (fun _ _ => rfl)
  · intro wr hx v0 h0 v1 h1 v2 h2 v3 h3 v4 h4 v5 h5 v6 h6 v7 h7 K hK
    have q0 := (hx.cell (p := ⟨gb, 0, none⟩) lg).trans hgb
    have q1 := (hx.cell (p := ⟨gb, 1, none⟩) lg).trans hgc
    have q2 := (hx.cell (p := ⟨fb, 0, none⟩) lf).trans hfb
    have q3 := (hx.cell (p := ⟨nb, 0, none⟩) ln).trans hnb
    simp only [Act.put, List.setIfInBounds_toArray, List.set_cons_zero, List.set_cons_succ] at hK ⊢
    obtain rfl := (h4 (by decide)).now
    obtain rfl := (h6 (by decide)).now
    clear h0 h1 h2 h3 h4 h5 h6 h7
    go_wp2
    exact hK _ _ (Ext.refl _) (fun _ _ => rfl)
  intro wr hx v0 h0 v1 h1 v2 h2 v3 h3 v4 h4 v5 h5 v6 h6 v7 h7
  have q0 := (hx.cell (p := ⟨gb, 0, none⟩) lg).trans hgb
  have q1 := (hx.cell (p := ⟨gb, 1, none⟩) lg).trans hgc
  have q2 := (hx.cell (p := ⟨fb, 0, none⟩) lf).trans hfb
  have q3 := (hx.cell (p := ⟨nb, 0, none⟩) ln).trans hnb
  obtain rfl := h7.now
  clear h0 h1 h2 h3 h4 h5 h6 h7
  refine tail_quiet (by kernel_rfl) ?_
  simp only [List.drop_succ_cons, List.drop_zero, Act.put, List.setIfInBounds_toArray, List.set_cons_zero, List.set_cons_succ]
  repeat (go_big_quiet_step (fail))
  refine wpQuiet_nil ?_
  have HX := Lib.hid hx
  clear hx q0 q1 q2 q3
  go_wp2
  go_ret
  exact ⟨rfl, HX.out⟩

set_option maxHeartbeats 4000000 in
set_option maxRecDepth 100000 in
/-- The first that is so far. -/
theorem indexFunc_at (w : World) (A : Option Addr) (n c : Nat) (xs : List Int) (fb gb nb : Nat) (p : Int → Bool) (i : Nat) (h : IS w w.heap.size A n c xs) (hi : i < n) (hp : p (xs.getD i 0) = true) (hno : ∀ j, j < i → p (xs.getD j 0) = false)
    (hc : ∀ (w' : World) (d : Int), Ext w w' → d ∈ xs → Calls Try.prog 69 #[.int .i64 d, .pointer (some ⟨fb, 0, none⟩), .pointer (some ⟨gb, 0, none⟩), .pointer (some ⟨nb, 0, none⟩)] w' fun e w'' => e = .returned (.bool (p d)) ∧ Below w'.heap.size w' w'') :
    Calls Try.prog 68 #[.slice A n c, nearV fb gb nb] w fun e w' => e = .returned (.int .i64 i) ∧ Below w.heap.size w w' := by
  have hle := h.le
  have hcap := h.cap
  have HP := Lib.hid hp
  have HNO := Lib.hid hno
  have HC := Lib.hid hc
  have H := Lib.hid h
  have hB0 : Ext w w := Ext.refl w
  clear hp hno hc h
  go_enter Try.func68, Try.ntmps68
  go_wp2
  go_loopw [8] (fun v wr => ∃ k : Nat, k ≤ i ∧ v = .int .i64 k ∧ Ext w wr) (fun v _ => n - (intOf v).toNat)
  case atStart => exact ⟨0, Nat.zero_le _, rfl, hB0⟩
  case round =>
    obtain ⟨k, hk, rfl, hx⟩ := hrel
    have hlt : k < n := by omega
    obtain ⟨b, o, z, rfl, hb, hz, hz64, hcz⟩ := (H.out.step hx).get hlt
    have hmem : z ∈ xs := by rw [← hz.out]; exact H.out.mem hlt
    have hcl := HC.out wr z hx hmem
    have HX := Lib.hid hx
    clear hx
    by_cases hki : k = i
    · subst hki
      have hpz : p z = true := by rw [← hz.out]; exact HP.out
      rw [hpz] at hcl
      have HCL := Lib.hid hcl
      clear hcl hpz
      go_wp2_with fail
      refine HCL.out.mono ?_
      rintro e w6 ⟨rfl, b6⟩
      go_wp2
      go_ret
      exact ⟨rfl, HX.out.trans b6⟩
    · have hpz : p z = false := by rw [← hz.out]; exact HNO.out k (by omega)
      rw [hpz] at hcl
      have HCL := Lib.hid hcl
      clear hcl hpz
      go_wp2_with fail
      refine HCL.out.mono ?_
      rintro e w6 ⟨rfl, b6⟩
      go_wp2
      go_roundw
      case rel => exact ⟨k + 1, by omega, by go_num, HX.out.trans b6⟩
      case measure => simp [intOf]; omega

/-- What Path answers. -/
def PathYes (w : World) (es : List (Int × Int)) (vs xs : List Int) (a b : Int) (e : Ending) (w' : World) : Prop :=
  (∃ f ms, RI es xs (-1) b vs f ms ms.length ∧
      ((f a = none ∧ e = .returned (.tuple #[.slice none 0 0, .bool false])) ∨ ∃ A n c l, e = .returned (.tuple #[.slice A n c, .bool true]) ∧ IS w' w'.heap.size A n c l ∧ PathIs es xs f a l)) ∧ Below w.heap.size w w'
section
variable {w w' : World} {es : List (Int × Int)} {vs xs : List Int} {a b : Int} {f : Int → Option Int} {ms : List Int}
theorem pathYes_none (h : RI es xs (-1) b vs f ms ms.length) (hf : f a = none) (hb : Below w.heap.size w w') : PathYes w es vs xs a b (.returned (.tuple #[.slice none 0 0, .bool false])) w' := ⟨⟨f, ms, h, .inl ⟨hf, rfl⟩⟩, hb⟩
theorem pathYes_some (h : RI es xs (-1) b vs f ms ms.length) {A : Option Addr} {n c : Nat} {l : List Int} (hi : IS w' w'.heap.size A n c l) (hl : PathIs es xs f a l) (hb : Below w.heap.size w w') : PathYes w es vs xs a b (.returned (.tuple #[.slice A n c, .bool true])) w' :=
  ⟨⟨f, ms, h, .inr ⟨A, n, c, l, rfl, hi, hl⟩⟩, hb⟩
end
theorem IS.cellAt {w : World} {B n c : Nat} {A : Option Addr} {xs : List Int} (h : IS w B A n c xs) {i : Nat} {d : Int} (hi : i < xs.length) (hd : xs.getD i 0 = d) : ∃ b o, A = some ⟨b, o, none⟩ ∧ b < B ∧ w.cell? ⟨b, o + i, none⟩ = some (.int .i64 d) ∧ (i : Int) < (n : Int) ∧ n ≤ c ∧ c ≤ 9223372036854775807 := by
  obtain ⟨b, o, z, e, hb, hz, _, hc⟩ := h.get (k := i) (by have := h.len; omega)
  have : z = d := hz.out.symm.trans hd
  subst this
  exact ⟨b, o, e, hb, hc, by have := h.len; omega, h.le, h.cap⟩
/-- The loop along the way. -/
structure PInv (es : List (Int × Int)) (xs vs : List Int) (f : Int → Option Int) (a : Int) (n0 : Nat) (w5 wr : World) (v : Int) (n : Nat) (pre : List Int) (out : Value) : Prop where
  own : Own w5 wr out pre
  ne : out.ownBlock ≠ some w5.heap.size
  cell : wr.heap[w5.heap.size]? = some (.cells #[.int .i64 (n : Int)] 3 (0, 0))
  far : f v = some (n : Int)
  mem : v ∈ vs
  way : ∀ l, PathIs es xs f v l → PathIs es xs f a (pre ++ l)
  len : pre.length + n = n0
theorem PInv.later {es : List (Int × Int)} {xs vs : List Int} {f : Int → Option Int} {a : Int} {n0 : Nat} {w5 wr w' : World} {v : Int} {n : Nat} {pre : List Int} {out : Value} (h : PInv es xs vs f a n0 w5 wr v n pre out) (hb : Below wr.heap.size wr w') : PInv es xs vs f a n0 w5 w' v n pre out :=
  ⟨h.own.later hb, h.ne, (hb.block _ (Array.getElem?_eq_some_iff.1 h.cell).1).trans h.cell, h.far, h.mem, h.way, h.len⟩
theorem PInv.mid {es : List (Int × Int)} {xs vs : List Int} {f : Int → Option Int} {a : Int} {n0 : Nat} {w5 wr w' : World} {v z : Int} {n : Nat} {pre : List Int} {out v' : Value} (h : PInv es xs vs f a n0 w5 wr v (n + 1) pre out) (_ho : Own w5 w' v' (pre ++ [z])) (hg : (wr.alloc (.cells #[.int .i64 z] 3)).grownBy w' out.ownBlock)
    (hb : v'.ownBlock = out.ownBlock ∨ v'.ownBlock = some (wr.heap.size + 1)) : v'.ownBlock ≠ some w5.heap.size ∧ w'.heap[w5.heap.size]? = some (.cells #[.int .i64 ((n : Int) + 1)] 3 (0, 0)) := by
  have hlt := (Array.getElem?_eq_some_iff.1 h.cell).1
  have hs : (wr.alloc (.cells #[.int .i64 z] 3)).heap.size = wr.heap.size + 1 := by simp
  refine ⟨?_, ((hg.block _ (by omega) (fun e => h.ne e.symm)).trans (Below.heap_alloc _ _ _ hlt)).trans h.cell⟩
  rcases hb with e | e
  · rw [e]; exact h.ne
  · rw [e]; intro e'; injection e' with e'; omega
theorem PInv.step {N : Int} {es : List (Int × Int)} {xs vs : List Int} {f : Int → Option Int} {a b : Int} {n0 : Nat} {w5 w7 w10 wr : World} {v d u : Int} {n i : Nat} {pre : List Int} {out out' : Value} (h : PInv es xs vs f a n0 w5 w7 v (n + 1) pre out) (hp : POK N es vs xs) (hD : Dist es xs (-1) b f)
    (ho : Own w5 w10 out' (pre ++ [d])) (hne : out'.ownBlock ≠ some w5.heap.size) (hc : w10.heap[w5.heap.size]? = some (.cells #[.int .i64 ((n : Int) + 1)] 3 (0, 0))) (hx : Ext w10 wr)
    (hi : i < (dartsOf es v xs).length) (hd : (dartsOf es v xs).getD i 0 = d) (hn : val f (head es d) = n) (hno : ∀ j, j < i → val f (head es ((dartsOf es v xs).getD j 0)) ≠ n) (hdx : d / 2 ∈ xs) (hu : head es d = u) :
    PInv es xs vs f a n0 w5 (wr.setCell ⟨w5.heap.size, 0, none⟩ (.int .i64 (n : Int))) u n (pre ++ [d]) out' := by
  have hcw := (hx.block _ (Array.getElem?_eq_some_iff.1 hc).1).trans hc
  have hv : f v = some ((n : Int) + 1) := h.far
  have hm : d ∈ dartsOf es v xs := by rw [← hd, getD_idx hi]; exact List.getElem_mem hi
  have hfd := (val_eq (hD.met hp hv hm)).1 hn
  refine ⟨?_, hne, by simp [World.setCell, Array.getElem?_modify, hcw], by rw [← hu]; exact hfd, by rw [← hu]; exact (head_in hp hdx).1, fun l hl => ?_, ?_⟩
  · have hg : wr.grownBy (wr.setCell ⟨w5.heap.size, 0, none⟩ (.int .i64 (n : Int))) (some w5.heap.size) := ⟨rfl, rfl, rfl, by simp [World.setCell], fun i _ hi => Below.heap_setCell _ _ _ _ (fun e => hi (by rw [e]))⟩
    exact (ho.later hx).kept hg (fun k hk => by cases hk; exact Nat.le_refl _) (.inr hne)
  · rw [List.append_assoc]
    rw [← hu] at hl
    exact h.way _ (PathIs.cons hp hD hv hi hd hn hno hl).1
  · rw [List.length_append, List.length_singleton]
    have := h.len
    omega
end Go.Proofs.Ythobfbnopkbniaa
