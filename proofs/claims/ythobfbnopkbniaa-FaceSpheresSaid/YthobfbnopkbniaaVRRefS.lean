/-
  The contracts of the references of layer 6: Step, Next, Right; no conditions on the program.
-/
import Derived.Test.YthobfbnopkbniaaVRRef
import Derived.Test.YthobfbnopkbniaaFaceD
import Derived.Test.YthobfbnopkbniaaVGDarts
namespace Go.Proofs.Ythobfbnopkbniaa
open Go.RowKit

theorem stepIn_rot_on {a b : List Int} (hn : (a ++ b).Nodup) {x : Int} (hx : x ∈ a ++ b) : stepIn (b ++ a) x 1 = stepIn (a ++ b) x 1 := by
  have h1 := stepIn_rev hn hx
  have hx' : x ∈ b ++ a := List.perm_append_comm.mem_iff.1 hx
  have hn' : (b ++ a).Nodup := List.perm_append_comm.nodup_iff.1 hn
  have h2 := stepIn_rev hn' hx'
  rw [← h1, ← h2, List.reverse_append, List.reverse_append]
  refine (stepIn_rot ?_ ?_).symm
  · rw [← List.reverse_append]; exact nodup_rev.2 hn'
  · rw [← List.reverse_append]; exact List.mem_reverse.2 hx'
theorem stepIn_first_on {xs : List Int} (hn : xs.Nodup) {x : Int} (hx : x ∈ xs) : stepIn (first xs) x 1 = stepIn xs x 1 := by
  obtain ⟨a, b, h1, h2⟩ := first_as xs
  rw [h2]
  rw [h1] at hn hx ⊢
  exact stepIn_rot_on hn hx
theorem fnd_pos {t : List Int} {d : Int} (h : d ∈ t) : fnd t d = (pos t d : Nat) := by
  rcases fnd_cases t d with ⟨_, h2⟩ | ⟨k, h1, _⟩
  · exact absurd h h2
  · unfold pos
    rw [h1, Int.toNat_natCast]

section
variable {N : Int} {es : List (Int × Int)} {vs xs : List Int} {tt : List (List Int)} {d : Int}
/-- The step in the turn as it was handed in. -/
theorem step_raw (hp : POK N es vs xs) (hT : TurnOK N es xs tt) (hd : d / 2 ∈ xs) (s : Int) (hs : s = 1 ∨ s = -1) :
    ∃ u : Nat, tail es d = u ∧ u < tt.length ∧ d ∈ tt.getD u [] ∧ (tt.getD u []).Nodup ∧ (tt.getD u []).length ≤ 2 * xs.length ∧ stepIn (tt.getD u []) d s = stepOf es tt d s := by
  obtain ⟨u, hu, hlt, ht, hm, hn, _, _⟩ := dart_facts hp hT hd
  have hm' : d ∈ tt.getD u [] := mem_first.1 (ht ▸ hm)
  have hn' := (hT.2 u hlt).1
  refine ⟨u, hu, hlt, hm', hn', hT.size hlt, ?_⟩
  rw [stepOf_in, ht]
  rcases hs with rfl | rfl
  · exact (stepIn_first_on hn' hm').symm
  · exact (stepIn_first hn' hm').symm
theorem xs_small (hp : POK N es vs xs) : xs.length ≤ 1024 := by
  have := nodup_len (a := xs) (b := upto1 es.length) (sorted_nodup hp.xp) fun x hx => mem_upto1.2 (hp.xr x hx)
  rw [upto1_len] at this
  have := hp.size
  have := hp.n0
  omega
end

set_option maxHeartbeats 4000000 in
set_option maxRecDepth 100000 in
theorem step6_any (w : World) (N : Int) (A : Option Addr) (m c : Nat) (es : List (Int × Int)) (vs xs : List Int) (At : Option Addr) (nt ct : Nat) (tt : List (List Int)) (hg : ES w w.heap.size A m c es) (ht : TS w w.heap.size At nt ct tt) (hp : POK N es vs xs) (hT : TurnOK N es xs tt) (d : Int) (hd : d / 2 ∈ xs) (s : Int) (hs : s = 1 ∨ s = -1) :
    Calls Try.prog 39 #[.agg #[.int .i64 N, .slice A m c], .slice At nt ct, .int .i64 d, .int .i64 s] w fun e w' => e = .returned (.int .i64 (stepOf es tt d s)) ∧ Below w.heap.size w w' := by
  obtain ⟨u, hu, hlt, hm, hnd, hsz, hst⟩ := step_raw hp hT hd s hs
  obtain ⟨d0, d1⟩ := dart_i64 hp hd
  have hdr := hp.xr _ hd
  have hd2 : d < 2 * m := by have := hg.len; omega
  have hxs := xs_small hp
  have hs1 : -1 ≤ s ∧ s ≤ 1 := by omega
  obtain ⟨w1, hw1, b1, hs1w, hcell⟩ := box_one w #[.int .i64 N, .slice A m c] 24
  have c0 := hcell 0
  have c1 := hcell 1
  have hg1 := hg.step b1
  have ht1 := ht.step b1
  have hnt := ht.le
  have hct := ht.cap
  have hun : u < nt := by rw [← ht.len]; exact hlt
  obtain ⟨p, hpp⟩ : ∃ p, pos (tt.getD u []) d = p := ⟨_, rfl⟩
  have hpl := (pos_mem hm).1
  have hfn := fnd_pos hm
  rw [hpp] at hpl hfn
  have HST := Lib.hid hst
  have HU := Lib.hid hu
  clear hg ht hp hT hd hcell hdr hnd hst hs hu
  go_enter Try.func39, Try.ntmps39
  go_wp2_with fail
  refine (refTail_any w1 w1.heap.size N A m c es d hg1 (Nat.le_refl _) d0 hd2).mono ?_
  rintro e w2 ⟨rfl, b2⟩
  rw [HU.out]
  have ht2 := ht1.step b2
  have b12 := bstep b1 b2
  obtain ⟨b, o, t, A3, n3, c3, hA, hb, htk, hc3, ist⟩ := ht2.get hun
  subst hA
  obtain rfl : tt.getD u [] = t := htk.out
  have hlen := ist.len
  have hl3 := ist.le
  have hc3' := ist.cap
  have u0 : (0 : Int) ≤ (u : Int) := by omega
  have u1 : (u : Int) < (nt : Int) := by omega
  have p1 : p < n3 := by omega
  obtain ⟨q, hq⟩ : ∃ q : Nat, (p : Int) + s + (n3 : Int) = (q : Int) := ⟨((p : Int) + s + (n3 : Int)).toNat, by omega⟩
  have hqq : Hid (rot n3 p s = q % n3) := Lib.hid (by unfold rot; rw [hq, Int.toNat_natCast])
  have hmm : q % n3 < n3 := Nat.mod_lt _ (by omega)
  obtain ⟨b3, o3, z, hA3, hb3, hz, hz64, hcz⟩ := ist.get hmm
  subst hA3
  have IST := Lib.hid ist
  have HFN := Lib.hid hfn
  have HZ : Hid (stepOf es tt d s = z) := Lib.hid (by
    rw [← HST.out]
    unfold stepIn
    rw [hpp, hlen, hqq.out, hz.out])
  have hn3 : n3 ≤ 2048 := by omega
  clear ist hg1 ht1 ht2 hfn hw1 c0 c1 b1 b2 hpl hpp hm hlt htk hlen hsz hun
  have hm0 : (0 : Int) ≤ (q : Int) % (n3 : Int) := Int.emod_nonneg _ (by omega)
  have hm1 : (q : Int) % (n3 : Int) < n3 := Int.emod_lt_of_pos _ (by omega)
  have w9 : IntKind.i64.wrap ((p : Int) + s) = (p : Int) + s := IntWalk.i64_in _ (by omega)
  go_wp2_with fail
  refine (find2_any w2 _ _ _ _ _ d IST.out).mono ?_
  rintro e w3 ⟨rfl, rfl⟩
  rw [HFN.out]
  go_wp2
  go_ret
  rw [HZ.out]
  exact ⟨rfl, b12⟩

set_option maxHeartbeats 4000000 in
set_option maxRecDepth 100000 in
theorem next6_any (w : World) (N : Int) (A : Option Addr) (m c : Nat) (es : List (Int × Int)) (vs xs : List Int) (At : Option Addr) (nt ct : Nat) (tt : List (List Int)) (hg : ES w w.heap.size A m c es) (ht : TS w w.heap.size At nt ct tt) (hp : POK N es vs xs) (hT : TurnOK N es xs tt) (d : Int) (hd : d / 2 ∈ xs) :
    Calls Try.prog 40 #[.agg #[.int .i64 N, .slice A m c], .slice At nt ct, .int .i64 d] w fun e w' => e = .returned (.int .i64 (stepOf es tt (twin d) (-1))) ∧ Below w.heap.size w w' := by
  obtain ⟨d0, d1⟩ := dart_i64 hp hd
  have htd : twin d / 2 ∈ xs := by rw [twin_half]; exact hd
  obtain ⟨w1, hw1, b1, hs1w, hcell⟩ := box_one w #[.int .i64 N, .slice A m c] 24
  have c0 := hcell 0
  have c1 := hcell 1
  have hg1 := hg.step b1
  have ht1 := ht.step b1
  have HP := Lib.hid hp
  have HT := Lib.hid hT
  clear hg ht hcell hp hT hd
  go_enter Try.func40, Try.ntmps40
  go_wp2_with fail
  clear hw1
  refine wp_region_rel 6 [[],[],[],[2],[0,1,2,3],[0,1,2,3,4]]
    [fun v _ => v = .agg #[.int .i64 N, .slice A m c],
     fun v _ => v = .slice At nt ct,
     fun v _ => v = .int .i64 d,
     fun v _ => v = .int .i64 (twin d),
     fun v _ => v = .int .i64 (stepOf es tt (twin d) (-1)),
     fun v _ => v = .int .i64 (stepOf es tt (twin d) (-1))]
    (by kernel_rfl) (by kernel_rfl) rfl ⟨?_, ?_, ?_, ?_, ?_, ?_, trivial⟩ ?_
  · intro wr hx v0 h0 v1 h1 v2 h2 v3 h3 v4 h4 v5 h5 K hK
    have q0 := (hx.cell (p := ⟨w.heap.size, 0, none⟩) hs1w).trans c0
    have q1 := (hx.cell (p := ⟨w.heap.size, 1, none⟩) hs1w).trans c1
    simp only [Act.put, List.setIfInBounds_toArray, List.set_cons_zero, List.set_cons_succ] at hK ⊢
    clear h0 h1 h2 h3 h4 h5
    go_wp2
    exact hK _ _ (Ext.refl _) (fun _ _ => rfl)
  · intro wr hx v0 h0 v1 h1 v2 h2 v3 h3 v4 h4 v5 h5 K hK
    have q0 := (hx.cell (p := ⟨w.heap.size, 0, none⟩) hs1w).trans c0
    have q1 := (hx.cell (p := ⟨w.heap.size, 1, none⟩) hs1w).trans c1
    simp only [Act.put, List.setIfInBounds_toArray, List.set_cons_zero, List.set_cons_succ] at hK ⊢
    clear h0 h1 h2 h3 h4 h5
    go_wp2
    exact hK _ _ (Ext.refl _) (fun _ _ => rfl)
  · intro wr hx v0 h0 v1 h1 v2 h2 v3 h3 v4 h4 v5 h5 K hK
    have q0 := (hx.cell (p := ⟨w.heap.size, 0, none⟩) hs1w).trans c0
    have q1 := (hx.cell (p := ⟨w.heap.size, 1, none⟩) hs1w).trans c1
    simp only [Act.put, List.setIfInBounds_toArray, List.set_cons_zero, List.set_cons_succ] at hK ⊢
    clear h0 h1 h2 h3 h4 h5
    go_wp2
    exact hK _ _ (Ext.refl _) (fun _ _ => rfl)
  · intro wr hx v0 h0 v1 h1 v2 h2 v3 h3 v4 h4 v5 h5 K hK
    have q0 := (hx.cell (p := ⟨w.heap.size, 0, none⟩) hs1w).trans c0
    have q1 := (hx.cell (p := ⟨w.heap.size, 1, none⟩) hs1w).trans c1
    simp only [Act.put, List.setIfInBounds_toArray, List.set_cons_zero, List.set_cons_succ] at hK ⊢
    obtain rfl := (h2 (by decide)).now
    clear h0 h1 h2 h3 h4 h5
    go_wp2_with fail
    refine (twin_any wr d d0 (by omega)).mono ?_
    rintro e w9 ⟨rfl, rfl⟩
    go_wp2
    exact hK _ _ (Ext.refl _) (fun _ _ => rfl)
  · intro wr hx v0 h0 v1 h1 v2 h2 v3 h3 v4 h4 v5 h5 K hK
    have q0 := (hx.cell (p := ⟨w.heap.size, 0, none⟩) hs1w).trans c0
    have q1 := (hx.cell (p := ⟨w.heap.size, 1, none⟩) hs1w).trans c1
    simp only [Act.put, List.setIfInBounds_toArray, List.set_cons_zero, List.set_cons_succ] at hK ⊢
    obtain rfl := (h0 (by decide)).now
    obtain rfl := (h1 (by decide)).now
    obtain rfl := (h3 (by decide)).now
    clear h0 h1 h2 h3 h4 h5
    go_wp2_with fail
    refine (step6_any _ N A m c es vs xs At nt ct tt (hg1.step hx) (ht1.step hx) HP.out HT.out _ htd (-1) (.inr rfl)).mono ?_
    rintro e w9 ⟨rfl, b9⟩
    go_wp2
    exact hK _ _ b9 (fun _ _ => rfl)
  · intro wr hx v0 h0 v1 h1 v2 h2 v3 h3 v4 h4 v5 h5 K hK
    have q0 := (hx.cell (p := ⟨w.heap.size, 0, none⟩) hs1w).trans c0
    have q1 := (hx.cell (p := ⟨w.heap.size, 1, none⟩) hs1w).trans c1
    simp only [Act.put, List.setIfInBounds_toArray, List.set_cons_zero, List.set_cons_succ] at hK ⊢
    obtain rfl := (h4 (by decide)).now
    clear h0 h1 h2 h3 h4 h5
    go_wp2
    exact hK _ _ (Ext.refl _) (fun _ _ => rfl)
  intro wr hx v0 h0 v1 h1 v2 h2 v3 h3 v4 h4 v5 h5
  have q0 := (hx.cell (p := ⟨w.heap.size, 0, none⟩) hs1w).trans c0
  have q1 := (hx.cell (p := ⟨w.heap.size, 1, none⟩) hs1w).trans c1
  obtain rfl := h5.now
  clear h0 h1 h2 h3 h4 h5
  refine tail_none (by kernel_rfl) ?_
  simp only [Act.put, List.setIfInBounds_toArray, List.set_cons_zero, List.set_cons_succ]
  go_wp2
  go_ret
  exact ⟨rfl, bstep b1 hx⟩

/-- What Right asks of a vertex. -/
def VOK (es : List (Int × Int)) (xs : List Int) (tt : List (List Int)) (v : Nat) : Prop :=
  (dartsOf es v xs).length = (tt.getD v []).length ∧ (tt.getD v []).Nodup ∧ ∀ d ∈ dartsOf es v xs, d ∈ tt.getD v []
theorem dartsOf_sub (es : List (Int × Int)) (v : Int) : ∀ xs : List Int, (dartsOf es v xs).Sublist (allDarts xs)
  | [] => List.Sublist.refl _
  | x :: xs => by
    unfold dartsOf allDarts
    have ih := dartsOf_sub es v xs
    split <;> split
    · exact (ih.cons_cons _).cons_cons _
    · exact (ih.cons _).cons_cons _
    · exact (ih.cons_cons _).cons _
    · exact (ih.cons _).cons _
theorem turnOK_iff {N : Int} {es : List (Int × Int)} {vs xs : List Int} {tt : List (List Int)} (hp : POK N es vs xs) : TurnOK N es xs tt ↔ (tt.length : Int) = N ∧ ∀ v, v < tt.length → VOK es xs tt v := by
  have hdn : ∀ v, (dartsOf es v xs).Nodup := fun v => (sorted_nodup (allDarts_sorted hp.xp)).sublist (dartsOf_sub es v xs)
  constructor
  · rintro ⟨h1, h2⟩
    refine ⟨h1, fun v hv => ⟨?_, (h2 v hv).1, fun d hd => ((h2 v hv).2 d).2 hd⟩⟩
    exact Nat.le_antisymm (nodup_len (hdn v) fun x hx => ((h2 v hv).2 x).2 hx) (nodup_len (h2 v hv).1 fun x hx => ((h2 v hv).2 x).1 hx)
  · rintro ⟨h1, h2⟩
    refine ⟨h1, fun v hv => ⟨(h2 v hv).2.1, fun d => ⟨fun hd => ?_, (h2 v hv).2.2 d⟩⟩⟩
    exact nodup_full (hdn v) (h2 v hv).2.2 (Nat.le_of_eq (h2 v hv).1.symm) d hd

/-- What ref06.Right answers. -/
def Right6 (N : Int) (es : List (Int × Int)) (vs xs : List Int) (tt : List (List Int)) (q : Int) : Prop :=
  (pRight N es vs xs ≠ 0 ∧ q = pRight N es vs xs) ∨ (pRight N es vs xs = 0 ∧ TurnOK N es xs tt ∧ q = 0) ∨ (pRight N es vs xs = 0 ∧ ¬ TurnOK N es xs tt ∧ q = 5)

set_option maxHeartbeats 8000000 in
set_option maxRecDepth 100000 in
theorem right6_any (w : World) (N : Int) (A : Option Addr) (m c : Nat) (es : List (Int × Int)) (Av : Option Addr) (nv cv : Nat) (vs : List Int) (Ae : Option Addr) (ne ce : Nat) (xs : List Int) (At : Option Addr) (nt ct : Nat) (tt : List (List Int)) (h : GP w N A m c es Av nv cv vs Ae ne ce xs) (ht : TS w w.heap.size At nt ct tt) (hm60 : m ≤ 60) (hne60 : ne ≤ 60) :
    Calls Try.prog 37 #[.agg #[.int .i64 N, .slice A m c], .agg #[.slice Av nv cv, .slice Ae ne ce], .slice At nt ct] w fun e w' => (∃ q, e = .returned (.int .i64 q) ∧ Right6 N es vs xs tt q) ∧ Below w.heap.size w w' := by
  have hnt := ht.le
  have hct := ht.cap
  have HL := Lib.hid ht.len
  obtain ⟨w1, hw1, b1, gb1⟩ := box_gp w N A m c es Av nv cv Ae ne ce
  have h1 := h.step b1
  have t1 := ht.step b1
  have ⟨_, _, c0, c1, c2, c3, _⟩ := gb1
  clear h ht
  obtain ⟨r, hr⟩ : ∃ r, pRight N es vs xs = r := ⟨_, rfl⟩
  have HR := Lib.hid hr
  by_cases hr0 : r = 0
  · subst hr0
    have hpk := Lib.hid (pRight_ok hr)
    clear hr
    by_cases hN : (nt : Int) = N
    · have d : (((nt : Int) != N) = false) := by simp [hN]
      have HN := Lib.hid hN
      have hn1024 : nt ≤ 1024 := by have := hpk.out.size; omega
      clear hN
      go_enter Try.func37, Try.ntmps37
      go_wp2_with fail
      refine (refRightPart_any w1 N A m c es Av nv cv vs Ae ne ce xs h1).mono ?_
      rintro e w2 ⟨rfl, b2⟩
      rw [HR.out]
      have gb2 := gb1.step b2
      have h2 := h1.step b2
      have t2 := t1.step b2
      replace b1 := bstep b1 b2
      clear hw1 h1 t1 c0 c1 c2 c3 gb1 b2
      have ⟨_, _, c0, c1, c2, c3, _⟩ := gb2
      go_wp2
      clear c0 c1 c2 c3 d
      go_loopw [8] (fun i wr => ∃ k : Nat, k ≤ nt ∧ i = .int .i64 k ∧ (∀ u, u < k → VOK es xs tt u) ∧ Ext w2 wr) (fun i _ => nt - (intOf i).toNat)
      case atStart => exact ⟨0, Nat.zero_le _, rfl, fun u hu => absurd hu (by omega), Ext.refl _⟩
      case round =>
        obtain ⟨k, hk, rfl, hall, hx⟩ := hrel
        have HA := Lib.hid hall
        clear hall
        have gb3 := gb2.step hx
        have h3 := h2.step hx
        have t3 := t2.step hx
        have ⟨_, _, c0, c1, c2, c3, _⟩ := gb3
        by_cases hlt : k < nt
        · have hkN : ((k : Int) < N) := by rw [← HN.out]; omega
          have hxr : ∀ x ∈ xs, 0 ≤ x ∧ x < m := fun x hx' => by have := hpk.out.xr x hx'; have := h3.g.len; omega
          have HXR := Lib.hid hxr
          clear hxr
          go_wp2_with fail
          refine (refDarts_any wr N A m c es Av nv cv vs Ae ne ce xs (k : Int) h3 (by omega) (by omega) HXR.out).mono ?_
          rintro e w4 ⟨A4, n4, c4, rfl, is4, b4⟩
          have t4 := t3.step b4
          have hx4 := hx.trans b4
          obtain ⟨b, o, t, A3, n3, c3', hA, hb, htk, hc3, ist⟩ := t4.get hlt
          subst hA
          obtain rfl : tt.getD k [] = t := htk.out
          have hl4 := is4.len
          have hl3 := ist.len
          have k0 : (0 : Int) ≤ (k : Int) := by omega
          have k1 : (k : Int) < (nt : Int) := by omega
          clear h3 t3 gb3 c0 c1 c2 c3 b4 t4 htk
          have IS4 := Lib.hid is4
          have IST := Lib.hid ist
          have hb4 : b < w4.heap.size := hb
          have hno : ∀ v, v = k → ¬ VOK es xs tt v → Hid (Right6 N es vs xs tt 5) := fun v hv hn => Lib.hid (.inr (.inr ⟨HR.out, fun hT => hn (((turnOK_iff hpk.out).1 hT).2 v (by rw [HL.out]; omega)), rfl⟩))
          by_cases hlen : n4 = n3
          · subst hlen
            have e1 : (((n4 : Int) != (n4 : Int)) = false) := by simp
            by_cases hnd : (tt.getD k []).Nodup
            · have HND := Lib.hid hnd
              clear is4 ist
              go_wp2_with fail
              refine (right2_any w4 _ _ _ _ _ IST.out).mono ?_
              rintro e w5 ⟨rfl, rfl⟩
              rw [decide_eq_true HND.out]
              clear e1 hnd
              go_wp2
              go_loopw [10] (fun i wr => ∃ j : Nat, j ≤ n4 ∧ i = .int .i64 j ∧ (∀ q, q < j → (dartsOf es k xs).getD q 0 ∈ tt.getD k []) ∧ Ext w4 wr) (fun i _ => n4 - (intOf i).toNat)
              case atStart => exact ⟨0, Nat.zero_le _, rfl, fun q hq => absurd hq (by omega), Ext.refl _⟩
              case round =>
                obtain ⟨j, hj, rfl, hin, hxj⟩ := hrel
                have HI := Lib.hid hin
                clear hin
                have isj := IS4.out.step hxj
                have istj := IST.out.step hxj
                have hcj := (hxj.cell (p := ⟨b, o + k, none⟩) hb4).trans hc3
                have hbj : b < wr.heap.size := by have := hxj.size; omega
                by_cases hjl : j < n4
                · obtain ⟨b5, o5, z, hA5, hb5, hz, hz64, hcz⟩ := isj.get hjl
                  subst hA5
                  have hc4 := isj.le
                  have hcc4 := isj.cap
                  have ISTJ := Lib.hid istj
                  clear isj istj
                  have j0 : (0 : Int) ≤ (j : Int) := by omega
                  have j1 : (j : Int) < (n4 : Int) := by omega
                  obtain ⟨bb, hbb⟩ : ∃ bb, decide (z ∈ tt.getD k []) = bb := ⟨_, rfl⟩
                  have HB := Lib.hid hbb
                  clear hbb
                  go_wp2_with fail
                  refine wp_region_rel 10 [[],[],[0,1],[0,1,2],[],[],[4,5],[4,5,6],[0,1,2,3,4,5,6,7],[0,1,2,3,4,5,6,7,8]]
                    [fun v _ => v = .slice (some ⟨b, o, none⟩) nt ct,
                     fun v _ => v = .int .i64 k,
                     fun v _ => v = .pointer (some ⟨b, o + k, none⟩),
                     fun v _ => v = .slice A3 n4 c3',
                     fun v _ => v = .slice (some ⟨b5, o5, none⟩) n4 c4,
                     fun v _ => v = .int .i64 j,
                     fun v _ => v = .pointer (some ⟨b5, o5 + j, none⟩),
                     fun v _ => v = .int .i64 z,
                     fun v _ => v = .bool bb,
                     fun v _ => v = .bool (!bb)]
                    (by kernel_rfl) (by kernel_rfl) rfl ⟨?_, ?_, ?_, ?_, ?_, ?_, ?_, ?_, ?_, ?_, trivial⟩ ?_
                  · intro wr hx v0 h0 v1 h1 v2 h2 v3 h3 v4 h4 v5 h5 v6 h6 v7 h7 v8 h8 v9 h9 K hK
                    have p1 := (hx.cell (p := ⟨b, o + k, none⟩) hbj).trans hcj
                    have p2 := (hx.cell (p := ⟨b5, o5 + j, none⟩) hb5).trans hcz
                    simp only [Act.put, List.setIfInBounds_toArray, List.set_cons_zero, List.set_cons_succ] at hK ⊢
                    clear h0 h1 h2 h3 h4 h5 h6 h7 h8 h9
                    go_wp2
                    exact hK _ _ (Ext.refl _) (fun _ _ => rfl)
                  · intro wr hx v0 h0 v1 h1 v2 h2 v3 h3 v4 h4 v5 h5 v6 h6 v7 h7 v8 h8 v9 h9 K hK
                    have p1 := (hx.cell (p := ⟨b, o + k, none⟩) hbj).trans hcj
                    have p2 := (hx.cell (p := ⟨b5, o5 + j, none⟩) hb5).trans hcz
                    simp only [Act.put, List.setIfInBounds_toArray, List.set_cons_zero, List.set_cons_succ] at hK ⊢
                    clear h0 h1 h2 h3 h4 h5 h6 h7 h8 h9
                    go_wp2
                    exact hK _ _ (Ext.refl _) (fun _ _ => rfl)
                  · intro wr hx v0 h0 v1 h1 v2 h2 v3 h3 v4 h4 v5 h5 v6 h6 v7 h7 v8 h8 v9 h9 K hK
                    have p1 := (hx.cell (p := ⟨b, o + k, none⟩) hbj).trans hcj
                    have p2 := (hx.cell (p := ⟨b5, o5 + j, none⟩) hb5).trans hcz
                    simp only [Act.put, List.setIfInBounds_toArray, List.set_cons_zero, List.set_cons_succ] at hK ⊢
                    obtain rfl := (h0 (by decide)).now
                    obtain rfl := (h1 (by decide)).now
                    clear h0 h1 h2 h3 h4 h5 h6 h7 h8 h9
                    go_wp2
                    exact hK _ _ (Ext.refl _) (fun _ _ => rfl)
                  · intro wr hx v0 h0 v1 h1 v2 h2 v3 h3 v4 h4 v5 h5 v6 h6 v7 h7 v8 h8 v9 h9 K hK
                    have p1 := (hx.cell (p := ⟨b, o + k, none⟩) hbj).trans hcj
                    have p2 := (hx.cell (p := ⟨b5, o5 + j, none⟩) hb5).trans hcz
                    simp only [Act.put, List.setIfInBounds_toArray, List.set_cons_zero, List.set_cons_succ] at hK ⊢
                    obtain rfl := (h2 (by decide)).now
                    clear h0 h1 h2 h3 h4 h5 h6 h7 h8 h9
                    go_wp2
                    exact hK _ _ (Ext.refl _) (fun _ _ => rfl)
                  · intro wr hx v0 h0 v1 h1 v2 h2 v3 h3 v4 h4 v5 h5 v6 h6 v7 h7 v8 h8 v9 h9 K hK
                    have p1 := (hx.cell (p := ⟨b, o + k, none⟩) hbj).trans hcj
                    have p2 := (hx.cell (p := ⟨b5, o5 + j, none⟩) hb5).trans hcz
                    simp only [Act.put, List.setIfInBounds_toArray, List.set_cons_zero, List.set_cons_succ] at hK ⊢
                    clear h0 h1 h2 h3 h4 h5 h6 h7 h8 h9
                    go_wp2
                    exact hK _ _ (Ext.refl _) (fun _ _ => rfl)
                  · intro wr hx v0 h0 v1 h1 v2 h2 v3 h3 v4 h4 v5 h5 v6 h6 v7 h7 v8 h8 v9 h9 K hK
                    have p1 := (hx.cell (p := ⟨b, o + k, none⟩) hbj).trans hcj
                    have p2 := (hx.cell (p := ⟨b5, o5 + j, none⟩) hb5).trans hcz
                    simp only [Act.put, List.setIfInBounds_toArray, List.set_cons_zero, List.set_cons_succ] at hK ⊢
                    clear h0 h1 h2 h3 h4 h5 h6 h7 h8 h9
                    go_wp2
                    exact hK _ _ (Ext.refl _) (fun _ _ => rfl)
                  · intro wr hx v0 h0 v1 h1 v2 h2 v3 h3 v4 h4 v5 h5 v6 h6 v7 h7 v8 h8 v9 h9 K hK
                    have p1 := (hx.cell (p := ⟨b, o + k, none⟩) hbj).trans hcj
                    have p2 := (hx.cell (p := ⟨b5, o5 + j, none⟩) hb5).trans hcz
                    simp only [Act.put, List.setIfInBounds_toArray, List.set_cons_zero, List.set_cons_succ] at hK ⊢
                    obtain rfl := (h4 (by decide)).now
                    obtain rfl := (h5 (by decide)).now
                    clear h0 h1 h2 h3 h4 h5 h6 h7 h8 h9
                    go_wp2
                    exact hK _ _ (Ext.refl _) (fun _ _ => rfl)
                  · intro wr hx v0 h0 v1 h1 v2 h2 v3 h3 v4 h4 v5 h5 v6 h6 v7 h7 v8 h8 v9 h9 K hK
                    have p1 := (hx.cell (p := ⟨b, o + k, none⟩) hbj).trans hcj
                    have p2 := (hx.cell (p := ⟨b5, o5 + j, none⟩) hb5).trans hcz
                    simp only [Act.put, List.setIfInBounds_toArray, List.set_cons_zero, List.set_cons_succ] at hK ⊢
                    obtain rfl := (h6 (by decide)).now
                    clear h0 h1 h2 h3 h4 h5 h6 h7 h8 h9
                    go_wp2
                    exact hK _ _ (Ext.refl _) (fun _ _ => rfl)
                  · intro wr hx v0 h0 v1 h1 v2 h2 v3 h3 v4 h4 v5 h5 v6 h6 v7 h7 v8 h8 v9 h9 K hK
                    have p1 := (hx.cell (p := ⟨b, o + k, none⟩) hbj).trans hcj
                    have p2 := (hx.cell (p := ⟨b5, o5 + j, none⟩) hb5).trans hcz
                    simp only [Act.put, List.setIfInBounds_toArray, List.set_cons_zero, List.set_cons_succ] at hK ⊢
                    obtain rfl := (h3 (by decide)).now
                    obtain rfl := (h7 (by decide)).now
                    clear h0 h1 h2 h3 h4 h5 h6 h7 h8 h9
                    go_wp2_with fail
                    refine (in_any _ _ _ _ _ _ z (ISTJ.out.step hx)).mono ?_
                    rintro e w9 ⟨rfl, rfl⟩
                    rw [HB.out]
                    go_wp2
                    exact hK _ _ (Ext.refl _) (fun _ _ => rfl)
                  · intro wr hx v0 h0 v1 h1 v2 h2 v3 h3 v4 h4 v5 h5 v6 h6 v7 h7 v8 h8 v9 h9 K hK
                    have p1 := (hx.cell (p := ⟨b, o + k, none⟩) hbj).trans hcj
                    have p2 := (hx.cell (p := ⟨b5, o5 + j, none⟩) hb5).trans hcz
                    simp only [Act.put, List.setIfInBounds_toArray, List.set_cons_zero, List.set_cons_succ] at hK ⊢
                    obtain rfl := (h8 (by decide)).now
                    clear h0 h1 h2 h3 h4 h5 h6 h7 h8 h9
                    go_wp2
                    exact hK _ _ (Ext.refl _) (fun _ _ => rfl)
                  intro wr hx v0 h0 v1 h1 v2 h2 v3 h3 v4 h4 v5 h5 v6 h6 v7 h7 v8 h8 v9 h9
                  have p1 := (hx.cell (p := ⟨b, o + k, none⟩) hbj).trans hcj
                  have p2 := (hx.cell (p := ⟨b5, o5 + j, none⟩) hb5).trans hcz
                  obtain rfl := h9.now
                  clear h0 h1 h2 h3 h4 h5 h6 h7 h8 h9
                  refine tail_none (by kernel_rfl) ?_
                  simp only [Act.put, List.setIfInBounds_toArray, List.set_cons_zero, List.set_cons_succ]
                  have hx6 := hxj.trans hx
                  cases bb with
                  | true =>
                    go_wp2
                    go_roundw
                    case rel =>
                      refine ⟨j + 1, by omega, by go_num, fun q hq => ?_, hx6⟩
                      rcases Nat.lt_or_ge q j with hqj | hqj
                      · exact HI.out q hqj
                      · obtain rfl : q = j := by omega
                        rw [hz.out]
                        exact of_decide_eq_true HB.out
                    case measure => simp [intOf]; omega
                  | false =>
                    have hbad := hno k rfl fun hv => of_decide_eq_false HB.out (hv.2.2 z (by rw [← hz.out, getD_idx (by omega)]; exact List.getElem_mem _))
                    go_wp2
                    go_ret
                    exact ⟨⟨5, rfl, hbad.out⟩, bstep b1 (hx4.trans hx6)⟩
                · obtain rfl : j = n4 := by omega
                  have hv : Hid (VOK es xs tt k) := Lib.hid ⟨by omega, HND.out, fun d hd => by
                    obtain ⟨q, hq, rfl⟩ := List.getElem_of_mem hd
                    rw [← getD_idx hq]
                    exact HI.out q (by omega)⟩
                  clear isj istj
                  go_wp2
                  go_roundw
                  case rel =>
                    refine ⟨k + 1, by omega, by go_num, fun u hu => ?_, hx4.trans hxj⟩
                    rcases Nat.lt_or_ge u k with huk | huk
                    · exact HA.out u huk
                    · obtain rfl : u = k := by omega
                      exact hv.out
                  case measure => simp [intOf]; omega
            · have HND := Lib.hid hnd
              have hbad := hno k rfl fun hv => HND.out hv.2.1
              clear is4 ist hno
              go_wp2_with fail
              refine (right2_any w4 _ _ _ _ _ IST.out).mono ?_
              rintro e w5 ⟨rfl, rfl⟩
              rw [decide_eq_false HND.out]
              clear e1 hnd
              go_wp2
              go_ret
              exact ⟨⟨5, rfl, hbad.out⟩, bstep b1 hx4⟩
          · have e1 : (((n4 : Int) != (n3 : Int)) = true) := by simp; omega
            have hbad := hno k rfl fun hv => hlen (by rw [← hl4, ← hl3]; exact hv.1)
            clear is4 ist hno hlen
            go_wp2
            go_ret
            exact ⟨⟨5, rfl, hbad.out⟩, bstep b1 hx4⟩
        · obtain rfl : k = nt := by omega
          have hkN : (k : Int) = N := HN.out
          have hok : Hid (Right6 N es vs xs tt 0) := Lib.hid (.inr (.inl ⟨HR.out, (turnOK_iff hpk.out).2 ⟨by rw [HL.out]; exact HN.out, fun v hv => HA.out v (by rw [HL.out] at hv; exact hv)⟩, rfl⟩))
          clear h3 t3 gb3
          go_wp2
          go_ret
          exact ⟨⟨0, rfl, hok.out⟩, bstep b1 hx⟩
    · have d : (((nt : Int) != N) = true) := by simp [hN]
      have hbad : Hid (Right6 N es vs xs tt 5) := Lib.hid (.inr (.inr ⟨HR.out, fun hT => hN (by have := hT.1; rw [HL.out] at this; exact this), rfl⟩))
      clear hN
      go_enter Try.func37, Try.ntmps37
      go_wp2_with fail
      refine (refRightPart_any w1 N A m c es Av nv cv vs Ae ne ce xs h1).mono ?_
      rintro e w2 ⟨rfl, b2⟩
      rw [HR.out]
      have gb2 := gb1.step b2
      replace b1 := bstep b1 b2
      clear hw1 h1 t1 c0 c1 c2 c3 gb1 b2
      have ⟨_, _, c0, c1, c2, c3, _⟩ := gb2
      go_wp2
      go_ret
      exact ⟨⟨5, rfl, hbad.out⟩, b1⟩
  · have hrb : (r != 0) = true := by simp [hr0]
    have hbad : Hid (Right6 N es vs xs tt r) := Lib.hid (.inl ⟨by rw [HR.out]; exact hr0, HR.out.symm⟩)
    clear hr0 hr
    go_enter Try.func37, Try.ntmps37
    go_wp2_with fail
    refine (refRightPart_any w1 N A m c es Av nv cv vs Ae ne ce xs h1).mono ?_
    rintro e w2 ⟨rfl, b2⟩
    rw [HR.out]
    go_wp2
    go_ret
    exact ⟨⟨r, rfl, hbad.out⟩, bstep b1 b2⟩
end Go.Proofs.Ythobfbnopkbniaa
