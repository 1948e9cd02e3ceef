/-
  The contract of ref05.Spread from one vertex, without none: what hangs together with it. No conditions on the program.
-/
import Derived.Test.YthobfbnopkbniaaVFSpreadP
import Derived.Test.YthobfbnopkbniaaVWRef
import Derived.Test.YthobfbnopkbniaaFaceD
namespace Go.Proofs.Ythobfbnopkbniaa
open Go.RowKit

/-- An edge, by value, in a block of its own. -/
def EdgeAt (w : World) (eb : Nat) (x y : Int) : Prop := w.heap[eb]? = some (.cells #[.int .i64 x, .int .i64 y] 86 (0, 0))
section
variable {w0 w w' : World} {eb : Nat} {x y : Int} {v : Value} {M : List Int}
theorem EdgeAt.lt (h : EdgeAt w eb x y) : eb < w.heap.size := (Array.getElem?_eq_some_iff.1 h).1
theorem EdgeAt.c0 (h : EdgeAt w eb x y) : w.cell? ⟨eb, 0, none⟩ = some (.int .i64 x) := cell_of_row w eb 0 _ _ _ h
theorem EdgeAt.c1 (h : EdgeAt w eb x y) : w.cell? ⟨eb, 1, none⟩ = some (.int .i64 y) := cell_of_row w eb 1 _ _ _ h
theorem EdgeAt.later (h : EdgeAt w eb x y) (hb : Below w.heap.size w w') : EdgeAt w' eb x y := (hb.block eb h.lt).trans h
theorem EdgeAt.ne_own (h : EdgeAt w eb x y) (ho : Own w0 w v M) : v.ownBlock ≠ some eb := fun e => by
  obtain ⟨cur, hc, _⟩ := ho.ownsInt e
  rw [h] at hc
  injection hc with hc
  injection hc with _ ht
  revert ht
  decide
theorem EdgeAt.pushed {o : Obj} (h : EdgeAt w eb x y) (ho : Own w0 w v M) (hg : (w.alloc o).grownBy w' v.ownBlock) : EdgeAt w' eb x y :=
  ((hg.block eb (by have := h.lt; simp; omega) (fun e => h.ne_own ho e.symm)).trans (Below.heap_alloc _ _ _ h.lt)).trans h
/-- Where a row lies that is not empty. -/
theorem Own.place (h : Own w0 w v M) {i : Nat} (hi : i < M.length) : ∃ g n d, v = .slice (some ⟨g, 0, none⟩) n d ∧ n = M.length ∧ n ≤ d ∧ d ≤ 9223372036854775807 ∧ g < w.heap.size ∧ w.cell? ⟨g, i, none⟩ = some (.int .i64 (M.getD i 0)) ∧ IS w w.heap.size (some ⟨g, 0, none⟩) n d M := by
  obtain ⟨A, n, c, rfl, his⟩ := h.is
  have hl := his.len
  rcases h.row.2 with ⟨h', hx⟩ | ⟨g, cap, cur, e, _⟩
  · have : M = [] := by simpa using hx
    rw [this] at hi
    simp at hi
  · injection e with e1 e2 e3
    subst e1
    obtain ⟨b, o, z, e4, hb, hz, _, hcz⟩ := his.get (k := i) (by omega)
    injection e4 with e4
    injection e4 with e5 e6
    subst e5 e6
    rw [Nat.zero_add] at hcz
    exact ⟨g, n, c, rfl, hl.symm, his.le, his.cap, hb, by rw [hcz, hz.out], his⟩
theorem Own.placeAt {g n d : Nat} (h : Own w0 w (.slice (some ⟨g, 0, none⟩) n d) M) {i : Nat} (hi : i < M.length) : n = M.length ∧ n ≤ d ∧ d ≤ 9223372036854775807 ∧ g < w.heap.size ∧ w.cell? ⟨g, i, none⟩ = some (.int .i64 (M.getD i 0)) ∧ IS w w.heap.size (some ⟨g, 0, none⟩) n d M := by
  obtain ⟨g', n', d', e, h1⟩ := h.place hi
  injection e with e1 e2 e3
  injection e1 with e1
  injection e1 with e1
  subst e1 e2 e3
  exact h1
end


theorem edge_cells {w : World} {eb : Nat} {x y : Int} (h : EdgeAt w eb x y) : w.cell? ⟨eb, 0, none⟩ = some (.int .i64 x) ∧ w.cell? ⟨eb, 1, none⟩ = some (.int .i64 y) := ⟨h.c0, h.c1⟩

set_option maxHeartbeats 16000000 in
set_option maxRecDepth 100000 in
theorem spread_any (w : World) (N : Int) (A : Option Addr) (m c : Nat) (es : List (Int × Int)) (Av : Option Addr) (nv cv : Nat) (vs : List Int) (Ae : Option Addr) (ne ce : Nat) (xs : List Int) (r : Int) (Ar : Option Addr) (nr cr : Nat) (h : GP w N A m c es Av nv cv vs Ae ne ce xs) (hr : IS w w.heap.size Ar nr cr [r]) (hp : POK N es vs xs) (hrv : r ∈ vs) :
    Calls Try.prog 88 #[.agg #[.int .i64 N, .slice A m c], .agg #[.slice Av nv cv, .slice Ae ne ce], .slice Ar nr cr, .int .i64 (-1)] w fun e w' => (∃ A n c M, e = .returned (.slice A n c) ∧ IS w' w'.heap.size A n c M ∧ (∀ a, A = some a → w.heap.size ≤ a.block) ∧ M.length ≤ vs.length ∧ ∀ u, u ∈ M ↔ Hang es xs r u) ∧ Below w.heap.size w w' := by
  obtain ⟨w1, hw1, b1, gb1⟩ := box_gp w N A m c es Av nv cv Ae ne ce
  have h1 := h.step b1
  have r1 := hr.step b1
  have hnr : nr = 1 := by have := hr.len; simpa using this.symm
  subst hnr
  clear h hr
  have ⟨_, _, c0, c1, c2, c3, _⟩ := gb1
  have HP := Lib.hid hp
  have HR := Lib.hid hrv
  have H1 := Lib.hid h1
  have GB1 := Lib.hid gb1
  have B1 := Lib.hid b1
  have HLE := Lib.hid h1.e.len
  have hnec := h1.e.cap
  have hnel := h1.e.le
  have hcg := h1.g.cap
  have hlg := h1.g.le
  have hvl := h1.v.len
  have hnv1024 : nv ≤ 1024 := by
    have h4 := nodup_len (a := vs) (b := upto1 N.toNat) (sorted_nodup hp.vp) fun x hx => mem_upto1.2 (by have := hp.vr x hx; omega)
    rw [upto1_len] at h4
    have := hp.size
    have := hp.n0
    omega
  have hne1024 : ne ≤ 1024 := by have h5 := nodup_len (a := xs) (b := upto1 es.length) (sorted_nodup hp.xp) fun x hx => mem_upto1.2 (hp.xr x hx); rw [upto1_len] at h5; have := hp.size; have := hp.n0; have := h1.e.len; omega
  have hown0 := Own.start w1
  clear hp hrv h1 gb1 b1
  go_enter Try.func88, Try.ntmps88
  go_wp2_with (with_reducible show wpList _ _ _ (Oper.mk (some 15) _ _ _ _ _ :: _) _ _; go_must (refine wpList_append_is (v := .slice none 0 0) rfl _ _ rfl rfl hown0 rfl r1 (by simp only [List.length_nil]; omega) ?_; intro v4 w4 ho4 _ _; simp only [List.nil_append] at ho4))
  have hst : Own w1 w4 v4 [r] := ho4
  clear ho4 hown0 c0 c1 c2 c3 hw1
  go_loopw [9, 10] (fun v i wr => ∃ k : Nat, i = .int .i64 k ∧ ∃ M, Own w1 wr v M ∧ SpI es xs r M k) (fun _ i _ => 1025 - (intOf i).toNat)
  case atStart => exact ⟨0, rfl, _, hst, SpI.start_ r⟩
  case round =>
    clear hst
    obtain ⟨i, rfl, M, hown, hsp⟩ := hrel
    have hM := (hsp.small HP.out HR.out).1
    have hle := hsp.le
    obtain ⟨A0, n0, d0, rfl⟩ := hown.slice_
    have hn5 : n0 = M.length := by
      obtain ⟨A', n', c', e, his⟩ := hown.is
      injection e with e1 e2 e3
      subst e1 e2 e3
      exact his.len.symm
    have hbel := hown.below
    by_cases hlt : i < M.length
    · have i0 : (i : Int) < (n0 : Int) := by omega
      obtain ⟨z, hz⟩ : ∃ z, M.getD i 0 = z := ⟨_, rfl⟩
      have hst : Own w1 wr (.slice A0 n0 d0) M ∧ SpIn es xs r M i 0 ∧ M.getD i 0 = z := ⟨hown, hsp.enter hlt, hz⟩
      have hz64 : I64 z := by rw [← hz, getD_idx hlt]; exact hown.i64 _ (List.getElem_mem _)
      clear hown hsp hbel
      go_wp2
      clear hz
      go_loopw [9, 11] (fun v i' wr => ∃ k : Nat, k ≤ ne ∧ i' = .int .i64 k ∧ ∃ M, Own w1 wr v M ∧ SpIn es xs r M i k ∧ M.getD i 0 = z) (fun _ i' _ => ne - (intOf i').toNat)
      case atStart => exact ⟨0, Nat.zero_le _, rfl, _, hst⟩
      case round =>
        clear hst hM hle hlt hn5 i0
        obtain ⟨k, hk, rfl, M, hown, hsp, hz⟩ := hrel
        obtain ⟨A5, n5, d5, rfl⟩ := hown.slice_
        have hbel := hown.below
        have hMl := (hsp.out.small HP.out HR.out).1
        have gb5 := GB1.out.step hbel
        have ⟨hg5, hp5, c0, c1, c2, c3, _⟩ := gb5
        have HZ := Lib.hid hz
        by_cases hjn : k < ne
        · obtain ⟨be, oe, qq, rfl, hbe, hqz, hq64, hcz⟩ := (H1.out.e.below hbel).get hjn
          have HKL : Hid (k < xs.length) := Lib.hid (by rw [HLE.out]; exact hjn)
          have hqm : qq ∈ xs := hqz.out ▸ H1.out.e.mem hjn
          have hzr := HP.out.xr qq hqm
          obtain ⟨q, rfl⟩ := Int.eq_ofNat_of_zero_le hzr.1
          have hml := H1.out.g.len
          have hqm' : q < m := by omega
          obtain ⟨bg, og, x, y, rfl, hbg, hxy, hx64, hy64, hcx, hcy⟩ := (H1.out.g.below hbel).get hqm'
          have HEN : Hid (ends es q = (x, y)) := Lib.hid (by unfold ends; rw [Int.toNat_natCast]; exact hxy.out)
          have hends := HP.out.ends q hqm
          have hxv : x ∈ vs := by have := hends.1; rw [HEN.out] at this; exact this
          have hyv : y ∈ vs := by have := hends.2; rw [HEN.out] at this; exact this
          have hx1 : (x != -1) = true := by have := HP.out.vr x hxv; simp [bne_iff_ne]; omega
          have hy1 : (y != -1) = true := by have := HP.out.vr y hyv; simp [bne_iff_ne]; omega
          have HQM := Lib.hid hqm
          have HQ := hqz
          have hq0 : (0 : Int) ≤ (q : Int) := by omega
          have hq1 : (q : Int) < (m : Int) := by omega
          have hj0 : (0 : Int) ≤ (k : Int) := by omega
          have hj1 : (k : Int) < (ne : Int) := by omega
          have hbe' : be < wr.heap.size := Nat.lt_of_lt_of_le hbe hbel.size
          have hbg' : bg < wr.heap.size := Nat.lt_of_lt_of_le hbg hbel.size
          have HOWN := Lib.hid hown
          have SP := Lib.hid hsp
          have WS1 := Lib.hid hbel.size
          clear hzr hml hown gb5 hz hsp hqm hends hxv hyv hbel
          go_wp2
          refine wp_region_rel 10 [[],[0],[],[2],[],[2,3,4],[2,3,4,5],[0,1,2,3,4,5,6],[0,1,2,3,4,5,6,7],[]]
            [fun v _ => v = .pointer (some ⟨w.heap.size, 1, none⟩),
             fun v _ => v = .slice (some ⟨bg, og, none⟩) m c,
             fun v _ => v = .pointer (some ⟨w.heap.size + 1, 1, none⟩),
             fun v _ => v = .slice (some ⟨be, oe, none⟩) ne ce,
             fun v _ => v = .int .i64 k,
             fun v _ => v = .pointer (some ⟨be, oe + k, none⟩),
             fun v _ => v = .int .i64 q,
             fun v _ => v = .pointer (some ⟨bg, og + q * 2, none⟩),
             fun v _ => v = .agg #[.int .i64 x, .int .i64 y],
             fun v w' => ∃ eb, v = .pointer (some ⟨eb, 0, none⟩) ∧ w1.heap.size ≤ eb ∧ w'.heap[eb]? = some (.cells #[.int .i64 0, .int .i64 0] 86 (0, 0))]
            (by kernel_rfl) (by kernel_rfl) rfl ⟨?_, ?_, ?_, ?_, ?_, ?_, ?_, ?_, ?_, ?_, trivial⟩ ?_
          · intro wr hx v0 h0 v1 h1 v2 h2 v3 h3 v4 h4 v5 h5 v6 h6 v7 h7 v8 h8 v9 h9 K hK
            have q1 := (hx.cell (p := ⟨w.heap.size, 1, none⟩) hg5).trans c1
            have q3 := (hx.cell (p := ⟨w.heap.size + 1, 1, none⟩) hp5).trans c3
            have q4 := (hx.cell (p := ⟨be, oe + k, none⟩) hbe').trans hcz
            have q5 := (hx.cell (p := ⟨bg, og + q * 2, none⟩) hbg').trans hcx
            have q6 := (hx.cell (p := ⟨bg, og + q * 2 + 1, none⟩) hbg').trans hcy
            simp only [Act.put, List.setIfInBounds_toArray, List.set_cons_zero, List.set_cons_succ] at hK ⊢
            clear h0 h1 h2 h3 h4 h5 h6 h7 h8 h9
            go_wp2
            exact hK _ _ (Ext.refl _) (fun _ _ => rfl)
          · intro wr hx v0 h0 v1 h1 v2 h2 v3 h3 v4 h4 v5 h5 v6 h6 v7 h7 v8 h8 v9 h9 K hK
            have q1 := (hx.cell (p := ⟨w.heap.size, 1, none⟩) hg5).trans c1
            have q3 := (hx.cell (p := ⟨w.heap.size + 1, 1, none⟩) hp5).trans c3
            have q4 := (hx.cell (p := ⟨be, oe + k, none⟩) hbe').trans hcz
            have q5 := (hx.cell (p := ⟨bg, og + q * 2, none⟩) hbg').trans hcx
            have q6 := (hx.cell (p := ⟨bg, og + q * 2 + 1, none⟩) hbg').trans hcy
            simp only [Act.put, List.setIfInBounds_toArray, List.set_cons_zero, List.set_cons_succ] at hK ⊢
            obtain rfl := (h0 (by decide)).now
            clear h0 h1 h2 h3 h4 h5 h6 h7 h8 h9
            go_wp2
            exact hK _ _ (Ext.refl _) (fun _ _ => rfl)
          · intro wr hx v0 h0 v1 h1 v2 h2 v3 h3 v4 h4 v5 h5 v6 h6 v7 h7 v8 h8 v9 h9 K hK
            have q1 := (hx.cell (p := ⟨w.heap.size, 1, none⟩) hg5).trans c1
            have q3 := (hx.cell (p := ⟨w.heap.size + 1, 1, none⟩) hp5).trans c3
            have q4 := (hx.cell (p := ⟨be, oe + k, none⟩) hbe').trans hcz
            have q5 := (hx.cell (p := ⟨bg, og + q * 2, none⟩) hbg').trans hcx
            have q6 := (hx.cell (p := ⟨bg, og + q * 2 + 1, none⟩) hbg').trans hcy
            simp only [Act.put, List.setIfInBounds_toArray, List.set_cons_zero, List.set_cons_succ] at hK ⊢
            clear h0 h1 h2 h3 h4 h5 h6 h7 h8 h9
            go_wp2
            exact hK _ _ (Ext.refl _) (fun _ _ => rfl)
          · intro wr hx v0 h0 v1 h1 v2 h2 v3 h3 v4 h4 v5 h5 v6 h6 v7 h7 v8 h8 v9 h9 K hK
            have q1 := (hx.cell (p := ⟨w.heap.size, 1, none⟩) hg5).trans c1
            have q3 := (hx.cell (p := ⟨w.heap.size + 1, 1, none⟩) hp5).trans c3
            have q4 := (hx.cell (p := ⟨be, oe + k, none⟩) hbe').trans hcz
            have q5 := (hx.cell (p := ⟨bg, og + q * 2, none⟩) hbg').trans hcx
            have q6 := (hx.cell (p := ⟨bg, og + q * 2 + 1, none⟩) hbg').trans hcy
            simp only [Act.put, List.setIfInBounds_toArray, List.set_cons_zero, List.set_cons_succ] at hK ⊢
            obtain rfl := (h2 (by decide)).now
            clear h0 h1 h2 h3 h4 h5 h6 h7 h8 h9
            go_wp2
            exact hK _ _ (Ext.refl _) (fun _ _ => rfl)
          · intro wr hx v0 h0 v1 h1 v2 h2 v3 h3 v4 h4 v5 h5 v6 h6 v7 h7 v8 h8 v9 h9 K hK
            have q1 := (hx.cell (p := ⟨w.heap.size, 1, none⟩) hg5).trans c1
            have q3 := (hx.cell (p := ⟨w.heap.size + 1, 1, none⟩) hp5).trans c3
            have q4 := (hx.cell (p := ⟨be, oe + k, none⟩) hbe').trans hcz
            have q5 := (hx.cell (p := ⟨bg, og + q * 2, none⟩) hbg').trans hcx
            have q6 := (hx.cell (p := ⟨bg, og + q * 2 + 1, none⟩) hbg').trans hcy
            simp only [Act.put, List.setIfInBounds_toArray, List.set_cons_zero, List.set_cons_succ] at hK ⊢
            clear h0 h1 h2 h3 h4 h5 h6 h7 h8 h9
            go_wp2
            exact hK _ _ (Ext.refl _) (fun _ _ => rfl)
          · intro wr hx v0 h0 v1 h1 v2 h2 v3 h3 v4 h4 v5 h5 v6 h6 v7 h7 v8 h8 v9 h9 K hK
            have q1 := (hx.cell (p := ⟨w.heap.size, 1, none⟩) hg5).trans c1
            have q3 := (hx.cell (p := ⟨w.heap.size + 1, 1, none⟩) hp5).trans c3
            have q4 := (hx.cell (p := ⟨be, oe + k, none⟩) hbe').trans hcz
            have q5 := (hx.cell (p := ⟨bg, og + q * 2, none⟩) hbg').trans hcx
            have q6 := (hx.cell (p := ⟨bg, og + q * 2 + 1, none⟩) hbg').trans hcy
            simp only [Act.put, List.setIfInBounds_toArray, List.set_cons_zero, List.set_cons_succ] at hK ⊢
            obtain rfl := (h3 (by decide)).now
            obtain rfl := (h4 (by decide)).now
            clear h0 h1 h2 h3 h4 h5 h6 h7 h8 h9
            go_wp2
            exact hK _ _ (Ext.refl _) (fun _ _ => rfl)
          · intro wr hx v0 h0 v1 h1 v2 h2 v3 h3 v4 h4 v5 h5 v6 h6 v7 h7 v8 h8 v9 h9 K hK
            have q1 := (hx.cell (p := ⟨w.heap.size, 1, none⟩) hg5).trans c1
            have q3 := (hx.cell (p := ⟨w.heap.size + 1, 1, none⟩) hp5).trans c3
            have q4 := (hx.cell (p := ⟨be, oe + k, none⟩) hbe').trans hcz
            have q5 := (hx.cell (p := ⟨bg, og + q * 2, none⟩) hbg').trans hcx
            have q6 := (hx.cell (p := ⟨bg, og + q * 2 + 1, none⟩) hbg').trans hcy
            simp only [Act.put, List.setIfInBounds_toArray, List.set_cons_zero, List.set_cons_succ] at hK ⊢
            obtain rfl := (h5 (by decide)).now
            clear h0 h1 h2 h3 h4 h5 h6 h7 h8 h9
            go_wp2
            exact hK _ _ (Ext.refl _) (fun _ _ => rfl)
          · intro wr hx v0 h0 v1 h1 v2 h2 v3 h3 v4 h4 v5 h5 v6 h6 v7 h7 v8 h8 v9 h9 K hK
            have q1 := (hx.cell (p := ⟨w.heap.size, 1, none⟩) hg5).trans c1
            have q3 := (hx.cell (p := ⟨w.heap.size + 1, 1, none⟩) hp5).trans c3
            have q4 := (hx.cell (p := ⟨be, oe + k, none⟩) hbe').trans hcz
            have q5 := (hx.cell (p := ⟨bg, og + q * 2, none⟩) hbg').trans hcx
            have q6 := (hx.cell (p := ⟨bg, og + q * 2 + 1, none⟩) hbg').trans hcy
            simp only [Act.put, List.setIfInBounds_toArray, List.set_cons_zero, List.set_cons_succ] at hK ⊢
            obtain rfl := (h1 (by decide)).now
            obtain rfl := (h6 (by decide)).now
            clear h0 h1 h2 h3 h4 h5 h6 h7 h8 h9
            go_wp2
            exact hK _ _ (Ext.refl _) (fun _ _ => rfl)
          · intro wr hx v0 h0 v1 h1 v2 h2 v3 h3 v4 h4 v5 h5 v6 h6 v7 h7 v8 h8 v9 h9 K hK
            have q1 := (hx.cell (p := ⟨w.heap.size, 1, none⟩) hg5).trans c1
            have q3 := (hx.cell (p := ⟨w.heap.size + 1, 1, none⟩) hp5).trans c3
            have q4 := (hx.cell (p := ⟨be, oe + k, none⟩) hbe').trans hcz
            have q5 := (hx.cell (p := ⟨bg, og + q * 2, none⟩) hbg').trans hcx
            have q6 := (hx.cell (p := ⟨bg, og + q * 2 + 1, none⟩) hbg').trans hcy
            simp only [Act.put, List.setIfInBounds_toArray, List.set_cons_zero, List.set_cons_succ] at hK ⊢
            obtain rfl := (h7 (by decide)).now
            clear h0 h1 h2 h3 h4 h5 h6 h7 h8 h9
            go_wp2
            exact hK _ _ (Ext.refl _) (fun _ _ => rfl)
          · intro wr hx v0 h0 v1 h1 v2 h2 v3 h3 v4 h4 v5 h5 v6 h6 v7 h7 v8 h8 v9 h9 K hK
            have q1 := (hx.cell (p := ⟨w.heap.size, 1, none⟩) hg5).trans c1
            have q3 := (hx.cell (p := ⟨w.heap.size + 1, 1, none⟩) hp5).trans c3
            have q4 := (hx.cell (p := ⟨be, oe + k, none⟩) hbe').trans hcz
            have q5 := (hx.cell (p := ⟨bg, og + q * 2, none⟩) hbg').trans hcx
            have q6 := (hx.cell (p := ⟨bg, og + q * 2 + 1, none⟩) hbg').trans hcy
            simp only [Act.put, List.setIfInBounds_toArray, List.set_cons_zero, List.set_cons_succ] at hK ⊢
            clear h0 h1 h2 h3 h4 h5 h6 h7 h8 h9
            go_wp2
            exact hK _ _ (Ext.alloc _ _) (fun w'' hx' => ⟨_, rfl, Nat.le_trans WS1.out hx.size, (hx'.block _ (by simp)).trans (heap_alloc_new _ _)⟩)
          intro wr hx v0 h0 v1 h1 v2 h2 v3 h3 v4 h4 v5 h5 v6 h6 v7 h7 v8 h8 v9 h9
          have q1 := (hx.cell (p := ⟨w.heap.size, 1, none⟩) hg5).trans c1
          have q3 := (hx.cell (p := ⟨w.heap.size + 1, 1, none⟩) hp5).trans c3
          have q4 := (hx.cell (p := ⟨be, oe + k, none⟩) hbe').trans hcz
          have q5 := (hx.cell (p := ⟨bg, og + q * 2, none⟩) hbg').trans hcx
          have q6 := (hx.cell (p := ⟨bg, og + q * 2 + 1, none⟩) hbg').trans hcy
          obtain rfl := h8.now
          obtain ⟨eb, rfl, hebw, hebc⟩ := h9.now
          clear h0 h1 h2 h3 h4 h5 h6 h7 h8 h9
          refine tail_seq (by kernel_rfl) ?_
          simp only [List.drop_succ_cons, List.drop_zero, Act.put, List.setIfInBounds_toArray, List.set_cons_zero, List.set_cons_succ]
          have k0 : wr.cell? ⟨eb, 0, none⟩ = some (.int .i64 0) := cell_of_row wr eb 0 _ _ _ hebc
          have k1 : wr.cell? ⟨eb, 1, none⟩ = some (.int .i64 0) := cell_of_row wr eb 1 _ _ _ hebc
          have f0 : wr.frozen? ⟨eb, 0, none⟩ = false := frozen_of_row hebc
          have f1 : wr.frozen? ⟨eb, 1, none⟩ = false := frozen_of_row hebc
          have hnb : Value.ownBlock (.slice A5 n5 d5) ≠ some eb := (show EdgeAt wr eb 0 0 from hebc).ne_own (HOWN.out.later hx)
          have HOW := Lib.hid ((((HOWN.out.later hx).set (grown_set _ eb 0 (.int .i64 x)) hebw hnb).set (grown_set _ eb 1 (.int .i64 y)) hebw hnb))
          have hblk : EdgeAt ((wr.setCell ⟨eb, 0, none⟩ (.int .i64 x)).setCell ⟨eb, 1, none⟩ (.int .i64 y)) eb x y := by
            unfold EdgeAt
            simp [World.setCell, Array.getElem?_modify, hebc]
          have HED := Lib.hid hblk
          clear hcz hcx hcy c0 c1 c2 c3 q1 q3 q4 q5 q6 hebc hnb hblk hx
          go_wp2_with fail
          obtain ⟨w5, hw5⟩ : ∃ w5, (wr.setCell ⟨eb, 0, none⟩ (.int .i64 x)).setCell ⟨eb, 1, none⟩ (.int .i64 y) = w5 := ⟨_, rfl⟩
          rw [hw5] at HOW HED ⊢
          clear hw5 k0 k1 f0 f1 hebw hbe hbg hbe' hbg' hq64 hqm' hq0 hq1 hj0 hj1 hg5 hp5 hqz hxy hMl WS1 HOWN hnel hnec hcg hlg r1 GB1
          obtain ⟨vb, n6, d6, e6, hn5, hd5, hd6, hvb, hcm, his⟩ := HOW.out.place SP.out.lt
          injection e6 with e6 e7 e8
          subst e6 e7 e8
          rw [HZ.out] at hcm
          have e0 := HED.out.c0
          have e1 := HED.out.c1
          have heb := HED.out.lt
          have hil := SP.out.lt
          have i1 : (i : Int) < (n5 : Int) := by omega
          have MIS := Lib.hid his
          clear his hn5
          by_cases hxz : x = z
          · have hxz' : (x == z) = true := beq_iff_eq.2 hxz
            obtain ⟨bq, hbq⟩ : ∃ bq, decide (y ∈ M) = bq := ⟨_, rfl⟩
            have HBQ := Lib.hid hbq
            have HXZ := Lib.hid hxz
            clear hbq hxz
            refine wp_region_rel 20 [[],[0],[],[],[2,3],[2,3,4],[0,1,2,3,4,5],[0,1,2,3,4,5,6],[0,1,2,3,4,5,6,7],[0,1,2,3,4,5,6,7,8],[0,1,2,3,4,5,6,7],[0,1,2,3,4,5,6,7,8,9,10],[0,1,2,3,4,5,6,7,8,9,10,11],[0,1,2,3,4,5,6,7,8,9,10,11,12],[0,1,2,3,4,5,6,7,8,9,10,11,12,13],[0,1,2,3,4,5,6,7,8,9,10,11,12,13],[0,1,2,3,4,5,6,7,8,9,10,11,12,13,15],[0,1,2,3,4,5,6,7,8,9,10,11,12,13,14,15,16],[0,1,2,3,4,5,6,7,8,9,10,11,12,13,14,15,16,17],[0,1,2,3,4,5,6,7,8,9,10,11,12,13,14,15,16,17,18]]
              [fun x_ _ => x_ = .pointer (some ⟨eb, 0, none⟩),
               fun x_ _ => x_ = .int .i64 x,
               fun x_ _ => x_ = .slice (some ⟨vb, 0, none⟩) n5 d5,
               fun x_ _ => x_ = .int .i64 i,
               fun x_ _ => x_ = .pointer (some ⟨vb, i, none⟩),
               fun x_ _ => x_ = .int .i64 z,
               fun x_ _ => x_ = .bool true,
               fun x_ _ => x_ = .bool true,
               fun x_ _ => x_ = .pointer (some ⟨eb, 1, none⟩),
               fun x_ _ => x_ = .int .i64 y,
               fun x_ _ => x_ = .int .i64 (-1),
               fun x_ _ => x_ = .bool true,
               fun x_ _ => x_ = .bool true,
               fun x_ _ => x_ = .bool true,
               fun x_ _ => x_ = .slice (some ⟨vb, 0, none⟩) n5 d5,
               fun x_ _ => x_ = .pointer (some ⟨eb, 1, none⟩),
               fun x_ _ => x_ = .int .i64 y,
               fun x_ _ => x_ = .bool bq,
               fun x_ _ => x_ = .bool (!bq),
               fun x_ _ => x_ = .bool (!bq)]
              (by kernel_rfl) (by kernel_rfl) rfl ⟨?_, ?_, ?_, ?_, ?_, ?_, ?_, ?_, ?_, ?_, ?_, ?_, ?_, ?_, ?_, ?_, ?_, ?_, ?_, ?_, trivial⟩ ?_
            · intro wr hx v0 h0 v1 h1 v2 h2 v3 h3 v4 h4 v5 h5 v6 h6 v7 h7 v8 h8 v9 h9 v10 h10 v11 h11 v12 h12 v13 h13 v14 h14 v15 h15 v16 h16 v17 h17 v18 h18 v19 h19 K hK
              have p0 := (hx.cell (p := ⟨eb, 0, none⟩) heb).trans e0
              have p1 := (hx.cell (p := ⟨eb, 1, none⟩) heb).trans e1
              have p2 := (hx.cell (p := ⟨vb, i, none⟩) hvb).trans hcm
              simp only [Act.put, List.setIfInBounds_toArray, List.set_cons_zero, List.set_cons_succ] at hK ⊢
              clear h0 h1 h2 h3 h4 h5 h6 h7 h8 h9 h10 h11 h12 h13 h14 h15 h16 h17 h18 h19
              go_wp2
              exact hK _ _ (Ext.refl _) (fun _ _ => rfl)
            · intro wr hx v0 h0 v1 h1 v2 h2 v3 h3 v4 h4 v5 h5 v6 h6 v7 h7 v8 h8 v9 h9 v10 h10 v11 h11 v12 h12 v13 h13 v14 h14 v15 h15 v16 h16 v17 h17 v18 h18 v19 h19 K hK
              have p0 := (hx.cell (p := ⟨eb, 0, none⟩) heb).trans e0
              have p1 := (hx.cell (p := ⟨eb, 1, none⟩) heb).trans e1
              have p2 := (hx.cell (p := ⟨vb, i, none⟩) hvb).trans hcm
              simp only [Act.put, List.setIfInBounds_toArray, List.set_cons_zero, List.set_cons_succ] at hK ⊢
              obtain rfl := (h0 (by decide)).now
              clear h0 h1 h2 h3 h4 h5 h6 h7 h8 h9 h10 h11 h12 h13 h14 h15 h16 h17 h18 h19
              go_wp2
              exact hK _ _ (Ext.refl _) (fun _ _ => rfl)
            · intro wr hx v0 h0 v1 h1 v2 h2 v3 h3 v4 h4 v5 h5 v6 h6 v7 h7 v8 h8 v9 h9 v10 h10 v11 h11 v12 h12 v13 h13 v14 h14 v15 h15 v16 h16 v17 h17 v18 h18 v19 h19 K hK
              have p0 := (hx.cell (p := ⟨eb, 0, none⟩) heb).trans e0
              have p1 := (hx.cell (p := ⟨eb, 1, none⟩) heb).trans e1
              have p2 := (hx.cell (p := ⟨vb, i, none⟩) hvb).trans hcm
              simp only [Act.put, List.setIfInBounds_toArray, List.set_cons_zero, List.set_cons_succ] at hK ⊢
              clear h0 h1 h2 h3 h4 h5 h6 h7 h8 h9 h10 h11 h12 h13 h14 h15 h16 h17 h18 h19
              go_wp2
              exact hK _ _ (Ext.refl _) (fun _ _ => rfl)
            · intro wr hx v0 h0 v1 h1 v2 h2 v3 h3 v4 h4 v5 h5 v6 h6 v7 h7 v8 h8 v9 h9 v10 h10 v11 h11 v12 h12 v13 h13 v14 h14 v15 h15 v16 h16 v17 h17 v18 h18 v19 h19 K hK
              have p0 := (hx.cell (p := ⟨eb, 0, none⟩) heb).trans e0
              have p1 := (hx.cell (p := ⟨eb, 1, none⟩) heb).trans e1
              have p2 := (hx.cell (p := ⟨vb, i, none⟩) hvb).trans hcm
              simp only [Act.put, List.setIfInBounds_toArray, List.set_cons_zero, List.set_cons_succ] at hK ⊢
              clear h0 h1 h2 h3 h4 h5 h6 h7 h8 h9 h10 h11 h12 h13 h14 h15 h16 h17 h18 h19
              go_wp2
              exact hK _ _ (Ext.refl _) (fun _ _ => rfl)
            · intro wr hx v0 h0 v1 h1 v2 h2 v3 h3 v4 h4 v5 h5 v6 h6 v7 h7 v8 h8 v9 h9 v10 h10 v11 h11 v12 h12 v13 h13 v14 h14 v15 h15 v16 h16 v17 h17 v18 h18 v19 h19 K hK
              have p0 := (hx.cell (p := ⟨eb, 0, none⟩) heb).trans e0
              have p1 := (hx.cell (p := ⟨eb, 1, none⟩) heb).trans e1
              have p2 := (hx.cell (p := ⟨vb, i, none⟩) hvb).trans hcm
              simp only [Act.put, List.setIfInBounds_toArray, List.set_cons_zero, List.set_cons_succ] at hK ⊢
              obtain rfl := (h2 (by decide)).now
              obtain rfl := (h3 (by decide)).now
              clear h0 h1 h2 h3 h4 h5 h6 h7 h8 h9 h10 h11 h12 h13 h14 h15 h16 h17 h18 h19
              go_wp2
              exact hK _ _ (Ext.refl _) (fun _ _ => rfl)
            · intro wr hx v0 h0 v1 h1 v2 h2 v3 h3 v4 h4 v5 h5 v6 h6 v7 h7 v8 h8 v9 h9 v10 h10 v11 h11 v12 h12 v13 h13 v14 h14 v15 h15 v16 h16 v17 h17 v18 h18 v19 h19 K hK
              have p0 := (hx.cell (p := ⟨eb, 0, none⟩) heb).trans e0
              have p1 := (hx.cell (p := ⟨eb, 1, none⟩) heb).trans e1
              have p2 := (hx.cell (p := ⟨vb, i, none⟩) hvb).trans hcm
              simp only [Act.put, List.setIfInBounds_toArray, List.set_cons_zero, List.set_cons_succ] at hK ⊢
              obtain rfl := (h4 (by decide)).now
              clear h0 h1 h2 h3 h4 h5 h6 h7 h8 h9 h10 h11 h12 h13 h14 h15 h16 h17 h18 h19
              go_wp2
              exact hK _ _ (Ext.refl _) (fun _ _ => rfl)
            · intro wr hx v0 h0 v1 h1 v2 h2 v3 h3 v4 h4 v5 h5 v6 h6 v7 h7 v8 h8 v9 h9 v10 h10 v11 h11 v12 h12 v13 h13 v14 h14 v15 h15 v16 h16 v17 h17 v18 h18 v19 h19 K hK
              have p0 := (hx.cell (p := ⟨eb, 0, none⟩) heb).trans e0
              have p1 := (hx.cell (p := ⟨eb, 1, none⟩) heb).trans e1
              have p2 := (hx.cell (p := ⟨vb, i, none⟩) hvb).trans hcm
              simp only [Act.put, List.setIfInBounds_toArray, List.set_cons_zero, List.set_cons_succ] at hK ⊢
              obtain rfl := (h1 (by decide)).now
              obtain rfl := (h5 (by decide)).now
              clear h0 h1 h2 h3 h4 h5 h6 h7 h8 h9 h10 h11 h12 h13 h14 h15 h16 h17 h18 h19
              go_wp2
              exact hK _ _ (Ext.refl _) (fun _ _ => rfl)
            · intro wr hx v0 h0 v1 h1 v2 h2 v3 h3 v4 h4 v5 h5 v6 h6 v7 h7 v8 h8 v9 h9 v10 h10 v11 h11 v12 h12 v13 h13 v14 h14 v15 h15 v16 h16 v17 h17 v18 h18 v19 h19 K hK
              have p0 := (hx.cell (p := ⟨eb, 0, none⟩) heb).trans e0
              have p1 := (hx.cell (p := ⟨eb, 1, none⟩) heb).trans e1
              have p2 := (hx.cell (p := ⟨vb, i, none⟩) hvb).trans hcm
              simp only [Act.put, List.setIfInBounds_toArray, List.set_cons_zero, List.set_cons_succ] at hK ⊢
              obtain rfl := (h6 (by decide)).now
              clear h0 h1 h2 h3 h4 h5 h6 h7 h8 h9 h10 h11 h12 h13 h14 h15 h16 h17 h18 h19
              go_wp2
              exact hK _ _ (Ext.refl _) (fun _ _ => rfl)
            · intro wr hx v0 h0 v1 h1 v2 h2 v3 h3 v4 h4 v5 h5 v6 h6 v7 h7 v8 h8 v9 h9 v10 h10 v11 h11 v12 h12 v13 h13 v14 h14 v15 h15 v16 h16 v17 h17 v18 h18 v19 h19 K hK
              have p0 := (hx.cell (p := ⟨eb, 0, none⟩) heb).trans e0
              have p1 := (hx.cell (p := ⟨eb, 1, none⟩) heb).trans e1
              have p2 := (hx.cell (p := ⟨vb, i, none⟩) hvb).trans hcm
              simp only [Act.put, List.setIfInBounds_toArray, List.set_cons_zero, List.set_cons_succ] at hK ⊢
              obtain rfl := (h7 (by decide)).now
              clear h0 h1 h2 h3 h4 h5 h6 h7 h8 h9 h10 h11 h12 h13 h14 h15 h16 h17 h18 h19
              go_wp2
              exact hK _ _ (Ext.refl _) (fun _ _ => rfl)
            · intro wr hx v0 h0 v1 h1 v2 h2 v3 h3 v4 h4 v5 h5 v6 h6 v7 h7 v8 h8 v9 h9 v10 h10 v11 h11 v12 h12 v13 h13 v14 h14 v15 h15 v16 h16 v17 h17 v18 h18 v19 h19 K hK
              have p0 := (hx.cell (p := ⟨eb, 0, none⟩) heb).trans e0
              have p1 := (hx.cell (p := ⟨eb, 1, none⟩) heb).trans e1
              have p2 := (hx.cell (p := ⟨vb, i, none⟩) hvb).trans hcm
              simp only [Act.put, List.setIfInBounds_toArray, List.set_cons_zero, List.set_cons_succ] at hK ⊢
              obtain rfl := (h7 (by decide)).now
              obtain rfl := (h8 (by decide)).now
              clear h0 h1 h2 h3 h4 h5 h6 h7 h8 h9 h10 h11 h12 h13 h14 h15 h16 h17 h18 h19
              go_wp2
              exact hK _ _ (Ext.refl _) (fun _ _ => rfl)
            · intro wr hx v0 h0 v1 h1 v2 h2 v3 h3 v4 h4 v5 h5 v6 h6 v7 h7 v8 h8 v9 h9 v10 h10 v11 h11 v12 h12 v13 h13 v14 h14 v15 h15 v16 h16 v17 h17 v18 h18 v19 h19 K hK
              have p0 := (hx.cell (p := ⟨eb, 0, none⟩) heb).trans e0
              have p1 := (hx.cell (p := ⟨eb, 1, none⟩) heb).trans e1
              have p2 := (hx.cell (p := ⟨vb, i, none⟩) hvb).trans hcm
              simp only [Act.put, List.setIfInBounds_toArray, List.set_cons_zero, List.set_cons_succ] at hK ⊢
              obtain rfl := (h7 (by decide)).now
              clear h0 h1 h2 h3 h4 h5 h6 h7 h8 h9 h10 h11 h12 h13 h14 h15 h16 h17 h18 h19
              go_wp2
              exact hK _ _ (Ext.refl _) (fun _ _ => rfl)
            · intro wr hx v0 h0 v1 h1 v2 h2 v3 h3 v4 h4 v5 h5 v6 h6 v7 h7 v8 h8 v9 h9 v10 h10 v11 h11 v12 h12 v13 h13 v14 h14 v15 h15 v16 h16 v17 h17 v18 h18 v19 h19 K hK
              have p0 := (hx.cell (p := ⟨eb, 0, none⟩) heb).trans e0
              have p1 := (hx.cell (p := ⟨eb, 1, none⟩) heb).trans e1
              have p2 := (hx.cell (p := ⟨vb, i, none⟩) hvb).trans hcm
              simp only [Act.put, List.setIfInBounds_toArray, List.set_cons_zero, List.set_cons_succ] at hK ⊢
              obtain rfl := (h7 (by decide)).now
              obtain rfl := (h9 (by decide)).now
              obtain rfl := (h10 (by decide)).now
              clear h0 h1 h2 h3 h4 h5 h6 h7 h8 h9 h10 h11 h12 h13 h14 h15 h16 h17 h18 h19
              go_wp2
              exact hK _ _ (Ext.refl _) (fun _ _ => rfl)
            · intro wr hx v0 h0 v1 h1 v2 h2 v3 h3 v4 h4 v5 h5 v6 h6 v7 h7 v8 h8 v9 h9 v10 h10 v11 h11 v12 h12 v13 h13 v14 h14 v15 h15 v16 h16 v17 h17 v18 h18 v19 h19 K hK
              have p0 := (hx.cell (p := ⟨eb, 0, none⟩) heb).trans e0
              have p1 := (hx.cell (p := ⟨eb, 1, none⟩) heb).trans e1
              have p2 := (hx.cell (p := ⟨vb, i, none⟩) hvb).trans hcm
              simp only [Act.put, List.setIfInBounds_toArray, List.set_cons_zero, List.set_cons_succ] at hK ⊢
              obtain rfl := (h7 (by decide)).now
              obtain rfl := (h11 (by decide)).now
              clear h0 h1 h2 h3 h4 h5 h6 h7 h8 h9 h10 h11 h12 h13 h14 h15 h16 h17 h18 h19
              go_wp2
              exact hK _ _ (Ext.refl _) (fun _ _ => rfl)
            · intro wr hx v0 h0 v1 h1 v2 h2 v3 h3 v4 h4 v5 h5 v6 h6 v7 h7 v8 h8 v9 h9 v10 h10 v11 h11 v12 h12 v13 h13 v14 h14 v15 h15 v16 h16 v17 h17 v18 h18 v19 h19 K hK
              have p0 := (hx.cell (p := ⟨eb, 0, none⟩) heb).trans e0
              have p1 := (hx.cell (p := ⟨eb, 1, none⟩) heb).trans e1
              have p2 := (hx.cell (p := ⟨vb, i, none⟩) hvb).trans hcm
              simp only [Act.put, List.setIfInBounds_toArray, List.set_cons_zero, List.set_cons_succ] at hK ⊢
              obtain rfl := (h12 (by decide)).now
              clear h0 h1 h2 h3 h4 h5 h6 h7 h8 h9 h10 h11 h12 h13 h14 h15 h16 h17 h18 h19
              go_wp2
              exact hK _ _ (Ext.refl _) (fun _ _ => rfl)
            · intro wr hx v0 h0 v1 h1 v2 h2 v3 h3 v4 h4 v5 h5 v6 h6 v7 h7 v8 h8 v9 h9 v10 h10 v11 h11 v12 h12 v13 h13 v14 h14 v15 h15 v16 h16 v17 h17 v18 h18 v19 h19 K hK
              have p0 := (hx.cell (p := ⟨eb, 0, none⟩) heb).trans e0
              have p1 := (hx.cell (p := ⟨eb, 1, none⟩) heb).trans e1
              have p2 := (hx.cell (p := ⟨vb, i, none⟩) hvb).trans hcm
              simp only [Act.put, List.setIfInBounds_toArray, List.set_cons_zero, List.set_cons_succ] at hK ⊢
              obtain rfl := (h13 (by decide)).now
              clear h0 h1 h2 h3 h4 h5 h6 h7 h8 h9 h10 h11 h12 h13 h14 h15 h16 h17 h18 h19
              go_wp2
              exact hK _ _ (Ext.refl _) (fun _ _ => rfl)
            · intro wr hx v0 h0 v1 h1 v2 h2 v3 h3 v4 h4 v5 h5 v6 h6 v7 h7 v8 h8 v9 h9 v10 h10 v11 h11 v12 h12 v13 h13 v14 h14 v15 h15 v16 h16 v17 h17 v18 h18 v19 h19 K hK
              have p0 := (hx.cell (p := ⟨eb, 0, none⟩) heb).trans e0
              have p1 := (hx.cell (p := ⟨eb, 1, none⟩) heb).trans e1
              have p2 := (hx.cell (p := ⟨vb, i, none⟩) hvb).trans hcm
              simp only [Act.put, List.setIfInBounds_toArray, List.set_cons_zero, List.set_cons_succ] at hK ⊢
              obtain rfl := (h13 (by decide)).now
              clear h0 h1 h2 h3 h4 h5 h6 h7 h8 h9 h10 h11 h12 h13 h14 h15 h16 h17 h18 h19
              go_wp2
              exact hK _ _ (Ext.refl _) (fun _ _ => rfl)
            · intro wr hx v0 h0 v1 h1 v2 h2 v3 h3 v4 h4 v5 h5 v6 h6 v7 h7 v8 h8 v9 h9 v10 h10 v11 h11 v12 h12 v13 h13 v14 h14 v15 h15 v16 h16 v17 h17 v18 h18 v19 h19 K hK
              have p0 := (hx.cell (p := ⟨eb, 0, none⟩) heb).trans e0
              have p1 := (hx.cell (p := ⟨eb, 1, none⟩) heb).trans e1
              have p2 := (hx.cell (p := ⟨vb, i, none⟩) hvb).trans hcm
              simp only [Act.put, List.setIfInBounds_toArray, List.set_cons_zero, List.set_cons_succ] at hK ⊢
              obtain rfl := (h13 (by decide)).now
              obtain rfl := (h15 (by decide)).now
              clear h0 h1 h2 h3 h4 h5 h6 h7 h8 h9 h10 h11 h12 h13 h14 h15 h16 h17 h18 h19
              go_wp2
              exact hK _ _ (Ext.refl _) (fun _ _ => rfl)
            · intro wr hx v0 h0 v1 h1 v2 h2 v3 h3 v4 h4 v5 h5 v6 h6 v7 h7 v8 h8 v9 h9 v10 h10 v11 h11 v12 h12 v13 h13 v14 h14 v15 h15 v16 h16 v17 h17 v18 h18 v19 h19 K hK
              have p0 := (hx.cell (p := ⟨eb, 0, none⟩) heb).trans e0
              have p1 := (hx.cell (p := ⟨eb, 1, none⟩) heb).trans e1
              have p2 := (hx.cell (p := ⟨vb, i, none⟩) hvb).trans hcm
              simp only [Act.put, List.setIfInBounds_toArray, List.set_cons_zero, List.set_cons_succ] at hK ⊢
              obtain rfl := (h13 (by decide)).now
              obtain rfl := (h14 (by decide)).now
              obtain rfl := (h16 (by decide)).now
              clear h0 h1 h2 h3 h4 h5 h6 h7 h8 h9 h10 h11 h12 h13 h14 h15 h16 h17 h18 h19
              go_wp2_with fail
              refine (in_any wr _ _ n5 d5 _ y (MIS.out.step hx)).mono ?_
              rintro e w' ⟨rfl, rfl⟩
              rw [HBQ.out]
              go_wp2
              exact hK _ _ (Ext.refl _) (fun _ _ => rfl)
            · intro wr hx v0 h0 v1 h1 v2 h2 v3 h3 v4 h4 v5 h5 v6 h6 v7 h7 v8 h8 v9 h9 v10 h10 v11 h11 v12 h12 v13 h13 v14 h14 v15 h15 v16 h16 v17 h17 v18 h18 v19 h19 K hK
              have p0 := (hx.cell (p := ⟨eb, 0, none⟩) heb).trans e0
              have p1 := (hx.cell (p := ⟨eb, 1, none⟩) heb).trans e1
              have p2 := (hx.cell (p := ⟨vb, i, none⟩) hvb).trans hcm
              simp only [Act.put, List.setIfInBounds_toArray, List.set_cons_zero, List.set_cons_succ] at hK ⊢
              obtain rfl := (h13 (by decide)).now
              obtain rfl := (h17 (by decide)).now
              clear h0 h1 h2 h3 h4 h5 h6 h7 h8 h9 h10 h11 h12 h13 h14 h15 h16 h17 h18 h19
              go_wp2
              exact hK _ _ (Ext.refl _) (fun _ _ => rfl)
            · intro wr hx v0 h0 v1 h1 v2 h2 v3 h3 v4 h4 v5 h5 v6 h6 v7 h7 v8 h8 v9 h9 v10 h10 v11 h11 v12 h12 v13 h13 v14 h14 v15 h15 v16 h16 v17 h17 v18 h18 v19 h19 K hK
              have p0 := (hx.cell (p := ⟨eb, 0, none⟩) heb).trans e0
              have p1 := (hx.cell (p := ⟨eb, 1, none⟩) heb).trans e1
              have p2 := (hx.cell (p := ⟨vb, i, none⟩) hvb).trans hcm
              simp only [Act.put, List.setIfInBounds_toArray, List.set_cons_zero, List.set_cons_succ] at hK ⊢
              obtain rfl := (h13 (by decide)).now
              obtain rfl := (h18 (by decide)).now
              clear h0 h1 h2 h3 h4 h5 h6 h7 h8 h9 h10 h11 h12 h13 h14 h15 h16 h17 h18 h19
              go_wp2
              exact hK _ _ (Ext.refl _) (fun _ _ => rfl)
            intro w8 hx v0 h0 v1 h1 v2 h2 v3 h3 v4 h4 v5 h5 v6 h6 v7 h7 v8 h8 v9 h9 v10 h10 v11 h11 v12 h12 v13 h13 v14 h14 v15 h15 v16 h16 v17 h17 v18 h18 v19 h19
            have p0 := (hx.cell (p := ⟨eb, 0, none⟩) heb).trans e0
            have p1 := (hx.cell (p := ⟨eb, 1, none⟩) heb).trans e1
            have p2 := (hx.cell (p := ⟨vb, i, none⟩) hvb).trans hcm
            obtain rfl := h19.now
            clear h0 h1 h2 h3 h4 h5 h6 h7 h8 h9 h10 h11 h12 h13 h14 h15 h16 h17 h18 h19
            refine tail_none (by kernel_rfl) ?_
            simp only [Act.put, List.setIfInBounds_toArray, List.set_cons_zero, List.set_cons_succ]
            have HED := Lib.hid (HED.out.later hx)
            have HOW := Lib.hid (HOW.out.later hx)
            cases bq with
            | true =>
              have H1Y : Hid (x = M.getD i 0 → y ∈ M) := Lib.hid fun _ => of_decide_eq_true HBQ.out
              clear e0 e1 heb hcm hvb hx hxz'
              go_wp2_with fail
              obtain ⟨hn5, hd5, hd6, hvb, hcm, his⟩ := HOW.out.placeAt SP.out.lt
              rw [HZ.out] at hcm
              have e0 := HED.out.c0
              have e1 := HED.out.c1
              have heb := HED.out.lt
              have hil := SP.out.lt
              have i1 : (i : Int) < (n5 : Int) := by omega
              have MIS := Lib.hid his
              clear his hn5
              by_cases hyz : y = z
              · have hyz' : (y == z) = true := beq_iff_eq.2 hyz
                obtain ⟨bq, hbq⟩ : ∃ bq, decide (x ∈ M) = bq := ⟨_, rfl⟩
                have HBQ := Lib.hid hbq
                have HYZ := Lib.hid hyz
                clear hbq hyz
                refine wp_region_rel 20 [[],[0],[],[],[2,3],[2,3,4],[0,1,2,3,4,5],[0,1,2,3,4,5,6],[0,1,2,3,4,5,6,7],[0,1,2,3,4,5,6,7,8],[0,1,2,3,4,5,6,7],[0,1,2,3,4,5,6,7,8,9,10],[0,1,2,3,4,5,6,7,8,9,10,11],[0,1,2,3,4,5,6,7,8,9,10,11,12],[0,1,2,3,4,5,6,7,8,9,10,11,12,13],[0,1,2,3,4,5,6,7,8,9,10,11,12,13],[0,1,2,3,4,5,6,7,8,9,10,11,12,13,15],[0,1,2,3,4,5,6,7,8,9,10,11,12,13,14,15,16],[0,1,2,3,4,5,6,7,8,9,10,11,12,13,14,15,16,17],[0,1,2,3,4,5,6,7,8,9,10,11,12,13,14,15,16,17,18]]
                  [fun x_ _ => x_ = .pointer (some ⟨eb, 1, none⟩),
                   fun x_ _ => x_ = .int .i64 y,
                   fun x_ _ => x_ = .slice (some ⟨vb, 0, none⟩) n5 d5,
                   fun x_ _ => x_ = .int .i64 i,
                   fun x_ _ => x_ = .pointer (some ⟨vb, i, none⟩),
                   fun x_ _ => x_ = .int .i64 z,
                   fun x_ _ => x_ = .bool true,
                   fun x_ _ => x_ = .bool true,
                   fun x_ _ => x_ = .pointer (some ⟨eb, 0, none⟩),
                   fun x_ _ => x_ = .int .i64 x,
                   fun x_ _ => x_ = .int .i64 (-1),
                   fun x_ _ => x_ = .bool true,
                   fun x_ _ => x_ = .bool true,
                   fun x_ _ => x_ = .bool true,
                   fun x_ _ => x_ = .slice (some ⟨vb, 0, none⟩) n5 d5,
                   fun x_ _ => x_ = .pointer (some ⟨eb, 0, none⟩),
                   fun x_ _ => x_ = .int .i64 x,
                   fun x_ _ => x_ = .bool bq,
                   fun x_ _ => x_ = .bool (!bq),
                   fun x_ _ => x_ = .bool (!bq)]
                  (by kernel_rfl) (by kernel_rfl) rfl ⟨?_, ?_, ?_, ?_, ?_, ?_, ?_, ?_, ?_, ?_, ?_, ?_, ?_, ?_, ?_, ?_, ?_, ?_, ?_, ?_, trivial⟩ ?_
                · intro wr hx v0 h0 v1 h1 v2 h2 v3 h3 v4 h4 v5 h5 v6 h6 v7 h7 v8 h8 v9 h9 v10 h10 v11 h11 v12 h12 v13 h13 v14 h14 v15 h15 v16 h16 v17 h17 v18 h18 v19 h19 K hK
                  have p0 := (hx.cell (p := ⟨eb, 0, none⟩) heb).trans e0
                  have p1 := (hx.cell (p := ⟨eb, 1, none⟩) heb).trans e1
                  have p2 := (hx.cell (p := ⟨vb, i, none⟩) hvb).trans hcm
                  simp only [Act.put, List.setIfInBounds_toArray, List.set_cons_zero, List.set_cons_succ] at hK ⊢
                  clear h0 h1 h2 h3 h4 h5 h6 h7 h8 h9 h10 h11 h12 h13 h14 h15 h16 h17 h18 h19
                  go_wp2
                  exact hK _ _ (Ext.refl _) (fun _ _ => rfl)
                · intro wr hx v0 h0 v1 h1 v2 h2 v3 h3 v4 h4 v5 h5 v6 h6 v7 h7 v8 h8 v9 h9 v10 h10 v11 h11 v12 h12 v13 h13 v14 h14 v15 h15 v16 h16 v17 h17 v18 h18 v19 h19 K hK
                  have p0 := (hx.cell (p := ⟨eb, 0, none⟩) heb).trans e0
                  have p1 := (hx.cell (p := ⟨eb, 1, none⟩) heb).trans e1
                  have p2 := (hx.cell (p := ⟨vb, i, none⟩) hvb).trans hcm
                  simp only [Act.put, List.setIfInBounds_toArray, List.set_cons_zero, List.set_cons_succ] at hK ⊢
                  obtain rfl := (h0 (by decide)).now
                  clear h0 h1 h2 h3 h4 h5 h6 h7 h8 h9 h10 h11 h12 h13 h14 h15 h16 h17 h18 h19
                  go_wp2
                  exact hK _ _ (Ext.refl _) (fun _ _ => rfl)
                · intro wr hx v0 h0 v1 h1 v2 h2 v3 h3 v4 h4 v5 h5 v6 h6 v7 h7 v8 h8 v9 h9 v10 h10 v11 h11 v12 h12 v13 h13 v14 h14 v15 h15 v16 h16 v17 h17 v18 h18 v19 h19 K hK
                  have p0 := (hx.cell (p := ⟨eb, 0, none⟩) heb).trans e0
                  have p1 := (hx.cell (p := ⟨eb, 1, none⟩) heb).trans e1
                  have p2 := (hx.cell (p := ⟨vb, i, none⟩) hvb).trans hcm
                  simp only [Act.put, List.setIfInBounds_toArray, List.set_cons_zero, List.set_cons_succ] at hK ⊢
                  clear h0 h1 h2 h3 h4 h5 h6 h7 h8 h9 h10 h11 h12 h13 h14 h15 h16 h17 h18 h19
                  go_wp2
                  exact hK _ _ (Ext.refl _) (fun _ _ => rfl)
                · intro wr hx v0 h0 v1 h1 v2 h2 v3 h3 v4 h4 v5 h5 v6 h6 v7 h7 v8 h8 v9 h9 v10 h10 v11 h11 v12 h12 v13 h13 v14 h14 v15 h15 v16 h16 v17 h17 v18 h18 v19 h19 K hK
                  have p0 := (hx.cell (p := ⟨eb, 0, none⟩) heb).trans e0
                  have p1 := (hx.cell (p := ⟨eb, 1, none⟩) heb).trans e1
                  have p2 := (hx.cell (p := ⟨vb, i, none⟩) hvb).trans hcm
                  simp only [Act.put, List.setIfInBounds_toArray, List.set_cons_zero, List.set_cons_succ] at hK ⊢
                  clear h0 h1 h2 h3 h4 h5 h6 h7 h8 h9 h10 h11 h12 h13 h14 h15 h16 h17 h18 h19
                  go_wp2
                  exact hK _ _ (Ext.refl _) (fun _ _ => rfl)
                · intro wr hx v0 h0 v1 h1 v2 h2 v3 h3 v4 h4 v5 h5 v6 h6 v7 h7 v8 h8 v9 h9 v10 h10 v11 h11 v12 h12 v13 h13 v14 h14 v15 h15 v16 h16 v17 h17 v18 h18 v19 h19 K hK
                  have p0 := (hx.cell (p := ⟨eb, 0, none⟩) heb).trans e0
                  have p1 := (hx.cell (p := ⟨eb, 1, none⟩) heb).trans e1
                  have p2 := (hx.cell (p := ⟨vb, i, none⟩) hvb).trans hcm
                  simp only [Act.put, List.setIfInBounds_toArray, List.set_cons_zero, List.set_cons_succ] at hK ⊢
                  obtain rfl := (h2 (by decide)).now
                  obtain rfl := (h3 (by decide)).now
                  clear h0 h1 h2 h3 h4 h5 h6 h7 h8 h9 h10 h11 h12 h13 h14 h15 h16 h17 h18 h19
                  go_wp2
                  exact hK _ _ (Ext.refl _) (fun _ _ => rfl)
                · intro wr hx v0 h0 v1 h1 v2 h2 v3 h3 v4 h4 v5 h5 v6 h6 v7 h7 v8 h8 v9 h9 v10 h10 v11 h11 v12 h12 v13 h13 v14 h14 v15 h15 v16 h16 v17 h17 v18 h18 v19 h19 K hK
                  have p0 := (hx.cell (p := ⟨eb, 0, none⟩) heb).trans e0
                  have p1 := (hx.cell (p := ⟨eb, 1, none⟩) heb).trans e1
                  have p2 := (hx.cell (p := ⟨vb, i, none⟩) hvb).trans hcm
                  simp only [Act.put, List.setIfInBounds_toArray, List.set_cons_zero, List.set_cons_succ] at hK ⊢
                  obtain rfl := (h4 (by decide)).now
                  clear h0 h1 h2 h3 h4 h5 h6 h7 h8 h9 h10 h11 h12 h13 h14 h15 h16 h17 h18 h19
                  go_wp2
                  exact hK _ _ (Ext.refl _) (fun _ _ => rfl)
                · intro wr hx v0 h0 v1 h1 v2 h2 v3 h3 v4 h4 v5 h5 v6 h6 v7 h7 v8 h8 v9 h9 v10 h10 v11 h11 v12 h12 v13 h13 v14 h14 v15 h15 v16 h16 v17 h17 v18 h18 v19 h19 K hK
                  have p0 := (hx.cell (p := ⟨eb, 0, none⟩) heb).trans e0
                  have p1 := (hx.cell (p := ⟨eb, 1, none⟩) heb).trans e1
                  have p2 := (hx.cell (p := ⟨vb, i, none⟩) hvb).trans hcm
                  simp only [Act.put, List.setIfInBounds_toArray, List.set_cons_zero, List.set_cons_succ] at hK ⊢
                  obtain rfl := (h1 (by decide)).now
                  obtain rfl := (h5 (by decide)).now
                  clear h0 h1 h2 h3 h4 h5 h6 h7 h8 h9 h10 h11 h12 h13 h14 h15 h16 h17 h18 h19
                  go_wp2
                  exact hK _ _ (Ext.refl _) (fun _ _ => rfl)
                · intro wr hx v0 h0 v1 h1 v2 h2 v3 h3 v4 h4 v5 h5 v6 h6 v7 h7 v8 h8 v9 h9 v10 h10 v11 h11 v12 h12 v13 h13 v14 h14 v15 h15 v16 h16 v17 h17 v18 h18 v19 h19 K hK
                  have p0 := (hx.cell (p := ⟨eb, 0, none⟩) heb).trans e0
                  have p1 := (hx.cell (p := ⟨eb, 1, none⟩) heb).trans e1
                  have p2 := (hx.cell (p := ⟨vb, i, none⟩) hvb).trans hcm
                  simp only [Act.put, List.setIfInBounds_toArray, List.set_cons_zero, List.set_cons_succ] at hK ⊢
                  obtain rfl := (h6 (by decide)).now
                  clear h0 h1 h2 h3 h4 h5 h6 h7 h8 h9 h10 h11 h12 h13 h14 h15 h16 h17 h18 h19
                  go_wp2
                  exact hK _ _ (Ext.refl _) (fun _ _ => rfl)
                · intro wr hx v0 h0 v1 h1 v2 h2 v3 h3 v4 h4 v5 h5 v6 h6 v7 h7 v8 h8 v9 h9 v10 h10 v11 h11 v12 h12 v13 h13 v14 h14 v15 h15 v16 h16 v17 h17 v18 h18 v19 h19 K hK
                  have p0 := (hx.cell (p := ⟨eb, 0, none⟩) heb).trans e0
                  have p1 := (hx.cell (p := ⟨eb, 1, none⟩) heb).trans e1
                  have p2 := (hx.cell (p := ⟨vb, i, none⟩) hvb).trans hcm
                  simp only [Act.put, List.setIfInBounds_toArray, List.set_cons_zero, List.set_cons_succ] at hK ⊢
                  obtain rfl := (h7 (by decide)).now
                  clear h0 h1 h2 h3 h4 h5 h6 h7 h8 h9 h10 h11 h12 h13 h14 h15 h16 h17 h18 h19
                  go_wp2
                  exact hK _ _ (Ext.refl _) (fun _ _ => rfl)
                · intro wr hx v0 h0 v1 h1 v2 h2 v3 h3 v4 h4 v5 h5 v6 h6 v7 h7 v8 h8 v9 h9 v10 h10 v11 h11 v12 h12 v13 h13 v14 h14 v15 h15 v16 h16 v17 h17 v18 h18 v19 h19 K hK
                  have p0 := (hx.cell (p := ⟨eb, 0, none⟩) heb).trans e0
                  have p1 := (hx.cell (p := ⟨eb, 1, none⟩) heb).trans e1
                  have p2 := (hx.cell (p := ⟨vb, i, none⟩) hvb).trans hcm
                  simp only [Act.put, List.setIfInBounds_toArray, List.set_cons_zero, List.set_cons_succ] at hK ⊢
                  obtain rfl := (h7 (by decide)).now
                  obtain rfl := (h8 (by decide)).now
                  clear h0 h1 h2 h3 h4 h5 h6 h7 h8 h9 h10 h11 h12 h13 h14 h15 h16 h17 h18 h19
                  go_wp2
                  exact hK _ _ (Ext.refl _) (fun _ _ => rfl)
                · intro wr hx v0 h0 v1 h1 v2 h2 v3 h3 v4 h4 v5 h5 v6 h6 v7 h7 v8 h8 v9 h9 v10 h10 v11 h11 v12 h12 v13 h13 v14 h14 v15 h15 v16 h16 v17 h17 v18 h18 v19 h19 K hK
                  have p0 := (hx.cell (p := ⟨eb, 0, none⟩) heb).trans e0
                  have p1 := (hx.cell (p := ⟨eb, 1, none⟩) heb).trans e1
                  have p2 := (hx.cell (p := ⟨vb, i, none⟩) hvb).trans hcm
                  simp only [Act.put, List.setIfInBounds_toArray, List.set_cons_zero, List.set_cons_succ] at hK ⊢
                  obtain rfl := (h7 (by decide)).now
                  clear h0 h1 h2 h3 h4 h5 h6 h7 h8 h9 h10 h11 h12 h13 h14 h15 h16 h17 h18 h19
                  go_wp2
                  exact hK _ _ (Ext.refl _) (fun _ _ => rfl)
                · intro wr hx v0 h0 v1 h1 v2 h2 v3 h3 v4 h4 v5 h5 v6 h6 v7 h7 v8 h8 v9 h9 v10 h10 v11 h11 v12 h12 v13 h13 v14 h14 v15 h15 v16 h16 v17 h17 v18 h18 v19 h19 K hK
                  have p0 := (hx.cell (p := ⟨eb, 0, none⟩) heb).trans e0
                  have p1 := (hx.cell (p := ⟨eb, 1, none⟩) heb).trans e1
                  have p2 := (hx.cell (p := ⟨vb, i, none⟩) hvb).trans hcm
                  simp only [Act.put, List.setIfInBounds_toArray, List.set_cons_zero, List.set_cons_succ] at hK ⊢
                  obtain rfl := (h7 (by decide)).now
                  obtain rfl := (h9 (by decide)).now
                  obtain rfl := (h10 (by decide)).now
                  clear h0 h1 h2 h3 h4 h5 h6 h7 h8 h9 h10 h11 h12 h13 h14 h15 h16 h17 h18 h19
                  go_wp2
                  exact hK _ _ (Ext.refl _) (fun _ _ => rfl)
                · intro wr hx v0 h0 v1 h1 v2 h2 v3 h3 v4 h4 v5 h5 v6 h6 v7 h7 v8 h8 v9 h9 v10 h10 v11 h11 v12 h12 v13 h13 v14 h14 v15 h15 v16 h16 v17 h17 v18 h18 v19 h19 K hK
                  have p0 := (hx.cell (p := ⟨eb, 0, none⟩) heb).trans e0
                  have p1 := (hx.cell (p := ⟨eb, 1, none⟩) heb).trans e1
                  have p2 := (hx.cell (p := ⟨vb, i, none⟩) hvb).trans hcm
                  simp only [Act.put, List.setIfInBounds_toArray, List.set_cons_zero, List.set_cons_succ] at hK ⊢
                  obtain rfl := (h7 (by decide)).now
                  obtain rfl := (h11 (by decide)).now
                  clear h0 h1 h2 h3 h4 h5 h6 h7 h8 h9 h10 h11 h12 h13 h14 h15 h16 h17 h18 h19
                  go_wp2
                  exact hK _ _ (Ext.refl _) (fun _ _ => rfl)
                · intro wr hx v0 h0 v1 h1 v2 h2 v3 h3 v4 h4 v5 h5 v6 h6 v7 h7 v8 h8 v9 h9 v10 h10 v11 h11 v12 h12 v13 h13 v14 h14 v15 h15 v16 h16 v17 h17 v18 h18 v19 h19 K hK
                  have p0 := (hx.cell (p := ⟨eb, 0, none⟩) heb).trans e0
                  have p1 := (hx.cell (p := ⟨eb, 1, none⟩) heb).trans e1
                  have p2 := (hx.cell (p := ⟨vb, i, none⟩) hvb).trans hcm
                  simp only [Act.put, List.setIfInBounds_toArray, List.set_cons_zero, List.set_cons_succ] at hK ⊢
                  obtain rfl := (h12 (by decide)).now
                  clear h0 h1 h2 h3 h4 h5 h6 h7 h8 h9 h10 h11 h12 h13 h14 h15 h16 h17 h18 h19
                  go_wp2
                  exact hK _ _ (Ext.refl _) (fun _ _ => rfl)
                · intro wr hx v0 h0 v1 h1 v2 h2 v3 h3 v4 h4 v5 h5 v6 h6 v7 h7 v8 h8 v9 h9 v10 h10 v11 h11 v12 h12 v13 h13 v14 h14 v15 h15 v16 h16 v17 h17 v18 h18 v19 h19 K hK
                  have p0 := (hx.cell (p := ⟨eb, 0, none⟩) heb).trans e0
                  have p1 := (hx.cell (p := ⟨eb, 1, none⟩) heb).trans e1
                  have p2 := (hx.cell (p := ⟨vb, i, none⟩) hvb).trans hcm
                  simp only [Act.put, List.setIfInBounds_toArray, List.set_cons_zero, List.set_cons_succ] at hK ⊢
                  obtain rfl := (h13 (by decide)).now
                  clear h0 h1 h2 h3 h4 h5 h6 h7 h8 h9 h10 h11 h12 h13 h14 h15 h16 h17 h18 h19
                  go_wp2
                  exact hK _ _ (Ext.refl _) (fun _ _ => rfl)
                · intro wr hx v0 h0 v1 h1 v2 h2 v3 h3 v4 h4 v5 h5 v6 h6 v7 h7 v8 h8 v9 h9 v10 h10 v11 h11 v12 h12 v13 h13 v14 h14 v15 h15 v16 h16 v17 h17 v18 h18 v19 h19 K hK
                  have p0 := (hx.cell (p := ⟨eb, 0, none⟩) heb).trans e0
                  have p1 := (hx.cell (p := ⟨eb, 1, none⟩) heb).trans e1
                  have p2 := (hx.cell (p := ⟨vb, i, none⟩) hvb).trans hcm
                  simp only [Act.put, List.setIfInBounds_toArray, List.set_cons_zero, List.set_cons_succ] at hK ⊢
                  obtain rfl := (h13 (by decide)).now
                  clear h0 h1 h2 h3 h4 h5 h6 h7 h8 h9 h10 h11 h12 h13 h14 h15 h16 h17 h18 h19
                  go_wp2
                  exact hK _ _ (Ext.refl _) (fun _ _ => rfl)
                · intro wr hx v0 h0 v1 h1 v2 h2 v3 h3 v4 h4 v5 h5 v6 h6 v7 h7 v8 h8 v9 h9 v10 h10 v11 h11 v12 h12 v13 h13 v14 h14 v15 h15 v16 h16 v17 h17 v18 h18 v19 h19 K hK
                  have p0 := (hx.cell (p := ⟨eb, 0, none⟩) heb).trans e0
                  have p1 := (hx.cell (p := ⟨eb, 1, none⟩) heb).trans e1
                  have p2 := (hx.cell (p := ⟨vb, i, none⟩) hvb).trans hcm
                  simp only [Act.put, List.setIfInBounds_toArray, List.set_cons_zero, List.set_cons_succ] at hK ⊢
                  obtain rfl := (h13 (by decide)).now
                  obtain rfl := (h15 (by decide)).now
                  clear h0 h1 h2 h3 h4 h5 h6 h7 h8 h9 h10 h11 h12 h13 h14 h15 h16 h17 h18 h19
                  go_wp2
                  exact hK _ _ (Ext.refl _) (fun _ _ => rfl)
                · intro wr hx v0 h0 v1 h1 v2 h2 v3 h3 v4 h4 v5 h5 v6 h6 v7 h7 v8 h8 v9 h9 v10 h10 v11 h11 v12 h12 v13 h13 v14 h14 v15 h15 v16 h16 v17 h17 v18 h18 v19 h19 K hK
                  have p0 := (hx.cell (p := ⟨eb, 0, none⟩) heb).trans e0
                  have p1 := (hx.cell (p := ⟨eb, 1, none⟩) heb).trans e1
                  have p2 := (hx.cell (p := ⟨vb, i, none⟩) hvb).trans hcm
                  simp only [Act.put, List.setIfInBounds_toArray, List.set_cons_zero, List.set_cons_succ] at hK ⊢
                  obtain rfl := (h13 (by decide)).now
                  obtain rfl := (h14 (by decide)).now
                  obtain rfl := (h16 (by decide)).now
                  clear h0 h1 h2 h3 h4 h5 h6 h7 h8 h9 h10 h11 h12 h13 h14 h15 h16 h17 h18 h19
                  go_wp2_with fail
                  refine (in_any wr _ _ n5 d5 _ x (MIS.out.step hx)).mono ?_
                  rintro e w' ⟨rfl, rfl⟩
                  rw [HBQ.out]
                  go_wp2
                  exact hK _ _ (Ext.refl _) (fun _ _ => rfl)
                · intro wr hx v0 h0 v1 h1 v2 h2 v3 h3 v4 h4 v5 h5 v6 h6 v7 h7 v8 h8 v9 h9 v10 h10 v11 h11 v12 h12 v13 h13 v14 h14 v15 h15 v16 h16 v17 h17 v18 h18 v19 h19 K hK
                  have p0 := (hx.cell (p := ⟨eb, 0, none⟩) heb).trans e0
                  have p1 := (hx.cell (p := ⟨eb, 1, none⟩) heb).trans e1
                  have p2 := (hx.cell (p := ⟨vb, i, none⟩) hvb).trans hcm
                  simp only [Act.put, List.setIfInBounds_toArray, List.set_cons_zero, List.set_cons_succ] at hK ⊢
                  obtain rfl := (h13 (by decide)).now
                  obtain rfl := (h17 (by decide)).now
                  clear h0 h1 h2 h3 h4 h5 h6 h7 h8 h9 h10 h11 h12 h13 h14 h15 h16 h17 h18 h19
                  go_wp2
                  exact hK _ _ (Ext.refl _) (fun _ _ => rfl)
                · intro wr hx v0 h0 v1 h1 v2 h2 v3 h3 v4 h4 v5 h5 v6 h6 v7 h7 v8 h8 v9 h9 v10 h10 v11 h11 v12 h12 v13 h13 v14 h14 v15 h15 v16 h16 v17 h17 v18 h18 v19 h19 K hK
                  have p0 := (hx.cell (p := ⟨eb, 0, none⟩) heb).trans e0
                  have p1 := (hx.cell (p := ⟨eb, 1, none⟩) heb).trans e1
                  have p2 := (hx.cell (p := ⟨vb, i, none⟩) hvb).trans hcm
                  simp only [Act.put, List.setIfInBounds_toArray, List.set_cons_zero, List.set_cons_succ] at hK ⊢
                  obtain rfl := (h13 (by decide)).now
                  obtain rfl := (h18 (by decide)).now
                  clear h0 h1 h2 h3 h4 h5 h6 h7 h8 h9 h10 h11 h12 h13 h14 h15 h16 h17 h18 h19
                  go_wp2
                  exact hK _ _ (Ext.refl _) (fun _ _ => rfl)
                intro w8 hx v0 h0 v1 h1 v2 h2 v3 h3 v4 h4 v5 h5 v6 h6 v7 h7 v8 h8 v9 h9 v10 h10 v11 h11 v12 h12 v13 h13 v14 h14 v15 h15 v16 h16 v17 h17 v18 h18 v19 h19
                have p0 := (hx.cell (p := ⟨eb, 0, none⟩) heb).trans e0
                have p1 := (hx.cell (p := ⟨eb, 1, none⟩) heb).trans e1
                have p2 := (hx.cell (p := ⟨vb, i, none⟩) hvb).trans hcm
                obtain rfl := h19.now
                clear h0 h1 h2 h3 h4 h5 h6 h7 h8 h9 h10 h11 h12 h13 h14 h15 h16 h17 h18 h19
                refine tail_none (by kernel_rfl) ?_
                simp only [Act.put, List.setIfInBounds_toArray, List.set_cons_zero, List.set_cons_succ]
                have HED := Lib.hid (HED.out.later hx)
                have HOW := Lib.hid (HOW.out.later hx)
                cases bq with
                | true =>
                  have H2X : Hid (y = (M).getD i 0 → x ∈ M) := Lib.hid fun _ => of_decide_eq_true HBQ.out
                  clear e0 e1 heb hcm hvb hx
                  go_wp2
                  go_roundw
                  case rel => exact ⟨k + 1, by omega, by go_num, _, HOW.out, SP.out.step HKL.out HQ.out HEN.out H1Y.out H2X.out, HZ.out⟩
                  case measure => simp [intOf]; omega
                | false =>
                  have hml : Hid (M.length + 1 ≤ 1000000000000) := Lib.hid (by have := (SP.out.out.small HP.out HR.out).1; omega)
                  have HNY := Lib.hid (show x ∉ M from fun h => by have := HBQ.out; rw [decide_eq_true h] at this; cases this)
                  have SP2 := Lib.hid (SP.out.push HNY.out (SP.out.hang2 HP.out HQM.out HEN.out (HYZ.out.trans HZ.out.symm)))
                  have HZ2 : Hid ((M ++ [x]).getD i 0 = z) := Lib.hid (by rw [getD_app SP.out.lt]; exact HZ.out)
                  obtain ⟨d0, d1⟩ : w8.cell? ⟨eb, 0, none⟩ = some (.int .i64 x) ∧ w8.cell? ⟨eb, 1, none⟩ = some (.int .i64 y) := ⟨HED.out.c0, HED.out.c1⟩
                  clear e0 e1 heb hcm hvb hx
                  go_wp2_with (with_reducible show wpList _ _ _ (Oper.mk (some 87) _ _ _ _ _ :: _) _ _; go_must (refine wpList_append_one (v := .slice (some ⟨vb, 0, none⟩) n5 d5) (w0 := w1) rfl _ _ rfl rfl HOW.out _ hx64 rfl hml.out ?_; intro v9 w9 hown9 hg9 _; have HED9 := Lib.hid (HED.out.pushed HOW.out hg9); have HOW9 := Lib.hid hown9; obtain ⟨vb, n5, d5, rfl, k1, k2, k3, k4, k5, k6⟩ := hown9.place (show i < (M ++ [x]).length by rw [List.length_append]; have := SP.out.lt; omega); obtain ⟨d0, d1⟩ := edge_cells HED9.out; clear k1 k2 k3 k4 k5 k6))
                  go_roundw
                  case rel =>
                    refine ⟨k + 1, by omega, by go_num, _, HOW9.out, SP2.out.step HKL.out HQ.out HEN.out (fun e => ?_) (fun _ => by simp), HZ2.out⟩
                    rw [HZ2.out, ← HZ.out] at e
                    exact List.mem_append_left _ (H1Y.out e)
                  case measure => simp [intOf]; omega
              · have hyz' : (y == z) = false := beq_eq_false_iff_ne.2 hyz
                have H2X : Hid (y = (M).getD i 0 → x ∈ M) := Lib.hid fun e => absurd (e.trans HZ.out) hyz
                clear hyz
                refine wp_region_rel 20 [[],[0],[],[],[2,3],[2,3,4],[0,1,2,3,4,5],[0,1,2,3,4,5,6],[0,1,2,3,4,5,6,7],[0,1,2,3,4,5,6,7,8],[0,1,2,3,4,5,6,7],[0,1,2,3,4,5,6,7,8,9,10],[0,1,2,3,4,5,6,7,8,9,10,11],[0,1,2,3,4,5,6,7,8,9,10,11,12],[0,1,2,3,4,5,6,7,8,9,10,11,12,13],[0,1,2,3,4,5,6,7,8,9,10,11,12,13],[0,1,2,3,4,5,6,7,8,9,10,11,12,13,15],[0,1,2,3,4,5,6,7,8,9,10,11,12,13,14,15,16],[0,1,2,3,4,5,6,7,8,9,10,11,12,13,14,15,16,17],[0,1,2,3,4,5,6,7,8,9,10,11,12,13,14,15,16,17,18]]
                  [fun x_ _ => x_ = .pointer (some ⟨eb, 1, none⟩),
                   fun x_ _ => x_ = .int .i64 y,
                   fun x_ _ => x_ = .slice (some ⟨vb, 0, none⟩) n5 d5,
                   fun x_ _ => x_ = .int .i64 i,
                   fun x_ _ => x_ = .pointer (some ⟨vb, i, none⟩),
                   fun x_ _ => x_ = .int .i64 z,
                   fun x_ _ => x_ = .bool false,
                   fun x_ _ => x_ = .bool false,
                   fun _ _ => True,
                   fun _ _ => True,
                   fun _ _ => True,
                   fun _ _ => True,
                   fun x_ _ => x_ = .bool false,
                   fun x_ _ => x_ = .bool false,
                   fun _ _ => True,
                   fun _ _ => True,
                   fun _ _ => True,
                   fun _ _ => True,
                   fun _ _ => True,
                   fun x_ _ => x_ = .bool false]
                  (by kernel_rfl) (by kernel_rfl) rfl ⟨?_, ?_, ?_, ?_, ?_, ?_, ?_, ?_, ?_, ?_, ?_, ?_, ?_, ?_, ?_, ?_, ?_, ?_, ?_, ?_, trivial⟩ ?_
                · intro wr hx v0 h0 v1 h1 v2 h2 v3 h3 v4 h4 v5 h5 v6 h6 v7 h7 v8 h8 v9 h9 v10 h10 v11 h11 v12 h12 v13 h13 v14 h14 v15 h15 v16 h16 v17 h17 v18 h18 v19 h19 K hK
                  have p0 := (hx.cell (p := ⟨eb, 0, none⟩) heb).trans e0
                  have p1 := (hx.cell (p := ⟨eb, 1, none⟩) heb).trans e1
                  have p2 := (hx.cell (p := ⟨vb, i, none⟩) hvb).trans hcm
                  simp only [Act.put, List.setIfInBounds_toArray, List.set_cons_zero, List.set_cons_succ] at hK ⊢
                  clear h0 h1 h2 h3 h4 h5 h6 h7 h8 h9 h10 h11 h12 h13 h14 h15 h16 h17 h18 h19
                  go_wp2
                  exact hK _ _ (Ext.refl _) (fun _ _ => rfl)
                · intro wr hx v0 h0 v1 h1 v2 h2 v3 h3 v4 h4 v5 h5 v6 h6 v7 h7 v8 h8 v9 h9 v10 h10 v11 h11 v12 h12 v13 h13 v14 h14 v15 h15 v16 h16 v17 h17 v18 h18 v19 h19 K hK
                  have p0 := (hx.cell (p := ⟨eb, 0, none⟩) heb).trans e0
                  have p1 := (hx.cell (p := ⟨eb, 1, none⟩) heb).trans e1
                  have p2 := (hx.cell (p := ⟨vb, i, none⟩) hvb).trans hcm
                  simp only [Act.put, List.setIfInBounds_toArray, List.set_cons_zero, List.set_cons_succ] at hK ⊢
                  obtain rfl := (h0 (by decide)).now
                  clear h0 h1 h2 h3 h4 h5 h6 h7 h8 h9 h10 h11 h12 h13 h14 h15 h16 h17 h18 h19
                  go_wp2
                  exact hK _ _ (Ext.refl _) (fun _ _ => rfl)
                · intro wr hx v0 h0 v1 h1 v2 h2 v3 h3 v4 h4 v5 h5 v6 h6 v7 h7 v8 h8 v9 h9 v10 h10 v11 h11 v12 h12 v13 h13 v14 h14 v15 h15 v16 h16 v17 h17 v18 h18 v19 h19 K hK
                  have p0 := (hx.cell (p := ⟨eb, 0, none⟩) heb).trans e0
                  have p1 := (hx.cell (p := ⟨eb, 1, none⟩) heb).trans e1
                  have p2 := (hx.cell (p := ⟨vb, i, none⟩) hvb).trans hcm
                  simp only [Act.put, List.setIfInBounds_toArray, List.set_cons_zero, List.set_cons_succ] at hK ⊢
                  clear h0 h1 h2 h3 h4 h5 h6 h7 h8 h9 h10 h11 h12 h13 h14 h15 h16 h17 h18 h19
                  go_wp2
                  exact hK _ _ (Ext.refl _) (fun _ _ => rfl)
                · intro wr hx v0 h0 v1 h1 v2 h2 v3 h3 v4 h4 v5 h5 v6 h6 v7 h7 v8 h8 v9 h9 v10 h10 v11 h11 v12 h12 v13 h13 v14 h14 v15 h15 v16 h16 v17 h17 v18 h18 v19 h19 K hK
                  have p0 := (hx.cell (p := ⟨eb, 0, none⟩) heb).trans e0
                  have p1 := (hx.cell (p := ⟨eb, 1, none⟩) heb).trans e1
                  have p2 := (hx.cell (p := ⟨vb, i, none⟩) hvb).trans hcm
                  simp only [Act.put, List.setIfInBounds_toArray, List.set_cons_zero, List.set_cons_succ] at hK ⊢
                  clear h0 h1 h2 h3 h4 h5 h6 h7 h8 h9 h10 h11 h12 h13 h14 h15 h16 h17 h18 h19
                  go_wp2
                  exact hK _ _ (Ext.refl _) (fun _ _ => rfl)
                · intro wr hx v0 h0 v1 h1 v2 h2 v3 h3 v4 h4 v5 h5 v6 h6 v7 h7 v8 h8 v9 h9 v10 h10 v11 h11 v12 h12 v13 h13 v14 h14 v15 h15 v16 h16 v17 h17 v18 h18 v19 h19 K hK
                  have p0 := (hx.cell (p := ⟨eb, 0, none⟩) heb).trans e0
                  have p1 := (hx.cell (p := ⟨eb, 1, none⟩) heb).trans e1
                  have p2 := (hx.cell (p := ⟨vb, i, none⟩) hvb).trans hcm
                  simp only [Act.put, List.setIfInBounds_toArray, List.set_cons_zero, List.set_cons_succ] at hK ⊢
                  obtain rfl := (h2 (by decide)).now
                  obtain rfl := (h3 (by decide)).now
                  clear h0 h1 h2 h3 h4 h5 h6 h7 h8 h9 h10 h11 h12 h13 h14 h15 h16 h17 h18 h19
                  go_wp2
                  exact hK _ _ (Ext.refl _) (fun _ _ => rfl)
                · intro wr hx v0 h0 v1 h1 v2 h2 v3 h3 v4 h4 v5 h5 v6 h6 v7 h7 v8 h8 v9 h9 v10 h10 v11 h11 v12 h12 v13 h13 v14 h14 v15 h15 v16 h16 v17 h17 v18 h18 v19 h19 K hK
                  have p0 := (hx.cell (p := ⟨eb, 0, none⟩) heb).trans e0
                  have p1 := (hx.cell (p := ⟨eb, 1, none⟩) heb).trans e1
                  have p2 := (hx.cell (p := ⟨vb, i, none⟩) hvb).trans hcm
                  simp only [Act.put, List.setIfInBounds_toArray, List.set_cons_zero, List.set_cons_succ] at hK ⊢
                  obtain rfl := (h4 (by decide)).now
                  clear h0 h1 h2 h3 h4 h5 h6 h7 h8 h9 h10 h11 h12 h13 h14 h15 h16 h17 h18 h19
                  go_wp2
                  exact hK _ _ (Ext.refl _) (fun _ _ => rfl)
                · intro wr hx v0 h0 v1 h1 v2 h2 v3 h3 v4 h4 v5 h5 v6 h6 v7 h7 v8 h8 v9 h9 v10 h10 v11 h11 v12 h12 v13 h13 v14 h14 v15 h15 v16 h16 v17 h17 v18 h18 v19 h19 K hK
                  have p0 := (hx.cell (p := ⟨eb, 0, none⟩) heb).trans e0
                  have p1 := (hx.cell (p := ⟨eb, 1, none⟩) heb).trans e1
                  have p2 := (hx.cell (p := ⟨vb, i, none⟩) hvb).trans hcm
                  simp only [Act.put, List.setIfInBounds_toArray, List.set_cons_zero, List.set_cons_succ] at hK ⊢
                  obtain rfl := (h1 (by decide)).now
                  obtain rfl := (h5 (by decide)).now
                  clear h0 h1 h2 h3 h4 h5 h6 h7 h8 h9 h10 h11 h12 h13 h14 h15 h16 h17 h18 h19
                  go_wp2
                  exact hK _ _ (Ext.refl _) (fun _ _ => rfl)
                · intro wr hx v0 h0 v1 h1 v2 h2 v3 h3 v4 h4 v5 h5 v6 h6 v7 h7 v8 h8 v9 h9 v10 h10 v11 h11 v12 h12 v13 h13 v14 h14 v15 h15 v16 h16 v17 h17 v18 h18 v19 h19 K hK
                  have p0 := (hx.cell (p := ⟨eb, 0, none⟩) heb).trans e0
                  have p1 := (hx.cell (p := ⟨eb, 1, none⟩) heb).trans e1
                  have p2 := (hx.cell (p := ⟨vb, i, none⟩) hvb).trans hcm
                  simp only [Act.put, List.setIfInBounds_toArray, List.set_cons_zero, List.set_cons_succ] at hK ⊢
                  obtain rfl := (h6 (by decide)).now
                  clear h0 h1 h2 h3 h4 h5 h6 h7 h8 h9 h10 h11 h12 h13 h14 h15 h16 h17 h18 h19
                  go_wp2
                  exact hK _ _ (Ext.refl _) (fun _ _ => rfl)
                · intro wr hx v0 h0 v1 h1 v2 h2 v3 h3 v4 h4 v5 h5 v6 h6 v7 h7 v8 h8 v9 h9 v10 h10 v11 h11 v12 h12 v13 h13 v14 h14 v15 h15 v16 h16 v17 h17 v18 h18 v19 h19 K hK
                  have p0 := (hx.cell (p := ⟨eb, 0, none⟩) heb).trans e0
                  have p1 := (hx.cell (p := ⟨eb, 1, none⟩) heb).trans e1
                  have p2 := (hx.cell (p := ⟨vb, i, none⟩) hvb).trans hcm
                  simp only [Act.put, List.setIfInBounds_toArray, List.set_cons_zero, List.set_cons_succ] at hK ⊢
                  obtain rfl := (h7 (by decide)).now
                  clear h0 h1 h2 h3 h4 h5 h6 h7 h8 h9 h10 h11 h12 h13 h14 h15 h16 h17 h18 h19
                  go_wp2
                  exact hK _ _ (Ext.refl _) (fun _ _ => trivial)
                · intro wr hx v0 h0 v1 h1 v2 h2 v3 h3 v4 h4 v5 h5 v6 h6 v7 h7 v8 h8 v9 h9 v10 h10 v11 h11 v12 h12 v13 h13 v14 h14 v15 h15 v16 h16 v17 h17 v18 h18 v19 h19 K hK
                  have p0 := (hx.cell (p := ⟨eb, 0, none⟩) heb).trans e0
                  have p1 := (hx.cell (p := ⟨eb, 1, none⟩) heb).trans e1
                  have p2 := (hx.cell (p := ⟨vb, i, none⟩) hvb).trans hcm
                  simp only [Act.put, List.setIfInBounds_toArray, List.set_cons_zero, List.set_cons_succ] at hK ⊢
                  obtain rfl := (h7 (by decide)).now
                  clear h0 h1 h2 h3 h4 h5 h6 h7 h8 h9 h10 h11 h12 h13 h14 h15 h16 h17 h18 h19
                  go_wp2
                  exact hK _ _ (Ext.refl _) (fun _ _ => trivial)
                · intro wr hx v0 h0 v1 h1 v2 h2 v3 h3 v4 h4 v5 h5 v6 h6 v7 h7 v8 h8 v9 h9 v10 h10 v11 h11 v12 h12 v13 h13 v14 h14 v15 h15 v16 h16 v17 h17 v18 h18 v19 h19 K hK
                  have p0 := (hx.cell (p := ⟨eb, 0, none⟩) heb).trans e0
                  have p1 := (hx.cell (p := ⟨eb, 1, none⟩) heb).trans e1
                  have p2 := (hx.cell (p := ⟨vb, i, none⟩) hvb).trans hcm
                  simp only [Act.put, List.setIfInBounds_toArray, List.set_cons_zero, List.set_cons_succ] at hK ⊢
                  obtain rfl := (h7 (by decide)).now
                  clear h0 h1 h2 h3 h4 h5 h6 h7 h8 h9 h10 h11 h12 h13 h14 h15 h16 h17 h18 h19
                  go_wp2
                  exact hK _ _ (Ext.refl _) (fun _ _ => trivial)
                · intro wr hx v0 h0 v1 h1 v2 h2 v3 h3 v4 h4 v5 h5 v6 h6 v7 h7 v8 h8 v9 h9 v10 h10 v11 h11 v12 h12 v13 h13 v14 h14 v15 h15 v16 h16 v17 h17 v18 h18 v19 h19 K hK
                  have p0 := (hx.cell (p := ⟨eb, 0, none⟩) heb).trans e0
                  have p1 := (hx.cell (p := ⟨eb, 1, none⟩) heb).trans e1
                  have p2 := (hx.cell (p := ⟨vb, i, none⟩) hvb).trans hcm
                  simp only [Act.put, List.setIfInBounds_toArray, List.set_cons_zero, List.set_cons_succ] at hK ⊢
                  obtain rfl := (h7 (by decide)).now
                  clear h0 h1 h2 h3 h4 h5 h6 h7 h8 h9 h10 h11 h12 h13 h14 h15 h16 h17 h18 h19
                  go_wp2
                  exact hK _ _ (Ext.refl _) (fun _ _ => trivial)
                · intro wr hx v0 h0 v1 h1 v2 h2 v3 h3 v4 h4 v5 h5 v6 h6 v7 h7 v8 h8 v9 h9 v10 h10 v11 h11 v12 h12 v13 h13 v14 h14 v15 h15 v16 h16 v17 h17 v18 h18 v19 h19 K hK
                  have p0 := (hx.cell (p := ⟨eb, 0, none⟩) heb).trans e0
                  have p1 := (hx.cell (p := ⟨eb, 1, none⟩) heb).trans e1
                  have p2 := (hx.cell (p := ⟨vb, i, none⟩) hvb).trans hcm
                  simp only [Act.put, List.setIfInBounds_toArray, List.set_cons_zero, List.set_cons_succ] at hK ⊢
                  obtain rfl := (h7 (by decide)).now
                  clear h0 h1 h2 h3 h4 h5 h6 h7 h8 h9 h10 h11 h12 h13 h14 h15 h16 h17 h18 h19
                  go_wp2
                  exact hK _ _ (Ext.refl _) (fun _ _ => rfl)
                · intro wr hx v0 h0 v1 h1 v2 h2 v3 h3 v4 h4 v5 h5 v6 h6 v7 h7 v8 h8 v9 h9 v10 h10 v11 h11 v12 h12 v13 h13 v14 h14 v15 h15 v16 h16 v17 h17 v18 h18 v19 h19 K hK
                  have p0 := (hx.cell (p := ⟨eb, 0, none⟩) heb).trans e0
                  have p1 := (hx.cell (p := ⟨eb, 1, none⟩) heb).trans e1
                  have p2 := (hx.cell (p := ⟨vb, i, none⟩) hvb).trans hcm
                  simp only [Act.put, List.setIfInBounds_toArray, List.set_cons_zero, List.set_cons_succ] at hK ⊢
                  obtain rfl := (h12 (by decide)).now
                  clear h0 h1 h2 h3 h4 h5 h6 h7 h8 h9 h10 h11 h12 h13 h14 h15 h16 h17 h18 h19
                  go_wp2
                  exact hK _ _ (Ext.refl _) (fun _ _ => rfl)
                · intro wr hx v0 h0 v1 h1 v2 h2 v3 h3 v4 h4 v5 h5 v6 h6 v7 h7 v8 h8 v9 h9 v10 h10 v11 h11 v12 h12 v13 h13 v14 h14 v15 h15 v16 h16 v17 h17 v18 h18 v19 h19 K hK
                  have p0 := (hx.cell (p := ⟨eb, 0, none⟩) heb).trans e0
                  have p1 := (hx.cell (p := ⟨eb, 1, none⟩) heb).trans e1
                  have p2 := (hx.cell (p := ⟨vb, i, none⟩) hvb).trans hcm
                  simp only [Act.put, List.setIfInBounds_toArray, List.set_cons_zero, List.set_cons_succ] at hK ⊢
                  obtain rfl := (h13 (by decide)).now
                  clear h0 h1 h2 h3 h4 h5 h6 h7 h8 h9 h10 h11 h12 h13 h14 h15 h16 h17 h18 h19
                  go_wp2
                  exact hK _ _ (Ext.refl _) (fun _ _ => trivial)
                · intro wr hx v0 h0 v1 h1 v2 h2 v3 h3 v4 h4 v5 h5 v6 h6 v7 h7 v8 h8 v9 h9 v10 h10 v11 h11 v12 h12 v13 h13 v14 h14 v15 h15 v16 h16 v17 h17 v18 h18 v19 h19 K hK
                  have p0 := (hx.cell (p := ⟨eb, 0, none⟩) heb).trans e0
                  have p1 := (hx.cell (p := ⟨eb, 1, none⟩) heb).trans e1
                  have p2 := (hx.cell (p := ⟨vb, i, none⟩) hvb).trans hcm
                  simp only [Act.put, List.setIfInBounds_toArray, List.set_cons_zero, List.set_cons_succ] at hK ⊢
                  obtain rfl := (h13 (by decide)).now
                  clear h0 h1 h2 h3 h4 h5 h6 h7 h8 h9 h10 h11 h12 h13 h14 h15 h16 h17 h18 h19
                  go_wp2
                  exact hK _ _ (Ext.refl _) (fun _ _ => trivial)
                · intro wr hx v0 h0 v1 h1 v2 h2 v3 h3 v4 h4 v5 h5 v6 h6 v7 h7 v8 h8 v9 h9 v10 h10 v11 h11 v12 h12 v13 h13 v14 h14 v15 h15 v16 h16 v17 h17 v18 h18 v19 h19 K hK
                  have p0 := (hx.cell (p := ⟨eb, 0, none⟩) heb).trans e0
                  have p1 := (hx.cell (p := ⟨eb, 1, none⟩) heb).trans e1
                  have p2 := (hx.cell (p := ⟨vb, i, none⟩) hvb).trans hcm
                  simp only [Act.put, List.setIfInBounds_toArray, List.set_cons_zero, List.set_cons_succ] at hK ⊢
                  obtain rfl := (h13 (by decide)).now
                  clear h0 h1 h2 h3 h4 h5 h6 h7 h8 h9 h10 h11 h12 h13 h14 h15 h16 h17 h18 h19
                  go_wp2
                  exact hK _ _ (Ext.refl _) (fun _ _ => trivial)
                · intro wr hx v0 h0 v1 h1 v2 h2 v3 h3 v4 h4 v5 h5 v6 h6 v7 h7 v8 h8 v9 h9 v10 h10 v11 h11 v12 h12 v13 h13 v14 h14 v15 h15 v16 h16 v17 h17 v18 h18 v19 h19 K hK
                  have p0 := (hx.cell (p := ⟨eb, 0, none⟩) heb).trans e0
                  have p1 := (hx.cell (p := ⟨eb, 1, none⟩) heb).trans e1
                  have p2 := (hx.cell (p := ⟨vb, i, none⟩) hvb).trans hcm
                  simp only [Act.put, List.setIfInBounds_toArray, List.set_cons_zero, List.set_cons_succ] at hK ⊢
                  obtain rfl := (h13 (by decide)).now
                  clear h0 h1 h2 h3 h4 h5 h6 h7 h8 h9 h10 h11 h12 h13 h14 h15 h16 h17 h18 h19
                  go_wp2
                  exact hK _ _ (Ext.refl _) (fun _ _ => trivial)
                · intro wr hx v0 h0 v1 h1 v2 h2 v3 h3 v4 h4 v5 h5 v6 h6 v7 h7 v8 h8 v9 h9 v10 h10 v11 h11 v12 h12 v13 h13 v14 h14 v15 h15 v16 h16 v17 h17 v18 h18 v19 h19 K hK
                  have p0 := (hx.cell (p := ⟨eb, 0, none⟩) heb).trans e0
                  have p1 := (hx.cell (p := ⟨eb, 1, none⟩) heb).trans e1
                  have p2 := (hx.cell (p := ⟨vb, i, none⟩) hvb).trans hcm
                  simp only [Act.put, List.setIfInBounds_toArray, List.set_cons_zero, List.set_cons_succ] at hK ⊢
                  obtain rfl := (h13 (by decide)).now
                  clear h0 h1 h2 h3 h4 h5 h6 h7 h8 h9 h10 h11 h12 h13 h14 h15 h16 h17 h18 h19
                  go_wp2
                  exact hK _ _ (Ext.refl _) (fun _ _ => trivial)
                · intro wr hx v0 h0 v1 h1 v2 h2 v3 h3 v4 h4 v5 h5 v6 h6 v7 h7 v8 h8 v9 h9 v10 h10 v11 h11 v12 h12 v13 h13 v14 h14 v15 h15 v16 h16 v17 h17 v18 h18 v19 h19 K hK
                  have p0 := (hx.cell (p := ⟨eb, 0, none⟩) heb).trans e0
                  have p1 := (hx.cell (p := ⟨eb, 1, none⟩) heb).trans e1
                  have p2 := (hx.cell (p := ⟨vb, i, none⟩) hvb).trans hcm
                  simp only [Act.put, List.setIfInBounds_toArray, List.set_cons_zero, List.set_cons_succ] at hK ⊢
                  obtain rfl := (h13 (by decide)).now
                  clear h0 h1 h2 h3 h4 h5 h6 h7 h8 h9 h10 h11 h12 h13 h14 h15 h16 h17 h18 h19
                  go_wp2
                  exact hK _ _ (Ext.refl _) (fun _ _ => rfl)
                intro w8 hx v0 h0 v1 h1 v2 h2 v3 h3 v4 h4 v5 h5 v6 h6 v7 h7 v8 h8 v9 h9 v10 h10 v11 h11 v12 h12 v13 h13 v14 h14 v15 h15 v16 h16 v17 h17 v18 h18 v19 h19
                have p0 := (hx.cell (p := ⟨eb, 0, none⟩) heb).trans e0
                have p1 := (hx.cell (p := ⟨eb, 1, none⟩) heb).trans e1
                have p2 := (hx.cell (p := ⟨vb, i, none⟩) hvb).trans hcm
                obtain rfl := h19.now
                clear h0 h1 h2 h3 h4 h5 h6 h7 h8 h9 h10 h11 h12 h13 h14 h15 h16 h17 h18 h19
                refine tail_none (by kernel_rfl) ?_
                simp only [Act.put, List.setIfInBounds_toArray, List.set_cons_zero, List.set_cons_succ]
                have HED := Lib.hid (HED.out.later hx)
                have HOW := Lib.hid (HOW.out.later hx)
                clear e0 e1 heb hcm hvb hx
                go_wp2
                go_roundw
                case rel => exact ⟨k + 1, by omega, by go_num, _, HOW.out, SP.out.step HKL.out HQ.out HEN.out H1Y.out H2X.out, HZ.out⟩
                case measure => simp [intOf]; omega
            | false =>
              have hml : Hid (M.length + 1 ≤ 1000000000000) := Lib.hid (by have := (SP.out.out.small HP.out HR.out).1; omega)
              have HNY := Lib.hid (show y ∉ M from fun h => by have := HBQ.out; rw [decide_eq_true h] at this; cases this)
              have SP2 := Lib.hid (SP.out.push HNY.out (SP.out.hang1 HP.out HQM.out HEN.out (HXZ.out.trans HZ.out.symm)))
              have HZ2 : Hid ((M ++ [y]).getD i 0 = z) := Lib.hid (by rw [getD_app SP.out.lt]; exact HZ.out)
              obtain ⟨d0, d1⟩ : w8.cell? ⟨eb, 0, none⟩ = some (.int .i64 x) ∧ w8.cell? ⟨eb, 1, none⟩ = some (.int .i64 y) := ⟨HED.out.c0, HED.out.c1⟩
              clear e0 e1 heb hcm hvb hx
              go_wp2_with (with_reducible show wpList _ _ _ (Oper.mk (some 62) _ _ _ _ _ :: _) _ _; go_must (refine wpList_append_one (v := .slice (some ⟨vb, 0, none⟩) n5 d5) (w0 := w1) rfl _ _ rfl rfl HOW.out _ hy64 rfl hml.out ?_; intro v9 w9 hown9 hg9 _; have HED9 := Lib.hid (HED.out.pushed HOW.out hg9); have HOW9 := Lib.hid hown9; obtain ⟨vb, n5, d5, rfl, k1, k2, k3, k4, k5, k6⟩ := hown9.place (show i < (M ++ [y]).length by rw [List.length_append]; have := SP.out.lt; omega); obtain ⟨d0, d1⟩ := edge_cells HED9.out; clear k1 k2 k3 k4 k5 k6))
              have HED := HED9
              have HOW := HOW9
              obtain ⟨M2, hM2⟩ : ∃ M2, M ++ [y] = M2 := ⟨_, rfl⟩
              have H1Y : Hid (x = M2.getD i 0 → y ∈ M2) := Lib.hid fun _ => by rw [← hM2]; simp
              rw [hM2] at HOW SP2 HZ2
              have SP := SP2
              have HZ := HZ2
              clear hM2 d0 d1 hxz'
              obtain ⟨hn5, hd5, hd6, hvb, hcm, his⟩ := HOW.out.placeAt SP.out.lt
              rw [HZ.out] at hcm
              have e0 := HED.out.c0
              have e1 := HED.out.c1
              have heb := HED.out.lt
              have hil := SP.out.lt
              have i1 : (i : Int) < (n5 : Int) := by omega
              have MIS := Lib.hid his
              clear his hn5
              by_cases hyz : y = z
              · have hyz' : (y == z) = true := beq_iff_eq.2 hyz
                obtain ⟨bq, hbq⟩ : ∃ bq, decide (x ∈ M2) = bq := ⟨_, rfl⟩
                have HBQ := Lib.hid hbq
                have HYZ := Lib.hid hyz
                clear hbq hyz
                refine wp_region_rel 20 [[],[0],[],[],[2,3],[2,3,4],[0,1,2,3,4,5],[0,1,2,3,4,5,6],[0,1,2,3,4,5,6,7],[0,1,2,3,4,5,6,7,8],[0,1,2,3,4,5,6,7],[0,1,2,3,4,5,6,7,8,9,10],[0,1,2,3,4,5,6,7,8,9,10,11],[0,1,2,3,4,5,6,7,8,9,10,11,12],[0,1,2,3,4,5,6,7,8,9,10,11,12,13],[0,1,2,3,4,5,6,7,8,9,10,11,12,13],[0,1,2,3,4,5,6,7,8,9,10,11,12,13,15],[0,1,2,3,4,5,6,7,8,9,10,11,12,13,14,15,16],[0,1,2,3,4,5,6,7,8,9,10,11,12,13,14,15,16,17],[0,1,2,3,4,5,6,7,8,9,10,11,12,13,14,15,16,17,18]]
                  [fun x_ _ => x_ = .pointer (some ⟨eb, 1, none⟩),
                   fun x_ _ => x_ = .int .i64 y,
                   fun x_ _ => x_ = .slice (some ⟨vb, 0, none⟩) n5 d5,
                   fun x_ _ => x_ = .int .i64 i,
                   fun x_ _ => x_ = .pointer (some ⟨vb, i, none⟩),
                   fun x_ _ => x_ = .int .i64 z,
                   fun x_ _ => x_ = .bool true,
                   fun x_ _ => x_ = .bool true,
                   fun x_ _ => x_ = .pointer (some ⟨eb, 0, none⟩),
                   fun x_ _ => x_ = .int .i64 x,
                   fun x_ _ => x_ = .int .i64 (-1),
                   fun x_ _ => x_ = .bool true,
                   fun x_ _ => x_ = .bool true,
                   fun x_ _ => x_ = .bool true,
                   fun x_ _ => x_ = .slice (some ⟨vb, 0, none⟩) n5 d5,
                   fun x_ _ => x_ = .pointer (some ⟨eb, 0, none⟩),
                   fun x_ _ => x_ = .int .i64 x,
                   fun x_ _ => x_ = .bool bq,
                   fun x_ _ => x_ = .bool (!bq),
                   fun x_ _ => x_ = .bool (!bq)]
                  (by kernel_rfl) (by kernel_rfl) rfl ⟨?_, ?_, ?_, ?_, ?_, ?_, ?_, ?_, ?_, ?_, ?_, ?_, ?_, ?_, ?_, ?_, ?_, ?_, ?_, ?_, trivial⟩ ?_
                · intro wr hx v0 h0 v1 h1 v2 h2 v3 h3 v4 h4 v5 h5 v6 h6 v7 h7 v8 h8 v9 h9 v10 h10 v11 h11 v12 h12 v13 h13 v14 h14 v15 h15 v16 h16 v17 h17 v18 h18 v19 h19 K hK
                  have p0 := (hx.cell (p := ⟨eb, 0, none⟩) heb).trans e0
                  have p1 := (hx.cell (p := ⟨eb, 1, none⟩) heb).trans e1
                  have p2 := (hx.cell (p := ⟨vb, i, none⟩) hvb).trans hcm
                  simp only [Act.put, List.setIfInBounds_toArray, List.set_cons_zero, List.set_cons_succ] at hK ⊢
                  clear h0 h1 h2 h3 h4 h5 h6 h7 h8 h9 h10 h11 h12 h13 h14 h15 h16 h17 h18 h19
                  go_wp2
                  exact hK _ _ (Ext.refl _) (fun _ _ => rfl)
                · intro wr hx v0 h0 v1 h1 v2 h2 v3 h3 v4 h4 v5 h5 v6 h6 v7 h7 v8 h8 v9 h9 v10 h10 v11 h11 v12 h12 v13 h13 v14 h14 v15 h15 v16 h16 v17 h17 v18 h18 v19 h19 K hK
                  have p0 := (hx.cell (p := ⟨eb, 0, none⟩) heb).trans e0
                  have p1 := (hx.cell (p := ⟨eb, 1, none⟩) heb).trans e1
                  have p2 := (hx.cell (p := ⟨vb, i, none⟩) hvb).trans hcm
                  simp only [Act.put, List.setIfInBounds_toArray, List.set_cons_zero, List.set_cons_succ] at hK ⊢
                  obtain rfl := (h0 (by decide)).now
                  clear h0 h1 h2 h3 h4 h5 h6 h7 h8 h9 h10 h11 h12 h13 h14 h15 h16 h17 h18 h19
                  go_wp2
                  exact hK _ _ (Ext.refl _) (fun _ _ => rfl)
                · intro wr hx v0 h0 v1 h1 v2 h2 v3 h3 v4 h4 v5 h5 v6 h6 v7 h7 v8 h8 v9 h9 v10 h10 v11 h11 v12 h12 v13 h13 v14 h14 v15 h15 v16 h16 v17 h17 v18 h18 v19 h19 K hK
                  have p0 := (hx.cell (p := ⟨eb, 0, none⟩) heb).trans e0
                  have p1 := (hx.cell (p := ⟨eb, 1, none⟩) heb).trans e1
                  have p2 := (hx.cell (p := ⟨vb, i, none⟩) hvb).trans hcm
                  simp only [Act.put, List.setIfInBounds_toArray, List.set_cons_zero, List.set_cons_succ] at hK ⊢
                  clear h0 h1 h2 h3 h4 h5 h6 h7 h8 h9 h10 h11 h12 h13 h14 h15 h16 h17 h18 h19
                  go_wp2
                  exact hK _ _ (Ext.refl _) (fun _ _ => rfl)
                · intro wr hx v0 h0 v1 h1 v2 h2 v3 h3 v4 h4 v5 h5 v6 h6 v7 h7 v8 h8 v9 h9 v10 h10 v11 h11 v12 h12 v13 h13 v14 h14 v15 h15 v16 h16 v17 h17 v18 h18 v19 h19 K hK
                  have p0 := (hx.cell (p := ⟨eb, 0, none⟩) heb).trans e0
                  have p1 := (hx.cell (p := ⟨eb, 1, none⟩) heb).trans e1
                  have p2 := (hx.cell (p := ⟨vb, i, none⟩) hvb).trans hcm
                  simp only [Act.put, List.setIfInBounds_toArray, List.set_cons_zero, List.set_cons_succ] at hK ⊢
                  clear h0 h1 h2 h3 h4 h5 h6 h7 h8 h9 h10 h11 h12 h13 h14 h15 h16 h17 h18 h19
                  go_wp2
                  exact hK _ _ (Ext.refl _) (fun _ _ => rfl)
                · intro wr hx v0 h0 v1 h1 v2 h2 v3 h3 v4 h4 v5 h5 v6 h6 v7 h7 v8 h8 v9 h9 v10 h10 v11 h11 v12 h12 v13 h13 v14 h14 v15 h15 v16 h16 v17 h17 v18 h18 v19 h19 K hK
                  have p0 := (hx.cell (p := ⟨eb, 0, none⟩) heb).trans e0
                  have p1 := (hx.cell (p := ⟨eb, 1, none⟩) heb).trans e1
                  have p2 := (hx.cell (p := ⟨vb, i, none⟩) hvb).trans hcm
                  simp only [Act.put, List.setIfInBounds_toArray, List.set_cons_zero, List.set_cons_succ] at hK ⊢
                  obtain rfl := (h2 (by decide)).now
                  obtain rfl := (h3 (by decide)).now
                  clear h0 h1 h2 h3 h4 h5 h6 h7 h8 h9 h10 h11 h12 h13 h14 h15 h16 h17 h18 h19
                  go_wp2
                  exact hK _ _ (Ext.refl _) (fun _ _ => rfl)
                · intro wr hx v0 h0 v1 h1 v2 h2 v3 h3 v4 h4 v5 h5 v6 h6 v7 h7 v8 h8 v9 h9 v10 h10 v11 h11 v12 h12 v13 h13 v14 h14 v15 h15 v16 h16 v17 h17 v18 h18 v19 h19 K hK
                  have p0 := (hx.cell (p := ⟨eb, 0, none⟩) heb).trans e0
                  have p1 := (hx.cell (p := ⟨eb, 1, none⟩) heb).trans e1
                  have p2 := (hx.cell (p := ⟨vb, i, none⟩) hvb).trans hcm
                  simp only [Act.put, List.setIfInBounds_toArray, List.set_cons_zero, List.set_cons_succ] at hK ⊢
                  obtain rfl := (h4 (by decide)).now
                  clear h0 h1 h2 h3 h4 h5 h6 h7 h8 h9 h10 h11 h12 h13 h14 h15 h16 h17 h18 h19
                  go_wp2
                  exact hK _ _ (Ext.refl _) (fun _ _ => rfl)
                · intro wr hx v0 h0 v1 h1 v2 h2 v3 h3 v4 h4 v5 h5 v6 h6 v7 h7 v8 h8 v9 h9 v10 h10 v11 h11 v12 h12 v13 h13 v14 h14 v15 h15 v16 h16 v17 h17 v18 h18 v19 h19 K hK
                  have p0 := (hx.cell (p := ⟨eb, 0, none⟩) heb).trans e0
                  have p1 := (hx.cell (p := ⟨eb, 1, none⟩) heb).trans e1
                  have p2 := (hx.cell (p := ⟨vb, i, none⟩) hvb).trans hcm
                  simp only [Act.put, List.setIfInBounds_toArray, List.set_cons_zero, List.set_cons_succ] at hK ⊢
                  obtain rfl := (h1 (by decide)).now
                  obtain rfl := (h5 (by decide)).now
                  clear h0 h1 h2 h3 h4 h5 h6 h7 h8 h9 h10 h11 h12 h13 h14 h15 h16 h17 h18 h19
                  go_wp2
                  exact hK _ _ (Ext.refl _) (fun _ _ => rfl)
                · intro wr hx v0 h0 v1 h1 v2 h2 v3 h3 v4 h4 v5 h5 v6 h6 v7 h7 v8 h8 v9 h9 v10 h10 v11 h11 v12 h12 v13 h13 v14 h14 v15 h15 v16 h16 v17 h17 v18 h18 v19 h19 K hK
                  have p0 := (hx.cell (p := ⟨eb, 0, none⟩) heb).trans e0
                  have p1 := (hx.cell (p := ⟨eb, 1, none⟩) heb).trans e1
                  have p2 := (hx.cell (p := ⟨vb, i, none⟩) hvb).trans hcm
                  simp only [Act.put, List.setIfInBounds_toArray, List.set_cons_zero, List.set_cons_succ] at hK ⊢
                  obtain rfl := (h6 (by decide)).now
                  clear h0 h1 h2 h3 h4 h5 h6 h7 h8 h9 h10 h11 h12 h13 h14 h15 h16 h17 h18 h19
                  go_wp2
                  exact hK _ _ (Ext.refl _) (fun _ _ => rfl)
                · intro wr hx v0 h0 v1 h1 v2 h2 v3 h3 v4 h4 v5 h5 v6 h6 v7 h7 v8 h8 v9 h9 v10 h10 v11 h11 v12 h12 v13 h13 v14 h14 v15 h15 v16 h16 v17 h17 v18 h18 v19 h19 K hK
                  have p0 := (hx.cell (p := ⟨eb, 0, none⟩) heb).trans e0
                  have p1 := (hx.cell (p := ⟨eb, 1, none⟩) heb).trans e1
                  have p2 := (hx.cell (p := ⟨vb, i, none⟩) hvb).trans hcm
                  simp only [Act.put, List.setIfInBounds_toArray, List.set_cons_zero, List.set_cons_succ] at hK ⊢
                  obtain rfl := (h7 (by decide)).now
                  clear h0 h1 h2 h3 h4 h5 h6 h7 h8 h9 h10 h11 h12 h13 h14 h15 h16 h17 h18 h19
                  go_wp2
                  exact hK _ _ (Ext.refl _) (fun _ _ => rfl)
                · intro wr hx v0 h0 v1 h1 v2 h2 v3 h3 v4 h4 v5 h5 v6 h6 v7 h7 v8 h8 v9 h9 v10 h10 v11 h11 v12 h12 v13 h13 v14 h14 v15 h15 v16 h16 v17 h17 v18 h18 v19 h19 K hK
                  have p0 := (hx.cell (p := ⟨eb, 0, none⟩) heb).trans e0
                  have p1 := (hx.cell (p := ⟨eb, 1, none⟩) heb).trans e1
                  have p2 := (hx.cell (p := ⟨vb, i, none⟩) hvb).trans hcm
                  simp only [Act.put, List.setIfInBounds_toArray, List.set_cons_zero, List.set_cons_succ] at hK ⊢
                  obtain rfl := (h7 (by decide)).now
                  obtain rfl := (h8 (by decide)).now
                  clear h0 h1 h2 h3 h4 h5 h6 h7 h8 h9 h10 h11 h12 h13 h14 h15 h16 h17 h18 h19
                  go_wp2
                  exact hK _ _ (Ext.refl _) (fun _ _ => rfl)
                · intro wr hx v0 h0 v1 h1 v2 h2 v3 h3 v4 h4 v5 h5 v6 h6 v7 h7 v8 h8 v9 h9 v10 h10 v11 h11 v12 h12 v13 h13 v14 h14 v15 h15 v16 h16 v17 h17 v18 h18 v19 h19 K hK
                  have p0 := (hx.cell (p := ⟨eb, 0, none⟩) heb).trans e0
                  have p1 := (hx.cell (p := ⟨eb, 1, none⟩) heb).trans e1
                  have p2 := (hx.cell (p := ⟨vb, i, none⟩) hvb).trans hcm
                  simp only [Act.put, List.setIfInBounds_toArray, List.set_cons_zero, List.set_cons_succ] at hK ⊢
                  obtain rfl := (h7 (by decide)).now
                  clear h0 h1 h2 h3 h4 h5 h6 h7 h8 h9 h10 h11 h12 h13 h14 h15 h16 h17 h18 h19
                  go_wp2
                  exact hK _ _ (Ext.refl _) (fun _ _ => rfl)
                · intro wr hx v0 h0 v1 h1 v2 h2 v3 h3 v4 h4 v5 h5 v6 h6 v7 h7 v8 h8 v9 h9 v10 h10 v11 h11 v12 h12 v13 h13 v14 h14 v15 h15 v16 h16 v17 h17 v18 h18 v19 h19 K hK
                  have p0 := (hx.cell (p := ⟨eb, 0, none⟩) heb).trans e0
                  have p1 := (hx.cell (p := ⟨eb, 1, none⟩) heb).trans e1
                  have p2 := (hx.cell (p := ⟨vb, i, none⟩) hvb).trans hcm
                  simp only [Act.put, List.setIfInBounds_toArray, List.set_cons_zero, List.set_cons_succ] at hK ⊢
                  obtain rfl := (h7 (by decide)).now
                  obtain rfl := (h9 (by decide)).now
                  obtain rfl := (h10 (by decide)).now
                  clear h0 h1 h2 h3 h4 h5 h6 h7 h8 h9 h10 h11 h12 h13 h14 h15 h16 h17 h18 h19
                  go_wp2
                  exact hK _ _ (Ext.refl _) (fun _ _ => rfl)
                · intro wr hx v0 h0 v1 h1 v2 h2 v3 h3 v4 h4 v5 h5 v6 h6 v7 h7 v8 h8 v9 h9 v10 h10 v11 h11 v12 h12 v13 h13 v14 h14 v15 h15 v16 h16 v17 h17 v18 h18 v19 h19 K hK
                  have p0 := (hx.cell (p := ⟨eb, 0, none⟩) heb).trans e0
                  have p1 := (hx.cell (p := ⟨eb, 1, none⟩) heb).trans e1
                  have p2 := (hx.cell (p := ⟨vb, i, none⟩) hvb).trans hcm
                  simp only [Act.put, List.setIfInBounds_toArray, List.set_cons_zero, List.set_cons_succ] at hK ⊢
                  obtain rfl := (h7 (by decide)).now
                  obtain rfl := (h11 (by decide)).now
                  clear h0 h1 h2 h3 h4 h5 h6 h7 h8 h9 h10 h11 h12 h13 h14 h15 h16 h17 h18 h19
                  go_wp2
                  exact hK _ _ (Ext.refl _) (fun _ _ => rfl)
                · intro wr hx v0 h0 v1 h1 v2 h2 v3 h3 v4 h4 v5 h5 v6 h6 v7 h7 v8 h8 v9 h9 v10 h10 v11 h11 v12 h12 v13 h13 v14 h14 v15 h15 v16 h16 v17 h17 v18 h18 v19 h19 K hK
                  have p0 := (hx.cell (p := ⟨eb, 0, none⟩) heb).trans e0
                  have p1 := (hx.cell (p := ⟨eb, 1, none⟩) heb).trans e1
                  have p2 := (hx.cell (p := ⟨vb, i, none⟩) hvb).trans hcm
                  simp only [Act.put, List.setIfInBounds_toArray, List.set_cons_zero, List.set_cons_succ] at hK ⊢
                  obtain rfl := (h12 (by decide)).now
                  clear h0 h1 h2 h3 h4 h5 h6 h7 h8 h9 h10 h11 h12 h13 h14 h15 h16 h17 h18 h19
                  go_wp2
                  exact hK _ _ (Ext.refl _) (fun _ _ => rfl)
                · intro wr hx v0 h0 v1 h1 v2 h2 v3 h3 v4 h4 v5 h5 v6 h6 v7 h7 v8 h8 v9 h9 v10 h10 v11 h11 v12 h12 v13 h13 v14 h14 v15 h15 v16 h16 v17 h17 v18 h18 v19 h19 K hK
                  have p0 := (hx.cell (p := ⟨eb, 0, none⟩) heb).trans e0
                  have p1 := (hx.cell (p := ⟨eb, 1, none⟩) heb).trans e1
                  have p2 := (hx.cell (p := ⟨vb, i, none⟩) hvb).trans hcm
                  simp only [Act.put, List.setIfInBounds_toArray, List.set_cons_zero, List.set_cons_succ] at hK ⊢
                  obtain rfl := (h13 (by decide)).now
                  clear h0 h1 h2 h3 h4 h5 h6 h7 h8 h9 h10 h11 h12 h13 h14 h15 h16 h17 h18 h19
                  go_wp2
                  exact hK _ _ (Ext.refl _) (fun _ _ => rfl)
                · intro wr hx v0 h0 v1 h1 v2 h2 v3 h3 v4 h4 v5 h5 v6 h6 v7 h7 v8 h8 v9 h9 v10 h10 v11 h11 v12 h12 v13 h13 v14 h14 v15 h15 v16 h16 v17 h17 v18 h18 v19 h19 K hK
                  have p0 := (hx.cell (p := ⟨eb, 0, none⟩) heb).trans e0
                  have p1 := (hx.cell (p := ⟨eb, 1, none⟩) heb).trans e1
                  have p2 := (hx.cell (p := ⟨vb, i, none⟩) hvb).trans hcm
                  simp only [Act.put, List.setIfInBounds_toArray, List.set_cons_zero, List.set_cons_succ] at hK ⊢
                  obtain rfl := (h13 (by decide)).now
                  clear h0 h1 h2 h3 h4 h5 h6 h7 h8 h9 h10 h11 h12 h13 h14 h15 h16 h17 h18 h19
                  go_wp2
                  exact hK _ _ (Ext.refl _) (fun _ _ => rfl)
                · intro wr hx v0 h0 v1 h1 v2 h2 v3 h3 v4 h4 v5 h5 v6 h6 v7 h7 v8 h8 v9 h9 v10 h10 v11 h11 v12 h12 v13 h13 v14 h14 v15 h15 v16 h16 v17 h17 v18 h18 v19 h19 K hK
                  have p0 := (hx.cell (p := ⟨eb, 0, none⟩) heb).trans e0
                  have p1 := (hx.cell (p := ⟨eb, 1, none⟩) heb).trans e1
                  have p2 := (hx.cell (p := ⟨vb, i, none⟩) hvb).trans hcm
                  simp only [Act.put, List.setIfInBounds_toArray, List.set_cons_zero, List.set_cons_succ] at hK ⊢
                  obtain rfl := (h13 (by decide)).now
                  obtain rfl := (h15 (by decide)).now
                  clear h0 h1 h2 h3 h4 h5 h6 h7 h8 h9 h10 h11 h12 h13 h14 h15 h16 h17 h18 h19
                  go_wp2
                  exact hK _ _ (Ext.refl _) (fun _ _ => rfl)
                · intro wr hx v0 h0 v1 h1 v2 h2 v3 h3 v4 h4 v5 h5 v6 h6 v7 h7 v8 h8 v9 h9 v10 h10 v11 h11 v12 h12 v13 h13 v14 h14 v15 h15 v16 h16 v17 h17 v18 h18 v19 h19 K hK
                  have p0 := (hx.cell (p := ⟨eb, 0, none⟩) heb).trans e0
                  have p1 := (hx.cell (p := ⟨eb, 1, none⟩) heb).trans e1
                  have p2 := (hx.cell (p := ⟨vb, i, none⟩) hvb).trans hcm
                  simp only [Act.put, List.setIfInBounds_toArray, List.set_cons_zero, List.set_cons_succ] at hK ⊢
                  obtain rfl := (h13 (by decide)).now
                  obtain rfl := (h14 (by decide)).now
                  obtain rfl := (h16 (by decide)).now
                  clear h0 h1 h2 h3 h4 h5 h6 h7 h8 h9 h10 h11 h12 h13 h14 h15 h16 h17 h18 h19
                  go_wp2_with fail
                  refine (in_any wr _ _ n5 d5 _ x (MIS.out.step hx)).mono ?_
                  rintro e w' ⟨rfl, rfl⟩
                  rw [HBQ.out]
                  go_wp2
                  exact hK _ _ (Ext.refl _) (fun _ _ => rfl)
                · intro wr hx v0 h0 v1 h1 v2 h2 v3 h3 v4 h4 v5 h5 v6 h6 v7 h7 v8 h8 v9 h9 v10 h10 v11 h11 v12 h12 v13 h13 v14 h14 v15 h15 v16 h16 v17 h17 v18 h18 v19 h19 K hK
                  have p0 := (hx.cell (p := ⟨eb, 0, none⟩) heb).trans e0
                  have p1 := (hx.cell (p := ⟨eb, 1, none⟩) heb).trans e1
                  have p2 := (hx.cell (p := ⟨vb, i, none⟩) hvb).trans hcm
                  simp only [Act.put, List.setIfInBounds_toArray, List.set_cons_zero, List.set_cons_succ] at hK ⊢
                  obtain rfl := (h13 (by decide)).now
                  obtain rfl := (h17 (by decide)).now
                  clear h0 h1 h2 h3 h4 h5 h6 h7 h8 h9 h10 h11 h12 h13 h14 h15 h16 h17 h18 h19
                  go_wp2
                  exact hK _ _ (Ext.refl _) (fun _ _ => rfl)
                · intro wr hx v0 h0 v1 h1 v2 h2 v3 h3 v4 h4 v5 h5 v6 h6 v7 h7 v8 h8 v9 h9 v10 h10 v11 h11 v12 h12 v13 h13 v14 h14 v15 h15 v16 h16 v17 h17 v18 h18 v19 h19 K hK
                  have p0 := (hx.cell (p := ⟨eb, 0, none⟩) heb).trans e0
                  have p1 := (hx.cell (p := ⟨eb, 1, none⟩) heb).trans e1
                  have p2 := (hx.cell (p := ⟨vb, i, none⟩) hvb).trans hcm
                  simp only [Act.put, List.setIfInBounds_toArray, List.set_cons_zero, List.set_cons_succ] at hK ⊢
                  obtain rfl := (h13 (by decide)).now
                  obtain rfl := (h18 (by decide)).now
                  clear h0 h1 h2 h3 h4 h5 h6 h7 h8 h9 h10 h11 h12 h13 h14 h15 h16 h17 h18 h19
                  go_wp2
                  exact hK _ _ (Ext.refl _) (fun _ _ => rfl)
                intro w8 hx v0 h0 v1 h1 v2 h2 v3 h3 v4 h4 v5 h5 v6 h6 v7 h7 v8 h8 v9 h9 v10 h10 v11 h11 v12 h12 v13 h13 v14 h14 v15 h15 v16 h16 v17 h17 v18 h18 v19 h19
                have p0 := (hx.cell (p := ⟨eb, 0, none⟩) heb).trans e0
                have p1 := (hx.cell (p := ⟨eb, 1, none⟩) heb).trans e1
                have p2 := (hx.cell (p := ⟨vb, i, none⟩) hvb).trans hcm
                obtain rfl := h19.now
                clear h0 h1 h2 h3 h4 h5 h6 h7 h8 h9 h10 h11 h12 h13 h14 h15 h16 h17 h18 h19
                refine tail_none (by kernel_rfl) ?_
                simp only [Act.put, List.setIfInBounds_toArray, List.set_cons_zero, List.set_cons_succ]
                have HED := Lib.hid (HED.out.later hx)
                have HOW := Lib.hid (HOW.out.later hx)
                cases bq with
                | true =>
                  have H2X : Hid (y = (M2).getD i 0 → x ∈ M2) := Lib.hid fun _ => of_decide_eq_true HBQ.out
                  clear e0 e1 heb hcm hvb hx
                  go_wp2
                  go_roundw
                  case rel => exact ⟨k + 1, by omega, by go_num, _, HOW.out, SP.out.step HKL.out HQ.out HEN.out H1Y.out H2X.out, HZ.out⟩
                  case measure => simp [intOf]; omega
                | false =>
                  have hml : Hid (M2.length + 1 ≤ 1000000000000) := Lib.hid (by have := (SP.out.out.small HP.out HR.out).1; omega)
                  have HNY := Lib.hid (show x ∉ M2 from fun h => by have := HBQ.out; rw [decide_eq_true h] at this; cases this)
                  have SP2 := Lib.hid (SP.out.push HNY.out (SP.out.hang2 HP.out HQM.out HEN.out (HYZ.out.trans HZ.out.symm)))
                  have HZ2 : Hid ((M2 ++ [x]).getD i 0 = z) := Lib.hid (by rw [getD_app SP.out.lt]; exact HZ.out)
                  obtain ⟨d0, d1⟩ : w8.cell? ⟨eb, 0, none⟩ = some (.int .i64 x) ∧ w8.cell? ⟨eb, 1, none⟩ = some (.int .i64 y) := ⟨HED.out.c0, HED.out.c1⟩
                  clear e0 e1 heb hcm hvb hx
                  go_wp2_with (with_reducible show wpList _ _ _ (Oper.mk (some 87) _ _ _ _ _ :: _) _ _; go_must (refine wpList_append_one (v := .slice (some ⟨vb, 0, none⟩) n5 d5) (w0 := w1) rfl _ _ rfl rfl HOW.out _ hx64 rfl hml.out ?_; intro v9 w9 hown9 hg9 _; have HED9 := Lib.hid (HED.out.pushed HOW.out hg9); have HOW9 := Lib.hid hown9; obtain ⟨vb, n5, d5, rfl, k1, k2, k3, k4, k5, k6⟩ := hown9.place (show i < (M2 ++ [x]).length by rw [List.length_append]; have := SP.out.lt; omega); obtain ⟨d0, d1⟩ := edge_cells HED9.out; clear k1 k2 k3 k4 k5 k6))
                  go_roundw
                  case rel =>
                    refine ⟨k + 1, by omega, by go_num, _, HOW9.out, SP2.out.step HKL.out HQ.out HEN.out (fun e => ?_) (fun _ => by simp), HZ2.out⟩
                    rw [HZ2.out, ← HZ.out] at e
                    exact List.mem_append_left _ (H1Y.out e)
                  case measure => simp [intOf]; omega
              · have hyz' : (y == z) = false := beq_eq_false_iff_ne.2 hyz
                have H2X : Hid (y = (M2).getD i 0 → x ∈ M2) := Lib.hid fun e => absurd (e.trans HZ.out) hyz
                clear hyz
                refine wp_region_rel 20 [[],[0],[],[],[2,3],[2,3,4],[0,1,2,3,4,5],[0,1,2,3,4,5,6],[0,1,2,3,4,5,6,7],[0,1,2,3,4,5,6,7,8],[0,1,2,3,4,5,6,7],[0,1,2,3,4,5,6,7,8,9,10],[0,1,2,3,4,5,6,7,8,9,10,11],[0,1,2,3,4,5,6,7,8,9,10,11,12],[0,1,2,3,4,5,6,7,8,9,10,11,12,13],[0,1,2,3,4,5,6,7,8,9,10,11,12,13],[0,1,2,3,4,5,6,7,8,9,10,11,12,13,15],[0,1,2,3,4,5,6,7,8,9,10,11,12,13,14,15,16],[0,1,2,3,4,5,6,7,8,9,10,11,12,13,14,15,16,17],[0,1,2,3,4,5,6,7,8,9,10,11,12,13,14,15,16,17,18]]
                  [fun x_ _ => x_ = .pointer (some ⟨eb, 1, none⟩),
                   fun x_ _ => x_ = .int .i64 y,
                   fun x_ _ => x_ = .slice (some ⟨vb, 0, none⟩) n5 d5,
                   fun x_ _ => x_ = .int .i64 i,
                   fun x_ _ => x_ = .pointer (some ⟨vb, i, none⟩),
                   fun x_ _ => x_ = .int .i64 z,
                   fun x_ _ => x_ = .bool false,
                   fun x_ _ => x_ = .bool false,
                   fun _ _ => True,
                   fun _ _ => True,
                   fun _ _ => True,
                   fun _ _ => True,
                   fun x_ _ => x_ = .bool false,
                   fun x_ _ => x_ = .bool false,
                   fun _ _ => True,
                   fun _ _ => True,
                   fun _ _ => True,
                   fun _ _ => True,
                   fun _ _ => True,
                   fun x_ _ => x_ = .bool false]
                  (by kernel_rfl) (by kernel_rfl) rfl ⟨?_, ?_, ?_, ?_, ?_, ?_, ?_, ?_, ?_, ?_, ?_, ?_, ?_, ?_, ?_, ?_, ?_, ?_, ?_, ?_, trivial⟩ ?_
                · intro wr hx v0 h0 v1 h1 v2 h2 v3 h3 v4 h4 v5 h5 v6 h6 v7 h7 v8 h8 v9 h9 v10 h10 v11 h11 v12 h12 v13 h13 v14 h14 v15 h15 v16 h16 v17 h17 v18 h18 v19 h19 K hK
                  have p0 := (hx.cell (p := ⟨eb, 0, none⟩) heb).trans e0
                  have p1 := (hx.cell (p := ⟨eb, 1, none⟩) heb).trans e1
                  have p2 := (hx.cell (p := ⟨vb, i, none⟩) hvb).trans hcm
                  simp only [Act.put, List.setIfInBounds_toArray, List.set_cons_zero, List.set_cons_succ] at hK ⊢
                  clear h0 h1 h2 h3 h4 h5 h6 h7 h8 h9 h10 h11 h12 h13 h14 h15 h16 h17 h18 h19
                  go_wp2
                  exact hK _ _ (Ext.refl _) (fun _ _ => rfl)
                · intro wr hx v0 h0 v1 h1 v2 h2 v3 h3 v4 h4 v5 h5 v6 h6 v7 h7 v8 h8 v9 h9 v10 h10 v11 h11 v12 h12 v13 h13 v14 h14 v15 h15 v16 h16 v17 h17 v18 h18 v19 h19 K hK
                  have p0 := (hx.cell (p := ⟨eb, 0, none⟩) heb).trans e0
                  have p1 := (hx.cell (p := ⟨eb, 1, none⟩) heb).trans e1
                  have p2 := (hx.cell (p := ⟨vb, i, none⟩) hvb).trans hcm
                  simp only [Act.put, List.setIfInBounds_toArray, List.set_cons_zero, List.set_cons_succ] at hK ⊢
                  obtain rfl := (h0 (by decide)).now
                  clear h0 h1 h2 h3 h4 h5 h6 h7 h8 h9 h10 h11 h12 h13 h14 h15 h16 h17 h18 h19
                  go_wp2
                  exact hK _ _ (Ext.refl _) (fun _ _ => rfl)
                · intro wr hx v0 h0 v1 h1 v2 h2 v3 h3 v4 h4 v5 h5 v6 h6 v7 h7 v8 h8 v9 h9 v10 h10 v11 h11 v12 h12 v13 h13 v14 h14 v15 h15 v16 h16 v17 h17 v18 h18 v19 h19 K hK
                  have p0 := (hx.cell (p := ⟨eb, 0, none⟩) heb).trans e0
                  have p1 := (hx.cell (p := ⟨eb, 1, none⟩) heb).trans e1
                  have p2 := (hx.cell (p := ⟨vb, i, none⟩) hvb).trans hcm
                  simp only [Act.put, List.setIfInBounds_toArray, List.set_cons_zero, List.set_cons_succ] at hK ⊢
                  clear h0 h1 h2 h3 h4 h5 h6 h7 h8 h9 h10 h11 h12 h13 h14 h15 h16 h17 h18 h19
                  go_wp2
                  exact hK _ _ (Ext.refl _) (fun _ _ => rfl)
                · intro wr hx v0 h0 v1 h1 v2 h2 v3 h3 v4 h4 v5 h5 v6 h6 v7 h7 v8 h8 v9 h9 v10 h10 v11 h11 v12 h12 v13 h13 v14 h14 v15 h15 v16 h16 v17 h17 v18 h18 v19 h19 K hK
                  have p0 := (hx.cell (p := ⟨eb, 0, none⟩) heb).trans e0
                  have p1 := (hx.cell (p := ⟨eb, 1, none⟩) heb).trans e1
                  have p2 := (hx.cell (p := ⟨vb, i, none⟩) hvb).trans hcm
                  simp only [Act.put, List.setIfInBounds_toArray, List.set_cons_zero, List.set_cons_succ] at hK ⊢
                  clear h0 h1 h2 h3 h4 h5 h6 h7 h8 h9 h10 h11 h12 h13 h14 h15 h16 h17 h18 h19
                  go_wp2
                  exact hK _ _ (Ext.refl _) (fun _ _ => rfl)
                · intro wr hx v0 h0 v1 h1 v2 h2 v3 h3 v4 h4 v5 h5 v6 h6 v7 h7 v8 h8 v9 h9 v10 h10 v11 h11 v12 h12 v13 h13 v14 h14 v15 h15 v16 h16 v17 h17 v18 h18 v19 h19 K hK
                  have p0 := (hx.cell (p := ⟨eb, 0, none⟩) heb).trans e0
                  have p1 := (hx.cell (p := ⟨eb, 1, none⟩) heb).trans e1
                  have p2 := (hx.cell (p := ⟨vb, i, none⟩) hvb).trans hcm
                  simp only [Act.put, List.setIfInBounds_toArray, List.set_cons_zero, List.set_cons_succ] at hK ⊢
                  obtain rfl := (h2 (by decide)).now
                  obtain rfl := (h3 (by decide)).now
                  clear h0 h1 h2 h3 h4 h5 h6 h7 h8 h9 h10 h11 h12 h13 h14 h15 h16 h17 h18 h19
                  go_wp2
                  exact hK _ _ (Ext.refl _) (fun _ _ => rfl)
                · intro wr hx v0 h0 v1 h1 v2 h2 v3 h3 v4 h4 v5 h5 v6 h6 v7 h7 v8 h8 v9 h9 v10 h10 v11 h11 v12 h12 v13 h13 v14 h14 v15 h15 v16 h16 v17 h17 v18 h18 v19 h19 K hK
                  have p0 := (hx.cell (p := ⟨eb, 0, none⟩) heb).trans e0
                  have p1 := (hx.cell (p := ⟨eb, 1, none⟩) heb).trans e1
                  have p2 := (hx.cell (p := ⟨vb, i, none⟩) hvb).trans hcm
                  simp only [Act.put, List.setIfInBounds_toArray, List.set_cons_zero, List.set_cons_succ] at hK ⊢
                  obtain rfl := (h4 (by decide)).now
                  clear h0 h1 h2 h3 h4 h5 h6 h7 h8 h9 h10 h11 h12 h13 h14 h15 h16 h17 h18 h19
                  go_wp2
                  exact hK _ _ (Ext.refl _) (fun _ _ => rfl)
                · intro wr hx v0 h0 v1 h1 v2 h2 v3 h3 v4 h4 v5 h5 v6 h6 v7 h7 v8 h8 v9 h9 v10 h10 v11 h11 v12 h12 v13 h13 v14 h14 v15 h15 v16 h16 v17 h17 v18 h18 v19 h19 K hK
                  have p0 := (hx.cell (p := ⟨eb, 0, none⟩) heb).trans e0
                  have p1 := (hx.cell (p := ⟨eb, 1, none⟩) heb).trans e1
                  have p2 := (hx.cell (p := ⟨vb, i, none⟩) hvb).trans hcm
                  simp only [Act.put, List.setIfInBounds_toArray, List.set_cons_zero, List.set_cons_succ] at hK ⊢
                  obtain rfl := (h1 (by decide)).now
                  obtain rfl := (h5 (by decide)).now
                  clear h0 h1 h2 h3 h4 h5 h6 h7 h8 h9 h10 h11 h12 h13 h14 h15 h16 h17 h18 h19
                  go_wp2
                  exact hK _ _ (Ext.refl _) (fun _ _ => rfl)
                · intro wr hx v0 h0 v1 h1 v2 h2 v3 h3 v4 h4 v5 h5 v6 h6 v7 h7 v8 h8 v9 h9 v10 h10 v11 h11 v12 h12 v13 h13 v14 h14 v15 h15 v16 h16 v17 h17 v18 h18 v19 h19 K hK
                  have p0 := (hx.cell (p := ⟨eb, 0, none⟩) heb).trans e0
                  have p1 := (hx.cell (p := ⟨eb, 1, none⟩) heb).trans e1
                  have p2 := (hx.cell (p := ⟨vb, i, none⟩) hvb).trans hcm
                  simp only [Act.put, List.setIfInBounds_toArray, List.set_cons_zero, List.set_cons_succ] at hK ⊢
                  obtain rfl := (h6 (by decide)).now
                  clear h0 h1 h2 h3 h4 h5 h6 h7 h8 h9 h10 h11 h12 h13 h14 h15 h16 h17 h18 h19
                  go_wp2
                  exact hK _ _ (Ext.refl _) (fun _ _ => rfl)
                · intro wr hx v0 h0 v1 h1 v2 h2 v3 h3 v4 h4 v5 h5 v6 h6 v7 h7 v8 h8 v9 h9 v10 h10 v11 h11 v12 h12 v13 h13 v14 h14 v15 h15 v16 h16 v17 h17 v18 h18 v19 h19 K hK
                  have p0 := (hx.cell (p := ⟨eb, 0, none⟩) heb).trans e0
                  have p1 := (hx.cell (p := ⟨eb, 1, none⟩) heb).trans e1
                  have p2 := (hx.cell (p := ⟨vb, i, none⟩) hvb).trans hcm
                  simp only [Act.put, List.setIfInBounds_toArray, List.set_cons_zero, List.set_cons_succ] at hK ⊢
                  obtain rfl := (h7 (by decide)).now
                  clear h0 h1 h2 h3 h4 h5 h6 h7 h8 h9 h10 h11 h12 h13 h14 h15 h16 h17 h18 h19
                  go_wp2
                  exact hK _ _ (Ext.refl _) (fun _ _ => trivial)
                · intro wr hx v0 h0 v1 h1 v2 h2 v3 h3 v4 h4 v5 h5 v6 h6 v7 h7 v8 h8 v9 h9 v10 h10 v11 h11 v12 h12 v13 h13 v14 h14 v15 h15 v16 h16 v17 h17 v18 h18 v19 h19 K hK
                  have p0 := (hx.cell (p := ⟨eb, 0, none⟩) heb).trans e0
                  have p1 := (hx.cell (p := ⟨eb, 1, none⟩) heb).trans e1
                  have p2 := (hx.cell (p := ⟨vb, i, none⟩) hvb).trans hcm
                  simp only [Act.put, List.setIfInBounds_toArray, List.set_cons_zero, List.set_cons_succ] at hK ⊢
                  obtain rfl := (h7 (by decide)).now
                  clear h0 h1 h2 h3 h4 h5 h6 h7 h8 h9 h10 h11 h12 h13 h14 h15 h16 h17 h18 h19
                  go_wp2
                  exact hK _ _ (Ext.refl _) (fun _ _ => trivial)
                · intro wr hx v0 h0 v1 h1 v2 h2 v3 h3 v4 h4 v5 h5 v6 h6 v7 h7 v8 h8 v9 h9 v10 h10 v11 h11 v12 h12 v13 h13 v14 h14 v15 h15 v16 h16 v17 h17 v18 h18 v19 h19 K hK
                  have p0 := (hx.cell (p := ⟨eb, 0, none⟩) heb).trans e0
                  have p1 := (hx.cell (p := ⟨eb, 1, none⟩) heb).trans e1
                  have p2 := (hx.cell (p := ⟨vb, i, none⟩) hvb).trans hcm
                  simp only [Act.put, List.setIfInBounds_toArray, List.set_cons_zero, List.set_cons_succ] at hK ⊢
                  obtain rfl := (h7 (by decide)).now
                  clear h0 h1 h2 h3 h4 h5 h6 h7 h8 h9 h10 h11 h12 h13 h14 h15 h16 h17 h18 h19
                  go_wp2
                  exact hK _ _ (Ext.refl _) (fun _ _ => trivial)
                · intro wr hx v0 h0 v1 h1 v2 h2 v3 h3 v4 h4 v5 h5 v6 h6 v7 h7 v8 h8 v9 h9 v10 h10 v11 h11 v12 h12 v13 h13 v14 h14 v15 h15 v16 h16 v17 h17 v18 h18 v19 h19 K hK
                  have p0 := (hx.cell (p := ⟨eb, 0, none⟩) heb).trans e0
                  have p1 := (hx.cell (p := ⟨eb, 1, none⟩) heb).trans e1
                  have p2 := (hx.cell (p := ⟨vb, i, none⟩) hvb).trans hcm
                  simp only [Act.put, List.setIfInBounds_toArray, List.set_cons_zero, List.set_cons_succ] at hK ⊢
                  obtain rfl := (h7 (by decide)).now
                  clear h0 h1 h2 h3 h4 h5 h6 h7 h8 h9 h10 h11 h12 h13 h14 h15 h16 h17 h18 h19
                  go_wp2
                  exact hK _ _ (Ext.refl _) (fun _ _ => trivial)
                · intro wr hx v0 h0 v1 h1 v2 h2 v3 h3 v4 h4 v5 h5 v6 h6 v7 h7 v8 h8 v9 h9 v10 h10 v11 h11 v12 h12 v13 h13 v14 h14 v15 h15 v16 h16 v17 h17 v18 h18 v19 h19 K hK
                  have p0 := (hx.cell (p := ⟨eb, 0, none⟩) heb).trans e0
                  have p1 := (hx.cell (p := ⟨eb, 1, none⟩) heb).trans e1
                  have p2 := (hx.cell (p := ⟨vb, i, none⟩) hvb).trans hcm
                  simp only [Act.put, List.setIfInBounds_toArray, List.set_cons_zero, List.set_cons_succ] at hK ⊢
                  obtain rfl := (h7 (by decide)).now
                  clear h0 h1 h2 h3 h4 h5 h6 h7 h8 h9 h10 h11 h12 h13 h14 h15 h16 h17 h18 h19
                  go_wp2
                  exact hK _ _ (Ext.refl _) (fun _ _ => rfl)
                · intro wr hx v0 h0 v1 h1 v2 h2 v3 h3 v4 h4 v5 h5 v6 h6 v7 h7 v8 h8 v9 h9 v10 h10 v11 h11 v12 h12 v13 h13 v14 h14 v15 h15 v16 h16 v17 h17 v18 h18 v19 h19 K hK
                  have p0 := (hx.cell (p := ⟨eb, 0, none⟩) heb).trans e0
                  have p1 := (hx.cell (p := ⟨eb, 1, none⟩) heb).trans e1
                  have p2 := (hx.cell (p := ⟨vb, i, none⟩) hvb).trans hcm
                  simp only [Act.put, List.setIfInBounds_toArray, List.set_cons_zero, List.set_cons_succ] at hK ⊢
                  obtain rfl := (h12 (by decide)).now
                  clear h0 h1 h2 h3 h4 h5 h6 h7 h8 h9 h10 h11 h12 h13 h14 h15 h16 h17 h18 h19
                  go_wp2
                  exact hK _ _ (Ext.refl _) (fun _ _ => rfl)
                · intro wr hx v0 h0 v1 h1 v2 h2 v3 h3 v4 h4 v5 h5 v6 h6 v7 h7 v8 h8 v9 h9 v10 h10 v11 h11 v12 h12 v13 h13 v14 h14 v15 h15 v16 h16 v17 h17 v18 h18 v19 h19 K hK
                  have p0 := (hx.cell (p := ⟨eb, 0, none⟩) heb).trans e0
                  have p1 := (hx.cell (p := ⟨eb, 1, none⟩) heb).trans e1
                  have p2 := (hx.cell (p := ⟨vb, i, none⟩) hvb).trans hcm
                  simp only [Act.put, List.setIfInBounds_toArray, List.set_cons_zero, List.set_cons_succ] at hK ⊢
                  obtain rfl := (h13 (by decide)).now
                  clear h0 h1 h2 h3 h4 h5 h6 h7 h8 h9 h10 h11 h12 h13 h14 h15 h16 h17 h18 h19
                  go_wp2
                  exact hK _ _ (Ext.refl _) (fun _ _ => trivial)
                · intro wr hx v0 h0 v1 h1 v2 h2 v3 h3 v4 h4 v5 h5 v6 h6 v7 h7 v8 h8 v9 h9 v10 h10 v11 h11 v12 h12 v13 h13 v14 h14 v15 h15 v16 h16 v17 h17 v18 h18 v19 h19 K hK
                  have p0 := (hx.cell (p := ⟨eb, 0, none⟩) heb).trans e0
                  have p1 := (hx.cell (p := ⟨eb, 1, none⟩) heb).trans e1
                  have p2 := (hx.cell (p := ⟨vb, i, none⟩) hvb).trans hcm
                  simp only [Act.put, List.setIfInBounds_toArray, List.set_cons_zero, List.set_cons_succ] at hK ⊢
                  obtain rfl := (h13 (by decide)).now
                  clear h0 h1 h2 h3 h4 h5 h6 h7 h8 h9 h10 h11 h12 h13 h14 h15 h16 h17 h18 h19
                  go_wp2
                  exact hK _ _ (Ext.refl _) (fun _ _ => trivial)
                · intro wr hx v0 h0 v1 h1 v2 h2 v3 h3 v4 h4 v5 h5 v6 h6 v7 h7 v8 h8 v9 h9 v10 h10 v11 h11 v12 h12 v13 h13 v14 h14 v15 h15 v16 h16 v17 h17 v18 h18 v19 h19 K hK
                  have p0 := (hx.cell (p := ⟨eb, 0, none⟩) heb).trans e0
                  have p1 := (hx.cell (p := ⟨eb, 1, none⟩) heb).trans e1
                  have p2 := (hx.cell (p := ⟨vb, i, none⟩) hvb).trans hcm
                  simp only [Act.put, List.setIfInBounds_toArray, List.set_cons_zero, List.set_cons_succ] at hK ⊢
                  obtain rfl := (h13 (by decide)).now
                  clear h0 h1 h2 h3 h4 h5 h6 h7 h8 h9 h10 h11 h12 h13 h14 h15 h16 h17 h18 h19
                  go_wp2
                  exact hK _ _ (Ext.refl _) (fun _ _ => trivial)
                · intro wr hx v0 h0 v1 h1 v2 h2 v3 h3 v4 h4 v5 h5 v6 h6 v7 h7 v8 h8 v9 h9 v10 h10 v11 h11 v12 h12 v13 h13 v14 h14 v15 h15 v16 h16 v17 h17 v18 h18 v19 h19 K hK
                  have p0 := (hx.cell (p := ⟨eb, 0, none⟩) heb).trans e0
                  have p1 := (hx.cell (p := ⟨eb, 1, none⟩) heb).trans e1
                  have p2 := (hx.cell (p := ⟨vb, i, none⟩) hvb).trans hcm
                  simp only [Act.put, List.setIfInBounds_toArray, List.set_cons_zero, List.set_cons_succ] at hK ⊢
                  obtain rfl := (h13 (by decide)).now
                  clear h0 h1 h2 h3 h4 h5 h6 h7 h8 h9 h10 h11 h12 h13 h14 h15 h16 h17 h18 h19
                  go_wp2
                  exact hK _ _ (Ext.refl _) (fun _ _ => trivial)
                · intro wr hx v0 h0 v1 h1 v2 h2 v3 h3 v4 h4 v5 h5 v6 h6 v7 h7 v8 h8 v9 h9 v10 h10 v11 h11 v12 h12 v13 h13 v14 h14 v15 h15 v16 h16 v17 h17 v18 h18 v19 h19 K hK
                  have p0 := (hx.cell (p := ⟨eb, 0, none⟩) heb).trans e0
                  have p1 := (hx.cell (p := ⟨eb, 1, none⟩) heb).trans e1
                  have p2 := (hx.cell (p := ⟨vb, i, none⟩) hvb).trans hcm
                  simp only [Act.put, List.setIfInBounds_toArray, List.set_cons_zero, List.set_cons_succ] at hK ⊢
                  obtain rfl := (h13 (by decide)).now
                  clear h0 h1 h2 h3 h4 h5 h6 h7 h8 h9 h10 h11 h12 h13 h14 h15 h16 h17 h18 h19
                  go_wp2
                  exact hK _ _ (Ext.refl _) (fun _ _ => trivial)
                · intro wr hx v0 h0 v1 h1 v2 h2 v3 h3 v4 h4 v5 h5 v6 h6 v7 h7 v8 h8 v9 h9 v10 h10 v11 h11 v12 h12 v13 h13 v14 h14 v15 h15 v16 h16 v17 h17 v18 h18 v19 h19 K hK
                  have p0 := (hx.cell (p := ⟨eb, 0, none⟩) heb).trans e0
                  have p1 := (hx.cell (p := ⟨eb, 1, none⟩) heb).trans e1
                  have p2 := (hx.cell (p := ⟨vb, i, none⟩) hvb).trans hcm
                  simp only [Act.put, List.setIfInBounds_toArray, List.set_cons_zero, List.set_cons_succ] at hK ⊢
                  obtain rfl := (h13 (by decide)).now
                  clear h0 h1 h2 h3 h4 h5 h6 h7 h8 h9 h10 h11 h12 h13 h14 h15 h16 h17 h18 h19
                  go_wp2
                  exact hK _ _ (Ext.refl _) (fun _ _ => rfl)
                intro w8 hx v0 h0 v1 h1 v2 h2 v3 h3 v4 h4 v5 h5 v6 h6 v7 h7 v8 h8 v9 h9 v10 h10 v11 h11 v12 h12 v13 h13 v14 h14 v15 h15 v16 h16 v17 h17 v18 h18 v19 h19
                have p0 := (hx.cell (p := ⟨eb, 0, none⟩) heb).trans e0
                have p1 := (hx.cell (p := ⟨eb, 1, none⟩) heb).trans e1
                have p2 := (hx.cell (p := ⟨vb, i, none⟩) hvb).trans hcm
                obtain rfl := h19.now
                clear h0 h1 h2 h3 h4 h5 h6 h7 h8 h9 h10 h11 h12 h13 h14 h15 h16 h17 h18 h19
                refine tail_none (by kernel_rfl) ?_
                simp only [Act.put, List.setIfInBounds_toArray, List.set_cons_zero, List.set_cons_succ]
                have HED := Lib.hid (HED.out.later hx)
                have HOW := Lib.hid (HOW.out.later hx)
                clear e0 e1 heb hcm hvb hx
                go_wp2
                go_roundw
                case rel => exact ⟨k + 1, by omega, by go_num, _, HOW.out, SP.out.step HKL.out HQ.out HEN.out H1Y.out H2X.out, HZ.out⟩
                case measure => simp [intOf]; omega
          · have hxz' : (x == z) = false := beq_eq_false_iff_ne.2 hxz
            have H1Y : Hid (x = M.getD i 0 → y ∈ M) := Lib.hid fun e => absurd (e.trans HZ.out) hxz
            clear hxz
            refine wp_region_rel 20 [[],[0],[],[],[2,3],[2,3,4],[0,1,2,3,4,5],[0,1,2,3,4,5,6],[0,1,2,3,4,5,6,7],[0,1,2,3,4,5,6,7,8],[0,1,2,3,4,5,6,7],[0,1,2,3,4,5,6,7,8,9,10],[0,1,2,3,4,5,6,7,8,9,10,11],[0,1,2,3,4,5,6,7,8,9,10,11,12],[0,1,2,3,4,5,6,7,8,9,10,11,12,13],[0,1,2,3,4,5,6,7,8,9,10,11,12,13],[0,1,2,3,4,5,6,7,8,9,10,11,12,13,15],[0,1,2,3,4,5,6,7,8,9,10,11,12,13,14,15,16],[0,1,2,3,4,5,6,7,8,9,10,11,12,13,14,15,16,17],[0,1,2,3,4,5,6,7,8,9,10,11,12,13,14,15,16,17,18]]
              [fun x_ _ => x_ = .pointer (some ⟨eb, 0, none⟩),
               fun x_ _ => x_ = .int .i64 x,
               fun x_ _ => x_ = .slice (some ⟨vb, 0, none⟩) n5 d5,
               fun x_ _ => x_ = .int .i64 i,
               fun x_ _ => x_ = .pointer (some ⟨vb, i, none⟩),
               fun x_ _ => x_ = .int .i64 z,
               fun x_ _ => x_ = .bool false,
               fun x_ _ => x_ = .bool false,
               fun _ _ => True,
               fun _ _ => True,
               fun _ _ => True,
               fun _ _ => True,
               fun x_ _ => x_ = .bool false,
               fun x_ _ => x_ = .bool false,
               fun _ _ => True,
               fun _ _ => True,
               fun _ _ => True,
               fun _ _ => True,
               fun _ _ => True,
               fun x_ _ => x_ = .bool false]
              (by kernel_rfl) (by kernel_rfl) rfl ⟨?_, ?_, ?_, ?_, ?_, ?_, ?_, ?_, ?_, ?_, ?_, ?_, ?_, ?_, ?_, ?_, ?_, ?_, ?_, ?_, trivial⟩ ?_
            · intro wr hx v0 h0 v1 h1 v2 h2 v3 h3 v4 h4 v5 h5 v6 h6 v7 h7 v8 h8 v9 h9 v10 h10 v11 h11 v12 h12 v13 h13 v14 h14 v15 h15 v16 h16 v17 h17 v18 h18 v19 h19 K hK
              have p0 := (hx.cell (p := ⟨eb, 0, none⟩) heb).trans e0
              have p1 := (hx.cell (p := ⟨eb, 1, none⟩) heb).trans e1
              have p2 := (hx.cell (p := ⟨vb, i, none⟩) hvb).trans hcm
              simp only [Act.put, List.setIfInBounds_toArray, List.set_cons_zero, List.set_cons_succ] at hK ⊢
              clear h0 h1 h2 h3 h4 h5 h6 h7 h8 h9 h10 h11 h12 h13 h14 h15 h16 h17 h18 h19
              go_wp2
              exact hK _ _ (Ext.refl _) (fun _ _ => rfl)
            · intro wr hx v0 h0 v1 h1 v2 h2 v3 h3 v4 h4 v5 h5 v6 h6 v7 h7 v8 h8 v9 h9 v10 h10 v11 h11 v12 h12 v13 h13 v14 h14 v15 h15 v16 h16 v17 h17 v18 h18 v19 h19 K hK
              have p0 := (hx.cell (p := ⟨eb, 0, none⟩) heb).trans e0
              have p1 := (hx.cell (p := ⟨eb, 1, none⟩) heb).trans e1
              have p2 := (hx.cell (p := ⟨vb, i, none⟩) hvb).trans hcm
              simp only [Act.put, List.setIfInBounds_toArray, List.set_cons_zero, List.set_cons_succ] at hK ⊢
              obtain rfl := (h0 (by decide)).now
              clear h0 h1 h2 h3 h4 h5 h6 h7 h8 h9 h10 h11 h12 h13 h14 h15 h16 h17 h18 h19
              go_wp2
              exact hK _ _ (Ext.refl _) (fun _ _ => rfl)
            · intro wr hx v0 h0 v1 h1 v2 h2 v3 h3 v4 h4 v5 h5 v6 h6 v7 h7 v8 h8 v9 h9 v10 h10 v11 h11 v12 h12 v13 h13 v14 h14 v15 h15 v16 h16 v17 h17 v18 h18 v19 h19 K hK
              have p0 := (hx.cell (p := ⟨eb, 0, none⟩) heb).trans e0
              have p1 := (hx.cell (p := ⟨eb, 1, none⟩) heb).trans e1
              have p2 := (hx.cell (p := ⟨vb, i, none⟩) hvb).trans hcm
              simp only [Act.put, List.setIfInBounds_toArray, List.set_cons_zero, List.set_cons_succ] at hK ⊢
              clear h0 h1 h2 h3 h4 h5 h6 h7 h8 h9 h10 h11 h12 h13 h14 h15 h16 h17 h18 h19
              go_wp2
              exact hK _ _ (Ext.refl _) (fun _ _ => rfl)
            · intro wr hx v0 h0 v1 h1 v2 h2 v3 h3 v4 h4 v5 h5 v6 h6 v7 h7 v8 h8 v9 h9 v10 h10 v11 h11 v12 h12 v13 h13 v14 h14 v15 h15 v16 h16 v17 h17 v18 h18 v19 h19 K hK
              have p0 := (hx.cell (p := ⟨eb, 0, none⟩) heb).trans e0
              have p1 := (hx.cell (p := ⟨eb, 1, none⟩) heb).trans e1
              have p2 := (hx.cell (p := ⟨vb, i, none⟩) hvb).trans hcm
              simp only [Act.put, List.setIfInBounds_toArray, List.set_cons_zero, List.set_cons_succ] at hK ⊢
              clear h0 h1 h2 h3 h4 h5 h6 h7 h8 h9 h10 h11 h12 h13 h14 h15 h16 h17 h18 h19
              go_wp2
              exact hK _ _ (Ext.refl _) (fun _ _ => rfl)
            · intro wr hx v0 h0 v1 h1 v2 h2 v3 h3 v4 h4 v5 h5 v6 h6 v7 h7 v8 h8 v9 h9 v10 h10 v11 h11 v12 h12 v13 h13 v14 h14 v15 h15 v16 h16 v17 h17 v18 h18 v19 h19 K hK
              have p0 := (hx.cell (p := ⟨eb, 0, none⟩) heb).trans e0
              have p1 := (hx.cell (p := ⟨eb, 1, none⟩) heb).trans e1
              have p2 := (hx.cell (p := ⟨vb, i, none⟩) hvb).trans hcm
              simp only [Act.put, List.setIfInBounds_toArray, List.set_cons_zero, List.set_cons_succ] at hK ⊢
              obtain rfl := (h2 (by decide)).now
              obtain rfl := (h3 (by decide)).now
              clear h0 h1 h2 h3 h4 h5 h6 h7 h8 h9 h10 h11 h12 h13 h14 h15 h16 h17 h18 h19
              go_wp2
              exact hK _ _ (Ext.refl _) (fun _ _ => rfl)
            · intro wr hx v0 h0 v1 h1 v2 h2 v3 h3 v4 h4 v5 h5 v6 h6 v7 h7 v8 h8 v9 h9 v10 h10 v11 h11 v12 h12 v13 h13 v14 h14 v15 h15 v16 h16 v17 h17 v18 h18 v19 h19 K hK
              have p0 := (hx.cell (p := ⟨eb, 0, none⟩) heb).trans e0
              have p1 := (hx.cell (p := ⟨eb, 1, none⟩) heb).trans e1
              have p2 := (hx.cell (p := ⟨vb, i, none⟩) hvb).trans hcm
              simp only [Act.put, List.setIfInBounds_toArray, List.set_cons_zero, List.set_cons_succ] at hK ⊢
              obtain rfl := (h4 (by decide)).now
              clear h0 h1 h2 h3 h4 h5 h6 h7 h8 h9 h10 h11 h12 h13 h14 h15 h16 h17 h18 h19
              go_wp2
              exact hK _ _ (Ext.refl _) (fun _ _ => rfl)
            · intro wr hx v0 h0 v1 h1 v2 h2 v3 h3 v4 h4 v5 h5 v6 h6 v7 h7 v8 h8 v9 h9 v10 h10 v11 h11 v12 h12 v13 h13 v14 h14 v15 h15 v16 h16 v17 h17 v18 h18 v19 h19 K hK
              have p0 := (hx.cell (p := ⟨eb, 0, none⟩) heb).trans e0
              have p1 := (hx.cell (p := ⟨eb, 1, none⟩) heb).trans e1
              have p2 := (hx.cell (p := ⟨vb, i, none⟩) hvb).trans hcm
              simp only [Act.put, List.setIfInBounds_toArray, List.set_cons_zero, List.set_cons_succ] at hK ⊢
              obtain rfl := (h1 (by decide)).now
              obtain rfl := (h5 (by decide)).now
              clear h0 h1 h2 h3 h4 h5 h6 h7 h8 h9 h10 h11 h12 h13 h14 h15 h16 h17 h18 h19
              go_wp2
              exact hK _ _ (Ext.refl _) (fun _ _ => rfl)
            · intro wr hx v0 h0 v1 h1 v2 h2 v3 h3 v4 h4 v5 h5 v6 h6 v7 h7 v8 h8 v9 h9 v10 h10 v11 h11 v12 h12 v13 h13 v14 h14 v15 h15 v16 h16 v17 h17 v18 h18 v19 h19 K hK
              have p0 := (hx.cell (p := ⟨eb, 0, none⟩) heb).trans e0
              have p1 := (hx.cell (p := ⟨eb, 1, none⟩) heb).trans e1
              have p2 := (hx.cell (p := ⟨vb, i, none⟩) hvb).trans hcm
              simp only [Act.put, List.setIfInBounds_toArray, List.set_cons_zero, List.set_cons_succ] at hK ⊢
              obtain rfl := (h6 (by decide)).now
              clear h0 h1 h2 h3 h4 h5 h6 h7 h8 h9 h10 h11 h12 h13 h14 h15 h16 h17 h18 h19
              go_wp2
              exact hK _ _ (Ext.refl _) (fun _ _ => rfl)
            · intro wr hx v0 h0 v1 h1 v2 h2 v3 h3 v4 h4 v5 h5 v6 h6 v7 h7 v8 h8 v9 h9 v10 h10 v11 h11 v12 h12 v13 h13 v14 h14 v15 h15 v16 h16 v17 h17 v18 h18 v19 h19 K hK
              have p0 := (hx.cell (p := ⟨eb, 0, none⟩) heb).trans e0
              have p1 := (hx.cell (p := ⟨eb, 1, none⟩) heb).trans e1
              have p2 := (hx.cell (p := ⟨vb, i, none⟩) hvb).trans hcm
              simp only [Act.put, List.setIfInBounds_toArray, List.set_cons_zero, List.set_cons_succ] at hK ⊢
              obtain rfl := (h7 (by decide)).now
              clear h0 h1 h2 h3 h4 h5 h6 h7 h8 h9 h10 h11 h12 h13 h14 h15 h16 h17 h18 h19
              go_wp2
              exact hK _ _ (Ext.refl _) (fun _ _ => trivial)
            · intro wr hx v0 h0 v1 h1 v2 h2 v3 h3 v4 h4 v5 h5 v6 h6 v7 h7 v8 h8 v9 h9 v10 h10 v11 h11 v12 h12 v13 h13 v14 h14 v15 h15 v16 h16 v17 h17 v18 h18 v19 h19 K hK
              have p0 := (hx.cell (p := ⟨eb, 0, none⟩) heb).trans e0
              have p1 := (hx.cell (p := ⟨eb, 1, none⟩) heb).trans e1
              have p2 := (hx.cell (p := ⟨vb, i, none⟩) hvb).trans hcm
              simp only [Act.put, List.setIfInBounds_toArray, List.set_cons_zero, List.set_cons_succ] at hK ⊢
              obtain rfl := (h7 (by decide)).now
              clear h0 h1 h2 h3 h4 h5 h6 h7 h8 h9 h10 h11 h12 h13 h14 h15 h16 h17 h18 h19
              go_wp2
              exact hK _ _ (Ext.refl _) (fun _ _ => trivial)
            · intro wr hx v0 h0 v1 h1 v2 h2 v3 h3 v4 h4 v5 h5 v6 h6 v7 h7 v8 h8 v9 h9 v10 h10 v11 h11 v12 h12 v13 h13 v14 h14 v15 h15 v16 h16 v17 h17 v18 h18 v19 h19 K hK
              have p0 := (hx.cell (p := ⟨eb, 0, none⟩) heb).trans e0
              have p1 := (hx.cell (p := ⟨eb, 1, none⟩) heb).trans e1
              have p2 := (hx.cell (p := ⟨vb, i, none⟩) hvb).trans hcm
              simp only [Act.put, List.setIfInBounds_toArray, List.set_cons_zero, List.set_cons_succ] at hK ⊢
              obtain rfl := (h7 (by decide)).now
              clear h0 h1 h2 h3 h4 h5 h6 h7 h8 h9 h10 h11 h12 h13 h14 h15 h16 h17 h18 h19
              go_wp2
              exact hK _ _ (Ext.refl _) (fun _ _ => trivial)
            · intro wr hx v0 h0 v1 h1 v2 h2 v3 h3 v4 h4 v5 h5 v6 h6 v7 h7 v8 h8 v9 h9 v10 h10 v11 h11 v12 h12 v13 h13 v14 h14 v15 h15 v16 h16 v17 h17 v18 h18 v19 h19 K hK
              have p0 := (hx.cell (p := ⟨eb, 0, none⟩) heb).trans e0
              have p1 := (hx.cell (p := ⟨eb, 1, none⟩) heb).trans e1
              have p2 := (hx.cell (p := ⟨vb, i, none⟩) hvb).trans hcm
              simp only [Act.put, List.setIfInBounds_toArray, List.set_cons_zero, List.set_cons_succ] at hK ⊢
              obtain rfl := (h7 (by decide)).now
              clear h0 h1 h2 h3 h4 h5 h6 h7 h8 h9 h10 h11 h12 h13 h14 h15 h16 h17 h18 h19
              go_wp2
              exact hK _ _ (Ext.refl _) (fun _ _ => trivial)
            · intro wr hx v0 h0 v1 h1 v2 h2 v3 h3 v4 h4 v5 h5 v6 h6 v7 h7 v8 h8 v9 h9 v10 h10 v11 h11 v12 h12 v13 h13 v14 h14 v15 h15 v16 h16 v17 h17 v18 h18 v19 h19 K hK
              have p0 := (hx.cell (p := ⟨eb, 0, none⟩) heb).trans e0
              have p1 := (hx.cell (p := ⟨eb, 1, none⟩) heb).trans e1
              have p2 := (hx.cell (p := ⟨vb, i, none⟩) hvb).trans hcm
              simp only [Act.put, List.setIfInBounds_toArray, List.set_cons_zero, List.set_cons_succ] at hK ⊢
              obtain rfl := (h7 (by decide)).now
              clear h0 h1 h2 h3 h4 h5 h6 h7 h8 h9 h10 h11 h12 h13 h14 h15 h16 h17 h18 h19
              go_wp2
              exact hK _ _ (Ext.refl _) (fun _ _ => rfl)
            · intro wr hx v0 h0 v1 h1 v2 h2 v3 h3 v4 h4 v5 h5 v6 h6 v7 h7 v8 h8 v9 h9 v10 h10 v11 h11 v12 h12 v13 h13 v14 h14 v15 h15 v16 h16 v17 h17 v18 h18 v19 h19 K hK
              have p0 := (hx.cell (p := ⟨eb, 0, none⟩) heb).trans e0
              have p1 := (hx.cell (p := ⟨eb, 1, none⟩) heb).trans e1
              have p2 := (hx.cell (p := ⟨vb, i, none⟩) hvb).trans hcm
              simp only [Act.put, List.setIfInBounds_toArray, List.set_cons_zero, List.set_cons_succ] at hK ⊢
              obtain rfl := (h12 (by decide)).now
              clear h0 h1 h2 h3 h4 h5 h6 h7 h8 h9 h10 h11 h12 h13 h14 h15 h16 h17 h18 h19
              go_wp2
              exact hK _ _ (Ext.refl _) (fun _ _ => rfl)
            · intro wr hx v0 h0 v1 h1 v2 h2 v3 h3 v4 h4 v5 h5 v6 h6 v7 h7 v8 h8 v9 h9 v10 h10 v11 h11 v12 h12 v13 h13 v14 h14 v15 h15 v16 h16 v17 h17 v18 h18 v19 h19 K hK
              have p0 := (hx.cell (p := ⟨eb, 0, none⟩) heb).trans e0
              have p1 := (hx.cell (p := ⟨eb, 1, none⟩) heb).trans e1
              have p2 := (hx.cell (p := ⟨vb, i, none⟩) hvb).trans hcm
              simp only [Act.put, List.setIfInBounds_toArray, List.set_cons_zero, List.set_cons_succ] at hK ⊢
              obtain rfl := (h13 (by decide)).now
              clear h0 h1 h2 h3 h4 h5 h6 h7 h8 h9 h10 h11 h12 h13 h14 h15 h16 h17 h18 h19
              go_wp2
              exact hK _ _ (Ext.refl _) (fun _ _ => trivial)
            · intro wr hx v0 h0 v1 h1 v2 h2 v3 h3 v4 h4 v5 h5 v6 h6 v7 h7 v8 h8 v9 h9 v10 h10 v11 h11 v12 h12 v13 h13 v14 h14 v15 h15 v16 h16 v17 h17 v18 h18 v19 h19 K hK
              have p0 := (hx.cell (p := ⟨eb, 0, none⟩) heb).trans e0
              have p1 := (hx.cell (p := ⟨eb, 1, none⟩) heb).trans e1
              have p2 := (hx.cell (p := ⟨vb, i, none⟩) hvb).trans hcm
              simp only [Act.put, List.setIfInBounds_toArray, List.set_cons_zero, List.set_cons_succ] at hK ⊢
              obtain rfl := (h13 (by decide)).now
              clear h0 h1 h2 h3 h4 h5 h6 h7 h8 h9 h10 h11 h12 h13 h14 h15 h16 h17 h18 h19
              go_wp2
              exact hK _ _ (Ext.refl _) (fun _ _ => trivial)
            · intro wr hx v0 h0 v1 h1 v2 h2 v3 h3 v4 h4 v5 h5 v6 h6 v7 h7 v8 h8 v9 h9 v10 h10 v11 h11 v12 h12 v13 h13 v14 h14 v15 h15 v16 h16 v17 h17 v18 h18 v19 h19 K hK
              have p0 := (hx.cell (p := ⟨eb, 0, none⟩) heb).trans e0
              have p1 := (hx.cell (p := ⟨eb, 1, none⟩) heb).trans e1
              have p2 := (hx.cell (p := ⟨vb, i, none⟩) hvb).trans hcm
              simp only [Act.put, List.setIfInBounds_toArray, List.set_cons_zero, List.set_cons_succ] at hK ⊢
              obtain rfl := (h13 (by decide)).now
              clear h0 h1 h2 h3 h4 h5 h6 h7 h8 h9 h10 h11 h12 h13 h14 h15 h16 h17 h18 h19
              go_wp2
              exact hK _ _ (Ext.refl _) (fun _ _ => trivial)
            · intro wr hx v0 h0 v1 h1 v2 h2 v3 h3 v4 h4 v5 h5 v6 h6 v7 h7 v8 h8 v9 h9 v10 h10 v11 h11 v12 h12 v13 h13 v14 h14 v15 h15 v16 h16 v17 h17 v18 h18 v19 h19 K hK
              have p0 := (hx.cell (p := ⟨eb, 0, none⟩) heb).trans e0
              have p1 := (hx.cell (p := ⟨eb, 1, none⟩) heb).trans e1
              have p2 := (hx.cell (p := ⟨vb, i, none⟩) hvb).trans hcm
              simp only [Act.put, List.setIfInBounds_toArray, List.set_cons_zero, List.set_cons_succ] at hK ⊢
              obtain rfl := (h13 (by decide)).now
              clear h0 h1 h2 h3 h4 h5 h6 h7 h8 h9 h10 h11 h12 h13 h14 h15 h16 h17 h18 h19
              go_wp2
              exact hK _ _ (Ext.refl _) (fun _ _ => trivial)
            · intro wr hx v0 h0 v1 h1 v2 h2 v3 h3 v4 h4 v5 h5 v6 h6 v7 h7 v8 h8 v9 h9 v10 h10 v11 h11 v12 h12 v13 h13 v14 h14 v15 h15 v16 h16 v17 h17 v18 h18 v19 h19 K hK
              have p0 := (hx.cell (p := ⟨eb, 0, none⟩) heb).trans e0
              have p1 := (hx.cell (p := ⟨eb, 1, none⟩) heb).trans e1
              have p2 := (hx.cell (p := ⟨vb, i, none⟩) hvb).trans hcm
              simp only [Act.put, List.setIfInBounds_toArray, List.set_cons_zero, List.set_cons_succ] at hK ⊢
              obtain rfl := (h13 (by decide)).now
              clear h0 h1 h2 h3 h4 h5 h6 h7 h8 h9 h10 h11 h12 h13 h14 h15 h16 h17 h18 h19
              go_wp2
              exact hK _ _ (Ext.refl _) (fun _ _ => trivial)
            · intro wr hx v0 h0 v1 h1 v2 h2 v3 h3 v4 h4 v5 h5 v6 h6 v7 h7 v8 h8 v9 h9 v10 h10 v11 h11 v12 h12 v13 h13 v14 h14 v15 h15 v16 h16 v17 h17 v18 h18 v19 h19 K hK
              have p0 := (hx.cell (p := ⟨eb, 0, none⟩) heb).trans e0
              have p1 := (hx.cell (p := ⟨eb, 1, none⟩) heb).trans e1
              have p2 := (hx.cell (p := ⟨vb, i, none⟩) hvb).trans hcm
              simp only [Act.put, List.setIfInBounds_toArray, List.set_cons_zero, List.set_cons_succ] at hK ⊢
              obtain rfl := (h13 (by decide)).now
              clear h0 h1 h2 h3 h4 h5 h6 h7 h8 h9 h10 h11 h12 h13 h14 h15 h16 h17 h18 h19
              go_wp2
              exact hK _ _ (Ext.refl _) (fun _ _ => rfl)
            intro w8 hx v0 h0 v1 h1 v2 h2 v3 h3 v4 h4 v5 h5 v6 h6 v7 h7 v8 h8 v9 h9 v10 h10 v11 h11 v12 h12 v13 h13 v14 h14 v15 h15 v16 h16 v17 h17 v18 h18 v19 h19
            have p0 := (hx.cell (p := ⟨eb, 0, none⟩) heb).trans e0
            have p1 := (hx.cell (p := ⟨eb, 1, none⟩) heb).trans e1
            have p2 := (hx.cell (p := ⟨vb, i, none⟩) hvb).trans hcm
            obtain rfl := h19.now
            clear h0 h1 h2 h3 h4 h5 h6 h7 h8 h9 h10 h11 h12 h13 h14 h15 h16 h17 h18 h19
            refine tail_none (by kernel_rfl) ?_
            simp only [Act.put, List.setIfInBounds_toArray, List.set_cons_zero, List.set_cons_succ]
            have HED := Lib.hid (HED.out.later hx)
            have HOW := Lib.hid (HOW.out.later hx)
            clear e0 e1 heb hcm hvb hx hxz'
            go_wp2_with fail
            obtain ⟨hn5, hd5, hd6, hvb, hcm, his⟩ := HOW.out.placeAt SP.out.lt
            rw [HZ.out] at hcm
            have e0 := HED.out.c0
            have e1 := HED.out.c1
            have heb := HED.out.lt
            have hil := SP.out.lt
            have i1 : (i : Int) < (n5 : Int) := by omega
            have MIS := Lib.hid his
            clear his hn5
            by_cases hyz : y = z
            · have hyz' : (y == z) = true := beq_iff_eq.2 hyz
              obtain ⟨bq, hbq⟩ : ∃ bq, decide (x ∈ M) = bq := ⟨_, rfl⟩
              have HBQ := Lib.hid hbq
              have HYZ := Lib.hid hyz
              clear hbq hyz
              refine wp_region_rel 20 [[],[0],[],[],[2,3],[2,3,4],[0,1,2,3,4,5],[0,1,2,3,4,5,6],[0,1,2,3,4,5,6,7],[0,1,2,3,4,5,6,7,8],[0,1,2,3,4,5,6,7],[0,1,2,3,4,5,6,7,8,9,10],[0,1,2,3,4,5,6,7,8,9,10,11],[0,1,2,3,4,5,6,7,8,9,10,11,12],[0,1,2,3,4,5,6,7,8,9,10,11,12,13],[0,1,2,3,4,5,6,7,8,9,10,11,12,13],[0,1,2,3,4,5,6,7,8,9,10,11,12,13,15],[0,1,2,3,4,5,6,7,8,9,10,11,12,13,14,15,16],[0,1,2,3,4,5,6,7,8,9,10,11,12,13,14,15,16,17],[0,1,2,3,4,5,6,7,8,9,10,11,12,13,14,15,16,17,18]]
                [fun x_ _ => x_ = .pointer (some ⟨eb, 1, none⟩),
                 fun x_ _ => x_ = .int .i64 y,
                 fun x_ _ => x_ = .slice (some ⟨vb, 0, none⟩) n5 d5,
                 fun x_ _ => x_ = .int .i64 i,
                 fun x_ _ => x_ = .pointer (some ⟨vb, i, none⟩),
                 fun x_ _ => x_ = .int .i64 z,
                 fun x_ _ => x_ = .bool true,
                 fun x_ _ => x_ = .bool true,
                 fun x_ _ => x_ = .pointer (some ⟨eb, 0, none⟩),
                 fun x_ _ => x_ = .int .i64 x,
                 fun x_ _ => x_ = .int .i64 (-1),
                 fun x_ _ => x_ = .bool true,
                 fun x_ _ => x_ = .bool true,
                 fun x_ _ => x_ = .bool true,
                 fun x_ _ => x_ = .slice (some ⟨vb, 0, none⟩) n5 d5,
                 fun x_ _ => x_ = .pointer (some ⟨eb, 0, none⟩),
                 fun x_ _ => x_ = .int .i64 x,
                 fun x_ _ => x_ = .bool bq,
                 fun x_ _ => x_ = .bool (!bq),
                 fun x_ _ => x_ = .bool (!bq)]
                (by kernel_rfl) (by kernel_rfl) rfl ⟨?_, ?_, ?_, ?_, ?_, ?_, ?_, ?_, ?_, ?_, ?_, ?_, ?_, ?_, ?_, ?_, ?_, ?_, ?_, ?_, trivial⟩ ?_
              · intro wr hx v0 h0 v1 h1 v2 h2 v3 h3 v4 h4 v5 h5 v6 h6 v7 h7 v8 h8 v9 h9 v10 h10 v11 h11 v12 h12 v13 h13 v14 h14 v15 h15 v16 h16 v17 h17 v18 h18 v19 h19 K hK
                have p0 := (hx.cell (p := ⟨eb, 0, none⟩) heb).trans e0
                have p1 := (hx.cell (p := ⟨eb, 1, none⟩) heb).trans e1
                have p2 := (hx.cell (p := ⟨vb, i, none⟩) hvb).trans hcm
                simp only [Act.put, List.setIfInBounds_toArray, List.set_cons_zero, List.set_cons_succ] at hK ⊢
                clear h0 h1 h2 h3 h4 h5 h6 h7 h8 h9 h10 h11 h12 h13 h14 h15 h16 h17 h18 h19
                go_wp2
                exact hK _ _ (Ext.refl _) (fun _ _ => rfl)
              · intro wr hx v0 h0 v1 h1 v2 h2 v3 h3 v4 h4 v5 h5 v6 h6 v7 h7 v8 h8 v9 h9 v10 h10 v11 h11 v12 h12 v13 h13 v14 h14 v15 h15 v16 h16 v17 h17 v18 h18 v19 h19 K hK
                have p0 := (hx.cell (p := ⟨eb, 0, none⟩) heb).trans e0
                have p1 := (hx.cell (p := ⟨eb, 1, none⟩) heb).trans e1
                have p2 := (hx.cell (p := ⟨vb, i, none⟩) hvb).trans hcm
                simp only [Act.put, List.setIfInBounds_toArray, List.set_cons_zero, List.set_cons_succ] at hK ⊢
                obtain rfl := (h0 (by decide)).now
                clear h0 h1 h2 h3 h4 h5 h6 h7 h8 h9 h10 h11 h12 h13 h14 h15 h16 h17 h18 h19
                go_wp2
                exact hK _ _ (Ext.refl _) (fun _ _ => rfl)
              · intro wr hx v0 h0 v1 h1 v2 h2 v3 h3 v4 h4 v5 h5 v6 h6 v7 h7 v8 h8 v9 h9 v10 h10 v11 h11 v12 h12 v13 h13 v14 h14 v15 h15 v16 h16 v17 h17 v18 h18 v19 h19 K hK
                have p0 := (hx.cell (p := ⟨eb, 0, none⟩) heb).trans e0
                have p1 := (hx.cell (p := ⟨eb, 1, none⟩) heb).trans e1
                have p2 := (hx.cell (p := ⟨vb, i, none⟩) hvb).trans hcm
                simp only [Act.put, List.setIfInBounds_toArray, List.set_cons_zero, List.set_cons_succ] at hK ⊢
                clear h0 h1 h2 h3 h4 h5 h6 h7 h8 h9 h10 h11 h12 h13 h14 h15 h16 h17 h18 h19
                go_wp2
                exact hK _ _ (Ext.refl _) (fun _ _ => rfl)
              · intro wr hx v0 h0 v1 h1 v2 h2 v3 h3 v4 h4 v5 h5 v6 h6 v7 h7 v8 h8 v9 h9 v10 h10 v11 h11 v12 h12 v13 h13 v14 h14 v15 h15 v16 h16 v17 h17 v18 h18 v19 h19 K hK
                have p0 := (hx.cell (p := ⟨eb, 0, none⟩) heb).trans e0
                have p1 := (hx.cell (p := ⟨eb, 1, none⟩) heb).trans e1
                have p2 := (hx.cell (p := ⟨vb, i, none⟩) hvb).trans hcm
                simp only [Act.put, List.setIfInBounds_toArray, List.set_cons_zero, List.set_cons_succ] at hK ⊢
                clear h0 h1 h2 h3 h4 h5 h6 h7 h8 h9 h10 h11 h12 h13 h14 h15 h16 h17 h18 h19
                go_wp2
                exact hK _ _ (Ext.refl _) (fun _ _ => rfl)
              · intro wr hx v0 h0 v1 h1 v2 h2 v3 h3 v4 h4 v5 h5 v6 h6 v7 h7 v8 h8 v9 h9 v10 h10 v11 h11 v12 h12 v13 h13 v14 h14 v15 h15 v16 h16 v17 h17 v18 h18 v19 h19 K hK
                have p0 := (hx.cell (p := ⟨eb, 0, none⟩) heb).trans e0
                have p1 := (hx.cell (p := ⟨eb, 1, none⟩) heb).trans e1
                have p2 := (hx.cell (p := ⟨vb, i, none⟩) hvb).trans hcm
                simp only [Act.put, List.setIfInBounds_toArray, List.set_cons_zero, List.set_cons_succ] at hK ⊢
                obtain rfl := (h2 (by decide)).now
                obtain rfl := (h3 (by decide)).now
                clear h0 h1 h2 h3 h4 h5 h6 h7 h8 h9 h10 h11 h12 h13 h14 h15 h16 h17 h18 h19
                go_wp2
                exact hK _ _ (Ext.refl _) (fun _ _ => rfl)
              · intro wr hx v0 h0 v1 h1 v2 h2 v3 h3 v4 h4 v5 h5 v6 h6 v7 h7 v8 h8 v9 h9 v10 h10 v11 h11 v12 h12 v13 h13 v14 h14 v15 h15 v16 h16 v17 h17 v18 h18 v19 h19 K hK
                have p0 := (hx.cell (p := ⟨eb, 0, none⟩) heb).trans e0
                have p1 := (hx.cell (p := ⟨eb, 1, none⟩) heb).trans e1
                have p2 := (hx.cell (p := ⟨vb, i, none⟩) hvb).trans hcm
                simp only [Act.put, List.setIfInBounds_toArray, List.set_cons_zero, List.set_cons_succ] at hK ⊢
                obtain rfl := (h4 (by decide)).now
                clear h0 h1 h2 h3 h4 h5 h6 h7 h8 h9 h10 h11 h12 h13 h14 h15 h16 h17 h18 h19
                go_wp2
                exact hK _ _ (Ext.refl _) (fun _ _ => rfl)
              · intro wr hx v0 h0 v1 h1 v2 h2 v3 h3 v4 h4 v5 h5 v6 h6 v7 h7 v8 h8 v9 h9 v10 h10 v11 h11 v12 h12 v13 h13 v14 h14 v15 h15 v16 h16 v17 h17 v18 h18 v19 h19 K hK
                have p0 := (hx.cell (p := ⟨eb, 0, none⟩) heb).trans e0
                have p1 := (hx.cell (p := ⟨eb, 1, none⟩) heb).trans e1
                have p2 := (hx.cell (p := ⟨vb, i, none⟩) hvb).trans hcm
                simp only [Act.put, List.setIfInBounds_toArray, List.set_cons_zero, List.set_cons_succ] at hK ⊢
                obtain rfl := (h1 (by decide)).now
                obtain rfl := (h5 (by decide)).now
                clear h0 h1 h2 h3 h4 h5 h6 h7 h8 h9 h10 h11 h12 h13 h14 h15 h16 h17 h18 h19
                go_wp2
                exact hK _ _ (Ext.refl _) (fun _ _ => rfl)
              · intro wr hx v0 h0 v1 h1 v2 h2 v3 h3 v4 h4 v5 h5 v6 h6 v7 h7 v8 h8 v9 h9 v10 h10 v11 h11 v12 h12 v13 h13 v14 h14 v15 h15 v16 h16 v17 h17 v18 h18 v19 h19 K hK
                have p0 := (hx.cell (p := ⟨eb, 0, none⟩) heb).trans e0
                have p1 := (hx.cell (p := ⟨eb, 1, none⟩) heb).trans e1
                have p2 := (hx.cell (p := ⟨vb, i, none⟩) hvb).trans hcm
                simp only [Act.put, List.setIfInBounds_toArray, List.set_cons_zero, List.set_cons_succ] at hK ⊢
                obtain rfl := (h6 (by decide)).now
                clear h0 h1 h2 h3 h4 h5 h6 h7 h8 h9 h10 h11 h12 h13 h14 h15 h16 h17 h18 h19
                go_wp2
                exact hK _ _ (Ext.refl _) (fun _ _ => rfl)
              · intro wr hx v0 h0 v1 h1 v2 h2 v3 h3 v4 h4 v5 h5 v6 h6 v7 h7 v8 h8 v9 h9 v10 h10 v11 h11 v12 h12 v13 h13 v14 h14 v15 h15 v16 h16 v17 h17 v18 h18 v19 h19 K hK
                have p0 := (hx.cell (p := ⟨eb, 0, none⟩) heb).trans e0
                have p1 := (hx.cell (p := ⟨eb, 1, none⟩) heb).trans e1
                have p2 := (hx.cell (p := ⟨vb, i, none⟩) hvb).trans hcm
                simp only [Act.put, List.setIfInBounds_toArray, List.set_cons_zero, List.set_cons_succ] at hK ⊢
                obtain rfl := (h7 (by decide)).now
                clear h0 h1 h2 h3 h4 h5 h6 h7 h8 h9 h10 h11 h12 h13 h14 h15 h16 h17 h18 h19
                go_wp2
                exact hK _ _ (Ext.refl _) (fun _ _ => rfl)
              · intro wr hx v0 h0 v1 h1 v2 h2 v3 h3 v4 h4 v5 h5 v6 h6 v7 h7 v8 h8 v9 h9 v10 h10 v11 h11 v12 h12 v13 h13 v14 h14 v15 h15 v16 h16 v17 h17 v18 h18 v19 h19 K hK
                have p0 := (hx.cell (p := ⟨eb, 0, none⟩) heb).trans e0
                have p1 := (hx.cell (p := ⟨eb, 1, none⟩) heb).trans e1
                have p2 := (hx.cell (p := ⟨vb, i, none⟩) hvb).trans hcm
                simp only [Act.put, List.setIfInBounds_toArray, List.set_cons_zero, List.set_cons_succ] at hK ⊢
                obtain rfl := (h7 (by decide)).now
                obtain rfl := (h8 (by decide)).now
                clear h0 h1 h2 h3 h4 h5 h6 h7 h8 h9 h10 h11 h12 h13 h14 h15 h16 h17 h18 h19
                go_wp2
                exact hK _ _ (Ext.refl _) (fun _ _ => rfl)
              · intro wr hx v0 h0 v1 h1 v2 h2 v3 h3 v4 h4 v5 h5 v6 h6 v7 h7 v8 h8 v9 h9 v10 h10 v11 h11 v12 h12 v13 h13 v14 h14 v15 h15 v16 h16 v17 h17 v18 h18 v19 h19 K hK
                have p0 := (hx.cell (p := ⟨eb, 0, none⟩) heb).trans e0
                have p1 := (hx.cell (p := ⟨eb, 1, none⟩) heb).trans e1
                have p2 := (hx.cell (p := ⟨vb, i, none⟩) hvb).trans hcm
                simp only [Act.put, List.setIfInBounds_toArray, List.set_cons_zero, List.set_cons_succ] at hK ⊢
                obtain rfl := (h7 (by decide)).now
                clear h0 h1 h2 h3 h4 h5 h6 h7 h8 h9 h10 h11 h12 h13 h14 h15 h16 h17 h18 h19
                go_wp2
                exact hK _ _ (Ext.refl _) (fun _ _ => rfl)
              · intro wr hx v0 h0 v1 h1 v2 h2 v3 h3 v4 h4 v5 h5 v6 h6 v7 h7 v8 h8 v9 h9 v10 h10 v11 h11 v12 h12 v13 h13 v14 h14 v15 h15 v16 h16 v17 h17 v18 h18 v19 h19 K hK
                have p0 := (hx.cell (p := ⟨eb, 0, none⟩) heb).trans e0
                have p1 := (hx.cell (p := ⟨eb, 1, none⟩) heb).trans e1
                have p2 := (hx.cell (p := ⟨vb, i, none⟩) hvb).trans hcm
                simp only [Act.put, List.setIfInBounds_toArray, List.set_cons_zero, List.set_cons_succ] at hK ⊢
                obtain rfl := (h7 (by decide)).now
                obtain rfl := (h9 (by decide)).now
                obtain rfl := (h10 (by decide)).now
                clear h0 h1 h2 h3 h4 h5 h6 h7 h8 h9 h10 h11 h12 h13 h14 h15 h16 h17 h18 h19
                go_wp2
                exact hK _ _ (Ext.refl _) (fun _ _ => rfl)
              · intro wr hx v0 h0 v1 h1 v2 h2 v3 h3 v4 h4 v5 h5 v6 h6 v7 h7 v8 h8 v9 h9 v10 h10 v11 h11 v12 h12 v13 h13 v14 h14 v15 h15 v16 h16 v17 h17 v18 h18 v19 h19 K hK
                have p0 := (hx.cell (p := ⟨eb, 0, none⟩) heb).trans e0
                have p1 := (hx.cell (p := ⟨eb, 1, none⟩) heb).trans e1
                have p2 := (hx.cell (p := ⟨vb, i, none⟩) hvb).trans hcm
                simp only [Act.put, List.setIfInBounds_toArray, List.set_cons_zero, List.set_cons_succ] at hK ⊢
                obtain rfl := (h7 (by decide)).now
                obtain rfl := (h11 (by decide)).now
                clear h0 h1 h2 h3 h4 h5 h6 h7 h8 h9 h10 h11 h12 h13 h14 h15 h16 h17 h18 h19
                go_wp2
                exact hK _ _ (Ext.refl _) (fun _ _ => rfl)
              · intro wr hx v0 h0 v1 h1 v2 h2 v3 h3 v4 h4 v5 h5 v6 h6 v7 h7 v8 h8 v9 h9 v10 h10 v11 h11 v12 h12 v13 h13 v14 h14 v15 h15 v16 h16 v17 h17 v18 h18 v19 h19 K hK
                have p0 := (hx.cell (p := ⟨eb, 0, none⟩) heb).trans e0
                have p1 := (hx.cell (p := ⟨eb, 1, none⟩) heb).trans e1
                have p2 := (hx.cell (p := ⟨vb, i, none⟩) hvb).trans hcm
                simp only [Act.put, List.setIfInBounds_toArray, List.set_cons_zero, List.set_cons_succ] at hK ⊢
                obtain rfl := (h12 (by decide)).now
                clear h0 h1 h2 h3 h4 h5 h6 h7 h8 h9 h10 h11 h12 h13 h14 h15 h16 h17 h18 h19
                go_wp2
                exact hK _ _ (Ext.refl _) (fun _ _ => rfl)
              · intro wr hx v0 h0 v1 h1 v2 h2 v3 h3 v4 h4 v5 h5 v6 h6 v7 h7 v8 h8 v9 h9 v10 h10 v11 h11 v12 h12 v13 h13 v14 h14 v15 h15 v16 h16 v17 h17 v18 h18 v19 h19 K hK
                have p0 := (hx.cell (p := ⟨eb, 0, none⟩) heb).trans e0
                have p1 := (hx.cell (p := ⟨eb, 1, none⟩) heb).trans e1
                have p2 := (hx.cell (p := ⟨vb, i, none⟩) hvb).trans hcm
                simp only [Act.put, List.setIfInBounds_toArray, List.set_cons_zero, List.set_cons_succ] at hK ⊢
                obtain rfl := (h13 (by decide)).now
                clear h0 h1 h2 h3 h4 h5 h6 h7 h8 h9 h10 h11 h12 h13 h14 h15 h16 h17 h18 h19
                go_wp2
                exact hK _ _ (Ext.refl _) (fun _ _ => rfl)
              · intro wr hx v0 h0 v1 h1 v2 h2 v3 h3 v4 h4 v5 h5 v6 h6 v7 h7 v8 h8 v9 h9 v10 h10 v11 h11 v12 h12 v13 h13 v14 h14 v15 h15 v16 h16 v17 h17 v18 h18 v19 h19 K hK
                have p0 := (hx.cell (p := ⟨eb, 0, none⟩) heb).trans e0
                have p1 := (hx.cell (p := ⟨eb, 1, none⟩) heb).trans e1
                have p2 := (hx.cell (p := ⟨vb, i, none⟩) hvb).trans hcm
                simp only [Act.put, List.setIfInBounds_toArray, List.set_cons_zero, List.set_cons_succ] at hK ⊢
                obtain rfl := (h13 (by decide)).now
                clear h0 h1 h2 h3 h4 h5 h6 h7 h8 h9 h10 h11 h12 h13 h14 h15 h16 h17 h18 h19
                go_wp2
                exact hK _ _ (Ext.refl _) (fun _ _ => rfl)
              · intro wr hx v0 h0 v1 h1 v2 h2 v3 h3 v4 h4 v5 h5 v6 h6 v7 h7 v8 h8 v9 h9 v10 h10 v11 h11 v12 h12 v13 h13 v14 h14 v15 h15 v16 h16 v17 h17 v18 h18 v19 h19 K hK
                have p0 := (hx.cell (p := ⟨eb, 0, none⟩) heb).trans e0
                have p1 := (hx.cell (p := ⟨eb, 1, none⟩) heb).trans e1
                have p2 := (hx.cell (p := ⟨vb, i, none⟩) hvb).trans hcm
                simp only [Act.put, List.setIfInBounds_toArray, List.set_cons_zero, List.set_cons_succ] at hK ⊢
                obtain rfl := (h13 (by decide)).now
                obtain rfl := (h15 (by decide)).now
                clear h0 h1 h2 h3 h4 h5 h6 h7 h8 h9 h10 h11 h12 h13 h14 h15 h16 h17 h18 h19
                go_wp2
                exact hK _ _ (Ext.refl _) (fun _ _ => rfl)
              · intro wr hx v0 h0 v1 h1 v2 h2 v3 h3 v4 h4 v5 h5 v6 h6 v7 h7 v8 h8 v9 h9 v10 h10 v11 h11 v12 h12 v13 h13 v14 h14 v15 h15 v16 h16 v17 h17 v18 h18 v19 h19 K hK
                have p0 := (hx.cell (p := ⟨eb, 0, none⟩) heb).trans e0
                have p1 := (hx.cell (p := ⟨eb, 1, none⟩) heb).trans e1
                have p2 := (hx.cell (p := ⟨vb, i, none⟩) hvb).trans hcm
                simp only [Act.put, List.setIfInBounds_toArray, List.set_cons_zero, List.set_cons_succ] at hK ⊢
                obtain rfl := (h13 (by decide)).now
                obtain rfl := (h14 (by decide)).now
                obtain rfl := (h16 (by decide)).now
                clear h0 h1 h2 h3 h4 h5 h6 h7 h8 h9 h10 h11 h12 h13 h14 h15 h16 h17 h18 h19
                go_wp2_with fail
                refine (in_any wr _ _ n5 d5 _ x (MIS.out.step hx)).mono ?_
                rintro e w' ⟨rfl, rfl⟩
                rw [HBQ.out]
                go_wp2
                exact hK _ _ (Ext.refl _) (fun _ _ => rfl)
              · intro wr hx v0 h0 v1 h1 v2 h2 v3 h3 v4 h4 v5 h5 v6 h6 v7 h7 v8 h8 v9 h9 v10 h10 v11 h11 v12 h12 v13 h13 v14 h14 v15 h15 v16 h16 v17 h17 v18 h18 v19 h19 K hK
                have p0 := (hx.cell (p := ⟨eb, 0, none⟩) heb).trans e0
                have p1 := (hx.cell (p := ⟨eb, 1, none⟩) heb).trans e1
                have p2 := (hx.cell (p := ⟨vb, i, none⟩) hvb).trans hcm
                simp only [Act.put, List.setIfInBounds_toArray, List.set_cons_zero, List.set_cons_succ] at hK ⊢
                obtain rfl := (h13 (by decide)).now
                obtain rfl := (h17 (by decide)).now
                clear h0 h1 h2 h3 h4 h5 h6 h7 h8 h9 h10 h11 h12 h13 h14 h15 h16 h17 h18 h19
                go_wp2
                exact hK _ _ (Ext.refl _) (fun _ _ => rfl)
              · intro wr hx v0 h0 v1 h1 v2 h2 v3 h3 v4 h4 v5 h5 v6 h6 v7 h7 v8 h8 v9 h9 v10 h10 v11 h11 v12 h12 v13 h13 v14 h14 v15 h15 v16 h16 v17 h17 v18 h18 v19 h19 K hK
                have p0 := (hx.cell (p := ⟨eb, 0, none⟩) heb).trans e0
                have p1 := (hx.cell (p := ⟨eb, 1, none⟩) heb).trans e1
                have p2 := (hx.cell (p := ⟨vb, i, none⟩) hvb).trans hcm
                simp only [Act.put, List.setIfInBounds_toArray, List.set_cons_zero, List.set_cons_succ] at hK ⊢
                obtain rfl := (h13 (by decide)).now
                obtain rfl := (h18 (by decide)).now
                clear h0 h1 h2 h3 h4 h5 h6 h7 h8 h9 h10 h11 h12 h13 h14 h15 h16 h17 h18 h19
                go_wp2
                exact hK _ _ (Ext.refl _) (fun _ _ => rfl)
              intro w8 hx v0 h0 v1 h1 v2 h2 v3 h3 v4 h4 v5 h5 v6 h6 v7 h7 v8 h8 v9 h9 v10 h10 v11 h11 v12 h12 v13 h13 v14 h14 v15 h15 v16 h16 v17 h17 v18 h18 v19 h19
              have p0 := (hx.cell (p := ⟨eb, 0, none⟩) heb).trans e0
              have p1 := (hx.cell (p := ⟨eb, 1, none⟩) heb).trans e1
              have p2 := (hx.cell (p := ⟨vb, i, none⟩) hvb).trans hcm
              obtain rfl := h19.now
              clear h0 h1 h2 h3 h4 h5 h6 h7 h8 h9 h10 h11 h12 h13 h14 h15 h16 h17 h18 h19
              refine tail_none (by kernel_rfl) ?_
              simp only [Act.put, List.setIfInBounds_toArray, List.set_cons_zero, List.set_cons_succ]
              have HED := Lib.hid (HED.out.later hx)
              have HOW := Lib.hid (HOW.out.later hx)
              cases bq with
              | true =>
                have H2X : Hid (y = (M).getD i 0 → x ∈ M) := Lib.hid fun _ => of_decide_eq_true HBQ.out
                clear e0 e1 heb hcm hvb hx
                go_wp2
                go_roundw
                case rel => exact ⟨k + 1, by omega, by go_num, _, HOW.out, SP.out.step HKL.out HQ.out HEN.out H1Y.out H2X.out, HZ.out⟩
                case measure => simp [intOf]; omega
              | false =>
                have hml : Hid (M.length + 1 ≤ 1000000000000) := Lib.hid (by have := (SP.out.out.small HP.out HR.out).1; omega)
                have HNY := Lib.hid (show x ∉ M from fun h => by have := HBQ.out; rw [decide_eq_true h] at this; cases this)
                have SP2 := Lib.hid (SP.out.push HNY.out (SP.out.hang2 HP.out HQM.out HEN.out (HYZ.out.trans HZ.out.symm)))
                have HZ2 : Hid ((M ++ [x]).getD i 0 = z) := Lib.hid (by rw [getD_app SP.out.lt]; exact HZ.out)
                obtain ⟨d0, d1⟩ : w8.cell? ⟨eb, 0, none⟩ = some (.int .i64 x) ∧ w8.cell? ⟨eb, 1, none⟩ = some (.int .i64 y) := ⟨HED.out.c0, HED.out.c1⟩
                clear e0 e1 heb hcm hvb hx
                go_wp2_with (with_reducible show wpList _ _ _ (Oper.mk (some 87) _ _ _ _ _ :: _) _ _; go_must (refine wpList_append_one (v := .slice (some ⟨vb, 0, none⟩) n5 d5) (w0 := w1) rfl _ _ rfl rfl HOW.out _ hx64 rfl hml.out ?_; intro v9 w9 hown9 hg9 _; have HED9 := Lib.hid (HED.out.pushed HOW.out hg9); have HOW9 := Lib.hid hown9; obtain ⟨vb, n5, d5, rfl, k1, k2, k3, k4, k5, k6⟩ := hown9.place (show i < (M ++ [x]).length by rw [List.length_append]; have := SP.out.lt; omega); obtain ⟨d0, d1⟩ := edge_cells HED9.out; clear k1 k2 k3 k4 k5 k6))
                go_roundw
                case rel =>
                  refine ⟨k + 1, by omega, by go_num, _, HOW9.out, SP2.out.step HKL.out HQ.out HEN.out (fun e => ?_) (fun _ => by simp), HZ2.out⟩
                  rw [HZ2.out, ← HZ.out] at e
                  exact List.mem_append_left _ (H1Y.out e)
                case measure => simp [intOf]; omega
            · have hyz' : (y == z) = false := beq_eq_false_iff_ne.2 hyz
              have H2X : Hid (y = (M).getD i 0 → x ∈ M) := Lib.hid fun e => absurd (e.trans HZ.out) hyz
              clear hyz
              refine wp_region_rel 20 [[],[0],[],[],[2,3],[2,3,4],[0,1,2,3,4,5],[0,1,2,3,4,5,6],[0,1,2,3,4,5,6,7],[0,1,2,3,4,5,6,7,8],[0,1,2,3,4,5,6,7],[0,1,2,3,4,5,6,7,8,9,10],[0,1,2,3,4,5,6,7,8,9,10,11],[0,1,2,3,4,5,6,7,8,9,10,11,12],[0,1,2,3,4,5,6,7,8,9,10,11,12,13],[0,1,2,3,4,5,6,7,8,9,10,11,12,13],[0,1,2,3,4,5,6,7,8,9,10,11,12,13,15],[0,1,2,3,4,5,6,7,8,9,10,11,12,13,14,15,16],[0,1,2,3,4,5,6,7,8,9,10,11,12,13,14,15,16,17],[0,1,2,3,4,5,6,7,8,9,10,11,12,13,14,15,16,17,18]]
                [fun x_ _ => x_ = .pointer (some ⟨eb, 1, none⟩),
                 fun x_ _ => x_ = .int .i64 y,
                 fun x_ _ => x_ = .slice (some ⟨vb, 0, none⟩) n5 d5,
                 fun x_ _ => x_ = .int .i64 i,
                 fun x_ _ => x_ = .pointer (some ⟨vb, i, none⟩),
                 fun x_ _ => x_ = .int .i64 z,
                 fun x_ _ => x_ = .bool false,
                 fun x_ _ => x_ = .bool false,
                 fun _ _ => True,
                 fun _ _ => True,
                 fun _ _ => True,
                 fun _ _ => True,
                 fun x_ _ => x_ = .bool false,
                 fun x_ _ => x_ = .bool false,
                 fun _ _ => True,
                 fun _ _ => True,
                 fun _ _ => True,
                 fun _ _ => True,
                 fun _ _ => True,
                 fun x_ _ => x_ = .bool false]
                (by kernel_rfl) (by kernel_rfl) rfl ⟨?_, ?_, ?_, ?_, ?_, ?_, ?_, ?_, ?_, ?_, ?_, ?_, ?_, ?_, ?_, ?_, ?_, ?_, ?_, ?_, trivial⟩ ?_
              · intro wr hx v0 h0 v1 h1 v2 h2 v3 h3 v4 h4 v5 h5 v6 h6 v7 h7 v8 h8 v9 h9 v10 h10 v11 h11 v12 h12 v13 h13 v14 h14 v15 h15 v16 h16 v17 h17 v18 h18 v19 h19 K hK
                have p0 := (hx.cell (p := ⟨eb, 0, none⟩) heb).trans e0
                have p1 := (hx.cell (p := ⟨eb, 1, none⟩) heb).trans e1
                have p2 := (hx.cell (p := ⟨vb, i, none⟩) hvb).trans hcm
                simp only [Act.put, List.setIfInBounds_toArray, List.set_cons_zero, List.set_cons_succ] at hK ⊢
                clear h0 h1 h2 h3 h4 h5 h6 h7 h8 h9 h10 h11 h12 h13 h14 h15 h16 h17 h18 h19
                go_wp2
                exact hK _ _ (Ext.refl _) (fun _ _ => rfl)
              · intro wr hx v0 h0 v1 h1 v2 h2 v3 h3 v4 h4 v5 h5 v6 h6 v7 h7 v8 h8 v9 h9 v10 h10 v11 h11 v12 h12 v13 h13 v14 h14 v15 h15 v16 h16 v17 h17 v18 h18 v19 h19 K hK
                have p0 := (hx.cell (p := ⟨eb, 0, none⟩) heb).trans e0
                have p1 := (hx.cell (p := ⟨eb, 1, none⟩) heb).trans e1
                have p2 := (hx.cell (p := ⟨vb, i, none⟩) hvb).trans hcm
                simp only [Act.put, List.setIfInBounds_toArray, List.set_cons_zero, List.set_cons_succ] at hK ⊢
                obtain rfl := (h0 (by decide)).now
                clear h0 h1 h2 h3 h4 h5 h6 h7 h8 h9 h10 h11 h12 h13 h14 h15 h16 h17 h18 h19
                go_wp2
                exact hK _ _ (Ext.refl _) (fun _ _ => rfl)
              · intro wr hx v0 h0 v1 h1 v2 h2 v3 h3 v4 h4 v5 h5 v6 h6 v7 h7 v8 h8 v9 h9 v10 h10 v11 h11 v12 h12 v13 h13 v14 h14 v15 h15 v16 h16 v17 h17 v18 h18 v19 h19 K hK
                have p0 := (hx.cell (p := ⟨eb, 0, none⟩) heb).trans e0
                have p1 := (hx.cell (p := ⟨eb, 1, none⟩) heb).trans e1
                have p2 := (hx.cell (p := ⟨vb, i, none⟩) hvb).trans hcm
                simp only [Act.put, List.setIfInBounds_toArray, List.set_cons_zero, List.set_cons_succ] at hK ⊢
                clear h0 h1 h2 h3 h4 h5 h6 h7 h8 h9 h10 h11 h12 h13 h14 h15 h16 h17 h18 h19
                go_wp2
                exact hK _ _ (Ext.refl _) (fun _ _ => rfl)
              · intro wr hx v0 h0 v1 h1 v2 h2 v3 h3 v4 h4 v5 h5 v6 h6 v7 h7 v8 h8 v9 h9 v10 h10 v11 h11 v12 h12 v13 h13 v14 h14 v15 h15 v16 h16 v17 h17 v18 h18 v19 h19 K hK
                have p0 := (hx.cell (p := ⟨eb, 0, none⟩) heb).trans e0
                have p1 := (hx.cell (p := ⟨eb, 1, none⟩) heb).trans e1
                have p2 := (hx.cell (p := ⟨vb, i, none⟩) hvb).trans hcm
                simp only [Act.put, List.setIfInBounds_toArray, List.set_cons_zero, List.set_cons_succ] at hK ⊢
                clear h0 h1 h2 h3 h4 h5 h6 h7 h8 h9 h10 h11 h12 h13 h14 h15 h16 h17 h18 h19
                go_wp2
                exact hK _ _ (Ext.refl _) (fun _ _ => rfl)
              · intro wr hx v0 h0 v1 h1 v2 h2 v3 h3 v4 h4 v5 h5 v6 h6 v7 h7 v8 h8 v9 h9 v10 h10 v11 h11 v12 h12 v13 h13 v14 h14 v15 h15 v16 h16 v17 h17 v18 h18 v19 h19 K hK
                have p0 := (hx.cell (p := ⟨eb, 0, none⟩) heb).trans e0
                have p1 := (hx.cell (p := ⟨eb, 1, none⟩) heb).trans e1
                have p2 := (hx.cell (p := ⟨vb, i, none⟩) hvb).trans hcm
                simp only [Act.put, List.setIfInBounds_toArray, List.set_cons_zero, List.set_cons_succ] at hK ⊢
                obtain rfl := (h2 (by decide)).now
                obtain rfl := (h3 (by decide)).now
                clear h0 h1 h2 h3 h4 h5 h6 h7 h8 h9 h10 h11 h12 h13 h14 h15 h16 h17 h18 h19
                go_wp2
                exact hK _ _ (Ext.refl _) (fun _ _ => rfl)
              · intro wr hx v0 h0 v1 h1 v2 h2 v3 h3 v4 h4 v5 h5 v6 h6 v7 h7 v8 h8 v9 h9 v10 h10 v11 h11 v12 h12 v13 h13 v14 h14 v15 h15 v16 h16 v17 h17 v18 h18 v19 h19 K hK
                have p0 := (hx.cell (p := ⟨eb, 0, none⟩) heb).trans e0
                have p1 := (hx.cell (p := ⟨eb, 1, none⟩) heb).trans e1
                have p2 := (hx.cell (p := ⟨vb, i, none⟩) hvb).trans hcm
                simp only [Act.put, List.setIfInBounds_toArray, List.set_cons_zero, List.set_cons_succ] at hK ⊢
                obtain rfl := (h4 (by decide)).now
                clear h0 h1 h2 h3 h4 h5 h6 h7 h8 h9 h10 h11 h12 h13 h14 h15 h16 h17 h18 h19
                go_wp2
                exact hK _ _ (Ext.refl _) (fun _ _ => rfl)
              · intro wr hx v0 h0 v1 h1 v2 h2 v3 h3 v4 h4 v5 h5 v6 h6 v7 h7 v8 h8 v9 h9 v10 h10 v11 h11 v12 h12 v13 h13 v14 h14 v15 h15 v16 h16 v17 h17 v18 h18 v19 h19 K hK
                have p0 := (hx.cell (p := ⟨eb, 0, none⟩) heb).trans e0
                have p1 := (hx.cell (p := ⟨eb, 1, none⟩) heb).trans e1
                have p2 := (hx.cell (p := ⟨vb, i, none⟩) hvb).trans hcm
                simp only [Act.put, List.setIfInBounds_toArray, List.set_cons_zero, List.set_cons_succ] at hK ⊢
                obtain rfl := (h1 (by decide)).now
                obtain rfl := (h5 (by decide)).now
                clear h0 h1 h2 h3 h4 h5 h6 h7 h8 h9 h10 h11 h12 h13 h14 h15 h16 h17 h18 h19
                go_wp2
                exact hK _ _ (Ext.refl _) (fun _ _ => rfl)
              · intro wr hx v0 h0 v1 h1 v2 h2 v3 h3 v4 h4 v5 h5 v6 h6 v7 h7 v8 h8 v9 h9 v10 h10 v11 h11 v12 h12 v13 h13 v14 h14 v15 h15 v16 h16 v17 h17 v18 h18 v19 h19 K hK
                have p0 := (hx.cell (p := ⟨eb, 0, none⟩) heb).trans e0
                have p1 := (hx.cell (p := ⟨eb, 1, none⟩) heb).trans e1
                have p2 := (hx.cell (p := ⟨vb, i, none⟩) hvb).trans hcm
                simp only [Act.put, List.setIfInBounds_toArray, List.set_cons_zero, List.set_cons_succ] at hK ⊢
                obtain rfl := (h6 (by decide)).now
                clear h0 h1 h2 h3 h4 h5 h6 h7 h8 h9 h10 h11 h12 h13 h14 h15 h16 h17 h18 h19
                go_wp2
                exact hK _ _ (Ext.refl _) (fun _ _ => rfl)
              · intro wr hx v0 h0 v1 h1 v2 h2 v3 h3 v4 h4 v5 h5 v6 h6 v7 h7 v8 h8 v9 h9 v10 h10 v11 h11 v12 h12 v13 h13 v14 h14 v15 h15 v16 h16 v17 h17 v18 h18 v19 h19 K hK
                have p0 := (hx.cell (p := ⟨eb, 0, none⟩) heb).trans e0
                have p1 := (hx.cell (p := ⟨eb, 1, none⟩) heb).trans e1
                have p2 := (hx.cell (p := ⟨vb, i, none⟩) hvb).trans hcm
                simp only [Act.put, List.setIfInBounds_toArray, List.set_cons_zero, List.set_cons_succ] at hK ⊢
                obtain rfl := (h7 (by decide)).now
                clear h0 h1 h2 h3 h4 h5 h6 h7 h8 h9 h10 h11 h12 h13 h14 h15 h16 h17 h18 h19
                go_wp2
                exact hK _ _ (Ext.refl _) (fun _ _ => trivial)
              · intro wr hx v0 h0 v1 h1 v2 h2 v3 h3 v4 h4 v5 h5 v6 h6 v7 h7 v8 h8 v9 h9 v10 h10 v11 h11 v12 h12 v13 h13 v14 h14 v15 h15 v16 h16 v17 h17 v18 h18 v19 h19 K hK
                have p0 := (hx.cell (p := ⟨eb, 0, none⟩) heb).trans e0
                have p1 := (hx.cell (p := ⟨eb, 1, none⟩) heb).trans e1
                have p2 := (hx.cell (p := ⟨vb, i, none⟩) hvb).trans hcm
                simp only [Act.put, List.setIfInBounds_toArray, List.set_cons_zero, List.set_cons_succ] at hK ⊢
                obtain rfl := (h7 (by decide)).now
                clear h0 h1 h2 h3 h4 h5 h6 h7 h8 h9 h10 h11 h12 h13 h14 h15 h16 h17 h18 h19
                go_wp2
                exact hK _ _ (Ext.refl _) (fun _ _ => trivial)
              · intro wr hx v0 h0 v1 h1 v2 h2 v3 h3 v4 h4 v5 h5 v6 h6 v7 h7 v8 h8 v9 h9 v10 h10 v11 h11 v12 h12 v13 h13 v14 h14 v15 h15 v16 h16 v17 h17 v18 h18 v19 h19 K hK
                have p0 := (hx.cell (p := ⟨eb, 0, none⟩) heb).trans e0
                have p1 := (hx.cell (p := ⟨eb, 1, none⟩) heb).trans e1
                have p2 := (hx.cell (p := ⟨vb, i, none⟩) hvb).trans hcm
                simp only [Act.put, List.setIfInBounds_toArray, List.set_cons_zero, List.set_cons_succ] at hK ⊢
                obtain rfl := (h7 (by decide)).now
                clear h0 h1 h2 h3 h4 h5 h6 h7 h8 h9 h10 h11 h12 h13 h14 h15 h16 h17 h18 h19
                go_wp2
                exact hK _ _ (Ext.refl _) (fun _ _ => trivial)
              · intro wr hx v0 h0 v1 h1 v2 h2 v3 h3 v4 h4 v5 h5 v6 h6 v7 h7 v8 h8 v9 h9 v10 h10 v11 h11 v12 h12 v13 h13 v14 h14 v15 h15 v16 h16 v17 h17 v18 h18 v19 h19 K hK
                have p0 := (hx.cell (p := ⟨eb, 0, none⟩) heb).trans e0
                have p1 := (hx.cell (p := ⟨eb, 1, none⟩) heb).trans e1
                have p2 := (hx.cell (p := ⟨vb, i, none⟩) hvb).trans hcm
                simp only [Act.put, List.setIfInBounds_toArray, List.set_cons_zero, List.set_cons_succ] at hK ⊢
                obtain rfl := (h7 (by decide)).now
                clear h0 h1 h2 h3 h4 h5 h6 h7 h8 h9 h10 h11 h12 h13 h14 h15 h16 h17 h18 h19
                go_wp2
                exact hK _ _ (Ext.refl _) (fun _ _ => trivial)
              · intro wr hx v0 h0 v1 h1 v2 h2 v3 h3 v4 h4 v5 h5 v6 h6 v7 h7 v8 h8 v9 h9 v10 h10 v11 h11 v12 h12 v13 h13 v14 h14 v15 h15 v16 h16 v17 h17 v18 h18 v19 h19 K hK
                have p0 := (hx.cell (p := ⟨eb, 0, none⟩) heb).trans e0
                have p1 := (hx.cell (p := ⟨eb, 1, none⟩) heb).trans e1
                have p2 := (hx.cell (p := ⟨vb, i, none⟩) hvb).trans hcm
                simp only [Act.put, List.setIfInBounds_toArray, List.set_cons_zero, List.set_cons_succ] at hK ⊢
                obtain rfl := (h7 (by decide)).now
                clear h0 h1 h2 h3 h4 h5 h6 h7 h8 h9 h10 h11 h12 h13 h14 h15 h16 h17 h18 h19
                go_wp2
                exact hK _ _ (Ext.refl _) (fun _ _ => rfl)
              · intro wr hx v0 h0 v1 h1 v2 h2 v3 h3 v4 h4 v5 h5 v6 h6 v7 h7 v8 h8 v9 h9 v10 h10 v11 h11 v12 h12 v13 h13 v14 h14 v15 h15 v16 h16 v17 h17 v18 h18 v19 h19 K hK
                have p0 := (hx.cell (p := ⟨eb, 0, none⟩) heb).trans e0
                have p1 := (hx.cell (p := ⟨eb, 1, none⟩) heb).trans e1
                have p2 := (hx.cell (p := ⟨vb, i, none⟩) hvb).trans hcm
                simp only [Act.put, List.setIfInBounds_toArray, List.set_cons_zero, List.set_cons_succ] at hK ⊢
                obtain rfl := (h12 (by decide)).now
                clear h0 h1 h2 h3 h4 h5 h6 h7 h8 h9 h10 h11 h12 h13 h14 h15 h16 h17 h18 h19
                go_wp2
                exact hK _ _ (Ext.refl _) (fun _ _ => rfl)
              · intro wr hx v0 h0 v1 h1 v2 h2 v3 h3 v4 h4 v5 h5 v6 h6 v7 h7 v8 h8 v9 h9 v10 h10 v11 h11 v12 h12 v13 h13 v14 h14 v15 h15 v16 h16 v17 h17 v18 h18 v19 h19 K hK
                have p0 := (hx.cell (p := ⟨eb, 0, none⟩) heb).trans e0
                have p1 := (hx.cell (p := ⟨eb, 1, none⟩) heb).trans e1
                have p2 := (hx.cell (p := ⟨vb, i, none⟩) hvb).trans hcm
                simp only [Act.put, List.setIfInBounds_toArray, List.set_cons_zero, List.set_cons_succ] at hK ⊢
                obtain rfl := (h13 (by decide)).now
                clear h0 h1 h2 h3 h4 h5 h6 h7 h8 h9 h10 h11 h12 h13 h14 h15 h16 h17 h18 h19
                go_wp2
                exact hK _ _ (Ext.refl _) (fun _ _ => trivial)
              · intro wr hx v0 h0 v1 h1 v2 h2 v3 h3 v4 h4 v5 h5 v6 h6 v7 h7 v8 h8 v9 h9 v10 h10 v11 h11 v12 h12 v13 h13 v14 h14 v15 h15 v16 h16 v17 h17 v18 h18 v19 h19 K hK
                have p0 := (hx.cell (p := ⟨eb, 0, none⟩) heb).trans e0
                have p1 := (hx.cell (p := ⟨eb, 1, none⟩) heb).trans e1
                have p2 := (hx.cell (p := ⟨vb, i, none⟩) hvb).trans hcm
                simp only [Act.put, List.setIfInBounds_toArray, List.set_cons_zero, List.set_cons_succ] at hK ⊢
                obtain rfl := (h13 (by decide)).now
                clear h0 h1 h2 h3 h4 h5 h6 h7 h8 h9 h10 h11 h12 h13 h14 h15 h16 h17 h18 h19
                go_wp2
                exact hK _ _ (Ext.refl _) (fun _ _ => trivial)
              · intro wr hx v0 h0 v1 h1 v2 h2 v3 h3 v4 h4 v5 h5 v6 h6 v7 h7 v8 h8 v9 h9 v10 h10 v11 h11 v12 h12 v13 h13 v14 h14 v15 h15 v16 h16 v17 h17 v18 h18 v19 h19 K hK
                have p0 := (hx.cell (p := ⟨eb, 0, none⟩) heb).trans e0
                have p1 := (hx.cell (p := ⟨eb, 1, none⟩) heb).trans e1
                have p2 := (hx.cell (p := ⟨vb, i, none⟩) hvb).trans hcm
                simp only [Act.put, List.setIfInBounds_toArray, List.set_cons_zero, List.set_cons_succ] at hK ⊢
                obtain rfl := (h13 (by decide)).now
                clear h0 h1 h2 h3 h4 h5 h6 h7 h8 h9 h10 h11 h12 h13 h14 h15 h16 h17 h18 h19
                go_wp2
                exact hK _ _ (Ext.refl _) (fun _ _ => trivial)
              · intro wr hx v0 h0 v1 h1 v2 h2 v3 h3 v4 h4 v5 h5 v6 h6 v7 h7 v8 h8 v9 h9 v10 h10 v11 h11 v12 h12 v13 h13 v14 h14 v15 h15 v16 h16 v17 h17 v18 h18 v19 h19 K hK
                have p0 := (hx.cell (p := ⟨eb, 0, none⟩) heb).trans e0
                have p1 := (hx.cell (p := ⟨eb, 1, none⟩) heb).trans e1
                have p2 := (hx.cell (p := ⟨vb, i, none⟩) hvb).trans hcm
                simp only [Act.put, List.setIfInBounds_toArray, List.set_cons_zero, List.set_cons_succ] at hK ⊢
                obtain rfl := (h13 (by decide)).now
                clear h0 h1 h2 h3 h4 h5 h6 h7 h8 h9 h10 h11 h12 h13 h14 h15 h16 h17 h18 h19
                go_wp2
                exact hK _ _ (Ext.refl _) (fun _ _ => trivial)
              · intro wr hx v0 h0 v1 h1 v2 h2 v3 h3 v4 h4 v5 h5 v6 h6 v7 h7 v8 h8 v9 h9 v10 h10 v11 h11 v12 h12 v13 h13 v14 h14 v15 h15 v16 h16 v17 h17 v18 h18 v19 h19 K hK
                have p0 := (hx.cell (p := ⟨eb, 0, none⟩) heb).trans e0
                have p1 := (hx.cell (p := ⟨eb, 1, none⟩) heb).trans e1
                have p2 := (hx.cell (p := ⟨vb, i, none⟩) hvb).trans hcm
                simp only [Act.put, List.setIfInBounds_toArray, List.set_cons_zero, List.set_cons_succ] at hK ⊢
                obtain rfl := (h13 (by decide)).now
                clear h0 h1 h2 h3 h4 h5 h6 h7 h8 h9 h10 h11 h12 h13 h14 h15 h16 h17 h18 h19
                go_wp2
                exact hK _ _ (Ext.refl _) (fun _ _ => trivial)
              · intro wr hx v0 h0 v1 h1 v2 h2 v3 h3 v4 h4 v5 h5 v6 h6 v7 h7 v8 h8 v9 h9 v10 h10 v11 h11 v12 h12 v13 h13 v14 h14 v15 h15 v16 h16 v17 h17 v18 h18 v19 h19 K hK
                have p0 := (hx.cell (p := ⟨eb, 0, none⟩) heb).trans e0
                have p1 := (hx.cell (p := ⟨eb, 1, none⟩) heb).trans e1
                have p2 := (hx.cell (p := ⟨vb, i, none⟩) hvb).trans hcm
                simp only [Act.put, List.setIfInBounds_toArray, List.set_cons_zero, List.set_cons_succ] at hK ⊢
                obtain rfl := (h13 (by decide)).now
                clear h0 h1 h2 h3 h4 h5 h6 h7 h8 h9 h10 h11 h12 h13 h14 h15 h16 h17 h18 h19
                go_wp2
                exact hK _ _ (Ext.refl _) (fun _ _ => rfl)
              intro w8 hx v0 h0 v1 h1 v2 h2 v3 h3 v4 h4 v5 h5 v6 h6 v7 h7 v8 h8 v9 h9 v10 h10 v11 h11 v12 h12 v13 h13 v14 h14 v15 h15 v16 h16 v17 h17 v18 h18 v19 h19
              have p0 := (hx.cell (p := ⟨eb, 0, none⟩) heb).trans e0
              have p1 := (hx.cell (p := ⟨eb, 1, none⟩) heb).trans e1
              have p2 := (hx.cell (p := ⟨vb, i, none⟩) hvb).trans hcm
              obtain rfl := h19.now
              clear h0 h1 h2 h3 h4 h5 h6 h7 h8 h9 h10 h11 h12 h13 h14 h15 h16 h17 h18 h19
              refine tail_none (by kernel_rfl) ?_
              simp only [Act.put, List.setIfInBounds_toArray, List.set_cons_zero, List.set_cons_succ]
              have HED := Lib.hid (HED.out.later hx)
              have HOW := Lib.hid (HOW.out.later hx)
              clear e0 e1 heb hcm hvb hx
              go_wp2
              go_roundw
              case rel => exact ⟨k + 1, by omega, by go_num, _, HOW.out, SP.out.step HKL.out HQ.out HEN.out H1Y.out H2X.out, HZ.out⟩
              case measure => simp [intOf]; omega
        · obtain rfl : k = ne := by omega
          have hlv := (HLE.out ▸ hsp).leave
          have HLV := Lib.hid hlv
          have HOW := Lib.hid hown
          have hi9 : i < 1025 := by have := hsp.lt; omega
          clear hown hsp hlv
          go_wp2
          go_roundw
          case rel => exact ⟨i + 1, by go_num, M, HOW.out, HLV.out⟩
          case measure =>
            have := HLV.out.le
            have := (HLV.out.small HP.out HR.out).1
            simp [intOf]
            omega
    · obtain rfl : i = M.length := by omega
      obtain ⟨A', n', c', e, his, hnew⟩ := hown.isNew
      injection e with e1 e2 e3
      subst e1 e2 e3
      have HI := Lib.hid his
      have HNW := Lib.hid (fun a (ha : A0 = some a) => Nat.le_trans B1.out.size (hnew a ha))
      have HB := Lib.hid (bstep B1.out hbel)
      have HEND := Lib.hid hsp.end_
      clear his hown hsp hbel hnew
      go_wp2
      go_ret
      exact ⟨⟨_, _, _, M, rfl, HI.out, HNW.out, by omega, HEND.out⟩, HB.out⟩
end Go.Proofs.Ythobfbnopkbniaa
