/-
  The contract of traceryref05.Far, for parts that are right. No conditions on the program.
-/
import Derived.Test.YthobfbnopkbniaaFaceD
namespace Go.Proofs.Ythobfbnopkbniaa
open Go.RowKit

theorem Own.set {w0 w w' : World} {v : Value} {xs : List Int} {eb : Nat} (h : Own w0 w v xs) (hg : w.grownBy w' (some eb)) (h0 : w0.heap.size ≤ eb) (hne : v.ownBlock ≠ some eb) : Own w0 w' v xs :=
  h.kept hg (fun k hk => by cases hk; exact h0) (.inr hne)
theorem Own.lt_ {w0 w : World} {v : Value} {xs : List Int} (h : Own w0 w v xs) {k : Nat} (hk : v.ownBlock = some k) : k < w.heap.size := (h.row.lt k hk).2
theorem grown_set (W : World) (g i : Nat) (u : Value) : W.grownBy (W.setCell ⟨g, i, none⟩ u) (some g) := ⟨rfl, rfl, rfl, by simp [World.setCell], fun i _ hi => Below.heap_setCell _ _ _ _ (fun e => hi (by rw [e]))⟩
theorem take_foldE {es : List (Int × Int)} {ring xs : List Int} {k : Nat} {z : Int} (hk : k < xs.length) (hz : xs.getD k 0 = z) : (xs.take (k + 1)).foldl (nextE es ring) ring = nextE es ring ((xs.take k).foldl (nextE es ring) ring) z := by
  rw [take_getD hk hz, List.foldl_append]
  rfl

theorem nextE_eq {es : List (Int × Int)} {ring nx n1 n2 : List Int} {q : Int} {x y : Int} (he : ends es q = (x, y)) (h1 : (if x ∈ ring ∧ y ∉ nx then nx ++ [y] else nx) = n1) (h2 : (if y ∈ ring ∧ x ∉ n1 then n1 ++ [x] else n1) = n2) : nextE es ring nx q = n2 := by
  unfold nextE
  rw [he]
  dsimp only
  rw [h1, h2]
theorem ref_keep {we wo w8 : World} {A5 A1 : Option Addr} {n5 d5 n1 d1 eb : Nat} {x y z : Int} {nx ring : List Int} {v8 : Value} (hb : we.heap[eb]? = some (.cells #[.int .i64 x, .int .i64 y] 86 (0, 0))) (hnb : Value.ownBlock (.slice A5 n5 d5) ≠ some eb) (heb : eb < we.heap.size) (_hw : wo.heap.size ≤ eb)
    (hr : IS wo wo.heap.size A1 n1 d1 ring) (ho : Own wo w8 v8 (nx ++ [z])) (hg : (we.alloc (.cells #[.int .i64 z] 3)).grownBy w8 (Value.ownBlock (.slice A5 n5 d5))) (h8 : v8.ownBlock = Value.ownBlock (.slice A5 n5 d5) ∨ v8.ownBlock = some (we.heap.size + 1)) :
    Hid (w8.heap[eb]? = some (.cells #[.int .i64 x, .int .i64 y] 86 (0, 0))) ∧ Hid (v8.ownBlock ≠ some eb) ∧ IS w8 wo.heap.size A1 n1 d1 ring ∧ w8.cell? ⟨eb, 0, none⟩ = some (.int .i64 x) ∧ w8.cell? ⟨eb, 1, none⟩ = some (.int .i64 y) := by
  have hs : (we.alloc (.cells #[.int .i64 z] 3)).heap.size = we.heap.size + 1 := by simp
  have h1 : w8.heap[eb]? = some (.cells #[.int .i64 x, .int .i64 y] 86 (0, 0)) := ((hg.block eb (by omega) (fun e => hnb e.symm)).trans (Below.heap_alloc _ _ _ heb)).trans hb
  refine ⟨Lib.hid h1, Lib.hid ?_, hr.below ho.below, cell_of_row w8 eb 0 _ _ _ h1, cell_of_row w8 eb 1 _ _ _ h1⟩
  rcases h8 with e | e
  · rw [e]; exact hnb
  · rw [e]; intro e'; injection e' with e'; omega
theorem fold_len {N : Int} {es : List (Int × Int)} {vs xs ring : List Int} {a : Int} {k nv : Nat} (hp : POK N es vs xs) (hr : ringN es xs a k = ring) (ha : a ∈ vs) (hl : vs.length = nv) (hn : nv ≤ 1024) (j : Nat) : ((xs.take j).foldl (nextE es ring) ring).length + 2 ≤ 1000000000000 := by
  subst hr
  have hs : ∀ u ∈ (xs.take j).foldl (nextE es (ringN es xs a k)) (ringN es xs a k), u ∈ ringN es xs a (k + 1) := fun u hu => by
    rw [mem_foldE] at hu
    unfold ringN nextR
    rw [mem_foldE]
    rcases hu with hu | ⟨x, hx, h⟩
    · exact .inl hu
    · exact .inr ⟨x, List.mem_of_mem_take hx, h⟩
  have h1 := nodup_len (foldE_nodup (ringN_nodup k)) hs
  have h2 := nodup_len (ringN_nodup (k + 1)) (ringN_sub hp ha)
  omega

set_option maxHeartbeats 16000000 in
set_option maxRecDepth 100000 in
theorem refFar_yes (w : World) (N : Int) (A : Option Addr) (m c : Nat) (es : List (Int × Int)) (Av : Option Addr) (nv cv : Nat) (vs : List Int) (Ae : Option Addr) (ne ce : Nat) (xs : List Int) (a b : Int) (h : GP w N A m c es Av nv cv vs Ae ne ce xs) (hp : POK N es vs xs) (ha : a ∈ vs) (hb : b ∈ vs) :
    Calls Try.prog 29 #[.agg #[.int .i64 N, .slice A m c], .agg #[.slice Av nv cv, .slice Ae ne ce], .int .i64 a, .int .i64 b] w fun e w' => (∃ r, e = .returned (.int .i64 r) ∧ FarIs es xs vs a b r) ∧ Below w.heap.size w w' := by
  obtain ⟨w1, hw1, b1, gb1⟩ := box_gp w N A m c es Av nv cv Ae ne ce
  have h1 := h.step b1
  clear h
  have ⟨hgl, hpl, c0, c1, c2, c3, _⟩ := gb1
  obtain ⟨hvl, hxl, hNl⟩ := hp.lens
  have ha64 : I64 a := by have := hp.vr a ha; exact ⟨by omega, by omega⟩
  have hnv := h1.v.len
  have hnvc := h1.v.le
  have hnvC := h1.v.cap
  have hcE := h1.e.cap
  have hlE := h1.e.le
  have hmc := h1.g.cap
  have hmle := h1.g.le
  have hm1024 : m ≤ 1024 := by have := hp.size; have := hp.n0; have := h1.g.len; omega
  have HLE := Lib.hid h1.e.len
  have HLV := Lib.hid hnv
  have hnv1024 : nv ≤ 1024 := by omega
  have hne1024 : ne ≤ 1024 := by have := HLE.out; omega
  have HP := Lib.hid hp
  have HA := Lib.hid ha
  have HB := Lib.hid hb
  have H1 := Lib.hid h1
  have GB1 := Lib.hid gb1
  clear hp ha hb h1 gb1 hnv hvl hxl
  go_enter Try.func29, Try.ntmps29
  go_wp2_with fail
  refine (in_yes w1 _ Av nv cv vs a H1.out.v HA.out).mono ?_
  rintro e w2 ⟨rfl, rfl⟩
  go_wp2_with fail
  refine (in_yes w1 _ Av nv cv vs b H1.out.v HB.out).mono ?_
  rintro e w2 ⟨rfl, rfl⟩
  have hr0 := IS.one w1 a ha64
  go_wp2
  obtain ⟨w2, hw2⟩ : ∃ w2, w1.alloc (.cells #[.int .i64 a] 3) = w2 := ⟨_, rfl⟩
  have b2 : Below w1.heap.size w1 w2 := by rw [← hw2]; exact (Below.refl _ _).alloc (Nat.le_refl _) _
  have hs2 : w2.heap.size = w1.heap.size + 1 := by rw [← hw2]; simp
  rw [hw2] at hr0 ⊢
  have hst : IS w2 w2.heap.size (some ⟨w1.heap.size, 0, none⟩) 1 1 (ringN es xs a 0) := hr0.more (by omega)
  have B1 := Lib.hid b1
  have HB2 := Lib.hid b2
  clear hr0 hw2 hw1 b1 b2 c0 c1 c2 c3
  go_loopw [9, 10] (fun v i wr => ∃ k : Nat, k ≤ nv + 1 ∧ i = .int .i64 k ∧ (∃ A' n' c', v = .slice A' n' c' ∧ IS wr wr.heap.size A' n' c' (ringN es xs a k)) ∧ Below w1.heap.size w1 wr ∧ Hid (∀ j, j < k → b ∉ ringN es xs a j)) (fun _ i _ => nv + 1 - (intOf i).toNat)
  case atStart => exact ⟨0, Nat.zero_le _, rfl, ⟨_, _, _, rfl, hst⟩, HB2.out, Lib.hid fun j hj => absurd hj (by omega)⟩
  case round =>
    clear hst hs2
    obtain ⟨k, hk, rfl, ⟨A1, n1, d1, rfl, hring⟩, hbel, hno⟩ := hrel
    have gb3 := GB1.out.step hbel
    have ⟨_, _, c0, c1, c2, c3, _⟩ := gb3
    by_cases hlt : k ≤ nv
    · obtain ⟨ring, hrg⟩ : ∃ ring, ringN es xs a k = ring := ⟨_, rfl⟩
      have HRG := Lib.hid hrg
      rw [hrg] at hring
      clear hrg
      have hn1 := hring.le
      have hc1 := hring.cap
      by_cases hbr : b ∈ ring
      · have HBR := Lib.hid hbr
        clear hbr
        go_wp2_with fail
        refine (in_yes wr _ A1 n1 d1 ring b hring HBR.out).mono ?_
        rintro e w3 ⟨rfl, rfl⟩
        have HBE := Lib.hid (bstep B1.out hbel)
        clear hbel gb3
        go_wp2
        go_ret
        refine ⟨⟨k, rfl, .inl ⟨k, rfl, ?_⟩⟩, HBE.out⟩
        have hmem := HBR.out
        rw [← HRG.out, mem_ringN HP.out] at hmem
        obtain ⟨j, hj, hw⟩ := hmem
        have hjk : j = k := by
          rcases Nat.lt_or_ge j k with h | h
          · exact absurd ((mem_ringN HP.out).2 ⟨j, Nat.le_refl _, hw⟩) (hno.out j h)
          · omega
        subst hjk
        exact ⟨hw, fun j hj hw => hno.out j hj ((mem_ringN HP.out).2 ⟨j, Nat.le_refl _, hw⟩)⟩
      · have HBR := Lib.hid hbr
        have hrlen := hring.len
        have hrl : ring.length ≤ vs.length := by
          rw [← HRG.out]
          exact nodup_len (ringN_nodup k) (ringN_sub HP.out HA.out)
        have hrl2 : ring.length ≤ 1024 := by have := HLV.out; omega
        clear hbr hrl
        have H3 := Lib.hid (H1.out.step hbel)
        have G3 := Lib.hid gb3
        have HBE := Lib.hid hbel
        have hown0 := Own.start wr
        clear hbel gb3
        go_wp2_with fail
        refine (in_no wr _ A1 n1 d1 ring b hring HBR.out).mono ?_
        rintro e w3 ⟨rfl, rfl⟩
        go_wp2_with (with_reducible show wpList _ _ _ (Oper.mk (some 41) _ _ _ _ _ :: _) _ _; go_must (refine wpList_append_is (v := .slice none 0 0) rfl _ _ rfl rfl hown0 rfl hring (by simp only [List.length_nil]; omega) ?_; intro v4 w4 ho4 _ _; simp only [List.nil_append] at ho4; obtain ⟨A4, n4, d4, rfl, _⟩ := ho4.is))
        have hst : Own wr w4 (.slice A4 n4 d4) ((xs.take 0).foldl (nextE es ring) ring) := ho4
        clear ho4 hown0 c0 c1 c2 c3
        obtain ⟨wo, hwo⟩ : ∃ wo : World, wo = wr := ⟨_, rfl⟩
        rw [← hwo] at hst hring H3 G3 HBE
        clear hwo
        go_loopw [11, 12] (fun v i wi => ∃ j : Nat, j ≤ ne ∧ i = .int .i64 j ∧ (∃ A' n' c', v = .slice A' n' c') ∧ Own wo wi v ((xs.take j).foldl (nextE es ring) ring)) (fun _ i _ => ne - (intOf i).toNat)
        case atStart => exact ⟨0, Nat.zero_le _, rfl, ⟨_, _, _, rfl⟩, hst⟩
        case round =>
          clear hst
          obtain ⟨j, hj, rfl, ⟨A5, n5, d5, rfl⟩, hown⟩ := hrel
          have gb5 := G3.out.step hown.below
          have ⟨hg5, hp5, c0, c1, c2, c3, _⟩ := gb5
          by_cases hjn : j < ne
          · obtain ⟨be, oe, z, rfl, hbe, hz, hz64, hcz⟩ := (H3.out.e.below hown.below).get hjn
            have hjl : Hid (j < xs.length) := Lib.hid (by rw [HLE.out]; exact hjn)
            have hzr := HP.out.xr z (hz.out ▸ H3.out.e.mem hjn)
            obtain ⟨q, rfl⟩ := Int.eq_ofNat_of_zero_le hzr.1
            have hml := H3.out.g.len
            have hqm : q < m := by omega
            obtain ⟨bg, og, x, y, rfl, hbg, hxy, hx64, hy64, hcx, hcy⟩ := (H3.out.g.below hown.below).get hqm
            have hen : Hid (ends es q = (x, y)) := Lib.hid (by unfold ends; rw [Int.toNat_natCast]; exact hxy.out)
            have hq0 : (0 : Int) ≤ (q : Int) := by omega
            have hq1 : (q : Int) < (m : Int) := by omega
            have hj0 : (0 : Int) ≤ (j : Int) := by omega
            have hj1 : (j : Int) < (ne : Int) := by omega
            have hbe' : be < wr.heap.size := Nat.lt_of_lt_of_le hbe hown.below.size
            have hbg' : bg < wr.heap.size := Nat.lt_of_lt_of_le hbg hown.below.size
            have hplen : Hid (((xs.take j).foldl (nextE es ring) ring).length + 2 ≤ 1000000000000) := Lib.hid (fold_len HP.out HRG.out HA.out HLV.out hnv1024 j)
            obtain ⟨nx, hnx⟩ : ∃ nx, (xs.take j).foldl (nextE es ring) ring = nx := ⟨_, rfl⟩
            rw [hnx] at hown hplen
            have HNX := Lib.hid hnx
            have HZQ := hz
            have HOWN := Lib.hid hown
            clear hzr hml hnx hown gb5
            go_wp2
            refine wp_region_rel 10 [[],[0],[],[2],[],[2,3,4],[2,3,4,5],[0,1,2,3,4,5,6],[0,1,2,3,4,5,6,7],[]]
              [fun v _ => v = .pointer (some ⟨w.heap.size, 1, none⟩),
               fun v _ => v = .slice (some ⟨bg, og, none⟩) m c,
               fun v _ => v = .pointer (some ⟨w.heap.size + 1, 1, none⟩),
               fun v _ => v = .slice (some ⟨be, oe, none⟩) ne ce,
               fun v _ => v = .int .i64 j,
               fun v _ => v = .pointer (some ⟨be, oe + j, none⟩),
               fun v _ => v = .int .i64 q,
               fun v _ => v = .pointer (some ⟨bg, og + q * 2, none⟩),
               fun v _ => v = .agg #[.int .i64 x, .int .i64 y],
               fun v w' => ∃ eb, v = .pointer (some ⟨eb, 0, none⟩) ∧ wo.heap.size ≤ eb ∧ (∀ k', Value.ownBlock (.slice A5 n5 d5) = some k' → k' < eb) ∧ w'.heap[eb]? = some (.cells #[.int .i64 0, .int .i64 0] 86 (0, 0))]
              (by kernel_rfl) (by kernel_rfl) rfl ⟨?_, ?_, ?_, ?_, ?_, ?_, ?_, ?_, ?_, ?_, trivial⟩ ?_
            · intro wr hx v0 h0 v1 h1 v2 h2 v3 h3 v4 h4 v5 h5 v6 h6 v7 h7 v8 h8 v9 h9 K hK
              have q1 := (hx.cell (p := ⟨w.heap.size, 1, none⟩) hg5).trans c1
              have q3 := (hx.cell (p := ⟨w.heap.size + 1, 1, none⟩) hp5).trans c3
              have q4 := (hx.cell (p := ⟨be, oe + j, none⟩) hbe').trans hcz
              have q5 := (hx.cell (p := ⟨bg, og + q * 2, none⟩) hbg').trans hcx
              have q6 := (hx.cell (p := ⟨bg, og + q * 2 + 1, none⟩) hbg').trans hcy
              simp only [Act.put, List.setIfInBounds_toArray, List.set_cons_zero, List.set_cons_succ] at hK ⊢
              clear h0 h1 h2 h3 h4 h5 h6 h7 h8 h9
              go_wp2
              exact hK _ _ (Ext.refl _) (fun _ _ => rfl)
            · intro wr hx v0 h0 v1 h1 v2 h2 v3 h3 v4 h4 v5 h5 v6 h6 v7 h7 v8 h8 v9 h9 K hK
              have q1 := (hx.cell (p := ⟨w.heap.size, 1, none⟩) hg5).trans c1
              have q3 := (hx.cell (p := ⟨w.heap.size + 1, 1, none⟩) hp5).trans c3
              have q4 := (hx.cell (p := ⟨be, oe + j, none⟩) hbe').trans hcz
              have q5 := (hx.cell (p := ⟨bg, og + q * 2, none⟩) hbg').trans hcx
              have q6 := (hx.cell (p := ⟨bg, og + q * 2 + 1, none⟩) hbg').trans hcy
              simp only [Act.put, List.setIfInBounds_toArray, List.set_cons_zero, List.set_cons_succ] at hK ⊢
              obtain rfl := (h0 (by decide)).now
              clear h0 h1 h2 h3 h4 h5 h6 h7 h8 h9
              go_wp2
              exact hK _ _ (Ext.refl _) (fun _ _ => rfl)
            · intro wr hx v0 h0 v1 h1 v2 h2 v3 h3 v4 h4 v5 h5 v6 h6 v7 h7 v8 h8 v9 h9 K hK
              have q1 := (hx.cell (p := ⟨w.heap.size, 1, none⟩) hg5).trans c1
              have q3 := (hx.cell (p := ⟨w.heap.size + 1, 1, none⟩) hp5).trans c3
              have q4 := (hx.cell (p := ⟨be, oe + j, none⟩) hbe').trans hcz
              have q5 := (hx.cell (p := ⟨bg, og + q * 2, none⟩) hbg').trans hcx
              have q6 := (hx.cell (p := ⟨bg, og + q * 2 + 1, none⟩) hbg').trans hcy
              simp only [Act.put, List.setIfInBounds_toArray, List.set_cons_zero, List.set_cons_succ] at hK ⊢
              clear h0 h1 h2 h3 h4 h5 h6 h7 h8 h9
              go_wp2
              exact hK _ _ (Ext.refl _) (fun _ _ => rfl)
            · intro wr hx v0 h0 v1 h1 v2 h2 v3 h3 v4 h4 v5 h5 v6 h6 v7 h7 v8 h8 v9 h9 K hK
              have q1 := (hx.cell (p := ⟨w.heap.size, 1, none⟩) hg5).trans c1
              have q3 := (hx.cell (p := ⟨w.heap.size + 1, 1, none⟩) hp5).trans c3
              have q4 := (hx.cell (p := ⟨be, oe + j, none⟩) hbe').trans hcz
              have q5 := (hx.cell (p := ⟨bg, og + q * 2, none⟩) hbg').trans hcx
              have q6 := (hx.cell (p := ⟨bg, og + q * 2 + 1, none⟩) hbg').trans hcy
              simp only [Act.put, List.setIfInBounds_toArray, List.set_cons_zero, List.set_cons_succ] at hK ⊢
              obtain rfl := (h2 (by decide)).now
              clear h0 h1 h2 h3 h4 h5 h6 h7 h8 h9
              go_wp2
              exact hK _ _ (Ext.refl _) (fun _ _ => rfl)
            · intro wr hx v0 h0 v1 h1 v2 h2 v3 h3 v4 h4 v5 h5 v6 h6 v7 h7 v8 h8 v9 h9 K hK
              have q1 := (hx.cell (p := ⟨w.heap.size, 1, none⟩) hg5).trans c1
              have q3 := (hx.cell (p := ⟨w.heap.size + 1, 1, none⟩) hp5).trans c3
              have q4 := (hx.cell (p := ⟨be, oe + j, none⟩) hbe').trans hcz
              have q5 := (hx.cell (p := ⟨bg, og + q * 2, none⟩) hbg').trans hcx
              have q6 := (hx.cell (p := ⟨bg, og + q * 2 + 1, none⟩) hbg').trans hcy
              simp only [Act.put, List.setIfInBounds_toArray, List.set_cons_zero, List.set_cons_succ] at hK ⊢
              clear h0 h1 h2 h3 h4 h5 h6 h7 h8 h9
              go_wp2
              exact hK _ _ (Ext.refl _) (fun _ _ => rfl)
            · intro wr hx v0 h0 v1 h1 v2 h2 v3 h3 v4 h4 v5 h5 v6 h6 v7 h7 v8 h8 v9 h9 K hK
              have q1 := (hx.cell (p := ⟨w.heap.size, 1, none⟩) hg5).trans c1
              have q3 := (hx.cell (p := ⟨w.heap.size + 1, 1, none⟩) hp5).trans c3
              have q4 := (hx.cell (p := ⟨be, oe + j, none⟩) hbe').trans hcz
              have q5 := (hx.cell (p := ⟨bg, og + q * 2, none⟩) hbg').trans hcx
              have q6 := (hx.cell (p := ⟨bg, og + q * 2 + 1, none⟩) hbg').trans hcy
              simp only [Act.put, List.setIfInBounds_toArray, List.set_cons_zero, List.set_cons_succ] at hK ⊢
              obtain rfl := (h3 (by decide)).now
              obtain rfl := (h4 (by decide)).now
              clear h0 h1 h2 h3 h4 h5 h6 h7 h8 h9
              go_wp2
              exact hK _ _ (Ext.refl _) (fun _ _ => rfl)
            · intro wr hx v0 h0 v1 h1 v2 h2 v3 h3 v4 h4 v5 h5 v6 h6 v7 h7 v8 h8 v9 h9 K hK
              have q1 := (hx.cell (p := ⟨w.heap.size, 1, none⟩) hg5).trans c1
              have q3 := (hx.cell (p := ⟨w.heap.size + 1, 1, none⟩) hp5).trans c3
              have q4 := (hx.cell (p := ⟨be, oe + j, none⟩) hbe').trans hcz
              have q5 := (hx.cell (p := ⟨bg, og + q * 2, none⟩) hbg').trans hcx
              have q6 := (hx.cell (p := ⟨bg, og + q * 2 + 1, none⟩) hbg').trans hcy
              simp only [Act.put, List.setIfInBounds_toArray, List.set_cons_zero, List.set_cons_succ] at hK ⊢
              obtain rfl := (h5 (by decide)).now
              clear h0 h1 h2 h3 h4 h5 h6 h7 h8 h9
              go_wp2
              exact hK _ _ (Ext.refl _) (fun _ _ => rfl)
            · intro wr hx v0 h0 v1 h1 v2 h2 v3 h3 v4 h4 v5 h5 v6 h6 v7 h7 v8 h8 v9 h9 K hK
              have q1 := (hx.cell (p := ⟨w.heap.size, 1, none⟩) hg5).trans c1
              have q3 := (hx.cell (p := ⟨w.heap.size + 1, 1, none⟩) hp5).trans c3
              have q4 := (hx.cell (p := ⟨be, oe + j, none⟩) hbe').trans hcz
              have q5 := (hx.cell (p := ⟨bg, og + q * 2, none⟩) hbg').trans hcx
              have q6 := (hx.cell (p := ⟨bg, og + q * 2 + 1, none⟩) hbg').trans hcy
              simp only [Act.put, List.setIfInBounds_toArray, List.set_cons_zero, List.set_cons_succ] at hK ⊢
              obtain rfl := (h1 (by decide)).now
              obtain rfl := (h6 (by decide)).now
              clear h0 h1 h2 h3 h4 h5 h6 h7 h8 h9
              go_wp2
              exact hK _ _ (Ext.refl _) (fun _ _ => rfl)
            · intro wr hx v0 h0 v1 h1 v2 h2 v3 h3 v4 h4 v5 h5 v6 h6 v7 h7 v8 h8 v9 h9 K hK
              have q1 := (hx.cell (p := ⟨w.heap.size, 1, none⟩) hg5).trans c1
              have q3 := (hx.cell (p := ⟨w.heap.size + 1, 1, none⟩) hp5).trans c3
              have q4 := (hx.cell (p := ⟨be, oe + j, none⟩) hbe').trans hcz
              have q5 := (hx.cell (p := ⟨bg, og + q * 2, none⟩) hbg').trans hcx
              have q6 := (hx.cell (p := ⟨bg, og + q * 2 + 1, none⟩) hbg').trans hcy
              simp only [Act.put, List.setIfInBounds_toArray, List.set_cons_zero, List.set_cons_succ] at hK ⊢
              obtain rfl := (h7 (by decide)).now
              clear h0 h1 h2 h3 h4 h5 h6 h7 h8 h9
              go_wp2
              exact hK _ _ (Ext.refl _) (fun _ _ => rfl)
            · intro wr hx v0 h0 v1 h1 v2 h2 v3 h3 v4 h4 v5 h5 v6 h6 v7 h7 v8 h8 v9 h9 K hK
              have q1 := (hx.cell (p := ⟨w.heap.size, 1, none⟩) hg5).trans c1
              have q3 := (hx.cell (p := ⟨w.heap.size + 1, 1, none⟩) hp5).trans c3
              have q4 := (hx.cell (p := ⟨be, oe + j, none⟩) hbe').trans hcz
              have q5 := (hx.cell (p := ⟨bg, og + q * 2, none⟩) hbg').trans hcx
              have q6 := (hx.cell (p := ⟨bg, og + q * 2 + 1, none⟩) hbg').trans hcy
              simp only [Act.put, List.setIfInBounds_toArray, List.set_cons_zero, List.set_cons_succ] at hK ⊢
              clear h0 h1 h2 h3 h4 h5 h6 h7 h8 h9
              go_wp2
              exact hK _ _ (Ext.alloc _ _) (fun w'' hx' => ⟨_, rfl, Nat.le_trans HOWN.out.below.size hx.size, fun k' hk' => Nat.lt_of_lt_of_le (HOWN.out.lt_ hk') hx.size, (hx'.block _ (by simp)).trans (heap_alloc_new wr _)⟩)
            intro wr hx v0 h0 v1 h1 v2 h2 v3 h3 v4 h4 v5 h5 v6 h6 v7 h7 v8 h8 v9 h9
            have q1 := (hx.cell (p := ⟨w.heap.size, 1, none⟩) hg5).trans c1
            have q3 := (hx.cell (p := ⟨w.heap.size + 1, 1, none⟩) hp5).trans c3
            have q4 := (hx.cell (p := ⟨be, oe + j, none⟩) hbe').trans hcz
            have q5 := (hx.cell (p := ⟨bg, og + q * 2, none⟩) hbg').trans hcx
            have q6 := (hx.cell (p := ⟨bg, og + q * 2 + 1, none⟩) hbg').trans hcy
            obtain rfl := h8.now
            obtain ⟨eb, rfl, hebw, hebo, hebc⟩ := h9.now
            clear h0 h1 h2 h3 h4 h5 h6 h7 h8 h9
            refine tail_seq (by kernel_rfl) ?_
            simp only [List.drop_succ_cons, List.drop_zero, Act.put, List.setIfInBounds_toArray, List.set_cons_zero, List.set_cons_succ]
            have k0 : wr.cell? ⟨eb, 0, none⟩ = some (.int .i64 0) := cell_of_row wr eb 0 _ _ _ hebc
            have k1 : wr.cell? ⟨eb, 1, none⟩ = some (.int .i64 0) := cell_of_row wr eb 1 _ _ _ hebc
            have f0 : wr.frozen? ⟨eb, 0, none⟩ = false := frozen_of_row hebc
            have f1 : wr.frozen? ⟨eb, 1, none⟩ = false := frozen_of_row hebc
            have hnb : Value.ownBlock (.slice A5 n5 d5) ≠ some eb := fun e => by have := hebo eb e; omega
            have HOW := Lib.hid ((((HOWN.out.later hx).set (grown_set _ eb 0 (.int .i64 x)) hebw hnb).set (grown_set _ eb 1 (.int .i64 y)) hebw hnb))
            have hblk : ((wr.setCell ⟨eb, 0, none⟩ (.int .i64 x)).setCell ⟨eb, 1, none⟩ (.int .i64 y)).heap[eb]? = some (.cells #[.int .i64 x, .int .i64 y] 86 (0, 0)) := by
              simp [World.setCell, Array.getElem?_modify, hebc]
            have HBLK := Lib.hid hblk
            have HNB := Lib.hid hnb
            clear hcz hcx hcy c0 c1 c2 c3 q1 q3 q4 q5 q6 hebc hnb hebo hblk hx
            go_wp2_with fail
            obtain ⟨we, hwe⟩ : ∃ we, (wr.setCell ⟨eb, 0, none⟩ (.int .i64 x)).setCell ⟨eb, 1, none⟩ (.int .i64 y) = we := ⟨_, rfl⟩
            rw [hwe] at HOW HBLK ⊢
            have e0 : we.cell? ⟨eb, 0, none⟩ = some (.int .i64 x) := cell_of_row we eb 0 _ _ _ HBLK.out
            have e1 : we.cell? ⟨eb, 1, none⟩ = some (.int .i64 y) := cell_of_row we eb 1 _ _ _ HBLK.out
            have hrw : IS we wo.heap.size A1 n1 d1 ring := hring.below HOW.out.below
            have heb : eb < we.heap.size := (Array.getElem?_eq_some_iff.1 HBLK.out).1
            clear hwe k0 k1 f0 f1
            by_cases hx1 : x ∈ ring
            · by_cases hy1 : y ∈ nx
              · have HX1 := Lib.hid hx1
                have HY1 := Lib.hid hy1
                have HN1 : Hid ((if x ∈ ring ∧ y ∉ nx then nx ++ [y] else nx) = nx) := Lib.hid (if_neg fun h => h.2 hy1)
                obtain ⟨A6, n6, d6, e6, is6⟩ := HOW.out.is
                have isn := is6
                rw [← (Value.slice.inj e6).1, ← (Value.slice.inj e6).2.1, ← (Value.slice.inj e6).2.2] at isn
                clear hx1 hy1 is6 e6
                refine (in_yes we _ A1 n1 d1 ring x hrw HX1.out).mono ?_
                rintro e w7 ⟨rfl, rfl⟩
                go_wp2_with fail
                refine (in_yes we _ A5 n5 d5 nx y isn HY1.out).mono ?_
                rintro e w7 ⟨rfl, rfl⟩
                clear isn
                go_wp2_with fail
                by_cases hy2 : y ∈ ring
                · by_cases hx2 : x ∈ nx
                  · have HX2 := Lib.hid hx2
                    have HY2 := Lib.hid hy2
                    have HN2 : Hid ((if y ∈ ring ∧ x ∉ nx then nx ++ [x] else nx) = nx) := Lib.hid (if_neg fun h => h.2 hx2)
                    obtain ⟨A7, n7, d7, e7, is7⟩ := HOW.out.is
                    have isn := is7
                    rw [← (Value.slice.inj e7).1, ← (Value.slice.inj e7).2.1, ← (Value.slice.inj e7).2.2] at isn
                    clear hx2 hy2 is7 e7
                    refine (in_yes we _ A1 n1 d1 ring y hrw HY2.out).mono ?_
                    rintro e w7 ⟨rfl, rfl⟩
                    go_wp2_with fail
                    refine (in_yes we _ A5 n5 d5 nx x isn HX2.out).mono ?_
                    rintro e w7 ⟨rfl, rfl⟩
                    clear isn
                    go_wp2
                    go_roundw
                    case rel => exact ⟨j + 1, by omega, by go_num, ⟨_, _, _, rfl⟩, by rw [take_foldE hjl.out hz.out, HNX.out, nextE_eq hen.out HN1.out HN2.out]; exact HOW.out⟩
                    case measure => simp [intOf]; omega
                  · have HX2 := Lib.hid hx2
                    have HY2 := Lib.hid hy2
                    have HN2 : Hid ((if y ∈ ring ∧ x ∉ nx then nx ++ [x] else nx) = nx ++ [x]) := Lib.hid (if_pos ⟨hy2, hx2⟩)
                    obtain ⟨A7, n7, d7, e7, is7⟩ := HOW.out.is
                    have isn := is7
                    rw [← (Value.slice.inj e7).1, ← (Value.slice.inj e7).2.1, ← (Value.slice.inj e7).2.2] at isn
                    clear hx2 hy2 is7 e7
                    refine (in_yes we _ A1 n1 d1 ring y hrw HY2.out).mono ?_
                    rintro e w7 ⟨rfl, rfl⟩
                    go_wp2_with fail
                    refine (in_no we _ A5 n5 d5 nx x isn HX2.out).mono ?_
                    rintro e w7 ⟨rfl, rfl⟩
                    clear isn
                    go_wp2_with (with_reducible show wpList _ _ _ (Oper.mk (some 89) _ _ _ _ _ :: _) _ _; go_must (refine wpList_append_one (v := .slice A5 n5 d5) (w0 := wo) rfl _ _ rfl rfl HOW.out _ hx64 rfl (by have h9 := hplen.out; (try simp only [List.length_append, List.length_singleton]); omega) ?_; intro v9 w9 ho9 _ _; obtain ⟨A9, n9, d9, rfl, _⟩ := ho9.is))
                    go_roundw
                    case rel => exact ⟨j + 1, by omega, by go_num, ⟨_, _, _, rfl⟩, by rw [take_foldE hjl.out hz.out, HNX.out, nextE_eq hen.out HN1.out HN2.out]; exact ho9⟩
                    case measure => simp [intOf]; omega
                · have HY2 := Lib.hid hy2
                  have HN2 : Hid ((if y ∈ ring ∧ x ∉ nx then nx ++ [x] else nx) = nx) := Lib.hid (if_neg fun h => hy2 h.1)
                  clear hy2
                  refine (in_no we _ A1 n1 d1 ring y hrw HY2.out).mono ?_
                  rintro e w7 ⟨rfl, rfl⟩
                  go_wp2
                  go_roundw
                  case rel => exact ⟨j + 1, by omega, by go_num, ⟨_, _, _, rfl⟩, by rw [take_foldE hjl.out hz.out, HNX.out, nextE_eq hen.out HN1.out HN2.out]; exact HOW.out⟩
                  case measure => simp [intOf]; omega
              · have HX1 := Lib.hid hx1
                have HY1 := Lib.hid hy1
                have HN1 : Hid ((if x ∈ ring ∧ y ∉ nx then nx ++ [y] else nx) = nx ++ [y]) := Lib.hid (if_pos ⟨hx1, hy1⟩)
                obtain ⟨A6, n6, d6, e6, is6⟩ := HOW.out.is
                have isn := is6
                rw [← (Value.slice.inj e6).1, ← (Value.slice.inj e6).2.1, ← (Value.slice.inj e6).2.2] at isn
                clear hx1 hy1 is6 e6
                refine (in_yes we _ A1 n1 d1 ring x hrw HX1.out).mono ?_
                rintro e w7 ⟨rfl, rfl⟩
                go_wp2_with fail
                refine (in_no we _ A5 n5 d5 nx y isn HY1.out).mono ?_
                rintro e w7 ⟨rfl, rfl⟩
                clear isn
                go_wp2_with (with_reducible show wpList _ _ _ (Oper.mk (some 73) _ _ _ _ _ :: _) _ _; go_must (refine wpList_append_one (v := .slice A5 n5 d5) (w0 := wo) rfl _ _ rfl rfl HOW.out _ hy64 rfl (by have h9 := hplen.out; omega) ?_; intro v8 w8 ho8 hg8 hb8; obtain ⟨HBLK8, HNB8, hrw8, z0, z1⟩ := ref_keep HBLK.out HNB.out heb hebw hring ho8 hg8 hb8; obtain ⟨A8, n8, d8, rfl, _⟩ := ho8.is; have HOW8 := Lib.hid ho8; clear ho8 hg8 hb8 e0 e1))
                clear HBLK HNB HOW hrw heb
                go_wp2_with fail
                by_cases hy2 : y ∈ ring
                · by_cases hx2 : x ∈ (nx ++ [y])
                  · have HX2 := Lib.hid hx2
                    have HY2 := Lib.hid hy2
                    have HN2 : Hid ((if y ∈ ring ∧ x ∉ (nx ++ [y]) then (nx ++ [y]) ++ [x] else (nx ++ [y])) = (nx ++ [y])) := Lib.hid (if_neg fun h => h.2 hx2)
                    obtain ⟨A7, n7, d7, e7, is7⟩ := HOW8.out.is
                    have isn := is7
                    rw [← (Value.slice.inj e7).1, ← (Value.slice.inj e7).2.1, ← (Value.slice.inj e7).2.2] at isn
                    clear hx2 hy2 is7 e7
                    refine (in_yes w8 _ A1 n1 d1 ring y hrw8 HY2.out).mono ?_
                    rintro e w7 ⟨rfl, rfl⟩
                    go_wp2_with fail
                    refine (in_yes w8 _ A8 n8 d8 (nx ++ [y]) x isn HX2.out).mono ?_
                    rintro e w7 ⟨rfl, rfl⟩
                    clear isn
                    go_wp2
                    go_roundw
                    case rel => exact ⟨j + 1, by omega, by go_num, ⟨_, _, _, rfl⟩, by rw [take_foldE hjl.out hz.out, HNX.out, nextE_eq hen.out HN1.out HN2.out]; exact HOW8.out⟩
                    case measure => simp [intOf]; omega
                  · have HX2 := Lib.hid hx2
                    have HY2 := Lib.hid hy2
                    have HN2 : Hid ((if y ∈ ring ∧ x ∉ (nx ++ [y]) then (nx ++ [y]) ++ [x] else (nx ++ [y])) = (nx ++ [y]) ++ [x]) := Lib.hid (if_pos ⟨hy2, hx2⟩)
                    obtain ⟨A7, n7, d7, e7, is7⟩ := HOW8.out.is
                    have isn := is7
                    rw [← (Value.slice.inj e7).1, ← (Value.slice.inj e7).2.1, ← (Value.slice.inj e7).2.2] at isn
                    clear hx2 hy2 is7 e7
                    refine (in_yes w8 _ A1 n1 d1 ring y hrw8 HY2.out).mono ?_
                    rintro e w7 ⟨rfl, rfl⟩
                    go_wp2_with fail
                    refine (in_no w8 _ A8 n8 d8 (nx ++ [y]) x isn HX2.out).mono ?_
                    rintro e w7 ⟨rfl, rfl⟩
                    clear isn
                    go_wp2_with (with_reducible show wpList _ _ _ (Oper.mk (some 89) _ _ _ _ _ :: _) _ _; go_must (refine wpList_append_one (v := .slice A8 n8 d8) (w0 := wo) rfl _ _ rfl rfl HOW8.out _ hx64 rfl (by have h9 := hplen.out; (try simp only [List.length_append, List.length_singleton]); omega) ?_; intro v9 w9 ho9 _ _; obtain ⟨A9, n9, d9, rfl, _⟩ := ho9.is))
                    go_roundw
                    case rel => exact ⟨j + 1, by omega, by go_num, ⟨_, _, _, rfl⟩, by rw [take_foldE hjl.out hz.out, HNX.out, nextE_eq hen.out HN1.out HN2.out]; exact ho9⟩
                    case measure => simp [intOf]; omega
                · have HY2 := Lib.hid hy2
                  have HN2 : Hid ((if y ∈ ring ∧ x ∉ (nx ++ [y]) then (nx ++ [y]) ++ [x] else (nx ++ [y])) = (nx ++ [y])) := Lib.hid (if_neg fun h => hy2 h.1)
                  clear hy2
                  refine (in_no w8 _ A1 n1 d1 ring y hrw8 HY2.out).mono ?_
                  rintro e w7 ⟨rfl, rfl⟩
                  go_wp2
                  go_roundw
                  case rel => exact ⟨j + 1, by omega, by go_num, ⟨_, _, _, rfl⟩, by rw [take_foldE hjl.out hz.out, HNX.out, nextE_eq hen.out HN1.out HN2.out]; exact HOW8.out⟩
                  case measure => simp [intOf]; omega
            · have HX1 := Lib.hid hx1
              have HN1 : Hid ((if x ∈ ring ∧ y ∉ nx then nx ++ [y] else nx) = nx) := Lib.hid (if_neg fun h => hx1 h.1)
              clear hx1
              refine (in_no we _ A1 n1 d1 ring x hrw HX1.out).mono ?_
              rintro e w7 ⟨rfl, rfl⟩
              go_wp2_with fail
              by_cases hy2 : y ∈ ring
              · by_cases hx2 : x ∈ nx
                · have HX2 := Lib.hid hx2
                  have HY2 := Lib.hid hy2
                  have HN2 : Hid ((if y ∈ ring ∧ x ∉ nx then nx ++ [x] else nx) = nx) := Lib.hid (if_neg fun h => h.2 hx2)
                  obtain ⟨A7, n7, d7, e7, is7⟩ := HOW.out.is
                  have isn := is7
                  rw [← (Value.slice.inj e7).1, ← (Value.slice.inj e7).2.1, ← (Value.slice.inj e7).2.2] at isn
                  clear hx2 hy2 is7 e7
                  refine (in_yes we _ A1 n1 d1 ring y hrw HY2.out).mono ?_
                  rintro e w7 ⟨rfl, rfl⟩
                  go_wp2_with fail
                  refine (in_yes we _ A5 n5 d5 nx x isn HX2.out).mono ?_
                  rintro e w7 ⟨rfl, rfl⟩
                  clear isn
                  go_wp2
                  go_roundw
                  case rel => exact ⟨j + 1, by omega, by go_num, ⟨_, _, _, rfl⟩, by rw [take_foldE hjl.out hz.out, HNX.out, nextE_eq hen.out HN1.out HN2.out]; exact HOW.out⟩
                  case measure => simp [intOf]; omega
                · have HX2 := Lib.hid hx2
                  have HY2 := Lib.hid hy2
                  have HN2 : Hid ((if y ∈ ring ∧ x ∉ nx then nx ++ [x] else nx) = nx ++ [x]) := Lib.hid (if_pos ⟨hy2, hx2⟩)
                  obtain ⟨A7, n7, d7, e7, is7⟩ := HOW.out.is
                  have isn := is7
                  rw [← (Value.slice.inj e7).1, ← (Value.slice.inj e7).2.1, ← (Value.slice.inj e7).2.2] at isn
                  clear hx2 hy2 is7 e7
                  refine (in_yes we _ A1 n1 d1 ring y hrw HY2.out).mono ?_
                  rintro e w7 ⟨rfl, rfl⟩
                  go_wp2_with fail
                  refine (in_no we _ A5 n5 d5 nx x isn HX2.out).mono ?_
                  rintro e w7 ⟨rfl, rfl⟩
                  clear isn
                  go_wp2_with (with_reducible show wpList _ _ _ (Oper.mk (some 89) _ _ _ _ _ :: _) _ _; go_must (refine wpList_append_one (v := .slice A5 n5 d5) (w0 := wo) rfl _ _ rfl rfl HOW.out _ hx64 rfl (by have h9 := hplen.out; (try simp only [List.length_append, List.length_singleton]); omega) ?_; intro v9 w9 ho9 _ _; obtain ⟨A9, n9, d9, rfl, _⟩ := ho9.is))
                  go_roundw
                  case rel => exact ⟨j + 1, by omega, by go_num, ⟨_, _, _, rfl⟩, by rw [take_foldE hjl.out hz.out, HNX.out, nextE_eq hen.out HN1.out HN2.out]; exact ho9⟩
                  case measure => simp [intOf]; omega
              · have HY2 := Lib.hid hy2
                have HN2 : Hid ((if y ∈ ring ∧ x ∉ nx then nx ++ [x] else nx) = nx) := Lib.hid (if_neg fun h => hy2 h.1)
                clear hy2
                refine (in_no we _ A1 n1 d1 ring y hrw HY2.out).mono ?_
                rintro e w7 ⟨rfl, rfl⟩
                go_wp2
                go_roundw
                case rel => exact ⟨j + 1, by omega, by go_num, ⟨_, _, _, rfl⟩, by rw [take_foldE hjl.out hz.out, HNX.out, nextE_eq hen.out HN1.out HN2.out]; exact HOW.out⟩
                case measure => simp [intOf]; omega
          · obtain rfl : j = ne := by omega
            rw [List.take_of_length_le (Nat.le_of_eq HLE.out)] at hown
            obtain ⟨A6, n6, d6, e6, is6⟩ := hown.is
            have hbl := Lib.hid (HBE.out.trans (hown.below.mono HBE.out.size))
            have IS6 := Lib.hid is6
            have E6 := Lib.hid e6
            clear hown is6 e6 gb5
            go_wp2
            go_roundw
            case rel =>
              refine ⟨k + 1, by omega, by go_num, ⟨A6, n6, d6, E6.out, ?_⟩, hbl.out, Lib.hid fun i hi => ?_⟩
              · unfold ringN
                rw [HRG.out]
                exact IS6.out
              · rcases Nat.lt_or_ge i k with h | h
                · exact hno.out i h
                · obtain rfl : i = k := by omega
                  rw [HRG.out]
                  exact HBR.out
            case measure => simp [intOf]; omega
    · obtain rfl : k = nv + 1 := by omega
      have HBE := Lib.hid (bstep B1.out hbel)
      clear hbel gb3 hring
      go_wp2
      go_ret
      refine ⟨⟨-1, rfl, .inr ⟨rfl, fun j hj hw => ?_⟩⟩, HBE.out⟩
      rw [HLV.out] at hj
      exact hno.out j (by omega) ((mem_ringN HP.out).2 ⟨j, Nat.le_refl _, hw⟩)
end Go.Proofs.Ythobfbnopkbniaa
