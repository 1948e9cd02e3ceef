/-
  The contracts of slices.Clone, ring.About, and of (*rota.Rota).Darts; no conditions on the program.
-/
import Derived.Test.YthobfbnopkbniaaRTake
import Derived.Test.YthobfbnopkbniaaRel
import Derived.Laws.Cover3
namespace Go.Proofs.Ythobfbnopkbniaa
open Go.RowKit

theorem RS.lt {w : World} {r : Nat} {lv : Int → Option Int} {tt : List (List Int)} {pl : Int → Option Int} {ds : List Int} (h : RS w r lv tt pl ds) : r < w.heap.size := by
  obtain ⟨_, _, _, _, _, _, _, _, _, _, h0, _⟩ := h
  exact h0
theorem Own.emptied (w : World) : Own w (w.alloc (.cells #[] 3)) (.slice (some ⟨w.heap.size, 0, none⟩) 0 0) [] := by
  refine ⟨⟨rfl, .inr ⟨w.heap.size, 0, #[], rfl, Nat.le_refl _, heap_alloc_new _ _, Nat.le_refl _, by omega, rfl, rfl⟩⟩, (Below.refl _ _).alloc (Nat.le_refl _) _, by simp⟩

theorem run_nil_eq (w : World) (A : Option Addr) (n c : Nat) : (binOp .eql 25 (.slice A n c) (.slice none 0 0)).run Try.prog w = .ok (.bool A.isNone) w := by
  unfold binOp
  simp [run_equal_slice_nil w _ _ A n c Try.underlying25, Result.andThen]

set_option maxHeartbeats 4000000 in
set_option maxRecDepth 100000 in
theorem clone_new (w : World) (A : Option Addr) (n c : Nat) (xs : List Int) (h : IS w w.heap.size A n c xs) (hs : n ≤ 1000000) :
    Calls Try.prog 73 #[.slice A n c] w (NewRow w xs) := by
  have hn := h.le
  have hc := h.cap
  have HL := Lib.hid h.len
  rcases A with _ | a
  · have hx : Hid (xs = []) := Lib.hid (by
      rcases Nat.eq_zero_or_pos n with h0 | h0
      · exact List.eq_nil_of_length_eq_zero (by rw [HL.out, h0])
      · obtain ⟨b, o, e, _⟩ := h.at_ h0
        cases e)
    clear h
    have heq := run_nil_eq w none n c
    go_enter Try.func73, Try.ntmps73
    go_wp2
    go_ret
    rw [hx.out]
    exact ⟨none, 0, 0, rfl, IS.none_, Below.refl _ _, fun a ha => by cases ha⟩
  · go_enter Try.func73, Try.ntmps73
    have h1 := h.alloc (Nat.le_refl _) (.cells #[] 3)
    have ho := Own.emptied w
    have hlen0 : ([] : List Int).length + n ≤ 1000000000000 := by simp; omega
    clear h
    have heq := run_nil_eq w (some a) n c
    go_wp2_with (at_builtin; go_must (refine wpList_append_is (w0 := w) (xs := []) rfl _ _ rfl rfl ho rfl h1 hlen0 ?_; intro v' w2 hown' hg' _))
    go_ret
    obtain ⟨A2, n2, c2, rfl, his, hnew⟩ := hown'.isNew
    exact ⟨A2, n2, c2, rfl, by simpa using his, hown'.below, hnew⟩

set_option maxHeartbeats 4000000 in
set_option maxRecDepth 100000 in
theorem about_new (w : World) (A : Option Addr) (n c : Nat) (xs : List Int) (h : IS w w.heap.size A n c xs) (hs : n ≤ 1000000) :
    Calls Try.prog 78 #[.slice A n c] w (NewRow w xs.reverse) := by
  have hn := h.le
  have hc := h.cap
  have HL := Lib.hid h.len
  go_enter Try.func78, Try.ntmps78
  go_wp2_with (at_make; go_must (refine wpList_make_is (w0 := w) rfl _ _ rfl (Below.refl _ _) _ _ _ n rfl rfl rfl (by omega) ?_; intro v1 w1 ho1 _ _; have h1 := h.below ho1.below))
  go_loopw [3, 4] (fun v i wr => ∃ k : Nat, k ≤ n ∧ i = .int .i64 ((k : Int) - 1) ∧ Own w wr v (xs.drop k).reverse) (fun _ i _ => (intOf i + 1).toNat)
  case atStart => exact ⟨n, Nat.le_refl _, rfl, by rw [List.drop_of_length_le (Nat.le_of_eq HL.out)]; exact ho1⟩
  case round =>
    obtain ⟨k, hk, rfl, hown⟩ := hrel
    by_cases h0 : 0 < k
    · obtain ⟨j, rfl⟩ : ∃ j, k = j + 1 := ⟨k - 1, by omega⟩
      rw [show (((j + 1 : Nat) : Int) - 1) = (j : Int) from by omega]
      have hr := h.below hown.below
      obtain ⟨b, o, z, rfl, hb, hz, hz64, hcx⟩ := hr.get (k := j) (by omega)
      have hlen : (xs.drop (j + 1)).reverse.length ≤ n := by rw [List.length_reverse, List.length_drop]; have := HL.out; omega
      have HH := Lib.hid h
      clear h hr h1
      go_wp2_with (at_builtin; go_must (refine wpList_append_one rfl _ _ rfl rfl hown z hz64 rfl (by omega) ?_; intro v' w2 hown' _ _))
      go_roundw
      case rel => exact ⟨j, by omega, rfl, by rw [drop_getD (by have := HL.out; omega) hz.out, List.reverse_cons]; exact hown'⟩
      case measure => simp [intOf]
    · obtain rfl : k = 0 := by omega
      go_wp2
      go_ret
      obtain ⟨A2, n2, c2, rfl, his, hnew⟩ := hown.isNew
      exact ⟨_, _, _, rfl, by simpa using his, hown.below, hnew⟩

theorem take_rows_snoc {tt : List (List Int)} {k : Nat} {t : List Int} (hk : k < tt.length) (ht : tt.getD k [] = t) : tt.take (k + 1) = tt.take k ++ [t] := by
  rw [List.take_succ_eq_append_getElem hk]
  rw [List.getD_eq_getElem?_getD, List.getElem?_eq_getElem hk] at ht
  rw [show tt[k] = t from ht]
theorem map_rows_snoc {f : List Int → List Int} {tt : List (List Int)} {k : Nat} {t : List Int} (hk : k < tt.length) (ht : tt.getD k [] = t) : (tt.take (k + 1)).map f = (tt.take k).map f ++ [f t] := by
  rw [take_rows_snoc hk ht, List.map_append]
  rfl
/-- A row that was made after all blocks of the call's own row. -/
theorem RowAt.made {w0 wr w5 : World} {tv : Value} {ts : List (List Int)} {A : Option Addr} {n c : Nat} {t : List Int} (h : OwnT w0 wr tv ts) (his : IS w5 w5.heap.size A n c t) (hnew : ∀ a, A = some a → wr.heap.size ≤ a.block) : RowAt w5 tv.ownBlock (.slice A n c) t :=
  ⟨_, _, _, rfl, his, fun _ a ha => by
    intro e
    obtain ⟨cur, hcur, _⟩ := h.owns e
    have h1 := (Array.getElem?_eq_some_iff.1 hcur).1
    have h2 := hnew a ha
    omega⟩

set_option maxHeartbeats 4000000 in
set_option maxRecDepth 100000 in
theorem turn_any (w : World) (r : Nat) (lv : Int → Option Int) (tt : List (List Int)) (pl : Int → Option Int) (ds : List Int) (h : RS w r lv tt pl ds) (hnt : tt.length ≤ 1024) (hlen : ∀ t ∈ tt, t.length ≤ 1024) :
    Calls Try.prog 33 #[.pointer (some ⟨r, 0, none⟩)] w fun e w' => ∃ A n c, e = .returned (.slice A n c) ∧ TS w' w'.heap.size A n c tt ∧ Below w.heap.size w w' := by
  obtain ⟨At, nt, ct, lb, nl, pb, np, Ad, nd, cd, hr, c0, _, _, _, ht, _, _, _⟩ := h
  have hn := ht.le
  have hc := ht.cap
  have HL := Lib.hid ht.len
  have hnt' : nt ≤ 1024 := by rw [← HL.out]; exact hnt
  go_enter Try.func33, Try.ntmps33
  go_wp2
  go_loopw [3, 13] (fun v i wr => ∃ k : Nat, k ≤ nt ∧ i = .int .i64 k ∧ OwnT w wr v (tt.take k)) (fun _ i _ => nt - (intOf i).toNat)
  case atStart => exact ⟨0, Nat.zero_le _, rfl, OwnT.start_at (Below.refl _ _)⟩
  case round =>
    obtain ⟨k, hk, rfl, hown⟩ := hrel
    by_cases hlt : k < nt
    · obtain ⟨b, o, t, A3, n3, c3, hA, hb, htk, hc3, ist⟩ := (ht.below hown.below).get hlt
      subst hA
      have hkl : Hid (k < tt.length) := Lib.hid (by rw [HL.out]; exact hlt)
      have hn3 : n3 ≤ 1024 := by rw [← ist.len, ← htk.out]; exact hlen _ (getD_mem hkl.out)
      have ist' := ist.more hown.below.size
      have HT := Lib.hid ht
      have HLn := Lib.hid hlen
      have HC0 := Lib.hid c0
      clear ht hlen ist c0
      go_wp2_with fail
      refine (clone_new _ _ _ _ _ ist' (by omega)).mono ?_
      rintro e w4 ⟨A4, n4, c4, rfl, is4, b4, hnew⟩
      have hown4 := hown.later b4
      have hrow := RowAt.made hown is4 hnew
      have hlr : (tt.take k).length + 1 ≤ 1000000 := by rw [List.length_take]; omega
      clear ist' hc3 is4 hnew
      go_wp2_with (with_reducible show wpList _ _ _ (Oper.mk (some 21) _ _ _ _ _ :: _) _ _; go_must (refine wpList_append_row (v := u3) (w0 := w) rfl _ _ rfl rfl hown4 hrow rfl hlr ?_; intro v' w5 hown' hg5 hb5))
      go_roundw
      case rel => exact ⟨k + 1, by omega, by go_num, by rw [take_rows_snoc hkl.out htk.out]; exact hown'⟩
      case measure => simp [intOf]; omega
    · obtain rfl : k = nt := by omega
      obtain ⟨tA, tn, tc, etv, hts⟩ := hown.ts (by rw [List.length_take]; omega)
      subst etv
      have hall : tt.take k = tt := List.take_of_length_le (by rw [HL.out]; omega)
      rw [hall] at hts
      have hbel := hown.below
      clear hown
      go_wp2
      go_ret
      exact ⟨_, _, _, rfl, hts, hbel⟩

theorem about_id (tt : List (List Int)) : tt.map (fun t => t.reverse.reverse) = tt := by simp

set_option maxHeartbeats 4000000 in
set_option maxRecDepth 100000 in
theorem mirror_any (w : World) (r : Nat) (lv : Int → Option Int) (tt : List (List Int)) (pl : Int → Option Int) (ds : List Int) (h : RS w r lv tt pl ds) (hnt : tt.length ≤ 1024) (hlen : ∀ t ∈ tt, t.length ≤ 1024) :
    Calls Try.prog 48 #[.pointer (some ⟨r, 0, none⟩)] w fun e w' => ∃ r', e = .returned (.pointer (some ⟨r', 0, none⟩)) ∧ RS w' r' lv ((tt.map List.reverse).map first) (placeN (tt.map List.reverse) (tt.map List.reverse).length) ds ∧ Below w.heap.size w w' := by
  obtain ⟨At, nt, ct, lb, nl, pb, np, Ad, nd, cd, hr, c0, c1, _, c3, ht, hlv, _, hds⟩ := h
  have hn := ht.le
  have hc := ht.cap
  have HL := Lib.hid ht.len
  have hnt' : nt ≤ 1024 := by rw [← HL.out]; exact hnt
  have HC0 := Lib.hid c0
  have HC1 := Lib.hid c1
  have HC3 := Lib.hid c3
  have HLV := Lib.hid hlv
  have HDS := Lib.hid hds
  clear hlv hds c1 c3
  go_enter Try.func48, Try.ntmps48
  go_wp2
  go_loopw [3, 13] (fun v i wr => ∃ k : Nat, k ≤ nt ∧ i = .int .i64 k ∧ OwnT w wr v ((tt.take k).map List.reverse)) (fun _ i _ => nt - (intOf i).toNat)
  case atStart => exact ⟨0, Nat.zero_le _, rfl, OwnT.start_at (Below.refl _ _)⟩
  case round =>
    obtain ⟨k, hk, rfl, hown⟩ := hrel
    by_cases hlt : k < nt
    · obtain ⟨b, o, t, A3, n3, c3, hA, hb, htk, hc3, ist⟩ := (ht.below hown.below).get hlt
      subst hA
      have hkl : Hid (k < tt.length) := Lib.hid (by rw [HL.out]; exact hlt)
      have hn3 : n3 ≤ 1024 := by rw [← ist.len, ← htk.out]; exact hlen _ (getD_mem hkl.out)
      have ist' := ist.more hown.below.size
      have HT := Lib.hid ht
      have HLn := Lib.hid hlen
      clear ht hlen ist c0
      go_wp2_with fail
      refine (about_new _ _ _ _ _ ist' (by omega)).mono ?_
      rintro e w4 ⟨A4, n4, c4, rfl, is4, b4, hnew⟩
      have hown4 := hown.later b4
      have hrow := RowAt.made hown is4 hnew
      have hlr : ((tt.take k).map List.reverse).length + 1 ≤ 1000000 := by rw [List.length_map, List.length_take]; omega
      clear ist' hc3 is4 hnew
      go_wp2_with (with_reducible show wpList _ _ _ (Oper.mk (some 21) _ _ _ _ _ :: _) _ _; go_must (refine wpList_append_row (v := u3) (w0 := w) rfl _ _ rfl rfl hown4 hrow rfl hlr ?_; intro v' w5 hown' hg5 hb5))
      go_roundw
      case rel => exact ⟨k + 1, by omega, by go_num, by rw [map_rows_snoc hkl.out htk.out]; exact hown'⟩
      case measure => simp [intOf]; omega
    · obtain rfl : k = nt := by omega
      obtain ⟨tA, tn, tc, etv, hts⟩ := hown.ts (by rw [List.length_map, List.length_take]; omega)
      subst etv
      have hall : tt.take k = tt := List.take_of_length_le (by rw [HL.out]; omega)
      rw [hall] at hts
      have hbel := hown.below
      have hlen2 : ∀ t ∈ tt.map List.reverse, t.length ≤ 1024 := fun t ht => by
        obtain ⟨u, hu, rfl⟩ := List.mem_map.1 ht
        rw [List.length_reverse]
        exact hlen u hu
      have HTS := Lib.hid hts
      have htn := hts.len
      rw [List.length_map, HL.out] at htn
      clear hown hts ht c0 hlen
      have HB := Lib.hid hbel
      have hr5 : r < wr.heap.size := by have := hbel.size; omega
      have q1 : wr.cell? ⟨r, 1, none⟩ = some (.map (some lb)) := (hbel.cell (p := ⟨r, 1, none⟩) hr).trans HC1.out
      have q3 : wr.cell? ⟨r, 3, none⟩ = some (.slice Ad nd cd) := (hbel.cell (p := ⟨r, 3, none⟩) hr).trans HC3.out
      clear hbel
      go_wp2_with fail
      refine wp_region_rel 9 [[],[],[1],[1,2],[1,2,3],[],[5],[5,6],[5,6,7]]
        [fun v _ => v = .slice tA tn tc,
         fun v _ => v = .pointer (some ⟨r, 0, none⟩),
         fun v _ => v = .pointer (some ⟨r, 0, none⟩),
         fun v _ => v = .pointer (some ⟨r, 1, none⟩),
         fun v _ => v = .map (some lb),
         fun v _ => v = .pointer (some ⟨r, 0, none⟩),
         fun v _ => v = .pointer (some ⟨r, 0, none⟩),
         fun v _ => v = .pointer (some ⟨r, 3, none⟩),
         fun v _ => v = .slice Ad nd cd]
        (by kernel_rfl) (by kernel_rfl) rfl ⟨?_, ?_, ?_, ?_, ?_, ?_, ?_, ?_, ?_, trivial⟩ ?_
      · intro wr hx v0 h0 v1 h1 v2 h2 v3 h3 v4 h4 v5 h5 v6 h6 v7 h7 v8 h8 K hK
        have p1 := (hx.cell (p := ⟨r, 1, none⟩) hr5).trans q1
        have p3 := (hx.cell (p := ⟨r, 3, none⟩) hr5).trans q3
        simp only [Act.put, List.setIfInBounds_toArray, List.set_cons_zero, List.set_cons_succ] at hK ⊢
        clear h0 h1 h2 h3 h4 h5 h6 h7 h8
        go_wp2
        exact hK _ _ (Ext.refl _) (fun _ _ => rfl)
      · intro wr hx v0 h0 v1 h1 v2 h2 v3 h3 v4 h4 v5 h5 v6 h6 v7 h7 v8 h8 K hK
        have p1 := (hx.cell (p := ⟨r, 1, none⟩) hr5).trans q1
        have p3 := (hx.cell (p := ⟨r, 3, none⟩) hr5).trans q3
        simp only [Act.put, List.setIfInBounds_toArray, List.set_cons_zero, List.set_cons_succ] at hK ⊢
        clear h0 h1 h2 h3 h4 h5 h6 h7 h8
        go_wp2
        exact hK _ _ (Ext.refl _) (fun _ _ => rfl)
      · intro wr hx v0 h0 v1 h1 v2 h2 v3 h3 v4 h4 v5 h5 v6 h6 v7 h7 v8 h8 K hK
        have p1 := (hx.cell (p := ⟨r, 1, none⟩) hr5).trans q1
        have p3 := (hx.cell (p := ⟨r, 3, none⟩) hr5).trans q3
        simp only [Act.put, List.setIfInBounds_toArray, List.set_cons_zero, List.set_cons_succ] at hK ⊢
        obtain rfl := (h1 (by decide)).now
        clear h0 h1 h2 h3 h4 h5 h6 h7 h8
        go_wp2
        exact hK _ _ (Ext.refl _) (fun _ _ => rfl)
      · intro wr hx v0 h0 v1 h1 v2 h2 v3 h3 v4 h4 v5 h5 v6 h6 v7 h7 v8 h8 K hK
        have p1 := (hx.cell (p := ⟨r, 1, none⟩) hr5).trans q1
        have p3 := (hx.cell (p := ⟨r, 3, none⟩) hr5).trans q3
        simp only [Act.put, List.setIfInBounds_toArray, List.set_cons_zero, List.set_cons_succ] at hK ⊢
        obtain rfl := (h2 (by decide)).now
        clear h0 h1 h2 h3 h4 h5 h6 h7 h8
        go_wp2
        exact hK _ _ (Ext.refl _) (fun _ _ => rfl)
      · intro wr hx v0 h0 v1 h1 v2 h2 v3 h3 v4 h4 v5 h5 v6 h6 v7 h7 v8 h8 K hK
        have p1 := (hx.cell (p := ⟨r, 1, none⟩) hr5).trans q1
        have p3 := (hx.cell (p := ⟨r, 3, none⟩) hr5).trans q3
        simp only [Act.put, List.setIfInBounds_toArray, List.set_cons_zero, List.set_cons_succ] at hK ⊢
        obtain rfl := (h3 (by decide)).now
        clear h0 h1 h2 h3 h4 h5 h6 h7 h8
        go_wp2
        exact hK _ _ (Ext.refl _) (fun _ _ => rfl)
      · intro wr hx v0 h0 v1 h1 v2 h2 v3 h3 v4 h4 v5 h5 v6 h6 v7 h7 v8 h8 K hK
        have p1 := (hx.cell (p := ⟨r, 1, none⟩) hr5).trans q1
        have p3 := (hx.cell (p := ⟨r, 3, none⟩) hr5).trans q3
        simp only [Act.put, List.setIfInBounds_toArray, List.set_cons_zero, List.set_cons_succ] at hK ⊢
        clear h0 h1 h2 h3 h4 h5 h6 h7 h8
        go_wp2
        exact hK _ _ (Ext.refl _) (fun _ _ => rfl)
      · intro wr hx v0 h0 v1 h1 v2 h2 v3 h3 v4 h4 v5 h5 v6 h6 v7 h7 v8 h8 K hK
        have p1 := (hx.cell (p := ⟨r, 1, none⟩) hr5).trans q1
        have p3 := (hx.cell (p := ⟨r, 3, none⟩) hr5).trans q3
        simp only [Act.put, List.setIfInBounds_toArray, List.set_cons_zero, List.set_cons_succ] at hK ⊢
        obtain rfl := (h5 (by decide)).now
        clear h0 h1 h2 h3 h4 h5 h6 h7 h8
        go_wp2
        exact hK _ _ (Ext.refl _) (fun _ _ => rfl)
      · intro wr hx v0 h0 v1 h1 v2 h2 v3 h3 v4 h4 v5 h5 v6 h6 v7 h7 v8 h8 K hK
        have p1 := (hx.cell (p := ⟨r, 1, none⟩) hr5).trans q1
        have p3 := (hx.cell (p := ⟨r, 3, none⟩) hr5).trans q3
        simp only [Act.put, List.setIfInBounds_toArray, List.set_cons_zero, List.set_cons_succ] at hK ⊢
        obtain rfl := (h6 (by decide)).now
        clear h0 h1 h2 h3 h4 h5 h6 h7 h8
        go_wp2
        exact hK _ _ (Ext.refl _) (fun _ _ => rfl)
      · intro wr hx v0 h0 v1 h1 v2 h2 v3 h3 v4 h4 v5 h5 v6 h6 v7 h7 v8 h8 K hK
        have p1 := (hx.cell (p := ⟨r, 1, none⟩) hr5).trans q1
        have p3 := (hx.cell (p := ⟨r, 3, none⟩) hr5).trans q3
        simp only [Act.put, List.setIfInBounds_toArray, List.set_cons_zero, List.set_cons_succ] at hK ⊢
        obtain rfl := (h7 (by decide)).now
        clear h0 h1 h2 h3 h4 h5 h6 h7 h8
        go_wp2
        exact hK _ _ (Ext.refl _) (fun _ _ => rfl)
      intro wr hx v0 h0 v1 h1 v2 h2 v3 h3 v4 h4 v5 h5 v6 h6 v7 h7 v8 h8
      have p1 := (hx.cell (p := ⟨r, 1, none⟩) hr5).trans q1
      have p3 := (hx.cell (p := ⟨r, 3, none⟩) hr5).trans q3
      obtain rfl := h0.now
      obtain rfl := h1.now
      obtain rfl := h2.now
      obtain rfl := h3.now
      obtain rfl := h4.now
      obtain rfl := h5.now
      obtain rfl := h6.now
      obtain rfl := h7.now
      obtain rfl := h8.now
      clear h0 h1 h2 h3 h4 h5 h6 h7 h8
      refine tail_seq (by kernel_rfl) ?_
      simp only [List.drop_succ_cons, List.drop_zero, Act.put, List.setIfInBounds_toArray, List.set_cons_zero, List.set_cons_succ]
      go_wp2_with fail
      have hbx := bstep HB.out hx
      refine (take_any _ tA tn tc (tt.map List.reverse) lb nl lv Ad nd cd ds (HTS.out.step hx) (MV.step HLV.out hbx) (HDS.out.step hbx) (by omega) hlen2).mono ?_
      rintro e w9 ⟨r', rfl, hrs, b9⟩
      go_wp2
      go_ret
      exact ⟨_, rfl, hrs, bstep hbx b9⟩

set_option maxHeartbeats 4000000 in
set_option maxRecDepth 100000 in
theorem darts_any (w : World) (p : Option Addr) :
    Calls Try.prog 35 #[.pointer p] w fun e w' => ∃ bx, e = .returned (.func (.func 74) #[] #[.pointer (some ⟨bx, 0, none⟩)]) ∧ w'.cell? ⟨bx, 0, none⟩ = some (.pointer p) ∧ w.heap.size ≤ bx ∧ bx < w'.heap.size ∧ Below w.heap.size w w' := by
  go_enter Try.func35, Try.ntmps35
  go_wp2
  go_ret
  exact ⟨_, rfl, by simp, Nat.le_refl _, by simp, (Below.refl _ _).alloc (Nat.le_refl _) _⟩
end Go.Proofs.Ythobfbnopkbniaa
