/-
  The contracts of the references of layer 2 (Find, Right, Turned, First) and of layer 6 (First); no conditions.
-/
import Derived.Test.YthobfbnopkbniaaFaceD
namespace Go.Proofs.Ythobfbnopkbniaa
open Go.RowKit

set_option maxHeartbeats 4000000 in
set_option maxRecDepth 100000 in
theorem find2_any (w : World) (B : Nat) (A : Option Addr) (n c : Nat) (xs : List Int) (x : Int) (h : IS w B A n c xs) :
    Calls Try.prog 76 #[.slice A n c, .int .i64 x] w fun e w' => e = .returned (.int .i64 (fnd xs x)) ∧ w = w' := by
  have hn := h.le
  have hc := h.cap
  have HL := Lib.hid h.len
  go_enter Try.func76, Try.ntmps76
  go_wp2
  go_loop [5] (fun i => ∃ k : Nat, k ≤ n ∧ i = .int .i64 k ∧ ∀ j, j < k → xs.getD j 0 ≠ x) (fun i => n - (intOf i).toNat)
  case atStart => exact ⟨0, Nat.zero_le _, rfl, fun j hj => absurd hj (by omega)⟩
  case round =>
    obtain ⟨k, hk, rfl, hj⟩ := hrel
    have HJ := Lib.hid hj
    clear hj
    by_cases hlt : k < n
    · obtain ⟨b, o, z, rfl, hb, hz, hz64, hcx⟩ := h.get hlt
      have HH := Lib.hid h
      clear h
      by_cases hzx : z = x
      · have hb' : (z == x) = true := by simp [hzx]
        have HX := Lib.hid hzx
        clear hzx
        go_wp2
        go_ret
        exact ⟨ret_int (fnd_at (by rw [HL.out]; exact hlt) (hz.out.trans HX.out) HJ.out).symm, rfl⟩
      · have hb' : (z == x) = false := by simp [hzx]
        have HX := Lib.hid hzx
        clear hzx
        go_wp2
        go_round
        case rel =>
          refine ⟨k + 1, by omega, by go_num, fun j hj => ?_⟩
          rcases Nat.lt_or_ge j k with hjk | hjk
          · exact HJ.out j hjk
          · obtain rfl : j = k := by omega
            rw [hz.out]; exact HX.out
        case measure => simp [intOf]; omega
    · go_wp2
      go_ret
      exact ⟨ret_int (fnd_none fun j hj => HJ.out j (by have := HL.out; omega)).symm, rfl⟩

set_option maxHeartbeats 4000000 in
set_option maxRecDepth 100000 in
theorem right2_any (w : World) (B : Nat) (A : Option Addr) (n c : Nat) (xs : List Int) (h : IS w B A n c xs) :
    Calls Try.prog 75 #[.slice A n c] w fun e w' => e = .returned (.bool (decide xs.Nodup)) ∧ w = w' := by
  have hn := h.le
  have hc := h.cap
  have HL := Lib.hid h.len
  go_enter Try.func75, Try.ntmps75
  go_wp2
  go_loop [3] (fun i => ∃ k : Nat, k ≤ n ∧ i = .int .i64 k ∧ (xs.take k).Nodup) (fun i => n - (intOf i).toNat)
  case atStart => exact ⟨0, Nat.zero_le _, rfl, by simp⟩
  case round =>
    obtain ⟨k, hk, rfl, hj⟩ := hrel
    have HJ := Lib.hid hj
    clear hj
    by_cases hlt : k < n
    · obtain ⟨b, o, z, rfl, hb, hz, hz64, hcx⟩ := h.get hlt
      have HH := Lib.hid h
      clear h
      have hkl : k < xs.length := by rw [HL.out]; exact hlt
      by_cases hf : fnd xs z < k
      · go_wp2_with (go_at_call 76; refine (find2_any w B _ n c xs z HH.out).mono ?_; rintro e w' ⟨rfl, rfl⟩)
        go_ret
        refine ⟨ret_bool (decide_eq_false fun h => ?_).symm, rfl⟩
        have h1 : (xs.take (k + 1)).Nodup := h.sublist (List.take_sublist _ _)
        exact ((nodup_snoc hkl hz.out).1 h1).2 ((fnd_before hkl hz.out).1 hf)
      · go_wp2_with (go_at_call 76; refine (find2_any w B _ n c xs z HH.out).mono ?_; rintro e w' ⟨rfl, rfl⟩)
        go_round
        case rel => exact ⟨k + 1, by omega, by go_num, (nodup_snoc hkl hz.out).2 ⟨HJ.out, fun hm => by have := (fnd_before hkl hz.out).2 hm; omega⟩⟩
        case measure => simp [intOf]; omega
    · obtain rfl : k = n := by omega
      go_wp2
      go_ret
      exact ⟨ret_bool (decide_eq_true (by have := HJ.out; rwa [List.take_of_length_le (Nat.le_of_eq HL.out)] at this)).symm, rfl⟩

set_option maxHeartbeats 4000000 in
set_option maxRecDepth 100000 in
theorem turned2_new (w : World) (A : Option Addr) (n c : Nat) (xs : List Int) (q : Nat) (h : IS w w.heap.size A n c xs) (hs : n ≤ 1000000) (hq : q ≤ 1000000) :
    Calls Try.prog 77 #[.slice A n c, .int .i64 q] w (NewRow w (turn xs (q % n))) := by
  have hn := h.le
  have hc := h.cap
  have HL := Lib.hid h.len
  go_enter Try.func77, Try.ntmps77
  go_wp2
  go_loopw [5, 6] (fun v i wr => ∃ k : Nat, k ≤ n ∧ i = .int .i64 k ∧ Own w wr v ((turn xs (q % n)).take k)) (fun _ i _ => n - (intOf i).toNat)
  case atStart => exact ⟨0, Nat.zero_le _, rfl, Own.start w⟩
  case round =>
    obtain ⟨k, hk, rfl, hown⟩ := hrel
    have hlen : ((turn xs (q % n)).take k).length ≤ n := by rw [List.length_take]; omega
    by_cases hlt : k < n
    · have hm : (q + k) % n < n := Nat.mod_lt _ (by omega)
      obtain ⟨b, o, z, rfl, hb, hz, hz64, hcx⟩ := (h.below hown.below).get hm
      have hz' : Hid ((turn xs (q % n)).getD k 0 = z) := Lib.hid (by
        have hl := HL.out
        rw [turn_getD (by rw [hl]; exact Nat.mod_lt _ (by omega)) (by omega), hl, Nat.mod_add_mod]; exact hz.out)
      have HH := Lib.hid h
      clear h
      have hm0 : (0 : Int) ≤ ((q : Int) + (k : Int)) % (n : Int) := Int.emod_nonneg _ (by omega)
      have hm1 : ((q : Int) + (k : Int)) % (n : Int) < n := Int.emod_lt_of_pos _ (by omega)
      go_wp2_with (at_builtin; go_must (refine wpList_append_one rfl _ _ rfl rfl hown z hz64 rfl (by omega) ?_; intro v' w2 hown' _ _))
      go_roundw
      case rel => exact ⟨k + 1, by omega, by go_num, by rw [take_getD (by rw [turn_length]; have := HL.out; omega) hz'.out]; exact hown'⟩
      case measure => simp [intOf]; omega
    · obtain rfl : k = n := by omega
      go_wp2
      go_ret
      obtain ⟨A2, n2, c2, rfl, his, hnew⟩ := hown.isNew
      rw [List.take_of_length_le (by rw [turn_length]; exact Nat.le_of_eq HL.out)] at his
      exact ⟨_, _, _, rfl, his, hown.below, hnew⟩


set_option maxHeartbeats 4000000 in
set_option maxRecDepth 100000 in
theorem first2_new (w : World) (A : Option Addr) (n c : Nat) (xs : List Int) (h : IS w w.heap.size A n c xs) (hs : n ≤ 1000000) :
    Calls Try.prog 41 #[.slice A n c] w (NewRow w (first xs)) := by
  have hn := h.le
  have hc := h.cap
  have HL := Lib.hid h.len
  go_enter Try.func41, Try.ntmps41
  go_wp2
  go_loopw [3, 4] (fun l i wr => ∃ k : Nat, k ≤ n ∧ i = .int .i64 k ∧ l = .int .i64 (least xs k) ∧ Drawn w wr) (fun _ i _ => n - (intOf i).toNat)
  case atStart => exact ⟨0, Nat.zero_le _, rfl, rfl, Drawn.refl _⟩
  case round =>
    obtain ⟨k, hk, rfl, rfl, hd⟩ := hrel
    have HD := Lib.hid hd
    have hw := h.below (hd.below _)
    clear hd
    by_cases hlt : k < n
    · obtain ⟨b, o, rfl, hb, hcell⟩ := hw.at_ (by omega)
      have hq1 : least xs k < n := least_lt xs hlt
      have hstep : Hid (least xs (k + 1) = if xs.getD k 0 < xs.getD (least xs k) 0 then k else least xs k) := Lib.hid rfl
      obtain ⟨q, hq⟩ : ∃ q, least xs k = q := ⟨_, rfl⟩
      rw [hq] at hstep hq1 ⊢
      have HQ := Lib.hid hq
      obtain ⟨x, hx⟩ : ∃ x, xs.getD k 0 = x := ⟨_, rfl⟩
      obtain ⟨y, hy⟩ : ∃ y, xs.getD q 0 = y := ⟨_, rfl⟩
      have hcx : wr.cell? ⟨b, o + k, none⟩ = some (.int .i64 x) := by rw [← hx]; exact hcell k hlt
      have hcq : wr.cell? ⟨b, o + q, none⟩ = some (.int .i64 y) := by rw [← hy]; exact hcell q hq1
      rw [hx, hy] at hstep
      have HH := Lib.hid h
      have k0 : (0 : Int) ≤ (k : Int) := by omega
      have k1 : (k : Int) < (n : Int) := by omega
      have q0 : (0 : Int) ≤ (q : Int) := by omega
      have q1 : (q : Int) < (n : Int) := by omega
      clear hcell h hq hx hy hw
      by_cases hlx : x < y
      · have dd : decide (x < y) = true := decide_eq_true hlx
        have he : Hid (least xs (k + 1) = k) := Lib.hid (by rw [hstep.out, if_pos hlx])
        clear hlx hstep
        go_wp2
        go_quiet (fail)
        go_wp2
        go_roundw
        case rel => exact ⟨k + 1, by omega, by go_num, by rw [he.out], HD.out.add _⟩
        case measure => simp [intOf]; omega
      · have dd : decide (x < y) = false := decide_eq_false hlx
        have he : Hid (least xs (k + 1) = q) := Lib.hid (by rw [hstep.out, if_neg hlx])
        clear hlx hstep
        go_wp2
        go_quiet (fail)
        go_wp2
        go_roundw
        case rel => exact ⟨k + 1, by omega, by go_num, by rw [he.out], HD.out.add _⟩
        case measure => simp [intOf]; omega
    · obtain rfl : k = n := by omega
      have hq1 := least_le xs k
      have hr : Hid (first xs = turn xs (least xs k % k)) := Lib.hid (by
        unfold first
        rw [HL.out]
        rcases Nat.eq_zero_or_pos k with h0 | h0
        · subst h0
          have : xs = [] := List.eq_nil_of_length_eq_zero HL.out
          subst this
          rfl
        · rw [Nat.mod_eq_of_lt (least_end xs k h0)])
      have hsz := (HD.out.below 0).size
      go_wp2_with fail
      refine (turned2_new wr A k c xs (least xs k) (hw.more hsz) hs (by omega)).mono ?_
      rintro e w' ⟨A1, n1, c1, rfl, his, hbl, hnew⟩
      go_wp2
      go_ret
      exact ⟨A1, n1, c1, rfl, hr.out ▸ his, (HD.out.below _).trans (hbl.mono hsz), fun a ha => Nat.le_trans hsz (hnew a ha)⟩

set_option maxHeartbeats 4000000 in
set_option maxRecDepth 100000 in
theorem first6_any (w : World) (At : Option Addr) (nt ct : Nat) (tt : List (List Int)) (ht : TS w w.heap.size At nt ct tt) (hnt : nt ≤ 1024) (hlen : ∀ t ∈ tt, t.length ≤ 1024) :
    Calls Try.prog 38 #[.slice At nt ct] w fun e w' => ∃ A n c, e = .returned (.slice A n c) ∧ TS w' w'.heap.size A n c (tt.map first) ∧ Below w.heap.size w w' := by
  have hn := ht.le
  have hc := ht.cap
  have HL := Lib.hid ht.len
  go_enter Try.func38, Try.ntmps38
  go_wp2
  go_loopw [3, 4] (fun v i wr => ∃ k : Nat, k ≤ nt ∧ i = .int .i64 k ∧ OwnT w wr v ((tt.take k).map first)) (fun _ i _ => nt - (intOf i).toNat)
  case atStart => exact ⟨0, Nat.zero_le _, rfl, OwnT.start_at (Below.refl _ _)⟩
  case round =>
    obtain ⟨k, hk, rfl, hown⟩ := hrel
    by_cases hlt : k < nt
    · obtain ⟨b, o, t, A3, n3, c3, hA, hb, htk, hc3, ist⟩ := (ht.below hown.below).get hlt
      subst hA
      have hkl : Hid (k < tt.length) := Lib.hid (by rw [HL.out]; exact hlt)
      have hn3 : n3 ≤ 1024 := by rw [← ist.len, ← htk.out]; exact hlen _ (getD_mem hkl.out)
      have ist' := ist.more hown.below.size
      have HT := Lib.hid ht
      have HLn := Lib.hid hlen
      clear ht hlen ist
      go_wp2_with fail
      refine (first2_new _ _ _ _ _ ist' (by omega)).mono ?_
      rintro e w4 ⟨A4, n4, c4, rfl, is4, b4, hnew⟩
      have hown4 := hown.later b4
      have hrow := RowAt.made hown is4 hnew
      have hlr : ((tt.take k).map first).length + 1 ≤ 1000000 := by rw [List.length_map, List.length_take]; omega
      clear ist' hc3 is4 hnew
      go_wp2_with (with_reducible show wpList _ _ _ (Oper.mk (some 18) _ _ _ _ _ :: _) _ _; go_must (refine wpList_append_row (v := u3) (w0 := w) rfl _ _ rfl rfl hown4 hrow rfl hlr ?_; intro v' w5 hown' hg5 hb5))
      go_roundw
      case rel => exact ⟨k + 1, by omega, by go_num, by rw [map_rows_snoc hkl.out htk.out]; exact hown'⟩
      case measure => simp [intOf]; omega
    · obtain rfl : k = nt := by omega
      obtain ⟨tA, tn, tc, etv, hts⟩ := hown.ts (by rw [List.length_map, List.length_take]; omega)
      subst etv
      have hall : tt.take k = tt := List.take_of_length_le (by rw [HL.out]; omega)
      rw [hall] at hts
      have hbel := hown.below
      clear hown
      go_wp2
      go_ret
      exact ⟨_, _, _, rfl, hts, hbel⟩

/-- A vertex's turn. -/
theorem getD_lt {tt : List (List Int)} {k : Nat} (h : tt.length ≤ k) : tt.getD k [] = [] := by
  rw [List.getD_eq_getElem?_getD, List.getElem?_eq_none h]
  rfl
set_option maxHeartbeats 4000000 in
set_option maxRecDepth 100000 in
theorem at_yes (w : World) (r : Nat) (lv : Int → Option Int) (tt : List (List Int)) (pl : Int → Option Int) (ds : List Int) (h : RS w r lv tt pl ds) (hlen : ∀ t ∈ tt, t.length ≤ 1024) (k : Nat) (hk : k < tt.length) :
    Calls Try.prog 43 #[.pointer (some ⟨r, 0, none⟩), .int .i64 k] w (NewRow w (tt.getD k [])) := by
  obtain ⟨At, nt, ct, lb, nl, pb, np, Ad, nd, cd, hr, c0, _, _, _, ht, _, _, _⟩ := h
  have hn := ht.le
  have hc := ht.cap
  have hlt : k < nt := by rw [← ht.len]; exact hk
  obtain ⟨b, o, t, A3, n3, c3, hA, hb, htk, hc3, ist⟩ := ht.get hlt
  subst hA
  have hn3 : n3 ≤ 1024 := by rw [← ist.len, ← htk.out]; exact hlen _ (getD_mem hk)
  have k0 : (0 : Int) ≤ (k : Int) := by omega
  have k1 : (k : Int) < (nt : Int) := by omega
  clear ht hlen hk
  go_enter Try.func43, Try.ntmps43
  go_wp2_with fail
  refine (clone_new _ _ _ _ _ ist (by omega)).mono ?_
  rintro e w4 ⟨A4, n4, c4, rfl, is4, b4, hnew⟩
  go_wp2
  go_ret
  rw [htk.out]
  exact ⟨_, _, _, rfl, is4, b4, hnew⟩
set_option maxHeartbeats 4000000 in
set_option maxRecDepth 100000 in
theorem at_no (w : World) (r : Nat) (lv : Int → Option Int) (tt : List (List Int)) (pl : Int → Option Int) (ds : List Int) (h : RS w r lv tt pl ds) (v : Int) (hv : v < 0 ∨ (tt.length : Int) ≤ v) :
    Calls Try.prog 43 #[.pointer (some ⟨r, 0, none⟩), .int .i64 v] w fun e w' => e = .returned (.slice none 0 0) ∧ w = w' := by
  obtain ⟨At, nt, ct, lb, nl, pb, np, Ad, nd, cd, hr, c0, _, _, _, ht, _, _, _⟩ := h
  have hn := ht.le
  have hc := ht.cap
  have hl := ht.len
  rw [hl] at hv
  clear ht hl
  by_cases h0 : v < 0
  · clear hv
    go_enter Try.func43, Try.ntmps43
    go_wp2
    go_ret
    exact ⟨rfl, rfl⟩
  · have h1 : (nt : Int) ≤ v := by omega
    have h2 : 0 ≤ v := by omega
    clear hv h0
    go_enter Try.func43, Try.ntmps43
    go_wp2
    go_ret
    exact ⟨rfl, rfl⟩
end Go.Proofs.Ythobfbnopkbniaa
