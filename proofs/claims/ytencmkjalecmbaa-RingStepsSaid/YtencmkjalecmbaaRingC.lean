/-
  The contracts of ring.Right and ring.Labels; no conditions.
-/
import Derived.Test.YtencmkjalecmbaaRingB
import Derived.Test.YtencmkjalecmbaaMap
import Derived.Deep.QuietTactic
import Derived.BigQuiet
namespace Go.Proofs.Ytencmkjalecmbaa
open Go.RowKit

/-- After k rounds of ring.Right. -/
def RightInv (w wr : World) (xs : List Int) (k : Nat) : Prop :=
  ∃ cnt g, MI wr w.heap.size cnt g ∧ cnt ≤ k ∧ (∀ x, (g x).isSome = true ↔ x ∈ xs.take k) ∧ (xs.take k).Nodup ∧ Below w.heap.size w wr

theorem right_step {w wr w1 : World} {xs : List Int} {k cnt : Nat} {g : Int → Option Int} {z u : Int} (hk : k < xs.length) (hz : xs.getD k 0 = z) (hg : g z = none)
    (h1 : cnt ≤ k) (h2 : ∀ x, (g x).isSome = true ↔ x ∈ xs.take k) (h3 : (xs.take k).Nodup) (h4 : Below w.heap.size w wr)
    (hm : MI w1 w.heap.size (if (g z).isSome then cnt else cnt + 1) (upd g z u)) (hw : wr.grownBy w1 (some w.heap.size)) : RightInv w w1 xs (k + 1) := by
  rw [hg] at hm
  have hzm : z ∉ xs.take k := fun h => by have := (h2 z).2 h; rw [hg] at this; cases this
  refine ⟨_, _, hm, by simp; exact h1, fun x => ?_, ?_, h4.grown hw h4.size (fun j hj => by cases hj; exact Nat.le_refl _)⟩
  · rw [take_getD hk hz, List.mem_append, List.mem_singleton, ← h2 x]
    unfold upd
    split
    · simp [*]
    · simp [*]
  · rw [take_getD hk hz, List.nodup_append]
    exact ⟨h3, by simp, fun a ha b hb => by rw [List.mem_singleton] at hb; subst hb; exact fun e => hzm (e ▸ ha)⟩

theorem not_nodup {xs : List Int} {k : Nat} {z : Int} (hk : k < xs.length) (hz : xs.getD k 0 = z) (hm : z ∈ xs.take k) : ¬ xs.Nodup := by
  intro h
  have h1 : (xs.take (k + 1)).Nodup := h.sublist (List.take_sublist _ _)
  rw [take_getD hk hz, List.nodup_append] at h1
  exact h1.2.2 z hm z (by simp) rfl

set_option maxHeartbeats 400000 in
theorem right_any (w : World) (A : Option Addr) (n c : Nat) (xs : List Int) (h : IS w w.heap.size A n c xs) (hs : n ≤ 1000000) :
    Calls Try.prog 12 #[.slice A n c] w fun e w' => e = .returned (.bool (decide xs.Nodup)) ∧ Below w.heap.size w w' := by
  have hn := h.le
  have hc := h.cap
  have HL := Lib.hid h.len
  have hmm := run_makeMap_int
  go_enter Try.func12, Try.ntmps12
  go_wp2
  clear hmm
  go_loopw [13] (fun i wr => ∃ k : Nat, k ≤ n ∧ i = .int .i64 k ∧ RightInv w wr xs k) (fun i _ => n - (intOf i).toNat)
  case atStart => exact ⟨0, Nat.zero_le _, rfl, _, _, MI.made w, Nat.le_refl _, fun x => by simp, by simp, (Below.refl _ _).alloc (Nat.le_refl _) _⟩
  case round =>
    obtain ⟨k, hk, rfl, cnt, g, hm, h1, h2, h3, h4⟩ := hrel
    have H2 := Lib.hid h2
    have H3 := Lib.hid h3
    clear h2 h3
    by_cases hlt : k < n
    · obtain ⟨b, o, z, rfl, hb, hz, hz64, hcx⟩ := (h.below h4).get hlt
      have HH := Lib.hid h
      clear h
      cases hg : g z with
      | some y =>
        have HG := Lib.hid hg
        clear hg
        go_wp2_with (at_lookup; go_must (refine wpList_iok_some rfl _ _ rfl rfl hm z rfl hz64 y HG.out ?_))
        go_ret
        exact ⟨ret_bool (decide_eq_false (not_nodup (by rw [HL.out]; exact hlt) hz.out ((H2.out z).1 (by rw [HG.out]; rfl)))).symm, h4⟩
      | none =>
        have HG := Lib.hid hg
        clear hg
        go_wp2_with (first
          | (at_lookup; go_must (refine wpList_iok_none rfl _ _ rfl rfl hm z rfl hz64 HG.out ?_))
          | (at_mapUpdate; go_must (refine wpList_istore rfl _ _ _ rfl rfl hm (by omega) z rfl hz64 _ rfl ?_; intro w1 hm1 hgr1)))
        go_roundw
        case rel => exact ⟨k + 1, by omega, by go_num, right_step (by rw [HL.out]; exact hlt) hz.out HG.out h1 H2.out H3.out h4 hm1 hgr1⟩
        case measure => simp [intOf]; omega
    · obtain rfl : k = n := by omega
      go_wp2
      go_ret
      exact ⟨ret_bool (decide_eq_true (by have := H3.out; rwa [List.take_of_length_le (Nat.le_of_eq HL.out)] at this)).symm, h4⟩

theorem right_yes (w : World) (A : Option Addr) (n c : Nat) (xs : List Int) (h : IS w w.heap.size A n c xs) (hs : n ≤ 1000000) (hd : xs.Nodup) :
    Calls Try.prog 12 #[.slice A n c] w fun e w' => e = .returned (.bool true) ∧ Below w.heap.size w w' :=
  (right_any w A n c xs h hs).mono fun e w' hh => by rwa [decide_eq_true hd] at hh
theorem right_no (w : World) (A : Option Addr) (n c : Nat) (xs : List Int) (h : IS w w.heap.size A n c xs) (hs : n ≤ 1000000) (hd : ¬ xs.Nodup) :
    Calls Try.prog 12 #[.slice A n c] w fun e w' => e = .returned (.bool false) ∧ Below w.heap.size w w' :=
  (right_any w A n c xs h hs).mono fun e w' hh => by rwa [decide_eq_false hd] at hh

/-- What Labels hands back. -/
def LabelsPost (w : World) (zs : List Int) (e : Ending) (w' : World) : Prop := (zs.Nodup → NewIS2 w zs true e w') ∧ (¬ zs.Nodup → NewIS2 w [] false e w')

set_option maxHeartbeats 1000000 in
theorem labels_any (w : World) (A : Option Addr) (n c : Nat) (xs : List Int) (h : IS w w.heap.size A n c xs) (hs : n ≤ 1000000) :
    Calls Try.prog 9 #[.slice A n c] w (LabelsPost w (labels xs)) := by
  have hn := h.le
  have hc := h.cap
  have HL := Lib.hid h.len
  go_enter Try.func9, Try.ntmps9
  go_wp2
  go_loopw [4, 10] (fun v i wr => ∃ k : Nat, k ≤ n ∧ i = .int .i64 k ∧ Own w wr v (sq xs k)) (fun _ i _ => n - (intOf i).toNat)
  case atStart => exact ⟨0, Nat.zero_le _, rfl, Own.start w⟩
  case round =>
    obtain ⟨k, hk, rfl, hown⟩ := hrel
    have hsl := sq_len xs k
    by_cases hlt : k < n
    · obtain ⟨b, o, z, rfl, hb, hz, hz64, hcx⟩ := (h.below hown.below).get hlt
      by_cases h0 : k = 0
      · have hk0 : ((k : Int) == 0) = true := by simp [h0]
        have H0 := Lib.hid h0
        have HH := Lib.hid h
        clear h h0
        go_wp2_with (at_builtin; go_must (refine wpList_append_one rfl _ _ rfl rfl hown z hz64 rfl (by omega) ?_; intro v' w2 hown' _ _))
        go_roundw
        case rel => exact ⟨k + 1, by omega, by go_num, by rw [sq, if_pos (.inl H0.out), hz.out]; exact hown'⟩
        case measure => simp [intOf]; omega
      · obtain ⟨j, rfl⟩ : ∃ j, k = j + 1 := ⟨k - 1, by omega⟩
        obtain ⟨b', o', y, hA, hb', hy, hy64, hcy⟩ := (h.below hown.below).get (k := j) (by omega)
        injection hA with hA
        injection hA with hA1 hA2
        subst hA1
        subst hA2
        have hk0 : (((j + 1 : Nat) : Int) == 0) = false := by simp; omega
        have HH := Lib.hid h
        clear h
        by_cases hyz : z = y
        · have hyz' : (z != y) = false := by simp [hyz]
          have HYZ := Lib.hid hyz
          clear hyz
          go_wp2
          go_roundw
          case rel => exact ⟨j + 2, by omega, by go_num, by rw [sq, if_neg (by rw [hz.out, Nat.add_sub_cancel, hy.out, HYZ.out]; simp)]; exact hown⟩
          case measure => simp [intOf]; omega
        · have hyz' : (z != y) = true := by simp [hyz]
          have HYZ := Lib.hid hyz
          clear hyz
          go_wp2_with (at_builtin; go_must (refine wpList_append_one rfl _ _ rfl rfl hown z hz64 rfl (by omega) ?_; intro v' w2 hown' _ _))
          go_roundw
          case rel => exact ⟨j + 2, by omega, by go_num, by rw [sq, if_pos (by rw [hz.out, Nat.add_sub_cancel, hy.out]; exact .inr HYZ.out), hz.out]; exact hown'⟩
          case measure => simp [intOf]; omega
    · obtain rfl : k = n := by omega
      have hlab : Hid (labels xs = trim (sq xs k)) := by rw [← HL.out]; exact Lib.hid rfl
      obtain ⟨ys, hys⟩ : ∃ ys, sq xs k = ys := ⟨_, rfl⟩
      rw [hys] at hown hlab hsl
      clear hys
      obtain ⟨A2, m, c2, hv, his⟩ := hown.is
      subst hv
      have HM := Lib.hid his.len
      rw [HM.out] at hsl
      have hm1 := his.le
      have hm2 := his.cap
      by_cases h1m : 1 < m
      · obtain ⟨b0, o0, p, hA0, hb0, hp, hp64, hcp⟩ := his.get (k := 0) (by omega)
        obtain ⟨j, hj⟩ : ∃ j, m = j + 1 := ⟨m - 1, by omega⟩
        obtain ⟨b1, o1, q, hA1, hb1, hq, hq64, hcq⟩ := his.get (k := j) (by omega)
        subst hA0
        injection hA1 with hA1
        injection hA1 with hA2 hA3
        subst hA2
        subst hA3
        rw [Nat.add_zero] at hcp
        have hj2 : IntKind.i64.wrap ((m : Int) - 1) = (j : Int) := by rw [show (m : Int) - 1 = (j : Int) from by omega]; exact IntWalk.i64_in _ (by omega)
        have hgt : decide ((1 : Int) < (m : Int)) = true := by simp; omega
        have hgt' : decide (1 < m) = true := by simp; omega
        have hm0 : 0 < m := by omega
        have hjm : j < m := by omega
        have HJ := Lib.hid hj
        clear hj
        by_cases hpq : p = q
        · have hpq' : (p == q) = true := by simp [hpq]
          have HPQ := Lib.hid hpq
          clear hpq
          go_wp2
          go_quiet (fail)
          have hisn := his.drewN nq
          have htr : Hid (trim ys = ys.take j) := by
            refine Lib.hid ?_
            unfold trim
            rw [HM.out, HJ.out, Nat.add_sub_cancel, hp.out, hq.out, HPQ.out, if_pos ⟨by rw [← HJ.out]; exact h1m, rfl⟩]
          go_wp2_with (first
            | (with_reducible show wpList _ _ _ (Oper.mk (some 49) _ _ _ _ _ :: _) _ _; go_must (refine wpList_cut_hi rfl _ _ rfl rfl hisn _ rfl (by omega) (by omega) ?_; intro A3 n3 c3 hs3))
            | fail)
          rw [Int.toNat_natCast] at hs3
          have hn3 : n3 ≤ 1000000 := by have := hs3.len; rw [List.length_take] at this; omega
          have hbl : Below w.heap.size w (wr.drewN nq) := (hown.drewN nq).below
          by_cases hnd : (ys.take j).Nodup
          · refine (right_yes _ _ _ _ _ hs3 hn3 hnd).mono ?_
            rintro e w' ⟨rfl, hb'⟩
            go_wp2
            go_ret2
            rw [hlab.out, htr.out]
            exact ⟨fun _ => ⟨_, _, _, rfl, (hs3.below hb').more hb'.size, hbl.trans (hb'.mono hbl.size)⟩, fun h => absurd hnd h⟩
          · refine (right_no _ _ _ _ _ hs3 hn3 hnd).mono ?_
            rintro e w' ⟨rfl, hb'⟩
            go_wp2
            go_ret2
            rw [hlab.out, htr.out]
            exact ⟨fun h => absurd h hnd, fun _ => ⟨none, 0, 0, rfl, IS.none_, hbl.trans (hb'.mono hbl.size)⟩⟩
        · have hpq' : (p == q) = false := by simp [hpq]
          have HPQ := Lib.hid hpq
          clear hpq
          go_wp2
          go_quiet (fail)
          have hs3 := his.drewN nq
          have htr : Hid (trim ys = ys) := by
            refine Lib.hid ?_
            unfold trim
            rw [HM.out, HJ.out, Nat.add_sub_cancel, hp.out, hq.out, if_neg fun h => HPQ.out h.2]
          go_wp2_with fail
          have hbl : Below w.heap.size w (wr.drewN nq) := (hown.drewN nq).below
          by_cases hnd : ys.Nodup
          · refine (right_yes _ _ _ _ _ hs3 (by omega) hnd).mono ?_
            rintro e w' ⟨rfl, hb'⟩
            go_wp2
            go_ret2
            rw [hlab.out, htr.out]
            exact ⟨fun _ => ⟨_, _, _, rfl, (hs3.below hb').more hb'.size, hbl.trans (hb'.mono hbl.size)⟩, fun h => absurd hnd h⟩
          · refine (right_no _ _ _ _ _ hs3 (by omega) hnd).mono ?_
            rintro e w' ⟨rfl, hb'⟩
            go_wp2
            go_ret2
            rw [hlab.out, htr.out]
            exact ⟨fun h => absurd h hnd, fun _ => ⟨none, 0, 0, rfl, IS.none_, hbl.trans (hb'.mono hbl.size)⟩⟩
      · have hgt : decide ((1 : Int) < (m : Int)) = false := by simp; omega
        have hgt' : decide (1 < m) = false := by simp; omega
        go_wp2
        go_quiet (fail)
        have hs3 := his.drewN nq
        have htr : Hid (trim ys = ys) := by
          refine Lib.hid ?_
          unfold trim
          rw [HM.out, if_neg fun h => h1m h.1]
        go_wp2_with fail
        have hbl : Below w.heap.size w (wr.drewN nq) := (hown.drewN nq).below
        by_cases hnd : ys.Nodup
        · refine (right_yes _ _ _ _ _ hs3 (by omega) hnd).mono ?_
          rintro e w' ⟨rfl, hb'⟩
          go_wp2
          go_ret2
          rw [hlab.out, htr.out]
          exact ⟨fun _ => ⟨_, _, _, rfl, (hs3.below hb').more hb'.size, hbl.trans (hb'.mono hbl.size)⟩, fun h => absurd hnd h⟩
        · refine (right_no _ _ _ _ _ hs3 (by omega) hnd).mono ?_
          rintro e w' ⟨rfl, hb'⟩
          go_wp2
          go_ret2
          rw [hlab.out, htr.out]
          exact ⟨fun h => absurd h hnd, fun _ => ⟨none, 0, 0, rfl, IS.none_, hbl.trans (hb'.mono hbl.size)⟩⟩

end Go.Proofs.Ytencmkjalecmbaa
