/-
  The contract of traceryref04.Or, over lists that rise. No conditions on the program.
-/
import Derived.Test.YthobfbnopkbniaaWEqual
import Derived.Test.YthobfbnopkbniaaRWhole
namespace Go.Proofs.Ythobfbnopkbniaa
open Go.RowKit

/-- What Or keeps: out rises, holds what has been gone through of both, and lies below what has not. -/
structure OrI (a b : List Int) (i k : Nat) (out : List Int) : Prop where
  up : out.Pairwise (· < ·)
  mem : ∀ z, z ∈ out ↔ z ∈ a.take i ∨ z ∈ b.take k
  lowa : i < a.length → ∀ z ∈ out, z < a.getD i 0
  lowb : k < b.length → ∀ z ∈ out, z < b.getD k 0
  len : out.length ≤ i + k
section
variable {a b out : List Int} {i k : Nat} {x y : Int}
theorem OrI.start_ : OrI a b 0 0 [] := ⟨List.Pairwise.nil, by simp, by simp, by simp, Nat.le_refl _⟩
theorem OrI.swap (h : OrI a b i k out) : OrI b a k i out := ⟨h.up, fun z => by rw [h.mem z]; exact Or.comm, h.lowb, h.lowa, by have := h.len; omega⟩
theorem rise_next (ha : a.Pairwise (· < ·)) {j : Nat} (hi : i + 1 < a.length) (hx : a.getD i 0 = x) (hj : j = i + 1) : x < a.getD j 0 := by
  subst hj
  rw [← hx, getD_idx (by omega), getD_idx hi]
  exact List.pairwise_iff_getElem.1 ha i (i + 1) (by omega) hi (by omega)
theorem snoc_up {x : Int} (h : out.Pairwise (· < ·)) (hl : ∀ z ∈ out, z < x) : (out ++ [x]).Pairwise (· < ·) := by
  rw [List.pairwise_append]
  exact ⟨h, List.pairwise_singleton _ _, fun z hz y hy => by rw [List.mem_singleton.1 hy]; exact hl z hz⟩
theorem OrI.left (h : OrI a b i k out) (ha : a.Pairwise (· < ·)) (hi : i < a.length) (hx : a.getD i 0 = x) (hb : k < b.length → x < b.getD k 0) : OrI a b (i + 1) k (out ++ [x]) := by
  have hl : ∀ z ∈ out, z < x := fun z hz => hx ▸ h.lowa hi z hz
  refine ⟨snoc_up h.up hl, fun z => ?_, fun hi' z hz => ?_, fun hk z hz => ?_, by rw [List.length_append]; have := h.len; simp; omega⟩
  · rw [List.mem_append, h.mem z, take_getD hi hx, List.mem_append]
    constructor
    · rintro ((h1 | h1) | h1)
      · exact .inl (.inl h1)
      · exact .inr h1
      · exact .inl (.inr h1)
    · rintro ((h1 | h1) | h1)
      · exact .inl (.inl h1)
      · exact .inr h1
      · exact .inl (.inr h1)
  · have hn := rise_next ha hi' hx rfl
    rcases List.mem_append.1 hz with h1 | h1
    · have := hl z h1; omega
    · rw [List.mem_singleton.1 h1]; exact hn
  · rcases List.mem_append.1 hz with h1 | h1
    · exact h.lowb hk z h1
    · rw [List.mem_singleton.1 h1]; exact hb hk
theorem OrI.both (h : OrI a b i k out) (ha : a.Pairwise (· < ·)) (hb : b.Pairwise (· < ·)) (hi : i < a.length) (hk : k < b.length) (hx : a.getD i 0 = x) (hy : b.getD k 0 = x) : OrI a b (i + 1) (k + 1) (out ++ [x]) := by
  have hl : ∀ z ∈ out, z < x := fun z hz => hx ▸ h.lowa hi z hz
  refine ⟨snoc_up h.up hl, fun z => ?_, fun hi' z hz => ?_, fun hk' z hz => ?_, by rw [List.length_append]; have := h.len; simp; omega⟩
  · rw [List.mem_append, h.mem z, take_getD hi hx, take_getD hk hy, List.mem_append, List.mem_append]
    constructor
    · rintro ((h1 | h1) | h1)
      · exact .inl (.inl h1)
      · exact .inr (.inl h1)
      · exact .inl (.inr h1)
    · rintro ((h1 | h1) | (h1 | h1))
      · exact .inl (.inl h1)
      · exact .inr h1
      · exact .inl (.inr h1)
      · exact .inr h1
  · have hn := rise_next ha hi' hx rfl
    rcases List.mem_append.1 hz with h1 | h1
    · have := hl z h1; omega
    · rw [List.mem_singleton.1 h1]; exact hn
  · have hn := rise_next hb hk' hy rfl
    rcases List.mem_append.1 hz with h1 | h1
    · have := hl z h1; omega
    · rw [List.mem_singleton.1 h1]; exact hn
theorem OrI.right (h : OrI a b i k out) (hb : b.Pairwise (· < ·)) (hk : k < b.length) (hy : b.getD k 0 = y) (ha : i < a.length → y < a.getD i 0) : OrI a b i (k + 1) (out ++ [y]) := (h.swap.left hb hk hy ha).swap
end

theorem refOr_end {w w' : World} {xs ys out : List Int} {p q n c : Nat} {A : Option Addr} (hp : xs.length = p) (hq : ys.length = q) (h : OrI xs ys p q out) (ho : Own w w' (.slice A n c) out) :
    ∃ A2 m c2 l, Ending.returned (.slice A n c) = .returned (.slice A2 m c2) ∧ IS w' w'.heap.size A2 m c2 l ∧ l.Pairwise (· < ·) ∧ (∀ z, z ∈ l ↔ z ∈ xs ∨ z ∈ ys) ∧ Below w.heap.size w w' := by
  obtain ⟨A2, m, c2, e, his⟩ := ho.is
  refine ⟨A2, m, c2, out, by rw [e], his, h.up, fun z => ?_, ho.below⟩
  rw [h.mem z, List.take_of_length_le (by omega), List.take_of_length_le (by omega)]

set_option maxHeartbeats 16000000 in
set_option maxRecDepth 100000 in
theorem refOr_any (w : World) (A A' : Option Addr) (n c n' c' : Nat) (xs ys : List Int) (h : IS w w.heap.size A n c xs) (h' : IS w w.heap.size A' n' c' ys) (hx : xs.Pairwise (· < ·)) (hy : ys.Pairwise (· < ·)) (hnl : n ≤ 100000) (hnl' : n' ≤ 100000) :
    Calls Try.prog 45 #[.slice A n c, .slice A' n' c'] w fun e w' => ∃ A2 m c2 l, e = .returned (.slice A2 m c2) ∧ IS w' w'.heap.size A2 m c2 l ∧ l.Pairwise (· < ·) ∧ (∀ z, z ∈ l ↔ z ∈ xs ∨ z ∈ ys) ∧ Below w.heap.size w w' := by
  have hn := h.le
  have hc := h.cap
  have hn' := h'.le
  have hc' := h'.cap
  have HLX := Lib.hid h.len
  have HLY := Lib.hid h'.len
  have HX := Lib.hid hx
  have HY := Lib.hid hy
  have hst : Own w w (.slice none 0 0) [] := Own.start w
  have HH := Lib.hid h
  have HH' := Lib.hid h'
  clear h h' hx hy
  go_enter Try.func45, Try.ntmps45
  go_wp2
  go_loopw [5, 6, 7] (fun v i k wr => ∃ (p q : Nat) (out : List Int), p ≤ n ∧ q ≤ n' ∧ i = .int .i64 p ∧ k = .int .i64 q ∧ OrI xs ys p q out ∧ Own w wr v out) (fun _ i k _ => (n - (intOf i).toNat) + (n' - (intOf k).toNat))
  case atStart => exact ⟨0, 0, [], Nat.zero_le _, Nat.zero_le _, rfl, rfl, OrI.start_, hst⟩
  case round =>
    obtain ⟨p, q, out, hp, hq, rfl, rfl, hoi, hown⟩ := hrel
    obtain ⟨vA, vn, vc, rfl⟩ := hown.slice_
    have OI := Lib.hid hoi
    have OW := Lib.hid hown
    have hol : Hid (out.length + 1 ≤ 1000000000000) := Lib.hid (by have := hoi.len; omega)
    clear hoi hown hst
    have hbl := OW.out.below
    by_cases hpl : p < n
    · obtain ⟨b1, o1, x, rfl, hb1, hx, hx64, hcx⟩ := (HH.out.below hbl).get hpl
      have hxl : Hid (p < xs.length) := Lib.hid (by have := HLX.out; omega)
      by_cases hql : q < n'
      · obtain ⟨b2, o2, y, rfl, hb2, hy, hy64, hcy⟩ := (HH'.out.below hbl).get hql
        have hyl : Hid (q < ys.length) := Lib.hid (by have := HLY.out; omega)
        have hp1 : (p : Int) < (n : Int) := by omega
        have hq1 : (q : Int) < (n' : Int) := by omega
        rcases Int.lt_trichotomy x y with hxy | hxy | hxy
        · have XY := Lib.hid hxy
          have e1 : decide (x ≤ y) = true := by simp; omega
          have e2 : (x == y) = false := by simp; omega
          have hp0 : (0 : Int) ≤ (p : Int) := by omega
          have hq0 : (0 : Int) ≤ (q : Int) := by omega
          have a1 : decide ((p : Int) < (n : Int)) = true := by simp; omega
          have a2 : decide (p < n) = true := by simp; omega
          have a3 : decide ((q : Int) < (n' : Int)) = true := by simp; omega
          have a4 : decide (q < n') = true := by simp; omega
          have a5 : ((q : Int) == (n' : Int)) = false := by simp; omega
          have a6 : (q == n') = false := by simp; omega
          clear hxy hbl
          go_wp2
          go_quiet (fail)
          go_wp2
          go_quiet (fail)
          go_wp2_with ((with_reducible show wpList _ _ _ (Oper.mk (some 62) _ _ _ _ _ :: _) _ _); go_must (refine wpList_append_one (v := .slice vA vn vc) (w0 := w) rfl _ _ rfl rfl (by first | exact OW.out | exact OW.out.drewN _ | exact (OW.out.drewN _).drewN _) _ hx64 rfl hol.out ?_; intro v' w5 hown' hg5' hb5'))
          go_roundw
          case rel => exact ⟨p + 1, q, _, by omega, hq, by go_num, rfl, OI.out.left HX.out hxl.out hx.out (fun _ => by rw [hy.out]; exact XY.out), hown'⟩
          case measure => simp [intOf]; omega
        · subst hxy
          have e1 : decide (x ≤ x) = true := by simp
          have e2 : (x == x) = true := by simp
          have hp0 : (0 : Int) ≤ (p : Int) := by omega
          have hq0 : (0 : Int) ≤ (q : Int) := by omega
          have a1 : decide ((p : Int) < (n : Int)) = true := by simp; omega
          have a2 : decide (p < n) = true := by simp; omega
          have a3 : decide ((q : Int) < (n' : Int)) = true := by simp; omega
          have a4 : decide (q < n') = true := by simp; omega
          have a5 : ((q : Int) == (n' : Int)) = false := by simp; omega
          have a6 : (q == n') = false := by simp; omega
          clear hbl
          go_wp2
          go_quiet (fail)
          go_wp2
          go_quiet (fail)
          go_wp2_with ((with_reducible show wpList _ _ _ (Oper.mk (some 62) _ _ _ _ _ :: _) _ _); go_must (refine wpList_append_one (v := .slice vA vn vc) (w0 := w) rfl _ _ rfl rfl (by first | exact OW.out | exact OW.out.drewN _ | exact (OW.out.drewN _).drewN _) _ hx64 rfl hol.out ?_; intro v' w5 hown' hg5' hb5'))
          go_roundw
          case rel => exact ⟨p + 1, q + 1, _, by omega, by omega, by go_num, by go_num, OI.out.both HX.out HY.out hxl.out hyl.out hx.out hy.out, hown'⟩
          case measure => simp [intOf]; omega
        · have XY := Lib.hid hxy
          have e1 : decide (x ≤ y) = false := by simp; omega
          have hp0 : (0 : Int) ≤ (p : Int) := by omega
          have hq0 : (0 : Int) ≤ (q : Int) := by omega
          have a1 : decide ((p : Int) < (n : Int)) = true := by simp; omega
          have a2 : decide (p < n) = true := by simp; omega
          have a3 : decide ((q : Int) < (n' : Int)) = true := by simp; omega
          have a4 : decide (q < n') = true := by simp; omega
          have a5 : ((q : Int) == (n' : Int)) = false := by simp; omega
          have a6 : (q == n') = false := by simp; omega
          clear hxy hbl
          go_wp2
          go_quiet (fail)
          go_wp2_with ((with_reducible show wpList _ _ _ (Oper.mk (some 71) _ _ _ _ _ :: _) _ _); go_must (refine wpList_append_one (v := .slice vA vn vc) (w0 := w) rfl _ _ rfl rfl (by first | exact OW.out | exact OW.out.drewN _ | exact (OW.out.drewN _).drewN _) _ hy64 rfl hol.out ?_; intro v' w5 hown' hg5' hb5'))
          go_roundw
          case rel => exact ⟨p, q + 1, _, hp, by omega, rfl, by go_num, OI.out.right HY.out hyl.out hy.out (fun _ => by rw [hx.out]; exact XY.out), hown'⟩
          case measure => simp [intOf]; omega
      · obtain rfl : q = n' := by omega
        have hp1 : (p : Int) < (n : Int) := by omega
        have hp0 : (0 : Int) ≤ (p : Int) := by omega
        have hq0 : (0 : Int) ≤ (q : Int) := by omega
        have a1 : decide ((p : Int) < (n : Int)) = true := by simp; omega
        have a2 : decide (p < n) = true := by simp; omega
        have a3 : decide ((q : Int) < (q : Int)) = false := by simp
        have a5 : ((q : Int) == (q : Int)) = true := by simp
        clear hbl
        go_wp2
        go_quiet (fail)
        go_wp2
        go_quiet (fail)
        go_wp2_with ((with_reducible show wpList _ _ _ (Oper.mk (some 62) _ _ _ _ _ :: _) _ _); go_must (refine wpList_append_one (v := .slice vA vn vc) (w0 := w) rfl _ _ rfl rfl (by first | exact OW.out | exact OW.out.drewN _ | exact (OW.out.drewN _).drewN _) _ hx64 rfl hol.out ?_; intro v' w5 hown' hg5' hb5'))
        go_roundw
        case rel => exact ⟨p + 1, q, _, by omega, Nat.le_refl _, by go_num, rfl, OI.out.left HX.out hxl.out hx.out (fun hh => absurd hh (by have := HLY.out; omega)), hown'⟩
        case measure => simp [intOf]; omega
    · obtain rfl : p = n := by omega
      by_cases hql : q < n'
      · obtain ⟨b2, o2, y, rfl, hb2, hy, hy64, hcy⟩ := (HH'.out.below hbl).get hql
        have hyl : Hid (q < ys.length) := Lib.hid (by have := HLY.out; omega)
        have hq1 : (q : Int) < (n' : Int) := by omega
        have hp0 : (0 : Int) ≤ (p : Int) := by omega
        have hq0 : (0 : Int) ≤ (q : Int) := by omega
        have a1 : decide ((p : Int) < (p : Int)) = false := by simp
        have a3 : decide ((q : Int) < (n' : Int)) = true := by simp; omega
        have a4 : decide (q < n') = true := by simp; omega
        have a5 : ((q : Int) == (n' : Int)) = false := by simp; omega
        have a6 : (q == n') = false := by simp; omega
        clear hbl
        go_wp2
        go_quiet (fail)
        go_wp2_with ((with_reducible show wpList _ _ _ (Oper.mk (some 71) _ _ _ _ _ :: _) _ _); go_must (refine wpList_append_one (v := .slice vA vn vc) (w0 := w) rfl _ _ rfl rfl (by first | exact OW.out | exact OW.out.drewN _ | exact (OW.out.drewN _).drewN _) _ hy64 rfl hol.out ?_; intro v' w5 hown' hg5' hb5'))
        go_roundw
        case rel => exact ⟨p, q + 1, _, Nat.le_refl _, by omega, rfl, by go_num, OI.out.right HY.out hyl.out hy.out (fun hh => absurd hh (by have := HLX.out; omega)), hown'⟩
        case measure => simp [intOf]; omega
      · obtain rfl : q = n' := by omega
        have a1 : decide ((p : Int) < (p : Int)) = false := by simp
        have a3 : decide ((q : Int) < (q : Int)) = false := by simp
        clear hbl
        go_wp2
        go_ret
        exact refOr_end HLX.out HLY.out OI.out OW.out
end Go.Proofs.Ythobfbnopkbniaa
