/-
  The contracts of traceryref04.In, Rises and of graph.rising; no conditions.
-/
import Derived.Test.YthobfbnopkbniaaGBase
import Derived.Test.YthobfbnopkbniaaGPlain
namespace Go.Proofs.Ythobfbnopkbniaa
open Go.RowKit

set_option maxHeartbeats 400000 in
theorem in_yes (w : World) (B : Nat) (A : Option Addr) (n c : Nat) (xs : List Int) (x : Int) (h : IS w B A n c xs) (hx : x ∈ xs) :
    Calls Try.prog 24 #[.slice A n c, .int .i64 x] w fun e w' => e = .returned (.bool true) ∧ w = w' := by
  have hn := h.le
  have hc := h.cap
  obtain ⟨i0, hi0, hix⟩ : ∃ i, i < n ∧ xs.getD i 0 = x := by
    obtain ⟨i, hi, e⟩ := List.getElem_of_mem hx
    exact ⟨i, by rw [← h.len]; exact hi, by rw [getD_idx hi]; exact e⟩
  have HX := Lib.hid hix
  clear hx hix
  go_enter Try.func24, Try.ntmps24
  go_wp2
  go_loop [5] (fun i => ∃ k : Nat, k ≤ i0 ∧ i = .int .i64 k) (fun i => n - (intOf i).toNat)
  case atStart => exact ⟨0, Nat.zero_le _, rfl⟩
  case round =>
    obtain ⟨k, hk, rfl⟩ := hrel
    have hlt : k < n := by omega
    obtain ⟨b, o, z, rfl, hb, hz, hz64, hcx⟩ := h.get hlt
    have HH := Lib.hid h
    clear h
    by_cases hzx : z = x
    · have hb' : (z == x) = true := by simp [hzx]
      clear hzx
      go_wp2
      go_ret
      exact ⟨rfl, rfl⟩
    · have hb' : (z == x) = false := by simp [hzx]
      have hne : k ≠ i0 := fun e => hzx (by rw [← hz.out, e]; exact HX.out)
      have hk1 : k + 1 ≤ i0 := by omega
      clear hzx hne
      go_wp2
      go_round
      case rel => exact ⟨k + 1, hk1, by go_num⟩
      case measure => simp [intOf]; omega

set_option maxHeartbeats 400000 in
theorem in_no (w : World) (B : Nat) (A : Option Addr) (n c : Nat) (xs : List Int) (x : Int) (h : IS w B A n c xs) (hx : x ∉ xs) :
    Calls Try.prog 24 #[.slice A n c, .int .i64 x] w fun e w' => e = .returned (.bool false) ∧ w = w' := by
  have hn := h.le
  have hc := h.cap
  have HX := Lib.hid hx
  clear hx
  go_enter Try.func24, Try.ntmps24
  go_wp2
  go_loop [5] (fun i => ∃ k : Nat, k ≤ n ∧ i = .int .i64 k) (fun i => n - (intOf i).toNat)
  case atStart => exact ⟨0, Nat.zero_le _, rfl⟩
  case round =>
    obtain ⟨k, hk, rfl⟩ := hrel
    by_cases hlt : k < n
    · obtain ⟨b, o, z, rfl, hb, hz, hz64, hcx⟩ := h.get hlt
      have hm := h.mem hlt
      rw [hz.out] at hm
      have hb' : (z == x) = false := beq_eq_false_iff_ne.2 fun e => HX.out (e ▸ hm)
      have HH := Lib.hid h
      clear h hm
      go_wp2
      go_round
      case rel => exact ⟨k + 1, hlt, by go_num⟩
      case measure => simp [intOf]; omega
    · go_wp2
      go_ret
      exact ⟨rfl, rfl⟩

theorem in_any (w : World) (B : Nat) (A : Option Addr) (n c : Nat) (xs : List Int) (x : Int) (h : IS w B A n c xs) :
    Calls Try.prog 24 #[.slice A n c, .int .i64 x] w fun e w' => e = .returned (.bool (decide (x ∈ xs))) ∧ w = w' := by
  by_cases hx : x ∈ xs
  · rw [decide_eq_true hx]; exact in_yes w B A n c xs x h hx
  · rw [decide_eq_false hx]; exact in_no w B A n c xs x h hx

/-- Where a list stops rising at place k. -/
theorem not_rises {l : List Int} {n : Int} {k : Nat} {z : Int} (hk : k < l.length) (hz : l.getD k 0 = z) (h : ¬ ((0 ≤ z ∧ z < n) ∧ (k = 0 ∨ l.getD (k - 1) 0 < z))) : ¬ Rises l n :=
  fun hr => h ((rises_snoc hk hz).1 (rises_take hr (k + 1))).2

set_option maxHeartbeats 1000000 in
theorem refRises_any (w : World) (B : Nat) (A : Option Addr) (n c : Nat) (xs : List Int) (x : Int) (h : IS w B A n c xs) :
    Calls Try.prog 72 #[.slice A n c, .int .i64 x] w fun e w' => e = .returned (.bool (decide (Rises xs x))) ∧ Drawn w w' := by
  have hn := h.le
  have hc := h.cap
  have HL := Lib.hid h.len
  go_enter Try.func72, Try.ntmps72
  go_wp2
  go_loopw [5] (fun i wr => ∃ k : Nat, k ≤ n ∧ i = .int .i64 k ∧ Rises (xs.take k) x ∧ Drawn w wr) (fun i _ => n - (intOf i).toNat)
  case atStart => exact ⟨0, Nat.zero_le _, rfl, ⟨by simp, by simp⟩, Drawn.refl w⟩
  case round =>
    obtain ⟨k, hk, rfl, hr, hd⟩ := hrel
    have HR := Lib.hid hr
    have HD := Lib.hid hd
    clear hr hd
    by_cases hlt : k < n
    · obtain ⟨b, o, z, rfl, hb, hz, hz64, hcx⟩ := (h.below (HD.out.below B)).get hlt
      have hkl : Hid (k < xs.length) := Lib.hid (by rw [HL.out]; exact hlt)
      by_cases h0 : z < 0
      · have d0 : decide (z < 0) = true := by simp [h0]
        have HH := Lib.hid h
        have HN := Lib.hid (not_rises (n := x) hkl.out hz.out (by omega))
        clear h
        go_wp2
        go_quiet (fail)
        go_wp2
        go_ret
        exact ⟨ret_bool (decide_eq_false HN.out).symm, HD.out.add _⟩
      · have d0 : decide (z < 0) = false := by simp; omega
        by_cases h1 : x ≤ z
        · have d1 : decide (x ≤ z) = true := by simp [h1]
          have HH := Lib.hid h
          have HN := Lib.hid (not_rises (n := x) hkl.out hz.out (by omega))
          clear h
          go_wp2
          go_quiet (fail)
          go_wp2
          go_ret
          exact ⟨ret_bool (decide_eq_false HN.out).symm, HD.out.add _⟩
        · have d1 : decide (x ≤ z) = false := by simp; omega
          by_cases hk0 : k = 0
          · have d2 : decide ((0 : Int) < (k : Int)) = false := by simp [hk0]
            have d2' : decide (0 < k) = false := by simp [hk0]
            have HS := Lib.hid ((rises_snoc (n := x) hkl.out hz.out).2 ⟨HR.out, by omega, .inl hk0⟩)
            have HH := Lib.hid h
            clear h hk0
            go_wp2
            go_quiet (fail)
            go_wp2
            go_roundw
            case rel => exact ⟨k + 1, by omega, by go_num, HS.out, HD.out.add _⟩
            case measure => simp [intOf]; omega
          · have d2 : decide ((0 : Int) < (k : Int)) = true := by simp; omega
            have d2' : decide (0 < k) = true := by simp; omega
            obtain ⟨j, hj⟩ : ∃ j, k = j + 1 := ⟨k - 1, by omega⟩
            obtain ⟨b', o', y, hA, hb', hy, hy64, hcy⟩ := (h.below (HD.out.below B)).get (k := j) (by omega)
            injection hA with hA
            injection hA with hA1 hA2
            subst hA1
            subst hA2
            have hj2 : IntKind.i64.wrap ((k : Int) - 1) = (j : Int) := by rw [show (k : Int) - 1 = (j : Int) from by omega]; exact IntWalk.i64_in _ (by omega)
            have hjn : j < n := by omega
            have HJ := Lib.hid hj
            have HH := Lib.hid h
            have hyk : Hid (xs.getD (k - 1) 0 = y) := Lib.hid (by rw [show k - 1 = j from by omega]; exact hy.out)
            by_cases hyz : z ≤ y
            · have d3 : decide (z ≤ y) = true := by simp [hyz]
              have HN := Lib.hid (not_rises (n := x) hkl.out hz.out (by rw [hyk.out]; omega))
              clear h hj hk0
              go_wp2
              go_quiet (fail)
              go_wp2
              go_ret
              exact ⟨ret_bool (decide_eq_false HN.out).symm, HD.out.add _⟩
            · have d3 : decide (z ≤ y) = false := by simp; omega
              have HS := Lib.hid ((rises_snoc (n := x) hkl.out hz.out).2 ⟨HR.out, by omega, .inr (by rw [hyk.out]; omega)⟩)
              clear h hj hk0
              go_wp2
              go_quiet (fail)
              go_wp2
              go_roundw
              case rel => exact ⟨k + 1, by omega, by go_num, HS.out, HD.out.add _⟩
              case measure => simp [intOf]; omega
    · obtain rfl : k = n := by omega
      go_wp2
      go_ret
      exact ⟨ret_bool (decide_eq_true (by have := HR.out; rwa [List.take_of_length_le (Nat.le_of_eq HL.out)] at this)).symm, HD.out⟩

set_option maxHeartbeats 1000000 in
theorem rising_any (w : World) (B : Nat) (A : Option Addr) (n c : Nat) (xs : List Int) (x : Int) (h : IS w B A n c xs) :
    Calls Try.prog 84 #[.slice A n c, .int .i64 x] w fun e w' => e = .returned (.bool (decide (Rises xs x))) ∧ w = w' := by
  have hn := h.le
  have hc := h.cap
  have HL := Lib.hid h.len
  go_enter Try.func84, Try.ntmps84
  go_wp2
  go_loop [9] (fun i => ∃ k : Nat, k ≤ n ∧ i = .int .i64 k ∧ Rises (xs.take k) x) (fun i => n - (intOf i).toNat)
  case atStart => exact ⟨0, Nat.zero_le _, rfl, ⟨by simp, by simp⟩⟩
  case round =>
    obtain ⟨k, hk, rfl, hr⟩ := hrel
    have HR := Lib.hid hr
    clear hr
    by_cases hlt : k < n
    · obtain ⟨b, o, z, rfl, hb, hz, hz64, hcx⟩ := h.get hlt
      have hkl : Hid (k < xs.length) := Lib.hid (by rw [HL.out]; exact hlt)
      by_cases h0 : z < 0
      · have HH := Lib.hid h
        have HN := Lib.hid (not_rises (n := x) hkl.out hz.out (by omega))
        clear h
        go_wp2
        go_ret
        exact ⟨ret_bool (decide_eq_false HN.out).symm, rfl⟩
      · by_cases h1 : x ≤ z
        · have HH := Lib.hid h
          have HN := Lib.hid (not_rises (n := x) hkl.out hz.out (by omega))
          clear h
          go_wp2
          go_ret
          exact ⟨ret_bool (decide_eq_false HN.out).symm, rfl⟩
        · by_cases hk0 : k = 0
          · have d2 : decide ((0 : Int) < (k : Int)) = false := by simp [hk0]
            have d2' : decide (0 < k) = false := by simp [hk0]
            have hk1 : ¬ 0 < k := by omega
            have HS := Lib.hid ((rises_snoc (n := x) hkl.out hz.out).2 ⟨HR.out, by omega, .inl hk0⟩)
            have HH := Lib.hid h
            clear h hk0
            go_wp2
            go_round
            case rel => exact ⟨k + 1, by omega, by go_num, HS.out⟩
            case measure => simp [intOf]; omega
          · obtain ⟨j, rfl⟩ : ∃ j, k = j + 1 := ⟨k - 1, by omega⟩
            obtain ⟨b', o', y, hA, hb', hy, hy64, hcy⟩ := h.get (k := j) (by omega)
            injection hA with hA
            injection hA with hA1 hA2
            subst hA1
            subst hA2
            have HH := Lib.hid h
            have hyk : Hid (xs.getD (j + 1 - 1) 0 = y) := hy
            by_cases hyz : z ≤ y
            · have HN := Lib.hid (not_rises (n := x) hkl.out hz.out (by rw [hyk.out]; omega))
              clear h hk0
              go_wp2
              go_ret
              exact ⟨ret_bool (decide_eq_false HN.out).symm, rfl⟩
            · have HS := Lib.hid ((rises_snoc (n := x) hkl.out hz.out).2 ⟨HR.out, by omega, .inr (by rw [hyk.out]; omega)⟩)
              clear h hk0
              go_wp2
              go_round
              case rel => exact ⟨j + 2, by omega, by go_num, HS.out⟩
              case measure => simp [intOf]; omega
    · obtain rfl : k = n := by omega
      go_wp2
      go_ret
      exact ⟨ret_bool (decide_eq_true (by have := HR.out; rwa [List.take_of_length_le (Nat.le_of_eq HL.out)] at this)).symm, rfl⟩

end Go.Proofs.Ythobfbnopkbniaa
