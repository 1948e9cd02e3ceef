/-
  The contract of tracerylaw06.Small; no conditions on the program.
-/
import Derived.Test.YthobfbnopkbniaaRWhole
import Derived.Test.YthobfbnopkbniaaGTail
namespace Go.Proofs.Ythobfbnopkbniaa
open Go.RowKit

/-- Of a size that is looked at. -/
def Small6 (N : Int) (m nv ne : Nat) (tt : List (List Int)) : Prop := Small N m nv ne ∧ tt.length ≤ 100 ∧ ∀ t ∈ tt, t.length ≤ 200

set_option maxHeartbeats 4000000 in
set_option maxRecDepth 100000 in
theorem small6_any (w : World) (N : Int) (A : Option Addr) (m c : Nat) (es : List (Int × Int)) (Av : Option Addr) (nv cv : Nat) (vs : List Int) (Ae : Option Addr) (ne ce : Nat) (xs : List Int) (At : Option Addr) (nt ct : Nat) (tt : List (List Int)) (h : GP w N A m c es Av nv cv vs Ae ne ce xs) (ht : TS w w.heap.size At nt ct tt) :
    Calls Try.prog 18 #[.agg #[.int .i64 N, .slice A m c], .agg #[.slice Av nv cv, .slice Ae ne ce], .slice At nt ct] w fun e w' => ((Small6 N m nv ne tt ∧ e = .returned (.int .i64 1)) ∨ (¬ Small6 N m nv ne tt ∧ e = .returned (.int .i64 0))) ∧ Below w.heap.size w w' := by
  have hn := ht.le
  have hc := ht.cap
  have HL := Lib.hid ht.len
  obtain ⟨w1, hw1, b1, gb1⟩ := box_gp w N A m c es Av nv cv Ae ne ce
  have h1 := h.step b1
  have t1 := ht.step b1
  have ⟨_, _, c0, c1, c2, c3, _⟩ := gb1
  clear h ht
  by_cases hs : Small N m nv ne
  · have HS := Lib.hid hs
    clear hs
    by_cases hl : 100 < nt
    · have HNo : Hid (¬ Small6 N m nv ne tt) := Lib.hid fun hh => by have := hh.2.1; rw [HL.out] at this; omega
      have d : (decide ((100 : Int) < (nt : Int))) = true := by simp; omega
      go_enter Try.func18, Try.ntmps18
      go_wp2_with fail
      refine (small_yes w1 N A m c es Av nv cv vs Ae ne ce xs h1 HS.out).mono ?_
      rintro e w2 ⟨rfl, b2⟩
      go_wp2
      go_ret
      exact ⟨.inr ⟨HNo.out, rfl⟩, bstep b1 b2⟩
    · have d : (decide ((100 : Int) < (nt : Int))) = false := by simp; omega
      go_enter Try.func18, Try.ntmps18
      go_wp2_with fail
      refine (small_yes w1 N A m c es Av nv cv vs Ae ne ce xs h1 HS.out).mono ?_
      rintro e w2 ⟨rfl, b2⟩
      have t2 := t1.step b2
      have B2 := Lib.hid (bstep b1 b2)
      clear hw1 h1 t1 c0 c1 c2 c3 gb1 b1 b2
      go_wp2
      go_loop [7] (fun i => ∃ k : Nat, k ≤ nt ∧ i = .int .i64 k ∧ Hid (∀ j, j < k → (tt.getD j []).length ≤ 200)) (fun i => nt - (intOf i).toNat)
      case atStart => exact ⟨0, Nat.zero_le _, rfl, Lib.hid fun j hj => absurd hj (by omega)⟩
      case round =>
        obtain ⟨k, hk, rfl, hok⟩ := hrel
        by_cases hlt : k < nt
        · obtain ⟨b, o, t, A3, n3, c3, hA, hb, htk, hcc, ist⟩ := t2.get hlt
          subst hA
          have hkl : Hid (k < tt.length) := Lib.hid (by rw [HL.out]; exact hlt)
          have hlen := ist.len
          have HTK : Hid ((tt.getD k []).length = n3) := Lib.hid (by rw [htk.out]; exact hlen)
          clear ist hlen
          by_cases h2 : 200 < n3
          · have HNo : Hid (¬ Small6 N m nv ne tt) := Lib.hid fun hh => by have := hh.2.2 _ (getD_mem hkl.out); rw [HTK.out] at this; omega
            have d2 : (decide ((200 : Int) < (n3 : Int))) = true := by simp; omega
            go_wp2
            go_ret
            exact ⟨.inr ⟨HNo.out, rfl⟩, B2.out⟩
          · have d2 : (decide ((200 : Int) < (n3 : Int))) = false := by simp; omega
            go_wp2
            go_round
            case rel => exact ⟨k + 1, by omega, by go_num, Lib.hid fun j hj => by
              rcases Nat.lt_or_ge j k with h3 | h3
              · exact hok.out j h3
              · obtain rfl : j = k := by omega
                rw [HTK.out]; omega⟩
            case measure => simp [intOf]; omega
        · obtain rfl : k = nt := by omega
          have HYes : Hid (Small6 N m nv ne tt) := Lib.hid ⟨HS.out, by rw [HL.out]; omega, fun t htm => by
            obtain ⟨j, hj, rfl⟩ := List.getElem_of_mem htm
            have := hok.out j (by rw [← HL.out]; exact hj)
            rw [List.getD_eq_getElem?_getD, List.getElem?_eq_getElem hj] at this
            exact this⟩
          go_wp2
          go_ret
          exact ⟨.inl ⟨HYes.out, rfl⟩, B2.out⟩
  · have HNo : Hid (¬ Small6 N m nv ne tt) := Lib.hid fun hh => hs hh.1
    have HS := Lib.hid hs
    clear hs
    go_enter Try.func18, Try.ntmps18
    go_wp2_with fail
    refine (small_no w1 N A m c es Av nv cv vs Ae ne ce xs h1 HS.out).mono ?_
    rintro e w2 ⟨rfl, b2⟩
    go_wp2
    go_ret
    exact ⟨.inr ⟨HNo.out, rfl⟩, bstep b1 b2⟩
end Go.Proofs.Ythobfbnopkbniaa
