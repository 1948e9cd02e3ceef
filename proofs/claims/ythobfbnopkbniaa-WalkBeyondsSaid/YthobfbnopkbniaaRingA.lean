/-
  The contracts of package ring's functions that make lists: turned; no conditions.
-/
import Derived.Test.YthobfbnopkbniaaMem
import Derived.Test.YthobfbnopkbniaaPlain
import Derived.Deep.DeepMust
namespace Go.Proofs.Ythobfbnopkbniaa
open Go.RowKit

/-- The call hands back a list in new memory. -/
def NewIS (w : World) (ys : List Int) (e : Ending) (w' : World) : Prop :=
  ∃ A n c, e = .returned (.slice A n c) ∧ IS w' w'.heap.size A n c ys ∧ Below w.heap.size w w'
/-- .. whose cells are in new blocks. -/
def NewRow (w : World) (ys : List Int) (e : Ending) (w' : World) : Prop :=
  ∃ A n c, e = .returned (.slice A n c) ∧ IS w' w'.heap.size A n c ys ∧ Below w.heap.size w w' ∧ ∀ a, A = some a → w.heap.size ≤ a.block
theorem NewRow.is {w : World} {ys : List Int} {e : Ending} {w' : World} (h : NewRow w ys e w') : NewIS w ys e w' := by
  obtain ⟨A, n, c, h1, h2, h3, _⟩ := h
  exact ⟨A, n, c, h1, h2, h3⟩
/-- The call hands back a list in new memory, and a bool. -/
def NewIS2 (w : World) (ys : List Int) (ok : Bool) (e : Ending) (w' : World) : Prop :=
  ∃ A n c, e = .returned (.tuple #[.slice A n c, .bool ok]) ∧ IS w' w'.heap.size A n c ys ∧ Below w.heap.size w w'

set_option maxHeartbeats 400000 in
theorem turned_new (w : World) (A : Option Addr) (n c : Nat) (xs : List Int) (k : Nat) (h : IS w w.heap.size A n c xs) (hk : k ≤ n) (hs : n ≤ 1000000) :
    Calls Try.prog 91 #[.slice A n c, .int .i64 k] w (NewRow w (turn xs k)) := by
  have hn := h.le
  have hc := h.cap
  have hlx : xs.length ≤ n := Nat.le_of_eq h.len
  go_enter Try.func91, Try.ntmps91
  go_wp2_with (first
    | (at_make; refine wpList_make_is (w0 := w) rfl _ _ rfl (Below.refl _ _) _ _ _ n rfl rfl rfl (by omega) ?_; intro v1 w1 ho1 _ _; have h1 := h.below ho1.below)
    | (with_reducible show wpList _ _ _ (Oper.mk (some 12) _ _ _ _ _ :: _) _ _; go_must (refine wpList_cut_lo rfl _ _ rfl rfl h1 _ rfl (by omega) (by omega) ?_; intro A1 n1 c1 hs1; have hl1 := hs1.len; simp only [List.length_drop] at hl1))
    | (with_reducible show wpList _ _ _ (Oper.mk (some 13) _ _ _ _ _ :: _) _ _; go_must (refine wpList_append_is rfl _ _ rfl rfl ho1 rfl hs1 (by simp only [List.length_nil]; omega) ?_; intro v2 w2 ho2 _ _; have h2 := h.below ho2.below))
    | (with_reducible show wpList _ _ _ (Oper.mk (some 18) _ _ _ _ _ :: _) _ _; go_must (refine wpList_cut_hi_max rfl _ _ _ rfl rfl h2 _ _ rfl rfl (by omega) (by omega) (by omega) (by omega) ?_; intro A2 n2 c2 hs2; have hl2 := hs2.len; simp only [List.length_take] at hl2))
    | (with_reducible show wpList _ _ _ (Oper.mk (some 19) _ _ _ _ _ :: _) _ _; go_must (refine wpList_append_is rfl _ _ rfl rfl ho2 rfl hs2 (by simp only [List.nil_append, List.length_drop]; omega) ?_; intro v3 w3 ho3 _ _)))
  go_ret
  simp only [List.nil_append, Int.toNat_natCast] at ho3
  obtain ⟨A, n', c, rfl, his, hnew⟩ := ho3.isNew
  exact ⟨_, _, _, rfl, his, ho3.below, hnew⟩
theorem turned_any (w : World) (A : Option Addr) (n c : Nat) (xs : List Int) (k : Nat) (h : IS w w.heap.size A n c xs) (hk : k ≤ n) (hs : n ≤ 1000000) :
    Calls Try.prog 91 #[.slice A n c, .int .i64 k] w (NewIS w (turn xs k)) := (turned_new w A n c xs k h hk hs).mono fun _ _ h => h.is

set_option maxHeartbeats 400000 in
theorem first_new (w : World) (A : Option Addr) (n c : Nat) (xs : List Int) (h : IS w w.heap.size A n c xs) (hs : n ≤ 1000000) :
    Calls Try.prog 85 #[.slice A n c] w (NewRow w (first xs)) := by
  have hn := h.le
  have hc := h.cap
  go_enter Try.func85, Try.ntmps85
  go_wp2
  go_loop [3, 8] (fun l i => ∃ k : Nat, k ≤ n ∧ i = .int .i64 k ∧ l = .int .i64 (least xs k)) (fun _ i => n - (intOf i).toNat)
  case atStart => exact ⟨0, Nat.zero_le _, rfl, rfl⟩
  case round =>
    obtain ⟨k, hk, rfl, rfl⟩ := hrel
    by_cases hlt : k < n
    · obtain ⟨b, o, rfl, hb, hcell⟩ := h.at_ (by omega)
      have hq1 : least xs k < n := least_lt xs hlt
      have hstep : Hid (least xs (k + 1) = if xs.getD k 0 < xs.getD (least xs k) 0 then k else least xs k) := Lib.hid rfl
      obtain ⟨q, hq⟩ : ∃ q, least xs k = q := ⟨_, rfl⟩
      rw [hq] at hstep hq1 ⊢
      have HQ := Lib.hid hq
      have hcx : w.cell? ⟨b, o + k, none⟩ = some (.int .i64 (xs.getD k 0)) := hcell k hlt
      have hcq : w.cell? ⟨b, o + q, none⟩ = some (.int .i64 (xs.getD q 0)) := hcell q hq1
      have HH := Lib.hid h
      clear hcell h hq
      go_wp2
      · have he : xs[k]?.getD 0 < xs[q]?.getD 0 := by assumption
        go_round
        case rel => exact ⟨k + 1, by omega, by go_num, by rw [hstep.out, if_pos (by rw [List.getD_eq_getElem?_getD, List.getD_eq_getElem?_getD]; exact he)]⟩
        case measure => simp [intOf]; omega
      · have he : xs[q]?.getD 0 ≤ xs[k]?.getD 0 := by assumption
        go_round
        case rel => exact ⟨k + 1, by omega, by go_num, by rw [hstep.out, if_neg (by rw [List.getD_eq_getElem?_getD, List.getD_eq_getElem?_getD]; omega)]⟩
        case measure => simp [intOf]; omega
    · obtain rfl : k = n := by omega
      have hq1 := least_le xs k
      have hr : Hid (first xs = turn xs (least xs k)) := by rw [← h.len]; exact Lib.hid rfl
      go_wp2_with fail
      refine (turned_new w A k c xs (least xs k) h hq1 hs).mono ?_
      rintro e w' ⟨A1, n1, c1, rfl, his, hbl, hnew⟩
      go_wp2
      go_ret
      exact ⟨A1, n1, c1, rfl, hr.out ▸ his, hbl, hnew⟩
theorem first_any (w : World) (A : Option Addr) (n c : Nat) (xs : List Int) (h : IS w w.heap.size A n c xs) (hs : n ≤ 1000000) :
    Calls Try.prog 85 #[.slice A n c] w (NewIS w (first xs)) := (first_new w A n c xs h hs).mono fun _ _ h => h.is

end Go.Proofs.Ythobfbnopkbniaa
