/-
  The contracts of the reference's Labels, of the law's even and all, of ring.Keep, ring.Order, ring.Same; no conditions.
-/
import Derived.Test.YtencmkjalecmbaaRingD
namespace Go.Proofs.Ytencmkjalecmbaa
open Go.RowKit

def evenB (x : Int) : Bool := x.tmod 2 == 0

theorem even_any (w : World) (x : Int) : Calls Try.prog 17 #[.int .i64 x] w fun e w' => e = .returned (.bool (evenB x)) ∧ w = w' := by
  go_enter Try.func17, Try.ntmps17
  go_wp2
  go_ret
  exact ⟨rfl, rfl⟩
theorem all_any (w : World) (v : Value) : Calls Try.prog 20 #[v] w fun e w' => e = .returned (.bool true) ∧ w = w' := by
  go_enter Try.func20, Try.ntmps20
  go_wp2
  go_ret
  exact ⟨rfl, rfl⟩

theorem eql_nilFunc (w : World) (f : FuncId) : (binOp .eql 33 (.func (.func f) #[] #[]) .nilFunc).run Try.prog w = .ok (.bool false) w := by
  have h : ∀ d : Nat, (Op.equalIn (d + 1) 33 (.func (.func f) #[] #[]) .nilFunc).run Try.prog w = .ok false w := fun d => by
    simp [Op.equalIn, run_underlying Try.underlying33]
  simp only [binOp]
  simp [Op.equal, Op.maxDepth, h 9999]

set_option maxHeartbeats 400000 in
theorem keep_even (w : World) (A : Option Addr) (n c : Nat) (xs : List Int) (h : IS w w.heap.size A n c xs) (hs : n ≤ 1000000) :
    Calls Try.prog 16 #[.slice A n c, .func (.func 17) #[] #[]] w (NewIS w (xs.filter evenB)) := by
  have hn := h.le
  have hc := h.cap
  have HL := Lib.hid h.len
  have hnf := eql_nilFunc
  go_enter Try.func16, Try.ntmps16
  go_wp2
  clear hnf
  go_loopw [5, 12] (fun v i wr => ∃ k : Nat, k ≤ n ∧ i = .int .i64 k ∧ Own w wr v ((xs.take k).filter evenB)) (fun _ i _ => n - (intOf i).toNat)
  case atStart => exact ⟨0, Nat.zero_le _, rfl, Own.start w⟩
  case round =>
    obtain ⟨k, hk, rfl, hown⟩ := hrel
    have hlen : ((xs.take k).filter evenB).length ≤ n := by have := List.length_filter_le evenB (xs.take k); rw [List.length_take] at this; omega
    by_cases hlt : k < n
    · obtain ⟨b, o, z, rfl, hb, hz, hz64, hcx⟩ := (h.below hown.below).get hlt
      have HH := Lib.hid h
      clear h
      have hkl : k < xs.length := by rw [HL.out]; exact hlt
      cases he : evenB z with
      | true =>
        have HE := Lib.hid he
        clear he
        go_wp2_with (first
          | (go_at_call 17; refine (even_any _ z).mono ?_; rintro e w' ⟨rfl, rfl⟩; rw [HE.out])
          | (at_builtin; go_must (refine wpList_append_one rfl _ _ rfl rfl hown z hz64 rfl (by omega) ?_; intro v' w2 hown' _ _)))
        go_roundw
        case rel => exact ⟨k + 1, by omega, by go_num, by rw [take_getD hkl hz.out, List.filter_append, List.filter_cons, HE.out]; exact hown'⟩
        case measure => simp [intOf]; omega
      | false =>
        have HE := Lib.hid he
        clear he
        go_wp2_with (go_at_call 17; refine (even_any _ z).mono ?_; rintro e w' ⟨rfl, rfl⟩; rw [HE.out])
        go_roundw
        case rel => exact ⟨k + 1, by omega, by go_num, by rw [take_getD hkl hz.out, List.filter_append, List.filter_cons, HE.out]; simpa using hown⟩
        case measure => simp [intOf]; omega
    · obtain rfl : k = n := by omega
      go_wp2
      go_ret
      obtain ⟨A2, n2, c2, rfl, his⟩ := hown.is
      rw [List.take_of_length_le (Nat.le_of_eq HL.out)] at his
      exact ⟨_, _, _, rfl, his, hown.below⟩

set_option maxHeartbeats 400000 in
theorem keep_all (w : World) (A : Option Addr) (n c : Nat) (xs : List Int) (h : IS w w.heap.size A n c xs) (hs : n ≤ 1000000) :
    Calls Try.prog 16 #[.slice A n c, .func (.func 20) #[] #[]] w (NewIS w xs) := by
  have hn := h.le
  have hc := h.cap
  have HL := Lib.hid h.len
  have hnf := eql_nilFunc
  go_enter Try.func16, Try.ntmps16
  go_wp2
  clear hnf
  go_loopw [5, 12] (fun v i wr => ∃ k : Nat, k ≤ n ∧ i = .int .i64 k ∧ Own w wr v (xs.take k)) (fun _ i _ => n - (intOf i).toNat)
  case atStart => exact ⟨0, Nat.zero_le _, rfl, Own.start w⟩
  case round =>
    obtain ⟨k, hk, rfl, hown⟩ := hrel
    have hlen : (xs.take k).length ≤ n := by rw [List.length_take]; omega
    by_cases hlt : k < n
    · obtain ⟨b, o, z, rfl, hb, hz, hz64, hcx⟩ := (h.below hown.below).get hlt
      have HH := Lib.hid h
      clear h
      have hkl : k < xs.length := by rw [HL.out]; exact hlt
      go_wp2_with (first
        | (go_at_call 20; refine (all_any _ _).mono ?_; rintro e w' ⟨rfl, rfl⟩)
        | (at_builtin; go_must (refine wpList_append_one rfl _ _ rfl rfl hown z hz64 rfl (by omega) ?_; intro v' w2 hown' _ _)))
      go_roundw
      case rel => exact ⟨k + 1, by omega, by go_num, by rw [take_getD hkl hz.out]; exact hown'⟩
      case measure => simp [intOf]; omega
    · obtain rfl : k = n := by omega
      go_wp2
      go_ret
      obtain ⟨A2, n2, c2, rfl, his⟩ := hown.is
      rw [List.take_of_length_le (Nat.le_of_eq HL.out)] at his
      exact ⟨_, _, _, rfl, his, hown.below⟩

set_option maxHeartbeats 400000 in
theorem order_yes (w : World) (A : Option Addr) (n c : Nat) (xs : List Int) (x y z : Int) (k i j : Nat) (h : IS w w.heap.size A n c xs) (hs : n ≤ 1000000)
    (h1 : (x == y) = false) (h2 : (y == z) = false) (h3 : (x == z) = false) (hk : k < n) (hx : fnd xs x = k) (hy : fnd (turn xs k) y = i) (hz : fnd (turn xs k) z = j) (hi : 0 < i) (hij : i < j) :
    Calls Try.prog 25 #[.slice A n c, .int .i64 x, .int .i64 y, .int .i64 z] w fun e w' => e = .returned (.bool true) ∧ Below w.heap.size w w' := by
  have HX := Lib.hid hx
  have HY := Lib.hid hy
  have HZ := Lib.hid hz
  clear hx hy hz
  go_enter Try.func25, Try.ntmps25
  go_wp2_with fail
  refine (from_yes w A n c xs x k h hk HX.out hs).mono ?_
  rintro e w' ⟨A1, n1, c1, rfl, his, hbl⟩
  go_wp2_with fail
  refine (index_any w' _ A1 n1 c1 _ y his).mono ?_
  rintro e w'' ⟨rfl, rfl⟩
  rw [HY.out]
  go_wp2_with fail
  refine (index_any w' _ A1 n1 c1 _ z his).mono ?_
  rintro e w'' ⟨rfl, rfl⟩
  rw [HZ.out]
  go_wp2
  go_ret
  exact ⟨rfl, hbl⟩

end Go.Proofs.Ytencmkjalecmbaa
