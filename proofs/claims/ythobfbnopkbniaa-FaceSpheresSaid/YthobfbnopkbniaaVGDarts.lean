/-
  The contract of traceryref04.Darts, for a part whose edges are the graph's; no other conditions.
-/
import Derived.Test.YthobfbnopkbniaaFaceD
namespace Go.Proofs.Ythobfbnopkbniaa
open Go.RowKit

/-- What the inner loop has put in after j rounds. -/
def dpart (es : List (Int × Int)) (v z : Int) : Nat → List Int
  | 0 => []
  | 1 => if tail es (2 * z) = v then [2 * z] else []
  | _ => (if tail es (2 * z) = v then [2 * z] else []) ++ (if tail es (2 * z + 1) = v then [2 * z + 1] else [])
theorem dpart_len (es : List (Int × Int)) (v z : Int) (j : Nat) : (dpart es v z j).length ≤ 2 := by
  have h1 : ∀ (p : Prop) [Decidable p] (x : Int), (if p then [x] else []).length ≤ 1 := fun p _ x => by split <;> simp
  match j with
  | 0 => simp [dpart]
  | 1 => exact Nat.le_trans (h1 _ _) (by omega)
  | j + 2 =>
    show ((if tail es (2 * z) = v then [2 * z] else []) ++ (if tail es (2 * z + 1) = v then [2 * z + 1] else [])).length ≤ 2
    rw [List.length_append]
    have := h1 (tail es (2 * z) = v) (2 * z)
    have := h1 (tail es (2 * z + 1) = v) (2 * z + 1)
    omega
theorem dpart_step (es : List (Int × Int)) (v z : Int) {j : Nat} (hj : j < 2) : dpart es v z (j + 1) = dpart es v z j ++ if tail es (2 * z + j) = v then [2 * z + j] else [] := by
  match j, hj with
  | 0, _ => simp [dpart]
  | 1, _ => rfl
theorem dartsOf_step (es : List (Int × Int)) (v : Int) {xs : List Int} {k : Nat} {z : Int} (hk : k < xs.length) (hz : xs.getD k 0 = z) :
    dartsOf es v (xs.take (k + 1)) = dartsOf es v (xs.take k) ++ dpart es v z 2 := by
  rw [take_getD hk hz, dartsOf_append]
  simp [dartsOf, dpart]

set_option maxHeartbeats 4000000 in
set_option maxRecDepth 100000 in
theorem refDarts_any (w : World) (N : Int) (A : Option Addr) (m c : Nat) (es : List (Int × Int)) (Av : Option Addr) (nv cv : Nat) (vs : List Int) (Ae : Option Addr) (ne ce : Nat) (xs : List Int) (u : Int) (h : GP w N A m c es Av nv cv vs Ae ne ce xs) (hm : m ≤ 1024) (hne : ne ≤ 1024) (hx : ∀ x ∈ xs, 0 ≤ x ∧ x < m) :
    Calls Try.prog 31 #[.agg #[.int .i64 N, .slice A m c], .agg #[.slice Av nv cv, .slice Ae ne ce], .int .i64 u] w (NewIS w (dartsOf es u xs)) := by
  have hce := h.e.cap
  have hnce := h.e.le
  have HLE := Lib.hid h.e.len
  obtain ⟨w1, hw1, b1, gb1⟩ := box_gp w N A m c es Av nv cv Ae ne ce
  have h1 := h.step b1
  have ⟨_, _, c0, c1, c2, c3, _⟩ := gb1
  go_enter Try.func31, Try.ntmps31
  go_wp2
  clear hw1 h c0 c1 c2 c3
  go_loopw [7, 8] (fun v i wr => ∃ k : Nat, k ≤ ne ∧ i = .int .i64 k ∧ Own w1 wr v (dartsOf es u (xs.take k))) (fun _ i _ => ne - (intOf i).toNat)
  case atStart => exact ⟨0, Nat.zero_le _, rfl, Own.start w1⟩
  case round =>
    obtain ⟨k, hk, rfl, hown⟩ := hrel
    have gb2 := gb1.step hown.below
    have ⟨_, _, c0, c1, c2, c3, _⟩ := gb2
    by_cases hlt : k < ne
    · have hkl : Hid (k < xs.length) := Lib.hid (by rw [HLE.out]; exact hlt)
      obtain ⟨b, o, z, hA, hb, hz, hz64, hcz⟩ := h1.e.get hlt
      subst hA
      have hzr := hx z (hz.out ▸ h1.e.mem hlt)
      obtain ⟨q, rfl⟩ := Int.eq_ofNat_of_zero_le hzr.1
      have hqm : q < m := by omega
      clear hzr
      have HX := Lib.hid hx
      have hdl := dartsOf_len es u (xs.take k)
      have hdk : (dartsOf es u (xs.take k)).length ≤ 2 * ne := by rw [List.length_take] at hdl; omega
      clear hx hdl
      go_wp2
      obtain ⟨wo, hwo⟩ : ∃ wo : World, wo = wr := ⟨_, rfl⟩
      rw [← hwo] at hown gb2 c0 c1 c2 c3 ⊢
      clear hwo
      clear c0 c1 c2 c3
      go_loopw [7, 9] (fun v s wi => ∃ j : Nat, j ≤ 2 ∧ s = .int .i64 j ∧ Own w1 wi v (dartsOf es u (xs.take k) ++ dpart es u q j)) (fun _ s _ => 2 - (intOf s).toNat)
      case atStart => exact ⟨0, by omega, rfl, by rw [dpart, List.append_nil]; exact hown⟩
      case round =>
        obtain ⟨j, hj, rfl, howi⟩ := hrel
        have hdj := dpart_len es u q j
        by_cases hj2 : j < 2
        · have gb3 := gb1.step howi.below
          have ⟨g1, g2, c0, c1, c2, c3, _⟩ := gb3
          have h3 := h1.step howi.below
          obtain ⟨b', o', z', hA, hb', hz', hz64', hcz'⟩ := h3.e.get hlt
          injection hA with hA
          injection hA with hA1 hA2
          subst hA1
          subst hA2
          have hzz : (q : Int) = z' := hz.out.symm.trans hz'.out
          subst hzz
          have hn := After.has wr
          have k0 := After.cell g1 c0
          have k1 := After.cell g1 c1
          have k2 := After.cell g2 c2
          have k3 := After.cell g2 c3
          have k4 := After.cell hb' hcz'
          have w2q : IntKind.i64.wrap (2 * (q : Int)) = 2 * (q : Int) := IntWalk.i64_in _ (by omega)
          have w2j : IntKind.i64.wrap (2 * (q : Int) + (j : Int)) = 2 * (q : Int) + (j : Int) := IntWalk.i64_in _ (by omega)
          have HT : ∀ x : After wr, Hid (Calls Try.prog 30 #[.agg #[.int .i64 N, .slice A m c], .int .i64 (2 * (q : Int) + (j : Int))] x.at_ fun e w' => e = .returned (.int .i64 (tail es (2 * (q : Int) + (j : Int)))) ∧ Below x.at_.heap.size x.at_ w') := fun x =>
            Lib.hid (refTail_any _ _ N A m c es _ (h3.g.step x.below) (Nat.le_refl _) (by omega) (by omega))
          have HSt := Lib.hid (dpart_step es u q hj2)
          obtain ⟨t, ht⟩ : ∃ t, tail es (2 * (q : Int) + (j : Int)) = t := ⟨_, rfl⟩
          rw [ht] at HSt
          have HT2 : ∀ x : After wr, Hid (Calls Try.prog 30 #[.agg #[.int .i64 N, .slice A m c], .int .i64 (2 * (q : Int) + (j : Int))] x.at_ fun e w' => e = .returned (.int .i64 t) ∧ Below x.at_.heap.size x.at_ w') := fun x => by rw [← ht]; exact HT x
          have H1 := Lib.hid h1
          have G1 := Lib.hid gb1
          have H3 := Lib.hid h3
          clear HT ht h1 gb1 h3
          by_cases htu : t = u
          · have htb : (t == u) = true := by simp [htu]
            have HTU := Lib.hid htu
            clear htu
            go_wp2
            refine wp_region_after (by kernel_rfl) (by kernel_rfl) ?_
            repeat (go_big_quiet_step ((go_at_call 30; exact After.call (HT2 _).out)))
            refine wpQuiet_nil ?_
            intro _ hw'
            obtain ⟨x, rfl⟩ := hw'
            have hox := howi.later x.below
            obtain ⟨c1', c2', c3', c4', c5', c6', _⟩ := gb3.step x.below
            have hcx := k4 x
            obtain ⟨wx, hwx⟩ : ∃ wx, x.at_ = wx := ⟨_, rfl⟩
            rw [hwx] at hox c3' c4' c5' c6' hcx ⊢
            clear k0 k1 k2 k3 k4 HT2 hwx c0 c1 c2 c3 hcz hcz'
            have hz64' : I64 (2 * (q : Int) + (j : Int)) := ⟨by omega, by omega⟩
            go_wp2_with (at_builtin; go_must (refine wpList_append_one rfl _ _ rfl rfl hox _ hz64' rfl (by rw [List.length_append]; omega) ?_; intro v' w2 hown' _ _))
            go_roundw
            case rel => exact ⟨j + 1, by omega, by go_num, by rw [HSt.out, if_pos HTU.out, ← List.append_assoc]; exact hown'⟩
            case measure => simp [intOf]; omega
          · have htb : (t == u) = false := by simp [htu]
            have HTU := Lib.hid htu
            clear htu
            go_wp2
            refine wp_region_after (by kernel_rfl) (by kernel_rfl) ?_
            repeat (go_big_quiet_step ((go_at_call 30; exact After.call (HT2 _).out)))
            refine wpQuiet_nil ?_
            intro _ hw'
            obtain ⟨x, rfl⟩ := hw'
            have hox := howi.later x.below
            go_wp2
            go_roundw
            case rel => exact ⟨j + 1, by omega, by go_num, by rw [HSt.out, if_neg HTU.out, List.append_nil]; exact hox⟩
            case measure => simp [intOf]; omega
        · obtain rfl : j = 2 := by omega
          go_wp2
          go_roundw
          case rel => exact ⟨k + 1, by omega, by go_num, by rw [dartsOf_step es u hkl.out hz.out]; exact howi⟩
          case measure => simp [intOf]; omega
    · obtain rfl : k = ne := by omega
      go_wp2
      go_ret
      obtain ⟨A2, n2, c2', rfl, his⟩ := hown.is
      rw [List.take_of_length_le (Nat.le_of_eq HLE.out)] at his
      exact ⟨_, _, _, rfl, his, bstep b1 hown.below⟩

end Go.Proofs.Ythobfbnopkbniaa
