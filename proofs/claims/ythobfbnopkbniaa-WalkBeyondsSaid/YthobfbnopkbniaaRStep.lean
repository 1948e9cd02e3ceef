/-
  The contracts of rota's steps: beside, After, Before, Next, Back; nil turns have none. No conditions on the program.
-/
import Derived.Test.YthobfbnopkbniaaRNew
namespace Go.Proofs.Ythobfbnopkbniaa
open Go.RowKit

set_option maxHeartbeats 2000000 in
set_option maxRecDepth 100000 in
theorem beside_nil (w : World) (d s : Int) :
    Calls Try.prog 64 #[.pointer none, .int .i64 d, .int .i64 s] w fun e w' => e = .returned (.tuple #[.int .i64 0, .bool false]) ∧ w = w' := by
  go_enter Try.func64, Try.ntmps64
  go_wp2
  go_ret2
  exact ⟨rfl, rfl⟩

set_option maxHeartbeats 2000000 in
set_option maxRecDepth 100000 in
theorem beside_no (w : World) (r : Nat) (lv : Int → Option Int) (tt : List (List Int)) (pl : Int → Option Int) (ds : List Int) (h : RS w r lv tt pl ds) (d s : Int) (hd : I64 d) (hl : lv d = none) :
    Calls Try.prog 64 #[.pointer (some ⟨r, 0, none⟩), .int .i64 d, .int .i64 s] w fun e w' => e = .returned (.tuple #[.int .i64 0, .bool false]) ∧ w = w' := by
  obtain ⟨At, nt, ct, lb, nl, pb, np, Ad, nd, cd, h0, c0, c1, c2, c3, h1, h2, h3, h4⟩ := h
  have HL1 := Lib.hid hl
  clear hl
  go_enter Try.func64, Try.ntmps64
  go_wp2_with (at_lookup; go_must (refine wpList_iok_none rfl _ _ rfl rfl h2 d rfl hd HL1.out ?_))
  go_ret2
  exact ⟨rfl, rfl⟩

set_option maxHeartbeats 2000000 in
set_option maxRecDepth 100000 in
theorem beside_yes (w : World) (r : Nat) (lv : Int → Option Int) (tt : List (List Int)) (pl : Int → Option Int) (ds : List Int) (h : RS w r lv tt pl ds) (d s : Int) (hd : I64 d) (u p : Nat) (t : List Int)
    (hl : lv d = some (u : Int)) (hu : u < tt.length) (ht : tt.getD u [] = t) (hp : pl d = some (p : Int)) (hpt : p < t.length) (hs1 : -1 ≤ s) (hs2 : s ≤ 1) (hn : t.length ≤ 1000000) (m : Nat) (hm : (p : Int) + s + t.length = m) :
    Calls Try.prog 64 #[.pointer (some ⟨r, 0, none⟩), .int .i64 d, .int .i64 s] w fun e w' => e = .returned (.tuple #[.int .i64 (t.getD (m % t.length) 0), .bool true]) ∧ w = w' := by
  obtain ⟨At, nt, ct, lb, nl, pb, np, Ad, nd, cd, h0, c0, c1, c2, c3, h1, h2, h3, h4⟩ := h
  have hnt := h1.le
  have hct := h1.cap
  have HL1 := Lib.hid hl
  have HP1 := Lib.hid (show (pl d).getD 0 = (p : Int) by rw [hp]; rfl)
  obtain ⟨b, o, t', A3, n3, c3', hA, hb, htk, hcc, ist⟩ := h1.get (show u < nt by have := h1.len; omega)
  subst hA
  have e : t' = t := htk.out.symm.trans ht
  subst e
  have hlen := ist.len
  have hl3 := ist.le
  have hc3 := ist.cap
  rw [hlen] at hpt hn hm ⊢
  have hun : u < nt := by have := h1.len; omega
  have hmm : m % n3 < n3 := Nat.mod_lt _ (by omega)
  obtain ⟨b2, o2, z, hA2, hb2, hz, hz64, hcz⟩ := ist.get hmm
  subst hA2
  clear hl ht hp hlen ist h1 h4 htk hu
  have hm0 : (0 : Int) ≤ (m : Int) % (n3 : Int) := Int.emod_nonneg _ (by omega)
  have hm1 : (m : Int) % (n3 : Int) < n3 := Int.emod_lt_of_pos _ (by omega)
  have hm2 : (0 : Int) ≤ (p : Int) + s + (n3 : Int) := by omega
  have w1 : IntKind.i64.wrap ((p : Int) + s) = (p : Int) + s := IntWalk.i64_in _ (by omega)
  go_enter Try.func64, Try.ntmps64
  go_wp2_with (first
    | (with_reducible show wpList _ _ _ (Oper.mk (some 19) _ _ _ _ _ :: _) _ _; go_must (refine wpList_iok_some rfl _ _ rfl rfl h2 d rfl hd _ HL1.out ?_))
    | (with_reducible show wpList _ _ _ (Oper.mk (some 37) _ _ _ _ _ :: _) _ _; go_must (refine wpList_ilook rfl _ _ rfl rfl h3 d rfl hd _ HP1.out ?_)))
  go_ret2
  rw [hz.out]
  exact ⟨rfl, rfl⟩

end Go.Proofs.Ythobfbnopkbniaa
