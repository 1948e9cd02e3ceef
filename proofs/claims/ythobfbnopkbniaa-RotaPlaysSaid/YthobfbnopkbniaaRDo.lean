/-
  The contracts of rota's steps over turns that are right, by the plain functions of steps. No conditions on the program.
-/
import Derived.Test.YthobfbnopkbniaaRLaw
import Derived.Test.YthobfbnopkbniaaRXor
namespace Go.Proofs.Ythobfbnopkbniaa
open Go.RowKit

/-- Turns of a part at block r. -/
def RT (w : World) (r : Nat) (es : List (Int × Int)) (xs : List Int) (tt : List (List Int)) : Prop := RS w r (lvOf es xs) (tt.map first) (placeN tt tt.length) (allDarts xs)
theorem RT.step {w w' : World} {r : Nat} {es : List (Int × Int)} {xs : List Int} {tt : List (List Int)} (h : RT w r es xs tt) (hb : Below w.heap.size w w') : RT w' r es xs tt := RS.step h hb

section
variable {w : World} {r : Nat} {es : List (Int × Int)} {xs : List Int} {tt : List (List Int)} {d : Int}
theorem t_beside_no (h : RT w r es xs tt) (s : Int) (hd : d / 2 ∉ xs) (h64 : I64 d) :
    Calls Try.prog 64 #[.pointer (some ⟨r, 0, none⟩), .int .i64 d, .int .i64 s] w fun e w' => e = .returned (.tuple #[.int .i64 0, .bool false]) ∧ w = w' :=
  beside_no w r _ _ _ _ h d s h64 (by unfold lvOf; rw [if_neg hd])
theorem t_after_no (h : RT w r es xs tt) (hd : d / 2 ∉ xs) (h64 : I64 d) : Calls Try.prog 20 #[.pointer (some ⟨r, 0, none⟩), .int .i64 d] w fun e w' => e = .returned (.tuple #[.int .i64 0, .bool false]) ∧ w = w' :=
  after_of w _ d _ _ (t_beside_no h 1 hd h64)
theorem t_before_no (h : RT w r es xs tt) (hd : d / 2 ∉ xs) (h64 : I64 d) : Calls Try.prog 21 #[.pointer (some ⟨r, 0, none⟩), .int .i64 d] w fun e w' => e = .returned (.tuple #[.int .i64 0, .bool false]) ∧ w = w' :=
  before_of w _ d _ _ (t_beside_no h (-1) hd h64)
theorem t_next_no (h : RT w r es xs tt) (hd : d / 2 ∉ xs) (h64 : I64 d) : Calls Try.prog 22 #[.pointer (some ⟨r, 0, none⟩), .int .i64 d] w fun e w' => e = .returned (.tuple #[.int .i64 0, .bool false]) ∧ w = w' :=
  next_of w _ d _ _ h64 (t_beside_no h (-1) (by rw [twin_half]; exact hd) (twin_i64 h64))
theorem t_back_no (h : RT w r es xs tt) (hd : d / 2 ∉ xs) (h64 : I64 d) : Calls Try.prog 23 #[.pointer (some ⟨r, 0, none⟩), .int .i64 d] w fun e w' => e = .returned (.tuple #[.int .i64 0, .bool false]) ∧ w = w' :=
  back_no w _ d (t_beside_no h 1 hd h64)
end
section
variable {w : World} {r : Nat} {N : Int} {es : List (Int × Int)} {vs xs : List Int} {tt : List (List Int)} {d : Int}
theorem t_beside_yes (h : RT w r es xs tt) (hp : POK N es vs xs) (hT : TurnOK N es xs tt) (s : Int) (hs1 : -1 ≤ s) (hs2 : s ≤ 1) (hd : d / 2 ∈ xs) :
    Calls Try.prog 64 #[.pointer (some ⟨r, 0, none⟩), .int .i64 d, .int .i64 s] w fun e w' => e = .returned (.tuple #[.int .i64 (stepOf es tt d s), .bool true]) ∧ w = w' := by
  obtain ⟨u, hu, hlt, ht, hm, hn, hpl, hlen⟩ := dart_facts hp hT hd
  obtain ⟨d0, d1⟩ := dart_i64 hp hd
  have hx : xs.length ≤ 1024 := by
    have := nodup_len (a := xs) (b := upto1 es.length) (sorted_nodup hp.xp) fun x hx => mem_upto1.2 (hp.xr x hx)
    rw [upto1_len] at this
    have := hp.size
    have := hp.n0
    omega
  have hpm := pos_mem hm
  exact beside_yes w r _ _ _ _ h d s ⟨by omega, by omega⟩ u (pos (turnOf es tt d) d) (turnOf es tt d) (by unfold lvOf; rw [if_pos hd, hu]) (by rw [List.length_map]; exact hlt)
    (by rw [ht, List.getD_eq_getElem?_getD, List.getElem?_map, List.getElem?_eq_getElem hlt, List.getD_eq_getElem?_getD, List.getElem?_eq_getElem hlt]; rfl) hpl hpm.1 hs1 hs2 (by omega) _
    (show _ = ((((pos (turnOf es tt d) d : Nat) : Int) + s + ((turnOf es tt d).length : Nat)).toNat : Int) by omega)
theorem t_after_yes (h : RT w r es xs tt) (hp : POK N es vs xs) (hT : TurnOK N es xs tt) (hd : d / 2 ∈ xs) : Calls Try.prog 20 #[.pointer (some ⟨r, 0, none⟩), .int .i64 d] w fun e w' => e = .returned (.tuple #[.int .i64 (stepOf es tt d 1), .bool true]) ∧ w = w' :=
  after_of w _ d _ _ (t_beside_yes h hp hT 1 (by omega) (by omega) hd)
theorem t_before_yes (h : RT w r es xs tt) (hp : POK N es vs xs) (hT : TurnOK N es xs tt) (hd : d / 2 ∈ xs) : Calls Try.prog 21 #[.pointer (some ⟨r, 0, none⟩), .int .i64 d] w fun e w' => e = .returned (.tuple #[.int .i64 (stepOf es tt d (-1)), .bool true]) ∧ w = w' :=
  before_of w _ d _ _ (t_beside_yes h hp hT (-1) (by omega) (by omega) hd)
theorem t_next_yes (h : RT w r es xs tt) (hp : POK N es vs xs) (hT : TurnOK N es xs tt) (hd : d / 2 ∈ xs) : Calls Try.prog 22 #[.pointer (some ⟨r, 0, none⟩), .int .i64 d] w fun e w' => e = .returned (.tuple #[.int .i64 (stepOf es tt (twin d) (-1)), .bool true]) ∧ w = w' := by
  obtain ⟨d0, d1⟩ := dart_i64 hp hd
  exact next_of w _ d _ _ ⟨by omega, by omega⟩ (t_beside_yes h hp hT (-1) (by omega) (by omega) (by rw [twin_half]; exact hd))
theorem t_back_yes (h : RT w r es xs tt) (hp : POK N es vs xs) (hT : TurnOK N es xs tt) (hd : d / 2 ∈ xs) : Calls Try.prog 23 #[.pointer (some ⟨r, 0, none⟩), .int .i64 d] w fun e w' => e = .returned (.tuple #[.int .i64 (twin (stepOf es tt d 1)), .bool true]) ∧ w = w' := by
  obtain ⟨d0, d1⟩ := dart_i64 hp (step_mem hp hT hd 1).1
  exact back_yes w _ d _ ⟨by omega, by omega⟩ (t_beside_yes h hp hT 1 (by omega) (by omega) hd)
end
end Go.Proofs.Ythobfbnopkbniaa
