/-
  Arguments that are graphs, parts and lists of lists of integers, as the row's reading gives them, in the words of this seat's walks; no conditions.
-/
import Derived.Test.YthobfbnopkbniaaGBase
import Derived.Test.YthobfbnopkbniaaRow
import Derived.Deep.Slices
import Derived.Deep.Matrix
import Derived.Lib.SmallJoins
import Derived.ProofKit
namespace Go.Proofs.Ythobfbnopkbniaa
open Go.RowKit Go.ChangeShapes Go.WideShapes Go.Deep Go.Joins

/-- The slice value '.slice A n c' of slices of integers reads as the list of lists tt; it and its rows lie below block B. -/
def TS (w : World) (B : Nat) (A : Option Addr) (n c : Nat) (tt : List (List Int)) : Prop :=
  tt.length = n ∧ n ≤ c ∧ c ≤ 9223372036854775807 ∧
    (0 < n → ∃ b o, A = some ⟨b, o, none⟩ ∧ b < B ∧ ∀ j, j < n → ∃ Aj nj cj, w.cell? ⟨b, o + j, none⟩ = some (.slice Aj nj cj) ∧ IS w B Aj nj cj (tt.getD j []))
section
variable {w w' : World} {B B' n c : Nat} {A : Option Addr} {tt : List (List Int)}
theorem TS.len (h : TS w B A n c tt) : tt.length = n := h.1
theorem TS.le (h : TS w B A n c tt) : n ≤ c := h.2.1
theorem TS.cap (h : TS w B A n c tt) : c ≤ 9223372036854775807 := h.2.2.1
theorem TS.none_ : TS w B none 0 0 [] := ⟨rfl, Nat.le_refl _, by omega, fun h => absurd h (by omega)⟩
theorem TS.get (h : TS w B A n c tt) {k : Nat} (hk : k < n) :
    ∃ b o t Ak nk ck, A = some ⟨b, o, none⟩ ∧ b < B ∧ Hid (tt.getD k [] = t) ∧ w.cell? ⟨b, o + k, none⟩ = some (.slice Ak nk ck) ∧ IS w B Ak nk ck t := by
  obtain ⟨b, o, e, hb, hc⟩ := h.2.2.2 (by omega)
  obtain ⟨Aj, nj, cj, h1, h2⟩ := hc k hk
  exact ⟨b, o, _, Aj, nj, cj, e, hb, Lib.hid rfl, h1, h2⟩
theorem TS.keep (h : TS w B A n c tt) (hk : ∀ p : Addr, p.block < B → w'.cell? p = w.cell? p) : TS w' B A n c tt :=
  ⟨h.1, h.2.1, h.2.2.1, fun hn => by
    obtain ⟨b, o, e, hb, hc⟩ := h.2.2.2 hn
    refine ⟨b, o, e, hb, fun j hj => ?_⟩
    obtain ⟨Aj, nj, cj, h1, h2⟩ := hc j hj
    exact ⟨Aj, nj, cj, (hk ⟨b, o + j, none⟩ hb).trans h1, h2.keep hk⟩⟩
theorem TS.more (h : TS w B A n c tt) (hB : B ≤ B') : TS w B' A n c tt :=
  ⟨h.1, h.2.1, h.2.2.1, fun hn => by
    obtain ⟨b, o, e, hb, hc⟩ := h.2.2.2 hn
    refine ⟨b, o, e, by omega, fun j hj => ?_⟩
    obtain ⟨Aj, nj, cj, h1, h2⟩ := hc j hj
    exact ⟨Aj, nj, cj, h1, h2.more hB⟩⟩
theorem TS.below (h : TS w B A n c tt) (hb : Below B w w') : TS w' B A n c tt := h.keep fun _ hp => hb.cell hp
theorem TS.step (h : TS w w.heap.size A n c tt) (hb : Below w.heap.size w w') : TS w' w'.heap.size A n c tt := (h.below hb).more hb.size
end

theorem addr_at {w : World} {x : Addr} {v : Value} (h : w.cell? (x.add 0) = some v) : ∃ b o, x = ⟨b, o, none⟩ ∧ b < w.heap.size := by
  have ha : x.add 0 = x := by simp [Addr.add]
  rw [ha] at h
  obtain ⟨b, o, s⟩ := x
  have hs : s = none := by
    cases s with
    | none => rfl
    | some y =>
      unfold World.cell? at h
      split at h <;> simp at h
  subst hs
  exact ⟨b, o, rfl, World.block_lt_of_cell? w _ h⟩
theorem addr_add (b o j : Nat) : (⟨b, o, none⟩ : Addr).add j = ⟨b, o + j, none⟩ := by unfold Addr.add; split <;> simp_all

section
variable {H : Type} {enc : TypeId × Value → H} {w : World} {base : Nat} {held : Bool}
theorem open_is {fuel : Nat} {v : Value} {x : DataW H × List MemPlace} (h : DataW.trod enc Try.prog w base (fun _ => true) held fuel 25 [v] = some x) :
    ∃ A n c xs, v = .slice A n c ∧ IS w w.heap.size A n c xs := by
  rcases open_ints Try.underlying25 Try.underlying3 (by kernel_rfl) h with ⟨hcs, _⟩ | ⟨y, l, c, zs, hcs, _, hl, hm, hz, _, hcell, hwz⟩
  · simp at hcs
    subst hcs
    exact ⟨none, 0, 0, [], rfl, IS.none_⟩
  · simp at hcs
    subst hcs
    exact ⟨_, _, _, _, rfl, is_of_row (.inr ⟨y, rfl, hl, hm, by simpa using hz, hcell, hwz⟩)⟩

theorem open_ts {fuel : Nat} {v : Value} {x : DataW H × List MemPlace} (h : DataW.trod enc Try.prog w base (fun _ => true) held fuel 28 [v] = some x) :
    ∃ A n c tt, v = .slice A n c ∧ TS w w.heap.size A n c tt := by
  rcases open_int_rows Try.underlying28 Try.underlying25 Try.underlying3 (by kernel_rfl) (by kernel_rfl) h with ⟨hcs, _⟩ | ⟨a, len, cap, A, L, C, Z, hcs, _, hl, hm, _, hr⟩
  · simp at hcs
    subst hcs
    exact ⟨none, 0, 0, [], rfl, TS.none_⟩
  · simp at hcs
    subst hcs
    refine ⟨_, _, _, (List.range len).map fun r => (Z r).take (L r), rfl, by simp, hl, hm, fun hn => ?_⟩
    obtain ⟨b, o, rfl, hb⟩ := addr_at (hr 0 (by omega)).1
    refine ⟨b, o, rfl, hb, fun j hj => ?_⟩
    obtain ⟨h1, h2, h3, h4, h5, h6, h7⟩ := hr j (by omega)
    rw [addr_add] at h1
    refine ⟨_, _, _, h1, ?_⟩
    have hget : ((List.range len).map fun r => (Z r).take (L r)).getD j [] = (Z j).take (L j) := by
      rw [List.getD_eq_getElem?_getD, List.getElem?_map, List.getElem?_range hj]
      rfl
    rw [hget]
    cases hA : A j with
    | none =>
      have hc0 := h6 hA
      have hz0 : Z j = [] := List.eq_nil_of_length_eq_zero (by omega)
      rw [hz0, show L j = 0 by omega, hc0]
      exact is_of_row (.inl ⟨rfl, rfl, rfl, rfl⟩)
    | some y => exact is_of_row (.inr ⟨y, rfl, h2, h3, h4, fun i hi => (h7 y hA).2 i (by omega), h5⟩)

set_option maxRecDepth 100000 in
theorem open_es {fuel : Nat} {v : Value} {x : DataW H × List MemPlace} (h : DataW.trod enc Try.prog w base (fun _ => true) held fuel 22 [v] = some x) :
    ∃ A m c es, v = .slice A m c ∧ ES w w.heap.size A m c es := by
  rcases open_slice Try.underlying22 h with ⟨hcs, _⟩ | ⟨a, len, cap, m, n, D, Pl, hcs, _, hl, hm, hmm, _, hi⟩
  · simp at hcs
    subst hcs
    exact ⟨none, 0, 0, [], rfl, rfl, Nat.le_refl _, by omega, by simp, fun h => absurd h (by omega)⟩
  · simp at hcs
    subst hcs
    have hC : Try.prog.cellsOf 86 = 2 := by kernel_rfl
    have hI : Try.prog.cellsOf 3 = 1 := by kernel_rfl
    rw [hC] at hi
    simp only [if_true] at hmm
    have each : ∀ i, i < len → ∃ e : Int × Int, I64 e.1 ∧ I64 e.2 ∧ w.cell? (a.add (i * 2)) = some (.int .i64 e.1) ∧ w.cell? ((a.add (i * 2)).add 1) = some (.int .i64 e.2) := by
      intro i hil
      obtain ⟨cs', hc, ht⟩ := hi i (by omega)
      obtain ⟨_, hcl, hat⟩ := World.cells?_some hc
      match cs', hcl with
      | [u0, u1], _ =>
        obtain ⟨y0, y1, n', _, _, g0, g1⟩ := trod_struct2 Try.underlying86 ht
        have t0 : DataW.trod enc Try.prog w base (fun _ => true) held n' 3 [u0] = some y0 := by dsimp only at g0; rw [hI] at g0; exact g0
        have t1 : DataW.trod enc Try.prog w base (fun _ => true) held n' 3 [u1] = some y1 := by dsimp only at g1; rw [hI] at g1; exact g1
        obtain ⟨q0, e0, _, w0⟩ := DataW.trod_int Try.underlying3 t0
        obtain ⟨q1, e1, _, w1⟩ := DataW.trod_int Try.underlying3 t1
        simp at e0 e1
        subst e0
        subst e1
        have c0 := hat 0 (by omega)
        have c1 := hat 1 (by omega)
        refine ⟨(q0, q1), i64_of_wf w0, i64_of_wf w1, ?_, c1⟩
        have : (a.add (i * 2)).add 0 = a.add (i * 2) := by simp [Addr.add]
        rw [this] at c0
        exact c0
    obtain ⟨E, hE⟩ := choose_lt each
    refine ⟨_, _, _, (List.range len).map E, rfl, by simp, hl, hm, fun e he => ?_, fun hn => ?_⟩
    · obtain ⟨i, hi', rfl⟩ := List.mem_map.1 he
      have := hE i (List.mem_range.1 hi')
      exact ⟨this.1, this.2.1⟩
    · have h0 := (hE 0 (by omega)).2.2.1
      rw [Nat.zero_mul] at h0
      obtain ⟨b, o, rfl, hb⟩ := addr_at h0
      refine ⟨b, o, rfl, hb, fun j hj => ?_⟩
      have hget : ((List.range len).map E).getD j (0, 0) = E j := by
        rw [List.getD_eq_getElem?_getD, List.getElem?_map, List.getElem?_range hj]
        rfl
      rw [hget]
      obtain ⟨_, _, g3, g4⟩ := hE j hj
      rw [addr_add] at g3 g4
      rw [addr_add] at g4
      exact ⟨g3, g4⟩

set_option maxRecDepth 100000 in
/-- A graph and a part, by value. -/
theorem open_graph {r : Reach} {b0 : Nat} {v : Value} {d : DataW H} {p : List MemPlace} (hv : Value.okWide Try.prog w r b0 24 v) (h : DataW.Trod enc Try.prog w base (fun _ => true) held 24 v d p) :
    ∃ N A m c es, v = .agg #[.int .i64 N, .slice A m c] ∧ I64 N ∧ ES w w.heap.size A m c es := by
  obtain ⟨v0, v1, y0, y1, n, rfl, _, _, h0, h1⟩ := open_agg2 Try.underlying24 (by kernel_rfl) (by kernel_rfl) hv h
  obtain ⟨q0, e0, _, w0⟩ := DataW.trod_int Try.underlying3 h0
  simp at e0
  subst e0
  obtain ⟨A, m, c, es, rfl, hes⟩ := open_es h1
  exact ⟨_, _, _, _, _, rfl, i64_of_wf w0, hes⟩
set_option maxRecDepth 100000 in
theorem open_part {r : Reach} {b0 : Nat} {v : Value} {d : DataW H} {p : List MemPlace} (hv : Value.okWide Try.prog w r b0 27 v) (h : DataW.Trod enc Try.prog w base (fun _ => true) held 27 v d p) :
    ∃ Av nv cv vs Ae ne ce xs, v = .agg #[.slice Av nv cv, .slice Ae ne ce] ∧ IS w w.heap.size Av nv cv vs ∧ IS w w.heap.size Ae ne ce xs := by
  obtain ⟨v0, v1, y0, y1, n, rfl, _, _, h0, h1⟩ := open_agg2 Try.underlying27 (by kernel_rfl) (by kernel_rfl) hv h
  obtain ⟨A, m, c, es, rfl, hes⟩ := open_is h0
  obtain ⟨A', m', c', es', rfl, hes'⟩ := open_is h1
  exact ⟨_, _, _, _, _, _, _, _, rfl, hes, hes'⟩
end
end Go.Proofs.Ythobfbnopkbniaa
