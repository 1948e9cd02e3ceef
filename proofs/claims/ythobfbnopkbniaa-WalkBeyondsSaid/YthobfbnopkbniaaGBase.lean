/-
  Words for memory: a slice of edges that reads as a list of pairs ('ES'), a graph and a part by value ('GP'); regions that draw their order and call functions that make memory. Plain theorems; no conditions.
-/
import Derived.Test.YthobfbnopkbniaaBase
import Derived.Test.YthobfbnopkbniaaMem
import Derived.Deep.QuietTactic
import Derived.BigQuiet
import Derived.Deep.DeepMust
namespace Go.Proofs.Ythobfbnopkbniaa
open Go.RowKit

/-- The slice value '.slice A m c' of edges reads as the list es; it lies below block B. -/
def ES (w : World) (B : Nat) (A : Option Addr) (m c : Nat) (es : List (Int × Int)) : Prop :=
  es.length = m ∧ m ≤ c ∧ c ≤ 9223372036854775807 ∧ (∀ e ∈ es, I64 e.1 ∧ I64 e.2) ∧
    (0 < m → ∃ b o, A = some ⟨b, o, none⟩ ∧ b < B ∧ ∀ j, j < m → w.cell? ⟨b, o + j * 2, none⟩ = some (.int .i64 (es.getD j (0, 0)).1) ∧ w.cell? ⟨b, o + j * 2 + 1, none⟩ = some (.int .i64 (es.getD j (0, 0)).2))
section
variable {w w' : World} {B B' m c : Nat} {A : Option Addr} {es : List (Int × Int)}
theorem ES.len (h : ES w B A m c es) : es.length = m := h.1
theorem ES.le (h : ES w B A m c es) : m ≤ c := h.2.1
theorem ES.cap (h : ES w B A m c es) : c ≤ 9223372036854775807 := h.2.2.1
theorem ES.get (h : ES w B A m c es) {k : Nat} (hk : k < m) :
    ∃ b o x y, A = some ⟨b, o, none⟩ ∧ b < B ∧ Hid (es.getD k (0, 0) = (x, y)) ∧ I64 x ∧ I64 y ∧ w.cell? ⟨b, o + k * 2, none⟩ = some (.int .i64 x) ∧ w.cell? ⟨b, o + k * 2 + 1, none⟩ = some (.int .i64 y) := by
  obtain ⟨b, o, e, hb, hc⟩ := h.2.2.2.2 (by omega)
  have hmem : es.getD k (0, 0) ∈ es := by
    have hl : k < es.length := by have := h.len; omega
    rw [List.getD_eq_getElem?_getD, List.getElem?_eq_getElem hl]
    exact List.getElem_mem hl
  exact ⟨b, o, _, _, e, hb, Lib.hid rfl, (h.2.2.2.1 _ hmem).1, (h.2.2.2.1 _ hmem).2, (hc k hk).1, (hc k hk).2⟩
theorem ES.keep (h : ES w B A m c es) (hk : ∀ p : Addr, p.block < B → w'.cell? p = w.cell? p) : ES w' B A m c es :=
  ⟨h.1, h.2.1, h.2.2.1, h.2.2.2.1, fun hn => by
    obtain ⟨b, o, e, hb, hc⟩ := h.2.2.2.2 hn
    exact ⟨b, o, e, hb, fun j hj => ⟨(hk ⟨b, o + j * 2, none⟩ hb).trans (hc j hj).1, (hk ⟨b, o + j * 2 + 1, none⟩ hb).trans (hc j hj).2⟩⟩⟩
theorem ES.more (h : ES w B A m c es) (hB : B ≤ B') : ES w B' A m c es :=
  ⟨h.1, h.2.1, h.2.2.1, h.2.2.2.1, fun hn => by
    obtain ⟨b, o, e, hb, hc⟩ := h.2.2.2.2 hn
    exact ⟨b, o, e, by omega, hc⟩⟩
theorem ES.below (h : ES w B A m c es) (hb : Below B w w') : ES w' B A m c es := h.keep fun _ hp => hb.cell hp
theorem ES.step (h : ES w w.heap.size A m c es) (hb : Below w.heap.size w w') : ES w' w'.heap.size A m c es := (h.below hb).more hb.size
end
theorem IS.step {w w' : World} {A : Option Addr} {n c : Nat} {xs : List Int} (h : IS w w.heap.size A n c xs) (hb : Below w.heap.size w w') : IS w' w'.heap.size A n c xs := (h.below hb).more hb.size
theorem bstep {a b c : World} (h : Below a.heap.size a b) (k : Below b.heap.size b c) : Below a.heap.size a c := h.trans (k.mono h.size)

/-- A graph and a part, by value, in memory. -/
structure GP (w : World) (N : Int) (A : Option Addr) (m c : Nat) (es : List (Int × Int)) (Av : Option Addr) (nv cv : Nat) (vs : List Int) (Ae : Option Addr) (ne ce : Nat) (xs : List Int) : Prop where
  g : ES w w.heap.size A m c es
  n : I64 N
  v : IS w w.heap.size Av nv cv vs
  e : IS w w.heap.size Ae ne ce xs
theorem GP.step {w w' : World} {N : Int} {A : Option Addr} {m c : Nat} {es : List (Int × Int)} {Av : Option Addr} {nv cv : Nat} {vs : List Int} {Ae : Option Addr} {ne ce : Nat} {xs : List Int}
    (h : GP w N A m c es Av nv cv vs Ae ne ce xs) (hb : Below w.heap.size w w') : GP w' N A m c es Av nv cv vs Ae ne ce xs := ⟨h.g.step hb, h.n, h.v.step hb, h.e.step hb⟩

/-- A new block of cells: its own cells; what lay there has not turned. -/
theorem box_one (w : World) (cs : Array Value) (t : TypeId) : ∃ w1, w.alloc (.cells cs t) = w1 ∧ Below w.heap.size w w1 ∧ w.heap.size < w1.heap.size ∧ (∀ i, w1.cell? ⟨w.heap.size, i, none⟩ = cs[i]?) :=
  ⟨_, rfl, (Below.refl _ _).alloc (Nat.le_refl _) _, by simp, fun i => cell_of_row _ w.heap.size i _ _ _ (heap_alloc_new w _)⟩

/-- The two blocks into which a function lays its graph and its part. -/
def GB (w : World) (gb pb : Nat) (N : Int) (A : Option Addr) (m c : Nat) (es : List (Int × Int)) (Av : Option Addr) (nv cv : Nat) (Ae : Option Addr) (ne ce : Nat) : Prop :=
  gb < w.heap.size ∧ pb < w.heap.size ∧ w.cell? ⟨gb, 0, none⟩ = some (.int .i64 N) ∧ w.cell? ⟨gb, 1, none⟩ = some (.slice A m c) ∧ w.cell? ⟨pb, 0, none⟩ = some (.slice Av nv cv) ∧ w.cell? ⟨pb, 1, none⟩ = some (.slice Ae ne ce) ∧ es = es
theorem GB.step {w w' : World} {gb pb : Nat} {N : Int} {A : Option Addr} {m c : Nat} {es : List (Int × Int)} {Av : Option Addr} {nv cv : Nat} {Ae : Option Addr} {ne ce : Nat}
    (h : GB w gb pb N A m c es Av nv cv Ae ne ce) (hb : Below w.heap.size w w') : GB w' gb pb N A m c es Av nv cv Ae ne ce := by
  obtain ⟨h1, h2, c0, c1, c2, c3, _⟩ := h
  have := hb.size
  exact ⟨by omega, by omega, (hb.cell (p := ⟨gb, 0, none⟩) h1).trans c0, (hb.cell (p := ⟨gb, 1, none⟩) h1).trans c1, (hb.cell (p := ⟨pb, 0, none⟩) h2).trans c2, (hb.cell (p := ⟨pb, 1, none⟩) h2).trans c3, rfl⟩
theorem box_gp (w : World) (N : Int) (A : Option Addr) (m c : Nat) (es : List (Int × Int)) (Av : Option Addr) (nv cv : Nat) (Ae : Option Addr) (ne ce : Nat) :
    ∃ w1, (w.alloc (.cells #[.int .i64 N, .slice A m c] 24)).alloc (.cells #[.slice Av nv cv, .slice Ae ne ce] 27) = w1 ∧ Below w.heap.size w w1 ∧ GB w1 w.heap.size (w.heap.size + 1) N A m c es Av nv cv Ae ne ce := by
  obtain ⟨w1, hw1, b1, s1, c1⟩ := box_one w #[.int .i64 N, .slice A m c] 24
  obtain ⟨w2, hw2, b2, s2, c2⟩ := box_one w1 #[.slice Av nv cv, .slice Ae ne ce] 27
  have hs : w1.heap.size = w.heap.size + 1 := by rw [← hw1]; simp
  rw [hs] at c2 s2
  rw [hw1, hw2]
  exact ⟨w2, rfl, bstep b1 b2, by omega, by omega, (b2.cell (p := ⟨w.heap.size, 0, none⟩) s1).trans (c1 0), (b2.cell (p := ⟨w.heap.size, 1, none⟩) s1).trans (c1 1), c2 0, c2 1, rfl⟩

/-- A world behind w in which nothing that was there has turned. -/
structure After (w : World) where
  at_ : World
  below : Below w.heap.size w at_
theorem After.has (w : World) : Nonempty (After w) := ⟨⟨w, Below.refl _ _⟩⟩
theorem After.cell {w : World} {b o : Nat} {v : Value} (hb : b < w.heap.size) (h : w.cell? ⟨b, o, none⟩ = some v) : ∀ x : After w, x.at_.cell? ⟨b, o, none⟩ = some v :=
  fun x => (x.below.cell (p := ⟨b, o, none⟩) hb).trans h
/-- A region that draws its order, whose operations read and call what may make memory: one walk in the text's order. -/
theorem wp_region_after {P : Program} {id : Nat} {Q : Exit → Act → World → Prop} {a : Act} {w : World} {l : List Oper} (hm : P.follows .mixedOrders = true) (hB : Region.lexB .any l.toArray = true)
    (h : wpQuiet P l.toArray (fun w' => ∃ x : After w, w' = x.at_) (fun a' => ∀ w', (∃ x : After w, w' = x.at_) → Q .normal a' w') l a) : (Code.region id l.toArray true).wp P Q a w :=
  wp_region_quiet (C := fun w' => ∃ x : After w, w' = x.at_) hm hB ⟨⟨{ w with drawn := w.drawn + 1 }, ⟨rfl, rfl, rfl, Nat.le_refl _, fun _ _ => rfl⟩⟩, rfl⟩ (by simpa using h)
/-- A call in such a region. -/
theorem After.call {P : Program} {f : FuncId} {args : Array Value} {w : World} {x : After w} {v : Value} (h : Calls P f args x.at_ fun e w' => e = .returned v ∧ Below x.at_.heap.size x.at_ w') :
    Calls P f args x.at_ fun e w' => e = .returned v ∧ ∃ y : After w, w' = y.at_ :=
  h.mono fun _ w' ⟨he, hb⟩ => ⟨he, ⟨w', bstep x.below hb⟩, rfl⟩
theorem After.same {P : Program} {f : FuncId} {args : Array Value} {w : World} {x : After w} {v : Value} (h : Calls P f args x.at_ fun e w' => e = .returned v ∧ x.at_ = w') :
    Calls P f args x.at_ fun e w' => e = .returned v ∧ ∃ y : After w, w' = y.at_ :=
  h.mono fun _ _ ⟨he, hb⟩ => ⟨he, x, hb.symm⟩
theorem After.drawn {P : Program} {f : FuncId} {args : Array Value} {w : World} {x : After w} {v : Value} (h : Calls P f args x.at_ fun e w' => e = .returned v ∧ Drawn x.at_ w') :
    Calls P f args x.at_ fun e w' => e = .returned v ∧ ∃ y : After w, w' = y.at_ :=
  After.call (h.mono fun _ _ ⟨he, hb⟩ => ⟨he, hb.below _⟩)
end Go.Proofs.Ythobfbnopkbniaa
