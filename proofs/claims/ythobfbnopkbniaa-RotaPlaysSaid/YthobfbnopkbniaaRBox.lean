/-
  A variable's box that holds a pointer: what is put there leaves turns as they are; the run of the store. Plain theorems; no conditions.
-/
import Derived.Test.YthobfbnopkbniaaRDarts
namespace Go.Proofs.Ythobfbnopkbniaa
open Go.RowKit

/-- A variable's box. -/
theorem box_new (w : World) (v : Value) (t : TypeId) : ∃ w1, w.alloc (.cells #[v] t) = w1 ∧ Below w.heap.size w w1 ∧ w.heap.size < w1.heap.size ∧ w1.heap[w.heap.size]? = some (.cells #[v] t (0, 0)) :=
  ⟨_, rfl, (Below.refl _ _).alloc (Nat.le_refl _) _, by simp, heap_alloc_new _ _⟩
theorem box_cell {w : World} {g : Nat} {v : Value} {t : TypeId} (h : w.heap[g]? = some (.cells #[v] t (0, 0))) : w.cell? ⟨g, 0, none⟩ = some v := by simp [World.cell?, h]
theorem box_frozen {w : World} {g : Nat} {v : Value} {t : TypeId} (h : w.heap[g]? = some (.cells #[v] t (0, 0))) : w.frozen? ⟨g, 0, none⟩ = false := by simp [World.frozen?, h]
theorem box_set {w : World} {g : Nat} {v : Value} {t : TypeId} (h : w.heap[g]? = some (.cells #[v] t (0, 0))) (u : Value) : (w.setCell ⟨g, 0, none⟩ u).heap[g]? = some (.cells #[u] t (0, 0)) := by
  simp [World.setCell, Array.getElem?_modify, h]
theorem set_grown (w : World) (g : Nat) (u : Value) : w.grownBy (w.setCell ⟨g, 0, none⟩ u) (some g) :=
  ⟨rfl, rfl, rfl, by simp [World.setCell], fun i _ hi => Below.heap_setCell _ _ _ _ (fun e => hi (by rw [e]))⟩
theorem set_size (w : World) (g : Nat) (u : Value) : (w.setCell ⟨g, 0, none⟩ u).heap.size = w.heap.size := by simp [World.setCell]
theorem set_below {n g : Nat} {w : World} (h : n ≤ g) (u : Value) : Below n w (w.setCell ⟨g, 0, none⟩ u) := (Below.refl n w).setCell (p := ⟨g, 0, none⟩) h u
theorem set_keeps (n g : Nat) (w : World) (u : Value) : KeepsFrom n w (w.setCell ⟨g, 0, none⟩ u) := (KeepsOthers.setCell w ⟨g, 0, none⟩ u).from n

/-- What is put into a box that holds a pointer turns no other cell, and no map. -/
structure Past (g : Nat) (w w' : World) : Prop where
  grown : w.grownBy w' (some g)
  cell : ∀ (p : Addr) (v : Value), w.cell? p = some v → (∀ q, v ≠ .pointer q) → w'.cell? p = some v
  nomap : ∀ es clock, w.heap[g]? ≠ some (.map es clock)
theorem past_box {w : World} {g : Nat} {q : Option Addr} {t : TypeId} (h : w.heap[g]? = some (.cells #[.pointer q] t (0, 0))) (u : Value) : Past g w (w.setCell ⟨g, 0, none⟩ u) := by
  refine ⟨set_grown w g u, fun p v hc hv => ?_, fun es clock hm => by rw [h] at hm; cases hm⟩
  have hne : p.block ≠ g := fun e => by
    unfold World.cell? at hc
    rw [e, h] at hc
    dsimp only at hc
    split at hc
    · cases hc
    · match ho : p.off with
      | 0 => rw [ho] at hc; simp at hc; exact hv q hc.symm
      | k + 1 => rw [ho] at hc; simp at hc
  rw [← hc]
  exact World.cell?_of_block ((set_grown w g u).block _ (World.block_lt_of_cell? w _ hc) (fun e => hne (by injection e)))
section
variable {g : Nat} {w w' : World}
theorem IS.past_ {A : Option Addr} {n c : Nat} {xs : List Int} (h : IS w w.heap.size A n c xs) (hp : Past g w w') : IS w' w'.heap.size A n c xs := by
  refine ⟨h.1, h.2.1, h.2.2.1, h.2.2.2.1, fun hn => ?_⟩
  obtain ⟨b, o, e, hb, hc⟩ := h.2.2.2.2 hn
  exact ⟨b, o, e, Nat.lt_of_lt_of_le hb hp.grown.size, fun j hj => hp.cell _ _ (hc j hj) (fun q => by simp)⟩
theorem TS.past_ {A : Option Addr} {n c : Nat} {tt : List (List Int)} (h : TS w w.heap.size A n c tt) (hp : Past g w w') : TS w' w'.heap.size A n c tt := by
  refine ⟨h.1, h.2.1, h.2.2.1, fun hn => ?_⟩
  obtain ⟨b, o, e, hb, hc⟩ := h.2.2.2 hn
  refine ⟨b, o, e, Nat.lt_of_lt_of_le hb hp.grown.size, fun j hj => ?_⟩
  obtain ⟨A', n', c', h1, h2⟩ := hc j hj
  exact ⟨A', n', c', hp.cell _ _ h1 (fun q => by simp), h2.past_ hp⟩
theorem MV.past_ {b n : Nat} {f : Int → Option Value} (h : MV w b n f) (hp : Past g w w') : MV w' b n f :=
  h.kept hp.grown (fun e => by
    obtain ⟨es, clock, hb⟩ := h.block
    injection e with e
    subst e
    exact hp.nomap _ _ hb)
theorem RS.past_ {r : Nat} {lv : Int → Option Int} {tt : List (List Int)} {pl : Int → Option Int} {ds : List Int} (h : RS w r lv tt pl ds) (hp : Past g w w') : RS w' r lv tt pl ds := by
  obtain ⟨At, nt, ct, lb, nl, pb, np, Ad, nd, cd, h0, c0, c1, c2, c3, h1, h2, h3, h4⟩ := h
  exact ⟨At, nt, ct, lb, nl, pb, np, Ad, nd, cd, Nat.lt_of_lt_of_le h0 hp.grown.size, hp.cell _ _ c0 (fun q => by simp), hp.cell _ _ c1 (fun q => by simp), hp.cell _ _ c2 (fun q => by simp), hp.cell _ _ c3 (fun q => by simp),
    h1.past_ hp, MV.past_ h2 hp, MV.past_ h3 hp, h4.past_ hp⟩
end
/-- The run of a store of a pointer to turns. -/
theorem run_store_rota {w : World} {g : Nat} {v : Value} (h : w.heap[g]? = some (.cells #[v] 31 (0, 0))) (q : Option Addr) :
    (Instr.storeAt 31 (.pointer (some ⟨g, 0, none⟩)) (.pointer q)).run Try.prog w = .ok () (w.setCell ⟨g, 0, none⟩ (.pointer q)) := by
  have hc := box_cell h
  have hf := box_frozen h
  unfold Instr.storeAt Instr.sureAddr
  go_simp
/-- The iterator's facts, of turns. -/
theorem RS.di {w : World} {r bx : Nat} {lv : Int → Option Int} {tt : List (List Int)} {pl : Int → Option Int} {ds : List Int} (h : RS w r lv tt pl ds) :
    ∃ Ad nd cd, nd = ds.length ∧ (w.cell? ⟨bx, 0, none⟩ = some (.pointer (some ⟨r, 0, none⟩)) → DI w bx (some ⟨r, 0, none⟩) Ad nd cd w.heap.size ds) := by
  obtain ⟨At, nt, ct, lb, nl, pb, np, Ad, nd, cd, h0, c0, c1, c2, c3, h1, h2, h3, h4⟩ := h
  exact ⟨Ad, nd, cd, h4.len.symm, fun hc => ⟨hc, .inr ⟨r, rfl, c3, h4⟩⟩⟩
theorem RS.dp {w : World} {r : Nat} {lv : Int → Option Int} {tt : List (List Int)} {pl : Int → Option Int} {ds : List Int} (h : RS w r lv tt pl ds) :
    ∃ Ad nd cd, nd = ds.length ∧ w.cell? ⟨r, 3, none⟩ = some (.slice Ad nd cd) ∧ IS w w.heap.size Ad nd cd ds := by
  obtain ⟨At, nt, ct, lb, nl, pb, np, Ad, nd, cd, h0, c0, c1, c2, c3, h1, h2, h3, h4⟩ := h
  exact ⟨Ad, nd, cd, h4.len.symm, c3, h4⟩
theorem DI.below {w w' : World} {bx nd cd B : Nat} {p Ad : Option Addr} {ds : List Int} (h : DI w bx p Ad nd cd B ds) (hB : B ≤ w.heap.size) (hbx : bx < w.heap.size) (hp : ∀ a, p = some a → a.block < w.heap.size) (hb : Below w.heap.size w w') : DI w' bx p Ad nd cd B ds := by
  obtain ⟨h1, h2⟩ := h
  refine ⟨(hb.cell (p := ⟨bx, 0, none⟩) hbx).trans h1, h2.imp id ?_⟩
  rintro ⟨r, rfl, h3, h4⟩
  exact ⟨r, rfl, (hb.cell (p := ⟨r, 3, none⟩) (hp ⟨r, 0, none⟩ rfl)).trans h3, h4.below (hb.mono hB)⟩
section
variable {fn : Func} {p : Tmp} {tmps : Array Value} {W : World} {rb n D : Nat} {b0 b : Bool} {R : Ending → World → Prop}
theorem leave_set (h : fn.results = #[.cell p 4]) (hp : tmps.getD p undef = .pointer (some ⟨rb, 0, none⟩)) (hrb : W.heap[rb]? = some (.cells #[.bool b0] 4 (0, 0)))
    (hR : R (.returned (.bool b)) (W.setCell ⟨rb, 0, none⟩ (.bool b))) : bodyPostM Fence.wide n Try.prog fn R .ret { tmps := tmps, defers := [] } (W.setCell ⟨rb, 0, none⟩ (.bool b)) :=
  leave_cell h hp (box_cell (box_set hrb _)) hR
theorem leave_set_mark (h : fn.results = #[.cell p 4]) (hp : tmps.getD p undef = .pointer (some ⟨rb, 0, none⟩)) (hrb : W.heap[rb]? = some (.cells #[.bool b0] 4 (0, 0))) (hD : W.heap[D]? = some (.deferred (some [])))
    (hR : R (.returned (.bool b)) ((W.setCell ⟨rb, 0, none⟩ (.bool b)).putObj D (.deferred none))) : bodyPostM Fence.wide n Try.prog fn R .ret { tmps := tmps, defers := [markOf D] } (W.setCell ⟨rb, 0, none⟩ (.bool b)) :=
  leave_cell_mark h hp (box_cell (box_set hrb _)) (((set_grown W rb _).block D (Array.getElem?_eq_some_iff.1 hD).1 (fun e => by
    injection e with e
    subst e
    rw [hrb] at hD
    cases hD)).trans hD) hR
end
end Go.Proofs.Ythobfbnopkbniaa
