/-
  Words for memory: a slice of slices that the call itself owns ('OwnT'), and the law on append over it; the turns' struct ('RS'). Plain theorems; no conditions.
-/
import Derived.Test.YthobfbnopkbniaaGOpen
import Derived.Test.YthobfbnopkbniaaRingA
import Derived.Test.YthobfbnopkbniaaMap
import Derived.Test.YthobfbnopkbniaaRPlain
namespace Go.Proofs.Ythobfbnopkbniaa
open Go.RowKit

theorem Try.infoRow : (Try.prog.info? 25).map (fun i => (i.zero, i.size, i.bytes)) = some (some (.slice none 0 0), 1, 24) := by kernel_rfl

/-- A row among others: it reads as t, below block B, and lies not in block g. -/
def RowAt (w : World) (g : Option Nat) (v : Value) (t : List Int) : Prop :=
  ∃ A n c, v = .slice A n c ∧ IS w w.heap.size A n c t ∧ (0 < n → ∀ a, A = some a → g ≠ some a.block)
/-- The slice value v is a row of the call's own (of a block that is new since w0) that holds slices of integers; they read as tt; below w0's blocks nothing has turned. -/
structure OwnT (w0 w : World) (v : Value) (tt : List (List Int)) : Prop where
  row : ∃ vs : List Value, w.ownsRow w0.heap.size 25 1 v tt.length vs ∧ ∀ j, j < tt.length → ∃ u, vs[j]? = some u ∧ RowAt w v.ownBlock u (tt.getD j [])
  below : Below w0.heap.size w0 w

theorem RowAt.keep {w w' : World} {g g' : Option Nat} {v : Value} {t : List Int} (h : RowAt w g v t) (hs : w.heap.size ≤ w'.heap.size) (hk : ∀ b, b < w.heap.size → some b ≠ g → w'.heap[b]? = w.heap[b]?)
    (hg : g' = g ∨ ∀ b, g' = some b → w.heap.size ≤ b) : RowAt w' g' v t := by
  obtain ⟨A, n, c, rfl, his, hne⟩ := h
  refine ⟨A, n, c, rfl, ⟨his.1, his.2.1, his.2.2.1, his.2.2.2.1, fun hn => ?_⟩, fun hn a ha => ?_⟩
  · obtain ⟨b, o, rfl, hb, hc⟩ := his.at_ hn
    refine ⟨b, o, rfl, by omega, fun j hj => ?_⟩
    have e1 : w'.heap[b]? = w.heap[b]? := hk b hb (fun e => hne hn _ rfl e.symm)
    rw [← hc j hj]
    exact World.cell?_of_block e1
  · obtain ⟨b, o, e, hb, hc⟩ := his.at_ hn
    rw [e] at ha
    injection ha with ha
    subst ha
    rcases hg with rfl | hg
    · exact hne hn _ e
    · exact fun e' => by have := hg _ e'; simp only at this; omega

section
variable {w0 w w' : World} {v : Value} {tt : List (List Int)}
theorem OwnT.start_at (hb : Below w0.heap.size w0 w) : OwnT w0 w (.slice none 0 0) [] := ⟨⟨[], World.ownsRow_nil _ _ _ _, fun j hj => absurd hj (by simp)⟩, hb⟩
theorem OwnT.kept {row : Option Nat} (h : OwnT w0 w v tt) (hg : w.grownBy w' row) (hr : ∀ k, row = some k → w0.heap.size ≤ k) (hv : v.ownBlock = none ∨ v.ownBlock ≠ row)
    (hin : ∀ j, j < tt.length → ∀ u, RowAt w v.ownBlock u (tt.getD j []) → ∀ a n c, u = .slice (some a) n c → 0 < n → row ≠ some a.block) : OwnT w0 w' v tt := by
  obtain ⟨vs, h1, h2⟩ := h.row
  refine ⟨⟨vs, h1.kept hg hv, fun j hj => ?_⟩, h.below.grown hg h.below.size hr⟩
  obtain ⟨u, hu, hat⟩ := h2 j hj
  have hat' := hat
  obtain ⟨A, n, c, rfl, his, hne⟩ := hat'
  refine ⟨_, hu, A, n, c, rfl, ⟨his.1, his.2.1, his.2.2.1, his.2.2.2.1, fun hn => ?_⟩, hne⟩
  obtain ⟨b, o, rfl, hb, hc⟩ := his.at_ hn
  refine ⟨b, o, rfl, Nat.lt_of_lt_of_le hb hg.size, fun i hi => ?_⟩
  rw [← hc i hi]
  exact World.cell?_of_block (hg.block b hb (fun e => hin j hj _ hat _ _ _ rfl hn e.symm))
theorem OwnT.later (h : OwnT w0 w v tt) (hb : Below w.heap.size w w') : OwnT w0 w' v tt :=
  h.kept (row := none) ⟨hb.os, hb.tape, hb.output, hb.size, fun i hi _ => hb.block i hi⟩ (fun k hk => by cases hk) (by cases hv : v.ownBlock <;> simp) (fun _ _ _ _ _ _ _ _ _ h => by cases h)
theorem OwnT.ts (h : OwnT w0 w v tt) (hl : tt.length ≤ 1000000) : ∃ A n c, v = .slice A n c ∧ TS w w.heap.size A n c tt := by
  obtain ⟨vs, h1, h2⟩ := h.row
  rcases h1.2 with ⟨rfl, hx⟩ | ⟨g, cap, cur, rfl, hb, hg, hnc, hcm, hcs, htake⟩
  · have : tt = [] := by
      have h3 : vs.length = tt.length * 1 := h1.1
      rw [hx] at h3
      exact List.eq_nil_of_length_eq_zero (by simp at h3; omega)
    subst this
    exact ⟨none, 0, 0, rfl, TS.none_⟩
  · refine ⟨_, _, _, rfl, rfl, hnc, hcm, fun hn => ⟨g, 0, rfl, (Array.getElem?_eq_some_iff.1 hg).1, fun j hj => ?_⟩⟩
    obtain ⟨u, hu, A, n, c, rfl, his, _⟩ := h2 j hj
    have := h1.cellAt j (by omega)
    rw [Nat.zero_add]
    exact ⟨A, n, c, this.trans hu, his⟩
end

/-- 'append(v, t)', t a row that lies elsewhere: it has been laid into a block of its own. -/
theorem run_append_row {w0 w : World} {v : Value} {tt : List (List Int)} (hown : OwnT w0 w v tt) {A : Option Addr} {n c : Nat} {t : List Int} (ht : RowAt w v.ownBlock (.slice A n c) t) (hl : tt.length + 1 ≤ 1000000) (ty : TypeId) :
    ∃ v' w', (Builtin.append_ #[28, 28] ty #[v, .slice (some ⟨w.heap.size, 0, none⟩) 1 1]).run Try.prog (w.alloc (.cells #[.slice A n c] 25)) = .ok v' w' ∧
      OwnT w0 w' v' (tt ++ [t]) ∧ (w.alloc (.cells #[.slice A n c] 25)).grownBy w' v.ownBlock ∧ (v'.ownBlock = v.ownBlock ∨ v'.ownBlock = some (w.heap.size + 1)) := by
  obtain ⟨i0, hi, hz0, hz1, hz2⟩ := info_parts Try.infoRow
  obtain ⟨vs, h1, h2⟩ := hown.row
  have hbl : Below w0.heap.size w0 (w.alloc (.cells #[.slice A n c] 25)) := hown.below.alloc hown.below.size _
  obtain ⟨v', w', hrun, g1, g2, _, g3⟩ := run_append_own_at (P := Try.prog) (w.alloc (.cells #[.slice A n c] 25)) w0.heap.size 28 ty 25 i0 (.slice none 0 0) 1 24 Try.underlying28 hi hz0 hz1 hz2 rfl (by decide)
    v tt.length vs (h1.alloc _) ⟨w.heap.size, 0, none⟩ 1 1 [.slice A n c] rfl (fun j u hj => by
      match j, hj with
      | 0, hj => simp at hj; subst hj; simp [Addr.add]) (by intro u hu; simp at hu; subst hu; rfl) (by unfold maxLen; omega) (by omega) (by have := hown.below.size; simp; omega)
  have hsz : w.heap.size < (w.alloc (.cells #[.slice A n c] 25)).heap.size := by simp
  have hsz' : (w.alloc (.cells #[.slice A n c] 25)).heap.size = w.heap.size + 1 := by simp
  have hs2 := g2.size
  have hkeep : ∀ b, b < w.heap.size → some b ≠ v.ownBlock → w'.heap[b]? = w.heap[b]? := fun b hb hne => (g2.block b (by omega) hne).trans (Below.heap_alloc _ _ _ hb)
  have hgg : v'.ownBlock = v.ownBlock ∨ ∀ b, v'.ownBlock = some b → w.heap.size ≤ b := by
    rcases g3 with h | h
    · exact .inl h
    · refine .inr fun b hb => ?_
      rw [h] at hb
      injection hb with hb
      omega
  have hlen : vs.length = tt.length := by simpa using h1.1
  refine ⟨v', w', hrun, ⟨⟨vs ++ [.slice A n c], by rw [List.length_append]; exact g1, fun j hj => ?_⟩, hbl.grown g2 hbl.size (fun k hk => (h1.lt k hk).1)⟩, g2, by rw [hsz'] at g3; exact g3⟩
  rw [List.length_append] at hj
  simp only [List.length_cons, List.length_nil] at hj
  rcases Nat.lt_or_ge j tt.length with hjl | hjl
  · obtain ⟨u, hu, hr⟩ := h2 j hjl
    refine ⟨u, by rw [List.getElem?_append_left (by omega)]; exact hu, ?_⟩
    rw [List.getD_eq_getElem?_getD, List.getElem?_append_left hjl, ← List.getD_eq_getElem?_getD]
    exact hr.keep (by omega) hkeep hgg
  · obtain rfl : j = tt.length := by omega
    refine ⟨.slice A n c, by rw [← hlen, List.getElem?_append_right (Nat.le_refl _)]; simp, ?_⟩
    rw [List.getD_eq_getElem?_getD, List.getElem?_append_right (Nat.le_refl _)]
    simp only [Nat.sub_self, List.getElem?_cons_zero, Option.getD_some]
    exact ht.keep (by omega) hkeep hgg

theorem wpList_append_row {w0 w : World} {v : Value} {tt : List (List Int)} {ops : Array Oper} {rest : List Oper} {o : Oper} {a : Act} {Q : Exit → Act → World → Prop} (hgd : o.guard = none) (s x : Operand)
    (ho : o.op = .call { callee := .builtin .append, args := #[s, x], argTypes := #[28, 28] }) (hs : a.eval s = v) (hown : OwnT w0 w v tt) {A : Option Addr} {n c : Nat} {t : List Int}
    (ht : RowAt w v.ownBlock (.slice A n c) t) (hx : a.eval x = .slice (some ⟨w.heap.size, 0, none⟩) 1 1) (hl : tt.length + 1 ≤ 1000000)
    (h : ∀ v' w', OwnT w0 w' v' (tt ++ [t]) → (w.alloc (.cells #[.slice A n c] 25)).grownBy w' v.ownBlock → (v'.ownBlock = v.ownBlock ∨ v'.ownBlock = some (w.heap.size + 1)) → wpList Try.prog ops Q rest (a.put o.dst v') w') :
    wpList Try.prog ops Q (o :: rest) a (w.alloc (.cells #[.slice A n c] 25)) := by
  obtain ⟨v', w', hrun, h2, h3, h4⟩ := run_append_row hown ht hl o.type
  refine wpList_plain hgd fun K hK => ?_
  unfold Oper.wp execOp
  simp only [ho, resolve, invoke, builtin, Sem.run_bind, Sem.run_pure, Result.andThen_ok, List.map_toArray, List.map_cons, List.map_nil, hs, hx, hrun]
  exact hK _ _ (h v' w' h2 h3 h4)
end Go.Proofs.Ythobfbnopkbniaa
