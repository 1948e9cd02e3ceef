/-
  A row of parts of the call's own, each part's lists wherever they lie ('OwnR'); the contract of ref05.Pieces. No conditions on the program.
-/
import Derived.Test.YthobfbnopkbniaaVFSub
import Derived.Test.YthobfbnopkbniaaFaceD
namespace Go.Proofs.Ythobfbnopkbniaa
open Go.RowKit

/-- A list that lies neither in this block nor in that. -/
theorem RowAt.both {w w' : World} {g q q' : Option Nat} {u : Value} {t : List Int} (h1 : RowAt w g u t) (h2 : RowAt w q u t) (hs : w.heap.size ≤ w'.heap.size) (hk : ∀ b, b < w.heap.size → some b ≠ q → w'.heap[b]? = w.heap[b]?) (hq : q' = q ∨ ∀ b, q' = some b → w.heap.size ≤ b) : RowAt w' g u t ∧ RowAt w' q' u t := by
  have h3 := h2.keep hs hk hq
  refine ⟨?_, h3⟩
  obtain ⟨A, n, c, rfl, his, _⟩ := h3
  obtain ⟨A1, n1, c1, e, _, hne⟩ := h1
  injection e with e1 e2 e3
  subst e1 e2 e3
  exact ⟨A, n, c, rfl, his, hne⟩
/-- v: a row of parts of the call's own; no list lies in the block q. -/
structure OwnR (w0 w : World) (v : Value) (q : Option Nat) (n : Nat) (F : Nat → List Int) : Prop where
  row : ∃ vs : List Value, w.ownsRow w0.heap.size 27 2 v n vs ∧ ∀ j, j < n * 2 → ∃ u, vs[j]? = some u ∧ RowAt w v.ownBlock u (F j) ∧ RowAt w q u (F j)
  below : Below w0.heap.size w0 w
section
variable {w0 w w' : World} {v : Value} {q q' : Option Nat} {n : Nat} {F F' : Nat → List Int}
theorem OwnR.start (hb : Below w0.heap.size w0 w) : OwnR w0 w (.slice none 0 0) q 0 F := ⟨⟨[], World.ownsRow_nil _ _ _ _, fun j hj => absurd hj (by simp)⟩, hb⟩
theorem OwnR.later (h : OwnR w0 w v q n F) (hb : Below w.heap.size w w') : OwnR w0 w' v q n F := by
  obtain ⟨vs, h1, h2⟩ := h.row
  have hg : w.grownBy w' none := ⟨hb.os, hb.tape, hb.output, hb.size, fun i hi _ => hb.block i hi⟩
  refine ⟨⟨vs, h1.kept hg (by cases hv : v.ownBlock <;> simp), fun j hj => ?_⟩, h.below.grown hg h.below.size (fun k hk => by cases hk)⟩
  obtain ⟨u, hu, hr, hr2⟩ := h2 j hj
  exact ⟨u, hu, hr.keep hb.size (fun b hb' _ => hb.block b hb') (.inl rfl), hr2.keep hb.size (fun b hb' _ => hb.block b hb') (.inl rfl)⟩
theorem OwnR.lt (h : OwnR w0 w v q n F) {k : Nat} (hk : v.ownBlock = some k) : k < w.heap.size := by
  obtain ⟨vs, h1, _⟩ := h.row
  exact (h1.lt k hk).2
theorem OwnR.isPart (h : OwnR w0 w v q n F) {k : Nat} (hk : v.ownBlock = some k) : ∃ cur, w.heap[k]? = some (.cells cur 27 (0, 0)) := by
  obtain ⟨xs, h1, _⟩ := h.row
  rcases h1.2 with ⟨rfl, _⟩ | ⟨g', cap, cur, rfl, hb, hh, _⟩
  · simp [Value.ownBlock] at hk
  · have : g' = k := by simpa [Value.ownBlock] using hk
    subst this
    exact ⟨cur, hh⟩
theorem OwnR.slice (h : OwnR w0 w v q n F) : ∃ A c, v = .slice A n c := by
  obtain ⟨xs, h1, _⟩ := h.row
  rcases h1.2 with ⟨rfl, rfl⟩ | ⟨g, cap, cur, rfl, _⟩
  · exact ⟨_, _, rfl⟩
  · exact ⟨_, _, rfl⟩
/-- The row of integers whose block is q has turned. -/
theorem OwnR.turned {u u' : Value} {ys : List Int} (h : OwnR w0 w v u.ownBlock n F) (hu : Own w0 w u ys) (hg : w.grownBy w' u.ownBlock) (ho : u'.ownBlock = u.ownBlock ∨ u'.ownBlock = some w.heap.size) : OwnR w0 w' v u'.ownBlock n F := by
  obtain ⟨vs, h1, h2⟩ := h.row
  have hne : v.ownBlock = none ∨ v.ownBlock ≠ u.ownBlock := by
    cases hv : v.ownBlock with
    | none => exact .inl rfl
    | some k =>
      refine .inr fun e => ?_
      obtain ⟨cur, hc⟩ := h.isPart hv
      obtain ⟨cur', hc', _⟩ := hu.ownsInt e.symm
      rw [hc] at hc'
      injection hc' with hc'
      injection hc' with _ ht
      revert ht
      decide
  refine ⟨⟨vs, h1.kept hg hne, fun j hj => ?_⟩, h.below.grown hg h.below.size (fun k hk => (hu.row.lt k hk).1)⟩
  obtain ⟨x, hx, hr, hr2⟩ := h2 j hj
  obtain ⟨k1, k2⟩ := hr.both hr2 hg.size (fun b hb hn => hg.block b hb hn) (q' := u'.ownBlock) (ho.imp id fun e b hb => by
    rw [e] at hb
    injection hb with hb
    omega)
  exact ⟨x, hx, k1, k2⟩
theorem OwnR.ps (h : OwnR w0 w v q n F) : ∃ A c, v = .slice A n c ∧ PS w w.heap.size A n c F := by
  obtain ⟨vs, h1, h2⟩ := h.row
  rcases h1.2 with ⟨rfl, hx⟩ | ⟨g, cap, cur, rfl, hb, hg, hnc, hcm, hcs, htake⟩
  · have : n = 0 := by
      have h3 : vs.length = n * 2 := h1.1
      rw [hx] at h3
      simp at h3
      omega
    subst this
    exact ⟨none, 0, rfl, Nat.le_refl _, by omega, fun h => absurd h (by omega)⟩
  · refine ⟨_, _, rfl, hnc, hcm, fun hn => ⟨g, 0, rfl, (Array.getElem?_eq_some_iff.1 hg).1, fun j hj => ?_⟩⟩
    obtain ⟨u, hu, ⟨A, nj, cj, rfl, his, _⟩, _⟩ := h2 j hj
    have c1 := h1.cellAt j (by omega)
    simp only [Nat.zero_add]
    exact ⟨A, nj, cj, c1.trans hu, his⟩
set_option maxHeartbeats 1000000 in
/-- 'append(v, p)': the part has been laid into a block of its own. -/
theorem run_append_partR (hown : OwnR w0 w v q n F) {u1 u2 : Value} {t1 t2 : List Int} (r1 : RowAt w v.ownBlock u1 t1) (r2 : RowAt w v.ownBlock u2 t2) (s1 : RowAt w q u1 t1) (s2 : RowAt w q u2 t2) (hl : n + 1 ≤ 1000000) (ty : TypeId) (hF : ∀ j, j < n * 2 → F' j = F j) (h1' : F' (n * 2) = t1) (h2' : F' (n * 2 + 1) = t2) :
    ∃ v' w', (Builtin.append_ #[64, 64] ty #[v, .slice (some ⟨w.heap.size, 0, none⟩) 1 1]).run Try.prog (w.alloc (.cells #[u1, u2] 27)) = .ok v' w' ∧
      OwnR w0 w' v' q (n + 1) F' ∧ (w.alloc (.cells #[u1, u2] 27)).grownBy w' v.ownBlock := by
  have R1 := r1
  have R2 := r2
  obtain ⟨A1, n1, c1, rfl, _, _⟩ := r1
  obtain ⟨A2, n2, c2, rfl, _, _⟩ := r2
  obtain ⟨i0, hi, hz0, hz1, hz2⟩ := info_parts Try.infoPart
  obtain ⟨xs, h1, h2⟩ := hown.row
  have hbl : Below w0.heap.size w0 (w.alloc (.cells #[.slice A1 n1 c1, .slice A2 n2 c2] 27)) := hown.below.alloc hown.below.size _
  obtain ⟨v', w', hrun, g1, g2, _, g3⟩ := run_append_own_at (P := Try.prog) (w.alloc (.cells #[.slice A1 n1 c1, .slice A2 n2 c2] 27)) w0.heap.size 64 ty 27 i0 (.agg #[.slice none 0 0, .slice none 0 0]) 2 48 Try.underlying64 hi hz0 hz1 hz2 rfl (by decide)
    v n xs (h1.alloc _) ⟨w.heap.size, 0, none⟩ 1 1 [.slice A1 n1 c1, .slice A2 n2 c2] rfl (fun j z hj => by
      match j, hj with
      | 0, hj => simp at hj; subst hj; simp [Addr.add]
      | 1, hj => simp at hj; subst hj; simp [Addr.add]) (by intro z hz; simp at hz; rcases hz with rfl | rfl <;> rfl) (by unfold maxLen; omega) (by omega) (by have := hown.below.size; simp; omega)
  have hsz' : (w.alloc (.cells #[.slice A1 n1 c1, .slice A2 n2 c2] 27)).heap.size = w.heap.size + 1 := by simp
  have hs2 := g2.size
  have hkeep : ∀ b, b < w.heap.size → some b ≠ v.ownBlock → w'.heap[b]? = w.heap[b]? := fun b hb hne => (g2.block b (by omega) hne).trans (Below.heap_alloc _ _ _ hb)
  have hgg : v'.ownBlock = v.ownBlock ∨ ∀ b, v'.ownBlock = some b → w.heap.size ≤ b := by
    rcases g3 with h | h
    · exact .inl h
    · refine .inr fun b hb => ?_
      rw [h] at hb
      injection hb with hb
      omega
  have hlen : xs.length = n * 2 := h1.1
  refine ⟨v', w', hrun, ⟨⟨_, g1, fun j hj => ?_⟩, hbl.grown g2 hbl.size (fun k hk => (h1.lt k hk).1)⟩, g2⟩
  rcases Nat.lt_or_ge j (n * 2) with h | h
  · obtain ⟨u, hu, hr, hr2⟩ := h2 j h
    rw [hF j h]
    obtain ⟨k1, k2⟩ := hr2.both hr (by omega) hkeep hgg
    exact ⟨u, by rw [List.getElem?_append_left (by omega)]; exact hu, k2, k1⟩
  · rw [List.getElem?_append_right (by omega), hlen]
    match hk : j - n * 2, (by omega : j - n * 2 < 2) with
    | 0, _ =>
      obtain rfl : j = n * 2 := by omega
      rw [h1']
      obtain ⟨k1, k2⟩ := s1.both R1 (by omega) hkeep hgg
      exact ⟨_, rfl, k2, k1⟩
    | 1, _ =>
      obtain rfl : j = n * 2 + 1 := by omega
      rw [h2']
      obtain ⟨k1, k2⟩ := s2.both R2 (by omega) hkeep hgg
      exact ⟨_, rfl, k2, k1⟩
theorem wpList_append_partR {ops : Array Oper} {rest : List Oper} {o : Oper} {a : Act} {Q : Exit → Act → World → Prop} (hgd : o.guard = none) (s x : Operand)
    (ho : o.op = .call { callee := .builtin .append, args := #[s, x], argTypes := #[64, 64] }) (hs : a.eval s = v) (hown : OwnR w0 w v q n F) {u1 u2 : Value} {t1 t2 : List Int} (r1 : RowAt w v.ownBlock u1 t1) (r2 : RowAt w v.ownBlock u2 t2) (s1 : RowAt w q u1 t1) (s2 : RowAt w q u2 t2)
    (hx : a.eval x = .slice (some ⟨w.heap.size, 0, none⟩) 1 1) (hl : n + 1 ≤ 1000000) (hF : ∀ j, j < n * 2 → F' j = F j) (h1' : F' (n * 2) = t1) (h2' : F' (n * 2 + 1) = t2)
    (h : ∀ v' w', OwnR w0 w' v' q (n + 1) F' → (w.alloc (.cells #[u1, u2] 27)).grownBy w' v.ownBlock → wpList Try.prog ops Q rest (a.put o.dst v') w') : wpList Try.prog ops Q (o :: rest) a (w.alloc (.cells #[u1, u2] 27)) := by
  obtain ⟨v', w', hrun, h2, h3⟩ := run_append_partR hown r1 r2 s1 s2 hl o.type hF h1' h2'
  refine wpList_plain hgd fun K hK => ?_
  unfold Oper.wp execOp
  simp only [ho, resolve, invoke, builtin, Sem.run_bind, Sem.run_pure, Result.andThen_ok, List.map_toArray, List.map_cons, List.map_nil, hs, hx, hrun]
  exact hK _ _ (h v' w' h2 h3)
end
end Go.Proofs.Ythobfbnopkbniaa
