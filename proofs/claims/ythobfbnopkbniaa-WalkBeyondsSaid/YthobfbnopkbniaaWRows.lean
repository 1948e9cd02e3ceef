/-
  A row of parts that the call itself owns, each with two rows of its own ('OwnP'), and the laws on append over it and on what is put behind one of the lists. Plain theorems; no conditions.
-/
import Derived.Test.YthobfbnopkbniaaRWhole
import Derived.Test.YthobfbnopkbniaaWQueue
namespace Go.Proofs.Ythobfbnopkbniaa
open Go.RowKit

theorem Try.infoPart : (Try.prog.info? 27).map (fun i => (i.zero, i.size, i.bytes)) = some (some (.agg #[.slice none 0 0, .slice none 0 0]), 2, 48) := by kernel_rfl

/-- f, turned at one place. -/
def atN {α : Type} (f : Nat → α) (i : Nat) (x : α) : Nat → α := fun j => if j = i then x else f j
theorem atN_same {α : Type} (f : Nat → α) (i : Nat) (x : α) : atN f i x i = x := if_pos rfl
theorem atN_ne {α : Type} (f : Nat → α) {i j : Nat} (x : α) (h : j ≠ i) : atN f i x j = f j := if_neg h

/-- v: a row of n parts; its lists, one after another, are F 0, F 1 (of the first), F 2, ..; u: their slices. -/
structure OwnP (w0 w : World) (v : Value) (n : Nat) (u : Nat → Value) (F : Nat → List Int) : Prop where
  row : ∃ xs, w.ownsRow w0.heap.size 27 2 v n xs ∧ ∀ i, i < n * 2 → xs[i]? = some (u i)
  each : ∀ i, Own w0 w (u i) (F i)
  apart : ∀ i k, i ≠ k → (u i).ownBlock = none ∨ (u i).ownBlock ≠ (u k).ownBlock
  rest : ∀ i, n * 2 ≤ i → u i = .slice none 0 0 ∧ F i = []
  below : Below w0.heap.size w0 w

section
variable {w0 w w' : World} {v : Value} {n : Nat} {u : Nat → Value} {F : Nat → List Int}
theorem OwnP.start (hb : Below w0.heap.size w0 w) : OwnP w0 w (.slice none 0 0) 0 (fun _ => .slice none 0 0) (fun _ => []) :=
  ⟨⟨[], World.ownsRow_nil _ _ _ _, fun i hi => absurd hi (by omega)⟩, fun _ => Own.start_at hb, fun _ _ _ => .inl rfl, fun _ _ => ⟨rfl, rfl⟩, hb⟩
theorem OwnP.kept {row : Option Nat} (h : OwnP w0 w v n u F) (hg : w.grownBy w' row) (hr : ∀ k, row = some k → w0.heap.size ≤ k) (hv : v.ownBlock = none ∨ v.ownBlock ≠ row) (hu : ∀ i, (u i).ownBlock = none ∨ (u i).ownBlock ≠ row) : OwnP w0 w' v n u F := by
  obtain ⟨xs, h1, h2⟩ := h.row
  exact ⟨⟨xs, h1.kept hg hv, h2⟩, fun i => (h.each i).kept hg hr (hu i), h.apart, h.rest, h.below.grown hg h.below.size hr⟩
theorem OwnP.later (h : OwnP w0 w v n u F) (hb : Below w.heap.size w w') : OwnP w0 w' v n u F :=
  h.kept (row := none) ⟨hb.os, hb.tape, hb.output, hb.size, fun i hi _ => hb.block i hi⟩ (fun k hk => by cases hk) (by cases hv : v.ownBlock <;> simp) (fun i => by cases hv : (u i).ownBlock <;> simp)
theorem OwnP.alloc (h : OwnP w0 w v n u F) (o : Obj) : OwnP w0 (w.alloc o) v n u F := h.later (Below.refl _ _ |>.alloc (Nat.le_refl _) o)
theorem OwnP.isPart (h : OwnP w0 w v n u F) {k : Nat} (hk : v.ownBlock = some k) : ∃ cur, w.heap[k]? = some (.cells cur 27 (0, 0)) ∧ w0.heap.size ≤ k := by
  obtain ⟨xs, h1, _⟩ := h.row
  rcases h1.2 with ⟨rfl, _⟩ | ⟨g', cap, cur, rfl, hb, hh, _⟩
  · simp [Value.ownBlock] at hk
  · have : g' = k := by simpa [Value.ownBlock] using hk
    subst this
    exact ⟨cur, hh, hb⟩
theorem OwnP.notInt (h : OwnP w0 w v n u F) {k : Nat} {cur : Array Value} (hk : w.heap[k]? = some (.cells cur 3 (0, 0))) : v.ownBlock ≠ some k := by
  intro e
  obtain ⟨cur', hc, _⟩ := h.isPart e
  rw [hk] at hc
  injection hc with hc
  injection hc with _ ht
  revert ht
  decide
/-- The row's block is none of its lists'. -/
theorem OwnP.row_ne (h : OwnP w0 w v n u F) (i : Nat) : v.ownBlock = none ∨ v.ownBlock ≠ (u i).ownBlock := by
  cases hv : v.ownBlock with
  | none => exact .inl rfl
  | some k =>
    refine .inr fun e => ?_
    obtain ⟨cur, hc, _⟩ := (h.each i).ownsInt e.symm
    exact h.notInt hc hv
theorem OwnP.notMap (h : OwnP w0 w v n u F) {b m : Nat} {f : Int → Option Value} (hm : MV w b m f) : v.ownBlock ≠ some b := by
  intro e
  obtain ⟨es, clock, hb⟩ := hm.block
  obtain ⟨cur, hc, _⟩ := h.isPart e
  rw [hb] at hc
  cases hc
/-- A map of the call's own has turned. -/
theorem OwnP.mapped (h : OwnP w0 w v n u F) {b m : Nat} {f : Int → Option Value} (hm : MV w b m f) (hb : w0.heap.size ≤ b) (hg : w.grownBy w' (some b)) : OwnP w0 w' v n u F :=
  h.kept hg (fun k hk => by cases hk; exact hb) (.inr (h.notMap hm)) (fun i => .inr ((h.each i).notMap hm))
theorem OwnP.len (h : OwnP w0 w v n u F) : ∃ A c, v = .slice A n c := by
  obtain ⟨xs, h1, _⟩ := h.row
  rcases h1.2 with ⟨rfl, rfl⟩ | ⟨g, cap, cur, rfl, _⟩
  · exact ⟨_, _, rfl⟩
  · exact ⟨_, _, rfl⟩
/-- Where it lies. -/
theorem OwnP.at_ (h : OwnP w0 w v n u F) {i : Nat} (hi : i < n * 2) : ∃ g c, v = .slice (some ⟨g, 0, none⟩) n c ∧ n ≤ c ∧ c ≤ 9223372036854775807 ∧ w0.heap.size ≤ g ∧ g < w.heap.size ∧ ∀ i, i < n * 2 → w.cell? ⟨g, i, none⟩ = some (u i) := by
  obtain ⟨xs, h1, h2⟩ := h.row
  have h1' := h1
  rcases h1'.2 with ⟨rfl, rfl⟩ | ⟨g, cap, cur, rfl, hb, hg, hnc, hcm, _⟩
  · omega
  · exact ⟨g, cap, rfl, hnc, hcm, hb, (Array.getElem?_eq_some_iff.1 hg).1, fun i hi => (h1.cellAt i hi).trans (h2 i hi)⟩

/-- One list has been turned (append): its slice is put back. -/
theorem OwnP.put {g c : Nat} (h : OwnP w0 w (.slice (some ⟨g, 0, none⟩) n c) n u F) {i : Nat} (hi : i < n * 2) {o : Obj} {v' : Value} {xs' : List Int} (hr : Own w0 w' v' xs') (hg : (w.alloc o).grownBy w' (u i).ownBlock)
    (ho : v'.ownBlock = (u i).ownBlock ∨ v'.ownBlock = some (w.heap.size + 1)) : OwnP w0 (w'.setCell ⟨g, i, none⟩ v') (.slice (some ⟨g, 0, none⟩) n c) n (atN u i v') (atN F i xs') := by
  obtain ⟨xs, h1, h2⟩ := h.row
  have hnew : ∀ k, (u i).ownBlock = some k → w0.heap.size ≤ k := fun k hk => ((h.each i).row.lt k hk).1
  have h1' := (h1.alloc o).kept hg (h.row_ne i)
  obtain ⟨h3, hset⟩ := h1'.stored i v'
  have hgn : w0.heap.size ≤ g := (h1.lt g rfl).1
  have hne : ∀ (v1 : Value) (ys : List Int), Own w0 w' v1 ys → v1.ownBlock ≠ some g := fun v1 ys hv e => by
    obtain ⟨cur, hc, _⟩ := hv.ownsInt e
    rcases h1'.2 with ⟨h4, _⟩ | ⟨g', cap, cur', h4, _, h5, _⟩
    · cases h4
    · injection h4 with h4
      injection h4 with h4
      injection h4 with h4
      subst h4
      rw [hc] at h5
      injection h5 with h5
      injection h5 with _ ht
      revert ht
      decide
  have hother : ∀ k, k ≠ i → Own w0 w' (u k) (F k) := fun k hk => ((h.each k).alloc o).kept hg hnew (h.apart k i hk)
  have hap : ∀ k, k ≠ i → (u k).ownBlock = none ∨ (u k).ownBlock ≠ v'.ownBlock := fun k hk => by
    rcases ho with e | e
    · rw [e]; exact h.apart k i hk
    · rw [e]
      cases hv : (u k).ownBlock with
      | none => exact .inl rfl
      | some b =>
        refine .inr fun e' => ?_
        injection e' with e'
        obtain ⟨cur, hc, _⟩ := (h.each k).ownsInt hv
        have := (Array.getElem?_eq_some_iff.1 hc).1
        omega
  refine ⟨⟨_, h3, fun k hk => ?_⟩, fun k => ?_, fun k l hkl => ?_, fun k hk => ?_, ?_⟩
  · by_cases e : k = i
    · subst e
      rw [atN_same, List.getElem?_set]
      have := h1.1
      simp only [if_true]
      rw [if_pos (by omega)]
    · rw [atN_ne _ _ e, List.getElem?_set, if_neg (fun e' => e e'.symm)]
      exact h2 k hk
  · by_cases e : k = i
    · subst e
      rw [atN_same, atN_same]
      exact hr.kept hset (fun k hk => by cases hk; exact hgn) (.inr (hne _ _ hr))
    · rw [atN_ne _ _ e, atN_ne _ _ e]
      exact (hother k e).kept hset (fun k hk => by cases hk; exact hgn) (.inr (hne _ _ (hother k e)))
  · by_cases e : k = i
    · have hli : l ≠ i := fun e' => hkl (e.trans e'.symm)
      subst e
      rw [atN_same, atN_ne _ _ hli]
      rcases hap l hli with h' | h'
      · rw [h']; cases v'.ownBlock <;> simp
      · exact .inr fun e' => h' e'.symm
    · by_cases e2 : l = i
      · subst e2
        rw [atN_same, atN_ne _ _ e]
        exact hap k e
      · rw [atN_ne _ _ e, atN_ne _ _ e2]
        exact h.apart k l hkl
  · rw [atN_ne _ _ (by omega), atN_ne _ _ (by omega)]
    exact h.rest k hk
  · exact hr.below.grown hset hr.below.size (fun k hk => by cases hk; exact hgn)
/-- What is needed between append and store. -/
theorem OwnP.mid {g c : Nat} (h : OwnP w0 w (.slice (some ⟨g, 0, none⟩) n c) n u F) {i : Nat} (hi : i < n * 2) {o : Obj} (hg : (w.alloc o).grownBy w' (u i).ownBlock) : w'.cell? ⟨g, i, none⟩ = some (u i) ∧ w'.frozen? ⟨g, i, none⟩ = false := by
  obtain ⟨xs, h1, h2⟩ := h.row
  have h1' := (h1.alloc o).kept hg (h.row_ne i)
  exact ⟨(h1'.cellAt i hi).trans (h2 i hi), h1'.frozenAt i⟩

/-- 'append(v, api.Part{})': the part has been laid into a block of its own. -/
theorem run_append_part (hown : OwnP w0 w v n u F) (hl : n + 1 ≤ 1000000) (ty : TypeId) :
    ∃ v' w', (Builtin.append_ #[64, 64] ty #[v, .slice (some ⟨w.heap.size, 0, none⟩) 1 1]).run Try.prog (w.alloc (.cells #[.slice none 0 0, .slice none 0 0] 27)) = .ok v' w' ∧
      OwnP w0 w' v' (n + 1) u F ∧ (w.alloc (.cells #[.slice none 0 0, .slice none 0 0] 27)).grownBy w' v.ownBlock := by
  obtain ⟨i0, hi, hz0, hz1, hz2⟩ := info_parts Try.infoPart
  obtain ⟨xs, h1, h2⟩ := hown.row
  have hbl : Below w0.heap.size w0 (w.alloc (.cells #[.slice none 0 0, .slice none 0 0] 27)) := hown.below.alloc hown.below.size _
  obtain ⟨v', w', hrun, g1, g2, _, g3⟩ := run_append_own_at (P := Try.prog) (w.alloc (.cells #[.slice none 0 0, .slice none 0 0] 27)) w0.heap.size 64 ty 27 i0 (.agg #[.slice none 0 0, .slice none 0 0]) 2 48 Try.underlying64 hi hz0 hz1 hz2 rfl (by decide)
    v n xs (h1.alloc _) ⟨w.heap.size, 0, none⟩ 1 1 [.slice none 0 0, .slice none 0 0] rfl (fun j z hj => by
      match j, hj with
      | 0, hj => simp at hj; subst hj; simp [Addr.add]
      | 1, hj => simp at hj; subst hj; simp [Addr.add]) (by intro z hz; simp at hz; subst hz; rfl) (by unfold maxLen; omega) (by omega) (by have := hown.below.size; simp; omega)
  have hlen := h1.1
  refine ⟨v', w', hrun, ⟨⟨_, g1, fun i hi => ?_⟩, fun i => ((hown.each i).alloc _).kept g2 (fun k hk => (h1.lt k hk).1) ?_, hown.apart, fun i hi => hown.rest i (by omega), hbl.grown g2 hbl.size (fun k hk => (h1.lt k hk).1)⟩, g2⟩
  · rcases Nat.lt_or_ge i (n * 2) with h | h
    · rw [List.getElem?_append_left (by omega)]
      exact h2 i h
    · rw [List.getElem?_append_right (by omega), (hown.rest i h).1, hlen]
      match hk : i - n * 2, (by omega : i - n * 2 < 2) with
      | 0, _ => rfl
      | 1, _ => rfl
  · cases hk : (u i).ownBlock with
    | none => exact .inl rfl
    | some k =>
      refine .inr fun e => ?_
      rcases hown.row_ne i with h | h
      · rw [h] at e; cases e
      · exact h (e.symm.trans hk.symm)
theorem wpList_append_part {ops : Array Oper} {rest : List Oper} {o : Oper} {a : Act} {Q : Exit → Act → World → Prop} (hgd : o.guard = none) (s x : Operand)
    (ho : o.op = .call { callee := .builtin .append, args := #[s, x], argTypes := #[64, 64] }) (hs : a.eval s = v) (hown : OwnP w0 w v n u F) (hx : a.eval x = .slice (some ⟨w.heap.size, 0, none⟩) 1 1) (hl : n + 1 ≤ 1000000)
    (h : ∀ v' w', OwnP w0 w' v' (n + 1) u F → (w.alloc (.cells #[.slice none 0 0, .slice none 0 0] 27)).grownBy w' v.ownBlock → wpList Try.prog ops Q rest (a.put o.dst v') w') : wpList Try.prog ops Q (o :: rest) a (w.alloc (.cells #[.slice none 0 0, .slice none 0 0] 27)) := by
  obtain ⟨v', w', hrun, h2, h3⟩ := run_append_part hown hl o.type
  refine wpList_plain hgd fun K hK => ?_
  unfold Oper.wp execOp
  simp only [ho, resolve, invoke, builtin, Sem.run_bind, Sem.run_pure, Result.andThen_ok, List.map_toArray, List.map_cons, List.map_nil, hs, hx, hrun]
  exact hK _ _ (h v' w' h2 h3)
end
end Go.Proofs.Ythobfbnopkbniaa
