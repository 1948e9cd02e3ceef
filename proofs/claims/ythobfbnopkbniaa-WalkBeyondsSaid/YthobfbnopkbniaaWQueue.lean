/-
  A queue of integers in a captured variable: a row that is cut in front and appended to behind ('OwnQ'); the contracts of walk.queue and of what it hands back. No conditions on the program.
-/
import Derived.Test.YthobfbnopkbniaaGBase
import Derived.Deep.AppendSrc
import Derived.Deep.DeepMust
namespace Go.Proofs.Ythobfbnopkbniaa
open Go.RowKit

/-- The slice value v lies in a row from block B on (or is nil); it reads as xs. -/
def OwnQ (w : World) (B : Nat) (v : Value) (xs : List Int) : Prop :=
  ∃ A n c, v = .slice A n c ∧ xs.length = n ∧ n ≤ c ∧ c ≤ 9223372036854775807 ∧ (∀ x ∈ xs, I64 x) ∧
    ((A = none ∧ c = 0) ∨ ∃ g off cur, A = some ⟨g, off, none⟩ ∧ B ≤ g ∧ w.heap[g]? = some (.cells cur 3 (0, 0)) ∧ off + c ≤ cur.size ∧ ∀ j, j < n → cur[off + j]? = some (.int .i64 (xs.getD j 0)))
/-- The variable at block b holds such a slice. -/
def QI (w : World) (B b : Nat) (xs : List Int) : Prop := ∃ v, w.heap[b]? = some (.cells #[v] 25 (0, 0)) ∧ B ≤ b ∧ OwnQ w B v xs

theorem addr_add' (b o j : Nat) : (⟨b, o, none⟩ : Addr).add j = ⟨b, o + j, none⟩ := by unfold Addr.add; split <;> simp_all
theorem frozen_of_row {w : World} {b i : Nat} {cs : Array Value} {t : TypeId} (h : w.heap[b]? = some (.cells cs t (0, 0))) : w.frozen? ⟨b, i, none⟩ = false := by simp [World.frozen?, h]
theorem World.drew_cell (w : World) (p : Addr) : w.drew.cell? p = w.cell? p := rfl
theorem cells_ne {w : World} {g b : Nat} {cur cur' : Array Value} {t t' : TypeId} {f f' : Nat × Nat} (h : w.heap[g]? = some (.cells cur t f)) (h' : w.heap[b]? = some (.cells cur' t' f')) (ht : t ≠ t') : g ≠ b := by
  rintro rfl
  rw [h] at h'
  injection h' with h'
  injection h' with _ h2
  exact ht h2
theorem OwnQ.keep {w w' : World} {B : Nat} {v : Value} {xs : List Int} (h : OwnQ w B v xs) (hk : ∀ (g : Nat) (cur : Array Value), w.heap[g]? = some (.cells cur 3 (0, 0)) → w'.heap[g]? = w.heap[g]?) : OwnQ w' B v xs := by
  obtain ⟨A, n, c, rfl, h1, h2, h3, h4, h5⟩ := h
  refine ⟨A, n, c, rfl, h1, h2, h3, h4, ?_⟩
  rcases h5 with h5 | ⟨g, off, cur, e, hB, hg, hs, hc⟩
  · exact .inl h5
  · exact .inr ⟨g, off, cur, e, hB, (hk g cur hg).trans hg, hs, hc⟩
/-- A block of another kind is written; new blocks come. -/
theorem QI.grown {w w' : World} {B b m : Nat} {xs : List Int} (h : QI w B b xs) (hg : w.grownBy w' (some m)) (hm : m < B ∨ ∃ es clock, w.heap[m]? = some (.map es clock)) : QI w' B b xs := by
  obtain ⟨v, hb, hB, hq⟩ := h
  have key : ∀ (g : Nat) (cs : Array Value) (t : TypeId), B ≤ g → w.heap[g]? = some (.cells cs t (0, 0)) → w'.heap[g]? = w.heap[g]? := fun g cs t hBg hgc => by
    refine hg.block g (Array.getElem?_eq_some_iff.1 hgc).1 fun e => ?_
    injection e with e
    subst e
    rcases hm with hm | ⟨es, clock, hm⟩
    · omega
    · rw [hm] at hgc; cases hgc
  refine ⟨v, (key b _ _ hB hb).trans hb, hB, ?_⟩
  obtain ⟨A, n, c, rfl, h1, h2, h3, h4, h5⟩ := hq
  refine ⟨A, n, c, rfl, h1, h2, h3, h4, ?_⟩
  rcases h5 with h5 | ⟨g, off, cur, e, hBg, hgc, hs, hc⟩
  · exact .inl h5
  · exact .inr ⟨g, off, cur, e, hBg, (key g _ _ hBg hgc).trans hgc, hs, hc⟩
theorem QI.later {w w' : World} {B b : Nat} {xs : List Int} (h : QI w B b xs) (hb : Below w.heap.size w w') : QI w' B b xs := by
  obtain ⟨v, hb', hB, hq⟩ := h
  exact ⟨v, (hb.block b (Array.getElem?_eq_some_iff.1 hb').1).trans hb', hB, hq.keep fun g cur hg => hb.block g (Array.getElem?_eq_some_iff.1 hg).1⟩

set_option maxRecDepth 100000 in
theorem run_append_q {w : World} {B : Nat} {v : Value} {xs : List Int} (hown : OwnQ w B v xs) (hB : B ≤ w.heap.size) (z : Int) (hz : I64 z) (hb : xs.length + 1 ≤ 1000000000000) (ty : TypeId) :
    ∃ v' w', (Builtin.append_ #[25, 25] ty #[v, .slice (some ⟨w.heap.size, 0, none⟩) 1 1]).run Try.prog (w.alloc (.cells #[.int .i64 z] 3)) = .ok v' w' ∧ OwnQ w' B v' (xs ++ [z]) ∧ Below B w w' ∧
      (∀ (g : Nat) (cs : Array Value) (t : TypeId), w.heap[g]? = some (.cells cs t (0, 0)) → t ≠ 3 → w'.heap[g]? = w.heap[g]?) := by
  obtain ⟨i0, hi, hz0, hz1, hz2⟩ := info_parts Try.infoInt
  obtain ⟨A, n, c, rfl, h1, h2, h3, h4, h5⟩ := hown
  have hi64 : ∀ x ∈ xs ++ [z], I64 x := fun x hx => (List.mem_append.1 hx).elim (h4 x) (fun h => by rw [List.mem_singleton] at h; subst h; exact hz)
  have hbl : Below B w (w.alloc (.cells #[.int .i64 z] 3)) := (Below.refl _ _).alloc hB _
  obtain ⟨W, hW⟩ : ∃ W, w.alloc (.cells #[.int .i64 z] 3) = W := ⟨_, rfl⟩
  have hsz : W.heap.size = w.heap.size + 1 := by rw [← hW]; simp
  have hold : ∀ g, g < w.heap.size → W.heap[g]? = w.heap[g]? := fun g hg => by rw [← hW]; exact Below.heap_alloc _ _ _ hg
  have hsrc : Src Try.prog i0.size 25 (.slice (some ⟨w.heap.size, 0, none⟩) 1 1) 1 [.int .i64 z] W := by
    rw [hz1, ← hW]
    exact Src.ofSlice (P := Try.prog) _ Try.underlying25 _ 1 1 _ rfl (cell_one_new _ _ _) (by intro u hu; simp at hu; subst hu; rfl)
  rw [hW] at hbl ⊢
  have grow : ∀ (olds : List Value), c < n + 1 → olds = xs.map (Value.int .i64) → (Builtin.firstCells i0.size n (.slice A n c)).run Try.prog W.drew = .ok olds.toArray W.drew →
      ∃ v' w', (Builtin.append_ #[25, 25] ty #[.slice A n c, .slice (some ⟨w.heap.size, 0, none⟩) 1 1]).run Try.prog W = .ok v' w' ∧ OwnQ w' B v' (xs ++ [z]) ∧ Below B w w' ∧
        (∀ (g : Nat) (cs : Array Value) (t : TypeId), w.heap[g]? = some (.cells cs t (0, 0)) → t ≠ 3 → w'.heap[g]? = w.heap[g]?) := by
    intro olds hlt ho hrun
    have hr := run_append_grow_src (P := Try.prog) W 25 25 ty 3 i0 (.int .i64 0) Try.underlying25 hi hz0 A n c olds hrun _ 1 _ hsrc (by omega) (by omega) (growslice_fits (by omega) (by rw [hz2]; omega))
    refine ⟨_, _, hr, ?_, ?_, ?_⟩
    · have hge := grownCap_ge W (n + 1) c 3
      have hcm : grownCap W (n + 1) c 3 ≤ maxLen := grownCap_le_maxLen W (n + 1) c 3 (by unfold maxLen; omega)
      refine ⟨_, _, _, rfl, by rw [List.length_append, h1]; rfl, hge, by unfold maxLen at hcm; exact hcm, hi64, .inr ⟨W.heap.size, 0, _, rfl, by omega, heap_alloc_new W.drew _, ?_, fun j hj => ?_⟩⟩
      · have hzc : (Value.int IntKind.i64 0).cells.size = 1 := rfl
        rw [ho, Array.size_append, List.size_toArray, size_zeroCells, hzc]
        simp only [List.length_append, List.length_map, h1, List.length_cons, List.length_nil]
        omega
      · rw [Nat.zero_add, ho, Array.getElem?_append_left (by simp [h1]; omega)]
        have e : (List.map (Value.int IntKind.i64) xs ++ [Value.int IntKind.i64 z]) = (xs ++ [z]).map (Value.int .i64) := by simp
        rw [e, List.getElem?_toArray, List.getElem?_map, List.getD_eq_getElem?_getD, List.getElem?_eq_getElem (by rw [List.length_append, h1]; exact hj)]
        rfl
    · have hd : Below B W W.drew := ⟨rfl, rfl, rfl, Nat.le_refl _, fun _ _ => rfl⟩
      exact (hbl.trans hd).alloc (by show B ≤ W.heap.size; omega) _
    · intro g cs t hg _
      have hlt := (Array.getElem?_eq_some_iff.1 hg).1
      rw [← hold g hlt]
      exact Below.heap_alloc W.drew _ g (by show g < W.heap.size; omega)
  rcases h5 with ⟨rfl, rfl⟩ | ⟨g, off, cur, rfl, hBg, hg, hs, hc⟩
  · obtain rfl : n = 0 := by omega
    have hx : xs = [] := List.eq_nil_of_length_eq_zero h1
    subst hx
    exact grow [] (by omega) rfl (by simp [Builtin.firstCells])
  · have hglt := (Array.getElem?_eq_some_iff.1 hg).1
    have hgW : W.heap[g]? = some (.cells cur 3 (0, 0)) := (hold g hglt).trans hg
    by_cases hroom : n + 1 ≤ c
    · have hcell : W.cell? ⟨g, off + n, none⟩ = cur[off + n]? := cell_of_row W g (off + n) cur 3 (0, 0) hgW
      have hlt : off + n < cur.size := by omega
      have hr := run_append_room_src (P := Try.prog) (w := W) 25 25 ty 3 i0 Try.underlying25 hi g off n c _ 1 _ hsrc hroom
        (fun j hj => by
          obtain rfl : j = 0 := by simpa using hj
          rw [hz1, Nat.mul_one, Nat.add_zero, hcell, Array.getElem?_eq_getElem hlt]; rfl)
        (fun j hj => by
          obtain rfl : j = 0 := by simpa using hj
          simp [World.frozen?, hgW])
      rw [hz1, Nat.mul_one] at hr
      have hset : (W.setCells g (off + n) [.int .i64 z]) = W.setCell ⟨g, off + n, none⟩ (.int .i64 z) := rfl
      rw [hset] at hr
      refine ⟨_, _, hr, ?_, hbl.setCell hBg _, ?_⟩
      · refine ⟨_, _, _, rfl, by rw [List.length_append, h1]; rfl, hroom, h3, hi64, .inr ⟨g, off, cur.setIfInBounds (off + n) (.int .i64 z), rfl, hBg, by simp [World.setCell, Array.getElem?_modify, hgW], by simpa using hs, fun j hj => ?_⟩⟩
        by_cases hjn : j = n
        · subst hjn
          rw [Array.getElem?_setIfInBounds_self_of_lt hlt, List.getD_eq_getElem?_getD, List.getElem?_append_right (by omega)]
          simp [h1]
        · rw [Array.getElem?_setIfInBounds_ne (by omega), hc j (by omega), List.getD_eq_getElem?_getD, List.getD_eq_getElem?_getD, List.getElem?_append_left (by omega)]
      · intro g' cs t hg' hne
        have hlt' := (Array.getElem?_eq_some_iff.1 hg').1
        rw [← hold g' hlt']
        exact Below.heap_setCell _ _ _ _ (cells_ne hg' hg hne)
    · refine grow (xs.map (Value.int .i64)) (by omega) rfl ?_
      have hcn : c = n := by omega
      subst hcn
      refine run_firstCells_some (P := Try.prog) W.drew i0.size c ⟨g, off, none⟩ c c _ (by rw [hz1, List.length_map, h1, Nat.mul_one]) fun j v hv => ?_
      have hjl : j < xs.length := by
        rcases Nat.lt_or_ge j xs.length with h | h
        · exact h
        · rw [List.getElem?_eq_none (by simpa using h)] at hv; cases hv
      rw [addr_add', World.drew_cell, cell_of_row W g (off + j) cur 3 (0, 0) hgW, hc j (by omega), ← hv, List.getElem?_map, List.getD_eq_getElem?_getD, List.getElem?_eq_getElem hjl]
      rfl

/-- 'append(v, z)' in a walk: z has been laid into a block of its own. -/
theorem wpList_append_q {w : World} {B : Nat} {v : Value} {xs : List Int} {ops : Array Oper} {rest : List Oper} {o : Oper} {a : Act} {Q : Exit → Act → World → Prop} (hgd : o.guard = none) (s x : Operand)
    (ho : o.op = .call { callee := .builtin .append, args := #[s, x], argTypes := #[25, 25] }) (hs : a.eval s = v) (hown : OwnQ w B v xs) (hB : B ≤ w.heap.size) (z : Int) (hz : I64 z)
    (hx : a.eval x = .slice (some ⟨w.heap.size, 0, none⟩) 1 1) (hb : xs.length + 1 ≤ 1000000000000)
    (h : ∀ v' w', OwnQ w' B v' (xs ++ [z]) → Below B w w' → (∀ (g : Nat) (cs : Array Value) (t : TypeId), w.heap[g]? = some (.cells cs t (0, 0)) → t ≠ 3 → w'.heap[g]? = w.heap[g]?) → wpList Try.prog ops Q rest (a.put o.dst v') w') :
    wpList Try.prog ops Q (o :: rest) a (w.alloc (.cells #[.int .i64 z] 3)) := by
  obtain ⟨v', w', hrun, h2, h3, h4⟩ := run_append_q hown hB z hz hb o.type
  refine wpList_plain hgd fun K hK => ?_
  unfold Oper.wp execOp
  simp only [ho, resolve, invoke, builtin, Sem.run_bind, Sem.run_pure, Result.andThen_ok, List.map_toArray, List.map_cons, List.map_nil, hs, hx, hrun]
  exact hK _ _ (h v' w' h2 h3 h4)

theorem OwnQ.slice {w : World} {B : Nat} {v : Value} {xs : List Int} (h : OwnQ w B v xs) : ∃ A n c, v = .slice A n c ∧ n = xs.length ∧ c ≤ 9223372036854775807 := by
  obtain ⟨A, n, c, rfl, h1, _, h3, _⟩ := h
  exact ⟨A, n, c, rfl, h1.symm, h3⟩
/-- The variable is set. -/
theorem QI.set {w : World} {B b : Nat} {v v' : Value} {xs : List Int} (hb : w.heap[b]? = some (.cells #[v] 25 (0, 0))) (hB : B ≤ b) (hq : OwnQ w B v' xs) : QI (w.setCell ⟨b, 0, none⟩ v') B b xs := by
  refine ⟨v', by simp [World.setCell, Array.getElem?_modify, hb], hB, hq.keep fun g cur hg => Below.heap_setCell _ _ _ _ (cells_ne hg hb (by decide))⟩

set_option maxHeartbeats 1000000 in
theorem put_any (w : World) (B b : Nat) (xs : List Int) (z : Int) (h : QI w B b xs) (hz : I64 z) (hl : xs.length ≤ 1000000) :
    Calls Try.prog 94 #[.int .i64 z, .pointer (some ⟨b, 0, none⟩)] w fun e w' => e = .returned (.tuple #[]) ∧ QI w' B b (xs ++ [z]) ∧ Below B w w' := by
  obtain ⟨v, hb, hB, hq⟩ := h
  have hblt := (Array.getElem?_eq_some_iff.1 hb).1
  obtain ⟨A, n, c, rfl, hn, hcc⟩ := hq.slice
  have hc : w.cell? ⟨b, 0, none⟩ = some (.slice A n c) := cell_of_row w b 0 _ _ _ hb
  have HQ := Lib.hid hq
  have HB := Lib.hid hb
  clear hq hn hb
  go_enter Try.func94, Try.ntmps94
  go_wp2_with (at_builtin; go_must (refine wpList_append_q (v := .slice A n c) rfl _ _ rfl rfl HQ.out (by omega) z hz rfl (by omega) ?_; intro v' w' hq' hb' hk; have HB2 := Lib.hid ((hk b _ _ HB.out (by decide)).trans HB.out); have hc2 : w'.cell? ⟨b, 0, none⟩ = some (.slice A n c) := cell_of_row w' b 0 _ _ _ HB2.out; have hf2 : w'.frozen? ⟨b, 0, none⟩ = false := frozen_of_row HB2.out; obtain ⟨A', n', c', rfl, hnn, _⟩ := hq'.slice; clear hk hnn))
  go_end0
  exact ⟨rfl, QI.set HB2.out hB hq', hb'.setCell hB _⟩

set_option maxHeartbeats 1000000 in
theorem take_none (w : World) (B b : Nat) (h : QI w B b []) :
    Calls Try.prog 95 #[.pointer (some ⟨b, 0, none⟩)] w fun e w' => e = .returned (.tuple #[.int .i64 0, .bool false]) ∧ w = w' := by
  obtain ⟨v, hb, hB, hq⟩ := h
  obtain ⟨A, n, c, rfl, hn, hcc⟩ := hq.slice
  have hc : w.cell? ⟨b, 0, none⟩ = some (.slice A n c) := cell_of_row w b 0 _ _ _ hb
  have hn0 : n = 0 := hn
  subst hn0
  clear hq hn hb
  go_enter Try.func95, Try.ntmps95
  go_wp2
  go_ret2
  exact ⟨rfl, rfl⟩

set_option maxHeartbeats 1000000 in
theorem take_some (w : World) (B b : Nat) (z : Int) (xs : List Int) (h : QI w B b (z :: xs)) (hl : xs.length ≤ 1000000) :
    Calls Try.prog 95 #[.pointer (some ⟨b, 0, none⟩)] w fun e w' => e = .returned (.tuple #[.int .i64 z, .bool true]) ∧ QI w' B b xs ∧ Below B w w' := by
  obtain ⟨v, hb, hB, hq⟩ := h
  obtain ⟨A, n, c, rfl, hn, hle, hcc, hi64, hrow⟩ := hq
  have hc : w.cell? ⟨b, 0, none⟩ = some (.slice A n c) := cell_of_row w b 0 _ _ _ hb
  have hfz : w.frozen? ⟨b, 0, none⟩ = false := frozen_of_row hb
  have hn' : n = xs.length + 1 := by rw [← hn]; rfl
  rcases hrow with ⟨rfl, rfl⟩ | ⟨g, off, cur, rfl, hBg, hg, hs, hcur⟩
  · omega
  · have hcz : w.cell? ⟨g, off, none⟩ = some (.int .i64 z) := by
      have := hcur 0 (by omega)
      rw [cell_of_row w g off _ _ _ hg]
      exact this
    have hq' : OwnQ w B (.slice (if c = 1 then some ⟨g, off, none⟩ else some ⟨g, off + 1, none⟩) (n - 1) (c - 1)) xs := by
      refine ⟨_, _, _, rfl, by omega, by omega, by omega, fun x hx => hi64 x (by simp [hx]), ?_⟩
      split
      · exact .inr ⟨g, off, cur, rfl, hBg, hg, by omega, fun j hj => absurd hj (by omega)⟩
      · refine .inr ⟨g, off + 1, cur, rfl, hBg, hg, by omega, fun j hj => ?_⟩
        have := hcur (j + 1) (by omega)
        rw [show off + 1 + j = off + (j + 1) by omega, this]
        rfl
    have hsl : ∀ W : World, (Instr.sliceAt 25 (.slice (some ⟨g, off, none⟩) n c) (some (.int .i64 1)) none none).run Try.prog W = .ok (.slice (if c = 1 then some ⟨g, off, none⟩ else some ⟨g, off + 1, none⟩) (n - 1) (c - 1)) W := fun W => by
      obtain ⟨i0, hi0, hz0, hz1, hz2⟩ := info_parts Try.infoInt
      have h1n : ¬ ((n : Int) < 1) := by omega
      have hadd := addr_add' g off 1
      simp [Instr.sliceAt, Instr.slice, run_underlying Try.underlying25, Instr.sliceBounds, Instr.sliceBound, asIntOf, h1n, sizeOf, typeInfo, hi0, hz1, hadd]
    have HB := Lib.hid hb
    have HQ := Lib.hid hq'
    have hn1 : 0 < n := by omega
    obtain ⟨A', hA'⟩ : ∃ A', (if c = 1 then some (⟨g, off, none⟩ : Addr) else some ⟨g, off + 1, none⟩) = A' := ⟨_, rfl⟩
    rw [hA'] at HQ hsl
    clear hq' hb hi64 hcur hg hA' hn hn'
    go_enter Try.func95, Try.ntmps95
    go_wp2
    go_ret2
    exact ⟨rfl, QI.set HB.out hB HQ.out, (Below.refl _ _).setCell hB _⟩
end Go.Proofs.Ythobfbnopkbniaa
