/-
  Maps with integer keys, read as functions that may have no value ('MV': whatever values; 'MI': integers), and the laws on make, lookup, store, delete, len over them. Plain theorems; no conditions.
-/
import Derived.Test.YthobfbnopkbniaaBase
import Derived.Maps.Own
import Derived.Maps.OwnSet
import Derived.Maps.OwnOps
namespace Go.Proofs.Ythobfbnopkbniaa
open Go.RowKit Go.Maps

theorem keyedInt : Keyed Try.prog 3 := int_keyed Try.underlying3
/-- A value is read as itself. -/
def asIs (v : Value) : Option (DataW Value × List MemPlace) := some (.held v, [])

/-- Block b is a map with integer keys; it has n entries and reads as f. -/
def MV (w : World) (b n : Nat) (f : Int → Option Value) : Prop :=
  ∃ D : DataW Value, w.ownsMap Try.prog 3 asIs b n D ∧ Maps.size D = n ∧
    ∀ k, I64 k → (f k = none → Maps.has D (.int .i64 k) = false) ∧ ∀ v, f k = some v → Maps.has D (.int .i64 k) = true ∧ ∀ z, D.atKey (.int .i64 k) z = .held v
/-- .. whose values are integers. -/
def MI (w : World) (b n : Nat) (g : Int → Option Int) : Prop := MV w b n fun k => (g k).map (Value.int .i64)

/-- f with one value more. -/
def upd {α : Type} (f : Int → Option α) (k : Int) (v : α) : Int → Option α := fun j => if j = k then some v else f j
/-- f without a key. -/
def del {α : Type} (f : Int → Option α) (k : Int) : Int → Option α := fun j => if j = k then none else f j

theorem wf_i64 {k : Int} (h : I64 k) : (Lit.int .i64 k).wf = true := by
  obtain ⟨h1, h2⟩ := h
  exact WalkArith.wf_i64 (by omega)
theorem keyInt {k : Int} (h : I64 k) : keyOf Try.prog 3 (.int .i64 k) = some (.int .i64 k) := keyOf_int_mk Try.underlying3 (wf_i64 h)

theorem ownsMap_exact {w : World} {R : Value → Option (DataW Value × List MemPlace)} {b n : Nat} {D : DataW Value} (h : w.ownsMap Try.prog 3 R b n D) : w.ownsMap Try.prog 3 R b (Maps.size D) D := by
  obtain ⟨es, clock, hb, F, hs, rfl⟩ := h
  refine ⟨es, clock, hb, F, ?_, rfl⟩
  simp [Maps.size, length_sorted]

section
variable {w w' : World} {b n : Nat} {f : Int → Option Value} {g : Int → Option Int}
theorem MV.lt (h : MV w b n f) : b < w.heap.size := by obtain ⟨D, h, _⟩ := h; exact h.lt
theorem MV.kept {row : Option Nat} (h : MV w b n f) (hg : w.grownBy w' row) (hne : some b ≠ row) : MV w' b n f := by
  obtain ⟨D, h1, h2, h3⟩ := h
  exact ⟨D, h1.kept hg hne, h2, h3⟩
theorem MV.alloc (h : MV w b n f) (o : Obj) : MV (w.alloc o) b n f := by
  obtain ⟨D, h1, h2, h3⟩ := h
  exact ⟨D, h1.alloc o, h2, h3⟩
theorem MV.drewN (h : MV w b n f) (k : Nat) : MV (w.drewN k) b n f := by
  obtain ⟨D, h1, h2, h3⟩ := h
  exact ⟨D, h1, h2, h3⟩
theorem MV.below {B : Nat} (h : MV w b n f) (hb : Below B w w') (hB : b < B) : MV w' b n f := by
  obtain ⟨D, ⟨es, clock, h0, h1⟩, h2, h3⟩ := h
  exact ⟨D, ⟨es, clock, (hb.block b hB).trans h0, h1⟩, h2, h3⟩
theorem MV.congr (h : MV w b n f) {f' : Int → Option Value} (he : ∀ k, I64 k → f' k = f k) : MV w b n f' := by
  obtain ⟨D, h1, h2, h3⟩ := h
  exact ⟨D, h1, h2, fun k hk => by rw [he k hk]; exact h3 k hk⟩
theorem MV.made (w : World) : MV (w.alloc (.map #[] 0)) w.heap.size 0 fun _ => none :=
  ⟨.map [], World.ownsMap_made _ _ _ _, rfl, fun k _ => ⟨fun _ => rfl, fun v h => by cases h⟩⟩
theorem MI.made (w : World) : MI (w.alloc (.map #[] 0)) w.heap.size 0 fun _ => none := MV.made w

section
variable {ops : Array Oper} {rest : List Oper} {o : Oper} {a : Act} {Q : Exit → Act → World → Prop}
/-- 'v, ok := m[k]', k is there. -/
theorem wpList_lookok_some (hg : o.guard = none) (m x : Operand) (t e : TypeId) (hop : o.op = Op.lookup t m x true) (ht : Try.prog.underlying t = some (.map 3 e)) {z : Value} (hz : (zeroValue e).run Try.prog w = .ok z w)
    (hm : a.eval m = .map (some b)) (h : MV w b n f) (k : Int) (hx : a.eval x = .int .i64 k) (hk : I64 k) (v : Value) (hf : f k = some v)
    (hK : wpList Try.prog ops Q rest (a.put o.dst (.tuple #[v, .bool true])) w) : wpList Try.prog ops Q (o :: rest) a w := by
  obtain ⟨D, h1, h2, h3⟩ := h
  refine wpList_lookup_own_ok w hg m x t hop 3 e keyedInt ht asIs hz (.held z) [] rfl b n D hm h1 (.int .i64 k) (.int .i64 k) hx (keyInt hk) fun v' ps hv => ?_
  obtain ⟨h4, h5⟩ := (h3 k hk).2 v hf
  rw [h5] at hv
  simp only [asIs, Option.some.injEq, Prod.mk.injEq, DataW.held.injEq] at hv
  rw [h4, hv.1]
  exact hK
/-- 'v, ok := m[k]', k isn't there. -/
theorem wpList_lookok_none (hg : o.guard = none) (m x : Operand) (t e : TypeId) (hop : o.op = Op.lookup t m x true) (ht : Try.prog.underlying t = some (.map 3 e)) {z : Value} (hz : (zeroValue e).run Try.prog w = .ok z w)
    (hm : a.eval m = .map (some b)) (h : MV w b n f) (k : Int) (hx : a.eval x = .int .i64 k) (hk : I64 k) (hf : f k = none)
    (hK : wpList Try.prog ops Q rest (a.put o.dst (.tuple #[z, .bool false])) w) : wpList Try.prog ops Q (o :: rest) a w := by
  obtain ⟨D, h1, h2, h3⟩ := h
  refine wpList_lookup_own_ok w hg m x t hop 3 e keyedInt ht asIs hz (.held z) [] rfl b n D hm h1 (.int .i64 k) (.int .i64 k) hx (keyInt hk) fun v' ps hv => ?_
  have h4 := (h3 k hk).1 hf
  rw [Maps.atKey_of_not_has h4] at hv
  simp only [asIs, Option.some.injEq, Prod.mk.injEq, DataW.held.injEq] at hv
  rw [h4, hv.1]
  exact hK
theorem wpList_look_aux (hg : o.guard = none) (m x : Operand) (t e : TypeId) (hop : o.op = Op.lookup t m x false) (ht : Try.prog.underlying t = some (.map 3 e)) {z : Value} (hz : (zeroValue e).run Try.prog w = .ok z w)
    (hm : a.eval m = .map (some b)) (h : MV w b n f) (k : Int) (hx : a.eval x = .int .i64 k) (hk : I64 k) (v : Value) (hf : (f k).getD z = v)
    (hK : wpList Try.prog ops Q rest (a.put o.dst v) w) : wpList Try.prog ops Q (o :: rest) a w := by
  obtain ⟨D, h1, h2, h3⟩ := h
  obtain ⟨v', ps, hrun, hv⟩ := h1.lookup keyedInt ht hz (zd := .held z) (zp := []) rfl (keyInt hk)
  have hvv : v' = v := by
    cases hfk : f k with
    | none =>
      rw [Maps.atKey_of_not_has ((h3 k hk).1 hfk)] at hv
      simp only [asIs, Option.some.injEq, Prod.mk.injEq, DataW.held.injEq] at hv
      rw [hfk] at hf
      rw [hv.1]; exact hf
    | some y =>
      rw [((h3 k hk).2 y hfk).2] at hv
      simp only [asIs, Option.some.injEq, Prod.mk.injEq, DataW.held.injEq] at hv
      rw [hfk] at hf
      rw [hv.1]; exact hf
  subst hvv
  refine wpList_plain hg fun K' hK' => ?_
  unfold Oper.wp
  simp [execOp, hop, hm, hx, hrun, Result.andThen]
  exact hK' _ _ hK
/-- 'm[k] = v'. -/
theorem wpList_store (hg : o.guard = none) (m x v : Operand) (t e : TypeId) (hop : o.op = Op.mapUpdate t m x v) (ht : Try.prog.underlying t = some (.map 3 e))
    (hm : a.eval m = .map (some b)) (h : MV w b n f) (hn : n < 1000000000000) (k : Int) (hx : a.eval x = .int .i64 k) (hk : I64 k) (u : Value) (hv : a.eval v = u)
    (hK : ∀ w', MV w' b (if (f k).isSome then n else n + 1) (upd f k u) → w.grownBy w' (some b) → wpList Try.prog ops Q rest (a.put o.dst undef) w') : wpList Try.prog ops Q (o :: rest) a w := by
  obtain ⟨D, h1, h2, h3⟩ := h
  refine wpList_mapUpdate_own w hg m x v t hop 3 e keyedInt ht asIs b n D hm h1 (by unfold maxLen; omega) (.int .i64 k) u (.int .i64 k) hx hv (keyInt hk) (.held u) [] rfl fun w' h4 h5 => hK w' ?_ h5
  have hkl : WideAt.IsKeyLit (Lit.int .i64 k) := trivial
  have hD := h1.isMap
  have hs : Maps.size (D.put (.int .i64 k) (.held u)) = if (f k).isSome then n else n + 1 := by
    rw [Maps.size_put (h1.tidy keyedInt), h2]
    cases hfk : f k with
    | none => rw [(h3 k hk).1 hfk]; simp
    | some y => rw [((h3 k hk).2 y hfk).1]; simp
  refine ⟨D.put (.int .i64 k) (.held u), hs ▸ ownsMap_exact h4, hs, fun j hj => ?_⟩
  by_cases he : j = k
  · subst he
    refine ⟨fun h => by simp [upd] at h, fun v hv => ?_⟩
    simp only [upd, if_true, Option.some.injEq] at hv
    subst hv
    exact ⟨Maps.has_put_same hD hkl _, fun z => Maps.atKey_put_same hD hkl _ z⟩
  · have hne : Lit.int .i64 j ≠ Lit.int .i64 k := fun h => he (by injection h)
    have hu : upd f k u j = f j := by simp [upd, he]
    rw [hu, Maps.has_put_other hne]
    refine ⟨(h3 j hj).1, fun v hv => ⟨((h3 j hj).2 v hv).1, fun z => ?_⟩⟩
    rw [Maps.atKey_put_other hne]
    exact ((h3 j hj).2 v hv).2 z
/-- 'len(m)'. -/
theorem wpList_maplen (hg : o.guard = none) (m : Operand) (t e : TypeId) (hop : o.op = Op.call { callee := Callee.builtin Builtin.len, args := #[m], argTypes := #[t] }) (ht : Try.prog.underlying t = some (.map 3 e))
    (hm : a.eval m = .map (some b)) (h : MV w b n f) (hK : wpList Try.prog ops Q rest (a.put o.dst (.int .i64 n)) w) : wpList Try.prog ops Q (o :: rest) a w := by
  obtain ⟨D, h1, h2, h3⟩ := h
  exact wpList_len_own w hg m t hop 3 e ht asIs b n D hm h1 (by rw [h2]; exact hK)
end

section
variable {ops : Array Oper} {rest : List Oper} {o : Oper} {a : Act} {Q : Exit → Act → World → Prop}
theorem zeroInt (w : World) : (zeroValue 3).run Try.prog w = .ok (.int .i64 0) w := by kernel_rfl
/-- 'v, ok := m[k]' in a map[int]int. -/
theorem wpList_iok_some (hg : o.guard = none) (m x : Operand) (hop : o.op = Op.lookup 52 m x true)
    (hm : a.eval m = .map (some b)) (h : MI w b n g) (k : Int) (hx : a.eval x = .int .i64 k) (hk : I64 k) (v : Int) (hf : g k = some v)
    (hK : wpList Try.prog ops Q rest (a.put o.dst (.tuple #[.int .i64 v, .bool true])) w) : wpList Try.prog ops Q (o :: rest) a w :=
  wpList_lookok_some hg m x 52 3 hop Try.underlying52 (zeroInt w) hm h k hx hk _ (by show (g k).map _ = _; rw [hf]; rfl) hK
theorem wpList_iok_none (hg : o.guard = none) (m x : Operand) (hop : o.op = Op.lookup 52 m x true)
    (hm : a.eval m = .map (some b)) (h : MI w b n g) (k : Int) (hx : a.eval x = .int .i64 k) (hk : I64 k) (hf : g k = none)
    (hK : wpList Try.prog ops Q rest (a.put o.dst (.tuple #[.int .i64 0, .bool false])) w) : wpList Try.prog ops Q (o :: rest) a w :=
  wpList_lookok_none hg m x 52 3 hop Try.underlying52 (zeroInt w) hm h k hx hk (by show (g k).map _ = _; rw [hf]; rfl) hK
/-- 'm[k]' in a map[int]int. -/
theorem wpList_ilook (hg : o.guard = none) (m x : Operand) (hop : o.op = Op.lookup 52 m x false)
    (hm : a.eval m = .map (some b)) (h : MI w b n g) (k : Int) (hx : a.eval x = .int .i64 k) (hk : I64 k) (v : Int) (hf : (g k).getD 0 = v)
    (hK : wpList Try.prog ops Q rest (a.put o.dst (.int .i64 v)) w) : wpList Try.prog ops Q (o :: rest) a w :=
  wpList_look_aux hg m x 52 3 hop Try.underlying52 (zeroInt w) hm h k hx hk _ (by
    show ((g k).map (Value.int .i64)).getD (.int .i64 0) = _
    rw [← hf]
    cases g k <;> rfl) hK
/-- 'm[k] = v' in a map[int]int. -/
theorem wpList_istore (hg : o.guard = none) (m x v : Operand) (hop : o.op = Op.mapUpdate 52 m x v)
    (hm : a.eval m = .map (some b)) (h : MI w b n g) (hn : n < 1000000000000) (k : Int) (hx : a.eval x = .int .i64 k) (hk : I64 k) (u : Int) (hv : a.eval v = .int .i64 u)
    (hK : ∀ w', MI w' b (if (g k).isSome then n else n + 1) (upd g k u) → w.grownBy w' (some b) → wpList Try.prog ops Q rest (a.put o.dst undef) w') : wpList Try.prog ops Q (o :: rest) a w :=
  wpList_store hg m x v 52 3 hop Try.underlying52 hm h hn k hx hk _ hv fun w' h1 h2 => hK w' (by
    have e1 : (if ((g k).map (Value.int .i64)).isSome then n else n + 1) = if (g k).isSome then n else n + 1 := by cases g k <;> rfl
    rw [e1] at h1
    exact h1.congr fun j _ => by
      show ((upd g k u) j).map _ = upd _ k _ j
      unfold upd
      split <;> rfl) h2
theorem wpList_ilen (hg : o.guard = none) (m : Operand) (hop : o.op = Op.call { callee := Callee.builtin Builtin.len, args := #[m], argTypes := #[52] })
    (hm : a.eval m = .map (some b)) (h : MI w b n g) (hK : wpList Try.prog ops Q rest (a.put o.dst (.int .i64 n)) w) : wpList Try.prog ops Q (o :: rest) a w :=
  wpList_maplen hg m 52 3 hop Try.underlying52 hm h hK
end
/-- 'make(map[int]int, n)'. -/
theorem run_makeMap_int (n : Int) (w : World) : (Instr.makeMap 52 (some (.int .i64 n))).run Try.prog w = .ok (.map (some w.heap.size)) (w.alloc (.map #[] 0)) := by
  simp [Instr.makeMap, run_underlying Try.underlying52]; rfl
end
end Go.Proofs.Ythobfbnopkbniaa
