/-
  'm[k] = v' where the operation is in two parts (the entry first, its value later): the same as one store. Plain theorems; no conditions.
-/
import Derived.Test.YthobfbnopkbniaaMap
import Derived.WideKeyEntry
namespace Go.Proofs.Ythobfbnopkbniaa
open Go.RowKit Go.Maps

/-- The two parts together are one store. -/
theorem entry_two {w : World} {t e k : TypeId} (K : Keyed Try.prog k) (ht : Try.prog.underlying t = some (.map k e)) {z : Value} (hz : ∀ u : World, (zeroValue e).run Try.prog u = .ok z u) {b : Nat} {es : Array MapEntry} {clock : Nat}
    (hb : w.heap[b]? = some (.map es clock)) (hkeys : ∀ x ∈ es.toList, ∃ l, keyOf Try.prog k x.key = some l) (hs1 : ∀ x ∈ es.toList, x.born < clock) (hs2 : (es.toList.map (·.born)).Nodup) {key : Value} {kl : Lit} (hkey : keyOf Try.prog k key = some kl) (val : Value) :
    ∃ (v0 : Value) (st : Nat) (w1 w2 : World), (Instr.mapEntry t (.map (some b)) key).run Try.prog w = .ok (.tuple #[v0, goInt st]) w1 ∧ (Instr.entryStore t (.map (some b)) (goInt st) val).run Try.prog w1 = .ok () w2 ∧
      (Instr.mapUpdate t (.map (some b)) key val).run Try.prog w = .ok () w2 ∧ w.grownBy w1 (some b) := by
  have hbl : b < w.heap.size := (Array.getElem?_eq_some_iff.1 hb).1
  have hback : ∀ (x : Array MapEntry) (c : Nat), ({ w with heap := w.heap.setIfInBounds b (.map x c) } : World).heap[b]? = some (.map x c) := fun x c => by
    simp [hbl]
  have hgr : ∀ (x : Array MapEntry) (c : Nat), w.grownBy { w with heap := w.heap.setIfInBounds b (.map x c) } (some b) := fun x c =>
    ⟨rfl, rfl, rfl, by simp, fun i hi hne => by
      have : b ≠ i := fun e => hne (by rw [e])
      simp [this]⟩
  have hset : ∀ (x y : Array MapEntry) (c d : Nat), (w.heap.setIfInBounds b (.map x c)).setIfInBounds b (.map y d) = w.heap.setIfInBounds b (.map y d) := fun x y c d => by
    simp
  rcases K.find w hkey es.toList hkeys with ⟨h1, h2⟩ | ⟨j, e0, h1, h2, h3⟩
  · have hidx : (es.push ⟨key, z, clock⟩).findIdx? (fun e => ((e.born : Nat) : Int) == ((clock : Nat) : Int)) = some es.size := by
      rw [WideElems.findIdx_arr]
      refine WideElems.findIdx_born (l := (es.push ⟨key, z, clock⟩).toList) (j := es.size) (e0 := ⟨key, z, clock⟩) ?_ (by simp)
      rw [Array.toList_push, List.map_append]
      refine List.nodup_append.2 ⟨hs2, by simp, fun a ha c hc e1 => ?_⟩
      obtain ⟨x, hx, rfl⟩ := List.mem_map.1 ha
      have := hs1 x hx
      simp at hc
      omega
    have hmod : (es.push ⟨key, z, clock⟩).modify es.size (fun e => { e with val := val }) = es.push ⟨key, val, clock⟩ := by
      apply Array.ext'
      rw [Array.toList_modify, Array.toList_push, Array.toList_push, ← Array.length_toList, WideElems.modify_last]
    refine ⟨z, clock, { w with heap := w.heap.setIfInBounds b (.map (es.push ⟨key, z, clock⟩) (clock + 1)) }, { w with heap := w.heap.setIfInBounds b (.map (es.push ⟨key, val, clock⟩) (clock + 1)) }, ?_, ?_, ?_, hgr _ _⟩
    · simp [Instr.mapEntry, run_underlying ht, MapKept.run_getObj_map hb, K.check w false hkey, h1, hz, MapKept.run_setObj_map _ hb, Result.andThen]
    · simp [Instr.entryStore, MapKept.run_getObj_map (hback _ _), asInt, asIntOf, goInt, hidx, hmod, MapKept.run_setObj_map _ (hback _ _), Result.andThen]
    · simp [Instr.mapUpdate, run_underlying ht, MapKept.run_getObj_map hb, K.check w false hkey, h1, MapKept.run_setObj_map _ hb, Result.andThen]
  · have hj : es[j]? = some e0 := by simpa using h2
    have hsame : es.modify j (fun e => { e with key := key }) = es := by
      apply Array.ext'
      rw [Array.toList_modify, ChangeMaps.modify_eq_set _ _ _ _ h2]
      have : ({ e0 with key := key } : MapEntry) = e0 := by rw [← h3]
      rw [this]
      exact WideElems.set_self _ _ _ h2
    have hidx : es.findIdx? (fun e => ((e.born : Nat) : Int) == ((e0.born : Nat) : Int)) = some j := by
      rw [WideElems.findIdx_arr]
      exact WideElems.findIdx_born hs2 h2
    have hmod : es.modify j (fun e => { e with val := val }) = es.modify j (fun e' => { e' with key := key, val := val }) := by
      apply Array.ext'
      rw [Array.toList_modify, Array.toList_modify, ChangeMaps.modify_eq_set _ _ _ _ h2, ChangeMaps.modify_eq_set _ _ _ _ h2, ← h3]
    refine ⟨e0.val, e0.born, { w with heap := w.heap.setIfInBounds b (.map es clock) }, { w with heap := w.heap.setIfInBounds b (.map (es.modify j (fun e' => { e' with key := key, val := val })) clock) }, ?_, ?_, ?_, hgr _ _⟩
    · simp [Instr.mapEntry, run_underlying ht, MapKept.run_getObj_map hb, K.check w false hkey, h1, hj, h3, K.stays w hkey, hsame, MapKept.run_setObj_map _ hb, Result.andThen]
    · simp [Instr.entryStore, MapKept.run_getObj_map (hback _ _), asInt, asIntOf, goInt, hidx, hmod, MapKept.run_setObj_map _ (hback _ _), Result.andThen]
    · simp [Instr.mapUpdate, run_underlying ht, MapKept.run_getObj_map hb, K.check w false hkey, h1, hj, h3, K.stays w hkey, MapKept.run_setObj_map _ hb, Result.andThen]

section
variable {w : World} {b n : Nat} {f : Int → Option Value} {g : Int → Option Int} {ops : Array Oper} {rest : List Oper} {o : Oper} {a : Act} {Q : Exit → Act → World → Prop}
/-- The store as a run. -/
theorem MV.update (h : MV w b n f) (hn : n < 1000000000000) (k : Int) (hk : I64 k) (u : Value) {t e : TypeId} (ht : Try.prog.underlying t = some (.map 3 e)) :
    ∃ w', (Instr.mapUpdate t (.map (some b)) (.int .i64 k) u).run Try.prog w = .ok () w' ∧ MV w' b (if (f k).isSome then n else n + 1) (upd f k u) ∧ w.grownBy w' (some b) := by
  obtain ⟨D, h1, h2, h3⟩ := h
  obtain ⟨w', hrun, h4, h5⟩ := h1.update keyedInt ht (by unfold maxLen; omega) (keyInt hk) (val := u) (d := .held u) (ps := []) rfl
  refine ⟨w', hrun, ?_, h5⟩
  have hkl : WideAt.IsKeyLit (Lit.int .i64 k) := trivial
  have hD := h1.isMap
  have hs : Maps.size (D.put (.int .i64 k) (.held u)) = if (f k).isSome then n else n + 1 := by
    rw [Maps.size_put (h1.tidy keyedInt), h2]
    cases hfk : f k with
    | none => rw [(h3 k hk).1 hfk]; simp
    | some y => rw [((h3 k hk).2 y hfk).1]; simp
  refine ⟨D.put (.int .i64 k) (.held u), hs ▸ ownsMap_exact h4, hs, fun j hj => ?_⟩
  by_cases he : j = k
  · subst he
    refine ⟨fun h => by simp [upd] at h, fun v hv => ?_⟩
    simp only [upd, if_true, Option.some.injEq] at hv
    subst hv
    exact ⟨Maps.has_put_same hD hkl _, fun z => Maps.atKey_put_same hD hkl _ z⟩
  · have hne : Lit.int .i64 j ≠ Lit.int .i64 k := fun h => he (by injection h)
    have hu : upd f k u j = f j := by simp [upd, he]
    rw [hu, Maps.has_put_other hne]
    refine ⟨(h3 j hj).1, fun v hv => ⟨((h3 j hj).2 v hv).1, fun z => ?_⟩⟩
    rw [Maps.atKey_put_other hne]
    exact ((h3 j hj).2 v hv).2 z
/-- The two parts in a map[int]int, as runs. -/
theorem MI.entry (h : MI w b n g) (hn : n < 1000000000000) (k : Int) (hk : I64 k) (u : Int) :
    ∃ (v0 : Value) (st : Nat) (w1 w2 : World), (Instr.mapEntry 52 (.map (some b)) (.int .i64 k)).run Try.prog w = .ok (.tuple #[v0, goInt st]) w1 ∧
      (Instr.entryStore 52 (.map (some b)) (goInt st) (.int .i64 u)).run Try.prog w1 = .ok () w2 ∧ MI w2 b (if (g k).isSome then n else n + 1) (upd g k u) ∧ w.grownBy w2 (some b) ∧ w.grownBy w1 (some b) := by
  obtain ⟨w', hrun, h4, h5⟩ := MV.update h hn k hk (.int .i64 u) Try.underlying52
  obtain ⟨D, ⟨es, clock, hb, F, _⟩, _⟩ := h
  obtain ⟨s1, s2, _⟩ := F.stamped
  obtain ⟨v0, st, w1, w2, r1, r2, r3, r4⟩ := entry_two keyedInt Try.underlying52 zeroInt hb F.keys s1 s2 (keyInt hk) (.int .i64 u)
  rw [hrun] at r3
  injection r3 with _ r3
  subst r3
  refine ⟨v0, st, w1, _, r1, r2, ?_, h5, r4⟩
  have e1 : (if ((g k).map (Value.int .i64)).isSome then n else n + 1) = if (g k).isSome then n else n + 1 := by cases g k <;> rfl
  rw [e1] at h4
  exact h4.congr fun j _ => by
    show ((upd g k u) j).map _ = upd _ k _ j
    unfold upd
    split <;> rfl
/-- The first part at its operation. -/
theorem wpList_run_entry {w1 : World} {t : TypeId} {M X v : Value} (hg : o.guard = none) (m x : Operand) (hop : o.op = Op.mapEntry t m x) (hm : a.eval m = M) (hx : a.eval x = X) (hr : (Instr.mapEntry t M X).run Try.prog w = .ok v w1)
    (hK : wpList Try.prog ops Q rest (a.put o.dst v) w1) : wpList Try.prog ops Q (o :: rest) a w := by
  refine wpList_plain hg fun K' hK' => ?_
  unfold Oper.wp
  simp only [execOp, hop, hm, hx, Sem.run_bind, hr, Result.andThen_ok, Sem.run_pure]
  exact hK' _ _ hK
/-- The second. -/
theorem wpList_run_entryStore {w1 : World} {t : TypeId} {M S X : Value} (hg : o.guard = none) (m s x : Operand) (hop : o.op = Op.entryStore t m s x) (hm : a.eval m = M) (hs : a.eval s = S) (hx : a.eval x = X) (hr : (Instr.entryStore t M S X).run Try.prog w = .ok () w1)
    (hK : wpList Try.prog ops Q rest (a.put o.dst undef) w1) : wpList Try.prog ops Q (o :: rest) a w := by
  refine wpList_plain hg fun K' hK' => ?_
  unfold Oper.wp
  simp only [execOp, hop, hm, hs, hx, Sem.run_bind, hr, Result.andThen_ok, Sem.run_pure]
  exact hK' _ _ hK
end
end Go.Proofs.Ythobfbnopkbniaa
