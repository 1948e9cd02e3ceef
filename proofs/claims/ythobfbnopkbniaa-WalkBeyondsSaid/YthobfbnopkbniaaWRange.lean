/-
  'for k := range m' over a map with integer keys and values ('RM'), and the laws at its two operations. Plain theorems; no conditions.
-/
import Derived.Test.YthobfbnopkbniaaMap
import Derived.Maps.RangeWalk
namespace Go.Proofs.Ythobfbnopkbniaa
open Go.RowKit Go.Maps

theorem i64_wf {k : Int} (h : (Lit.int .i64 k).wf = true) : I64 k := by
  simp [Lit.wf, IntKind.min, IntKind.max, IntKind.signed, IntKind.bits] at h
  exact ⟨by omega, by omega⟩
/-- A range over the map of block b, by the iterator of block r, is under way; 'left' tells which keys are still to come; so many. -/
def RM (w : World) (b r n : Nat) (g : Int → Option Int) (left : Int → Bool) (cnt : Nat) : Prop :=
  ∃ (D : DataW Value) (L : Lit → Bool), w.ranges Try.prog 3 asIs b r n D L cnt ∧
    (∀ k, I64 k → ∀ v, (g k).map (Value.int .i64) = some v → ∀ z, D.atKey (.int .i64 k) z = .held v) ∧ ∀ k, I64 k → L (.int .i64 k) = left k ∧ (left k = true → (g k).isSome = true)
section
variable {w w' : World} {b r n cnt : Nat} {g : Int → Option Int} {left : Int → Bool} {ops : Array Oper} {rest : List Oper} {o : Oper} {a : Act} {Q : Exit → Act → World → Prop}
theorem RM.kept {row : Option Nat} (h : RM w b r n g left cnt) (hg : w.grownBy w' row) (hb : some b ≠ row) (hr : some r ≠ row) : RM w' b r n g left cnt := by
  obtain ⟨D, L, h1, h2⟩ := h
  exact ⟨D, L, h1.kept hg hb hr, h2⟩
theorem RM.left_eq (h : RM w b r n g left cnt) : w.rangeLeft b r = cnt := by
  obtain ⟨D, L, h1, _⟩ := h
  exact h1.left_eq
theorem RM.lt (h : RM w b r n g left cnt) : r < w.heap.size ∧ b < w.heap.size := by
  obtain ⟨D, L, h1, _⟩ := h
  exact ⟨h1.lt, h1.owns.lt⟩
theorem wpList_rm_range (hg : o.guard = none) (m : Operand) (hop : o.op = Op.range 52 m) (hm : a.eval m = .map (some b)) (h : MI w b n g)
    (hK : ∀ w', RM w' b w.heap.size n g (fun k => (g k).isSome) n → w.grownBy w' none → w'.heap.size = w.heap.size + 1 → wpList Try.prog ops Q rest (a.put o.dst (.pointer (some ⟨w.heap.size, 0, none⟩))) w') : wpList Try.prog ops Q (o :: rest) a w := by
  obtain ⟨D, h1, h2, h3⟩ := h
  refine wpList_range_own w hg m 52 hop 3 3 keyedInt Try.underlying52 asIs b n D hm h1 fun w' hr hgr hs => hK w' ⟨D, Maps.has D, by rw [h2] at hr; exact hr, fun k hk v hv z => ((h3 k hk).2 v hv).2 z, fun k hk => ⟨?_, id⟩⟩ hgr hs
  have := h3 k hk
  cases hgk : g k with
  | none => show Maps.has D _ = (g k).isSome; rw [hgk]; exact this.1 (by show Option.map _ (g k) = _; rw [hgk]; rfl)
  | some v => show Maps.has D _ = (g k).isSome; rw [hgk]; exact (this.2 (.int .i64 v) (by show Option.map _ (g k) = _; rw [hgk]; rfl)).1
theorem wpList_rm_next (hg : o.guard = none) (it : Operand) (hop : o.op = Op.next it false) (hit : a.eval it = .pointer (some ⟨r, 0, none⟩)) (h : RM w b r n g left cnt)
    (hDone : cnt = 0 → (∀ k, I64 k → left k = false) → wpList Try.prog ops Q rest (a.put o.dst (.tuple #[.bool false])) w)
    (hMore : ∀ (x c : Int) (w' : World) (cnt' : Nat), I64 x → left x = true → g x = some c → RM w' b r n g (fun z => left z && !decide (z = x)) cnt' → cnt' < cnt → w.grownBy w' (some r) → w'.heap.size = w.heap.size →
      (Instr.entry (.pointer (some ⟨r, 0, none⟩))).run Try.prog w' = .ok (.tuple #[.int .i64 x, .int .i64 c]) w' → wpList Try.prog ops Q rest (a.put o.dst (.tuple #[.bool true, .int .i64 x, .int .i64 c])) w') : wpList Try.prog ops Q (o :: rest) a w := by
  obtain ⟨D, L, h1, h2, h3⟩ := h
  refine wpList_next_ranges w hg it hop 3 keyedInt asIs (Value.int .i64) id (fun key kl hkey => ?_) (fun v y _ => ⟨v, rfl⟩) b r n D L cnt hit h1 (fun h0 hl => hDone h0 fun k hk => by rw [← (h3 k hk).1]; exact hl _) ?_
  · obtain ⟨x, rfl, _⟩ := keyOf_int_inv Try.underlying3 hkey
    exact ⟨x, rfl⟩
  · intro x c kl y w' cnt' hkey hlk hv hat hrg hlt hgr hsz hen
    obtain ⟨x', ex, rfl, hwx⟩ := keyOf_int_inv Try.underlying3 hkey
    cases ex
    have hx64 := i64_wf hwx
    obtain ⟨e1, e2⟩ := h3 x hx64
    rw [hlk] at e1
    obtain ⟨q, hq⟩ := Option.isSome_iff_exists.1 (e2 e1.symm)
    have hh := h2 x hx64 _ (by rw [hq]; rfl) (.held undef)
    rw [hat] at hh
    have hc : id c = .int .i64 q := by
      simp only [asIs, Option.some.injEq] at hv
      rw [← hv] at hh
      simpa using hh
    rw [hc] at hen
    have := hMore x q w' cnt' hx64 e1.symm hq ⟨D, _, hrg, h2, fun k hk => ?_⟩ hlt hgr hsz hen
    · rw [hc]; exact this
    · obtain ⟨e3, e4⟩ := h3 k hk
      refine ⟨by simp only [Lit.sameKey, e3, true_and], fun hlx => e4 ?_⟩
      rw [Bool.and_eq_true] at hlx
      exact hlx.1
end
end Go.Proofs.Ythobfbnopkbniaa
