/-
  A slice of integers that the call itself owns ('Own'), and the laws on make and append over it. Plain theorems over the loaded program's two types; no conditions.
-/
import Derived.Test.YthobfbnopkbniaaBase
import Derived.Maps.AppendAt
import Derived.OwnWalk
namespace Go.Proofs.Ythobfbnopkbniaa
open Go.RowKit

theorem Try.infoInt : (Try.prog.info? 3).map (fun i => (i.zero, i.size, i.bytes)) = some (some (.int .i64 0), 1, 8) := by kernel_rfl

/-- The slice value v is a row of the call's own (of a block that is new since w0); it reads as xs; below w0's blocks nothing has turned. -/
structure Own (w0 w : World) (v : Value) (xs : List Int) : Prop where
  row : w.ownsRow w0.heap.size 3 1 v xs.length (xs.map (Value.int .i64))
  below : Below w0.heap.size w0 w
  i64 : ∀ x ∈ xs, I64 x

section
variable {w0 w w' : World} {v : Value} {xs : List Int}
theorem Own.start (w0 : World) : Own w0 w0 (.slice none 0 0) [] := ⟨World.ownsRow_nil _ _ _ _, Below.refl _ _, by simp⟩
theorem Own.start_at (hb : Below w0.heap.size w0 w) : Own w0 w (.slice none 0 0) [] := ⟨World.ownsRow_nil _ _ _ _, hb, by simp⟩
theorem Own.alloc (h : Own w0 w v xs) (o : Obj) : Own w0 (w.alloc o) v xs := ⟨h.row.alloc o, h.below.alloc h.below.size o, h.i64⟩
theorem Own.drewN (h : Own w0 w v xs) (n : Nat) : Own w0 (w.drewN n) v xs := ⟨h.row, ⟨h.below.os, h.below.tape, h.below.output, h.below.size, h.below.block⟩, h.i64⟩
theorem Own.drawn (h : Own w0 w v xs) (hd : Drawn w w') : Own w0 w' v xs := by obtain ⟨n, rfl⟩ := hd; exact h.drewN n
/-- Nothing of w has turned. -/
theorem Own.later (h : Own w0 w v xs) (hb : Below w.heap.size w w') : Own w0 w' v xs :=
  ⟨h.row.kept (row := none) ⟨hb.os, hb.tape, hb.output, hb.size, fun i hi _ => hb.block i hi⟩ (by cases hv : v.ownBlock <;> simp), h.below.trans (hb.mono h.below.size), h.i64⟩
theorem Own.is (h : Own w0 w v xs) : ∃ A n c, v = .slice A n c ∧ IS w w.heap.size A n c xs := by
  rcases h.row.2 with ⟨rfl, hx⟩ | ⟨g, cap, cur, rfl, hb, hg, hnc, hcm, hcs, htake⟩
  · have : xs = [] := by simpa using hx
    subst this
    exact ⟨none, 0, 0, rfl, IS.none_⟩
  · refine ⟨_, _, _, rfl, rfl, hnc, hcm, h.i64, fun hn => ⟨g, 0, rfl, (Array.getElem?_eq_some_iff.1 hg).1, fun j hj => ?_⟩⟩
    have := h.row.cellAt j (by omega)
    rw [Nat.zero_add, this, List.getElem?_map, List.getElem?_eq_getElem hj, List.getD_eq_getElem?_getD, List.getElem?_eq_getElem hj]
    rfl
end

theorem Own.isNew {w0 w : World} {v : Value} {xs : List Int} (h : Own w0 w v xs) : ∃ A n c, v = .slice A n c ∧ IS w w.heap.size A n c xs ∧ ∀ a, A = some a → w0.heap.size ≤ a.block := by
  obtain ⟨A, n, c, rfl, his⟩ := h.is
  refine ⟨A, n, c, rfl, his, fun a ha => ?_⟩
  subst ha
  exact (h.row.lt a.block rfl).1

theorem IS.one (w : World) (x : Int) (hx : I64 x) : IS (w.alloc (.cells #[.int .i64 x] 3)) (w.heap.size + 1) (some ⟨w.heap.size, 0, none⟩) 1 1 [x] :=
  ⟨rfl, Nat.le_refl _, by omega, by simpa using hx, fun _ => ⟨_, 0, rfl, by omega, fun j hj => by
    obtain rfl : j = 0 := by omega
    simp⟩⟩

section
variable {w0 w : World} {v : Value} {xs : List Int}
set_option maxRecDepth 100000 in
theorem run_append_is (hown : Own w0 w v xs) {B : Nat} {A : Option Addr} {m c : Nat} {ys : List Int} (hr : IS w B A m c ys) (hb : xs.length + m ≤ 1000000000000) (ty : TypeId) :
    ∃ v' w', (Builtin.append_ #[25, 25] ty #[v, .slice A m c]).run Try.prog w = .ok v' w' ∧ Own w0 w' v' (xs ++ ys) ∧ w.grownBy w' v.ownBlock ∧ (v'.ownBlock = v.ownBlock ∨ v'.ownBlock = some w.heap.size) := by
  obtain ⟨i0, hi, hz0, hz1, hz2⟩ := info_parts Try.infoInt
  have hm := hr.len
  have hi64 : ∀ x ∈ xs ++ ys, I64 x := fun x hx => (List.mem_append.1 hx).elim (hown.i64 x) (hr.i64 x)
  rcases A with _ | ad
  · have hm0 : m = 0 := by
      rcases Nat.eq_zero_or_pos m with h0 | h0
      · exact h0
      · obtain ⟨b, o, h, _⟩ := hr.at_ h0
        cases h
    subst hm0
    have hy : ys = [] := List.eq_nil_of_length_eq_zero hm
    subst hy
    refine ⟨v, w, ?_, by simpa using hown, World.grownBy.refl w _, .inl rfl⟩
    rcases hown.row.2 with ⟨rfl, _⟩ | ⟨g, cap, cur, rfl, _, _, hnc, _⟩
    · simp [Builtin.append_, run_underlying Try.underlying25, sizeOf, typeInfo, hi, Builtin.lenOf, Builtin.firstCells]
    · simp [Builtin.append_, run_underlying Try.underlying25, sizeOf, typeInfo, hi, Builtin.lenOf, Builtin.firstCells, hnc, storeCells]
  · have hcells : ∀ j u, (ys.map (Value.int .i64))[j]? = some u → w.cell? (ad.add j) = some u := by
      intro j u hu
      rw [List.getElem?_map] at hu
      have hjl : j < ys.length := by
        rcases Nat.lt_or_ge j ys.length with h1 | h1
        · exact h1
        · rw [List.getElem?_eq_none h1] at hu; cases hu
      obtain ⟨b, o, h, _, hc⟩ := hr.at_ (by omega)
      injection h with h
      subst h
      have hadd : (⟨b, o, none⟩ : Addr).add j = ⟨b, o + j, none⟩ := by unfold Addr.add; split <;> simp_all
      rw [hadd, hc j (by omega), List.getD_eq_getElem?_getD]
      rw [List.getElem?_eq_getElem hjl] at hu ⊢
      exact hu
    obtain ⟨v', w', hrun, h2, h3, _, h5⟩ := run_append_own_at (P := Try.prog) w w0.heap.size 25 ty 3 i0 (.int .i64 0) 1 8 Try.underlying25 hi hz0 hz1 hz2 rfl (by decide)
      v xs.length (xs.map (Value.int .i64)) hown.row ad m c (ys.map (Value.int .i64)) (by simp [hm]) hcells (by intro u hu; obtain ⟨x, _, rfl⟩ := List.mem_map.1 hu; rfl) (by unfold maxLen; omega) (by omega) hown.below.size
    refine ⟨v', w', hrun, ⟨?_, hown.below.grown h3 hown.below.size fun k hk => (hown.row.lt k hk).1, hi64⟩, h3, h5⟩
    rw [List.length_append, hm, List.map_append]
    exact h2

/-- 'append(v, xs...)' onto a row of the call's own. -/
theorem wpList_append_is {ops : Array Oper} {rest : List Oper} {o : Oper} {a : Act} {Q : Exit → Act → World → Prop} (hgd : o.guard = none) (s x : Operand)
    (ho : o.op = .call { callee := .builtin .append, args := #[s, x], argTypes := #[25, 25] }) (hs : a.eval s = v) (hown : Own w0 w v xs)
    {B : Nat} {A : Option Addr} {m c : Nat} {ys : List Int} (hx : a.eval x = .slice A m c) (hr : IS w B A m c ys) (hb : xs.length + m ≤ 1000000000000)
    (h : ∀ v' w', Own w0 w' v' (xs ++ ys) → w.grownBy w' v.ownBlock → (v'.ownBlock = v.ownBlock ∨ v'.ownBlock = some w.heap.size) → wpList Try.prog ops Q rest (a.put o.dst v') w') : wpList Try.prog ops Q (o :: rest) a w := by
  obtain ⟨v', w', hrun, h2, h3, h4⟩ := run_append_is hown hr hb o.type
  refine wpList_plain hgd fun K hK => ?_
  unfold Oper.wp execOp
  simp only [ho, resolve, invoke, builtin, Sem.run_bind, Sem.run_pure, Result.andThen_ok, List.map_toArray, List.map_cons, List.map_nil, hs, hx, hrun]
  exact hK _ _ (h v' w' h2 h3 h4)

/-- 'append(v, x)': x has been laid into a block of its own. -/
theorem wpList_append_one {ops : Array Oper} {rest : List Oper} {o : Oper} {a : Act} {Q : Exit → Act → World → Prop} (hgd : o.guard = none) (s x : Operand)
    (ho : o.op = .call { callee := .builtin .append, args := #[s, x], argTypes := #[25, 25] }) (hs : a.eval s = v) (hown : Own w0 w v xs) (z : Int) (hz : I64 z)
    (hx : a.eval x = .slice (some ⟨w.heap.size, 0, none⟩) 1 1) (hb : xs.length + 1 ≤ 1000000000000)
    (h : ∀ v' w', Own w0 w' v' (xs ++ [z]) → (w.alloc (.cells #[.int .i64 z] 3)).grownBy w' v.ownBlock → (v'.ownBlock = v.ownBlock ∨ v'.ownBlock = some (w.heap.size + 1)) → wpList Try.prog ops Q rest (a.put o.dst v') w') :
    wpList Try.prog ops Q (o :: rest) a (w.alloc (.cells #[.int .i64 z] 3)) :=
  wpList_append_is hgd s x ho hs (hown.alloc _) hx (IS.one w z hz) hb fun v' w' h1 h2 h3 => h v' w' h1 h2 (by simpa using h3)

/-- 'make([]int, 0, n)'. -/
theorem wpList_make_is {ops : Array Oper} {rest : List Oper} {o : Oper} {a : Act} {Q : Exit → Act → World → Prop} (hg : o.guard = none) (l c : Operand) (hop : o.op = Op.makeSlice 25 l c)
    (hb : Below w0.heap.size w0 w) (kl kc : IntKind) (C : Int) (n : Nat) (hl : a.eval l = .int kl 0) (hc : a.eval c = .int kc C) (hC : C = (n : Int)) (b2 : n ≤ 1000000000000)
    (hK : ∀ v' w', Own w0 w' v' [] → w.grownBy w' none → v'.ownBlock = some w.heap.size → wpList Try.prog ops Q rest (a.put o.dst v') w') : wpList Try.prog ops Q (o :: rest) a w := by
  obtain ⟨i0, hi, hz0, hz1, hz2⟩ := info_parts Try.infoInt
  refine wpList_make_own w hg l c 25 hop w0.heap.size 3 i0 (.int .i64 0) 1 Try.underlying25 hi hz0 hz1 kl kc C n hl hc hC (by rw [hz2]; omega) (by unfold maxLen; omega) hb.size
    fun w' h1 h2 => hK _ w' ⟨by simpa using h1, hb.grown h2 hb.size (fun k hk => by cases hk), by simp⟩ h2 rfl
end

section
variable {w : World} {B n c : Nat} {A : Option Addr} {xs : List Int}
set_option maxRecDepth 100000 in
theorem run_cut (h : IS w B A n c xs) (lo hi mx : Option Value) (l r m : Nat) (hb : ∀ W, (Instr.sliceBounds true n c lo hi mx).run Try.prog W = .ok (l, r, m) W)
    (hlr : l ≤ r) (hrn : r ≤ n) (hrm : r ≤ m) (hmc : m ≤ c) :
    ∃ A', (∀ W, (Instr.sliceAt 25 (.slice A n c) lo hi mx).run Try.prog W = .ok (.slice A' (r - l) (m - l)) W) ∧ IS w B A' (r - l) (m - l) ((xs.take r).drop l) := by
  obtain ⟨i0, hi0, hz0, hz1, hz2⟩ := info_parts Try.infoInt
  have hlen := h.len
  have hcap := h.cap
  refine ⟨if m = l then A else A.map (·.add (l * 1)), fun W => ?_, ?_⟩
  · simp [Instr.sliceAt, Instr.slice, run_underlying Try.underlying25, hb, sizeOf, typeInfo, hi0, hz1]
  · refine ⟨by rw [List.length_drop, List.length_take]; omega, by omega, by omega, fun x hx => h.i64 x (List.mem_of_mem_take (List.mem_of_mem_drop hx)), fun hn => ?_⟩
    obtain ⟨b, o, rfl, hbB, hc⟩ := h.at_ (by omega)
    rw [if_neg (by omega)]
    refine ⟨b, o + l, ?_, hbB, fun j hj => ?_⟩
    · simp only [Option.map_some, Nat.mul_one, Addr.add]
      split
      · subst_vars; simp
      · rfl
    · have := hc (l + j) (by omega)
      rw [← Nat.add_assoc] at this
      rw [this, List.getD_eq_getElem?_getD, List.getD_eq_getElem?_getD, List.getElem?_drop, List.getElem?_take, if_pos (by omega)]

section
variable {ops : Array Oper} {rest : List Oper} {o : Oper} {a : Act} {Q : Exit → Act → World → Prop}
/-- 'x[l:]'. -/
theorem wpList_cut_lo (hgd : o.guard = none) (x lo : Operand) (ho : o.op = Op.slice 25 x (some lo) none none) (hx : a.eval x = .slice A n c) (h : IS w B A n c xs)
    (l : Int) (hlo : a.eval lo = .int .i64 l) (h0 : 0 ≤ l) (hl : l ≤ n)
    (hK : ∀ A' n' c', IS w B A' n' c' (xs.drop l.toNat) → wpList Try.prog ops Q rest (a.put o.dst (.slice A' n' c')) w) : wpList Try.prog ops Q (o :: rest) a w := by
  have hn := h.le
  have hlen := h.len
  obtain ⟨A', hrun, his⟩ := run_cut h (some (.int .i64 l)) none none l.toNat n c (fun W => by simp [Instr.sliceBounds, Instr.sliceBound, asIntOf, h0, hl]) (by omega) (Nat.le_refl _) hn (Nat.le_refl _)
  rw [List.take_of_length_le (by omega)] at his
  refine wpList_plain hgd fun K hK' => ?_
  unfold Oper.wp execOp
  simp [ho, hx, hlo, hrun, Result.andThen]
  exact hK' _ _ (hK A' _ _ his)
/-- 'x[:r]'. -/
theorem wpList_cut_hi (hgd : o.guard = none) (x hi : Operand) (ho : o.op = Op.slice 25 x none (some hi) none) (hx : a.eval x = .slice A n c) (h : IS w B A n c xs)
    (r : Int) (hhi : a.eval hi = .int .i64 r) (h0 : 0 ≤ r) (hr : r ≤ n)
    (hK : ∀ A' n' c', IS w B A' n' c' (xs.take r.toNat) → wpList Try.prog ops Q rest (a.put o.dst (.slice A' n' c')) w) : wpList Try.prog ops Q (o :: rest) a w := by
  have hn := h.le
  have hlen := h.len
  have hrc : r ≤ c := by omega
  obtain ⟨A', hrun, his⟩ := run_cut h none (some (.int .i64 r)) none 0 r.toNat c (fun W => by simp [Instr.sliceBounds, Instr.sliceBound, asIntOf, h0, hrc]) (by omega) (by omega) (by omega) (Nat.le_refl _)
  rw [List.drop_zero] at his
  refine wpList_plain hgd fun K hK' => ?_
  unfold Oper.wp execOp
  simp [ho, hx, hhi, hrun, Result.andThen]
  exact hK' _ _ (hK A' _ _ (by simpa using his))
/-- 'x[:r:m]'. -/
theorem wpList_cut_hi_max (hgd : o.guard = none) (x hi mx : Operand) (ho : o.op = Op.slice 25 x none (some hi) (some mx)) (hx : a.eval x = .slice A n c) (h : IS w B A n c xs)
    (r m : Int) (hhi : a.eval hi = .int .i64 r) (hmx : a.eval mx = .int .i64 m) (h0 : 0 ≤ r) (hr : r ≤ n) (hrm : r ≤ m) (hm : m ≤ c)
    (hK : ∀ A' n' c', IS w B A' n' c' (xs.take r.toNat) → wpList Try.prog ops Q rest (a.put o.dst (.slice A' n' c')) w) : wpList Try.prog ops Q (o :: rest) a w := by
  have hn := h.le
  have hlen := h.len
  obtain ⟨m, rfl⟩ := Int.eq_ofNat_of_zero_le (show 0 ≤ m by omega)
  obtain ⟨r, rfl⟩ := Int.eq_ofNat_of_zero_le h0
  obtain ⟨A', hrun, his⟩ := run_cut h none (some (.int .i64 r)) (some (.int .i64 m)) 0 r m (fun W => by
    have hrm' : r ≤ m := by omega
    have hmc' : m ≤ c := by omega
    simp [Instr.sliceBounds, Instr.sliceBound, asIntOf, hmc', hrm']) (by omega) (by omega) (by omega) (by omega)
  rw [List.drop_zero] at his
  refine wpList_plain hgd fun K hK' => ?_
  unfold Oper.wp execOp
  simp [ho, hx, hhi, hmx, hrun, Result.andThen]
  exact hK' _ _ (hK A' _ _ (by simpa using his))
end
end
end Go.Proofs.Ythobfbnopkbniaa
