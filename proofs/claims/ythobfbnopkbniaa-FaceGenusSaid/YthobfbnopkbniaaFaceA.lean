/-
  Joined texts: Base, Mem, GBase, Row, GOpen, Plain, RingA, Map, PlainB, GPlain, RPlain, RBase, RTakeA, RTake, MapE, GIn, GRight, GPart, GRightB, GHas, GPartB, RNewA, RLaw, RTwice, RFlip, FPlain, FRows. No conditions.
-/
import Derived.Test.YthobfbnopkbniaaProg
import Derived.WalkKit
import Derived.Lib.Hide
import Derived.Laws.OwnMore
import Derived.Deep.Draws
import Derived.Maps.AppendAt
import Derived.OwnWalk
import Derived.Deep.QuietTactic
import Derived.BigQuiet
import Derived.Deep.DeepMust
import Derived.OpenShut
import Derived.Deep.Slices
import Derived.Deep.Matrix
import Derived.Lib.SmallJoins
import Derived.ProofKit
import Derived.Maps.Own
import Derived.Maps.OwnSet
import Derived.Maps.OwnOps
import Derived.WideKeyEntry

section
namespace Go.Proofs.Ythobfbnopkbniaa
open Go.RowKit

/-- An integer that an int of 64 bits holds. -/
def I64 (x : Int) : Prop := -9223372036854775808 ≤ x ∧ x ≤ 9223372036854775807

/-- The slice value '.slice A n c' reads as the list xs; it lies below block B. -/
def IS (w : World) (B : Nat) (A : Option Addr) (n c : Nat) (xs : List Int) : Prop :=
  xs.length = n ∧ n ≤ c ∧ c ≤ 9223372036854775807 ∧ (∀ x ∈ xs, I64 x) ∧
    (0 < n → ∃ b o, A = some ⟨b, o, none⟩ ∧ b < B ∧ ∀ j, j < n → w.cell? ⟨b, o + j, none⟩ = some (.int .i64 (xs.getD j 0)))

theorem ret_int {k : IntKind} {a b : Int} (h : a = b) : Ending.returned (.int k a) = .returned (.int k b) := by rw [h]
theorem ret_bool {a b : Bool} (h : a = b) : Ending.returned (.bool a) = .returned (.bool b) := by rw [h]

section
variable {w w' : World} {B B' n c : Nat} {A : Option Addr} {xs : List Int}
theorem IS.len (h : IS w B A n c xs) : xs.length = n := h.1
theorem IS.le (h : IS w B A n c xs) : n ≤ c := h.2.1
theorem IS.cap (h : IS w B A n c xs) : c ≤ 9223372036854775807 := h.2.2.1
theorem IS.i64 (h : IS w B A n c xs) : ∀ x ∈ xs, I64 x := h.2.2.2.1
theorem IS.at_ (h : IS w B A n c xs) (hn : 0 < n) : ∃ b o, A = some ⟨b, o, none⟩ ∧ b < B ∧ ∀ j, j < n → w.cell? ⟨b, o + j, none⟩ = some (.int .i64 (xs.getD j 0)) := h.2.2.2.2 hn
theorem IS.none_ : IS w B none 0 0 [] := ⟨rfl, Nat.le_refl _, by omega, by simp, fun h => absurd h (by omega)⟩
theorem IS.keep (h : IS w B A n c xs) (hk : ∀ p : Addr, p.block < B → w'.cell? p = w.cell? p) : IS w' B A n c xs :=
  ⟨h.1, h.2.1, h.2.2.1, h.2.2.2.1, fun hn => by
    obtain ⟨b, o, e, hb, hc⟩ := h.2.2.2.2 hn
    exact ⟨b, o, e, hb, fun j hj => (hk ⟨b, o + j, none⟩ hb).trans (hc j hj)⟩⟩
theorem IS.more (h : IS w B A n c xs) (hB : B ≤ B') : IS w B' A n c xs :=
  ⟨h.1, h.2.1, h.2.2.1, h.2.2.2.1, fun hn => by
    obtain ⟨b, o, e, hb, hc⟩ := h.2.2.2.2 hn
    exact ⟨b, o, e, by omega, hc⟩⟩
theorem IS.below (h : IS w B A n c xs) (hb : Below B w w') : IS w' B A n c xs := h.keep fun _ hp => hb.cell hp
theorem IS.mem (h : IS w B A n c xs) {k : Nat} (hk : k < n) : xs.getD k 0 ∈ xs := by
  have hl : k < xs.length := by have := h.len; omega
  rw [List.getD_eq_getElem?_getD, List.getElem?_eq_getElem hl]
  exact List.getElem_mem hl
/-- One element, under a name of its own. -/
theorem IS.get (h : IS w B A n c xs) {k : Nat} (hk : k < n) :
    ∃ b o z, A = some ⟨b, o, none⟩ ∧ b < B ∧ Hid (xs.getD k 0 = z) ∧ I64 z ∧ w.cell? ⟨b, o + k, none⟩ = some (.int .i64 z) := by
  obtain ⟨b, o, e, hb, hc⟩ := h.at_ (by omega)
  exact ⟨b, o, _, e, hb, Lib.hid rfl, h.i64 _ (h.mem hk), hc k hk⟩
theorem IS.drew (h : IS w B A n c xs) : IS w.drew B A n c xs := h
theorem IS.drewN (h : IS w B A n c xs) (k : Nat) : IS (w.drewN k) B A n c xs := h
theorem IS.alloc (h : IS w B A n c xs) (hB : B ≤ w.heap.size) (o : Obj) : IS (w.alloc o) B A n c xs := h.keep fun p hp => World.cell?_alloc_lt w o p (by omega)
end

/-- w' is w behind some draws. -/
def Drawn (w w' : World) : Prop := ∃ m, w.drewN m = w'
theorem Drawn.refl (w : World) : Drawn w w := ⟨0, rfl⟩
theorem Drawn.of (w : World) (m : Nat) : Drawn w (w.drewN m) := ⟨m, rfl⟩
theorem Drawn.add {w w' : World} (h : Drawn w w') (m : Nat) : Drawn w (w'.drewN m) := by
  obtain ⟨k, rfl⟩ := h
  exact ⟨k + m, (World.drewN_drewN _ _ _).symm⟩
theorem Drawn.trans {a b c : World} (h : Drawn a b) (k : Drawn b c) : Drawn a c := by
  obtain ⟨m, rfl⟩ := k
  exact h.add m
theorem Drawn.below {w w' : World} (h : Drawn w w') (B : Nat) : Below B w w' := by
  obtain ⟨m, rfl⟩ := h
  exact ⟨rfl, rfl, rfl, Nat.le_refl _, fun _ _ => rfl⟩

end Go.Proofs.Ythobfbnopkbniaa
end

section
namespace Go.Proofs.Ythobfbnopkbniaa
open Go.RowKit

theorem Try.infoInt : (Try.prog.info? 3).map (fun i => (i.zero, i.size, i.bytes)) = some (some (.int .i64 0), 1, 8) := by kernel_rfl

/-- The slice value v is a row of the call's own (of a block that is new since w0); it reads as xs; below w0's blocks nothing has turned. -/
structure Own (w0 w : World) (v : Value) (xs : List Int) : Prop where
  row : w.ownsRow w0.heap.size 3 1 v xs.length (xs.map (Value.int .i64))
  below : Below w0.heap.size w0 w
  i64 : ∀ x ∈ xs, I64 x

section
variable {w0 w w' : World} {v : Value} {xs : List Int}
theorem Own.start (w0 : World) : Own w0 w0 (.slice none 0 0) [] := ⟨World.ownsRow_nil _ _ _ _, Below.refl _ _, by simp⟩
theorem Own.start_at (hb : Below w0.heap.size w0 w) : Own w0 w (.slice none 0 0) [] := ⟨World.ownsRow_nil _ _ _ _, hb, by simp⟩
theorem Own.alloc (h : Own w0 w v xs) (o : Obj) : Own w0 (w.alloc o) v xs := ⟨h.row.alloc o, h.below.alloc h.below.size o, h.i64⟩
theorem Own.drewN (h : Own w0 w v xs) (n : Nat) : Own w0 (w.drewN n) v xs := ⟨h.row, ⟨h.below.os, h.below.tape, h.below.output, h.below.size, h.below.block⟩, h.i64⟩
theorem Own.drawn (h : Own w0 w v xs) (hd : Drawn w w') : Own w0 w' v xs := by obtain ⟨n, rfl⟩ := hd; exact h.drewN n
/-- Nothing of w has turned. -/
theorem Own.later (h : Own w0 w v xs) (hb : Below w.heap.size w w') : Own w0 w' v xs :=
  ⟨h.row.kept (row := none) ⟨hb.os, hb.tape, hb.output, hb.size, fun i hi _ => hb.block i hi⟩ (by cases hv : v.ownBlock <;> simp), h.below.trans (hb.mono h.below.size), h.i64⟩
theorem Own.is (h : Own w0 w v xs) : ∃ A n c, v = .slice A n c ∧ IS w w.heap.size A n c xs := by
  rcases h.row.2 with ⟨rfl, hx⟩ | ⟨g, cap, cur, rfl, hb, hg, hnc, hcm, hcs, htake⟩
  · have : xs = [] := by simpa using hx
    subst this
    exact ⟨none, 0, 0, rfl, IS.none_⟩
  · refine ⟨_, _, _, rfl, rfl, hnc, hcm, h.i64, fun hn => ⟨g, 0, rfl, (Array.getElem?_eq_some_iff.1 hg).1, fun j hj => ?_⟩⟩
    have := h.row.cellAt j (by omega)
    rw [Nat.zero_add, this, List.getElem?_map, List.getElem?_eq_getElem hj, List.getD_eq_getElem?_getD, List.getElem?_eq_getElem hj]
    rfl
end

theorem Own.isNew {w0 w : World} {v : Value} {xs : List Int} (h : Own w0 w v xs) : ∃ A n c, v = .slice A n c ∧ IS w w.heap.size A n c xs ∧ ∀ a, A = some a → w0.heap.size ≤ a.block := by
  obtain ⟨A, n, c, rfl, his⟩ := h.is
  refine ⟨A, n, c, rfl, his, fun a ha => ?_⟩
  subst ha
  exact (h.row.lt a.block rfl).1

theorem IS.one (w : World) (x : Int) (hx : I64 x) : IS (w.alloc (.cells #[.int .i64 x] 3)) (w.heap.size + 1) (some ⟨w.heap.size, 0, none⟩) 1 1 [x] :=
  ⟨rfl, Nat.le_refl _, by omega, by simpa using hx, fun _ => ⟨_, 0, rfl, by omega, fun j hj => by
    obtain rfl : j = 0 := by omega
    simp⟩⟩

section
variable {w0 w : World} {v : Value} {xs : List Int}
set_option maxRecDepth 100000 in
theorem run_append_is (hown : Own w0 w v xs) {B : Nat} {A : Option Addr} {m c : Nat} {ys : List Int} (hr : IS w B A m c ys) (hb : xs.length + m ≤ 1000000000000) (ty : TypeId) :
    ∃ v' w', (Builtin.append_ #[25, 25] ty #[v, .slice A m c]).run Try.prog w = .ok v' w' ∧ Own w0 w' v' (xs ++ ys) ∧ w.grownBy w' v.ownBlock ∧ (v'.ownBlock = v.ownBlock ∨ v'.ownBlock = some w.heap.size) := by
  obtain ⟨i0, hi, hz0, hz1, hz2⟩ := info_parts Try.infoInt
  have hm := hr.len
  have hi64 : ∀ x ∈ xs ++ ys, I64 x := fun x hx => (List.mem_append.1 hx).elim (hown.i64 x) (hr.i64 x)
  rcases A with _ | ad
  · have hm0 : m = 0 := by
      rcases Nat.eq_zero_or_pos m with h0 | h0
      · exact h0
      · obtain ⟨b, o, h, _⟩ := hr.at_ h0
        cases h
    subst hm0
    have hy : ys = [] := List.eq_nil_of_length_eq_zero hm
    subst hy
    refine ⟨v, w, ?_, by simpa using hown, World.grownBy.refl w _, .inl rfl⟩
    rcases hown.row.2 with ⟨rfl, _⟩ | ⟨g, cap, cur, rfl, _, _, hnc, _⟩
    · simp [Builtin.append_, run_underlying Try.underlying25, sizeOf, typeInfo, hi, Builtin.lenOf, Builtin.firstCells]
    · simp [Builtin.append_, run_underlying Try.underlying25, sizeOf, typeInfo, hi, Builtin.lenOf, Builtin.firstCells, hnc, storeCells]
  · have hcells : ∀ j u, (ys.map (Value.int .i64))[j]? = some u → w.cell? (ad.add j) = some u := by
      intro j u hu
      rw [List.getElem?_map] at hu
      have hjl : j < ys.length := by
        rcases Nat.lt_or_ge j ys.length with h1 | h1
        · exact h1
        · rw [List.getElem?_eq_none h1] at hu; cases hu
      obtain ⟨b, o, h, _, hc⟩ := hr.at_ (by omega)
      injection h with h
      subst h
      have hadd : (⟨b, o, none⟩ : Addr).add j = ⟨b, o + j, none⟩ := by unfold Addr.add; split <;> simp_all
      rw [hadd, hc j (by omega), List.getD_eq_getElem?_getD]
      rw [List.getElem?_eq_getElem hjl] at hu ⊢
      exact hu
    obtain ⟨v', w', hrun, h2, h3, _, h5⟩ := run_append_own_at (P := Try.prog) w w0.heap.size 25 ty 3 i0 (.int .i64 0) 1 8 Try.underlying25 hi hz0 hz1 hz2 rfl (by decide)
      v xs.length (xs.map (Value.int .i64)) hown.row ad m c (ys.map (Value.int .i64)) (by simp [hm]) hcells (by intro u hu; obtain ⟨x, _, rfl⟩ := List.mem_map.1 hu; rfl) (by unfold maxLen; omega) (by omega) hown.below.size
    refine ⟨v', w', hrun, ⟨?_, hown.below.grown h3 hown.below.size fun k hk => (hown.row.lt k hk).1, hi64⟩, h3, h5⟩
    rw [List.length_append, hm, List.map_append]
    exact h2

/-- 'append(v, xs...)' onto a row of the call's own. -/
theorem wpList_append_is {ops : Array Oper} {rest : List Oper} {o : Oper} {a : Act} {Q : Exit → Act → World → Prop} (hgd : o.guard = none) (s x : Operand)
    (ho : o.op = .call { callee := .builtin .append, args := #[s, x], argTypes := #[25, 25] }) (hs : a.eval s = v) (hown : Own w0 w v xs)
    {B : Nat} {A : Option Addr} {m c : Nat} {ys : List Int} (hx : a.eval x = .slice A m c) (hr : IS w B A m c ys) (hb : xs.length + m ≤ 1000000000000)
    (h : ∀ v' w', Own w0 w' v' (xs ++ ys) → w.grownBy w' v.ownBlock → (v'.ownBlock = v.ownBlock ∨ v'.ownBlock = some w.heap.size) → wpList Try.prog ops Q rest (a.put o.dst v') w') : wpList Try.prog ops Q (o :: rest) a w := by
  obtain ⟨v', w', hrun, h2, h3, h4⟩ := run_append_is hown hr hb o.type
  refine wpList_plain hgd fun K hK => ?_
  unfold Oper.wp execOp
  simp only [ho, resolve, invoke, builtin, Sem.run_bind, Sem.run_pure, Result.andThen_ok, List.map_toArray, List.map_cons, List.map_nil, hs, hx, hrun]
  exact hK _ _ (h v' w' h2 h3 h4)

/-- 'append(v, x)': x has been laid into a block of its own. -/
theorem wpList_append_one {ops : Array Oper} {rest : List Oper} {o : Oper} {a : Act} {Q : Exit → Act → World → Prop} (hgd : o.guard = none) (s x : Operand)
    (ho : o.op = .call { callee := .builtin .append, args := #[s, x], argTypes := #[25, 25] }) (hs : a.eval s = v) (hown : Own w0 w v xs) (z : Int) (hz : I64 z)
    (hx : a.eval x = .slice (some ⟨w.heap.size, 0, none⟩) 1 1) (hb : xs.length + 1 ≤ 1000000000000)
    (h : ∀ v' w', Own w0 w' v' (xs ++ [z]) → (w.alloc (.cells #[.int .i64 z] 3)).grownBy w' v.ownBlock → (v'.ownBlock = v.ownBlock ∨ v'.ownBlock = some (w.heap.size + 1)) → wpList Try.prog ops Q rest (a.put o.dst v') w') :
    wpList Try.prog ops Q (o :: rest) a (w.alloc (.cells #[.int .i64 z] 3)) :=
  wpList_append_is hgd s x ho hs (hown.alloc _) hx (IS.one w z hz) hb fun v' w' h1 h2 h3 => h v' w' h1 h2 (by simpa using h3)

/-- 'make([]int, 0, n)'. -/
theorem wpList_make_is {ops : Array Oper} {rest : List Oper} {o : Oper} {a : Act} {Q : Exit → Act → World → Prop} (hg : o.guard = none) (l c : Operand) (hop : o.op = Op.makeSlice 25 l c)
    (hb : Below w0.heap.size w0 w) (kl kc : IntKind) (C : Int) (n : Nat) (hl : a.eval l = .int kl 0) (hc : a.eval c = .int kc C) (hC : C = (n : Int)) (b2 : n ≤ 1000000000000)
    (hK : ∀ v' w', Own w0 w' v' [] → w.grownBy w' none → v'.ownBlock = some w.heap.size → wpList Try.prog ops Q rest (a.put o.dst v') w') : wpList Try.prog ops Q (o :: rest) a w := by
  obtain ⟨i0, hi, hz0, hz1, hz2⟩ := info_parts Try.infoInt
  refine wpList_make_own w hg l c 25 hop w0.heap.size 3 i0 (.int .i64 0) 1 Try.underlying25 hi hz0 hz1 kl kc C n hl hc hC (by rw [hz2]; omega) (by unfold maxLen; omega) hb.size
    fun w' h1 h2 => hK _ w' ⟨by simpa using h1, hb.grown h2 hb.size (fun k hk => by cases hk), by simp⟩ h2 rfl
end

section
variable {w : World} {B n c : Nat} {A : Option Addr} {xs : List Int}
set_option maxRecDepth 100000 in
theorem run_cut (h : IS w B A n c xs) (lo hi mx : Option Value) (l r m : Nat) (hb : ∀ W, (Instr.sliceBounds true n c lo hi mx).run Try.prog W = .ok (l, r, m) W)
    (hlr : l ≤ r) (hrn : r ≤ n) (hrm : r ≤ m) (hmc : m ≤ c) :
    ∃ A', (∀ W, (Instr.sliceAt 25 (.slice A n c) lo hi mx).run Try.prog W = .ok (.slice A' (r - l) (m - l)) W) ∧ IS w B A' (r - l) (m - l) ((xs.take r).drop l) := by
  obtain ⟨i0, hi0, hz0, hz1, hz2⟩ := info_parts Try.infoInt
  have hlen := h.len
  have hcap := h.cap
  refine ⟨if m = l then A else A.map (·.add (l * 1)), fun W => ?_, ?_⟩
  · simp [Instr.sliceAt, Instr.slice, run_underlying Try.underlying25, hb, sizeOf, typeInfo, hi0, hz1]
  · refine ⟨by rw [List.length_drop, List.length_take]; omega, by omega, by omega, fun x hx => h.i64 x (List.mem_of_mem_take (List.mem_of_mem_drop hx)), fun hn => ?_⟩
    obtain ⟨b, o, rfl, hbB, hc⟩ := h.at_ (by omega)
    rw [if_neg (by omega)]
    refine ⟨b, o + l, ?_, hbB, fun j hj => ?_⟩
    · simp only [Option.map_some, Nat.mul_one, Addr.add]
      split
      · subst_vars; simp
      · rfl
    · have := hc (l + j) (by omega)
      rw [← Nat.add_assoc] at this
      rw [this, List.getD_eq_getElem?_getD, List.getD_eq_getElem?_getD, List.getElem?_drop, List.getElem?_take, if_pos (by omega)]

section
variable {ops : Array Oper} {rest : List Oper} {o : Oper} {a : Act} {Q : Exit → Act → World → Prop}
/-- 'x[l:]'. -/
theorem wpList_cut_lo (hgd : o.guard = none) (x lo : Operand) (ho : o.op = Op.slice 25 x (some lo) none none) (hx : a.eval x = .slice A n c) (h : IS w B A n c xs)
    (l : Int) (hlo : a.eval lo = .int .i64 l) (h0 : 0 ≤ l) (hl : l ≤ n)
    (hK : ∀ A' n' c', IS w B A' n' c' (xs.drop l.toNat) → wpList Try.prog ops Q rest (a.put o.dst (.slice A' n' c')) w) : wpList Try.prog ops Q (o :: rest) a w := by
  have hn := h.le
  have hlen := h.len
  obtain ⟨A', hrun, his⟩ := run_cut h (some (.int .i64 l)) none none l.toNat n c (fun W => by simp [Instr.sliceBounds, Instr.sliceBound, asIntOf, h0, hl]) (by omega) (Nat.le_refl _) hn (Nat.le_refl _)
  rw [List.take_of_length_le (by omega)] at his
  refine wpList_plain hgd fun K hK' => ?_
  unfold Oper.wp execOp
  simp [ho, hx, hlo, hrun, Result.andThen]
  exact hK' _ _ (hK A' _ _ his)
/-- 'x[:r]'. -/
theorem wpList_cut_hi (hgd : o.guard = none) (x hi : Operand) (ho : o.op = Op.slice 25 x none (some hi) none) (hx : a.eval x = .slice A n c) (h : IS w B A n c xs)
    (r : Int) (hhi : a.eval hi = .int .i64 r) (h0 : 0 ≤ r) (hr : r ≤ n)
    (hK : ∀ A' n' c', IS w B A' n' c' (xs.take r.toNat) → wpList Try.prog ops Q rest (a.put o.dst (.slice A' n' c')) w) : wpList Try.prog ops Q (o :: rest) a w := by
  have hn := h.le
  have hlen := h.len
  have hrc : r ≤ c := by omega
  obtain ⟨A', hrun, his⟩ := run_cut h none (some (.int .i64 r)) none 0 r.toNat c (fun W => by simp [Instr.sliceBounds, Instr.sliceBound, asIntOf, h0, hrc]) (by omega) (by omega) (by omega) (Nat.le_refl _)
  rw [List.drop_zero] at his
  refine wpList_plain hgd fun K hK' => ?_
  unfold Oper.wp execOp
  simp [ho, hx, hhi, hrun, Result.andThen]
  exact hK' _ _ (hK A' _ _ (by simpa using his))
/-- 'x[:r:m]'. -/
theorem wpList_cut_hi_max (hgd : o.guard = none) (x hi mx : Operand) (ho : o.op = Op.slice 25 x none (some hi) (some mx)) (hx : a.eval x = .slice A n c) (h : IS w B A n c xs)
    (r m : Int) (hhi : a.eval hi = .int .i64 r) (hmx : a.eval mx = .int .i64 m) (h0 : 0 ≤ r) (hr : r ≤ n) (hrm : r ≤ m) (hm : m ≤ c)
    (hK : ∀ A' n' c', IS w B A' n' c' (xs.take r.toNat) → wpList Try.prog ops Q rest (a.put o.dst (.slice A' n' c')) w) : wpList Try.prog ops Q (o :: rest) a w := by
  have hn := h.le
  have hlen := h.len
  obtain ⟨m, rfl⟩ := Int.eq_ofNat_of_zero_le (show 0 ≤ m by omega)
  obtain ⟨r, rfl⟩ := Int.eq_ofNat_of_zero_le h0
  obtain ⟨A', hrun, his⟩ := run_cut h none (some (.int .i64 r)) (some (.int .i64 m)) 0 r m (fun W => by
    have hrm' : r ≤ m := by omega
    have hmc' : m ≤ c := by omega
    simp [Instr.sliceBounds, Instr.sliceBound, asIntOf, hmc', hrm']) (by omega) (by omega) (by omega) (by omega)
  rw [List.drop_zero] at his
  refine wpList_plain hgd fun K hK' => ?_
  unfold Oper.wp execOp
  simp [ho, hx, hhi, hmx, hrun, Result.andThen]
  exact hK' _ _ (hK A' _ _ (by simpa using his))
end
end
end Go.Proofs.Ythobfbnopkbniaa
end

section
namespace Go.Proofs.Ythobfbnopkbniaa
open Go.RowKit

/-- The slice value '.slice A m c' of edges reads as the list es; it lies below block B. -/
def ES (w : World) (B : Nat) (A : Option Addr) (m c : Nat) (es : List (Int × Int)) : Prop :=
  es.length = m ∧ m ≤ c ∧ c ≤ 9223372036854775807 ∧ (∀ e ∈ es, I64 e.1 ∧ I64 e.2) ∧
    (0 < m → ∃ b o, A = some ⟨b, o, none⟩ ∧ b < B ∧ ∀ j, j < m → w.cell? ⟨b, o + j * 2, none⟩ = some (.int .i64 (es.getD j (0, 0)).1) ∧ w.cell? ⟨b, o + j * 2 + 1, none⟩ = some (.int .i64 (es.getD j (0, 0)).2))
section
variable {w w' : World} {B B' m c : Nat} {A : Option Addr} {es : List (Int × Int)}
theorem ES.len (h : ES w B A m c es) : es.length = m := h.1
theorem ES.le (h : ES w B A m c es) : m ≤ c := h.2.1
theorem ES.cap (h : ES w B A m c es) : c ≤ 9223372036854775807 := h.2.2.1
theorem ES.get (h : ES w B A m c es) {k : Nat} (hk : k < m) :
    ∃ b o x y, A = some ⟨b, o, none⟩ ∧ b < B ∧ Hid (es.getD k (0, 0) = (x, y)) ∧ I64 x ∧ I64 y ∧ w.cell? ⟨b, o + k * 2, none⟩ = some (.int .i64 x) ∧ w.cell? ⟨b, o + k * 2 + 1, none⟩ = some (.int .i64 y) := by
  obtain ⟨b, o, e, hb, hc⟩ := h.2.2.2.2 (by omega)
  have hmem : es.getD k (0, 0) ∈ es := by
    have hl : k < es.length := by have := h.len; omega
    rw [List.getD_eq_getElem?_getD, List.getElem?_eq_getElem hl]
    exact List.getElem_mem hl
  exact ⟨b, o, _, _, e, hb, Lib.hid rfl, (h.2.2.2.1 _ hmem).1, (h.2.2.2.1 _ hmem).2, (hc k hk).1, (hc k hk).2⟩
theorem ES.keep (h : ES w B A m c es) (hk : ∀ p : Addr, p.block < B → w'.cell? p = w.cell? p) : ES w' B A m c es :=
  ⟨h.1, h.2.1, h.2.2.1, h.2.2.2.1, fun hn => by
    obtain ⟨b, o, e, hb, hc⟩ := h.2.2.2.2 hn
    exact ⟨b, o, e, hb, fun j hj => ⟨(hk ⟨b, o + j * 2, none⟩ hb).trans (hc j hj).1, (hk ⟨b, o + j * 2 + 1, none⟩ hb).trans (hc j hj).2⟩⟩⟩
theorem ES.more (h : ES w B A m c es) (hB : B ≤ B') : ES w B' A m c es :=
  ⟨h.1, h.2.1, h.2.2.1, h.2.2.2.1, fun hn => by
    obtain ⟨b, o, e, hb, hc⟩ := h.2.2.2.2 hn
    exact ⟨b, o, e, by omega, hc⟩⟩
theorem ES.below (h : ES w B A m c es) (hb : Below B w w') : ES w' B A m c es := h.keep fun _ hp => hb.cell hp
theorem ES.step (h : ES w w.heap.size A m c es) (hb : Below w.heap.size w w') : ES w' w'.heap.size A m c es := (h.below hb).more hb.size
end
theorem IS.step {w w' : World} {A : Option Addr} {n c : Nat} {xs : List Int} (h : IS w w.heap.size A n c xs) (hb : Below w.heap.size w w') : IS w' w'.heap.size A n c xs := (h.below hb).more hb.size
theorem bstep {a b c : World} (h : Below a.heap.size a b) (k : Below b.heap.size b c) : Below a.heap.size a c := h.trans (k.mono h.size)

/-- A graph and a part, by value, in memory. -/
structure GP (w : World) (N : Int) (A : Option Addr) (m c : Nat) (es : List (Int × Int)) (Av : Option Addr) (nv cv : Nat) (vs : List Int) (Ae : Option Addr) (ne ce : Nat) (xs : List Int) : Prop where
  g : ES w w.heap.size A m c es
  n : I64 N
  v : IS w w.heap.size Av nv cv vs
  e : IS w w.heap.size Ae ne ce xs
theorem GP.step {w w' : World} {N : Int} {A : Option Addr} {m c : Nat} {es : List (Int × Int)} {Av : Option Addr} {nv cv : Nat} {vs : List Int} {Ae : Option Addr} {ne ce : Nat} {xs : List Int}
    (h : GP w N A m c es Av nv cv vs Ae ne ce xs) (hb : Below w.heap.size w w') : GP w' N A m c es Av nv cv vs Ae ne ce xs := ⟨h.g.step hb, h.n, h.v.step hb, h.e.step hb⟩

/-- A new block of cells: its own cells; what lay there has not turned. -/
theorem box_one (w : World) (cs : Array Value) (t : TypeId) : ∃ w1, w.alloc (.cells cs t) = w1 ∧ Below w.heap.size w w1 ∧ w.heap.size < w1.heap.size ∧ (∀ i, w1.cell? ⟨w.heap.size, i, none⟩ = cs[i]?) :=
  ⟨_, rfl, (Below.refl _ _).alloc (Nat.le_refl _) _, by simp, fun i => cell_of_row _ w.heap.size i _ _ _ (heap_alloc_new w _)⟩

/-- The two blocks into which a function lays its graph and its part. -/
def GB (w : World) (gb pb : Nat) (N : Int) (A : Option Addr) (m c : Nat) (es : List (Int × Int)) (Av : Option Addr) (nv cv : Nat) (Ae : Option Addr) (ne ce : Nat) : Prop :=
  gb < w.heap.size ∧ pb < w.heap.size ∧ w.cell? ⟨gb, 0, none⟩ = some (.int .i64 N) ∧ w.cell? ⟨gb, 1, none⟩ = some (.slice A m c) ∧ w.cell? ⟨pb, 0, none⟩ = some (.slice Av nv cv) ∧ w.cell? ⟨pb, 1, none⟩ = some (.slice Ae ne ce) ∧ es = es
theorem GB.step {w w' : World} {gb pb : Nat} {N : Int} {A : Option Addr} {m c : Nat} {es : List (Int × Int)} {Av : Option Addr} {nv cv : Nat} {Ae : Option Addr} {ne ce : Nat}
    (h : GB w gb pb N A m c es Av nv cv Ae ne ce) (hb : Below w.heap.size w w') : GB w' gb pb N A m c es Av nv cv Ae ne ce := by
  obtain ⟨h1, h2, c0, c1, c2, c3, _⟩ := h
  have := hb.size
  exact ⟨by omega, by omega, (hb.cell (p := ⟨gb, 0, none⟩) h1).trans c0, (hb.cell (p := ⟨gb, 1, none⟩) h1).trans c1, (hb.cell (p := ⟨pb, 0, none⟩) h2).trans c2, (hb.cell (p := ⟨pb, 1, none⟩) h2).trans c3, rfl⟩
theorem box_gp (w : World) (N : Int) (A : Option Addr) (m c : Nat) (es : List (Int × Int)) (Av : Option Addr) (nv cv : Nat) (Ae : Option Addr) (ne ce : Nat) :
    ∃ w1, (w.alloc (.cells #[.int .i64 N, .slice A m c] 24)).alloc (.cells #[.slice Av nv cv, .slice Ae ne ce] 27) = w1 ∧ Below w.heap.size w w1 ∧ GB w1 w.heap.size (w.heap.size + 1) N A m c es Av nv cv Ae ne ce := by
  obtain ⟨w1, hw1, b1, s1, c1⟩ := box_one w #[.int .i64 N, .slice A m c] 24
  obtain ⟨w2, hw2, b2, s2, c2⟩ := box_one w1 #[.slice Av nv cv, .slice Ae ne ce] 27
  have hs : w1.heap.size = w.heap.size + 1 := by rw [← hw1]; simp
  rw [hs] at c2 s2
  rw [hw1, hw2]
  exact ⟨w2, rfl, bstep b1 b2, by omega, by omega, (b2.cell (p := ⟨w.heap.size, 0, none⟩) s1).trans (c1 0), (b2.cell (p := ⟨w.heap.size, 1, none⟩) s1).trans (c1 1), c2 0, c2 1, rfl⟩

/-- A world behind w in which nothing that was there has turned. -/
structure After (w : World) where
  at_ : World
  below : Below w.heap.size w at_
theorem After.has (w : World) : Nonempty (After w) := ⟨⟨w, Below.refl _ _⟩⟩
theorem After.cell {w : World} {b o : Nat} {v : Value} (hb : b < w.heap.size) (h : w.cell? ⟨b, o, none⟩ = some v) : ∀ x : After w, x.at_.cell? ⟨b, o, none⟩ = some v :=
  fun x => (x.below.cell (p := ⟨b, o, none⟩) hb).trans h
/-- A region that draws its order, whose operations read and call what may make memory: one walk in the text's order. -/
theorem wp_region_after {P : Program} {id : Nat} {Q : Exit → Act → World → Prop} {a : Act} {w : World} {l : List Oper} (hm : P.follows .mixedOrders = true) (hB : Region.lexB .any l.toArray = true)
    (h : wpQuiet P l.toArray (fun w' => ∃ x : After w, w' = x.at_) (fun a' => ∀ w', (∃ x : After w, w' = x.at_) → Q .normal a' w') l a) : (Code.region id l.toArray true).wp P Q a w :=
  wp_region_quiet (C := fun w' => ∃ x : After w, w' = x.at_) hm hB ⟨⟨{ w with drawn := w.drawn + 1 }, ⟨rfl, rfl, rfl, Nat.le_refl _, fun _ _ => rfl⟩⟩, rfl⟩ (by simpa using h)
/-- A call in such a region. -/
theorem After.call {P : Program} {f : FuncId} {args : Array Value} {w : World} {x : After w} {v : Value} (h : Calls P f args x.at_ fun e w' => e = .returned v ∧ Below x.at_.heap.size x.at_ w') :
    Calls P f args x.at_ fun e w' => e = .returned v ∧ ∃ y : After w, w' = y.at_ :=
  h.mono fun _ w' ⟨he, hb⟩ => ⟨he, ⟨w', bstep x.below hb⟩, rfl⟩
theorem After.same {P : Program} {f : FuncId} {args : Array Value} {w : World} {x : After w} {v : Value} (h : Calls P f args x.at_ fun e w' => e = .returned v ∧ x.at_ = w') :
    Calls P f args x.at_ fun e w' => e = .returned v ∧ ∃ y : After w, w' = y.at_ :=
  h.mono fun _ _ ⟨he, hb⟩ => ⟨he, x, hb.symm⟩
theorem After.drawn {P : Program} {f : FuncId} {args : Array Value} {w : World} {x : After w} {v : Value} (h : Calls P f args x.at_ fun e w' => e = .returned v ∧ Drawn x.at_ w') :
    Calls P f args x.at_ fun e w' => e = .returned v ∧ ∃ y : After w, w' = y.at_ :=
  After.call (h.mono fun _ _ ⟨he, hb⟩ => ⟨he, hb.below _⟩)
end Go.Proofs.Ythobfbnopkbniaa
end

section
namespace Go.Proofs.Ythobfbnopkbniaa
open Go.RowKit

theorem i64_of_wf {x : Int} (h : (Lit.int .i64 x).wf = true) : I64 x := bounds_i64 h

theorem is_of_row {w : World} {a : Option Addr} {len cap : Nat} {zs : List Int}
    (h : (a = none ∧ len = 0 ∧ cap = 0 ∧ zs = []) ∨ ∃ x, a = some x ∧ len ≤ cap ∧ cap ≤ maxLen ∧ zs.length = cap ∧ (∀ i, i < zs.length → w.cell? (x.add i) = some (.int .i64 (zs.getD i 0))) ∧ ∀ n ∈ zs, (Lit.int .i64 n).wf = true) :
    IS w w.heap.size a len cap (zs.take len) := by
  rcases h with ⟨rfl, rfl, rfl, rfl⟩ | ⟨x, rfl, hl, hm, hz, hc, hw⟩
  · exact IS.none_
  · refine ⟨by rw [List.length_take]; omega, hl, hm, fun y hy => i64_of_wf (hw y (List.mem_of_mem_take hy)), fun hn => ?_⟩
    have h0 := hc 0 (by omega)
    have ha : x.add 0 = x := by simp [Addr.add]
    rw [ha] at h0
    obtain ⟨b, o, s⟩ := x
    have hs : s = none := by
      cases s with
      | none => rfl
      | some y =>
        unfold World.cell? at h0
        split at h0 <;> simp at h0
    subst hs
    refine ⟨b, o, rfl, World.block_lt_of_cell? w _ h0, fun j hj => ?_⟩
    have := hc j (by omega)
    have hadd : (⟨b, o, none⟩ : Addr).add j = ⟨b, o + j, none⟩ := by unfold Addr.add; split <;> simp_all
    rw [hadd] at this
    rw [this, List.getD_eq_getElem?_getD, List.getD_eq_getElem?_getD, List.getElem?_take, if_pos hj]
end Go.Proofs.Ythobfbnopkbniaa
end

section
namespace Go.Proofs.Ythobfbnopkbniaa
open Go.RowKit Go.ChangeShapes Go.WideShapes Go.Deep Go.Joins

/-- The slice value '.slice A n c' of slices of integers reads as the list of lists tt; it and its rows lie below block B. -/
def TS (w : World) (B : Nat) (A : Option Addr) (n c : Nat) (tt : List (List Int)) : Prop :=
  tt.length = n ∧ n ≤ c ∧ c ≤ 9223372036854775807 ∧
    (0 < n → ∃ b o, A = some ⟨b, o, none⟩ ∧ b < B ∧ ∀ j, j < n → ∃ Aj nj cj, w.cell? ⟨b, o + j, none⟩ = some (.slice Aj nj cj) ∧ IS w B Aj nj cj (tt.getD j []))
section
variable {w w' : World} {B B' n c : Nat} {A : Option Addr} {tt : List (List Int)}
theorem TS.len (h : TS w B A n c tt) : tt.length = n := h.1
theorem TS.le (h : TS w B A n c tt) : n ≤ c := h.2.1
theorem TS.cap (h : TS w B A n c tt) : c ≤ 9223372036854775807 := h.2.2.1
theorem TS.none_ : TS w B none 0 0 [] := ⟨rfl, Nat.le_refl _, by omega, fun h => absurd h (by omega)⟩
theorem TS.get (h : TS w B A n c tt) {k : Nat} (hk : k < n) :
    ∃ b o t Ak nk ck, A = some ⟨b, o, none⟩ ∧ b < B ∧ Hid (tt.getD k [] = t) ∧ w.cell? ⟨b, o + k, none⟩ = some (.slice Ak nk ck) ∧ IS w B Ak nk ck t := by
  obtain ⟨b, o, e, hb, hc⟩ := h.2.2.2 (by omega)
  obtain ⟨Aj, nj, cj, h1, h2⟩ := hc k hk
  exact ⟨b, o, _, Aj, nj, cj, e, hb, Lib.hid rfl, h1, h2⟩
theorem TS.keep (h : TS w B A n c tt) (hk : ∀ p : Addr, p.block < B → w'.cell? p = w.cell? p) : TS w' B A n c tt :=
  ⟨h.1, h.2.1, h.2.2.1, fun hn => by
    obtain ⟨b, o, e, hb, hc⟩ := h.2.2.2 hn
    refine ⟨b, o, e, hb, fun j hj => ?_⟩
    obtain ⟨Aj, nj, cj, h1, h2⟩ := hc j hj
    exact ⟨Aj, nj, cj, (hk ⟨b, o + j, none⟩ hb).trans h1, h2.keep hk⟩⟩
theorem TS.more (h : TS w B A n c tt) (hB : B ≤ B') : TS w B' A n c tt :=
  ⟨h.1, h.2.1, h.2.2.1, fun hn => by
    obtain ⟨b, o, e, hb, hc⟩ := h.2.2.2 hn
    refine ⟨b, o, e, by omega, fun j hj => ?_⟩
    obtain ⟨Aj, nj, cj, h1, h2⟩ := hc j hj
    exact ⟨Aj, nj, cj, h1, h2.more hB⟩⟩
theorem TS.below (h : TS w B A n c tt) (hb : Below B w w') : TS w' B A n c tt := h.keep fun _ hp => hb.cell hp
theorem TS.step (h : TS w w.heap.size A n c tt) (hb : Below w.heap.size w w') : TS w' w'.heap.size A n c tt := (h.below hb).more hb.size
end

theorem addr_at {w : World} {x : Addr} {v : Value} (h : w.cell? (x.add 0) = some v) : ∃ b o, x = ⟨b, o, none⟩ ∧ b < w.heap.size := by
  have ha : x.add 0 = x := by simp [Addr.add]
  rw [ha] at h
  obtain ⟨b, o, s⟩ := x
  have hs : s = none := by
    cases s with
    | none => rfl
    | some y =>
      unfold World.cell? at h
      split at h <;> simp at h
  subst hs
  exact ⟨b, o, rfl, World.block_lt_of_cell? w _ h⟩
theorem addr_add (b o j : Nat) : (⟨b, o, none⟩ : Addr).add j = ⟨b, o + j, none⟩ := by unfold Addr.add; split <;> simp_all

section
variable {H : Type} {enc : TypeId × Value → H} {w : World} {base : Nat} {held : Bool}
theorem open_is {fuel : Nat} {v : Value} {x : DataW H × List MemPlace} (h : DataW.trod enc Try.prog w base (fun _ => true) held fuel 25 [v] = some x) :
    ∃ A n c xs, v = .slice A n c ∧ IS w w.heap.size A n c xs := by
  rcases open_ints Try.underlying25 Try.underlying3 (by kernel_rfl) h with ⟨hcs, _⟩ | ⟨y, l, c, zs, hcs, _, hl, hm, hz, _, hcell, hwz⟩
  · simp at hcs
    subst hcs
    exact ⟨none, 0, 0, [], rfl, IS.none_⟩
  · simp at hcs
    subst hcs
    exact ⟨_, _, _, _, rfl, is_of_row (.inr ⟨y, rfl, hl, hm, by simpa using hz, hcell, hwz⟩)⟩

theorem open_ts {fuel : Nat} {v : Value} {x : DataW H × List MemPlace} (h : DataW.trod enc Try.prog w base (fun _ => true) held fuel 28 [v] = some x) :
    ∃ A n c tt, v = .slice A n c ∧ TS w w.heap.size A n c tt := by
  rcases open_int_rows Try.underlying28 Try.underlying25 Try.underlying3 (by kernel_rfl) (by kernel_rfl) h with ⟨hcs, _⟩ | ⟨a, len, cap, A, L, C, Z, hcs, _, hl, hm, _, hr⟩
  · simp at hcs
    subst hcs
    exact ⟨none, 0, 0, [], rfl, TS.none_⟩
  · simp at hcs
    subst hcs
    refine ⟨_, _, _, (List.range len).map fun r => (Z r).take (L r), rfl, by simp, hl, hm, fun hn => ?_⟩
    obtain ⟨b, o, rfl, hb⟩ := addr_at (hr 0 (by omega)).1
    refine ⟨b, o, rfl, hb, fun j hj => ?_⟩
    obtain ⟨h1, h2, h3, h4, h5, h6, h7⟩ := hr j (by omega)
    rw [addr_add] at h1
    refine ⟨_, _, _, h1, ?_⟩
    have hget : ((List.range len).map fun r => (Z r).take (L r)).getD j [] = (Z j).take (L j) := by
      rw [List.getD_eq_getElem?_getD, List.getElem?_map, List.getElem?_range hj]
      rfl
    rw [hget]
    cases hA : A j with
    | none =>
      have hc0 := h6 hA
      have hz0 : Z j = [] := List.eq_nil_of_length_eq_zero (by omega)
      rw [hz0, show L j = 0 by omega, hc0]
      exact is_of_row (.inl ⟨rfl, rfl, rfl, rfl⟩)
    | some y => exact is_of_row (.inr ⟨y, rfl, h2, h3, h4, fun i hi => (h7 y hA).2 i (by omega), h5⟩)

set_option maxRecDepth 100000 in
theorem open_es {fuel : Nat} {v : Value} {x : DataW H × List MemPlace} (h : DataW.trod enc Try.prog w base (fun _ => true) held fuel 22 [v] = some x) :
    ∃ A m c es, v = .slice A m c ∧ ES w w.heap.size A m c es := by
  rcases open_slice Try.underlying22 h with ⟨hcs, _⟩ | ⟨a, len, cap, m, n, D, Pl, hcs, _, hl, hm, hmm, _, hi⟩
  · simp at hcs
    subst hcs
    exact ⟨none, 0, 0, [], rfl, rfl, Nat.le_refl _, by omega, by simp, fun h => absurd h (by omega)⟩
  · simp at hcs
    subst hcs
    have hC : Try.prog.cellsOf 86 = 2 := by kernel_rfl
    have hI : Try.prog.cellsOf 3 = 1 := by kernel_rfl
    rw [hC] at hi
    simp only [if_true] at hmm
    have each : ∀ i, i < len → ∃ e : Int × Int, I64 e.1 ∧ I64 e.2 ∧ w.cell? (a.add (i * 2)) = some (.int .i64 e.1) ∧ w.cell? ((a.add (i * 2)).add 1) = some (.int .i64 e.2) := by
      intro i hil
      obtain ⟨cs', hc, ht⟩ := hi i (by omega)
      obtain ⟨_, hcl, hat⟩ := World.cells?_some hc
      match cs', hcl with
      | [u0, u1], _ =>
        obtain ⟨y0, y1, n', _, _, g0, g1⟩ := trod_struct2 Try.underlying86 ht
        have t0 : DataW.trod enc Try.prog w base (fun _ => true) held n' 3 [u0] = some y0 := by dsimp only at g0; rw [hI] at g0; exact g0
        have t1 : DataW.trod enc Try.prog w base (fun _ => true) held n' 3 [u1] = some y1 := by dsimp only at g1; rw [hI] at g1; exact g1
        obtain ⟨q0, e0, _, w0⟩ := DataW.trod_int Try.underlying3 t0
        obtain ⟨q1, e1, _, w1⟩ := DataW.trod_int Try.underlying3 t1
        simp at e0 e1
        subst e0
        subst e1
        have c0 := hat 0 (by omega)
        have c1 := hat 1 (by omega)
        refine ⟨(q0, q1), i64_of_wf w0, i64_of_wf w1, ?_, c1⟩
        have : (a.add (i * 2)).add 0 = a.add (i * 2) := by simp [Addr.add]
        rw [this] at c0
        exact c0
    obtain ⟨E, hE⟩ := choose_lt each
    refine ⟨_, _, _, (List.range len).map E, rfl, by simp, hl, hm, fun e he => ?_, fun hn => ?_⟩
    · obtain ⟨i, hi', rfl⟩ := List.mem_map.1 he
      have := hE i (List.mem_range.1 hi')
      exact ⟨this.1, this.2.1⟩
    · have h0 := (hE 0 (by omega)).2.2.1
      rw [Nat.zero_mul] at h0
      obtain ⟨b, o, rfl, hb⟩ := addr_at h0
      refine ⟨b, o, rfl, hb, fun j hj => ?_⟩
      have hget : ((List.range len).map E).getD j (0, 0) = E j := by
        rw [List.getD_eq_getElem?_getD, List.getElem?_map, List.getElem?_range hj]
        rfl
      rw [hget]
      obtain ⟨_, _, g3, g4⟩ := hE j hj
      rw [addr_add] at g3 g4
      rw [addr_add] at g4
      exact ⟨g3, g4⟩

set_option maxRecDepth 100000 in
/-- A graph and a part, by value. -/
theorem open_graph {r : Reach} {b0 : Nat} {v : Value} {d : DataW H} {p : List MemPlace} (hv : Value.okWide Try.prog w r b0 24 v) (h : DataW.Trod enc Try.prog w base (fun _ => true) held 24 v d p) :
    ∃ N A m c es, v = .agg #[.int .i64 N, .slice A m c] ∧ I64 N ∧ ES w w.heap.size A m c es := by
  obtain ⟨v0, v1, y0, y1, n, rfl, _, _, h0, h1⟩ := open_agg2 Try.underlying24 (by kernel_rfl) (by kernel_rfl) hv h
  obtain ⟨q0, e0, _, w0⟩ := DataW.trod_int Try.underlying3 h0
  simp at e0
  subst e0
  obtain ⟨A, m, c, es, rfl, hes⟩ := open_es h1
  exact ⟨_, _, _, _, _, rfl, i64_of_wf w0, hes⟩
set_option maxRecDepth 100000 in
theorem open_part {r : Reach} {b0 : Nat} {v : Value} {d : DataW H} {p : List MemPlace} (hv : Value.okWide Try.prog w r b0 27 v) (h : DataW.Trod enc Try.prog w base (fun _ => true) held 27 v d p) :
    ∃ Av nv cv vs Ae ne ce xs, v = .agg #[.slice Av nv cv, .slice Ae ne ce] ∧ IS w w.heap.size Av nv cv vs ∧ IS w w.heap.size Ae ne ce xs := by
  obtain ⟨v0, v1, y0, y1, n, rfl, _, _, h0, h1⟩ := open_agg2 Try.underlying27 (by kernel_rfl) (by kernel_rfl) hv h
  obtain ⟨A, m, c, es, rfl, hes⟩ := open_is h0
  obtain ⟨A', m', c', es', rfl, hes'⟩ := open_is h1
  exact ⟨_, _, _, _, _, _, _, _, rfl, hes, hes'⟩
end
end Go.Proofs.Ythobfbnopkbniaa
end

section
/-
  Plain functions on lists of integers that the walks of this seat compute; no program in sight; no conditions.
-/
namespace Go.Proofs.Ythobfbnopkbniaa

/-- The first place of a number; -1. -/
def fnd : List Int → Int → Int
  | [], _ => -1
  | a :: l, x => if a = x then 0 else if fnd l x < 0 then -1 else fnd l x + 1

theorem fnd_none : ∀ {l : List Int} {x : Int}, (∀ j, j < l.length → l.getD j 0 ≠ x) → fnd l x = -1
  | [], _, _ => rfl
  | a :: l, x, h => by
    have h0 : a ≠ x := by simpa using h 0 (by simp)
    have h1 : fnd l x = -1 := fnd_none fun j hj => by simpa using h (j + 1) (by simpa using hj)
    simp [fnd, h0, h1]

theorem fnd_at : ∀ {l : List Int} {x : Int} {k : Nat}, k < l.length → l.getD k 0 = x → (∀ j, j < k → l.getD j 0 ≠ x) → fnd l x = k
  | [], _, _, hk, _, _ => absurd hk (by simp)
  | a :: l, x, 0, _, hx, _ => by
    have h0 : a = x := by simpa using hx
    simp [fnd, h0]
  | a :: l, x, k + 1, hk, hx, h => by
    have h0 : a ≠ x := by simpa using h 0 (by omega)
    have h1 : fnd l x = k := fnd_at (by simpa using hk) (by simpa using hx) fun j hj => by simpa using h (j + 1) (by omega)
    simp only [fnd, h0, h1, if_false]
    rw [if_neg (by omega)]
    simp

theorem ext_getD {l m : List Int} (h : l.length = m.length) (hj : ∀ j, j < l.length → l.getD j 0 = m.getD j 0) : l = m := by
  apply List.ext_getElem h
  intro j h1 h2
  have := hj j h1
  rw [List.getD_eq_getElem?_getD, List.getD_eq_getElem?_getD, List.getElem?_eq_getElem h1, List.getElem?_eq_getElem h2] at this
  exact this

/-- The place of the least of the first k numbers (the first such). -/
def least (xs : List Int) : Nat → Nat
  | 0 => 0
  | k + 1 => if xs.getD k 0 < xs.getD (least xs k) 0 then k else least xs k
theorem least_le (xs : List Int) : ∀ k, least xs k ≤ k
  | 0 => Nat.le_refl _
  | k + 1 => by
    unfold least
    split
    · omega
    · have := least_le xs k
      omega
theorem least_lt (xs : List Int) {k n : Nat} (hk : k < n) : least xs k < n := Nat.lt_of_le_of_lt (least_le xs k) hk
theorem least_end (xs : List Int) : ∀ k, 0 < k → least xs k < k
  | k + 1, _ => by
    unfold least
    split
    · omega
    · have := least_le xs k
      omega
/-- Begun at a place. -/
def turn (xs : List Int) (k : Nat) : List Int := xs.drop k ++ xs.take k
/-- Begun with the least. -/
def first (xs : List Int) : List Int := turn xs (least xs xs.length)

theorem drop_getD {xs : List Int} {k : Nat} {z : Int} (hk : k < xs.length) (hz : xs.getD k 0 = z) : xs.drop k = z :: xs.drop (k + 1) := by
  rw [List.drop_eq_getElem_cons hk]
  rw [List.getD_eq_getElem?_getD, List.getElem?_eq_getElem hk] at hz
  rw [show xs[k] = z from hz]
theorem take_getD {xs : List Int} {k : Nat} {z : Int} (hk : k < xs.length) (hz : xs.getD k 0 = z) : xs.take (k + 1) = xs.take k ++ [z] := by
  rw [List.take_succ_eq_append_getElem hk]
  rw [List.getD_eq_getElem?_getD, List.getElem?_eq_getElem hk] at hz
  rw [show xs[k] = z from hz]

/-- The first k numbers, stretches of one number taken as one. -/
def sq (xs : List Int) : Nat → List Int
  | 0 => []
  | k + 1 => if k = 0 ∨ xs.getD k 0 ≠ xs.getD (k - 1) 0 then sq xs k ++ [xs.getD k 0] else sq xs k
theorem sq_len (xs : List Int) : ∀ k, (sq xs k).length ≤ k
  | 0 => Nat.le_refl _
  | k + 1 => by
    unfold sq
    have := sq_len xs k
    split
    · simp; omega
    · omega
/-- Without the last, where it is the first. -/
def trim (l : List Int) : List Int := if 1 < l.length ∧ l.getD 0 0 = l.getD (l.length - 1) 0 then l.take (l.length - 1) else l
/-- Stretches taken as one, all around. -/
def labels (xs : List Int) : List Int := trim (sq xs xs.length)

theorem getD_idx {xs : List Int} {i : Nat} (h : i < xs.length) : xs.getD i 0 = xs[i] := by
  rw [List.getD_eq_getElem?_getD, List.getElem?_eq_getElem h]; rfl
theorem fnd_lt {l : List Int} {x : Int} {i : Nat} (hi : i < l.length) (hx : l.getD i 0 = x) : 0 ≤ fnd l x ∧ fnd l x ≤ i := by
  induction l generalizing i with
  | nil => exact absurd hi (by simp)
  | cons a l ih =>
    unfold fnd
    split
    · omega
    · rename_i hne
      cases i with
      | zero => exact absurd (by simpa using hx) hne
      | succ i =>
        have := ih (i := i) (by simpa using hi) (by simpa using hx)
        rw [if_neg (by omega)]
        omega
/-- What fnd answers. -/
theorem fnd_cases (l : List Int) (x : Int) : (fnd l x = -1 ∧ x ∉ l) ∨ ∃ k, fnd l x = (k : Nat) ∧ k < l.length ∧ l.getD k 0 = x ∧ ∀ j, j < k → l.getD j 0 ≠ x := by
  induction l with
  | nil => exact .inl ⟨rfl, by simp⟩
  | cons a l ih =>
    by_cases ha : a = x
    · exact .inr ⟨0, by simp [fnd, ha], by simp, by simpa using ha, fun j hj => absurd hj (by omega)⟩
    · rcases ih with ⟨h1, h2⟩ | ⟨k, h1, h2, h3, h4⟩
      · exact .inl ⟨by simp [fnd, ha, h1], by simp [h2, Ne.symm ha]⟩
      · refine .inr ⟨k + 1, ?_, by simpa using h2, by simpa using h3, fun j hj => ?_⟩
        · simp only [fnd, ha, h1, if_false]
          rw [if_neg (by omega)]
          simp
        · cases j with
          | zero => simpa using ha
          | succ j => simpa using h4 j (by omega)
theorem nodup_snoc {xs : List Int} {k : Nat} {z : Int} (hk : k < xs.length) (hz : xs.getD k 0 = z) : (xs.take (k + 1)).Nodup ↔ (xs.take k).Nodup ∧ z ∉ xs.take k := by
  rw [take_getD hk hz, List.nodup_append]
  constructor
  · exact fun h => ⟨h.1, fun hm => h.2.2 z hm z (by simp) rfl⟩
  · exact fun h => ⟨h.1, by simp, fun a ha b hb => by rw [List.mem_singleton] at hb; subst hb; exact fun e => h.2 (e ▸ ha)⟩
theorem mem_take_iff {xs : List Int} {k : Nat} {z : Int} : z ∈ xs.take k ↔ ∃ j, j < k ∧ j < xs.length ∧ xs.getD j 0 = z := by
  constructor
  · intro h
    obtain ⟨j, hj, e⟩ := List.getElem_of_mem h
    rw [List.length_take] at hj
    refine ⟨j, by omega, by omega, ?_⟩
    rw [getD_idx (by omega), ← e, List.getElem_take]
  · rintro ⟨j, h1, h2, e⟩
    rw [getD_idx h2] at e
    rw [← e, List.mem_iff_getElem]
    exact ⟨j, by rw [List.length_take]; omega, List.getElem_take⟩
/-- Its own first place is ahead of k just where the number stood before. -/
theorem fnd_before {xs : List Int} {k : Nat} {z : Int} (hk : k < xs.length) (hz : xs.getD k 0 = z) : fnd xs z < k ↔ z ∈ xs.take k := by
  rw [mem_take_iff]
  constructor
  · intro h
    rcases fnd_cases xs z with ⟨_, h2⟩ | ⟨j, h1, h2, h3, _⟩
    · exact absurd (by rw [getD_idx hk] at hz; rw [← hz]; exact List.getElem_mem hk) h2
    · exact ⟨j, by omega, h2, h3⟩
  · rintro ⟨j, h1, h2, e⟩
    have := fnd_lt h2 e
    omega
theorem turn_length (xs : List Int) (k : Nat) : (turn xs k).length = xs.length := by
  unfold turn; rw [List.length_append, List.length_drop, List.length_take]; omega
theorem turn_getD {xs : List Int} {q i : Nat} (hq : q < xs.length) (hi : i < xs.length) : (turn xs q).getD i 0 = xs.getD ((q + i) % xs.length) 0 := by
  have hm : (q + i) % xs.length < xs.length := Nat.mod_lt _ (by omega)
  rw [getD_idx (by rw [turn_length]; exact hi), getD_idx hm]
  unfold turn
  rw [List.getElem_append]
  split
  · rename_i h
    rw [List.length_drop] at h
    rw [List.getElem_drop]
    congr 1
    rw [Nat.mod_eq_of_lt (by omega)]
  · rename_i h
    rw [List.length_drop] at h
    rw [List.getElem_take]
    congr 1
    rw [List.length_drop, Nat.mod_eq_sub_mod (by omega), Nat.mod_eq_of_lt (by omega)]
    omega
/-- One ring. -/
def SameR (a b : List Int) : Prop := a.length = b.length ∧ (a.length = 0 ∨ ∃ i, i < a.length ∧ a = turn b i)
theorem eq_turn {a b : List Int} {n k : Nat} (hb : b.length = n) : a = turn b k ↔ a.take (n - k) = b.drop k ∧ a.drop (n - k) = b.take k := by
  unfold turn
  have hl : (b.drop k).length = n - k := by rw [List.length_drop, hb]
  constructor
  · rintro rfl
    exact ⟨List.take_left' hl, List.drop_left' hl⟩
  · rintro ⟨h1, h2⟩
    rw [← h1, ← h2, List.take_append_drop]

end Go.Proofs.Ythobfbnopkbniaa
end

section
namespace Go.Proofs.Ythobfbnopkbniaa
open Go.RowKit

/-- The call hands back a list in new memory. -/
def NewIS (w : World) (ys : List Int) (e : Ending) (w' : World) : Prop :=
  ∃ A n c, e = .returned (.slice A n c) ∧ IS w' w'.heap.size A n c ys ∧ Below w.heap.size w w'
/-- .. whose cells are in new blocks. -/
def NewRow (w : World) (ys : List Int) (e : Ending) (w' : World) : Prop :=
  ∃ A n c, e = .returned (.slice A n c) ∧ IS w' w'.heap.size A n c ys ∧ Below w.heap.size w w' ∧ ∀ a, A = some a → w.heap.size ≤ a.block
theorem NewRow.is {w : World} {ys : List Int} {e : Ending} {w' : World} (h : NewRow w ys e w') : NewIS w ys e w' := by
  obtain ⟨A, n, c, h1, h2, h3, _⟩ := h
  exact ⟨A, n, c, h1, h2, h3⟩
/-- The call hands back a list in new memory, and a bool. -/
def NewIS2 (w : World) (ys : List Int) (ok : Bool) (e : Ending) (w' : World) : Prop :=
  ∃ A n c, e = .returned (.tuple #[.slice A n c, .bool ok]) ∧ IS w' w'.heap.size A n c ys ∧ Below w.heap.size w w'

set_option maxHeartbeats 400000 in
theorem turned_new (w : World) (A : Option Addr) (n c : Nat) (xs : List Int) (k : Nat) (h : IS w w.heap.size A n c xs) (hk : k ≤ n) (hs : n ≤ 1000000) :
    Calls Try.prog 91 #[.slice A n c, .int .i64 k] w (NewRow w (turn xs k)) := by
  have hn := h.le
  have hc := h.cap
  have hlx : xs.length ≤ n := Nat.le_of_eq h.len
  go_enter Try.func91, Try.ntmps91
  go_wp2_with (first
    | (at_make; refine wpList_make_is (w0 := w) rfl _ _ rfl (Below.refl _ _) _ _ _ n rfl rfl rfl (by omega) ?_; intro v1 w1 ho1 _ _; have h1 := h.below ho1.below)
    | (with_reducible show wpList _ _ _ (Oper.mk (some 12) _ _ _ _ _ :: _) _ _; go_must (refine wpList_cut_lo rfl _ _ rfl rfl h1 _ rfl (by omega) (by omega) ?_; intro A1 n1 c1 hs1; have hl1 := hs1.len; simp only [List.length_drop] at hl1))
    | (with_reducible show wpList _ _ _ (Oper.mk (some 13) _ _ _ _ _ :: _) _ _; go_must (refine wpList_append_is rfl _ _ rfl rfl ho1 rfl hs1 (by simp only [List.length_nil]; omega) ?_; intro v2 w2 ho2 _ _; have h2 := h.below ho2.below))
    | (with_reducible show wpList _ _ _ (Oper.mk (some 18) _ _ _ _ _ :: _) _ _; go_must (refine wpList_cut_hi_max rfl _ _ _ rfl rfl h2 _ _ rfl rfl (by omega) (by omega) (by omega) (by omega) ?_; intro A2 n2 c2 hs2; have hl2 := hs2.len; simp only [List.length_take] at hl2))
    | (with_reducible show wpList _ _ _ (Oper.mk (some 19) _ _ _ _ _ :: _) _ _; go_must (refine wpList_append_is rfl _ _ rfl rfl ho2 rfl hs2 (by simp only [List.nil_append, List.length_drop]; omega) ?_; intro v3 w3 ho3 _ _)))
  go_ret
  simp only [List.nil_append, Int.toNat_natCast] at ho3
  obtain ⟨A, n', c, rfl, his, hnew⟩ := ho3.isNew
  exact ⟨_, _, _, rfl, his, ho3.below, hnew⟩
theorem turned_any (w : World) (A : Option Addr) (n c : Nat) (xs : List Int) (k : Nat) (h : IS w w.heap.size A n c xs) (hk : k ≤ n) (hs : n ≤ 1000000) :
    Calls Try.prog 91 #[.slice A n c, .int .i64 k] w (NewIS w (turn xs k)) := (turned_new w A n c xs k h hk hs).mono fun _ _ h => h.is

set_option maxHeartbeats 400000 in
theorem first_new (w : World) (A : Option Addr) (n c : Nat) (xs : List Int) (h : IS w w.heap.size A n c xs) (hs : n ≤ 1000000) :
    Calls Try.prog 85 #[.slice A n c] w (NewRow w (first xs)) := by
  have hn := h.le
  have hc := h.cap
  go_enter Try.func85, Try.ntmps85
  go_wp2
  go_loop [3, 8] (fun l i => ∃ k : Nat, k ≤ n ∧ i = .int .i64 k ∧ l = .int .i64 (least xs k)) (fun _ i => n - (intOf i).toNat)
  case atStart => exact ⟨0, Nat.zero_le _, rfl, rfl⟩
  case round =>
    obtain ⟨k, hk, rfl, rfl⟩ := hrel
    by_cases hlt : k < n
    · obtain ⟨b, o, rfl, hb, hcell⟩ := h.at_ (by omega)
      have hq1 : least xs k < n := least_lt xs hlt
      have hstep : Hid (least xs (k + 1) = if xs.getD k 0 < xs.getD (least xs k) 0 then k else least xs k) := Lib.hid rfl
      obtain ⟨q, hq⟩ : ∃ q, least xs k = q := ⟨_, rfl⟩
      rw [hq] at hstep hq1 ⊢
      have HQ := Lib.hid hq
      have hcx : w.cell? ⟨b, o + k, none⟩ = some (.int .i64 (xs.getD k 0)) := hcell k hlt
      have hcq : w.cell? ⟨b, o + q, none⟩ = some (.int .i64 (xs.getD q 0)) := hcell q hq1
      have HH := Lib.hid h
      clear hcell h hq
      go_wp2
      · have he : xs[k]?.getD 0 < xs[q]?.getD 0 := by assumption
        go_round
        case rel => exact ⟨k + 1, by omega, by go_num, by rw [hstep.out, if_pos (by rw [List.getD_eq_getElem?_getD, List.getD_eq_getElem?_getD]; exact he)]⟩
        case measure => simp [intOf]; omega
      · have he : xs[q]?.getD 0 ≤ xs[k]?.getD 0 := by assumption
        go_round
        case rel => exact ⟨k + 1, by omega, by go_num, by rw [hstep.out, if_neg (by rw [List.getD_eq_getElem?_getD, List.getD_eq_getElem?_getD]; omega)]⟩
        case measure => simp [intOf]; omega
    · obtain rfl : k = n := by omega
      have hq1 := least_le xs k
      have hr : Hid (first xs = turn xs (least xs k)) := by rw [← h.len]; exact Lib.hid rfl
      go_wp2_with fail
      refine (turned_new w A k c xs (least xs k) h hq1 hs).mono ?_
      rintro e w' ⟨A1, n1, c1, rfl, his, hbl, hnew⟩
      go_wp2
      go_ret
      exact ⟨A1, n1, c1, rfl, hr.out ▸ his, hbl, hnew⟩
theorem first_any (w : World) (A : Option Addr) (n c : Nat) (xs : List Int) (h : IS w w.heap.size A n c xs) (hs : n ≤ 1000000) :
    Calls Try.prog 85 #[.slice A n c] w (NewIS w (first xs)) := (first_new w A n c xs h hs).mono fun _ _ h => h.is

end Go.Proofs.Ythobfbnopkbniaa
end

section
namespace Go.Proofs.Ythobfbnopkbniaa
open Go.RowKit Go.Maps

theorem keyedInt : Keyed Try.prog 3 := int_keyed Try.underlying3
/-- A value is read as itself. -/
def asIs (v : Value) : Option (DataW Value × List MemPlace) := some (.held v, [])

/-- Block b is a map with integer keys; it has n entries and reads as f. -/
def MV (w : World) (b n : Nat) (f : Int → Option Value) : Prop :=
  ∃ D : DataW Value, w.ownsMap Try.prog 3 asIs b n D ∧ Maps.size D = n ∧
    ∀ k, I64 k → (f k = none → Maps.has D (.int .i64 k) = false) ∧ ∀ v, f k = some v → Maps.has D (.int .i64 k) = true ∧ ∀ z, D.atKey (.int .i64 k) z = .held v
/-- .. whose values are integers. -/
def MI (w : World) (b n : Nat) (g : Int → Option Int) : Prop := MV w b n fun k => (g k).map (Value.int .i64)

/-- f with one value more. -/
def upd {α : Type} (f : Int → Option α) (k : Int) (v : α) : Int → Option α := fun j => if j = k then some v else f j
/-- f without a key. -/
def del {α : Type} (f : Int → Option α) (k : Int) : Int → Option α := fun j => if j = k then none else f j

theorem wf_i64 {k : Int} (h : I64 k) : (Lit.int .i64 k).wf = true := by
  obtain ⟨h1, h2⟩ := h
  exact WalkArith.wf_i64 (by omega)
theorem keyInt {k : Int} (h : I64 k) : keyOf Try.prog 3 (.int .i64 k) = some (.int .i64 k) := keyOf_int_mk Try.underlying3 (wf_i64 h)

theorem ownsMap_exact {w : World} {R : Value → Option (DataW Value × List MemPlace)} {b n : Nat} {D : DataW Value} (h : w.ownsMap Try.prog 3 R b n D) : w.ownsMap Try.prog 3 R b (Maps.size D) D := by
  obtain ⟨es, clock, hb, F, hs, rfl⟩ := h
  refine ⟨es, clock, hb, F, ?_, rfl⟩
  simp [Maps.size, length_sorted]

section
variable {w w' : World} {b n : Nat} {f : Int → Option Value} {g : Int → Option Int}
theorem MV.lt (h : MV w b n f) : b < w.heap.size := by obtain ⟨D, h, _⟩ := h; exact h.lt
theorem MV.kept {row : Option Nat} (h : MV w b n f) (hg : w.grownBy w' row) (hne : some b ≠ row) : MV w' b n f := by
  obtain ⟨D, h1, h2, h3⟩ := h
  exact ⟨D, h1.kept hg hne, h2, h3⟩
theorem MV.alloc (h : MV w b n f) (o : Obj) : MV (w.alloc o) b n f := by
  obtain ⟨D, h1, h2, h3⟩ := h
  exact ⟨D, h1.alloc o, h2, h3⟩
theorem MV.drewN (h : MV w b n f) (k : Nat) : MV (w.drewN k) b n f := by
  obtain ⟨D, h1, h2, h3⟩ := h
  exact ⟨D, h1, h2, h3⟩
theorem MV.below {B : Nat} (h : MV w b n f) (hb : Below B w w') (hB : b < B) : MV w' b n f := by
  obtain ⟨D, ⟨es, clock, h0, h1⟩, h2, h3⟩ := h
  exact ⟨D, ⟨es, clock, (hb.block b hB).trans h0, h1⟩, h2, h3⟩
theorem MV.congr (h : MV w b n f) {f' : Int → Option Value} (he : ∀ k, I64 k → f' k = f k) : MV w b n f' := by
  obtain ⟨D, h1, h2, h3⟩ := h
  exact ⟨D, h1, h2, fun k hk => by rw [he k hk]; exact h3 k hk⟩
theorem MV.made (w : World) : MV (w.alloc (.map #[] 0)) w.heap.size 0 fun _ => none :=
  ⟨.map [], World.ownsMap_made _ _ _ _, rfl, fun k _ => ⟨fun _ => rfl, fun v h => by cases h⟩⟩
theorem MI.made (w : World) : MI (w.alloc (.map #[] 0)) w.heap.size 0 fun _ => none := MV.made w

section
variable {ops : Array Oper} {rest : List Oper} {o : Oper} {a : Act} {Q : Exit → Act → World → Prop}
/-- 'v, ok := m[k]', k is there. -/
theorem wpList_lookok_some (hg : o.guard = none) (m x : Operand) (t e : TypeId) (hop : o.op = Op.lookup t m x true) (ht : Try.prog.underlying t = some (.map 3 e)) {z : Value} (hz : (zeroValue e).run Try.prog w = .ok z w)
    (hm : a.eval m = .map (some b)) (h : MV w b n f) (k : Int) (hx : a.eval x = .int .i64 k) (hk : I64 k) (v : Value) (hf : f k = some v)
    (hK : wpList Try.prog ops Q rest (a.put o.dst (.tuple #[v, .bool true])) w) : wpList Try.prog ops Q (o :: rest) a w := by
  obtain ⟨D, h1, h2, h3⟩ := h
  refine wpList_lookup_own_ok w hg m x t hop 3 e keyedInt ht asIs hz (.held z) [] rfl b n D hm h1 (.int .i64 k) (.int .i64 k) hx (keyInt hk) fun v' ps hv => ?_
  obtain ⟨h4, h5⟩ := (h3 k hk).2 v hf
  rw [h5] at hv
  simp only [asIs, Option.some.injEq, Prod.mk.injEq, DataW.held.injEq] at hv
  rw [h4, hv.1]
  exact hK
/-- 'v, ok := m[k]', k isn't there. -/
theorem wpList_lookok_none (hg : o.guard = none) (m x : Operand) (t e : TypeId) (hop : o.op = Op.lookup t m x true) (ht : Try.prog.underlying t = some (.map 3 e)) {z : Value} (hz : (zeroValue e).run Try.prog w = .ok z w)
    (hm : a.eval m = .map (some b)) (h : MV w b n f) (k : Int) (hx : a.eval x = .int .i64 k) (hk : I64 k) (hf : f k = none)
    (hK : wpList Try.prog ops Q rest (a.put o.dst (.tuple #[z, .bool false])) w) : wpList Try.prog ops Q (o :: rest) a w := by
  obtain ⟨D, h1, h2, h3⟩ := h
  refine wpList_lookup_own_ok w hg m x t hop 3 e keyedInt ht asIs hz (.held z) [] rfl b n D hm h1 (.int .i64 k) (.int .i64 k) hx (keyInt hk) fun v' ps hv => ?_
  have h4 := (h3 k hk).1 hf
  rw [Maps.atKey_of_not_has h4] at hv
  simp only [asIs, Option.some.injEq, Prod.mk.injEq, DataW.held.injEq] at hv
  rw [h4, hv.1]
  exact hK
theorem wpList_look_aux (hg : o.guard = none) (m x : Operand) (t e : TypeId) (hop : o.op = Op.lookup t m x false) (ht : Try.prog.underlying t = some (.map 3 e)) {z : Value} (hz : (zeroValue e).run Try.prog w = .ok z w)
    (hm : a.eval m = .map (some b)) (h : MV w b n f) (k : Int) (hx : a.eval x = .int .i64 k) (hk : I64 k) (v : Value) (hf : (f k).getD z = v)
    (hK : wpList Try.prog ops Q rest (a.put o.dst v) w) : wpList Try.prog ops Q (o :: rest) a w := by
  obtain ⟨D, h1, h2, h3⟩ := h
  obtain ⟨v', ps, hrun, hv⟩ := h1.lookup keyedInt ht hz (zd := .held z) (zp := []) rfl (keyInt hk)
  have hvv : v' = v := by
    cases hfk : f k with
    | none =>
      rw [Maps.atKey_of_not_has ((h3 k hk).1 hfk)] at hv
      simp only [asIs, Option.some.injEq, Prod.mk.injEq, DataW.held.injEq] at hv
      rw [hfk] at hf
      rw [hv.1]; exact hf
    | some y =>
      rw [((h3 k hk).2 y hfk).2] at hv
      simp only [asIs, Option.some.injEq, Prod.mk.injEq, DataW.held.injEq] at hv
      rw [hfk] at hf
      rw [hv.1]; exact hf
  subst hvv
  refine wpList_plain hg fun K' hK' => ?_
  unfold Oper.wp
  simp [execOp, hop, hm, hx, hrun, Result.andThen]
  exact hK' _ _ hK
/-- 'm[k] = v'. -/
theorem wpList_store (hg : o.guard = none) (m x v : Operand) (t e : TypeId) (hop : o.op = Op.mapUpdate t m x v) (ht : Try.prog.underlying t = some (.map 3 e))
    (hm : a.eval m = .map (some b)) (h : MV w b n f) (hn : n < 1000000000000) (k : Int) (hx : a.eval x = .int .i64 k) (hk : I64 k) (u : Value) (hv : a.eval v = u)
    (hK : ∀ w', MV w' b (if (f k).isSome then n else n + 1) (upd f k u) → w.grownBy w' (some b) → wpList Try.prog ops Q rest (a.put o.dst undef) w') : wpList Try.prog ops Q (o :: rest) a w := by
  obtain ⟨D, h1, h2, h3⟩ := h
  refine wpList_mapUpdate_own w hg m x v t hop 3 e keyedInt ht asIs b n D hm h1 (by unfold maxLen; omega) (.int .i64 k) u (.int .i64 k) hx hv (keyInt hk) (.held u) [] rfl fun w' h4 h5 => hK w' ?_ h5
  have hkl : WideAt.IsKeyLit (Lit.int .i64 k) := trivial
  have hD := h1.isMap
  have hs : Maps.size (D.put (.int .i64 k) (.held u)) = if (f k).isSome then n else n + 1 := by
    rw [Maps.size_put (h1.tidy keyedInt), h2]
    cases hfk : f k with
    | none => rw [(h3 k hk).1 hfk]; simp
    | some y => rw [((h3 k hk).2 y hfk).1]; simp
  refine ⟨D.put (.int .i64 k) (.held u), hs ▸ ownsMap_exact h4, hs, fun j hj => ?_⟩
  by_cases he : j = k
  · subst he
    refine ⟨fun h => by simp [upd] at h, fun v hv => ?_⟩
    simp only [upd, if_true, Option.some.injEq] at hv
    subst hv
    exact ⟨Maps.has_put_same hD hkl _, fun z => Maps.atKey_put_same hD hkl _ z⟩
  · have hne : Lit.int .i64 j ≠ Lit.int .i64 k := fun h => he (by injection h)
    have hu : upd f k u j = f j := by simp [upd, he]
    rw [hu, Maps.has_put_other hne]
    refine ⟨(h3 j hj).1, fun v hv => ⟨((h3 j hj).2 v hv).1, fun z => ?_⟩⟩
    rw [Maps.atKey_put_other hne]
    exact ((h3 j hj).2 v hv).2 z
/-- 'len(m)'. -/
theorem wpList_maplen (hg : o.guard = none) (m : Operand) (t e : TypeId) (hop : o.op = Op.call { callee := Callee.builtin Builtin.len, args := #[m], argTypes := #[t] }) (ht : Try.prog.underlying t = some (.map 3 e))
    (hm : a.eval m = .map (some b)) (h : MV w b n f) (hK : wpList Try.prog ops Q rest (a.put o.dst (.int .i64 n)) w) : wpList Try.prog ops Q (o :: rest) a w := by
  obtain ⟨D, h1, h2, h3⟩ := h
  exact wpList_len_own w hg m t hop 3 e ht asIs b n D hm h1 (by rw [h2]; exact hK)
end

section
variable {ops : Array Oper} {rest : List Oper} {o : Oper} {a : Act} {Q : Exit → Act → World → Prop}
theorem zeroInt (w : World) : (zeroValue 3).run Try.prog w = .ok (.int .i64 0) w := by kernel_rfl
/-- 'v, ok := m[k]' in a map[int]int. -/
theorem wpList_iok_some (hg : o.guard = none) (m x : Operand) (hop : o.op = Op.lookup 52 m x true)
    (hm : a.eval m = .map (some b)) (h : MI w b n g) (k : Int) (hx : a.eval x = .int .i64 k) (hk : I64 k) (v : Int) (hf : g k = some v)
    (hK : wpList Try.prog ops Q rest (a.put o.dst (.tuple #[.int .i64 v, .bool true])) w) : wpList Try.prog ops Q (o :: rest) a w :=
  wpList_lookok_some hg m x 52 3 hop Try.underlying52 (zeroInt w) hm h k hx hk _ (by show (g k).map _ = _; rw [hf]; rfl) hK
theorem wpList_iok_none (hg : o.guard = none) (m x : Operand) (hop : o.op = Op.lookup 52 m x true)
    (hm : a.eval m = .map (some b)) (h : MI w b n g) (k : Int) (hx : a.eval x = .int .i64 k) (hk : I64 k) (hf : g k = none)
    (hK : wpList Try.prog ops Q rest (a.put o.dst (.tuple #[.int .i64 0, .bool false])) w) : wpList Try.prog ops Q (o :: rest) a w :=
  wpList_lookok_none hg m x 52 3 hop Try.underlying52 (zeroInt w) hm h k hx hk (by show (g k).map _ = _; rw [hf]; rfl) hK
/-- 'm[k]' in a map[int]int. -/
theorem wpList_ilook (hg : o.guard = none) (m x : Operand) (hop : o.op = Op.lookup 52 m x false)
    (hm : a.eval m = .map (some b)) (h : MI w b n g) (k : Int) (hx : a.eval x = .int .i64 k) (hk : I64 k) (v : Int) (hf : (g k).getD 0 = v)
    (hK : wpList Try.prog ops Q rest (a.put o.dst (.int .i64 v)) w) : wpList Try.prog ops Q (o :: rest) a w :=
  wpList_look_aux hg m x 52 3 hop Try.underlying52 (zeroInt w) hm h k hx hk _ (by
    show ((g k).map (Value.int .i64)).getD (.int .i64 0) = _
    rw [← hf]
    cases g k <;> rfl) hK
/-- 'm[k] = v' in a map[int]int. -/
theorem wpList_istore (hg : o.guard = none) (m x v : Operand) (hop : o.op = Op.mapUpdate 52 m x v)
    (hm : a.eval m = .map (some b)) (h : MI w b n g) (hn : n < 1000000000000) (k : Int) (hx : a.eval x = .int .i64 k) (hk : I64 k) (u : Int) (hv : a.eval v = .int .i64 u)
    (hK : ∀ w', MI w' b (if (g k).isSome then n else n + 1) (upd g k u) → w.grownBy w' (some b) → wpList Try.prog ops Q rest (a.put o.dst undef) w') : wpList Try.prog ops Q (o :: rest) a w :=
  wpList_store hg m x v 52 3 hop Try.underlying52 hm h hn k hx hk _ hv fun w' h1 h2 => hK w' (by
    have e1 : (if ((g k).map (Value.int .i64)).isSome then n else n + 1) = if (g k).isSome then n else n + 1 := by cases g k <;> rfl
    rw [e1] at h1
    exact h1.congr fun j _ => by
      show ((upd g k u) j).map _ = upd _ k _ j
      unfold upd
      split <;> rfl) h2
theorem wpList_ilen (hg : o.guard = none) (m : Operand) (hop : o.op = Op.call { callee := Callee.builtin Builtin.len, args := #[m], argTypes := #[52] })
    (hm : a.eval m = .map (some b)) (h : MI w b n g) (hK : wpList Try.prog ops Q rest (a.put o.dst (.int .i64 n)) w) : wpList Try.prog ops Q (o :: rest) a w :=
  wpList_maplen hg m 52 3 hop Try.underlying52 hm h hK
end
/-- 'make(map[int]int, n)'. -/
theorem run_makeMap_int (n : Int) (w : World) : (Instr.makeMap 52 (some (.int .i64 n))).run Try.prog w = .ok (.map (some w.heap.size)) (w.alloc (.map #[] 0)) := by
  simp [Instr.makeMap, run_underlying Try.underlying52]; rfl
end
end Go.Proofs.Ythobfbnopkbniaa
end

section
namespace Go.Proofs.Ythobfbnopkbniaa

theorem fnd_nodup {xs : List Int} {i : Nat} (hd : xs.Nodup) (hi : i < xs.length) : fnd xs (xs.getD i 0) = i := by
  refine fnd_at hi rfl fun j hj e => ?_
  rw [getD_idx hi, getD_idx (by omega)] at e
  have := List.pairwise_iff_getElem.1 hd j i (by omega) hi hj
  exact this e

theorem sameR_self_turn {a : List Int} {i : Nat} (hi : i < a.length) : SameR (turn a i) a := ⟨turn_length a i, .inr ⟨i, by rw [turn_length]; exact hi, rfl⟩⟩
theorem turn_zero (a : List Int) : turn a 0 = a := by simp [turn]
theorem turn_turn {a : List Int} {i : Nat} : turn (turn a i) (a.length - i) = a := by
  unfold turn
  have hl : (a.drop i).length = a.length - i := List.length_drop
  rw [← hl, List.drop_left, List.take_left, List.take_append_drop]
theorem sameR_turn {a : List Int} {i : Nat} (hi : i < a.length) : SameR a (turn a i) := by
  refine ⟨(turn_length a i).symm, .inr ?_⟩
  by_cases h0 : i = 0
  · subst h0
    exact ⟨0, hi, by rw [turn_zero, turn_zero]⟩
  · exact ⟨a.length - i, by omega, turn_turn.symm⟩
theorem sameR_nil {a b : List Int} (ha : a.length = 0) (hb : b.length = 0) : SameR a b := ⟨by rw [ha, hb], .inl ha⟩
theorem turn_reverse {a : List Int} {i : Nat} : (turn a i).reverse = turn a.reverse (a.length - i) := by
  unfold turn
  rw [List.reverse_append, List.drop_reverse, List.take_reverse]
  by_cases h : i ≤ a.length
  · rw [show a.length - (a.length - i) = i from by omega]
  · rw [show a.length - i = 0 from by omega]
    simp
    rw [List.take_of_length_le (by omega), List.drop_of_length_le (by omega)]
    simp
end Go.Proofs.Ythobfbnopkbniaa
end

section
namespace Go.Proofs.Ythobfbnopkbniaa

/-- Both ends of an edge are from 0 to below N. -/
def EIn (N : Int) (e : Int × Int) : Prop := 0 ≤ e.1 ∧ e.1 < N ∧ 0 ≤ e.2 ∧ e.2 < N
instance (N : Int) (e : Int × Int) : Decidable (EIn N e) := inferInstanceAs (Decidable (_ ∧ _ ∧ _ ∧ _))
/-- A graph's error. -/
def gRight (N : Int) (es : List (Int × Int)) : Int := if N < 0 then 3 else if 1024 < N + es.length then 2 else if ∀ e ∈ es, EIn N e then 0 else 3
/-- A list rises, within 0 to below n. -/
def Rises (l : List Int) (n : Int) : Prop := (∀ x ∈ l, 0 ≤ x ∧ x < n) ∧ l.Pairwise (· < ·)
instance (l : List Int) (n : Int) : Decidable (Rises l n) := inferInstanceAs (Decidable (_ ∧ _))
/-- The ends of edge number k. -/
def ends (es : List (Int × Int)) (k : Int) : Int × Int := es.getD k.toNat (0, 0)
def EndsIn (es : List (Int × Int)) (vs : List Int) (k : Int) : Prop := (ends es k).1 ∈ vs ∧ (ends es k).2 ∈ vs
instance (es : List (Int × Int)) (vs : List Int) (k : Int) : Decidable (EndsIn es vs k) := inferInstanceAs (Decidable (_ ∧ _))
/-- A part's error. -/
def pRight (N : Int) (es : List (Int × Int)) (vs xs : List Int) : Int :=
  if gRight N es ≠ 0 then gRight N es else if ¬ (Rises vs N ∧ Rises xs es.length) then 4 else if ∀ k ∈ xs, EndsIn es vs k then 0 else 4

theorem gRight_cases (N : Int) (es : List (Int × Int)) : gRight N es = 0 ∨ gRight N es = 2 ∨ gRight N es = 3 := by
  unfold gRight
  split
  · exact .inr (.inr rfl)
  · split
    · exact .inr (.inl rfl)
    · split
      · exact .inl rfl
      · exact .inr (.inr rfl)
theorem gRight_ok {N : Int} {es : List (Int × Int)} (h : gRight N es = 0) : 0 ≤ N ∧ N + es.length ≤ 1024 ∧ ∀ e ∈ es, EIn N e := by
  unfold gRight at h
  split at h
  · cases h
  · split at h
    · cases h
    · split at h
      · exact ⟨by omega, by omega, by assumption⟩
      · cases h
theorem pRight_cases (N : Int) (es : List (Int × Int)) (vs xs : List Int) : pRight N es vs xs = 0 ∨ pRight N es vs xs = 2 ∨ pRight N es vs xs = 3 ∨ pRight N es vs xs = 4 := by
  unfold pRight
  split
  · rcases gRight_cases N es with h | h | h <;> simp [h]
  · split
    · simp
    · split <;> simp
/-- What a right part is. -/
structure POK (N : Int) (es : List (Int × Int)) (vs xs : List Int) : Prop where
  n0 : 0 ≤ N
  size : N + es.length ≤ 1024
  edges : ∀ e ∈ es, EIn N e
  vr : ∀ x ∈ vs, 0 ≤ x ∧ x < N
  vp : vs.Pairwise (· < ·)
  xr : ∀ x ∈ xs, 0 ≤ x ∧ x < es.length
  xp : xs.Pairwise (· < ·)
  ends : ∀ k ∈ xs, EndsIn es vs k
theorem pRight_ok {N : Int} {es : List (Int × Int)} {vs xs : List Int} (h : pRight N es vs xs = 0) : POK N es vs xs := by
  unfold pRight at h
  split at h
  · rename_i hg
    exact absurd h hg
  · rename_i hg
    split at h
    · cases h
    · rename_i hr
      split at h
      · rename_i he
        obtain ⟨h1, h2, h3⟩ := gRight_ok (N := N) (es := es) (by simpa using hg)
        have hr' : Rises vs N ∧ Rises xs es.length := Classical.not_not.1 hr
        exact ⟨h1, h2, h3, hr'.1.1, hr'.1.2, hr'.2.1, hr'.2.2, he⟩
      · cases h

theorem rises_snoc {l : List Int} {n : Int} {k : Nat} {z : Int} (hk : k < l.length) (hz : l.getD k 0 = z) :
    Rises (l.take (k + 1)) n ↔ Rises (l.take k) n ∧ (0 ≤ z ∧ z < n) ∧ (k = 0 ∨ l.getD (k - 1) 0 < z) := by
  rw [take_getD hk hz]
  unfold Rises
  rw [List.pairwise_append]
  have hlast : ∀ x ∈ l.take k, k ≠ 0 → (l.take k).Pairwise (· < ·) → x ≤ l.getD (k - 1) 0 := by
    intro x hx h0 hp
    obtain ⟨j, h1, h2, e⟩ := mem_take_iff.1 hx
    subst e
    rcases Nat.lt_or_ge j (k - 1) with hj | hj
    · have := List.pairwise_iff_getElem.1 hp j (k - 1) (by rw [List.length_take]; omega) (by rw [List.length_take]; omega) hj
      rw [List.getElem_take, List.getElem_take] at this
      rw [getD_idx h2, getD_idx (by omega)]
      omega
    · obtain rfl : j = k - 1 := by omega
      omega
  have hmem : k ≠ 0 → l.getD (k - 1) 0 ∈ l.take k := fun h0 => mem_take_iff.2 ⟨k - 1, by omega, by omega, rfl⟩
  constructor
  · rintro ⟨h1, h2, _, h3⟩
    refine ⟨⟨fun x hx => h1 x (by simp [hx]), h2⟩, h1 z (by simp), ?_⟩
    by_cases h0 : k = 0
    · exact .inl h0
    · exact .inr (h3 _ (hmem h0) z (by simp))
  · rintro ⟨⟨h1, h2⟩, h3, h4⟩
    refine ⟨fun x hx => ?_, h2, by simp, fun a ha b hb => ?_⟩
    · rw [List.mem_append, List.mem_singleton] at hx
      rcases hx with hx | rfl
      · exact h1 x hx
      · exact h3
    · rw [List.mem_singleton] at hb
      subst hb
      have h0 : k ≠ 0 := by rintro rfl; simp at ha
      have := hlast a ha h0 h2
      rcases h4 with h4 | h4
      · exact absurd h4 h0
      · omega
theorem rises_take {l : List Int} {n : Int} (h : Rises l n) (k : Nat) : Rises (l.take k) n :=
  ⟨fun x hx => h.1 x (List.mem_of_mem_take hx), h.2.sublist (List.take_sublist _ _)⟩

/-- The vertex that a dart leaves. -/
def tail (es : List (Int × Int)) (d : Int) : Int := if d % 2 = 0 then (ends es (d / 2)).1 else (ends es (d / 2)).2
/-- The other dart of its edge. -/
def twin (d : Int) : Int := if d % 2 = 0 then d + 1 else d - 1
/-- The vertex that a dart comes to. -/
def head (es : List (Int × Int)) (d : Int) : Int := tail es (twin d)
/-- The darts of edges that leave v. -/
def dartsOf (es : List (Int × Int)) (v : Int) : List Int → List Int
  | [] => []
  | x :: xs => (if tail es (2 * x) = v then [2 * x] else []) ++ (if tail es (2 * x + 1) = v then [2 * x + 1] else []) ++ dartsOf es v xs
theorem dartsOf_append (es : List (Int × Int)) (v : Int) : ∀ a b : List Int, dartsOf es v (a ++ b) = dartsOf es v a ++ dartsOf es v b
  | [], b => rfl
  | x :: a, b => by simp [dartsOf, dartsOf_append es v a b, List.append_assoc]
theorem dartsOf_len (es : List (Int × Int)) (v : Int) : ∀ a : List Int, (dartsOf es v a).length ≤ 2 * a.length
  | [] => by simp [dartsOf]
  | x :: a => by
    have := dartsOf_len es v a
    simp only [dartsOf, List.length_append, List.length_cons]
    split <;> split <;> simp <;> omega
/-- Is a graph, are lists of a part, of a size that is looked at? -/
def Small (N : Int) (m nv ne : Nat) : Prop := m ≤ 60 ∧ nv ≤ 60 ∧ ne ≤ 60 ∧ (N ≤ 60 ∨ 1024 < N)
instance (N : Int) (m nv ne : Nat) : Decidable (Small N m nv ne) := inferInstanceAs (Decidable (_ ∧ _ ∧ _ ∧ _))
end Go.Proofs.Ythobfbnopkbniaa
end

section
namespace Go.Proofs.Ythobfbnopkbniaa

/-- A list without twice the same is no longer than what it is in. -/
theorem nodup_len {a b : List Int} (ha : a.Nodup) (hs : ∀ x ∈ a, x ∈ b) : a.length ≤ b.length := by
  induction a generalizing b with
  | nil => simp
  | cons x a ih =>
    rw [List.nodup_cons] at ha
    have hx : x ∈ b := hs x (by simp)
    have h1 := ih (b := b.erase x) ha.2 fun y hy => (List.mem_erase_of_ne (show y ≠ x from fun e => ha.1 (e ▸ hy))).2 (hs y (by simp [hy]))
    rw [List.length_erase_of_mem hx] at h1
    have := List.length_pos_of_mem hx
    rw [List.length_cons]
    omega
/-- .. and where it is as long it has all of it. -/
theorem nodup_full {a b : List Int} (ha : a.Nodup) (hs : ∀ x ∈ a, x ∈ b) (hl : b.length ≤ a.length) : ∀ x ∈ b, x ∈ a := by
  intro x hx
  refine Classical.byContradiction fun hn => ?_
  have h1 := nodup_len (a := x :: a) (b := b) (List.nodup_cons.2 ⟨hn, ha⟩) (by intro y hy; rcases List.mem_cons.1 hy with rfl | hy; exact hx; exact hs y hy)
  rw [List.length_cons] at h1
  omega

/-- All darts of edges, rising. -/
def allDarts : List Int → List Int
  | [] => []
  | x :: xs => 2 * x :: (2 * x + 1) :: allDarts xs
theorem allDarts_len : ∀ xs : List Int, (allDarts xs).length = 2 * xs.length
  | [] => rfl
  | x :: xs => by simp only [allDarts, List.length_cons, allDarts_len xs]; omega
theorem allDarts_append : ∀ a b : List Int, allDarts (a ++ b) = allDarts a ++ allDarts b
  | [], _ => rfl
  | x :: a, b => by simp [allDarts, allDarts_append a b]
theorem mem_allDarts {d : Int} : ∀ {xs : List Int}, d ∈ allDarts xs ↔ d / 2 ∈ xs
  | [] => by simp [allDarts]
  | x :: xs => by
    simp only [allDarts, List.mem_cons, mem_allDarts (xs := xs)]
    constructor
    · rintro (h | h | h)
      · exact .inl (by omega)
      · exact .inl (by omega)
      · exact .inr h
    · rintro (h | h)
      · rcases Int.emod_two_eq d with h2 | h2
        · exact .inl (by omega)
        · exact .inr (.inl (by omega))
      · exact .inr (.inr h)
theorem allDarts_sorted : ∀ {xs : List Int}, xs.Pairwise (· < ·) → (allDarts xs).Pairwise (· < ·)
  | [], _ => List.Pairwise.nil
  | x :: xs, h => by
    rw [List.pairwise_cons] at h
    have key : ∀ d ∈ allDarts xs, 2 * x + 1 < d := fun d hd => by
      have := h.1 _ (mem_allDarts.1 hd)
      omega
    simp only [allDarts, List.pairwise_cons]
    refine ⟨?_, key, allDarts_sorted h.2⟩
    intro d hd
    rcases List.mem_cons.1 hd with rfl | hd
    · omega
    · have := key d hd
      omega
theorem sorted_nodup {xs : List Int} (h : xs.Pairwise (· < ·)) : xs.Nodup := h.imp fun hab e => by omega
theorem mem_dartsOf {es : List (Int × Int)} {v d : Int} : ∀ {xs : List Int}, d ∈ dartsOf es v xs ↔ d / 2 ∈ xs ∧ tail es d = v
  | [] => by simp [dartsOf]
  | x :: xs => by
    simp only [dartsOf, List.mem_append, mem_dartsOf (xs := xs), List.mem_cons]
    have h1 : ∀ (p : Prop) [Decidable p] (y : Int), d ∈ (if p then [y] else []) ↔ p ∧ d = y := fun p _ y => by split <;> simp [*]
    rw [h1, h1]
    constructor
    · rintro ((⟨h, rfl⟩ | ⟨h, rfl⟩) | ⟨h, h'⟩)
      · exact ⟨.inl (by omega), h⟩
      · exact ⟨.inl (by omega), h⟩
      · exact ⟨.inr h, h'⟩
    · rintro ⟨h | h, h'⟩
      · rcases Int.emod_two_eq d with h2 | h2
        · have : d = 2 * x := by omega
          exact .inl (.inl ⟨this ▸ h', this⟩)
        · have : d = 2 * x + 1 := by omega
          exact .inl (.inr ⟨this ▸ h', this⟩)
      · exact .inr ⟨h, h'⟩

/-- Are lists turns of a part? -/
def TurnOK (N : Int) (es : List (Int × Int)) (xs : List Int) (tt : List (List Int)) : Prop :=
  (tt.length : Int) = N ∧ ∀ v, v < tt.length → (tt.getD v []).Nodup ∧ ∀ d, d ∈ tt.getD v [] ↔ d ∈ dartsOf es v xs
theorem getD_mem {tt : List (List Int)} {v : Nat} (h : v < tt.length) : tt.getD v [] ∈ tt := by
  rw [List.getD_eq_getElem?_getD, List.getElem?_eq_getElem h]
  exact List.getElem_mem h
/-- What has been placed: the first v lists, and i numbers of the next one. -/
def placed (tt : List (List Int)) (v i : Nat) : List Int := (tt.take v).flatten ++ (tt.getD v []).take i
/-- What New looks at: each dart is in its own list, none twice, none is missing. -/
def Turned (N : Int) (es : List (Int × Int)) (xs : List Int) (tt : List (List Int)) : Prop :=
  (tt.length : Int) = N ∧ (∀ v, v < tt.length → ∀ d ∈ tt.getD v [], d / 2 ∈ xs ∧ tail es d = v) ∧ tt.flatten.Nodup ∧ tt.flatten.length = 2 * xs.length
theorem mem_flat {tt : List (List Int)} {d : Int} : d ∈ tt.flatten ↔ ∃ v, v < tt.length ∧ d ∈ tt.getD v [] := by
  rw [List.mem_flatten]
  constructor
  · rintro ⟨l, hl, hd⟩
    obtain ⟨v, hv, rfl⟩ := List.getElem_of_mem hl
    exact ⟨v, hv, by rw [List.getD_eq_getElem?_getD, List.getElem?_eq_getElem hv]; exact hd⟩
  · rintro ⟨v, hv, hd⟩
    exact ⟨_, getD_mem hv, hd⟩
theorem flat_nodup {tt : List (List Int)} (f : Int → Int) (h1 : ∀ v, v < tt.length → (tt.getD v []).Nodup) (h2 : ∀ v, v < tt.length → ∀ d ∈ tt.getD v [], f d = v) : tt.flatten.Nodup := by
  induction tt generalizing f with
  | nil => simp
  | cons t tt ih =>
    rw [List.flatten_cons, List.nodup_append]
    refine ⟨by simpa using h1 0 (by simp), ih (fun d => f d - 1) (fun v hv => by simpa using h1 (v + 1) (by simpa using hv)) (fun v hv d hd => ?_), fun a ha b hb e => ?_⟩
    · have := h2 (v + 1) (by simpa using hv) d (by simpa using hd)
      omega
    · subst e
      have e1 := h2 0 (by simp) a (by simpa using ha)
      obtain ⟨v, hv, hd⟩ := mem_flat.1 hb
      have e2 := h2 (v + 1) (by simpa using hv) a (by simpa using hd)
      omega
theorem turned_iff {N : Int} {es : List (Int × Int)} {vs xs : List Int} {tt : List (List Int)} (hp : POK N es vs xs) : Turned N es xs tt ↔ TurnOK N es xs tt := by
  have hdn : (allDarts xs).Nodup := sorted_nodup (allDarts_sorted hp.xp)
  constructor
  · rintro ⟨h1, h2, h3, h4⟩
    refine ⟨h1, fun v hv => ⟨?_, fun d => ⟨fun hd => mem_dartsOf.2 (h2 v hv d hd), fun hd => ?_⟩⟩⟩
    · exact h3.sublist (List.sublist_flatten_of_mem (getD_mem hv))
    · obtain ⟨g1, g2⟩ := mem_dartsOf.1 hd
      have hall := nodup_full h3 (b := allDarts xs) (fun x hx => by
        obtain ⟨u, hu, hx⟩ := mem_flat.1 hx
        exact mem_allDarts.2 (h2 u hu x hx).1) (by rw [allDarts_len, h4]; exact Nat.le_refl _) d (mem_allDarts.2 g1)
      obtain ⟨u, hu, hdu⟩ := mem_flat.1 hall
      have := (h2 u hu d hdu).2
      obtain rfl : u = v := by omega
      exact hdu
  · rintro ⟨h1, h2⟩
    have h3 : tt.flatten.Nodup := flat_nodup (tail es) (fun v hv => (h2 v hv).1) fun v hv d hd => (mem_dartsOf.1 (((h2 v hv).2 d).1 hd)).2
    refine ⟨h1, fun v hv d hd => mem_dartsOf.1 (((h2 v hv).2 d).1 hd), h3, ?_⟩
    rw [← allDarts_len]
    refine Nat.le_antisymm (nodup_len h3 fun x hx => ?_) (nodup_len hdn fun x hx => ?_)
    · obtain ⟨u, hu, hx⟩ := mem_flat.1 hx
      exact mem_allDarts.2 (mem_dartsOf.1 (((h2 u hu).2 x).1 hx)).1
    · have hx2 := mem_allDarts.1 hx
      have hr := hp.xr _ hx2
      have he : EIn N (ends es (x / 2)) := by
        apply hp.edges
        unfold ends
        rw [List.getD_eq_getElem?_getD, List.getElem?_eq_getElem (show (x / 2).toNat < es.length by omega)]
        exact List.getElem_mem _
      have ht : 0 ≤ tail es x ∧ tail es x < N := by
        unfold tail
        split
        · exact ⟨he.1, he.2.1⟩
        · exact ⟨he.2.2.1, he.2.2.2⟩
      refine mem_flat.2 ⟨(tail es x).toNat, by omega, ((h2 _ (by omega)).2 x).2 (mem_dartsOf.2 ⟨hx2, by omega⟩)⟩
end Go.Proofs.Ythobfbnopkbniaa
end

section
namespace Go.Proofs.Ythobfbnopkbniaa
open Go.RowKit

theorem Try.infoRow : (Try.prog.info? 25).map (fun i => (i.zero, i.size, i.bytes)) = some (some (.slice none 0 0), 1, 24) := by kernel_rfl

/-- A row among others: it reads as t, below block B, and lies not in block g. -/
def RowAt (w : World) (g : Option Nat) (v : Value) (t : List Int) : Prop :=
  ∃ A n c, v = .slice A n c ∧ IS w w.heap.size A n c t ∧ (0 < n → ∀ a, A = some a → g ≠ some a.block)
/-- The slice value v is a row of the call's own (of a block that is new since w0) that holds slices of integers; they read as tt; below w0's blocks nothing has turned. -/
structure OwnT (w0 w : World) (v : Value) (tt : List (List Int)) : Prop where
  row : ∃ vs : List Value, w.ownsRow w0.heap.size 25 1 v tt.length vs ∧ ∀ j, j < tt.length → ∃ u, vs[j]? = some u ∧ RowAt w v.ownBlock u (tt.getD j [])
  below : Below w0.heap.size w0 w

theorem RowAt.keep {w w' : World} {g g' : Option Nat} {v : Value} {t : List Int} (h : RowAt w g v t) (hs : w.heap.size ≤ w'.heap.size) (hk : ∀ b, b < w.heap.size → some b ≠ g → w'.heap[b]? = w.heap[b]?)
    (hg : g' = g ∨ ∀ b, g' = some b → w.heap.size ≤ b) : RowAt w' g' v t := by
  obtain ⟨A, n, c, rfl, his, hne⟩ := h
  refine ⟨A, n, c, rfl, ⟨his.1, his.2.1, his.2.2.1, his.2.2.2.1, fun hn => ?_⟩, fun hn a ha => ?_⟩
  · obtain ⟨b, o, rfl, hb, hc⟩ := his.at_ hn
    refine ⟨b, o, rfl, by omega, fun j hj => ?_⟩
    have e1 : w'.heap[b]? = w.heap[b]? := hk b hb (fun e => hne hn _ rfl e.symm)
    rw [← hc j hj]
    exact World.cell?_of_block e1
  · obtain ⟨b, o, e, hb, hc⟩ := his.at_ hn
    rw [e] at ha
    injection ha with ha
    subst ha
    rcases hg with rfl | hg
    · exact hne hn _ e
    · exact fun e' => by have := hg _ e'; simp only at this; omega

section
variable {w0 w w' : World} {v : Value} {tt : List (List Int)}
theorem OwnT.start_at (hb : Below w0.heap.size w0 w) : OwnT w0 w (.slice none 0 0) [] := ⟨⟨[], World.ownsRow_nil _ _ _ _, fun j hj => absurd hj (by simp)⟩, hb⟩
theorem OwnT.kept {row : Option Nat} (h : OwnT w0 w v tt) (hg : w.grownBy w' row) (hr : ∀ k, row = some k → w0.heap.size ≤ k) (hv : v.ownBlock = none ∨ v.ownBlock ≠ row)
    (hin : ∀ j, j < tt.length → ∀ u, RowAt w v.ownBlock u (tt.getD j []) → ∀ a n c, u = .slice (some a) n c → 0 < n → row ≠ some a.block) : OwnT w0 w' v tt := by
  obtain ⟨vs, h1, h2⟩ := h.row
  refine ⟨⟨vs, h1.kept hg hv, fun j hj => ?_⟩, h.below.grown hg h.below.size hr⟩
  obtain ⟨u, hu, hat⟩ := h2 j hj
  have hat' := hat
  obtain ⟨A, n, c, rfl, his, hne⟩ := hat'
  refine ⟨_, hu, A, n, c, rfl, ⟨his.1, his.2.1, his.2.2.1, his.2.2.2.1, fun hn => ?_⟩, hne⟩
  obtain ⟨b, o, rfl, hb, hc⟩ := his.at_ hn
  refine ⟨b, o, rfl, Nat.lt_of_lt_of_le hb hg.size, fun i hi => ?_⟩
  rw [← hc i hi]
  exact World.cell?_of_block (hg.block b hb (fun e => hin j hj _ hat _ _ _ rfl hn e.symm))
theorem OwnT.later (h : OwnT w0 w v tt) (hb : Below w.heap.size w w') : OwnT w0 w' v tt :=
  h.kept (row := none) ⟨hb.os, hb.tape, hb.output, hb.size, fun i hi _ => hb.block i hi⟩ (fun k hk => by cases hk) (by cases hv : v.ownBlock <;> simp) (fun _ _ _ _ _ _ _ _ _ h => by cases h)
theorem OwnT.ts (h : OwnT w0 w v tt) (hl : tt.length ≤ 1000000) : ∃ A n c, v = .slice A n c ∧ TS w w.heap.size A n c tt := by
  obtain ⟨vs, h1, h2⟩ := h.row
  rcases h1.2 with ⟨rfl, hx⟩ | ⟨g, cap, cur, rfl, hb, hg, hnc, hcm, hcs, htake⟩
  · have : tt = [] := by
      have h3 : vs.length = tt.length * 1 := h1.1
      rw [hx] at h3
      exact List.eq_nil_of_length_eq_zero (by simp at h3; omega)
    subst this
    exact ⟨none, 0, 0, rfl, TS.none_⟩
  · refine ⟨_, _, _, rfl, rfl, hnc, hcm, fun hn => ⟨g, 0, rfl, (Array.getElem?_eq_some_iff.1 hg).1, fun j hj => ?_⟩⟩
    obtain ⟨u, hu, A, n, c, rfl, his, _⟩ := h2 j hj
    have := h1.cellAt j (by omega)
    rw [Nat.zero_add]
    exact ⟨A, n, c, this.trans hu, his⟩
end

/-- 'append(v, t)', t a row that lies elsewhere: it has been laid into a block of its own. -/
theorem run_append_row {w0 w : World} {v : Value} {tt : List (List Int)} (hown : OwnT w0 w v tt) {A : Option Addr} {n c : Nat} {t : List Int} (ht : RowAt w v.ownBlock (.slice A n c) t) (hl : tt.length + 1 ≤ 1000000) (ty : TypeId) :
    ∃ v' w', (Builtin.append_ #[28, 28] ty #[v, .slice (some ⟨w.heap.size, 0, none⟩) 1 1]).run Try.prog (w.alloc (.cells #[.slice A n c] 25)) = .ok v' w' ∧
      OwnT w0 w' v' (tt ++ [t]) ∧ (w.alloc (.cells #[.slice A n c] 25)).grownBy w' v.ownBlock ∧ (v'.ownBlock = v.ownBlock ∨ v'.ownBlock = some (w.heap.size + 1)) := by
  obtain ⟨i0, hi, hz0, hz1, hz2⟩ := info_parts Try.infoRow
  obtain ⟨vs, h1, h2⟩ := hown.row
  have hbl : Below w0.heap.size w0 (w.alloc (.cells #[.slice A n c] 25)) := hown.below.alloc hown.below.size _
  obtain ⟨v', w', hrun, g1, g2, _, g3⟩ := run_append_own_at (P := Try.prog) (w.alloc (.cells #[.slice A n c] 25)) w0.heap.size 28 ty 25 i0 (.slice none 0 0) 1 24 Try.underlying28 hi hz0 hz1 hz2 rfl (by decide)
    v tt.length vs (h1.alloc _) ⟨w.heap.size, 0, none⟩ 1 1 [.slice A n c] rfl (fun j u hj => by
      match j, hj with
      | 0, hj => simp at hj; subst hj; simp [Addr.add]) (by intro u hu; simp at hu; subst hu; rfl) (by unfold maxLen; omega) (by omega) (by have := hown.below.size; simp; omega)
  have hsz : w.heap.size < (w.alloc (.cells #[.slice A n c] 25)).heap.size := by simp
  have hsz' : (w.alloc (.cells #[.slice A n c] 25)).heap.size = w.heap.size + 1 := by simp
  have hs2 := g2.size
  have hkeep : ∀ b, b < w.heap.size → some b ≠ v.ownBlock → w'.heap[b]? = w.heap[b]? := fun b hb hne => (g2.block b (by omega) hne).trans (Below.heap_alloc _ _ _ hb)
  have hgg : v'.ownBlock = v.ownBlock ∨ ∀ b, v'.ownBlock = some b → w.heap.size ≤ b := by
    rcases g3 with h | h
    · exact .inl h
    · refine .inr fun b hb => ?_
      rw [h] at hb
      injection hb with hb
      omega
  have hlen : vs.length = tt.length := by simpa using h1.1
  refine ⟨v', w', hrun, ⟨⟨vs ++ [.slice A n c], by rw [List.length_append]; exact g1, fun j hj => ?_⟩, hbl.grown g2 hbl.size (fun k hk => (h1.lt k hk).1)⟩, g2, by rw [hsz'] at g3; exact g3⟩
  rw [List.length_append] at hj
  simp only [List.length_cons, List.length_nil] at hj
  rcases Nat.lt_or_ge j tt.length with hjl | hjl
  · obtain ⟨u, hu, hr⟩ := h2 j hjl
    refine ⟨u, by rw [List.getElem?_append_left (by omega)]; exact hu, ?_⟩
    rw [List.getD_eq_getElem?_getD, List.getElem?_append_left hjl, ← List.getD_eq_getElem?_getD]
    exact hr.keep (by omega) hkeep hgg
  · obtain rfl : j = tt.length := by omega
    refine ⟨.slice A n c, by rw [← hlen, List.getElem?_append_right (Nat.le_refl _)]; simp, ?_⟩
    rw [List.getD_eq_getElem?_getD, List.getElem?_append_right (Nat.le_refl _)]
    simp only [Nat.sub_self, List.getElem?_cons_zero, Option.getD_some]
    exact ht.keep (by omega) hkeep hgg

theorem wpList_append_row {w0 w : World} {v : Value} {tt : List (List Int)} {ops : Array Oper} {rest : List Oper} {o : Oper} {a : Act} {Q : Exit → Act → World → Prop} (hgd : o.guard = none) (s x : Operand)
    (ho : o.op = .call { callee := .builtin .append, args := #[s, x], argTypes := #[28, 28] }) (hs : a.eval s = v) (hown : OwnT w0 w v tt) {A : Option Addr} {n c : Nat} {t : List Int}
    (ht : RowAt w v.ownBlock (.slice A n c) t) (hx : a.eval x = .slice (some ⟨w.heap.size, 0, none⟩) 1 1) (hl : tt.length + 1 ≤ 1000000)
    (h : ∀ v' w', OwnT w0 w' v' (tt ++ [t]) → (w.alloc (.cells #[.slice A n c] 25)).grownBy w' v.ownBlock → (v'.ownBlock = v.ownBlock ∨ v'.ownBlock = some (w.heap.size + 1)) → wpList Try.prog ops Q rest (a.put o.dst v') w') :
    wpList Try.prog ops Q (o :: rest) a (w.alloc (.cells #[.slice A n c] 25)) := by
  obtain ⟨v', w', hrun, h2, h3, h4⟩ := run_append_row hown ht hl o.type
  refine wpList_plain hgd fun K hK => ?_
  unfold Oper.wp execOp
  simp only [ho, resolve, invoke, builtin, Sem.run_bind, Sem.run_pure, Result.andThen_ok, List.map_toArray, List.map_cons, List.map_nil, hs, hx, hrun]
  exact hK _ _ (h v' w' h2 h3 h4)
end Go.Proofs.Ythobfbnopkbniaa
end

section
namespace Go.Proofs.Ythobfbnopkbniaa
open Go.RowKit

/-- The places of the first k numbers of a list, put into g. -/
def putN (g : Int → Option Int) (t : List Int) : Nat → Int → Option Int
  | 0 => g
  | k + 1 => upd (putN g t k) (t.getD k 0) k
/-- The places of the first k lists' numbers, each list begun with its least. -/
def placeN (tt : List (List Int)) : Nat → Int → Option Int
  | 0 => fun _ => none
  | k + 1 => putN (placeN tt k) (first (tt.getD k [])) (tt.getD k []).length

theorem MV.block {w : World} {b n : Nat} {f : Int → Option Value} (h : MV w b n f) : ∃ es clock, w.heap[b]? = some (.map es clock) := by
  obtain ⟨D, ⟨es, clock, h, _⟩, _⟩ := h
  exact ⟨es, clock, h⟩
theorem cell_of_map {w : World} {b o : Nat} {es : Array MapEntry} {clock : Nat} (h : w.heap[b]? = some (.map es clock)) : w.cell? ⟨b, o, none⟩ = none := by
  unfold World.cell?
  rw [h]
theorem IS.mapped {w w' : World} {b n' : Nat} {f : Int → Option Value} {A : Option Addr} {n c : Nat} {xs : List Int} (h : IS w w.heap.size A n c xs) (hm : MV w b n' f) (hg : w.grownBy w' (some b)) : IS w' w'.heap.size A n c xs := by
  obtain ⟨es, clock, hb⟩ := hm.block
  refine ⟨h.1, h.2.1, h.2.2.1, h.2.2.2.1, fun hn => ?_⟩
  obtain ⟨g, o, e, hgb, hc⟩ := h.at_ hn
  refine ⟨g, o, e, Nat.lt_of_lt_of_le hgb hg.size, fun j hj => ?_⟩
  have hne : g ≠ b := by
    rintro rfl
    have := hc j hj
    rw [cell_of_map hb] at this
    cases this
  rw [← hc j hj]
  exact World.cell?_of_block (hg.block g hgb (fun e => hne (by injection e)))

/-- The turns' struct, as it is filled. -/
structure TakeInv (w wr : World) (rb pb lb : Nat) (tv dv : Value) (tt : List (List Int)) (g : Int → Option Int) (q : Nat) : Prop where
  box : wr.heap[rb]? = some (.cells #[tv, .map (some lb), .map (some pb), dv] 97 (0, 0))
  row : OwnT w wr tv tt
  map : ∃ cnt, MI wr pb cnt g ∧ cnt ≤ q
  new : w.heap.size ≤ rb ∧ w.heap.size ≤ pb
  dvs : ∃ A n c, dv = .slice A n c

section
variable {w wr w' : World} {rb pb lb : Nat} {tv dv : Value} {tt : List (List Int)} {g : Int → Option Int} {q : Nat}
theorem TakeInv.lt (h : TakeInv w wr rb pb lb tv dv tt g q) : rb < wr.heap.size := (Array.getElem?_eq_some_iff.1 h.box).1
theorem TakeInv.cell (h : TakeInv w wr rb pb lb tv dv tt g q) (i : Nat) : wr.cell? ⟨rb, i, none⟩ = #[tv, .map (some lb), .map (some pb), dv][i]? := cell_of_row wr rb i _ _ _ h.box
theorem TakeInv.frozen (h : TakeInv w wr rb pb lb tv dv tt g q) (i : Nat) : wr.frozen? ⟨rb, i, none⟩ = false := by
  have := h.box
  simp [World.frozen?, this]
theorem OwnT.owns (h : OwnT w wr tv tt) {k : Nat} (hk : tv.ownBlock = some k) : ∃ cur, wr.heap[k]? = some (.cells cur 25 (0, 0)) ∧ w.heap.size ≤ k := by
  obtain ⟨vs, h1, _⟩ := h.row
  rcases h1.2 with ⟨rfl, _⟩ | ⟨g', cap, cur, rfl, hb, hh, _⟩
  · simp [Value.ownBlock] at hk
  · have : g' = k := by simpa [Value.ownBlock] using hk
    subst this
    exact ⟨cur, hh, hb⟩
theorem TakeInv.notBox (h : TakeInv w wr rb pb lb tv dv tt g q) : tv.ownBlock ≠ some rb := by
  intro e
  obtain ⟨cur, hc, _⟩ := h.row.owns e
  rw [h.box] at hc
  injection hc with hc
  injection hc with _ ht
  revert ht
  decide
theorem TakeInv.notMap (h : TakeInv w wr rb pb lb tv dv tt g q) : tv.ownBlock ≠ some pb := by
  intro e
  obtain ⟨cur, hc, _⟩ := h.row.owns e
  obtain ⟨cnt, hm, hq⟩ := h.map
  obtain ⟨es, clock, hb⟩ := hm.block
  rw [hb] at hc
  cases hc
theorem TakeInv.boxMap (h : TakeInv w wr rb pb lb tv dv tt g q) : rb ≠ pb := by
  rintro rfl
  obtain ⟨cnt, hm, hq⟩ := h.map
  obtain ⟨es, clock, hb⟩ := hm.block
  have := h.box
  rw [hb] at this
  cases this
theorem TakeInv.later (h : TakeInv w wr rb pb lb tv dv tt g q) (hb : Below wr.heap.size wr w') : TakeInv w w' rb pb lb tv dv tt g q := by
  obtain ⟨cnt, hm, hq⟩ := h.map
  exact ⟨(hb.block rb h.lt).trans h.box, h.row.later hb, ⟨cnt, hm.below hb hm.lt, hq⟩, h.new, h.dvs⟩
/-- A place is put. -/
theorem TakeInv.put (h : TakeInv w wr rb pb lb tv dv tt g q) {cnt' : Nat} {g' : Int → Option Int} (hm' : MI w' pb cnt' g') (hc : cnt' ≤ q + 1) (hg : wr.grownBy w' (some pb)) : TakeInv w w' rb pb lb tv dv tt g' (q + 1) := by
  obtain ⟨cnt, hm, hq⟩ := h.map
  obtain ⟨es, clock, hb⟩ := hm.block
  refine ⟨(hg.block rb h.lt (fun e => h.boxMap (by injection e))).trans h.box, ?_, ⟨cnt', hm', hc⟩, h.new, h.dvs⟩
  refine h.row.kept hg (fun k hk => by cases hk; exact h.new.2) (.inr h.notMap) fun j hj u hat a n c e hn hp => ?_
  injection hp with hp
  obtain ⟨A, n', c', e', his, _⟩ := hat
  subst e
  injection e' with e1 e2 e3
  subst e1 e2
  obtain ⟨b, o, eb, hbb, hcc⟩ := his.at_ hn
  injection eb with eb
  subst eb
  have h3 := hcc 0 hn
  simp only at hp
  rw [← hp, cell_of_map hb] at h3
  cases h3
/-- A list is put behind the others (its own block laid first), and the field is set. -/
theorem TakeInv.append (h : TakeInv w wr rb pb lb tv dv tt g q) {o : Obj} {tv' : Value} {t : List Int} (hr : OwnT w w' tv' (tt ++ [t])) (hg : (wr.alloc o).grownBy w' tv.ownBlock) (hown : tv'.ownBlock = tv.ownBlock ∨ tv'.ownBlock = some (wr.heap.size + 1)) :
    TakeInv w (w'.setCell ⟨rb, 0, none⟩ tv') rb pb lb tv' dv (tt ++ [t]) g q := by
  obtain ⟨cnt, hm, hq⟩ := h.map
  have hlt := h.lt
  have hs := hg.size
  have hsz : (wr.alloc o).heap.size = wr.heap.size + 1 := by simp
  have hbox : w'.heap[rb]? = some (.cells #[tv, .map (some lb), .map (some pb), dv] 97 (0, 0)) :=
    ((hg.block rb (by omega) (fun e => h.notBox e.symm)).trans (Below.heap_alloc _ _ _ hlt)).trans h.box
  have hmap : MI w' pb cnt g := (hm.alloc o).kept hg (fun e => h.notMap e.symm)
  have hnb : tv'.ownBlock ≠ some rb := by
    rcases hown with e | e
    · rw [e]; exact h.notBox
    · rw [e]; intro e'; injection e' with e'; omega
  have hset : w'.grownBy (w'.setCell ⟨rb, 0, none⟩ tv') (some rb) := ⟨rfl, rfl, rfl, by simp [World.setCell], fun i _ hi => Below.heap_setCell _ _ _ _ (fun e => hi (by rw [e]))⟩
  refine ⟨?_, ?_, ⟨cnt, hmap.kept hset (fun e => h.boxMap (by injection e with e; exact e.symm)), hq⟩, h.new, h.dvs⟩
  · simp [World.setCell, Array.getElem?_modify, hbox]
  · refine hr.kept hset (fun k hk => by cases hk; exact h.new.1) (.inr hnb) fun j hj u hat a n c e hn hp => ?_
    injection hp with hp
    obtain ⟨A, n', c', e', his, _⟩ := hat
    subst e
    injection e' with e1 e2 e3
    subst e1 e2
    obtain ⟨b, o', eb, hbb, hc⟩ := his.at_ hn
    injection eb with eb
    subst eb
    have h3 := hc 0 hn
    simp only at hp
    rw [← hp, Nat.add_zero, cell_of_row w' rb o' _ _ _ hbox] at h3
    have htv : ∃ A n c, tv = .slice A n c := by
      obtain ⟨vs, q1, _⟩ := h.row.row
      rcases q1.2 with ⟨rfl, _⟩ | ⟨g', cap, cur, rfl, _⟩
      · exact ⟨_, _, _, rfl⟩
      · exact ⟨_, _, _, rfl⟩
    obtain ⟨A1, n1, c1, rfl⟩ := htv
    obtain ⟨A2, n2, c2, rfl⟩ := h.dvs
    match o', h3 with
    | 0, h3 => simp at h3
    | 1, h3 => simp at h3
    | 2, h3 => simp at h3
    | 3, h3 => simp at h3
    | o' + 4, h3 => simp at h3
end
end Go.Proofs.Ythobfbnopkbniaa
end

section
namespace Go.Proofs.Ythobfbnopkbniaa
open Go.RowKit

/-- The turns' struct at block r: its lists tt, the vertices lv that darts leave, their places pl, all darts ds. -/
def RS (w : World) (r : Nat) (lv : Int → Option Int) (tt : List (List Int)) (pl : Int → Option Int) (ds : List Int) : Prop :=
  ∃ At nt ct lb nl pb np Ad nd cd, r < w.heap.size ∧ w.cell? ⟨r, 0, none⟩ = some (.slice At nt ct) ∧ w.cell? ⟨r, 1, none⟩ = some (.map (some lb)) ∧ w.cell? ⟨r, 2, none⟩ = some (.map (some pb)) ∧ w.cell? ⟨r, 3, none⟩ = some (.slice Ad nd cd) ∧
    TS w w.heap.size At nt ct tt ∧ MI w lb nl lv ∧ MI w pb np pl ∧ IS w w.heap.size Ad nd cd ds
theorem MV.step {w w' : World} {b n : Nat} {f : Int → Option Value} (h : MV w b n f) (hb : Below w.heap.size w w') : MV w' b n f := h.below hb h.lt
theorem RS.step {w w' : World} {r : Nat} {lv : Int → Option Int} {tt : List (List Int)} {pl : Int → Option Int} {ds : List Int} (h : RS w r lv tt pl ds) (hb : Below w.heap.size w w') : RS w' r lv tt pl ds := by
  obtain ⟨At, nt, ct, lb, nl, pb, np, Ad, nd, cd, h0, c0, c1, c2, c3, h1, h2, h3, h4⟩ := h
  have := hb.size
  exact ⟨At, nt, ct, lb, nl, pb, np, Ad, nd, cd, by omega, (hb.cell (p := ⟨r, 0, none⟩) h0).trans c0, (hb.cell (p := ⟨r, 1, none⟩) h0).trans c1, (hb.cell (p := ⟨r, 2, none⟩) h0).trans c2, (hb.cell (p := ⟨r, 3, none⟩) h0).trans c3, h1.step hb, MV.step h2 hb, MV.step h3 hb, h4.step hb⟩

theorem TakeInv.mid {w wr w' : World} {rb pb lb : Nat} {tv dv : Value} {tt : List (List Int)} {g : Int → Option Int} {q : Nat} (h : TakeInv w wr rb pb lb tv dv tt g q) {o : Obj} (hg : (wr.alloc o).grownBy w' tv.ownBlock) :
    (∃ u, w'.cell? ⟨rb, 0, none⟩ = some u) ∧ w'.frozen? ⟨rb, 0, none⟩ = false := by
  have hlt := h.lt
  have hsz : (wr.alloc o).heap.size = wr.heap.size + 1 := by simp
  have hbox := ((hg.block rb (by omega) (fun e => h.notBox e.symm)).trans (Below.heap_alloc _ _ _ hlt)).trans h.box
  exact ⟨⟨_, cell_of_row w' rb 0 _ _ _ hbox⟩, by simp [World.frozen?, hbox]⟩

theorem TakeInv.start (w : World) (lb : Nat) (Ad : Option Addr) (nd cd : Nat) :
    TakeInv w ((w.alloc (.map #[] 0)).alloc (.cells #[.slice none 0 0, .map (some lb), .map (some w.heap.size), .slice Ad nd cd] 97)) (w.heap.size + 1) w.heap.size lb (.slice none 0 0) (.slice Ad nd cd) [] (fun _ => none) 0 := by
  have hb : Below w.heap.size w ((w.alloc (.map #[] 0)).alloc (.cells #[.slice none 0 0, .map (some lb), .map (some w.heap.size), .slice Ad nd cd] 97)) :=
    ((Below.refl _ _).alloc (Nat.le_refl _) _).alloc (by simp) _
  have hsz : (w.alloc (.map #[] 0)).heap.size = w.heap.size + 1 := by simp
  refine ⟨?_, OwnT.start_at hb, ⟨0, (MI.made w).alloc _, Nat.le_refl _⟩, ⟨by omega, Nat.le_refl _⟩, ⟨_, _, _, rfl⟩⟩
  rw [← hsz]
  exact heap_alloc_new _ _

theorem OwnT.slice {w0 w : World} {v : Value} {tt : List (List Int)} (h : OwnT w0 w v tt) : ∃ A n c, v = .slice A n c := by
  obtain ⟨vs, h1, _⟩ := h.row
  rcases h1.2 with ⟨rfl, _⟩ | ⟨g, cap, cur, rfl, _⟩
  · exact ⟨_, _, _, rfl⟩
  · exact ⟨_, _, _, rfl⟩
theorem map_first_snoc {tt : List (List Int)} {k : Nat} {t : List Int} (hk : k < tt.length) (ht : tt.getD k [] = t) : (tt.take (k + 1)).map first = (tt.take k).map first ++ [first t] := by
  rw [List.take_succ_eq_append_getElem hk, List.map_append]
  rw [List.getD_eq_getElem?_getD, List.getElem?_eq_getElem hk] at ht
  rw [show tt[k] = t from ht]
  rfl

set_option maxHeartbeats 4000000 in
set_option maxRecDepth 100000 in
theorem take_any (w : World) (At : Option Addr) (nt ct : Nat) (tt : List (List Int)) (lb nl : Nat) (lv : Int → Option Int) (Ad : Option Addr) (nd cd : Nat) (ds : List Int)
    (ht : TS w w.heap.size At nt ct tt) (hl : MI w lb nl lv) (hd : IS w w.heap.size Ad nd cd ds) (hnt : nt ≤ 1024) (hlen : ∀ t ∈ tt, t.length ≤ 1024) :
    Calls Try.prog 63 #[.slice At nt ct, .map (some lb), .slice Ad nd cd] w fun e w' => ∃ r, e = .returned (.pointer (some ⟨r, 0, none⟩)) ∧ RS w' r lv (tt.map first) (placeN tt tt.length) ds ∧ Below w.heap.size w w' := by
  have hn := ht.le
  have hc := ht.cap
  have HL := Lib.hid ht.len
  have hst := TakeInv.start w lb Ad nd cd
  have hmm := run_makeMap_int
  go_enter Try.func63, Try.ntmps63
  go_wp2_with (with_reducible show wpList _ _ _ (Oper.mk (some 15) _ _ _ _ _ :: _) _ _; go_must (refine wpList_ilen rfl _ rfl rfl hl ?_))
  clear hmm
  go_loopw [22] (fun i wr => ∃ k : Nat, k ≤ nt ∧ i = .int .i64 k ∧ ∃ tv q, q ≤ k * 1024 ∧ TakeInv w wr (w.heap.size + 1) w.heap.size lb tv (.slice Ad nd cd) ((tt.take k).map first) (placeN tt k) q) (fun i _ => nt - (intOf i).toNat)
  case atStart => exact ⟨0, Nat.zero_le _, rfl, _, 0, by omega, hst⟩
  case round =>
    obtain ⟨k, hk, rfl, tv, q, hq, inv⟩ := hrel
    by_cases hlt : k < nt
    · obtain ⟨b, o, t, A3, n3, c3, hA, hb, htk, hc3, ist⟩ := (ht.below inv.row.below).get hlt
      subst hA
      have hkl : Hid (k < tt.length) := Lib.hid (by rw [HL.out]; exact hlt)
      have hn3 : n3 ≤ 1024 := by rw [← ist.len, ← htk.out]; exact hlen _ (getD_mem hkl.out)
      have ist' := ist.more inv.row.below.size
      have hownlt : Hid (∀ k', tv.ownBlock = some k' → k' < wr.heap.size) := Lib.hid fun k' hk' => by
        obtain ⟨cur, hcur, _⟩ := inv.row.owns hk'
        exact (Array.getElem?_eq_some_iff.1 hcur).1
      have HT := Lib.hid ht
      have HLn := Lib.hid hlen
      clear ht hlen ist
      go_wp2_with fail
      refine (first_new wr A3 n3 c3 t ist' (by omega)).mono ?_
      rintro e w4 ⟨A4, n4, c4, rfl, is4, b4, hnew⟩
      have inv4 := inv.later b4
      have hn4 : n4 = n3 := by have h1 := is4.len; unfold first at h1; rw [turn_length, ist'.len] at h1; exact h1.symm
      have hn4' : n4 ≤ 1024 := by omega
      have hc4 := is4.le
      have hc4' := is4.cap
      have HN4 := Lib.hid hn4
      have HLt := Lib.hid ist'.len
      clear hn4 inv ist' b4
      go_wp2
      obtain ⟨wo, hwo⟩ : ∃ wo : World, wo = wr := ⟨_, rfl⟩
      rw [← hwo] at hnew hownlt hc3
      clear hwo hc3
      go_loopw [30] (fun i wi => ∃ j : Nat, j ≤ n4 ∧ i = .int .i64 j ∧ TakeInv w wi (w.heap.size + 1) w.heap.size lb tv (.slice Ad nd cd) ((tt.take k).map first) (putN (placeN tt k) (first t) j) (q + j) ∧ IS wi wi.heap.size A4 n4 c4 (first t)) (fun i _ => n4 - (intOf i).toNat)
      case atStart => exact ⟨0, Nat.zero_le _, rfl, inv4, is4⟩
      case round =>
        obtain ⟨j, hj, rfl, invj, isj⟩ := hrel
        have hcl := invj.cell 2
        by_cases hjl : j < n4
        · obtain ⟨b', o', z, hA, hb', hz, hz64, hcz⟩ := isj.get hjl
          subst hA
          obtain ⟨cnt, hm, hcq⟩ := invj.map
          have hcnt : cnt < 1000000000000 := by omega
          have hcl : wr.cell? ⟨w.heap.size + 1, 2, none⟩ = some (.map (some w.heap.size)) := hcl
          clear inv4 is4
          have IJ := Lib.hid invj
          have ISJ := Lib.hid isj
          clear invj isj
          go_wp2_with (at_mapUpdate; go_must (refine wpList_istore rfl _ _ _ rfl rfl hm hcnt z rfl hz64 _ rfl ?_; intro w5 hm5 hg5))
          go_roundw
          case rel =>
            refine ⟨j + 1, by omega, by go_num, ?_, ISJ.out.mapped hm hg5⟩
            have := IJ.out.put hm5 (by split <;> omega) hg5
            rw [putN, hz.out]
            exact this
          case measure => simp [intOf]; omega
        · obtain rfl : j = n4 := by omega
          have hcl0 : wr.cell? ⟨w.heap.size + 1, 0, none⟩ = some tv := invj.cell 0
          have hrow : RowAt wr tv.ownBlock (.slice A4 j c4) (first t) := ⟨_, _, _, rfl, isj, fun hn' a ha => by
            intro e
            have h1 := hownlt.out _ e
            have h2 := hnew a ha
            omega⟩
          have hlr : ((tt.take k).map first).length + 1 ≤ 1000000 := by rw [List.length_map, List.length_take]; omega
          have IJ := Lib.hid invj
          clear invj isj hcl inv4 is4
          go_wp2_with (with_reducible show wpList _ _ _ (Oper.mk (some 49) _ _ _ _ _ :: _) _ _; go_must (refine wpList_append_row (v := tv) (w0 := w) rfl _ _ rfl rfl IJ.out.row hrow rfl hlr ?_; intro v' w5 hown' hg5 hb5; obtain ⟨⟨u0, hu0⟩, hf0⟩ := IJ.out.mid hg5; obtain ⟨vA, vn, vc, rfl⟩ := hown'.slice))
          go_roundw
          case rel =>
            refine ⟨k + 1, by omega, by go_num, .slice vA vn vc, q + j, by omega, ?_⟩
            rw [map_first_snoc hkl.out htk.out]
            have := IJ.out.append hown' hg5 hb5
            rw [show placeN tt (k + 1) = putN (placeN tt k) (first t) j from by rw [placeN, htk.out, HLt.out, ← HN4.out]]
            exact this
          case measure => simp [intOf]; omega
    · obtain rfl : k = nt := by omega
      obtain ⟨tA, tn, tc, etv, hts⟩ := inv.row.ts (by rw [List.length_map, List.length_take]; omega)
      have c0 := inv.cell 0
      have c1 := inv.cell 1
      have c2 := inv.cell 2
      have c3 := inv.cell 3
      have hfin : RS wr (w.heap.size + 1) lv (tt.map first) (placeN tt tt.length) ds := by
        obtain ⟨cnt, hm, hq2⟩ := inv.map
        have e : (tt.take k).map first = tt.map first := by rw [List.take_of_length_le (by rw [HL.out]; omega)]
        rw [HL.out]
        rw [e] at hts
        refine ⟨tA, tn, tc, lb, nl, w.heap.size, cnt, Ad, nd, cd, inv.lt, by rw [c0, etv]; rfl, c1, c2, c3, hts, hl.below inv.row.below hl.lt, hm, hd.step inv.row.below⟩
      have hbel := inv.row.below
      go_wp2
      go_ret
      exact ⟨_, rfl, hfin, hbel⟩

end Go.Proofs.Ythobfbnopkbniaa
end

section
namespace Go.Proofs.Ythobfbnopkbniaa
open Go.RowKit Go.Maps

/-- The two parts together are one store. -/
theorem entry_two {w : World} {t e k : TypeId} (K : Keyed Try.prog k) (ht : Try.prog.underlying t = some (.map k e)) {z : Value} (hz : ∀ u : World, (zeroValue e).run Try.prog u = .ok z u) {b : Nat} {es : Array MapEntry} {clock : Nat}
    (hb : w.heap[b]? = some (.map es clock)) (hkeys : ∀ x ∈ es.toList, ∃ l, keyOf Try.prog k x.key = some l) (hs1 : ∀ x ∈ es.toList, x.born < clock) (hs2 : (es.toList.map (·.born)).Nodup) {key : Value} {kl : Lit} (hkey : keyOf Try.prog k key = some kl) (val : Value) :
    ∃ (v0 : Value) (st : Nat) (w1 w2 : World), (Instr.mapEntry t (.map (some b)) key).run Try.prog w = .ok (.tuple #[v0, goInt st]) w1 ∧ (Instr.entryStore t (.map (some b)) (goInt st) val).run Try.prog w1 = .ok () w2 ∧
      (Instr.mapUpdate t (.map (some b)) key val).run Try.prog w = .ok () w2 ∧ w.grownBy w1 (some b) := by
  have hbl : b < w.heap.size := (Array.getElem?_eq_some_iff.1 hb).1
  have hback : ∀ (x : Array MapEntry) (c : Nat), ({ w with heap := w.heap.setIfInBounds b (.map x c) } : World).heap[b]? = some (.map x c) := fun x c => by
    simp [hbl]
  have hgr : ∀ (x : Array MapEntry) (c : Nat), w.grownBy { w with heap := w.heap.setIfInBounds b (.map x c) } (some b) := fun x c =>
    ⟨rfl, rfl, rfl, by simp, fun i hi hne => by
      have : b ≠ i := fun e => hne (by rw [e])
      simp [this]⟩
  have hset : ∀ (x y : Array MapEntry) (c d : Nat), (w.heap.setIfInBounds b (.map x c)).setIfInBounds b (.map y d) = w.heap.setIfInBounds b (.map y d) := fun x y c d => by
    simp
  rcases K.find w hkey es.toList hkeys with ⟨h1, h2⟩ | ⟨j, e0, h1, h2, h3⟩
  · have hidx : (es.push ⟨key, z, clock⟩).findIdx? (fun e => ((e.born : Nat) : Int) == ((clock : Nat) : Int)) = some es.size := by
      rw [WideElems.findIdx_arr]
      refine WideElems.findIdx_born (l := (es.push ⟨key, z, clock⟩).toList) (j := es.size) (e0 := ⟨key, z, clock⟩) ?_ (by simp)
      rw [Array.toList_push, List.map_append]
      refine List.nodup_append.2 ⟨hs2, by simp, fun a ha c hc e1 => ?_⟩
      obtain ⟨x, hx, rfl⟩ := List.mem_map.1 ha
      have := hs1 x hx
      simp at hc
      omega
    have hmod : (es.push ⟨key, z, clock⟩).modify es.size (fun e => { e with val := val }) = es.push ⟨key, val, clock⟩ := by
      apply Array.ext'
      rw [Array.toList_modify, Array.toList_push, Array.toList_push, ← Array.length_toList, WideElems.modify_last]
    refine ⟨z, clock, { w with heap := w.heap.setIfInBounds b (.map (es.push ⟨key, z, clock⟩) (clock + 1)) }, { w with heap := w.heap.setIfInBounds b (.map (es.push ⟨key, val, clock⟩) (clock + 1)) }, ?_, ?_, ?_, hgr _ _⟩
    · simp [Instr.mapEntry, run_underlying ht, MapKept.run_getObj_map hb, K.check w false hkey, h1, hz, MapKept.run_setObj_map _ hb, Result.andThen]
    · simp [Instr.entryStore, MapKept.run_getObj_map (hback _ _), asInt, asIntOf, goInt, hidx, hmod, MapKept.run_setObj_map _ (hback _ _), Result.andThen]
    · simp [Instr.mapUpdate, run_underlying ht, MapKept.run_getObj_map hb, K.check w false hkey, h1, MapKept.run_setObj_map _ hb, Result.andThen]
  · have hj : es[j]? = some e0 := by simpa using h2
    have hsame : es.modify j (fun e => { e with key := key }) = es := by
      apply Array.ext'
      rw [Array.toList_modify, ChangeMaps.modify_eq_set _ _ _ _ h2]
      have : ({ e0 with key := key } : MapEntry) = e0 := by rw [← h3]
      rw [this]
      exact WideElems.set_self _ _ _ h2
    have hidx : es.findIdx? (fun e => ((e.born : Nat) : Int) == ((e0.born : Nat) : Int)) = some j := by
      rw [WideElems.findIdx_arr]
      exact WideElems.findIdx_born hs2 h2
    have hmod : es.modify j (fun e => { e with val := val }) = es.modify j (fun e' => { e' with key := key, val := val }) := by
      apply Array.ext'
      rw [Array.toList_modify, Array.toList_modify, ChangeMaps.modify_eq_set _ _ _ _ h2, ChangeMaps.modify_eq_set _ _ _ _ h2, ← h3]
    refine ⟨e0.val, e0.born, { w with heap := w.heap.setIfInBounds b (.map es clock) }, { w with heap := w.heap.setIfInBounds b (.map (es.modify j (fun e' => { e' with key := key, val := val })) clock) }, ?_, ?_, ?_, hgr _ _⟩
    · simp [Instr.mapEntry, run_underlying ht, MapKept.run_getObj_map hb, K.check w false hkey, h1, hj, h3, K.stays w hkey, hsame, MapKept.run_setObj_map _ hb, Result.andThen]
    · simp [Instr.entryStore, MapKept.run_getObj_map (hback _ _), asInt, asIntOf, goInt, hidx, hmod, MapKept.run_setObj_map _ (hback _ _), Result.andThen]
    · simp [Instr.mapUpdate, run_underlying ht, MapKept.run_getObj_map hb, K.check w false hkey, h1, hj, h3, K.stays w hkey, MapKept.run_setObj_map _ hb, Result.andThen]

section
variable {w : World} {b n : Nat} {f : Int → Option Value} {g : Int → Option Int} {ops : Array Oper} {rest : List Oper} {o : Oper} {a : Act} {Q : Exit → Act → World → Prop}
/-- The store as a run. -/
theorem MV.update (h : MV w b n f) (hn : n < 1000000000000) (k : Int) (hk : I64 k) (u : Value) {t e : TypeId} (ht : Try.prog.underlying t = some (.map 3 e)) :
    ∃ w', (Instr.mapUpdate t (.map (some b)) (.int .i64 k) u).run Try.prog w = .ok () w' ∧ MV w' b (if (f k).isSome then n else n + 1) (upd f k u) ∧ w.grownBy w' (some b) := by
  obtain ⟨D, h1, h2, h3⟩ := h
  obtain ⟨w', hrun, h4, h5⟩ := h1.update keyedInt ht (by unfold maxLen; omega) (keyInt hk) (val := u) (d := .held u) (ps := []) rfl
  refine ⟨w', hrun, ?_, h5⟩
  have hkl : WideAt.IsKeyLit (Lit.int .i64 k) := trivial
  have hD := h1.isMap
  have hs : Maps.size (D.put (.int .i64 k) (.held u)) = if (f k).isSome then n else n + 1 := by
    rw [Maps.size_put (h1.tidy keyedInt), h2]
    cases hfk : f k with
    | none => rw [(h3 k hk).1 hfk]; simp
    | some y => rw [((h3 k hk).2 y hfk).1]; simp
  refine ⟨D.put (.int .i64 k) (.held u), hs ▸ ownsMap_exact h4, hs, fun j hj => ?_⟩
  by_cases he : j = k
  · subst he
    refine ⟨fun h => by simp [upd] at h, fun v hv => ?_⟩
    simp only [upd, if_true, Option.some.injEq] at hv
    subst hv
    exact ⟨Maps.has_put_same hD hkl _, fun z => Maps.atKey_put_same hD hkl _ z⟩
  · have hne : Lit.int .i64 j ≠ Lit.int .i64 k := fun h => he (by injection h)
    have hu : upd f k u j = f j := by simp [upd, he]
    rw [hu, Maps.has_put_other hne]
    refine ⟨(h3 j hj).1, fun v hv => ⟨((h3 j hj).2 v hv).1, fun z => ?_⟩⟩
    rw [Maps.atKey_put_other hne]
    exact ((h3 j hj).2 v hv).2 z
/-- The two parts in a map[int]int, as runs. -/
theorem MI.entry (h : MI w b n g) (hn : n < 1000000000000) (k : Int) (hk : I64 k) (u : Int) :
    ∃ (v0 : Value) (st : Nat) (w1 w2 : World), (Instr.mapEntry 52 (.map (some b)) (.int .i64 k)).run Try.prog w = .ok (.tuple #[v0, goInt st]) w1 ∧
      (Instr.entryStore 52 (.map (some b)) (goInt st) (.int .i64 u)).run Try.prog w1 = .ok () w2 ∧ MI w2 b (if (g k).isSome then n else n + 1) (upd g k u) ∧ w.grownBy w2 (some b) ∧ w.grownBy w1 (some b) := by
  obtain ⟨w', hrun, h4, h5⟩ := MV.update h hn k hk (.int .i64 u) Try.underlying52
  obtain ⟨D, ⟨es, clock, hb, F, _⟩, _⟩ := h
  obtain ⟨s1, s2, _⟩ := F.stamped
  obtain ⟨v0, st, w1, w2, r1, r2, r3, r4⟩ := entry_two keyedInt Try.underlying52 zeroInt hb F.keys s1 s2 (keyInt hk) (.int .i64 u)
  rw [hrun] at r3
  injection r3 with _ r3
  subst r3
  refine ⟨v0, st, w1, _, r1, r2, ?_, h5, r4⟩
  have e1 : (if ((g k).map (Value.int .i64)).isSome then n else n + 1) = if (g k).isSome then n else n + 1 := by cases g k <;> rfl
  rw [e1] at h4
  exact h4.congr fun j _ => by
    show ((upd g k u) j).map _ = upd _ k _ j
    unfold upd
    split <;> rfl
/-- The first part at its operation. -/
theorem wpList_run_entry {w1 : World} {t : TypeId} {M X v : Value} (hg : o.guard = none) (m x : Operand) (hop : o.op = Op.mapEntry t m x) (hm : a.eval m = M) (hx : a.eval x = X) (hr : (Instr.mapEntry t M X).run Try.prog w = .ok v w1)
    (hK : wpList Try.prog ops Q rest (a.put o.dst v) w1) : wpList Try.prog ops Q (o :: rest) a w := by
  refine wpList_plain hg fun K' hK' => ?_
  unfold Oper.wp
  simp only [execOp, hop, hm, hx, Sem.run_bind, hr, Result.andThen_ok, Sem.run_pure]
  exact hK' _ _ hK
/-- The second. -/
theorem wpList_run_entryStore {w1 : World} {t : TypeId} {M S X : Value} (hg : o.guard = none) (m s x : Operand) (hop : o.op = Op.entryStore t m s x) (hm : a.eval m = M) (hs : a.eval s = S) (hx : a.eval x = X) (hr : (Instr.entryStore t M S X).run Try.prog w = .ok () w1)
    (hK : wpList Try.prog ops Q rest (a.put o.dst undef) w1) : wpList Try.prog ops Q (o :: rest) a w := by
  refine wpList_plain hg fun K' hK' => ?_
  unfold Oper.wp
  simp only [execOp, hop, hm, hs, hx, Sem.run_bind, hr, Result.andThen_ok, Sem.run_pure]
  exact hK' _ _ hK
end
end Go.Proofs.Ythobfbnopkbniaa
end

section
namespace Go.Proofs.Ythobfbnopkbniaa
open Go.RowKit

set_option maxHeartbeats 400000 in
theorem in_yes (w : World) (B : Nat) (A : Option Addr) (n c : Nat) (xs : List Int) (x : Int) (h : IS w B A n c xs) (hx : x ∈ xs) :
    Calls Try.prog 24 #[.slice A n c, .int .i64 x] w fun e w' => e = .returned (.bool true) ∧ w = w' := by
  have hn := h.le
  have hc := h.cap
  obtain ⟨i0, hi0, hix⟩ : ∃ i, i < n ∧ xs.getD i 0 = x := by
    obtain ⟨i, hi, e⟩ := List.getElem_of_mem hx
    exact ⟨i, by rw [← h.len]; exact hi, by rw [getD_idx hi]; exact e⟩
  have HX := Lib.hid hix
  clear hx hix
  go_enter Try.func24, Try.ntmps24
  go_wp2
  go_loop [5] (fun i => ∃ k : Nat, k ≤ i0 ∧ i = .int .i64 k) (fun i => n - (intOf i).toNat)
  case atStart => exact ⟨0, Nat.zero_le _, rfl⟩
  case round =>
    obtain ⟨k, hk, rfl⟩ := hrel
    have hlt : k < n := by omega
    obtain ⟨b, o, z, rfl, hb, hz, hz64, hcx⟩ := h.get hlt
    have HH := Lib.hid h
    clear h
    by_cases hzx : z = x
    · have hb' : (z == x) = true := by simp [hzx]
      clear hzx
      go_wp2
      go_ret
      exact ⟨rfl, rfl⟩
    · have hb' : (z == x) = false := by simp [hzx]
      have hne : k ≠ i0 := fun e => hzx (by rw [← hz.out, e]; exact HX.out)
      have hk1 : k + 1 ≤ i0 := by omega
      clear hzx hne
      go_wp2
      go_round
      case rel => exact ⟨k + 1, hk1, by go_num⟩
      case measure => simp [intOf]; omega

set_option maxHeartbeats 400000 in
theorem in_no (w : World) (B : Nat) (A : Option Addr) (n c : Nat) (xs : List Int) (x : Int) (h : IS w B A n c xs) (hx : x ∉ xs) :
    Calls Try.prog 24 #[.slice A n c, .int .i64 x] w fun e w' => e = .returned (.bool false) ∧ w = w' := by
  have hn := h.le
  have hc := h.cap
  have HX := Lib.hid hx
  clear hx
  go_enter Try.func24, Try.ntmps24
  go_wp2
  go_loop [5] (fun i => ∃ k : Nat, k ≤ n ∧ i = .int .i64 k) (fun i => n - (intOf i).toNat)
  case atStart => exact ⟨0, Nat.zero_le _, rfl⟩
  case round =>
    obtain ⟨k, hk, rfl⟩ := hrel
    by_cases hlt : k < n
    · obtain ⟨b, o, z, rfl, hb, hz, hz64, hcx⟩ := h.get hlt
      have hm := h.mem hlt
      rw [hz.out] at hm
      have hb' : (z == x) = false := beq_eq_false_iff_ne.2 fun e => HX.out (e ▸ hm)
      have HH := Lib.hid h
      clear h hm
      go_wp2
      go_round
      case rel => exact ⟨k + 1, hlt, by go_num⟩
      case measure => simp [intOf]; omega
    · go_wp2
      go_ret
      exact ⟨rfl, rfl⟩

theorem in_any (w : World) (B : Nat) (A : Option Addr) (n c : Nat) (xs : List Int) (x : Int) (h : IS w B A n c xs) :
    Calls Try.prog 24 #[.slice A n c, .int .i64 x] w fun e w' => e = .returned (.bool (decide (x ∈ xs))) ∧ w = w' := by
  by_cases hx : x ∈ xs
  · rw [decide_eq_true hx]; exact in_yes w B A n c xs x h hx
  · rw [decide_eq_false hx]; exact in_no w B A n c xs x h hx

/-- Where a list stops rising at place k. -/
theorem not_rises {l : List Int} {n : Int} {k : Nat} {z : Int} (hk : k < l.length) (hz : l.getD k 0 = z) (h : ¬ ((0 ≤ z ∧ z < n) ∧ (k = 0 ∨ l.getD (k - 1) 0 < z))) : ¬ Rises l n :=
  fun hr => h ((rises_snoc hk hz).1 (rises_take hr (k + 1))).2

set_option maxHeartbeats 1000000 in
theorem refRises_any (w : World) (B : Nat) (A : Option Addr) (n c : Nat) (xs : List Int) (x : Int) (h : IS w B A n c xs) :
    Calls Try.prog 72 #[.slice A n c, .int .i64 x] w fun e w' => e = .returned (.bool (decide (Rises xs x))) ∧ Drawn w w' := by
  have hn := h.le
  have hc := h.cap
  have HL := Lib.hid h.len
  go_enter Try.func72, Try.ntmps72
  go_wp2
  go_loopw [5] (fun i wr => ∃ k : Nat, k ≤ n ∧ i = .int .i64 k ∧ Rises (xs.take k) x ∧ Drawn w wr) (fun i _ => n - (intOf i).toNat)
  case atStart => exact ⟨0, Nat.zero_le _, rfl, ⟨by simp, by simp⟩, Drawn.refl w⟩
  case round =>
    obtain ⟨k, hk, rfl, hr, hd⟩ := hrel
    have HR := Lib.hid hr
    have HD := Lib.hid hd
    clear hr hd
    by_cases hlt : k < n
    · obtain ⟨b, o, z, rfl, hb, hz, hz64, hcx⟩ := (h.below (HD.out.below B)).get hlt
      have hkl : Hid (k < xs.length) := Lib.hid (by rw [HL.out]; exact hlt)
      by_cases h0 : z < 0
      · have d0 : decide (z < 0) = true := by simp [h0]
        have HH := Lib.hid h
        have HN := Lib.hid (not_rises (n := x) hkl.out hz.out (by omega))
        clear h
        go_wp2
        go_quiet (fail)
        go_wp2
        go_ret
        exact ⟨ret_bool (decide_eq_false HN.out).symm, HD.out.add _⟩
      · have d0 : decide (z < 0) = false := by simp; omega
        by_cases h1 : x ≤ z
        · have d1 : decide (x ≤ z) = true := by simp [h1]
          have HH := Lib.hid h
          have HN := Lib.hid (not_rises (n := x) hkl.out hz.out (by omega))
          clear h
          go_wp2
          go_quiet (fail)
          go_wp2
          go_ret
          exact ⟨ret_bool (decide_eq_false HN.out).symm, HD.out.add _⟩
        · have d1 : decide (x ≤ z) = false := by simp; omega
          by_cases hk0 : k = 0
          · have d2 : decide ((0 : Int) < (k : Int)) = false := by simp [hk0]
            have d2' : decide (0 < k) = false := by simp [hk0]
            have HS := Lib.hid ((rises_snoc (n := x) hkl.out hz.out).2 ⟨HR.out, by omega, .inl hk0⟩)
            have HH := Lib.hid h
            clear h hk0
            go_wp2
            go_quiet (fail)
            go_wp2
            go_roundw
            case rel => exact ⟨k + 1, by omega, by go_num, HS.out, HD.out.add _⟩
            case measure => simp [intOf]; omega
          · have d2 : decide ((0 : Int) < (k : Int)) = true := by simp; omega
            have d2' : decide (0 < k) = true := by simp; omega
            obtain ⟨j, hj⟩ : ∃ j, k = j + 1 := ⟨k - 1, by omega⟩
            obtain ⟨b', o', y, hA, hb', hy, hy64, hcy⟩ := (h.below (HD.out.below B)).get (k := j) (by omega)
            injection hA with hA
            injection hA with hA1 hA2
            subst hA1
            subst hA2
            have hj2 : IntKind.i64.wrap ((k : Int) - 1) = (j : Int) := by rw [show (k : Int) - 1 = (j : Int) from by omega]; exact IntWalk.i64_in _ (by omega)
            have hjn : j < n := by omega
            have HJ := Lib.hid hj
            have HH := Lib.hid h
            have hyk : Hid (xs.getD (k - 1) 0 = y) := Lib.hid (by rw [show k - 1 = j from by omega]; exact hy.out)
            by_cases hyz : z ≤ y
            · have d3 : decide (z ≤ y) = true := by simp [hyz]
              have HN := Lib.hid (not_rises (n := x) hkl.out hz.out (by rw [hyk.out]; omega))
              clear h hj hk0
              go_wp2
              go_quiet (fail)
              go_wp2
              go_ret
              exact ⟨ret_bool (decide_eq_false HN.out).symm, HD.out.add _⟩
            · have d3 : decide (z ≤ y) = false := by simp; omega
              have HS := Lib.hid ((rises_snoc (n := x) hkl.out hz.out).2 ⟨HR.out, by omega, .inr (by rw [hyk.out]; omega)⟩)
              clear h hj hk0
              go_wp2
              go_quiet (fail)
              go_wp2
              go_roundw
              case rel => exact ⟨k + 1, by omega, by go_num, HS.out, HD.out.add _⟩
              case measure => simp [intOf]; omega
    · obtain rfl : k = n := by omega
      go_wp2
      go_ret
      exact ⟨ret_bool (decide_eq_true (by have := HR.out; rwa [List.take_of_length_le (Nat.le_of_eq HL.out)] at this)).symm, HD.out⟩

set_option maxHeartbeats 1000000 in
theorem rising_any (w : World) (B : Nat) (A : Option Addr) (n c : Nat) (xs : List Int) (x : Int) (h : IS w B A n c xs) :
    Calls Try.prog 84 #[.slice A n c, .int .i64 x] w fun e w' => e = .returned (.bool (decide (Rises xs x))) ∧ w = w' := by
  have hn := h.le
  have hc := h.cap
  have HL := Lib.hid h.len
  go_enter Try.func84, Try.ntmps84
  go_wp2
  go_loop [9] (fun i => ∃ k : Nat, k ≤ n ∧ i = .int .i64 k ∧ Rises (xs.take k) x) (fun i => n - (intOf i).toNat)
  case atStart => exact ⟨0, Nat.zero_le _, rfl, ⟨by simp, by simp⟩⟩
  case round =>
    obtain ⟨k, hk, rfl, hr⟩ := hrel
    have HR := Lib.hid hr
    clear hr
    by_cases hlt : k < n
    · obtain ⟨b, o, z, rfl, hb, hz, hz64, hcx⟩ := h.get hlt
      have hkl : Hid (k < xs.length) := Lib.hid (by rw [HL.out]; exact hlt)
      by_cases h0 : z < 0
      · have HH := Lib.hid h
        have HN := Lib.hid (not_rises (n := x) hkl.out hz.out (by omega))
        clear h
        go_wp2
        go_ret
        exact ⟨ret_bool (decide_eq_false HN.out).symm, rfl⟩
      · by_cases h1 : x ≤ z
        · have HH := Lib.hid h
          have HN := Lib.hid (not_rises (n := x) hkl.out hz.out (by omega))
          clear h
          go_wp2
          go_ret
          exact ⟨ret_bool (decide_eq_false HN.out).symm, rfl⟩
        · by_cases hk0 : k = 0
          · have d2 : decide ((0 : Int) < (k : Int)) = false := by simp [hk0]
            have d2' : decide (0 < k) = false := by simp [hk0]
            have hk1 : ¬ 0 < k := by omega
            have HS := Lib.hid ((rises_snoc (n := x) hkl.out hz.out).2 ⟨HR.out, by omega, .inl hk0⟩)
            have HH := Lib.hid h
            clear h hk0
            go_wp2
            go_round
            case rel => exact ⟨k + 1, by omega, by go_num, HS.out⟩
            case measure => simp [intOf]; omega
          · obtain ⟨j, rfl⟩ : ∃ j, k = j + 1 := ⟨k - 1, by omega⟩
            obtain ⟨b', o', y, hA, hb', hy, hy64, hcy⟩ := h.get (k := j) (by omega)
            injection hA with hA
            injection hA with hA1 hA2
            subst hA1
            subst hA2
            have HH := Lib.hid h
            have hyk : Hid (xs.getD (j + 1 - 1) 0 = y) := hy
            by_cases hyz : z ≤ y
            · have HN := Lib.hid (not_rises (n := x) hkl.out hz.out (by rw [hyk.out]; omega))
              clear h hk0
              go_wp2
              go_ret
              exact ⟨ret_bool (decide_eq_false HN.out).symm, rfl⟩
            · have HS := Lib.hid ((rises_snoc (n := x) hkl.out hz.out).2 ⟨HR.out, by omega, .inr (by rw [hyk.out]; omega)⟩)
              clear h hk0
              go_wp2
              go_round
              case rel => exact ⟨j + 2, by omega, by go_num, HS.out⟩
              case measure => simp [intOf]; omega
    · obtain rfl : k = n := by omega
      go_wp2
      go_ret
      exact ⟨ret_bool (decide_eq_true (by have := HR.out; rwa [List.take_of_length_le (Nat.le_of_eq HL.out)] at this)).symm, rfl⟩

end Go.Proofs.Ythobfbnopkbniaa
end

section
namespace Go.Proofs.Ythobfbnopkbniaa
open Go.RowKit

theorem gRight_neg {N : Int} {es : List (Int × Int)} (h : N < 0) : gRight N es = 3 := by unfold gRight; rw [if_pos h]
theorem gRight_large {N : Int} {es : List (Int × Int)} (h0 : ¬ N < 0) (h : 1024 < N + es.length) : gRight N es = 2 := by unfold gRight; rw [if_neg h0, if_pos h]
theorem gRight_bad {N : Int} {es : List (Int × Int)} {k : Nat} {e : Int × Int} (h0 : ¬ N < 0) (h1 : ¬ 1024 < N + es.length) (hk : k < es.length) (he : es.getD k (0, 0) = e) (hb : ¬ EIn N e) : gRight N es = 3 := by
  unfold gRight
  rw [if_neg h0, if_neg h1, if_neg]
  intro h
  rw [List.getD_eq_getElem?_getD, List.getElem?_eq_getElem hk] at he
  exact hb (he ▸ h _ (List.getElem_mem hk))
theorem gRight_fine {N : Int} {es : List (Int × Int)} (h0 : ¬ N < 0) (h1 : ¬ 1024 < N + es.length) (h : ∀ k, k < es.length → EIn N (es.getD k (0, 0))) : gRight N es = 0 := by
  unfold gRight
  rw [if_neg h0, if_neg h1, if_pos]
  intro e he
  obtain ⟨k, hk, rfl⟩ := List.getElem_of_mem he
  have := h k hk
  rwa [List.getD_eq_getElem?_getD, List.getElem?_eq_getElem hk] at this

set_option maxHeartbeats 2000000 in
set_option maxRecDepth 100000 in
theorem refRight_any (w : World) (B : Nat) (N : Int) (A : Option Addr) (m c : Nat) (es : List (Int × Int)) (hg : ES w B A m c es) (hB : B ≤ w.heap.size) (hN : I64 N) :
    Calls Try.prog 71 #[.agg #[.int .i64 N, .slice A m c]] w fun e w' => e = .returned (.int .i64 (gRight N es)) ∧ Below w.heap.size w w' := by
  have hm := hg.le
  have hc := hg.cap
  have HL := Lib.hid hg.len
  have hN0 := hN.1
  have hN1 := hN.2
  obtain ⟨w1, hw1, b1, hs1, hcell⟩ := box_one w #[.int .i64 N, .slice A m c] 24
  have c0 : w1.cell? ⟨w.heap.size, 0, none⟩ = some (.int .i64 N) := hcell 0
  have c1 : w1.cell? ⟨w.heap.size, 1, none⟩ = some (.slice A m c) := hcell 1
  have hg1 := hg.below (b1.mono hB)
  clear hcell
  by_cases h0 : N < 0
  · go_enter Try.func71, Try.ntmps71
    go_wp2
    go_ret
    exact ⟨ret_int (gRight_neg h0).symm, b1⟩
  by_cases h1 : 1024 < N
  · go_enter Try.func71, Try.ntmps71
    go_wp2
    go_ret
    exact ⟨ret_int (gRight_large (by omega) (by omega)).symm, b1⟩
  by_cases h2 : 1024 < m
  · go_enter Try.func71, Try.ntmps71
    go_wp2
    go_ret
    exact ⟨ret_int (gRight_large (by omega) (by have := HL.out; omega)).symm, b1⟩
  by_cases h3 : 1024 < N + m
  · go_enter Try.func71, Try.ntmps71
    go_wp2
    go_ret
    exact ⟨ret_int (gRight_large (by omega) (by have := HL.out; omega)).symm, b1⟩
  have H3 := Lib.hid h3
  go_enter Try.func71, Try.ntmps71
  go_wp2
  clear hw1
  go_loopw [3] (fun i wr => ∃ k : Nat, k ≤ m ∧ i = .int .i64 k ∧ (∀ j, j < k → EIn N (es.getD j (0, 0))) ∧ Drawn w1 wr) (fun i _ => m - (intOf i).toNat)
  case atStart => exact ⟨0, Nat.zero_le _, rfl, fun j hj => absurd hj (by omega), Drawn.refl _⟩
  case round =>
    obtain ⟨k, hk, rfl, hj, n0, rfl⟩ := hrel
    have HJ := Lib.hid hj
    clear hj
    have hbl : Hid (Below w.heap.size w (w1.drewN n0)) := Lib.hid (b1.trans ((Drawn.of w1 n0).below _))
    by_cases hlt : k < m
    · obtain ⟨b, o, x, y, rfl, hb, he, hx64, hy64, hcx, hcy⟩ := hg1.get hlt
      have hkl : Hid (k < es.length) := Lib.hid (by rw [HL.out]; exact hlt)
      have HH := Lib.hid hg
      have HG := Lib.hid hg1
      clear hg hg1
      have bad : Hid (¬ EIn N (x, y) → gRight N es = 3) := Lib.hid (gRight_bad (by omega) (by have := HL.out; have := H3.out; omega) hkl.out he.out)
      by_cases k1 : x < 0
      · have d1 : decide (x < 0) = true := by simp [k1]
        go_wp2
        go_quiet (fail)
        go_wp2
        go_ret
        exact ⟨ret_int (bad.out fun h => by have := h.1; simp only at this; omega).symm, hbl.out.trans ((Drawn.of _ nq).below _)⟩
      have d1 : decide (x < 0) = false := by simp; omega
      by_cases k2 : N ≤ x
      · have d2 : decide (N ≤ x) = true := by simp [k2]
        go_wp2
        go_quiet (fail)
        go_wp2
        go_ret
        exact ⟨ret_int (bad.out fun h => by have := h.2.1; simp only at this; omega).symm, hbl.out.trans ((Drawn.of _ nq).below _)⟩
      have d2 : decide (N ≤ x) = false := by simp; omega
      by_cases k3 : y < 0
      · have d3 : decide (y < 0) = true := by simp [k3]
        go_wp2
        go_quiet (fail)
        go_wp2
        go_ret
        exact ⟨ret_int (bad.out fun h => by have := h.2.2.1; simp only at this; omega).symm, hbl.out.trans ((Drawn.of _ nq).below _)⟩
      have d3 : decide (y < 0) = false := by simp; omega
      by_cases k4 : N ≤ y
      · have d4 : decide (N ≤ y) = true := by simp [k4]
        go_wp2
        go_quiet (fail)
        go_wp2
        go_ret
        exact ⟨ret_int (bad.out fun h => by have := h.2.2.2; simp only at this; omega).symm, hbl.out.trans ((Drawn.of _ nq).below _)⟩
      have d4 : decide (N ≤ y) = false := by simp; omega
      go_wp2
      go_quiet (fail)
      go_wp2
      go_roundw
      case rel =>
        refine ⟨k + 1, by omega, by go_num, fun j hj => ?_, Drawn.of w1 _⟩
        rcases Nat.lt_or_ge j k with hjk | hjk
        · exact HJ.out j hjk
        · obtain rfl : j = k := by omega
          rw [he.out]
          exact ⟨by simp only; omega, by simp only; omega, by simp only; omega, by simp only; omega⟩
      case measure => simp [intOf]; omega
    · obtain rfl : k = m := by omega
      go_wp2
      go_ret
      exact ⟨ret_int (gRight_fine (by omega) (by have := HL.out; have := H3.out; omega) fun j hj => HJ.out j (by rw [← HL.out]; exact hj)).symm, hbl.out⟩

end Go.Proofs.Ythobfbnopkbniaa
end

section
namespace Go.Proofs.Ythobfbnopkbniaa
open Go.RowKit

theorem quiet_in {W : World} {B : Nat} {A : Option Addr} {n c : Nat} {xs : List Int} {x : Int} {v : Bool} (h : IS W B A n c xs) (hv : decide (x ∈ xs) = v) :
    Calls Try.prog 24 #[.slice A n c, .int .i64 x] W fun e w' => e = .returned (.bool v) ∧ ∃ m, w' = W.drewN m :=
  (in_any W B A n c xs x h).mono fun e w' ⟨he, hw⟩ => ⟨by rw [he, hv], 0, hw.symm⟩

theorem pRight_graph {N : Int} {es : List (Int × Int)} {vs xs : List Int} (h : gRight N es ≠ 0) : pRight N es vs xs = gRight N es := by unfold pRight; rw [if_pos h]
theorem pRight_lists {N : Int} {es : List (Int × Int)} {vs xs : List Int} (h : gRight N es = 0) (hr : ¬ (Rises vs N ∧ Rises xs es.length)) : pRight N es vs xs = 4 := by
  unfold pRight; rw [if_neg (by simp [h]), if_pos hr]
theorem pRight_ends {N : Int} {es : List (Int × Int)} {vs xs : List Int} (h : gRight N es = 0) (h1 : Rises vs N) (h2 : Rises xs es.length) {k : Nat} (hk : k < xs.length) (hb : ¬ EndsIn es vs (xs.getD k 0)) : pRight N es vs xs = 4 := by
  unfold pRight
  rw [if_neg (by simp [h]), if_neg fun hn => hn ⟨h1, h2⟩, if_neg]
  intro ha
  exact hb (ha _ (by rw [getD_idx hk]; exact List.getElem_mem hk))
theorem pRight_fine {N : Int} {es : List (Int × Int)} {vs xs : List Int} (h : gRight N es = 0) (h1 : Rises vs N) (h2 : Rises xs es.length) (hb : ∀ k, k < xs.length → EndsIn es vs (xs.getD k 0)) : pRight N es vs xs = 0 := by
  unfold pRight
  rw [if_neg (by simp [h]), if_neg fun hn => hn ⟨h1, h2⟩, if_pos]
  intro x hx
  obtain ⟨k, hk, rfl⟩ := List.getElem_of_mem hx
  have := hb k hk
  rwa [getD_idx hk] at this

set_option maxHeartbeats 4000000 in
set_option maxRecDepth 100000 in
theorem refRightPart_any (w : World) (N : Int) (A : Option Addr) (m c : Nat) (es : List (Int × Int)) (Av : Option Addr) (nv cv : Nat) (vs : List Int) (Ae : Option Addr) (ne ce : Nat) (xs : List Int) (h : GP w N A m c es Av nv cv vs Ae ne ce xs) :
    Calls Try.prog 28 #[.agg #[.int .i64 N, .slice A m c], .agg #[.slice Av nv cv, .slice Ae ne ce]] w fun e w' => e = .returned (.int .i64 (pRight N es vs xs)) ∧ Below w.heap.size w w' := by
  have hm := h.g.le
  have hc := h.g.cap
  have HL := Lib.hid h.g.len
  have HLV := Lib.hid h.v.len
  have HLE := Lib.hid h.e.len
  have hnv := h.v.le
  have hcv := h.v.cap
  have hne := h.e.le
  have hce := h.e.cap
  obtain ⟨w1, hw1, b1, gb1⟩ := box_gp w N A m c es Av nv cv Ae ne ce
  have h1 := h.step b1
  have ⟨_, _, c0, c1, c2, c3, _⟩ := gb1
  obtain ⟨r, hr⟩ : ∃ r, gRight N es = r := ⟨_, rfl⟩
  have HR := Lib.hid hr
  by_cases hr0 : r = 0
  · have hrb : (r != 0) = false := by simp [hr0]
    have HR0 := Lib.hid (hr.trans hr0)
    clear hr0
    by_cases hv : Rises vs N
    · by_cases he : Rises xs es.length
      · have HV := Lib.hid hv
        have HE := Lib.hid he
        have dv := decide_eq_true hv
        have de := decide_eq_true he
        rw [HL.out] at de
        have DV := Lib.hid dv
        have DE := Lib.hid de
        clear dv de hv he
        go_enter Try.func28, Try.ntmps28
        go_wp2_with fail
        clear hr
        refine (refRight_any w1 _ N A m c es h1.g (Nat.le_refl _) h1.n).mono ?_
        rintro e w2 ⟨rfl, b2⟩
        rw [HR.out]
        have h2 := h1.step b2
        have gb2 := gb1.step b2
        replace b1 := bstep b1 b2
        clear hw1 h1 c0 c1 c2 c3 gb1 b2
        have ⟨_, _, c0, c1, c2, c3, _⟩ := gb2
        go_wp2_with fail
        refine (refRises_any w2 _ Av nv cv vs N h2.v).mono ?_
        rintro e w3 ⟨rfl, d3⟩
        rw [DV.out]
        have b3 := d3.below w2.heap.size
        have h3 := h2.step b3
        have gb3 := gb2.step b3
        replace b1 := bstep b1 b3
        clear h2 c0 c1 c2 c3 gb2 b3 d3
        have ⟨_, _, c0, c1, c2, c3, _⟩ := gb3
        go_wp2_with fail
        refine (refRises_any w3 _ Ae ne ce xs m h3.e).mono ?_
        rintro e w4 ⟨rfl, d4⟩
        rw [DE.out]
        have b4 := d4.below w3.heap.size
        have h4 := h3.step b4
        have gb4 := gb3.step b4
        replace b1 := bstep b1 b4
        clear h3 c0 c1 c2 c3 gb3 b4 d4
        have ⟨_, _, c0, c1, c2, c3, _⟩ := gb4
        go_wp2
        go_loopw [6] (fun i wr => ∃ k : Nat, k ≤ ne ∧ i = .int .i64 k ∧ (∀ j, j < k → EndsIn es vs (xs.getD j 0)) ∧ Drawn w4 wr) (fun i _ => ne - (intOf i).toNat)
        case atStart => exact ⟨0, Nat.zero_le _, rfl, fun j hj => absurd hj (by omega), Drawn.refl _⟩
        case round =>
          obtain ⟨k, hk, rfl, hj, hd⟩ := hrel
          have HJ := Lib.hid hj
          have hbl := Lib.hid (b1.trans (hd.below _))
          replace h4 := h4.step (hd.below _)
          have gb5 := gb4.step (hd.below _)
          have HD := Lib.hid hd
          clear hj c0 c1 c2 c3 gb4 hd
          have ⟨_, _, c0, c1, c2, c3, _⟩ := gb5
          clear gb5
          by_cases hlt : k < ne
          · obtain ⟨be, oe, z, rfl, hbe, hz, hz64, hcz⟩ := h4.e.get hlt
            have hkl : Hid (k < xs.length) := Lib.hid (by rw [HLE.out]; exact hlt)
            have hzr := HE.out.1 z (hz.out ▸ h4.e.mem hlt)
            obtain ⟨q, rfl⟩ := Int.eq_ofNat_of_zero_le hzr.1
            have hqm : q < m := by have := hzr.2; have := HL.out; omega
            clear hzr
            obtain ⟨b, o, x, y, rfl, hb, hxy, hx64, hy64, hcx, hcy⟩ := h4.g.get hqm
            have hen : Hid (ends es ((xs.getD k 0)) = (x, y)) := Lib.hid (by rw [hz.out]; exact hxy.out)
            have hq0 : (0 : Int) ≤ (q : Int) := by omega
            have hq1 : (q : Int) < (m : Int) := by omega
            have HH := Lib.hid h4
            have HO := Lib.hid h
            clear h4 h
            by_cases hx : x ∈ vs
            · have DX := Lib.hid (decide_eq_true hx)
              by_cases hy : y ∈ vs
              · have DY := Lib.hid (decide_eq_true hy)
                have hst : Hid (EndsIn es vs (xs.getD k 0)) := Lib.hid (by unfold EndsIn; rw [hen.out]; exact ⟨hx, hy⟩)
                clear hx hy
                go_wp2
                go_quiet ((go_at_call 24; first | exact Calls.quiet_of (quiet_in (HH.out.v.drewN _) DX.out) | exact Calls.quiet_of (quiet_in (HH.out.v.drewN _) DY.out)))
                go_wp2
                go_roundw
                case rel =>
                  refine ⟨k + 1, by omega, by go_num, fun j hj => ?_, HD.out.add _⟩
                  rcases Nat.lt_or_ge j k with hjk | hjk
                  · exact HJ.out j hjk
                  · obtain rfl : j = k := by omega
                    exact hst.out
                case measure => simp [intOf]; omega
              · have DY := Lib.hid (decide_eq_false hy)
                have hst : Hid (¬ EndsIn es vs (xs.getD k 0)) := Lib.hid (by unfold EndsIn; rw [hen.out]; exact fun h => hy h.2)
                clear hx hy
                go_wp2
                go_quiet ((go_at_call 24; first | exact Calls.quiet_of (quiet_in (HH.out.v.drewN _) DX.out) | exact Calls.quiet_of (quiet_in (HH.out.v.drewN _) DY.out)))
                go_wp2
                go_ret
                exact ⟨ret_int (pRight_ends HR0.out HV.out HE.out hkl.out hst.out).symm, hbl.out.trans ((Drawn.of _ nq).below _)⟩
            · have DX := Lib.hid (decide_eq_false hx)
              have hst : Hid (¬ EndsIn es vs (xs.getD k 0)) := Lib.hid (by unfold EndsIn; rw [hen.out]; exact fun h => hx h.1)
              clear hx
              go_wp2
              go_quiet ((go_at_call 24; exact Calls.quiet_of (quiet_in (HH.out.v.drewN _) DX.out)))
              go_wp2
              go_ret
              exact ⟨ret_int (pRight_ends HR0.out HV.out HE.out hkl.out hst.out).symm, hbl.out.trans ((Drawn.of _ nq).below _)⟩
          · obtain rfl : k = ne := by omega
            go_wp2
            go_ret
            exact ⟨ret_int (pRight_fine HR0.out HV.out HE.out fun j hj => HJ.out j (by rw [← HLE.out]; exact hj)).symm, hbl.out⟩
      · have HV := Lib.hid hv
        have DV := Lib.hid (decide_eq_true hv)
        have de := decide_eq_false he
        rw [HL.out] at de
        have DE := Lib.hid de
        have hp : Hid (pRight N es vs xs = 4) := Lib.hid (pRight_lists HR0.out fun hh => he hh.2)
        clear de hv he
        go_enter Try.func28, Try.ntmps28
        go_wp2_with fail
        clear hr
        refine (refRight_any w1 _ N A m c es h1.g (Nat.le_refl _) h1.n).mono ?_
        rintro e w2 ⟨rfl, b2⟩
        rw [HR.out]
        have h2 := h1.step b2
        have gb2 := gb1.step b2
        replace b1 := bstep b1 b2
        clear hw1 h1 c0 c1 c2 c3 gb1 b2
        have ⟨_, _, c0, c1, c2, c3, _⟩ := gb2
        go_wp2_with fail
        refine (refRises_any w2 _ Av nv cv vs N h2.v).mono ?_
        rintro e w3 ⟨rfl, d3⟩
        rw [DV.out]
        have b3 := d3.below w2.heap.size
        have h3 := h2.step b3
        have gb3 := gb2.step b3
        replace b1 := bstep b1 b3
        clear h2 c0 c1 c2 c3 gb2 b3 d3
        have ⟨_, _, c0, c1, c2, c3, _⟩ := gb3
        go_wp2_with fail
        refine (refRises_any w3 _ Ae ne ce xs m h3.e).mono ?_
        rintro e w4 ⟨rfl, d4⟩
        rw [DE.out]
        go_wp2
        go_ret
        exact ⟨ret_int hp.out.symm, bstep b1 (d4.below _)⟩
    · have DV := Lib.hid (decide_eq_false hv)
      have hp : Hid (pRight N es vs xs = 4) := Lib.hid (pRight_lists HR0.out fun hh => hv hh.1)
      clear hv
      go_enter Try.func28, Try.ntmps28
      go_wp2_with fail
      clear hr
      refine (refRight_any w1 _ N A m c es h1.g (Nat.le_refl _) h1.n).mono ?_
      rintro e w2 ⟨rfl, b2⟩
      rw [HR.out]
      have h2 := h1.step b2
      have gb2 := gb1.step b2
      replace b1 := bstep b1 b2
      clear hw1 h1 c0 c1 c2 c3 gb1 b2
      have ⟨_, _, c0, c1, c2, c3, _⟩ := gb2
      go_wp2_with fail
      refine (refRises_any w2 _ Av nv cv vs N h2.v).mono ?_
      rintro e w3 ⟨rfl, d3⟩
      rw [DV.out]
      go_wp2
      go_ret
      exact ⟨ret_int hp.out.symm, bstep b1 (d3.below _)⟩
  · have hrb : (r != 0) = true := by simp [hr0]
    have hp : Hid (pRight N es vs xs = r) := Lib.hid ((pRight_graph (by rw [hr]; exact hr0)).trans hr)
    clear hr0
    go_enter Try.func28, Try.ntmps28
    go_wp2_with fail
    clear hr
    refine (refRight_any w1 _ N A m c es h1.g (Nat.le_refl _) h1.n).mono ?_
    rintro e w2 ⟨rfl, b2⟩
    rw [HR.out]
    go_wp2
    go_ret
    exact ⟨ret_int hp.out.symm, bstep b1 b2⟩

end Go.Proofs.Ythobfbnopkbniaa
end

section
namespace Go.Proofs.Ythobfbnopkbniaa
open Go.RowKit

set_option maxHeartbeats 2000000 in
set_option maxRecDepth 100000 in
theorem gRight_any (w : World) (B : Nat) (N : Int) (A : Option Addr) (m c : Nat) (es : List (Int × Int)) (hg : ES w B A m c es) (hB : B ≤ w.heap.size) (hN : I64 N) :
    Calls Try.prog 83 #[.agg #[.int .i64 N, .slice A m c]] w fun e w' => e = .returned (.int .i64 (gRight N es)) ∧ Below w.heap.size w w' := by
  have hm := hg.le
  have hc := hg.cap
  have HL := Lib.hid hg.len
  have hN0 := hN.1
  have hN1 := hN.2
  obtain ⟨w1, hw1, b1, hs1, hcell⟩ := box_one w #[.int .i64 N, .slice A m c] 24
  have c0 : w1.cell? ⟨w.heap.size, 0, none⟩ = some (.int .i64 N) := hcell 0
  have c1 : w1.cell? ⟨w.heap.size, 1, none⟩ = some (.slice A m c) := hcell 1
  have hg1 := hg.below (b1.mono hB)
  clear hcell
  by_cases h0 : N < 0
  · go_enter Try.func83, Try.ntmps83
    go_wp2
    go_ret
    exact ⟨ret_int (gRight_neg h0).symm, b1⟩
  by_cases h1 : 1024 < N
  · go_enter Try.func83, Try.ntmps83
    go_wp2
    go_ret
    exact ⟨ret_int (gRight_large (by omega) (by omega)).symm, b1⟩
  by_cases h3 : 1024 - N < m
  · go_enter Try.func83, Try.ntmps83
    go_wp2
    go_ret
    exact ⟨ret_int (gRight_large (by omega) (by have := HL.out; omega)).symm, b1⟩
  have H3 := Lib.hid h3
  have hmm : m ≤ 1024 := by omega
  go_enter Try.func83, Try.ntmps83
  go_wp2
  clear hw1
  go_loopw [23] (fun i wr => ∃ k : Nat, k ≤ m ∧ i = .int .i64 k ∧ (∀ j, j < k → EIn N (es.getD j (0, 0))) ∧ Below w1.heap.size w1 wr) (fun i _ => m - (intOf i).toNat)
  case atStart => exact ⟨0, Nat.zero_le _, rfl, fun j hj => absurd hj (by omega), Below.refl _ _⟩
  case round =>
    obtain ⟨k, hk, rfl, hj, hb2⟩ := hrel
    have HJ := Lib.hid hj
    clear hj
    by_cases hlt : k < m
    · obtain ⟨b, o, x, y, rfl, hb, he, hx64, hy64, hcx, hcy⟩ := (hg1.below (hb2.mono (Nat.le_trans hB (Nat.le_of_lt hs1)))).get hlt
      have d0 : wr.cell? ⟨w.heap.size, 0, none⟩ = some (.int .i64 N) := (hb2.cell (p := ⟨w.heap.size, 0, none⟩) hs1).trans c0
      have hkl : Hid (k < es.length) := Lib.hid (by rw [HL.out]; exact hlt)
      have HH := Lib.hid hg
      have HG := Lib.hid hg1
      clear hg hg1
      have hsz : w1.heap.size ≤ wr.heap.size := hb2.size
      obtain ⟨w2, hw2, b2, hs2, hcell2⟩ := box_one wr #[.int .i64 x, .int .i64 y] 86
      have e0 : w2.cell? ⟨wr.heap.size, 0, none⟩ = some (.int .i64 x) := hcell2 0
      have e1 : w2.cell? ⟨wr.heap.size, 1, none⟩ = some (.int .i64 y) := hcell2 1
      have e2 : w2.cell? ⟨w.heap.size, 0, none⟩ = some (.int .i64 N) := (b2.cell (p := ⟨w.heap.size, 0, none⟩) (Nat.lt_of_lt_of_le hs1 hsz)).trans d0
      have hbl : Hid (Below w.heap.size w w2) := Lib.hid ((b1.trans (hb2.mono (Nat.le_of_lt hs1))).trans (b2.mono (Nat.le_of_lt (Nat.lt_of_lt_of_le hs1 hsz))))
      have hbl2 : Hid (Below w1.heap.size w1 w2) := Lib.hid (hb2.trans (b2.mono hsz))
      have bad : Hid (¬ EIn N (x, y) → gRight N es = 3) := Lib.hid (gRight_bad (by omega) (by have := HL.out; have := H3.out; omega) hkl.out he.out)
      clear hcell2 b2 hb2
      by_cases k1 : x < 0
      · go_wp2
        go_ret
        exact ⟨ret_int (bad.out fun h => by have := h.1; simp only at this; omega).symm, hbl.out⟩
      by_cases k2 : N ≤ x
      · go_wp2
        go_ret
        exact ⟨ret_int (bad.out fun h => by have := h.2.1; simp only at this; omega).symm, hbl.out⟩
      by_cases k3 : y < 0
      · go_wp2
        go_ret
        exact ⟨ret_int (bad.out fun h => by have := h.2.2.1; simp only at this; omega).symm, hbl.out⟩
      by_cases k4 : N ≤ y
      · go_wp2
        go_ret
        exact ⟨ret_int (bad.out fun h => by have := h.2.2.2; simp only at this; omega).symm, hbl.out⟩
      go_wp2
      go_roundw
      case rel =>
        refine ⟨k + 1, by omega, by go_num, fun j hj => ?_, hbl2.out⟩
        rcases Nat.lt_or_ge j k with hjk | hjk
        · exact HJ.out j hjk
        · obtain rfl : j = k := by omega
          rw [he.out]
          exact ⟨by simp only; omega, by simp only; omega, by simp only; omega, by simp only; omega⟩
      case measure => simp [intOf]; omega
    · obtain rfl : k = m := by omega
      go_wp2
      go_ret
      exact ⟨ret_int (gRight_fine (by omega) (by have := HL.out; have := H3.out; omega) fun j hj => HJ.out j (by rw [← HL.out]; exact hj)).symm, b1.trans (hb2.mono (Nat.le_of_lt hs1))⟩

end Go.Proofs.Ythobfbnopkbniaa
end

section
namespace Go.Proofs.Ythobfbnopkbniaa
open Go.RowKit

theorem cmpNaN_any (w : World) (x : Int) : Calls Try.prog 96 #[.int .i64 x] w fun e w' => e = .returned (.bool false) ∧ w = w' := by
  have hx : (x != x) = false := by simp
  go_enter Try.func96, Try.ntmps96
  go_wp2
  go_ret
  exact ⟨rfl, rfl⟩
theorem slicesNaN_any (w : World) (x : Int) : Calls Try.prog 93 #[.int .i64 x] w fun e w' => e = .returned (.bool false) ∧ w = w' := by
  have hx : (x != x) = false := by simp
  go_enter Try.func93, Try.ntmps93
  go_wp2
  go_ret
  exact ⟨rfl, rfl⟩
theorem less_any (w : World) (x y : Int) : Calls Try.prog 92 #[.int .i64 x, .int .i64 y] w fun e w' => e = .returned (.bool (decide (x < y))) ∧ w = w' := by
  go_enter Try.func92, Try.ntmps92
  go_wp2_with (go_at_call 96; refine (cmpNaN_any _ _).mono ?_; rintro e w' ⟨rfl, rfl⟩)
  go_ret
  exact ⟨rfl, rfl⟩

theorem sorted_lt {xs : List Int} (hp : xs.Pairwise (· < ·)) {i j : Nat} (hij : i < j) (hj : j < xs.length) : xs.getD i 0 < xs.getD j 0 := by
  have := List.pairwise_iff_getElem.1 hp i j (by omega) hj hij
  rwa [getD_idx (by omega), getD_idx hj]

set_option maxHeartbeats 4000000 in
set_option maxRecDepth 1000000 in
theorem bsearch_any (w : World) (B : Nat) (A : Option Addr) (n c : Nat) (xs : List Int) (x : Int) (h : IS w B A n c xs) (hs : n ≤ 1000000) (hp : xs.Pairwise (· < ·)) :
    Calls Try.prog 86 #[.slice A n c, .int .i64 x] w fun e w' => (∃ i : Int, e = .returned (.tuple #[.int .i64 i, .bool (decide (x ∈ xs))])) ∧ w = w' := by
  have hn := h.le
  have hc := h.cap
  have HL := Lib.hid h.len
  have HP := Lib.hid hp
  clear hp
  go_enter Try.func86, Try.ntmps86
  go_wp2
  go_loop [7, 8] (fun i j => ∃ a b : Nat, a ≤ b ∧ b ≤ n ∧ i = .int .i64 a ∧ j = .int .i64 b ∧ (∀ q, q < a → xs.getD q 0 < x) ∧ (∀ q, b ≤ q → q < n → x ≤ xs.getD q 0)) (fun i j => (intOf j).toNat - (intOf i).toNat)
  case atStart => exact ⟨0, n, Nat.zero_le _, Nat.le_refl _, rfl, rfl, fun q hq => absurd hq (by omega), fun q h1 h2 => absurd h2 (by omega)⟩
  case round =>
    obtain ⟨lo, hi, hab, hbn, rfl, rfl, h1, h2⟩ := hrel
    have H1 := Lib.hid h1
    have H2 := Lib.hid h2
    clear h1 h2
    by_cases hlt : lo < hi
    · have hmn : (lo + hi) / 2 < n := by omega
      obtain ⟨b, o, y, rfl, hb, hy, hy64, hcy⟩ := h.get hmn
      have HH := Lib.hid h
      clear h
      by_cases hyx : y < x
      · go_wp2_with (go_at_call 92; refine (less_any _ _ _).mono ?_; rintro e w' ⟨rfl, rfl⟩)
        go_round
        case rel =>
          refine ⟨(lo + hi) / 2 + 1, hi, by omega, hbn, by rw [show ((lo : Int) + (hi : Int)) / 2 + 1 = (((lo + hi) / 2 + 1 : Nat) : Int) by omega], rfl, fun q hq => ?_, H2.out⟩
          rcases Nat.lt_or_ge q ((lo + hi) / 2) with hq' | hq'
          · have := sorted_lt HP.out hq' (by rw [HL.out]; exact hmn)
            rw [hy.out] at this
            omega
          · obtain rfl : q = (lo + hi) / 2 := by omega
            rw [hy.out]; exact hyx
        case measure => simp [intOf]; omega
      · go_wp2_with (go_at_call 92; refine (less_any _ _ _).mono ?_; rintro e w' ⟨rfl, rfl⟩)
        go_round
        case rel =>
          refine ⟨lo, (lo + hi) / 2, by omega, by omega, rfl, by rw [show ((lo : Int) + (hi : Int)) / 2 = (((lo + hi) / 2 : Nat) : Int) by omega], H1.out, fun q hq hqn => ?_⟩
          rcases Nat.lt_or_ge ((lo + hi) / 2) q with hq' | hq'
          · have := sorted_lt HP.out hq' (by rw [HL.out]; exact hqn)
            rw [hy.out] at this
            omega
          · obtain rfl : q = (lo + hi) / 2 := by omega
            rw [hy.out]; omega
        case measure => simp [intOf]; omega
    · obtain rfl : hi = lo := by omega
      by_cases hin : hi < n
      · obtain ⟨b, o, y, rfl, hb, hy, hy64, hcy⟩ := h.get hin
        have hmem : Hid (y ∈ xs) := Lib.hid (hy.out ▸ h.mem hin)
        have HH := Lib.hid h
        clear h
        by_cases hyx : y = x
        · have hyx' : (y == x) = true := by simp [hyx]
          have hd : Hid (decide (x ∈ xs) = true) := Lib.hid (decide_eq_true (hyx ▸ hmem.out))
          have HX := Lib.hid hyx
          clear hyx
          go_wp2_with (go_at_call 93; refine (slicesNaN_any _ _).mono ?_; rintro e w' ⟨rfl, rfl⟩)
          go_ret2
          refine ⟨⟨(hi : Int), ?_⟩, rfl⟩
          rw [hd.out]
          rfl
        · have hyx' : (y == x) = false := by simp [hyx]
          have hd : Hid (decide (x ∈ xs) = false) := Lib.hid (decide_eq_false fun hm => by
            obtain ⟨q, hq, e⟩ := List.getElem_of_mem hm
            rw [← getD_idx hq] at e
            rcases Nat.lt_trichotomy q hi with hqh | rfl | hqh
            · have := H1.out q hqh
              omega
            · exact hyx (hy.out.symm.trans e)
            · have := sorted_lt HP.out hqh hq
              have h3 := H2.out hi (Nat.le_refl _) hin
              rw [hy.out] at this h3
              omega)
          clear hyx
          go_wp2_with (go_at_call 93; refine (slicesNaN_any _ _).mono ?_; rintro e w' ⟨rfl, rfl⟩)
          go_ret2
          refine ⟨⟨(hi : Int), ?_⟩, rfl⟩
          rw [hd.out]
          rfl
      · have hd : Hid (decide (x ∈ xs) = false) := Lib.hid (decide_eq_false fun hm => by
          obtain ⟨q, hq, e⟩ := List.getElem_of_mem hm
          rw [← getD_idx hq] at e
          have := H1.out q (by have := HL.out; omega)
          omega)
        go_wp2
        go_ret2
        refine ⟨⟨(hi : Int), ?_⟩, rfl⟩
        rw [hd.out]
        rfl

theorem has_any (w : World) (B : Nat) (A : Option Addr) (n c : Nat) (xs : List Int) (x : Int) (h : IS w B A n c xs) (hs : n ≤ 1000000) (hp : xs.Pairwise (· < ·)) :
    Calls Try.prog 65 #[.slice A n c, .int .i64 x] w fun e w' => e = .returned (.bool (decide (x ∈ xs))) ∧ w = w' := by
  go_enter Try.func65, Try.ntmps65
  go_wp2_with fail
  refine (bsearch_any w B A n c xs x h hs hp).mono ?_
  rintro e w' ⟨⟨i, rfl⟩, rfl⟩
  go_wp2
  go_ret
  exact ⟨rfl, rfl⟩

end Go.Proofs.Ythobfbnopkbniaa
end

section
namespace Go.Proofs.Ythobfbnopkbniaa
open Go.RowKit

theorem quiet_has {W : World} {B : Nat} {A : Option Addr} {n c : Nat} {xs : List Int} {x : Int} {v : Bool} (h : IS W B A n c xs) (hs : n ≤ 1000000) (hp : xs.Pairwise (· < ·)) (hv : decide (x ∈ xs) = v) :
    Calls Try.prog 65 #[.slice A n c, .int .i64 x] W fun e w' => e = .returned (.bool v) ∧ ∃ m, w' = W.drewN m :=
  (has_any W B A n c xs x h hs hp).mono fun e w' ⟨he, hw⟩ => ⟨by rw [he, hv], 0, hw.symm⟩
theorem rises_len {l : List Int} {n : Int} (h : Rises l n) : l.length ≤ n.toNat := by
  have key : ∀ i, i < l.length → (i : Int) ≤ l.getD i 0 := by
    intro i
    induction i with
    | zero => intro hi; have := (h.1 (l.getD 0 0) (by rw [getD_idx hi]; exact List.getElem_mem hi)).1; simpa using this
    | succ i ih =>
      intro hi
      have h1 := ih (by omega)
      have h2 := sorted_lt h.2 (show i < i + 1 by omega) hi
      omega
  rcases Nat.eq_zero_or_pos l.length with h0 | h0
  · omega
  · have h1 := key (l.length - 1) (by omega)
    have h2 := (h.1 (l.getD (l.length - 1) 0) (by rw [getD_idx (by omega)]; exact List.getElem_mem (by omega))).2
    omega

set_option maxHeartbeats 4000000 in
set_option maxRecDepth 100000 in
theorem gRightPart_any (w : World) (N : Int) (A : Option Addr) (m c : Nat) (es : List (Int × Int)) (Av : Option Addr) (nv cv : Nat) (vs : List Int) (Ae : Option Addr) (ne ce : Nat) (xs : List Int) (h : GP w N A m c es Av nv cv vs Ae ne ce xs) :
    Calls Try.prog 62 #[.agg #[.int .i64 N, .slice A m c], .agg #[.slice Av nv cv, .slice Ae ne ce]] w fun e w' => e = .returned (.int .i64 (pRight N es vs xs)) ∧ Below w.heap.size w w' := by
  have hm := h.g.le
  have hc := h.g.cap
  have HL := Lib.hid h.g.len
  have HLV := Lib.hid h.v.len
  have HLE := Lib.hid h.e.len
  have hnv := h.v.le
  have hcv := h.v.cap
  have hne := h.e.le
  have hce := h.e.cap
  obtain ⟨w1, hw1, b1, gb1⟩ := box_gp w N A m c es Av nv cv Ae ne ce
  have h1 := h.step b1
  have ⟨_, _, c0, c1, c2, c3, _⟩ := gb1
  obtain ⟨r, hr⟩ : ∃ r, gRight N es = r := ⟨_, rfl⟩
  have HR := Lib.hid hr
  by_cases hr0 : r = 0
  · have hrb : (r != 0) = false := by simp [hr0]
    have HR0 := Lib.hid (hr.trans hr0)
    clear hr0
    by_cases hv : Rises vs N
    · by_cases he : Rises xs es.length
      · have HV := Lib.hid hv
        have HE := Lib.hid he
        have HNV : Hid (nv ≤ 1000000) := Lib.hid (by
          have h5 := rises_len hv
          have h6 := gRight_ok HR0.out
          have h7 := h.v.len
          omega)
        have dv := decide_eq_true hv
        have de := decide_eq_true he
        rw [HL.out] at de
        have DV := Lib.hid dv
        have DE := Lib.hid de
        clear dv de hv he
        go_enter Try.func62, Try.ntmps62
        go_wp2_with fail
        clear hr
        refine (gRight_any w1 _ N A m c es h1.g (Nat.le_refl _) h1.n).mono ?_
        rintro e w2 ⟨rfl, b2⟩
        rw [HR.out]
        have h2 := h1.step b2
        have gb2 := gb1.step b2
        replace b1 := bstep b1 b2
        clear hw1 h1 c0 c1 c2 c3 gb1 b2
        have ⟨_, _, c0, c1, c2, c3, _⟩ := gb2
        go_wp2_with fail
        refine (rising_any w2 _ Av nv cv vs N h2.v).mono ?_
        rintro e w3 ⟨rfl, hw3⟩
        have d3 : Drawn w2 w3 := hw3 ▸ Drawn.refl w2
        clear hw3
        rw [DV.out]
        have b3 := d3.below w2.heap.size
        have h3 := h2.step b3
        have gb3 := gb2.step b3
        replace b1 := bstep b1 b3
        clear h2 c0 c1 c2 c3 gb2 b3 d3
        have ⟨_, _, c0, c1, c2, c3, _⟩ := gb3
        go_wp2_with fail
        refine (rising_any w3 _ Ae ne ce xs m h3.e).mono ?_
        rintro e w4 ⟨rfl, hw4⟩
        have d4 : Drawn w3 w4 := hw4 ▸ Drawn.refl w3
        clear hw4
        rw [DE.out]
        have b4 := d4.below w3.heap.size
        have h4 := h3.step b4
        have gb4 := gb3.step b4
        replace b1 := bstep b1 b4
        clear h3 c0 c1 c2 c3 gb3 b4 d4
        have ⟨_, _, c0, c1, c2, c3, _⟩ := gb4
        go_wp2
        go_loopw [31] (fun i wr => ∃ k : Nat, k ≤ ne ∧ i = .int .i64 k ∧ (∀ j, j < k → EndsIn es vs (xs.getD j 0)) ∧ Drawn w4 wr) (fun i _ => ne - (intOf i).toNat)
        case atStart => exact ⟨0, Nat.zero_le _, rfl, fun j hj => absurd hj (by omega), Drawn.refl _⟩
        case round =>
          obtain ⟨k, hk, rfl, hj, hd⟩ := hrel
          have HJ := Lib.hid hj
          have hbl := Lib.hid (b1.trans (hd.below _))
          replace h4 := h4.step (hd.below _)
          have gb5 := gb4.step (hd.below _)
          have HD := Lib.hid hd
          clear hj c0 c1 c2 c3 gb4 hd
          have ⟨_, _, c0, c1, c2, c3, _⟩ := gb5
          clear gb5
          by_cases hlt : k < ne
          · obtain ⟨be, oe, z, rfl, hbe, hz, hz64, hcz⟩ := h4.e.get hlt
            have hkl : Hid (k < xs.length) := Lib.hid (by rw [HLE.out]; exact hlt)
            have hzr := HE.out.1 z (hz.out ▸ h4.e.mem hlt)
            obtain ⟨q, rfl⟩ := Int.eq_ofNat_of_zero_le hzr.1
            have hqm : q < m := by have := hzr.2; have := HL.out; omega
            clear hzr
            obtain ⟨b, o, x, y, rfl, hb, hxy, hx64, hy64, hcx, hcy⟩ := h4.g.get hqm
            have hen : Hid (ends es ((xs.getD k 0)) = (x, y)) := Lib.hid (by rw [hz.out]; exact hxy.out)
            have hq0 : (0 : Int) ≤ (q : Int) := by omega
            have hq1 : (q : Int) < (m : Int) := by omega
            have HH := Lib.hid h4
            have HO := Lib.hid h
            clear h4 h
            by_cases hx : x ∈ vs
            · have DX := Lib.hid (decide_eq_true hx)
              by_cases hy : y ∈ vs
              · have DY := Lib.hid (decide_eq_true hy)
                have hst : Hid (EndsIn es vs (xs.getD k 0)) := Lib.hid (by unfold EndsIn; rw [hen.out]; exact ⟨hx, hy⟩)
                clear hx hy
                go_wp2
                go_quiet ((go_at_call 65; first | exact Calls.quiet_of (quiet_has (HH.out.v.drewN _) HNV.out HV.out.2 DX.out) | exact Calls.quiet_of (quiet_has (HH.out.v.drewN _) HNV.out HV.out.2 DY.out)))
                go_wp2
                go_roundw
                case rel =>
                  refine ⟨k + 1, by omega, by go_num, fun j hj => ?_, HD.out.add _⟩
                  rcases Nat.lt_or_ge j k with hjk | hjk
                  · exact HJ.out j hjk
                  · obtain rfl : j = k := by omega
                    exact hst.out
                case measure => simp [intOf]; omega
              · have DY := Lib.hid (decide_eq_false hy)
                have hst : Hid (¬ EndsIn es vs (xs.getD k 0)) := Lib.hid (by unfold EndsIn; rw [hen.out]; exact fun h => hy h.2)
                clear hx hy
                go_wp2
                go_quiet ((go_at_call 65; first | exact Calls.quiet_of (quiet_has (HH.out.v.drewN _) HNV.out HV.out.2 DX.out) | exact Calls.quiet_of (quiet_has (HH.out.v.drewN _) HNV.out HV.out.2 DY.out)))
                go_wp2
                go_ret
                exact ⟨ret_int (pRight_ends HR0.out HV.out HE.out hkl.out hst.out).symm, hbl.out.trans ((Drawn.of _ nq).below _)⟩
            · have DX := Lib.hid (decide_eq_false hx)
              have hst : Hid (¬ EndsIn es vs (xs.getD k 0)) := Lib.hid (by unfold EndsIn; rw [hen.out]; exact fun h => hx h.1)
              clear hx
              go_wp2
              go_quiet ((go_at_call 65; exact Calls.quiet_of (quiet_has (HH.out.v.drewN _) HNV.out HV.out.2 DX.out)))
              go_wp2
              go_ret
              exact ⟨ret_int (pRight_ends HR0.out HV.out HE.out hkl.out hst.out).symm, hbl.out.trans ((Drawn.of _ nq).below _)⟩
          · obtain rfl : k = ne := by omega
            go_wp2
            go_ret
            exact ⟨ret_int (pRight_fine HR0.out HV.out HE.out fun j hj => HJ.out j (by rw [← HLE.out]; exact hj)).symm, hbl.out⟩
      · have HV := Lib.hid hv
        have DV := Lib.hid (decide_eq_true hv)
        have de := decide_eq_false he
        rw [HL.out] at de
        have DE := Lib.hid de
        have hp : Hid (pRight N es vs xs = 4) := Lib.hid (pRight_lists HR0.out fun hh => he hh.2)
        clear de hv he
        go_enter Try.func62, Try.ntmps62
        go_wp2_with fail
        clear hr
        refine (gRight_any w1 _ N A m c es h1.g (Nat.le_refl _) h1.n).mono ?_
        rintro e w2 ⟨rfl, b2⟩
        rw [HR.out]
        have h2 := h1.step b2
        have gb2 := gb1.step b2
        replace b1 := bstep b1 b2
        clear hw1 h1 c0 c1 c2 c3 gb1 b2
        have ⟨_, _, c0, c1, c2, c3, _⟩ := gb2
        go_wp2_with fail
        refine (rising_any w2 _ Av nv cv vs N h2.v).mono ?_
        rintro e w3 ⟨rfl, hw3⟩
        have d3 : Drawn w2 w3 := hw3 ▸ Drawn.refl w2
        clear hw3
        rw [DV.out]
        have b3 := d3.below w2.heap.size
        have h3 := h2.step b3
        have gb3 := gb2.step b3
        replace b1 := bstep b1 b3
        clear h2 c0 c1 c2 c3 gb2 b3 d3
        have ⟨_, _, c0, c1, c2, c3, _⟩ := gb3
        go_wp2_with fail
        refine (rising_any w3 _ Ae ne ce xs m h3.e).mono ?_
        rintro e w4 ⟨rfl, hw4⟩
        have d4 : Drawn w3 w4 := hw4 ▸ Drawn.refl w3
        clear hw4
        rw [DE.out]
        go_wp2
        go_ret
        exact ⟨ret_int hp.out.symm, bstep b1 (d4.below _)⟩
    · have DV := Lib.hid (decide_eq_false hv)
      have hp : Hid (pRight N es vs xs = 4) := Lib.hid (pRight_lists HR0.out fun hh => hv hh.1)
      clear hv
      go_enter Try.func62, Try.ntmps62
      go_wp2_with fail
      clear hr
      refine (gRight_any w1 _ N A m c es h1.g (Nat.le_refl _) h1.n).mono ?_
      rintro e w2 ⟨rfl, b2⟩
      rw [HR.out]
      have h2 := h1.step b2
      have gb2 := gb1.step b2
      replace b1 := bstep b1 b2
      clear hw1 h1 c0 c1 c2 c3 gb1 b2
      have ⟨_, _, c0, c1, c2, c3, _⟩ := gb2
      go_wp2_with fail
      refine (rising_any w2 _ Av nv cv vs N h2.v).mono ?_
      rintro e w3 ⟨rfl, hw3⟩
      have d3 : Drawn w2 w3 := hw3 ▸ Drawn.refl w2
      clear hw3
      rw [DV.out]
      go_wp2
      go_ret
      exact ⟨ret_int hp.out.symm, bstep b1 (d3.below _)⟩
  · have hrb : (r != 0) = true := by simp [hr0]
    have hp : Hid (pRight N es vs xs = r) := Lib.hid ((pRight_graph (by rw [hr]; exact hr0)).trans hr)
    clear hr0
    go_enter Try.func62, Try.ntmps62
    go_wp2_with fail
    clear hr
    refine (gRight_any w1 _ N A m c es h1.g (Nat.le_refl _) h1.n).mono ?_
    rintro e w2 ⟨rfl, b2⟩
    rw [HR.out]
    go_wp2
    go_ret
    exact ⟨ret_int hp.out.symm, bstep b1 b2⟩

end Go.Proofs.Ythobfbnopkbniaa
end

section
namespace Go.Proofs.Ythobfbnopkbniaa
open Go.RowKit

/-- The vertex that a dart of the edges xs leaves. -/
def lvOf (es : List (Int × Int)) (xs : List Int) : Int → Option Int := fun d => if d / 2 ∈ xs then some (tail es d) else none
theorem lvOf_nil (es : List (Int × Int)) : (fun _ => none) = lvOf es [] := by
  funext d
  simp [lvOf]
theorem lvOf_snoc (es : List (Int × Int)) (l : List Int) (z : Int) : upd (upd (lvOf es l) (2 * z) (ends es z).1) (2 * z + 1) (ends es z).2 = lvOf es (l ++ [z]) := by
  funext d
  simp only [upd, lvOf, List.mem_append, List.mem_singleton]
  by_cases h1 : d = 2 * z + 1
  · subst h1
    rw [if_pos rfl, if_pos (.inr (by omega))]
    unfold tail
    rw [if_neg (by omega), show (2 * z + 1) / 2 = z by omega]
  · rw [if_neg h1]
    by_cases h2 : d = 2 * z
    · subst h2
      rw [if_pos rfl, if_pos (.inr (by omega))]
      unfold tail
      rw [if_pos (by omega), show (2 * z) / 2 = z by omega]
    · rw [if_neg h2]
      have : d / 2 ≠ z := by omega
      simp [this]
theorem allDarts_snoc (l : List Int) (z : Int) : allDarts (l ++ [z]) = allDarts l ++ [2 * z, 2 * z + 1] := by
  rw [allDarts_append]
  rfl
theorem take_snoc {xs : List Int} {k : Nat} {z : Int} (hk : k < xs.length) (hz : xs.getD k 0 = z) : xs.take (k + 1) = xs.take k ++ [z] := take_getD hk hz
theorem not_in_take {xs : List Int} (h : xs.Pairwise (· < ·)) {k : Nat} {z : Int} (hk : k < xs.length) (hz : xs.getD k 0 = z) : z ∉ xs.take k := by
  intro hm
  obtain ⟨i, hi, e⟩ := List.getElem_of_mem hm
  rw [List.length_take] at hi
  rw [List.getElem_take] at e
  rw [List.getD_eq_getElem?_getD, List.getElem?_eq_getElem hk] at hz
  have h1 := List.pairwise_iff_getElem.1 h i k (by omega) hk (by omega)
  simp only [Option.getD_some] at hz
  omega
theorem lvOf_none {es : List (Int × Int)} {l : List Int} {d : Int} (h : d / 2 ∉ l) : lvOf es l d = none := if_neg h

theorem Own.kept {w0 w w' : World} {v : Value} {xs : List Int} {row : Option Nat} (h : Own w0 w v xs) (hg : w.grownBy w' row) (hr : ∀ k, row = some k → w0.heap.size ≤ k) (hv : v.ownBlock = none ∨ v.ownBlock ≠ row) : Own w0 w' v xs :=
  ⟨h.row.kept hg hv, h.below.grown hg h.below.size hr, h.i64⟩
theorem Own.notMap {w0 w : World} {v : Value} {xs : List Int} (h : Own w0 w v xs) {b n : Nat} {f : Int → Option Value} (hm : MV w b n f) : v.ownBlock ≠ some b := by
  intro e
  obtain ⟨es, clock, hb⟩ := hm.block
  rcases h.row.2 with ⟨rfl, _⟩ | ⟨g, cap, cur, rfl, _, hg, _⟩
  · cases e
  · have : g = b := by simpa [Value.ownBlock] using e
    subst this
    rw [hb] at hg
    cases hg
theorem IS.two (w : World) (x y : Int) (hx : I64 x) (hy : I64 y) : IS (w.alloc (.cells #[.int .i64 x, .int .i64 y] 3)) (w.heap.size + 1) (some ⟨w.heap.size, 0, none⟩) 2 2 [x, y] :=
  ⟨rfl, Nat.le_refl _, by omega, by simp [hx, hy], fun _ => ⟨_, 0, rfl, by omega, fun j hj => by
    match j, hj with
    | 0, _ => simp
    | 1, _ => simp⟩⟩

/-- The places that have been put: those of the numbers in a list, and no others. -/
def PlaceAt (w : World) (b : Nat) (l : List Int) : Prop := ∃ g, MI w b l.length g ∧ ∀ d, (g d).isSome = true ↔ d ∈ l
theorem PlaceAt.start (w : World) : PlaceAt (w.alloc (.map #[] 0)) w.heap.size [] := ⟨_, MI.made w, by simp⟩

theorem placed_start (tt : List (List Int)) : placed tt 0 0 = [] := by simp [placed]
theorem placed_step {tt : List (List Int)} {v i : Nat} {d : Int} (hi : i < (tt.getD v []).length) (hd : (tt.getD v []).getD i 0 = d) : placed tt v (i + 1) = placed tt v i ++ [d] := by
  unfold placed
  rw [take_getD hi hd, List.append_assoc]
theorem placed_next {tt : List (List Int)} {v : Nat} (hv : v < tt.length) : placed tt v (tt.getD v []).length = placed tt (v + 1) 0 := by
  unfold placed
  rw [List.take_length, List.take_zero, List.append_nil, List.take_succ_eq_append_getElem hv, List.flatten_append]
  rw [List.getD_eq_getElem?_getD, List.getElem?_eq_getElem hv]
  simp
theorem placed_end {tt : List (List Int)} : placed tt tt.length 0 = tt.flatten := by simp [placed]
theorem placed_sub {tt : List (List Int)} {v i : Nat} (hv : v < tt.length) (hi : i < (tt.getD v []).length) : ∃ r, tt.flatten = placed tt v i ++ (tt.getD v []).getD i 0 :: r := by
  have e : tt = tt.take v ++ tt.getD v [] :: tt.drop (v + 1) := by
    rw [List.getD_eq_getElem?_getD, List.getElem?_eq_getElem hv]
    simp
  have e2 : tt.getD v [] = (tt.getD v []).take i ++ (tt.getD v []).getD i 0 :: (tt.getD v []).drop (i + 1) := by
    rw [List.getD_eq_getElem?_getD (l := tt.getD v []), List.getElem?_eq_getElem hi]
    simp
  refine ⟨(tt.getD v []).drop (i + 1) ++ (tt.drop (v + 1)).flatten, ?_⟩
  conv => lhs; rw [e, List.flatten_append, List.flatten_cons, e2]
  unfold placed
  simp
/-- The first v lists, and i numbers of the next, are in their places. -/
structure PlacedOK (es : List (Int × Int)) (xs : List Int) (tt : List (List Int)) (v i : Nat) : Prop where
  full : ∀ u, u < v → ∀ d ∈ tt.getD u [], d / 2 ∈ xs ∧ tail es d = u
  here : ∀ d ∈ (tt.getD v []).take i, d / 2 ∈ xs ∧ tail es d = v
  once : (placed tt v i).Nodup
theorem PlacedOK.start (es : List (Int × Int)) (xs : List Int) (tt : List (List Int)) : PlacedOK es xs tt 0 0 := ⟨fun u hu => absurd hu (by omega), by simp, by simp [placed]⟩
theorem PlacedOK.step {es : List (Int × Int)} {xs : List Int} {tt : List (List Int)} {v i : Nat} {d : Int} (h : PlacedOK es xs tt v i) (hi : i < (tt.getD v []).length) (hd : (tt.getD v []).getD i 0 = d) (h1 : d / 2 ∈ xs) (h2 : tail es d = v) (h3 : d ∉ placed tt v i) : PlacedOK es xs tt v (i + 1) := by
  refine ⟨h.full, fun x hx => ?_, ?_⟩
  · rw [take_getD hi hd] at hx
    rcases List.mem_append.1 hx with hx | hx
    · exact h.here x hx
    · obtain rfl : x = d := by simpa using hx
      exact ⟨h1, h2⟩
  · rw [placed_step hi hd]
    exact List.nodup_append.2 ⟨h.once, by simp, fun a ha b hb e => by
      obtain rfl : b = d := by simpa using hb
      exact h3 (e ▸ ha)⟩
theorem PlacedOK.next {es : List (Int × Int)} {xs : List Int} {tt : List (List Int)} {v : Nat} (hv : v < tt.length) (h : PlacedOK es xs tt v (tt.getD v []).length) : PlacedOK es xs tt (v + 1) 0 := by
  refine ⟨fun u hu d hd => ?_, by simp, by rw [← placed_next hv]; exact h.once⟩
  rcases Nat.lt_or_ge u v with h1 | h1
  · exact h.full u h1 d hd
  · obtain rfl : u = v := by omega
    exact h.here d (by rw [List.take_length]; exact hd)
theorem PlacedOK.len {es : List (Int × Int)} {xs : List Int} {tt : List (List Int)} {v i : Nat} (h : PlacedOK es xs tt v i) : (placed tt v i).length ≤ 2 * xs.length := by
  rw [← allDarts_len]
  refine nodup_len h.once fun x hx => mem_allDarts.2 ?_
  rcases List.mem_append.1 hx with hx | hx
  · obtain ⟨l, hl, hx⟩ := List.mem_flatten.1 hx
    obtain ⟨i, hi, rfl⟩ := List.getElem_of_mem hl
    rw [List.length_take] at hi
    refine (h.full i (by omega) x ?_).1
    rw [List.getElem_take] at hx
    rw [List.getD_eq_getElem?_getD, List.getElem?_eq_getElem (by omega)]
    exact hx
  · exact (h.here x hx).1
theorem PlaceAt.put {w' : World} {b : Nat} {l : List Int} {g : Int → Option Int} {z i : Int} (hm : MI w' b (if (g z).isSome then l.length else l.length + 1) (upd g z i)) (hgz : g z = none) (h : ∀ d, (g d).isSome = true ↔ d ∈ l) : PlaceAt w' b (l ++ [z]) := by
  rw [hgz] at hm
  refine ⟨_, by simpa using hm, fun d => ?_⟩
  unfold upd
  split
  · simp [*]
  · rw [h]; simp [*]
theorem PlacedOK.turned {N : Int} {es : List (Int × Int)} {xs : List Int} {tt : List (List Int)} (h : PlacedOK es xs tt tt.length 0) (hN : (tt.length : Int) = N) (hl : tt.flatten.length = 2 * xs.length) : Turned N es xs tt :=
  ⟨hN, h.full, placed_end (tt := tt) ▸ h.once, hl⟩
/-- A number that is not where it should be. -/
theorem not_turned {N : Int} {es : List (Int × Int)} {xs : List Int} {tt : List (List Int)} {v i : Nat} (hv : v < tt.length) (hi : i < (tt.getD v []).length) {d : Int} (hd : (tt.getD v []).getD i 0 = d) (h : d / 2 ∉ xs ∨ tail es d ≠ v ∨ d ∈ placed tt v i) : ¬ Turned N es xs tt := by
  rintro ⟨_, h2, h3, _⟩
  have hm : d ∈ tt.getD v [] := by
    rw [List.getD_eq_getElem?_getD, List.getElem?_eq_getElem hi] at hd
    simp only [Option.getD_some] at hd
    rw [← hd]
    exact List.getElem_mem hi
  obtain ⟨g1, g2⟩ := h2 v hv d hm
  rcases h with h | h | h
  · exact h g1
  · exact h g2
  · obtain ⟨r, hr⟩ := placed_sub hv hi
    rw [hr, hd] at h3
    exact (List.nodup_append.1 h3).2.2 d h d (by simp) rfl
end Go.Proofs.Ythobfbnopkbniaa
end

section
namespace Go.Proofs.Ythobfbnopkbniaa

theorem first_perm (xs : List Int) : (first xs).Perm xs := by
  unfold first turn
  have := List.perm_append_comm (l₁ := xs.drop (least xs xs.length)) (l₂ := xs.take (least xs xs.length))
  rwa [List.take_append_drop] at this
theorem first_len (xs : List Int) : (first xs).length = xs.length := (first_perm xs).length_eq
theorem mem_first {xs : List Int} {d : Int} : d ∈ first xs ↔ d ∈ xs := (first_perm xs).mem_iff
theorem first_nodup {xs : List Int} : (first xs).Nodup ↔ xs.Nodup := (first_perm xs).nodup_iff

/-- The place of a number in a list. -/
def pos (t : List Int) (d : Int) : Nat := (fnd t d).toNat
theorem pos_mem {t : List Int} {d : Int} (h : d ∈ t) : pos t d < t.length ∧ t.getD (pos t d) 0 = d := by
  rcases fnd_cases t d with ⟨_, h2⟩ | ⟨k, h1, h2, h3, _⟩
  · exact absurd h h2
  · unfold pos
    rw [h1, Int.toNat_natCast]
    exact ⟨h2, h3⟩
theorem nodup_inj {t : List Int} (hn : t.Nodup) {i j : Nat} (hi : i < t.length) (hj : j < t.length) (h : t.getD i 0 = t.getD j 0) : i = j := by
  rw [getD_idx hi, getD_idx hj] at h
  rcases Nat.lt_trichotomy i j with hlt | rfl | hlt
  · exact absurd h (List.pairwise_iff_getElem.1 hn i j hi hj hlt)
  · rfl
  · exact absurd h.symm (List.pairwise_iff_getElem.1 hn j i hj hi hlt)
theorem pos_at {t : List Int} (hn : t.Nodup) {i : Nat} (hi : i < t.length) : pos t (t.getD i 0) = i := by
  have hm : t.getD i 0 ∈ t := by rw [getD_idx hi]; exact List.getElem_mem hi
  obtain ⟨h1, h2⟩ := pos_mem hm
  exact nodup_inj hn h1 hi h2

theorem putN_out {g : Int → Option Int} {t : List Int} {d : Int} : ∀ {k : Nat}, k ≤ t.length → d ∉ t.take k → putN g t k d = g d
  | 0, _, _ => rfl
  | k + 1, hk, h => by
    have h1 : t.take (k + 1) = t.take k ++ [t.getD k 0] := take_getD (by omega) rfl
    rw [h1, List.mem_append, List.mem_singleton] at h
    unfold putN upd
    rw [if_neg (fun e => h (.inr e))]
    exact putN_out (by omega) fun h' => h (.inl h')
theorem putN_at {g : Int → Option Int} {t : List Int} (hn : t.Nodup) {j : Nat} : ∀ {k : Nat}, k ≤ t.length → j < k → putN g t k (t.getD j 0) = some (j : Int)
  | 0, _, hj => absurd hj (by omega)
  | k + 1, hk, hj => by
    unfold putN upd
    by_cases hjk : j = k
    · subst hjk
      rw [if_pos rfl]
    · rw [if_neg fun e => hjk (nodup_inj hn (by omega) (by omega) e)]
      exact putN_at hn (by omega) (by omega)
theorem placeN_at {tt : List (List Int)} (h1 : ∀ v, v < tt.length → (tt.getD v []).Nodup) (h2 : ∀ u v d, u < tt.length → v < tt.length → d ∈ tt.getD u [] → d ∈ tt.getD v [] → u = v) {u p : Nat} :
    ∀ {k : Nat}, k ≤ tt.length → u < k → p < (tt.getD u []).length → placeN tt k ((first (tt.getD u [])).getD p 0) = some (p : Int)
  | 0, _, hu, _ => absurd hu (by omega)
  | k + 1, hk, hu, hp => by
    unfold placeN
    by_cases huk : u = k
    · subst huk
      exact putN_at (first_nodup.2 (h1 u (by omega))) (by rw [first_len]; exact Nat.le_refl _) hp
    · rw [putN_out (by rw [first_len]; exact Nat.le_refl _)]
      · exact placeN_at h1 h2 (by omega) (by omega) hp
      · intro hm
        have hm' := mem_first.1 (List.mem_of_mem_take hm)
        have hp' : p < (first (tt.getD u [])).length := by rw [first_len]; exact hp
        have hm2 : (first (tt.getD u [])).getD p 0 ∈ first (tt.getD u []) := by rw [getD_idx hp']; exact List.getElem_mem hp'
        exact huk (h2 u k _ (by omega) (by omega) (mem_first.1 hm2) hm')

/-- The numbers from 0 to below n. -/
def upto1 : Nat → List Int
  | 0 => []
  | n + 1 => upto1 n ++ [(n : Int)]
theorem upto1_len : ∀ n, (upto1 n).length = n
  | 0 => rfl
  | n + 1 => by simp [upto1, upto1_len n]
theorem mem_upto1 {x : Int} : ∀ {n : Nat}, x ∈ upto1 n ↔ 0 ≤ x ∧ x < n
  | 0 => by simp [upto1]
  | n + 1 => by
    unfold upto1
    rw [List.mem_append, List.mem_singleton, mem_upto1 (n := n)]
    omega

/-- So many places on, around. -/
def rot (n p : Nat) (s : Int) : Nat := ((p : Int) + s + n).toNat % n
theorem rot_on {n p : Nat} (h : p < n) : rot n p 1 = if p + 1 = n then 0 else p + 1 := by
  unfold rot
  rw [show ((p : Int) + 1 + n).toNat = p + 1 + n by omega, Nat.add_mod_right]
  split
  · rw [show p + 1 = n by assumption, Nat.mod_self]
  · exact Nat.mod_eq_of_lt (by omega)
theorem rot_back {n p : Nat} (h : p < n) : rot n p (-1) = if p = 0 then n - 1 else p - 1 := by
  unfold rot
  split
  · subst_vars
    rw [show (((0 : Nat) : Int) + -1 + n).toNat = n - 1 by omega]
    exact Nat.mod_eq_of_lt (by omega)
  · rw [show ((p : Int) + -1 + n).toNat = p - 1 + n by omega, Nat.add_mod_right]
    exact Nat.mod_eq_of_lt (by omega)
theorem rot_lt {n p : Nat} {s : Int} (h : p < n) : rot n p s < n := Nat.mod_lt _ (by omega)
theorem rot_rot {n p : Nat} (h : p < n) : rot n (rot n p 1) (-1) = p ∧ rot n (rot n p (-1)) 1 = p := by
  refine ⟨?_, ?_⟩
  · rw [rot_back (rot_lt h), rot_on h]
    split <;> split <;> omega
  · rw [rot_on (rot_lt h), rot_back h]
    split <;> split <;> omega

/-- The turn of what a dart leaves, begun with the least. -/
def turnOf (es : List (Int × Int)) (tt : List (List Int)) (d : Int) : List Int := first (tt.getD (tail es d).toNat [])
/-- The dart so many places on in its turn. -/
def stepOf (es : List (Int × Int)) (tt : List (List Int)) (d s : Int) : Int := (turnOf es tt d).getD (rot (turnOf es tt d).length (pos (turnOf es tt d) d) s) 0

theorem tail_range {N : Int} {es : List (Int × Int)} {vs xs : List Int} (hp : POK N es vs xs) {d : Int} (hd : d / 2 ∈ xs) : 0 ≤ tail es d ∧ tail es d < N := by
  have hr := hp.xr _ hd
  have he : EIn N (ends es (d / 2)) := by
    apply hp.edges
    unfold ends
    rw [List.getD_eq_getElem?_getD, List.getElem?_eq_getElem (show (d / 2).toNat < es.length by omega)]
    exact List.getElem_mem _
  unfold tail
  split
  · exact ⟨he.1, he.2.1⟩
  · exact ⟨he.2.2.1, he.2.2.2⟩
theorem TurnOK.apart {N : Int} {es : List (Int × Int)} {xs : List Int} {tt : List (List Int)} (hT : TurnOK N es xs tt) : ∀ u v d, u < tt.length → v < tt.length → d ∈ tt.getD u [] → d ∈ tt.getD v [] → u = v := by
  intro u v d hu hv h1 h2
  have e1 := (mem_dartsOf.1 (((hT.2 u hu).2 d).1 h1)).2
  have e2 := (mem_dartsOf.1 (((hT.2 v hv).2 d).1 h2)).2
  omega
theorem TurnOK.size {N : Int} {es : List (Int × Int)} {xs : List Int} {tt : List (List Int)} (hT : TurnOK N es xs tt) {u : Nat} (hu : u < tt.length) : (tt.getD u []).length ≤ 2 * xs.length :=
  Nat.le_trans (nodup_len (hT.2 u hu).1 fun x hx => ((hT.2 u hu).2 x).1 hx) (dartsOf_len es u xs)
section
variable {N : Int} {es : List (Int × Int)} {vs xs : List Int} {tt : List (List Int)} {d : Int}
/-- Of a dart of the part. -/
theorem dart_facts (hp : POK N es vs xs) (hT : TurnOK N es xs tt) (hd : d / 2 ∈ xs) :
    ∃ u : Nat, tail es d = u ∧ u < tt.length ∧ turnOf es tt d = first (tt.getD u []) ∧ d ∈ turnOf es tt d ∧ (turnOf es tt d).Nodup ∧ placeN tt tt.length d = some ((pos (turnOf es tt d) d : Nat) : Int) ∧ (turnOf es tt d).length ≤ 2 * xs.length := by
  obtain ⟨h0, h1⟩ := tail_range hp hd
  obtain ⟨u, hu⟩ := Int.eq_ofNat_of_zero_le h0
  have hlt : u < tt.length := by have := hT.1; omega
  have ht : turnOf es tt d = first (tt.getD u []) := by unfold turnOf; rw [hu, Int.toNat_natCast]
  have hm : d ∈ tt.getD u [] := ((hT.2 u hlt).2 d).2 (mem_dartsOf.2 ⟨hd, hu⟩)
  have hm' : d ∈ turnOf es tt d := by rw [ht]; exact mem_first.2 hm
  obtain ⟨hp1, hp2⟩ := pos_mem hm'
  refine ⟨u, hu, hlt, ht, hm', by rw [ht]; exact first_nodup.2 (hT.2 u hlt).1, ?_, by rw [ht, first_len]; exact hT.size hlt⟩
  have := placeN_at (tt := tt) (u := u) (p := pos (turnOf es tt d) d) (fun v hv => (hT.2 v hv).1) hT.apart (Nat.le_refl _) hlt (by rw [ht, first_len] at hp1; rwa [ht])
  rw [← ht, hp2] at this
  exact this
theorem step_mem (hp : POK N es vs xs) (hT : TurnOK N es xs tt) (hd : d / 2 ∈ xs) (s : Int) : stepOf es tt d s / 2 ∈ xs ∧ tail es (stepOf es tt d s) = tail es d := by
  obtain ⟨u, hu, hlt, ht, hm, hn, _, _⟩ := dart_facts hp hT hd
  have hr := rot_lt (s := s) (pos_mem hm).1
  have hmem : stepOf es tt d s ∈ turnOf es tt d := by
    unfold stepOf
    rw [getD_idx hr]
    exact List.getElem_mem hr
  rw [ht] at hmem
  have := mem_dartsOf.1 (((hT.2 u hlt).2 _).1 (mem_first.1 hmem))
  exact ⟨this.1, this.2.trans hu.symm⟩
theorem step_step (hp : POK N es vs xs) (hT : TurnOK N es xs tt) (hd : d / 2 ∈ xs) : stepOf es tt (stepOf es tt d 1) (-1) = d ∧ stepOf es tt (stepOf es tt d (-1)) 1 = d := by
  obtain ⟨u, hu, hlt, ht, hm, hn, _, _⟩ := dart_facts hp hT hd
  have key : ∀ s, turnOf es tt (stepOf es tt d s) = turnOf es tt d ∧ pos (turnOf es tt d) (stepOf es tt d s) = rot (turnOf es tt d).length (pos (turnOf es tt d) d) s := fun s => by
    refine ⟨by unfold turnOf; rw [(step_mem hp hT hd s).2], ?_⟩
    conv => lhs; unfold stepOf
    exact pos_at hn (rot_lt (pos_mem hm).1)
  have hpm := pos_mem hm
  have again : ∀ x s, stepOf es tt x s = (turnOf es tt x).getD (rot (turnOf es tt x).length (pos (turnOf es tt x) x) s) 0 := fun _ _ => rfl
  refine ⟨?_, ?_⟩
  · rw [again (stepOf es tt d 1), (key 1).1, (key 1).2, (rot_rot hpm.1).1]
    exact hpm.2
  · rw [again (stepOf es tt d (-1)), (key (-1)).1, (key (-1)).2, (rot_rot hpm.1).2]
    exact hpm.2
theorem twin_twin (d : Int) : twin (twin d) = d := by unfold twin; split <;> split <;> omega
theorem twin_half (d : Int) : twin d / 2 = d / 2 := by unfold twin; split <;> omega
theorem dart_i64 (hp : POK N es vs xs) (hd : d / 2 ∈ xs) : 0 ≤ d ∧ d ≤ 2048 := by
  have := hp.xr _ hd
  have h1 := hp.size
  have h2 := hp.n0
  omega
end
end Go.Proofs.Ythobfbnopkbniaa
end

section
namespace Go.Proofs.Ythobfbnopkbniaa

theorem least_spec (xs : List Int) : ∀ k j, j < k → xs.getD (least xs k) 0 ≤ xs.getD j 0
  | 0, _, h => absurd h (by omega)
  | k + 1, j, h => by
    unfold least
    by_cases hjk : j = k
    · subst hjk
      split
      · exact Int.le_refl _
      · omega
    · have := least_spec xs k j (by omega)
      split
      · omega
      · exact this
theorem first_first (xs : List Int) : first (first xs) = first xs := by
  rcases Nat.eq_zero_or_pos xs.length with h0 | h0
  · rw [List.eq_nil_of_length_eq_zero h0]
    rfl
  · have hp : least xs xs.length < xs.length := least_end xs _ h0
    obtain ⟨l, hl⟩ : ∃ l, first xs = l := ⟨_, rfl⟩
    have hl0 : l.getD 0 0 = xs.getD (least xs xs.length) 0 := by
      rw [← hl]
      unfold first turn
      rw [List.getD_eq_getElem?_getD, List.getElem?_append_left (by rw [List.length_drop]; omega), List.getElem?_drop, Nat.add_zero, ← List.getD_eq_getElem?_getD]
    have hmin : ∀ k, k < l.length → l.getD 0 0 ≤ l.getD k 0 := fun k hk => by
      rw [hl0]
      have hm : l.getD k 0 ∈ xs := by
        rw [← mem_first, hl, getD_idx hk]
        exact List.getElem_mem hk
      obtain ⟨j, hj, he⟩ := List.getElem_of_mem hm
      rw [← he, ← getD_idx hj]
      exact least_spec xs _ j hj
    have hz : ∀ k, k ≤ l.length → least l k = 0 := by
      intro k
      induction k with
      | zero => intro _; rfl
      | succ k ih =>
        intro hk
        unfold least
        rw [ih (by omega), if_neg (by have := hmin k (by omega); omega)]
    rw [hl]
    unfold first turn
    rw [hz _ (Nat.le_refl _)]
    simp
theorem map_first_first (tt : List (List Int)) : (tt.map first).map first = tt.map first := by
  rw [List.map_map]
  congr 1
  funext t
  exact first_first t
theorem getD_map_first (tt : List (List Int)) (k : Nat) : (tt.map first).getD k [] = first (tt.getD k []) := by
  rw [List.getD_eq_getElem?_getD, List.getD_eq_getElem?_getD, List.getElem?_map]
  cases tt[k]? with
  | none => rfl
  | some t => rfl
theorem placeN_map_first (tt : List (List Int)) : ∀ k, placeN (tt.map first) k = placeN tt k
  | 0 => rfl
  | k + 1 => by
    unfold placeN
    rw [placeN_map_first tt k, getD_map_first, first_first, first_len]
theorem TurnOK.first {N : Int} {es : List (Int × Int)} {xs : List Int} {tt : List (List Int)} (h : TurnOK N es xs tt) : TurnOK N es xs (tt.map first) := by
  refine ⟨by rw [List.length_map]; exact h.1, fun v hv => ?_⟩
  rw [List.length_map] at hv
  obtain ⟨h1, h2⟩ := h.2 v hv
  rw [getD_map_first]
  exact ⟨first_nodup.2 h1, fun d => mem_first.trans (h2 d)⟩
theorem map_first_len {tt : List (List Int)} {n : Nat} (h : ∀ t ∈ tt, t.length ≤ n) : ∀ t ∈ tt.map first, t.length ≤ n := fun t ht => by
  obtain ⟨u, hu, rfl⟩ := List.mem_map.1 ht
  rw [first_len]
  exact h u hu
end Go.Proofs.Ythobfbnopkbniaa
end

section
namespace Go.Proofs.Ythobfbnopkbniaa

theorem nodup_rev {l : List Int} : l.reverse.Nodup ↔ l.Nodup := (List.reverse_perm l).nodup_iff
theorem first_split {p q : List Int} {m : Int} (hn : (p ++ m :: q).Nodup) (hm : ∀ x ∈ p ++ m :: q, m ≤ x) : first (p ++ m :: q) = m :: q ++ p := by
  obtain ⟨xs, hx⟩ : ∃ xs, p ++ m :: q = xs := ⟨_, rfl⟩
  have hlen : p.length < xs.length := by rw [← hx]; simp
  have hat : xs.getD p.length 0 = m := by
    rw [← hx, List.getD_eq_getElem?_getD, List.getElem?_append_right (Nat.le_refl _)]
    simp
  have hl := least_end xs xs.length (by omega)
  have h1 := least_spec xs xs.length p.length hlen
  have h2 : m ≤ xs.getD (least xs xs.length) 0 := hm _ (by rw [hx, getD_idx hl]; exact List.getElem_mem _)
  have he : least xs xs.length = p.length := nodup_inj (hx ▸ hn) hl hlen (by rw [hat] at h1 ⊢; omega)
  rw [hx]
  unfold first turn
  rw [he, ← hx]
  simp
theorem first_rot {a b : List Int} (hn : (a ++ b).Nodup) : first (b ++ a) = first (a ++ b) := by
  obtain ⟨xs, hx⟩ : ∃ xs, a ++ b = xs := ⟨_, rfl⟩
  rcases Nat.eq_zero_or_pos xs.length with h0 | h0
  · have h1 : a = [] ∧ b = [] := by
      have := List.eq_nil_of_length_eq_zero h0
      rw [← hx] at this
      exact List.append_eq_nil_iff.1 this
    rw [h1.1, h1.2]
  · have hl := least_end xs _ h0
    obtain ⟨m, hm⟩ : ∃ m, xs.getD (least xs xs.length) 0 = m := ⟨_, rfl⟩
    have hmm : m ∈ a ++ b := by rw [hx, ← hm, getD_idx hl]; exact List.getElem_mem _
    have hmin : ∀ x ∈ a ++ b, m ≤ x := fun x hxx => by
      rw [hx] at hxx
      obtain ⟨j, hj, he⟩ := List.getElem_of_mem hxx
      rw [← hm, ← he, ← getD_idx hj]
      exact least_spec xs _ j hj
    have hnb : (b ++ a).Nodup := List.perm_append_comm.nodup_iff.1 hn
    have hminb : ∀ x ∈ b ++ a, m ≤ x := fun x hxx => hmin x (List.perm_append_comm.mem_iff.1 hxx)
    rcases List.mem_append.1 hmm with h | h
    · obtain ⟨p, q, rfl⟩ := List.append_of_mem h
      have e1 : (p ++ m :: q) ++ b = p ++ m :: (q ++ b) := by simp
      have e2 : b ++ (p ++ m :: q) = (b ++ p) ++ m :: q := by simp
      rw [e1] at hn hmin
      rw [e2] at hnb hminb
      rw [e1, e2, first_split hn hmin, first_split hnb hminb]
      simp
    · obtain ⟨p, q, rfl⟩ := List.append_of_mem h
      have e1 : a ++ (p ++ m :: q) = (a ++ p) ++ m :: q := by simp
      have e2 : (p ++ m :: q) ++ a = p ++ m :: (q ++ a) := by simp
      rw [e1] at hn hmin
      rw [e2] at hnb hminb
      rw [e1, e2, first_split hn hmin, first_split hnb hminb]
      simp
theorem first_as (xs : List Int) : ∃ a b, xs = a ++ b ∧ first xs = b ++ a :=
  ⟨xs.take (least xs xs.length), xs.drop (least xs xs.length), (List.take_append_drop _ _).symm, rfl⟩
theorem first_about {xs : List Int} (hn : xs.Nodup) : first (first xs).reverse = first xs.reverse := by
  obtain ⟨a, b, h1, h2⟩ := first_as xs
  rw [h2, h1, List.reverse_append, List.reverse_append]
  refine first_rot ?_
  have := nodup_rev.2 hn
  rwa [h1, List.reverse_append] at this
theorem about_about {t : List Int} (hn : t.Nodup) : first (first (first t).reverse).reverse = first t := by
  have h1 : (first t).reverse.Nodup := nodup_rev.2 (first_nodup.2 hn)
  rw [first_about h1, List.reverse_reverse, first_first]

/-- The number so many places on, around. -/
def stepIn (t : List Int) (x s : Int) : Int := t.getD (rot t.length (pos t x) s) 0
theorem stepOf_in (es : List (Int × Int)) (tt : List (List Int)) (d s : Int) : stepOf es tt d s = stepIn (turnOf es tt d) d s := rfl
theorem pos_is {t : List Int} (hn : t.Nodup) {i : Nat} (hi : i < t.length) {x : Int} (h : t.getD i 0 = x) : pos t x = i := by rw [← h]; exact pos_at hn hi
theorem getD_left {a b : List Int} {i : Nat} (h : i < a.length) : (a ++ b).getD i 0 = a.getD i 0 := by
  rw [List.getD_eq_getElem?_getD, List.getD_eq_getElem?_getD, List.getElem?_append_left h]
theorem getD_right {a b : List Int} {i : Nat} (h : a.length ≤ i) : (a ++ b).getD i 0 = b.getD (i - a.length) 0 := by
  rw [List.getD_eq_getElem?_getD, List.getD_eq_getElem?_getD, List.getElem?_append_right h]
/-- Where what stands at a place stands when the list is begun elsewhere. -/
theorem getD_swap (a b : List Int) {i : Nat} (h : i < a.length + b.length) : (b ++ a).getD (if i < a.length then i + b.length else i - a.length) 0 = (a ++ b).getD i 0 := by
  split
  · rw [getD_right (by omega), getD_left (by assumption)]
    congr 1
    omega
  · rw [getD_left (by omega), getD_right (by omega)]
theorem stepIn_rot {a b : List Int} (hn : (a ++ b).Nodup) {x : Int} (hx : x ∈ a ++ b) : stepIn (b ++ a) x (-1) = stepIn (a ++ b) x (-1) := by
  obtain ⟨hp, he⟩ := pos_mem hx
  obtain ⟨i, hi⟩ : ∃ i, pos (a ++ b) x = i := ⟨_, rfl⟩
  rw [hi] at hp he
  have hla : (a ++ b).length = a.length + b.length := by simp
  have hlb : (b ++ a).length = a.length + b.length := by simp; omega
  rw [hla] at hp
  have hnb : (b ++ a).Nodup := List.perm_append_comm.nodup_iff.1 hn
  have hpb : pos (b ++ a) x = if i < a.length then i + b.length else i - a.length := by
    refine pos_is hnb (by rw [hlb]; split <;> omega) ?_
    rw [getD_swap a b hp, he]
  unfold stepIn
  rw [hpb, hi, hla, hlb]
  rw [rot_back (by split <;> omega), rot_back hp]
  rw [← getD_swap a b (show (if i = 0 then a.length + b.length - 1 else i - 1) < a.length + b.length by split <;> omega)]
  congr 1
  split <;> split <;> (repeat' split) <;> omega
theorem stepIn_first {xs : List Int} (hn : xs.Nodup) {x : Int} (hx : x ∈ xs) : stepIn (first xs) x (-1) = stepIn xs x (-1) := by
  obtain ⟨a, b, h1, h2⟩ := first_as xs
  rw [h2]
  rw [h1] at hn hx ⊢
  exact stepIn_rot hn hx
theorem getD_rev {t : List Int} {i : Nat} (hi : i < t.length) : t.reverse.getD i 0 = t.getD (t.length - 1 - i) 0 := by
  rw [List.getD_eq_getElem?_getD, List.getD_eq_getElem?_getD, List.getElem?_reverse hi]
theorem stepIn_rev {t : List Int} (hn : t.Nodup) {x : Int} (hx : x ∈ t) : stepIn t.reverse x (-1) = stepIn t x 1 := by
  obtain ⟨hp, he⟩ := pos_mem hx
  have hpr : pos t.reverse x = t.length - 1 - pos t x := by
    refine pos_is (nodup_rev.2 hn) (by rw [List.length_reverse]; omega) ?_
    rw [getD_rev (by omega)]
    rw [show t.length - 1 - (t.length - 1 - pos t x) = pos t x by omega, he]
  unfold stepIn
  rw [hpr, List.length_reverse, rot_back (by omega), rot_on hp, getD_rev (by split <;> omega)]
  congr 1
  split <;> split <;> omega

section
variable {N : Int} {es : List (Int × Int)} {vs xs : List Int} {tt : List (List Int)}
/-- Mirrored turns. -/
def flip (tt : List (List Int)) : List (List Int) := (tt.map first).map List.reverse
theorem getD_flip (tt : List (List Int)) (k : Nat) : (flip tt).getD k [] = (first (tt.getD k [])).reverse := by
  unfold flip
  rw [List.getD_eq_getElem?_getD, List.getElem?_map, ← getD_map_first, List.getD_eq_getElem?_getD]
  cases (tt.map first)[k]? with
  | none => rfl
  | some t => rfl
theorem flip_len (tt : List (List Int)) : (flip tt).length = tt.length := by simp [flip]
theorem TurnOK.flip (h : TurnOK N es xs tt) : TurnOK N es xs (flip tt) := by
  refine ⟨by rw [flip_len]; exact h.1, fun v hv => ?_⟩
  rw [flip_len] at hv
  obtain ⟨h1, h2⟩ := h.2 v hv
  rw [getD_flip]
  exact ⟨nodup_rev.2 (first_nodup.2 h1), fun d => List.mem_reverse.trans (mem_first.trans (h2 d))⟩
theorem flip_flip (h : TurnOK N es xs tt) : (flip (flip tt)).map first = tt.map first := by
  refine List.ext_getElem (by simp [flip_len]) fun k h1 h2 => ?_
  have hk : k < tt.length := by simpa using h2
  have e1 : ((flip (flip tt)).map first).getD k [] = first (tt.getD k []) := by
    rw [getD_map_first, getD_flip, getD_flip]
    exact about_about (h.2 k hk).1
  have e2 := getD_map_first tt k
  rw [List.getD_eq_getElem?_getD, List.getElem?_eq_getElem h1] at e1
  rw [List.getD_eq_getElem?_getD, List.getElem?_eq_getElem h2] at e2
  exact e1.trans e2.symm
/-- What was behind is ahead. -/
theorem step_flip (hp : POK N es vs xs) (hT : TurnOK N es xs tt) {d : Int} (hd : d / 2 ∈ xs) : stepOf es (flip tt) d (-1) = stepOf es tt d 1 := by
  obtain ⟨u, hu, hlt, ht, hm, hn, _, _⟩ := dart_facts hp hT hd
  have e : turnOf es (flip tt) d = first (turnOf es tt d).reverse := by
    unfold turnOf
    rw [getD_flip]
  rw [stepOf_in, stepOf_in, e, stepIn_first (nodup_rev.2 hn) (List.mem_reverse.2 hm), stepIn_rev hn hm]
theorem flip_row {n : Nat} (h : ∀ t ∈ tt, t.length ≤ n) : ∀ t ∈ flip tt, t.length ≤ n := fun t ht => by
  obtain ⟨u, hu, rfl⟩ := List.mem_map.1 ht
  rw [List.length_reverse]
  exact map_first_len h u hu
end
end Go.Proofs.Ythobfbnopkbniaa
end

section
namespace Go.Proofs.Ythobfbnopkbniaa

/-- f, so many times. -/
def iter (f : Int → Int) : Nat → Int → Int
  | 0, x => x
  | k + 1, x => f (iter f k x)
theorem iter_add (f : Int → Int) (j : Nat) (x : Int) : ∀ k, iter f (k + j) x = iter f k (iter f j x)
  | 0 => by rw [Nat.zero_add]; rfl
  | k + 1 => by
    rw [show k + 1 + j = (k + j) + 1 by omega]
    unfold iter
    rw [iter_add f j x k]
/-- Around from x on until d is met again. -/
def orbFrom (f : Int → Int) (d : Int) : Nat → Int → List Int
  | 0, _ => []
  | n + 1, x => if f x = d then [x] else x :: orbFrom f d n (f x)
/-- The orbit of d. -/
def orb (f : Int → Int) (n : Nat) (d : Int) : List Int := orbFrom f d n d

theorem least_nat {P : Nat → Prop} : ∀ n, P n → ∃ p, P p ∧ ∀ q, q < p → ¬ P q := by
  intro n
  induction n using Nat.strongRecOn with
  | _ n ih =>
    intro h
    rcases Classical.em (∃ q, q < n ∧ P q) with ⟨q, hq, hp⟩ | hn
    · exact ih q hq hp
    · exact ⟨n, h, fun q hq hp => hn ⟨q, hq, hp⟩⟩
/-- Not all of a list's numbers are apart: two are the same. -/
theorem not_nodup {l : List Int} (h : ¬ l.Nodup) : ∃ i j, i < j ∧ j < l.length ∧ l.getD i 0 = l.getD j 0 := by
  refine Classical.byContradiction fun hn => h (List.pairwise_iff_getElem.2 fun i j hi hj hij e => hn ⟨i, j, hij, hj, ?_⟩)
  rw [getD_idx hi, getD_idx hj, e]

/-- One to one within a list. -/
structure PermOn (f : Int → Int) (D : List Int) : Prop where
  mem : ∀ x ∈ D, f x ∈ D
  inj : ∀ x ∈ D, ∀ y ∈ D, f x = f y → x = y
section
variable {f : Int → Int} {D : List Int} {x y d : Int}
theorem PermOn.iter (h : PermOn f D) (hx : x ∈ D) : ∀ k, iter f k x ∈ D
  | 0 => hx
  | k + 1 => h.mem _ (h.iter hx k)
theorem PermOn.back (h : PermOn f D) (hx : x ∈ D) (hy : y ∈ D) : ∀ k, Proofs.Ythobfbnopkbniaa.iter f k x = Proofs.Ythobfbnopkbniaa.iter f k y → x = y
  | 0, e => e
  | k + 1, e => h.back hx hy k (h.inj _ (h.iter hx k) _ (h.iter hy k) e)
/-- How long it takes to come back. -/
def Period (f : Int → Int) (x : Int) (p : Nat) : Prop := 0 < p ∧ Proofs.Ythobfbnopkbniaa.iter f p x = x ∧ ∀ q, 0 < q → q < p → Proofs.Ythobfbnopkbniaa.iter f q x ≠ x
theorem PermOn.period (h : PermOn f D) (hx : x ∈ D) : ∃ p, Period f x p ∧ p ≤ D.length := by
  obtain ⟨l, hl⟩ : ∃ l, (List.range (D.length + 1)).map (fun k => Proofs.Ythobfbnopkbniaa.iter f k x) = l := ⟨_, rfl⟩
  have hlen : l.length = D.length + 1 := by rw [← hl]; simp
  have hget : ∀ k, k < l.length → l.getD k 0 = Proofs.Ythobfbnopkbniaa.iter f k x := fun k hk => by
    rw [hlen] at hk
    rw [← hl, List.getD_eq_getElem?_getD, List.getElem?_map, List.getElem?_range hk]
    rfl
  have hnd : ¬ l.Nodup := fun hn => by
    have := nodup_len (b := D) hn fun z hz => by
      rw [← hl] at hz
      obtain ⟨k, _, rfl⟩ := List.mem_map.1 hz
      exact h.iter hx k
    omega
  obtain ⟨i, j, hij, hj, e⟩ := not_nodup hnd
  rw [hget i (by omega), hget j hj] at e
  have e2 : Proofs.Ythobfbnopkbniaa.iter f (j - i) x = x := by
    refine (h.back hx (h.iter hx (j - i)) i ?_).symm
    rw [← iter_add, show i + (j - i) = j by omega]
    exact e
  obtain ⟨p, ⟨h1, h2⟩, h3⟩ := least_nat (P := fun p => 0 < p ∧ Proofs.Ythobfbnopkbniaa.iter f p x = x) (j - i) ⟨by omega, e2⟩
  have hpl : p ≤ j - i := Classical.byContradiction fun hn => h3 (j - i) (by omega) ⟨by omega, e2⟩
  exact ⟨p, ⟨h1, h2, fun q hq hqp hc => h3 q hqp ⟨hq, hc⟩⟩, by omega⟩
theorem orbFrom_get {p : Nat} (hp : Period f d p) : ∀ n k, k < p → p - k ≤ n → orbFrom f d n (iter f k d) = (List.range' k (p - k)).map fun j => iter f j d
  | 0, k, hk, hn => absurd hn (by omega)
  | n + 1, k, hk, hn => by
    unfold orbFrom
    have e : f (iter f k d) = iter f (k + 1) d := rfl
    rw [e]
    by_cases hlast : k + 1 = p
    · rw [hlast, if_pos hp.2.1, show p - k = 1 by omega]
      rfl
    · rw [if_neg (hp.2.2 (k + 1) (by omega) (by omega)), orbFrom_get hp n (k + 1) (by omega) (by omega), show p - k = (p - (k + 1)) + 1 by omega, List.range'_succ]
      rfl
theorem orb_is {p n : Nat} (hp : Period f d p) (hn : p ≤ n) : orb f n d = (List.range p).map fun j => iter f j d := by
  have := orbFrom_get hp n 0 hp.1 (by omega)
  rw [List.range_eq_range']
  exact this
theorem orb_len {p n : Nat} (hp : Period f d p) (hn : p ≤ n) : (orb f n d).length = p := by rw [orb_is hp hn]; simp
theorem orb_get {p n k : Nat} (hp : Period f d p) (hn : p ≤ n) (hk : k < p) : (orb f n d).getD k 0 = iter f k d := by
  rw [orb_is hp hn, List.getD_eq_getElem?_getD, List.getElem?_map, List.getElem?_range hk]
  rfl
/-- What is met. -/
def Meets (f : Int → Int) (x y : Int) : Prop := ∃ k, y = iter f k x
theorem Meets.refl (f : Int → Int) (x : Int) : Meets f x x := ⟨0, rfl⟩
theorem Meets.trans {z : Int} (h : Meets f x y) (k : Meets f y z) : Meets f x z := by
  obtain ⟨i, rfl⟩ := h
  obtain ⟨j, rfl⟩ := k
  exact ⟨j + i, (iter_add f i x j).symm⟩
theorem Meets.in_ (h : Meets f x y) (hP : PermOn f D) (hx : x ∈ D) : y ∈ D := by
  obtain ⟨k, rfl⟩ := h
  exact hP.iter hx k
theorem iter_mod {p : Nat} (hp : iter f p x = x) : ∀ k, iter f (k * p) x = x
  | 0 => by rw [Nat.zero_mul]; rfl
  | k + 1 => by rw [Nat.succ_mul, iter_add, hp, iter_mod hp k]
theorem meets_lt {p : Nat} (hp : Period f x p) (h : Meets f x y) : ∃ k, k < p ∧ y = iter f k x := by
  obtain ⟨k, rfl⟩ := h
  refine ⟨k % p, Nat.mod_lt _ hp.1, ?_⟩
  conv => lhs; rw [show k = k % p + (k / p) * p from by rw [Nat.mul_comm]; exact (Nat.mod_add_div k p).symm]
  rw [iter_add, iter_mod hp.2.1]
theorem Meets.symm (h : Meets f x y) (hP : PermOn f D) (hx : x ∈ D) : Meets f y x := by
  obtain ⟨p, hp, _⟩ := hP.period hx
  obtain ⟨k, hk, rfl⟩ := meets_lt hp h
  exact ⟨p - k, by rw [← iter_add, show p - k + k = p by omega, hp.2.1]⟩
theorem mem_orb {n : Nat} (hP : PermOn f D) (hx : x ∈ D) (hn : D.length ≤ n) : y ∈ orb f n x ↔ Meets f x y := by
  obtain ⟨p, hp, hpl⟩ := hP.period hx
  rw [orb_is hp (by omega), List.mem_map]
  constructor
  · rintro ⟨k, _, rfl⟩
    exact ⟨k, rfl⟩
  · intro h
    obtain ⟨k, hk, rfl⟩ := meets_lt hp h
    exact ⟨k, List.mem_range.2 hk, rfl⟩
theorem orb_nodup {n : Nat} (hP : PermOn f D) (hx : x ∈ D) (hn : D.length ≤ n) : (orb f n x).Nodup := by
  obtain ⟨p, hp, hpl⟩ := hP.period hx
  refine Classical.byContradiction fun h => ?_
  obtain ⟨i, j, hij, hj, e⟩ := not_nodup h
  rw [orb_len hp (by omega)] at hj
  rw [orb_get hp (by omega) (by omega), orb_get hp (by omega) hj] at e
  refine hp.2.2 (j - i) (by omega) (by omega) (hP.back hx (hP.iter hx (j - i)) i ?_).symm
  rw [← iter_add, show i + (j - i) = j by omega]
  exact e

/-- The least of its orbit? -/
def leastB (f : Int → Int) (n : Nat) (d : Int) : Bool := (orb f n d).all fun y => decide (d ≤ y)
/-- The orbits, by their least numbers. -/
def faces (f : Int → Int) (n : Nat) (D : List Int) : List (Int × List Int) := (D.filter (leastB f n)).map fun d => (d, orb f n d)
theorem faces_append (f : Int → Int) (n : Nat) (a b : List Int) : faces f n (a ++ b) = faces f n a ++ faces f n b := by simp [faces]
/-- What has not been met from the first k. -/
def leftB (f : Int → Int) (n : Nat) (D : List Int) (k : Nat) (x : Int) : Bool := D.contains x && (D.take k).all fun y => !(orb f n x).contains y
theorem leftB_iff {n k : Nat} (hP : PermOn f D) (hn : D.length ≤ n) : leftB f n D k x = true ↔ x ∈ D ∧ ∀ y ∈ D.take k, ¬ Meets f x y := by
  unfold leftB
  rw [Bool.and_eq_true, List.contains_iff_mem, List.all_eq_true]
  constructor
  · rintro ⟨h1, h2⟩
    refine ⟨h1, fun y hy hm => ?_⟩
    have := h2 y hy
    rw [(List.contains_iff_mem (a := y)).2 ((mem_orb hP h1 hn).2 hm)] at this
    cases this
  · rintro ⟨h1, h2⟩
    refine ⟨h1, fun y hy => ?_⟩
    cases hc : (orb f n x).contains y with
    | false => rfl
    | true => exact absurd ((mem_orb hP h1 hn).1 (List.contains_iff_mem.1 hc)) (h2 y hy)
theorem left_meets {n k : Nat} (hP : PermOn f D) (hn : D.length ≤ n) (h : leftB f n D k x = true) (hm : Meets f x y) : leftB f n D k y = true := by
  rw [leftB_iff hP hn] at h ⊢
  exact ⟨hm.in_ hP h.1, fun z hz hyz => h.2 z hz (hm.trans hyz)⟩
/-- d comes next: it has been met, or it is the least of its orbit. -/
theorem left_next {n k : Nat} (hP : PermOn f D) (hs : D.Pairwise (· < ·)) (hn : D.length ≤ n) (hk : k < D.length) (hd : D.getD k 0 = d) : leftB f n D k d = leastB f n d := by
  have hdm : d ∈ D := by rw [← hd, getD_idx hk]; exact List.getElem_mem _
  rw [Bool.eq_iff_iff, leftB_iff hP hn]
  unfold leastB
  rw [List.all_eq_true]
  constructor
  · rintro ⟨_, h2⟩ y hy
    rw [mem_orb hP hdm hn] at hy
    have hyD := hy.in_ hP hdm
    obtain ⟨j, hj, rfl⟩ := List.getElem_of_mem hyD
    rw [decide_eq_true_eq]
    rcases Nat.lt_or_ge j k with h | h
    · refine absurd hy (h2 _ ?_)
      rw [List.mem_take_iff_getElem]
      exact ⟨j, by omega, rfl⟩
    · rw [← hd, getD_idx hk]
      rcases Nat.lt_or_ge k j with h' | h'
      · exact Int.le_of_lt (List.pairwise_iff_getElem.1 hs k j hk hj h')
      · obtain rfl : k = j := by omega
        exact Int.le_refl _
  · intro h
    refine ⟨hdm, fun y hy hm => ?_⟩
    have h1 := h y ((mem_orb hP hdm hn).2 hm)
    rw [decide_eq_true_eq] at h1
    rw [List.mem_take_iff_getElem] at hy
    obtain ⟨j, hj, rfl⟩ := hy
    have := List.pairwise_iff_getElem.1 hs j k (by omega) hk (by omega)
    rw [← hd, getD_idx hk] at h1
    omega
theorem left_skip {n k : Nat} (hP : PermOn f D) (hn : D.length ≤ n) (hk : k < D.length) (hd : D.getD k 0 = d) (h : leftB f n D k d = false) : leftB f n D (k + 1) x = leftB f n D k x := by
  have hdm : d ∈ D := by rw [← hd, getD_idx hk]; exact List.getElem_mem _
  rw [Bool.eq_iff_iff, leftB_iff hP hn, leftB_iff hP hn, take_getD hk hd]
  constructor
  · rintro ⟨h1, h2⟩
    exact ⟨h1, fun y hy => h2 y (List.mem_append_left _ hy)⟩
  · rintro ⟨h1, h2⟩
    refine ⟨h1, fun y hy hm => ?_⟩
    rcases List.mem_append.1 hy with hy | hy
    · exact h2 y hy hm
    · rw [List.mem_singleton] at hy
      subst hy
      have hl : leftB f n D k x = true := (leftB_iff hP hn).2 ⟨h1, h2⟩
      rw [left_meets hP hn hl hm] at h
      cases h
theorem left_go {n k : Nat} (hP : PermOn f D) (hn : D.length ≤ n) (hk : k < D.length) (hd : D.getD k 0 = d) : leftB f n D (k + 1) x = (leftB f n D k x && !(orb f n d).contains x) := by
  have hdm : d ∈ D := by rw [← hd, getD_idx hk]; exact List.getElem_mem _
  rw [Bool.eq_iff_iff, Bool.and_eq_true, leftB_iff hP hn, leftB_iff hP hn, take_getD hk hd]
  constructor
  · rintro ⟨h1, h2⟩
    refine ⟨⟨h1, fun y hy => h2 y (List.mem_append_left _ hy)⟩, ?_⟩
    cases hc : (orb f n d).contains x with
    | false => rfl
    | true => exact absurd (((mem_orb hP hdm hn).1 (List.contains_iff_mem.1 hc)).symm hP hdm) (h2 d (by simp))
  · rintro ⟨⟨h1, h2⟩, h3⟩
    refine ⟨h1, fun y hy hm => ?_⟩
    rcases List.mem_append.1 hy with hy | hy
    · exact h2 y hy hm
    · rw [List.mem_singleton] at hy
      subst hy
      rw [List.contains_iff_mem.2 ((mem_orb hP hdm hn).2 (hm.symm hP h1))] at h3
      cases h3
theorem left_all {n : Nat} (hx : x ∈ D) : leftB f n D 0 x = true := by
  unfold leftB
  rw [List.contains_iff_mem.2 hx]
  rfl
theorem left_out {n k : Nat} (hx : x ∉ D) : leftB f n D k x = false := by
  unfold leftB
  cases hc : D.contains x with
  | false => rfl
  | true => exact absurd (List.contains_iff_mem.1 hc) hx
theorem faces_next {n k : Nat} (hk : k < D.length) (hd : D.getD k 0 = d) : faces f n (D.take (k + 1)) = faces f n (D.take k) ++ if leastB f n d then [(d, orb f n d)] else [] := by
  rw [take_getD hk hd, faces_append]
  congr 1
  unfold faces
  cases h : leastB f n d <;> simp [h]
end

/-- The dart behind one around its face. -/
def nx (es : List (Int × Int)) (tt : List (List Int)) (x : Int) : Int := stepOf es tt (twin x) (-1)
section
variable {N : Int} {es : List (Int × Int)} {vs xs : List Int} {tt : List (List Int)}
theorem twin_inj {x y : Int} (h : twin x = twin y) : x = y := by rw [← twin_twin x, h, twin_twin]
theorem nx_perm (hp : POK N es vs xs) (hT : TurnOK N es xs tt) : PermOn (nx es tt) (allDarts xs) := by
  refine ⟨fun x hx => ?_, fun x hx y hy e => ?_⟩
  · rw [mem_allDarts] at hx ⊢
    exact (step_mem hp hT (by rw [twin_half]; exact hx) (-1)).1
  · rw [mem_allDarts] at hx hy
    have h1 := (step_step (d := twin x) hp hT (by rw [twin_half]; exact hx)).2
    have h2 := (step_step (d := twin y) hp hT (by rw [twin_half]; exact hy)).2
    unfold nx at e
    rw [e] at h1
    exact twin_inj (h1.symm.trans h2)
/-- Of the vertices without darts. -/
def lone (tt : List (List Int)) (vs : List Int) : List (Int × List Int) := (vs.reverse.filter fun v => decide ((tt.getD v.toNat []).length = 0)).map fun v => (-1 - v, [])
/-- All walks. -/
def walksOf (es : List (Int × Int)) (tt : List (List Int)) (vs xs : List Int) : List (Int × List Int) := lone tt vs ++ faces (nx es tt) (2 * xs.length) (allDarts xs)
end
end Go.Proofs.Ythobfbnopkbniaa
end

section
namespace Go.Proofs.Ythobfbnopkbniaa
open Go.RowKit

/-- A type of slices of walks, and the walks'. -/
def WT (ts tw : TypeId) : Prop := Try.prog.underlying ts = some (.slice tw) ∧ (Try.prog.info? tw).map (fun i => (i.zero, i.size, i.bytes)) = some (some (.agg #[.int .i64 0, .slice none 0 0]), 2, 32)
theorem wtFace : WT 72 76 := ⟨Try.underlying72, by kernel_rfl⟩
theorem wtRef : WT 81 83 := ⟨Try.underlying81, by kernel_rfl⟩

/-- v: a row of the call's own that holds walks; they read as L. -/
structure OwnW (tw : TypeId) (w0 w : World) (v : Value) (L : List (Int × List Int)) : Prop where
  row : ∃ vs : List Value, w.ownsRow w0.heap.size tw 2 v L.length vs ∧ ∀ j, j < L.length → vs[j * 2]? = some (.int .i64 (L.getD j (0, [])).1) ∧ ∃ u, vs[j * 2 + 1]? = some u ∧ RowAt w v.ownBlock u (L.getD j (0, [])).2
  key : ∀ p ∈ L, I64 p.1
  below : Below w0.heap.size w0 w
/-- A slice of walks reads as L, below block B. -/
def WS (w : World) (B : Nat) (A : Option Addr) (n c : Nat) (L : List (Int × List Int)) : Prop :=
  L.length = n ∧ n ≤ c ∧ c ≤ 9223372036854775807 ∧ (∀ p ∈ L, I64 p.1) ∧
    (0 < n → ∃ b o, A = some ⟨b, o, none⟩ ∧ b < B ∧ ∀ j, j < n → w.cell? ⟨b, o + j * 2, none⟩ = some (.int .i64 (L.getD j (0, [])).1) ∧ ∃ Aj nj cj, w.cell? ⟨b, o + j * 2 + 1, none⟩ = some (.slice Aj nj cj) ∧ IS w B Aj nj cj (L.getD j (0, [])).2)
section
variable {w w' : World} {B B' n c : Nat} {A : Option Addr} {L : List (Int × List Int)}
theorem WS.len (h : WS w B A n c L) : L.length = n := h.1
theorem WS.le (h : WS w B A n c L) : n ≤ c := h.2.1
theorem WS.cap (h : WS w B A n c L) : c ≤ 9223372036854775807 := h.2.2.1
theorem WS.none_ : WS w B none 0 0 [] := ⟨rfl, Nat.le_refl _, by omega, by simp, fun h => absurd h (by omega)⟩
theorem WS.mem (h : WS w B A n c L) {k : Nat} (hk : k < n) : L.getD k (0, []) ∈ L := by
  have hl : k < L.length := by rw [h.len]; exact hk
  rw [List.getD_eq_getElem?_getD, List.getElem?_eq_getElem hl]
  exact List.getElem_mem hl
theorem WS.get (h : WS w B A n c L) {k : Nat} (hk : k < n) : ∃ b o y t A' n' c', A = some ⟨b, o, none⟩ ∧ b < B ∧ Hid (L.getD k (0, []) = (y, t)) ∧ I64 y ∧ w.cell? ⟨b, o + k * 2, none⟩ = some (.int .i64 y) ∧ w.cell? ⟨b, o + k * 2 + 1, none⟩ = some (.slice A' n' c') ∧ IS w B A' n' c' t := by
  obtain ⟨b, o, e, hb, hc⟩ := h.2.2.2.2 (by omega)
  obtain ⟨h1, A', n', c', h2, h3⟩ := hc k hk
  exact ⟨b, o, _, _, A', n', c', e, hb, Lib.hid rfl, h.2.2.2.1 _ (h.mem hk), h1, h2, h3⟩
theorem WS.below (h : WS w B A n c L) (hb : Below B w w') : WS w' B A n c L :=
  ⟨h.1, h.2.1, h.2.2.1, h.2.2.2.1, fun hn => by
    obtain ⟨b, o, e, hbB, hc⟩ := h.2.2.2.2 hn
    refine ⟨b, o, e, hbB, fun j hj => ?_⟩
    obtain ⟨h1, A', n', c', h2, h3⟩ := hc j hj
    exact ⟨(hb.cell (p := ⟨b, o + j * 2, none⟩) hbB).trans h1, A', n', c', (hb.cell (p := ⟨b, o + j * 2 + 1, none⟩) hbB).trans h2, h3.below hb⟩⟩
theorem WS.more (h : WS w B A n c L) (hB : B ≤ B') : WS w B' A n c L :=
  ⟨h.1, h.2.1, h.2.2.1, h.2.2.2.1, fun hn => by
    obtain ⟨b, o, e, hbB, hc⟩ := h.2.2.2.2 hn
    refine ⟨b, o, e, by omega, fun j hj => ?_⟩
    obtain ⟨h1, A', n', c', h2, h3⟩ := hc j hj
    exact ⟨h1, A', n', c', h2, h3.more hB⟩⟩
theorem WS.step (h : WS w w.heap.size A n c L) (hb : Below w.heap.size w w') : WS w' w'.heap.size A n c L := (h.below hb).more hb.size
end

section
variable {tw ts : TypeId} {w0 w w' : World} {v : Value} {L : List (Int × List Int)}
theorem OwnW.start_at (hb : Below w0.heap.size w0 w) : OwnW tw w0 w (.slice none 0 0) [] := ⟨⟨[], World.ownsRow_nil _ _ _ _, fun j hj => absurd hj (by simp)⟩, by simp, hb⟩
theorem OwnW.kept {row : Option Nat} (h : OwnW tw w0 w v L) (hg : w.grownBy w' row) (hr : ∀ k, row = some k → w0.heap.size ≤ k) (hv : v.ownBlock = none ∨ v.ownBlock ≠ row)
    (hin : ∀ (a : Addr) (x : Int), w.cell? a = some (.int .i64 x) → some a.block ≠ v.ownBlock → row ≠ some a.block) : OwnW tw w0 w' v L := by
  obtain ⟨vs, h1, h2⟩ := h.row
  refine ⟨⟨vs, h1.kept hg hv, fun j hj => ?_⟩, h.key, h.below.grown hg h.below.size hr⟩
  obtain ⟨e1, u, hu, A, n, c, rfl, his, hne⟩ := h2 j hj
  refine ⟨e1, _, hu, A, n, c, rfl, ⟨his.1, his.2.1, his.2.2.1, his.2.2.2.1, fun hn => ?_⟩, hne⟩
  obtain ⟨b, o, rfl, hb, hc⟩ := his.at_ hn
  refine ⟨b, o, rfl, Nat.lt_of_lt_of_le hb hg.size, fun i hi => ?_⟩
  rw [← hc i hi]
  exact World.cell?_of_block (hg.block b hb (fun e => hin ⟨b, o + i, none⟩ _ (hc i hi) (fun e' => hne hn _ rfl e'.symm) e.symm))
theorem OwnW.later (h : OwnW tw w0 w v L) (hb : Below w.heap.size w w') : OwnW tw w0 w' v L :=
  h.kept (row := none) ⟨hb.os, hb.tape, hb.output, hb.size, fun i hi _ => hb.block i hi⟩ (fun k hk => by cases hk) (by cases hv : v.ownBlock <;> simp) (fun _ _ _ _ h => by cases h)
theorem OwnW.slice (h : OwnW tw w0 w v L) : ∃ A n c, v = .slice A n c := by
  obtain ⟨vs, h1, _⟩ := h.row
  rcases h1.2 with ⟨rfl, _⟩ | ⟨g, cap, cur, rfl, _⟩
  · exact ⟨_, _, _, rfl⟩
  · exact ⟨_, _, _, rfl⟩
theorem OwnW.owns (h : OwnW tw w0 w v L) {k : Nat} (hk : v.ownBlock = some k) : ∃ cur, w.heap[k]? = some (.cells cur tw (0, 0)) ∧ w0.heap.size ≤ k := by
  obtain ⟨xs, h1, _⟩ := h.row
  rcases h1.2 with ⟨rfl, _⟩ | ⟨g', cap, cur, rfl, hb, hh, _⟩
  · simp [Value.ownBlock] at hk
  · have : g' = k := by simpa [Value.ownBlock] using hk
    subst this
    exact ⟨cur, hh, hb⟩
theorem OwnW.ws (h : OwnW tw w0 w v L) (hl : L.length ≤ 1000000) : ∃ A n c, v = .slice A n c ∧ WS w w.heap.size A n c L := by
  obtain ⟨vs, h1, h2⟩ := h.row
  rcases h1.2 with ⟨rfl, hx⟩ | ⟨g, cap, cur, rfl, hb, hg, hnc, hcm, hcs, htake⟩
  · have : L = [] := by
      have h3 : vs.length = L.length * 2 := h1.1
      rw [hx] at h3
      exact List.eq_nil_of_length_eq_zero (by simp at h3; omega)
    subst this
    exact ⟨none, 0, 0, rfl, WS.none_⟩
  · refine ⟨_, _, _, rfl, rfl, hnc, hcm, h.key, fun hn => ⟨g, 0, rfl, (Array.getElem?_eq_some_iff.1 hg).1, fun j hj => ?_⟩⟩
    obtain ⟨e1, u, hu, A, n, c, rfl, his, _⟩ := h2 j hj
    have c1 := h1.cellAt (j * 2) (by omega)
    have c2 := h1.cellAt (j * 2 + 1) (by omega)
    simp only [Nat.zero_add]
    exact ⟨c1.trans e1, A, n, c, c2.trans hu, his⟩
end

set_option maxHeartbeats 1000000 in
/-- 'append(v, Walk{..})': it has been laid into a block of its own. -/
theorem run_append_walk {tw ts : TypeId} (hW : WT ts tw) {w0 w : World} {v : Value} {L : List (Int × List Int)} (hown : OwnW tw w0 w v L) {y : Int} (hy : I64 y) {A : Option Addr} {n c : Nat} {t : List Int} (ht : RowAt w v.ownBlock (.slice A n c) t) (hl : L.length + 1 ≤ 1000000) (ty : TypeId) :
    ∃ v' w', (Builtin.append_ #[ts, ts] ty #[v, .slice (some ⟨w.heap.size, 0, none⟩) 1 1]).run Try.prog (w.alloc (.cells #[.int .i64 y, .slice A n c] tw)) = .ok v' w' ∧
      OwnW tw w0 w' v' (L ++ [(y, t)]) ∧ (w.alloc (.cells #[.int .i64 y, .slice A n c] tw)).grownBy w' v.ownBlock ∧ (v'.ownBlock = v.ownBlock ∨ v'.ownBlock = some (w.heap.size + 1)) := by
  obtain ⟨i0, hi, hz0, hz1, hz2⟩ := info_parts hW.2
  obtain ⟨vs, h1, h2⟩ := hown.row
  have hbl : Below w0.heap.size w0 (w.alloc (.cells #[.int .i64 y, .slice A n c] tw)) := hown.below.alloc hown.below.size _
  obtain ⟨v', w', hrun, g1, g2, _, g3⟩ := run_append_own_at (P := Try.prog) (w.alloc (.cells #[.int .i64 y, .slice A n c] tw)) w0.heap.size ts ty tw i0 (.agg #[.int .i64 0, .slice none 0 0]) 2 32 hW.1 hi hz0 hz1 hz2 rfl (by decide)
    v L.length vs (h1.alloc _) ⟨w.heap.size, 0, none⟩ 1 1 [.int .i64 y, .slice A n c] rfl (fun j u hj => by
      match j, hj with
      | 0, hj => simp at hj; subst hj; simp [Addr.add]
      | 1, hj => simp at hj; subst hj; simp [Addr.add]) (by intro u hu; simp at hu; rcases hu with rfl | rfl <;> rfl) (by unfold maxLen; omega) (by omega) (by have := hown.below.size; simp; omega)
  have hsz' : (w.alloc (.cells #[.int .i64 y, .slice A n c] tw)).heap.size = w.heap.size + 1 := by simp
  have hs2 := g2.size
  have hkeep : ∀ b, b < w.heap.size → some b ≠ v.ownBlock → w'.heap[b]? = w.heap[b]? := fun b hb hne => (g2.block b (by omega) hne).trans (Below.heap_alloc _ _ _ hb)
  have hgg : v'.ownBlock = v.ownBlock ∨ ∀ b, v'.ownBlock = some b → w.heap.size ≤ b := by
    rcases g3 with h | h
    · exact .inl h
    · refine .inr fun b hb => ?_
      rw [h] at hb
      injection hb with hb
      omega
  have hlen : vs.length = L.length * 2 := h1.1
  refine ⟨v', w', hrun, ⟨⟨vs ++ [.int .i64 y, .slice A n c], by rw [List.length_append]; exact g1, fun j hj => ?_⟩, fun p hp => ?_, hbl.grown g2 hbl.size (fun k hk => (h1.lt k hk).1)⟩, g2, by rw [hsz'] at g3; exact g3⟩
  · rw [List.length_append] at hj
    simp only [List.length_cons, List.length_nil] at hj
    rcases Nat.lt_or_ge j L.length with hjl | hjl
    · obtain ⟨e1, u, hu, hr⟩ := h2 j hjl
      have e : (L ++ [(y, t)]).getD j (0, []) = L.getD j (0, []) := by rw [List.getD_eq_getElem?_getD, List.getElem?_append_left hjl, ← List.getD_eq_getElem?_getD]
      rw [e]
      exact ⟨by rw [List.getElem?_append_left (by omega)]; exact e1, u, by rw [List.getElem?_append_left (by omega)]; exact hu, hr.keep (by omega) hkeep hgg⟩
    · obtain rfl : j = L.length := by omega
      have e : (L ++ [(y, t)]).getD L.length (0, []) = (y, t) := by
        rw [List.getD_eq_getElem?_getD, List.getElem?_append_right (Nat.le_refl _)]
        simp
      rw [e]
      refine ⟨?_, .slice A n c, ?_, ht.keep (by omega) hkeep hgg⟩
      · rw [← hlen, List.getElem?_append_right (Nat.le_refl _)]; simp
      · rw [← hlen, List.getElem?_append_right (by omega)]; simp
  · rcases List.mem_append.1 hp with h | h
    · exact hown.key p h
    · rw [List.mem_singleton] at h
      subst h
      exact hy
theorem wpList_append_walk {tw ts : TypeId} (hW : WT ts tw) {w0 w : World} {v : Value} {L : List (Int × List Int)} {ops : Array Oper} {rest : List Oper} {o : Oper} {a : Act} {Q : Exit → Act → World → Prop} (hgd : o.guard = none) (s x : Operand)
    (ho : o.op = .call { callee := .builtin .append, args := #[s, x], argTypes := #[ts, ts] }) (hs : a.eval s = v) (hown : OwnW tw w0 w v L) {y : Int} (hy : I64 y) {A : Option Addr} {n c : Nat} {t : List Int}
    (ht : RowAt w v.ownBlock (.slice A n c) t) (hx : a.eval x = .slice (some ⟨w.heap.size, 0, none⟩) 1 1) (hl : L.length + 1 ≤ 1000000)
    (h : ∀ v' w', OwnW tw w0 w' v' (L ++ [(y, t)]) → (w.alloc (.cells #[.int .i64 y, .slice A n c] tw)).grownBy w' v.ownBlock → (v'.ownBlock = v.ownBlock ∨ v'.ownBlock = some (w.heap.size + 1)) → wpList Try.prog ops Q rest (a.put o.dst v') w') :
    wpList Try.prog ops Q (o :: rest) a (w.alloc (.cells #[.int .i64 y, .slice A n c] tw)) := by
  obtain ⟨v', w', hrun, h2, h3, h4⟩ := run_append_walk hW hown hy ht hl o.type
  refine wpList_plain hgd fun K hK => ?_
  unfold Oper.wp execOp
  simp only [ho, resolve, invoke, builtin, Sem.run_bind, Sem.run_pure, Result.andThen_ok, List.map_toArray, List.map_cons, List.map_nil, hs, hx, hrun]
  exact hK _ _ (h v' w' h2 h3 h4)

/-- 'delete(m, k)', m a map[int]int. -/
theorem wpList_idelete {w : World} {b n : Nat} {g : Int → Option Int} {ops : Array Oper} {rest : List Oper} {o : Oper} {a : Act} {Q : Exit → Act → World → Prop} (hg : o.guard = none) (m x : Operand)
    (hop : o.op = Op.call { callee := Callee.builtin Builtin.delete, args := #[m, x], argTypes := #[52, 3] })
    (hm : a.eval m = .map (some b)) (h : MI w b n g) (k : Int) (hx : a.eval x = .int .i64 k) (hk : I64 k)
    (hK : ∀ w' n', n' ≤ n → MI w' b n' (del g k) → w.grownBy w' (some b) → wpList Try.prog ops Q rest (a.put o.dst (.tuple #[])) w') : wpList Try.prog ops Q (o :: rest) a w := by
  obtain ⟨D, h1, h2, h3⟩ := h
  refine wpList_delete_own w hg m x 52 3 hop 3 keyedInt Try.underlying52 asIs b n D hm h1 (.int .i64 k) (.int .i64 k) hx (keyInt hk) fun w' h4 h5 => ?_
  have hsz := Maps.size_del (h1.tidy keyedInt) (k := Lit.int .i64 k)
  refine hK w' (Maps.size (D.del (.int .i64 k))) (by omega) ⟨D.del (.int .i64 k), ownsMap_exact h4, rfl, fun j hj => ?_⟩ h5.grown
  by_cases he : j = k
  · subst he
    refine ⟨fun _ => Maps.has_del_same, fun v hv => by simp [del] at hv⟩
  · have hne : Lit.int .i64 j ≠ Lit.int .i64 k := fun h => he (by injection h)
    have hu : del g k j = g j := by simp [del, he]
    dsimp only
    rw [hu, Maps.has_del_other hne]
    refine ⟨(h3 j hj).1, fun v hv => ⟨((h3 j hj).2 v hv).1, fun z => ?_⟩⟩
    rw [Maps.atKey_del_other hne]
    exact ((h3 j hj).2 v hv).2 z
end Go.Proofs.Ythobfbnopkbniaa
end
