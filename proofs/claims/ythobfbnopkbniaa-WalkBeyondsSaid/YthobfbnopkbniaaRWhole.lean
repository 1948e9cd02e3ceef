/-
  The contract of traceryref04.Whole, for graphs of at most 1024 vertices and 1024 edges. No other conditions.
-/
import Derived.Test.YthobfbnopkbniaaRXor
namespace Go.Proofs.Ythobfbnopkbniaa
open Go.RowKit

/-- The numbers from 0 on. -/
def upto : Nat → List Int
  | 0 => []
  | n + 1 => upto n ++ [(n : Int)]
theorem upto_len : ∀ n, (upto n).length = n
  | 0 => rfl
  | n + 1 => by simp [upto, upto_len n]

theorem IS.apart {w w' : World} {rb : Nat} {A : Option Addr} {n c : Nat} {xs : List Int} (h : IS w w.heap.size A n c xs) (hg : w.grownBy w' (some rb)) (hne : ∀ a, A = some a → a.block ≠ rb) : IS w' w'.heap.size A n c xs := by
  refine ⟨h.1, h.2.1, h.2.2.1, h.2.2.2.1, fun hn => ?_⟩
  obtain ⟨g, o, e, hgb, hc⟩ := h.at_ hn
  refine ⟨g, o, e, Nat.lt_of_lt_of_le hgb hg.size, fun j hj => ?_⟩
  rw [← hc j hj]
  exact World.cell?_of_block (hg.block g hgb (fun e' => hne _ e (by injection e')))

/-- The part, as it is filled. -/
structure WInv (w wr : World) (pb : Nat) (v1 v2 : Value) (xs ys : List Int) : Prop where
  box : wr.heap[pb]? = some (.cells #[v1, v2] 27 (0, 0))
  r1 : Own w wr v1 xs
  r2 : Own w wr v2 ys
  new : w.heap.size ≤ pb
  apart : v1.ownBlock = none ∨ v1.ownBlock ≠ v2.ownBlock

section
variable {w wr w' : World} {pb : Nat} {v1 v2 : Value} {xs ys : List Int}
theorem Own.ownsInt (h : Own w wr v1 xs) {k : Nat} (hk : v1.ownBlock = some k) : ∃ cur, wr.heap[k]? = some (.cells cur 3 (0, 0)) ∧ w.heap.size ≤ k := by
  rcases h.row.2 with ⟨rfl, _⟩ | ⟨g', cap, cur, rfl, hb, hh, _⟩
  · simp [Value.ownBlock] at hk
  · have : g' = k := by simpa [Value.ownBlock] using hk
    subst this
    exact ⟨cur, hh, hb⟩
theorem Own.notPart (h : Own w wr v1 xs) {cs : Array Value} (hb : wr.heap[pb]? = some (.cells cs 27 (0, 0))) : v1.ownBlock ≠ some pb := by
  intro e
  obtain ⟨cur, hc, _⟩ := h.ownsInt e
  rw [hb] at hc
  injection hc with hc
  injection hc with _ ht
  revert ht
  decide
theorem Own.slice_ (h : Own w wr v1 xs) : ∃ A n c, v1 = .slice A n c := by
  obtain ⟨A, n, c, e, _⟩ := h.is
  exact ⟨A, n, c, e⟩
theorem WInv.lt (h : WInv w wr pb v1 v2 xs ys) : pb < wr.heap.size := (Array.getElem?_eq_some_iff.1 h.box).1
theorem WInv.cell (h : WInv w wr pb v1 v2 xs ys) (i : Nat) : wr.cell? ⟨pb, i, none⟩ = #[v1, v2][i]? := cell_of_row wr pb i _ _ _ h.box
theorem WInv.mid (h : WInv w wr pb v1 v2 xs ys) {o : Obj} {v : Value} (hv : v = v1 ∨ v = v2) (hg : (wr.alloc o).grownBy w' v.ownBlock) (i : Nat) (hi : i < 2) :
    w'.heap[pb]? = some (.cells #[v1, v2] 27 (0, 0)) ∧ (∃ u, w'.cell? ⟨pb, i, none⟩ = some u) ∧ w'.frozen? ⟨pb, i, none⟩ = false := by
  have hlt := h.lt
  have hsz : (wr.alloc o).heap.size = wr.heap.size + 1 := by simp
  have hne : v.ownBlock ≠ some pb := by
    rcases hv with rfl | rfl
    · exact h.r1.notPart h.box
    · exact h.r2.notPart h.box
  have hbox := ((hg.block pb (by omega) (fun e => hne e.symm)).trans (Below.heap_alloc _ _ _ hlt)).trans h.box
  refine ⟨hbox, ?_, by simp [World.frozen?, hbox]⟩
  rw [cell_of_row w' pb i _ _ _ hbox]
  match i, hi with
  | 0, _ => exact ⟨_, rfl⟩
  | 1, _ => exact ⟨_, rfl⟩
theorem WInv.put1 (h : WInv w wr pb v1 v2 xs ys) (h2 : v2.ownBlock = none) {o : Obj} {v' : Value} {xs' : List Int} (hr : Own w w' v' xs') (hg : (wr.alloc o).grownBy w' v1.ownBlock) :
    WInv w (w'.setCell ⟨pb, 0, none⟩ v') pb v' v2 xs' ys := by
  have hlt := h.lt
  obtain ⟨hbox, _, _⟩ := h.mid (.inl rfl) hg 0 (by omega)
  have hset : w'.grownBy (w'.setCell ⟨pb, 0, none⟩ v') (some pb) := ⟨rfl, rfl, rfl, by simp [World.setCell], fun i _ hi => Below.heap_setCell _ _ _ _ (fun e => hi (by rw [e]))⟩
  have h2' : Own w w' v2 ys := (h.r2.alloc o).kept hg (fun k hk => (h.r1.row.lt k hk).1) (.inl h2)
  refine ⟨by simp [World.setCell, Array.getElem?_modify, hbox], hr.kept hset (fun k hk => by cases hk; exact h.new) (.inr (hr.notPart hbox)), h2'.kept hset (fun k hk => by cases hk; exact h.new) (.inl h2), h.new, ?_⟩
  rw [h2]
  cases v'.ownBlock <;> simp
theorem WInv.put2 (h : WInv w wr pb v1 v2 xs ys) {o : Obj} {v' : Value} {ys' : List Int} (hr : Own w w' v' ys') (hg : (wr.alloc o).grownBy w' v2.ownBlock) (ho : v'.ownBlock = v2.ownBlock ∨ v'.ownBlock = some (wr.heap.size + 1)) :
    WInv w (w'.setCell ⟨pb, 1, none⟩ v') pb v1 v' xs ys' := by
  have hlt := h.lt
  obtain ⟨hbox, _, _⟩ := h.mid (.inr rfl) hg 1 (by omega)
  have hset : w'.grownBy (w'.setCell ⟨pb, 1, none⟩ v') (some pb) := ⟨rfl, rfl, rfl, by simp [World.setCell], fun i _ hi => Below.heap_setCell _ _ _ _ (fun e => hi (by rw [e]))⟩
  have h1' : Own w w' v1 xs := (h.r1.alloc o).kept hg (fun k hk => (h.r2.row.lt k hk).1) h.apart
  refine ⟨by simp [World.setCell, Array.getElem?_modify, hbox], h1'.kept hset (fun k hk => by cases hk; exact h.new) (.inr (h1'.notPart hbox)), hr.kept hset (fun k hk => by cases hk; exact h.new) (.inr (hr.notPart hbox)), h.new, ?_⟩
  rcases ho with e | e
  · rw [e]; exact h.apart
  · rw [e]
    cases hv : v1.ownBlock with
    | none => exact .inl rfl
    | some k =>
      refine .inr fun e' => ?_
      injection e' with e'
      obtain ⟨cur, hc, _⟩ := h.r1.ownsInt hv
      have := (Array.getElem?_eq_some_iff.1 hc).1
      omega
end

set_option maxHeartbeats 4000000 in
set_option maxRecDepth 100000 in
theorem whole_any (w : World) (N : Int) (A : Option Addr) (m c : Nat) (es : List (Int × Int)) (h : ES w w.heap.size A m c es) (hN0 : 0 ≤ N) (hN : N ≤ 1024) (hm : m ≤ 1024) :
    Calls Try.prog 61 #[.agg #[.int .i64 N, .slice A m c]] w fun e w' => ∃ A1 n1 c1 A2 n2 c2, e = .returned (.agg #[.slice A1 n1 c1, .slice A2 n2 c2]) ∧ IS w' w'.heap.size A1 n1 c1 (upto N.toNat) ∧ IS w' w'.heap.size A2 n2 c2 (upto m) ∧ Below w.heap.size w w' := by
  obtain ⟨n, rfl⟩ := Int.eq_ofNat_of_zero_le hN0
  obtain ⟨w1, hw1, b1, s1, c1⟩ := box_one w #[.int .i64 n, .slice A m c] 24
  obtain ⟨w2, hw2, b2, s2, k2⟩ := box_one w1 #[.slice none 0 0, .slice none 0 0] 27
  have g0 : w2.cell? ⟨w.heap.size, 0, none⟩ = some (.int .i64 n) := (b2.cell (p := ⟨w.heap.size, 0, none⟩) s1).trans (c1 0)
  have g1 : w2.cell? ⟨w.heap.size, 1, none⟩ = some (.slice A m c) := (b2.cell (p := ⟨w.heap.size, 1, none⟩) s1).trans (c1 1)
  have hgl : w.heap.size < w2.heap.size := by omega
  have hst : WInv w2 (w2.alloc (.cells #[.slice none 0 0, .slice none 0 0] 27)) w2.heap.size (.slice none 0 0) (.slice none 0 0) [] [] :=
    ⟨heap_alloc_new _ _, (Own.start w2).alloc _, (Own.start w2).alloc _, Nat.le_refl _, .inl rfl⟩
  have hm64 := h.cap
  have hmc := h.le
  have H := Lib.hid h
  have B12 := Lib.hid (bstep b1 b2)
  have K2 := Lib.hid k2
  clear h c1 k2 b1 b2
  go_enter Try.func61, Try.ntmps61
  go_wp2
  go_loopw [4] (fun i wr => ∃ k : Nat, k ≤ n ∧ i = .int .i64 k ∧ ∃ v, WInv w2 wr w2.heap.size v (.slice none 0 0) (upto k) []) (fun i _ => n - (intOf i).toNat)
  case atStart => exact ⟨0, Nat.zero_le _, rfl, _, hst⟩
  case round =>
    obtain ⟨k, hk, rfl, v, inv⟩ := hrel
    have q0 := (inv.r1.below.cell (p := ⟨w.heap.size, 0, none⟩) hgl).trans g0
    have q1 := (inv.r1.below.cell (p := ⟨w.heap.size, 1, none⟩) hgl).trans g1
    have e0 := inv.cell 0
    have e1 := inv.cell 1
    obtain ⟨vA, vn, vc, rfl⟩ := inv.r1.slice_
    by_cases hlt : k < n
    · have hz : I64 (k : Int) := ⟨by omega, by omega⟩
      have hll : (upto k).length + 1 ≤ 1000000000000 := by rw [upto_len]; omega
      have INV := Lib.hid inv
      clear inv hst
      go_wp2_with (with_reducible show wpList _ _ _ (Oper.mk (some 16) _ _ _ _ _ :: _) _ _; go_must (refine wpList_append_one (v := .slice vA vn vc) (w0 := w2) rfl _ _ rfl rfl INV.out.r1 _ hz rfl hll ?_; intro v' w5 hown' hg5 hb5; obtain ⟨hbx, ⟨u0, hu0⟩, hf0⟩ := INV.out.mid (.inl rfl) hg5 0 (by omega); obtain ⟨xA, xn, xc, rfl⟩ := hown'.slice_))
      go_roundw
      case rel => exact ⟨k + 1, by omega, by go_num, _, INV.out.put1 rfl hown' hg5⟩
      case measure => simp [intOf]; omega
    · obtain rfl : k = n := by omega
      have hj0 : WInv w2 wr w2.heap.size (.slice vA vn vc) (.slice none 0 0) (upto k) (upto 0) := inv
      clear hst inv e0 e1
      go_wp2
      clear q0 q1
      obtain ⟨wo, hwo⟩ : ∃ wo : World, wo = wr := ⟨_, rfl⟩
      rw [← hwo] at hj0 ⊢
      clear hwo
      go_loopw [5] (fun i wr => ∃ j : Nat, j ≤ m ∧ i = .int .i64 j ∧ ∃ v, WInv w2 wr w2.heap.size (.slice vA vn vc) v (upto k) (upto j)) (fun i _ => m - (intOf i).toNat)
      case atStart => exact ⟨0, Nat.zero_le _, rfl, _, hj0⟩
      case round =>
        obtain ⟨j, hj, rfl, v, inv⟩ := hrel
        have q0 := (inv.r2.below.cell (p := ⟨w.heap.size, 0, none⟩) hgl).trans g0
        have q1 := (inv.r2.below.cell (p := ⟨w.heap.size, 1, none⟩) hgl).trans g1
        have e0 := inv.cell 0
        have e1 := inv.cell 1
        obtain ⟨yA, yn, yc, rfl⟩ := inv.r2.slice_
        by_cases hlt : j < m
        · have hz : I64 (j : Int) := ⟨by omega, by omega⟩
          have hll : (upto j).length + 1 ≤ 1000000000000 := by rw [upto_len]; omega
          have INV := Lib.hid inv
          clear inv hj0
          go_wp2_with (with_reducible show wpList _ _ _ (Oper.mk (some 29) _ _ _ _ _ :: _) _ _; go_must (refine wpList_append_one (v := .slice yA yn yc) (w0 := w2) rfl _ _ rfl rfl INV.out.r2 _ hz rfl hll ?_; intro v' w5 hown' hg5 hb5; obtain ⟨hbx, ⟨u0, hu0⟩, hf0⟩ := INV.out.mid (.inr rfl) hg5 1 (by omega); obtain ⟨xA, xn, xc, rfl⟩ := hown'.slice_))
          go_roundw
          case rel => exact ⟨j + 1, by omega, by go_num, _, INV.out.put2 hown' hg5 hb5⟩
          case measure => simp [intOf]; omega
        · obtain rfl : j = m := by omega
          have hrb2 : w2.heap[w1.heap.size]? = some (.cells #[.slice none 0 0, .slice none 0 0] 27 (0, 0)) := by rw [← hw2]; exact heap_alloc_new _ _
          have hrb : wr.heap[w1.heap.size]? = some (.cells #[.slice none 0 0, .slice none 0 0] 27 (0, 0)) := (inv.r2.below.block _ s2).trans hrb2
          have z0 := cell_of_row wr w1.heap.size 0 _ _ _ hrb
          have z1 := cell_of_row wr w1.heap.size 1 _ _ _ hrb
          have f0 : wr.frozen? ⟨w1.heap.size, 0, none⟩ = false := by simp [World.frozen?, hrb]
          have f1 : wr.frozen? ⟨w1.heap.size, 1, none⟩ = false := by simp [World.frozen?, hrb]
          have i1 := inv.r1.isNew
          have i2 := inv.r2.isNew
          have hbel := inv.r2.below
          clear inv hj0
          go_wp2
          obtain ⟨A1, m1, d1, e1', his1, hnew1⟩ := i1
          obtain ⟨A2, m2, d2, e2', his2, hnew2⟩ := i2
          have hset : ∀ (W : World) (i : Nat) (u : Value), W.grownBy (W.setCell ⟨w1.heap.size, i, none⟩ u) (some w1.heap.size) := fun W i u => ⟨rfl, rfl, rfl, by simp [World.setCell], fun i _ hi => Below.heap_setCell _ _ _ _ (fun e => hi (by rw [e]))⟩
          have hbx : ((wr.setCell ⟨w1.heap.size, 0, none⟩ (.slice vA vn vc)).setCell ⟨w1.heap.size, 1, none⟩ (.slice yA yn yc)).heap[w1.heap.size]? = some (.cells #[.slice vA vn vc, .slice yA yn yc] 27 (0, 0)) := by
            simp [World.setCell, Array.getElem?_modify, hrb]
          try simp only [Exit.inBlock, Exit.then]
          refine bodyPost_ret (results_cell_row rfl _ _ w1.heap.size 27 #[.slice vA vn vc, .slice yA yn yc] (0, 0) _ rfl hbx Try.underlying27 rfl (by kernel_rfl)) rfl ?_
          have j1 := (his1.apart (hset wr 0 (.slice vA vn vc)) (fun a ha => by have := hnew1 a ha; omega)).apart (hset _ 1 (.slice yA yn yc)) (fun a ha => by have := hnew1 a ha; omega)
          have j2 := (his2.apart (hset wr 0 (.slice vA vn vc)) (fun a ha => by have := hnew2 a ha; omega)).apart (hset _ 1 (.slice yA yn yc)) (fun a ha => by have := hnew2 a ha; omega)
          rw [e1', e2'] at j1 j2 ⊢
          refine ⟨A1, m1, d1, A2, m2, d2, rfl, j1, j2, ?_⟩
          have b0 : Below w.heap.size w wr := B12.out.trans (hbel.mono (by omega))
          exact (b0.grown (hset wr 0 _) b0.size (fun k' hk' => by cases hk'; omega)).grown (hset _ 1 _) (by simp [World.setCell]; exact b0.size) (fun k' hk' => by cases hk'; omega)
end Go.Proofs.Ythobfbnopkbniaa
