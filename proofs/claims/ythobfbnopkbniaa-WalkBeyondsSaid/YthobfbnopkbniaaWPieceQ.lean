/-
  Words for the walk of the pieces. Plain theorems; no conditions.
-/
import Derived.Test.YthobfbnopkbniaaWPieceP
import Derived.Test.YthobfbnopkbniaaWRows
import Derived.Test.YthobfbnopkbniaaWRange
import Derived.Test.YthobfbnopkbniaaWReach
import Derived.Test.YthobfbnopkbniaaWBeyondB
namespace Go.Proofs.Ythobfbnopkbniaa
open Go.RowKit

/-- The lists of the pieces, as they are filled. -/
def PFill (es : List (Int × Int)) (f : Int → Option Int) (l ys : List Int) (F : Nat → List Int) : Prop :=
  ∀ j : Nat, F (j * 2) = l.filter (fun x => f x == some (j : Int)) ∧ F (j * 2 + 1) = ys.filter (fun e => f (ends es e).1 == some (j : Int))

section
variable {es : List (Int × Int)} {xs vs l ys : List Int} {n : Nat} {f g : Int → Option Int} {F : Nat → List Int} {x : Int}
theorem PFill.start_ : PFill es (fun _ => none) [] [] (fun _ => []) := fun _ => ⟨rfl, rfl⟩
theorem PFill.grow_ {N : Int} (h : PFill es f l [] F) (hc : PcI es xs vs l n f) (hp : POK N es vs xs) (hf : f x = none) (hd : Dist es xs (-1) x g) : PFill es (grow g f n) l [] F := fun j => by
  refine ⟨?_, (h j).2.trans rfl⟩
  rw [(h j).1]
  refine List.filter_congr fun y hy => ?_
  have hno : (g y).isSome = false := by
    obtain ⟨k, hk⟩ := Option.isSome_iff_exists.1 (hc.all y hy)
    obtain ⟨i, rfl, hi⟩ := hc.lt y k hk
    obtain ⟨r, _, hr⟩ := hc.root i hi
    cases hg : (g y).isSome with
    | false => rfl
    | true =>
      have h1 := (hr y).1 hk
      have h2 := (hd.hang y).1 hg
      have := (hr x).2 (h1.trans (h2.symm hp))
      rw [hf] at this
      cases this
  unfold grow
  rw [hno]
  rfl
theorem PFill.putv (h : PFill es f l ys F) {i : Nat} (hx : f x = some (i : Int)) : PFill es f (l ++ [x]) ys (atN F (i * 2) (F (i * 2) ++ [x])) := fun j => by
  rw [atN_ne _ _ (show j * 2 + 1 ≠ i * 2 by omega)]
  refine ⟨?_, (h j).2⟩
  rw [List.filter_append]
  by_cases e : j = i
  · subst e
    rw [atN_same, (h j).1]
    simp [hx]
  · rw [atN_ne _ _ (by omega), (h j).1]
    have : ((i : Int) == (j : Int)) = false := by simp; omega
    simp [hx, this]
theorem PFill.pute (h : PFill es f l ys F) {e : Int} {i : Nat} (hx : f (ends es e).1 = some (i : Int)) : PFill es f l (ys ++ [e]) (atN F (i * 2 + 1) (F (i * 2 + 1) ++ [e])) := fun j => by
  rw [atN_ne _ _ (show j * 2 ≠ i * 2 + 1 by omega)]
  refine ⟨(h j).1, ?_⟩
  rw [List.filter_append]
  by_cases e' : j = i
  · subst e'
    rw [atN_same, (h j).2]
    simp [hx]
  · rw [atN_ne _ _ (by omega), (h j).2]
    have : ((i : Int) == (j : Int)) = false := by simp; omega
    simp [hx, this]
end

theorem DB.dm {w : World} {B b : Nat} {D : Int → List Int} (h : DB w B b D) (hB : B ≤ w.heap.size) : DM w b D := by
  obtain ⟨_, n, F, h1, h2⟩ := h
  exact ⟨n, F, h1, fun k hk => by
    obtain ⟨A, m, c, e, hi⟩ := h2 k hk
    exact ⟨A, m, c, e, hi.more hB⟩⟩
theorem Own.from {w w0 w' : World} {v : Value} {xs : List Int} (h : Own w0 w' v xs) (hb : Below w.heap.size w w0) : Own w w' v xs := by
  refine ⟨⟨h.row.1, ?_⟩, hb.trans (h.below.mono hb.size), h.i64⟩
  rcases h.row.2 with h' | ⟨g, cap, cur, e, hbg, rest⟩
  · exact .inl h'
  · exact .inr ⟨g, cap, cur, e, Nat.le_trans hb.size hbg, rest⟩
theorem OwnP.from {w w0 w' : World} {v : Value} {n : Nat} {u : Nat → Value} {F : Nat → List Int} (h : OwnP w0 w' v n u F) (hb : Below w.heap.size w w0) : OwnP w w' v n u F := by
  obtain ⟨xs, h1, h2⟩ := h.row
  refine ⟨⟨xs, ⟨h1.1, ?_⟩, h2⟩, fun i => (h.each i).from hb, h.apart, h.rest, hb.trans (h.below.mono hb.size)⟩
  rcases h1.2 with h' | ⟨g, cap, cur, e, hbg, rest⟩
  · exact .inl h'
  · exact .inr ⟨g, cap, cur, e, Nat.le_trans hb.size hbg, rest⟩

/-- What walk.Pieces answers. -/
def PcRes (w : World) (N : Int) (es : List (Int × Int)) (vs xs : List Int) (e : Ending) (w' : World) : Prop :=
  Below w.heap.size w w' ∧ ((pRight N es vs xs ≠ 0 ∧ e = .returned (.tuple #[.slice none 0 0, .int .i64 (pRight N es vs xs)])) ∨
    (pRight N es vs xs = 0 ∧ ∃ v n f u F, e = .returned (.tuple #[v, .int .i64 0]) ∧ OwnP w w' v n u F ∧ PcI es xs vs vs n f ∧ PFill es f vs xs F))

/-- While the vertices are gone through. -/
def PcOut (w0 : World) (es : List (Int × Int)) (vs xs : List Int) (pb k : Nat) (v : Value) (wr : World) : Prop :=
  ∃ n f np u F, OwnP w0 wr v n u F ∧ MI wr pb np f ∧ np ≤ k * 1024 ∧ PcI es xs vs (vs.take k) n f ∧ PFill es f (vs.take k) [] F
/-- While a piece's vertices are gone through. -/
def PcIn (wq : World) (f g : Int → Option Int) (pb fb k m n : Nat) (wr : World) : Prop :=
  ∃ left cnt np, RM wr fb wq.heap.size m g left cnt ∧ MI wr pb np (fun z => if (g z).isSome && !left z then some (n : Int) else f z) ∧ np + cnt ≤ (k + 1) * 1024 ∧ wq.grownBy wr (some pb)
theorem MI.kept_ {w w' : World} {b n : Nat} {f : Int → Option Int} {row : Option Nat} (h : MI w b n f) (hg : w.grownBy w' row) (hne : some b ≠ row) : MI w' b n f := MV.kept h hg hne
theorem ite_le {c : Prop} [Decidable c] (a : Nat) : (if c then a else a + 1) ≤ a + 1 := by split <;> omega
theorem PcIn.start_ {wq ws : World} {f g : Int → Option Int} {pb fb k m n np : Nat} (hrm : RM ws fb wq.heap.size m g (fun k => (g k).isSome) m) (hmi : MI wq pb np f) (hg : wq.grownBy ws none) (h : np + m ≤ (k + 1) * 1024) : PcIn wq f g pb fb k m n ws :=
  ⟨_, _, np, hrm, (hmi.kept hg (by simp)).congr (fun y _ => by
    show Option.map _ _ = Option.map _ _
    congr 1
    cases hh : g y <;> simp [hh]), h, hg.but _⟩
theorem PcIn.end_ {w : World} {f g : Int → Option Int} {pb n np : Nat} {left : Int → Bool} (h : MI w pb np (fun z => if (g z).isSome && !left z then some (n : Int) else f z)) (hl : ∀ k, I64 k → left k = false) : MI w pb np (grow g f n) :=
  h.congr fun z hz => by
    show Option.map _ _ = Option.map _ _
    congr 1
    unfold grow
    simp [hl z hz]
theorem PcIn.step {wq wr w1 w2 : World} {f g : Int → Option Int} {pb fb k m n : Nat} {left : Int → Bool} {x c : Int} {cnt cnt' np : Nat} (hx : left x = true) (hg : g x = some c)
    (hrm : RM w1 fb wq.heap.size m g (fun z => left z && !decide (z = x)) cnt') (hlt : cnt' < cnt) (hgr : wr.grownBy w1 (some wq.heap.size)) (hmi2 : ∃ q, q ≤ np + 1 ∧ MI w2 pb q (upd (fun z => if (g z).isSome && !left z then some (n : Int) else f z) x n)) (hg2 : w1.grownBy w2 (some pb))
    (hle : np + cnt ≤ (k + 1) * 1024) (hq : wq.grownBy wr (some pb)) (hfp : fb ≠ pb) (hpq : pb < wq.heap.size) : PcIn wq f g pb fb k m n w2 := by
  obtain ⟨q, hq1, hmi2⟩ := hmi2
  refine ⟨_, cnt', q, hrm.kept hg2 (by simpa using hfp) (by simp; omega), ?_, by omega, (hq.andThen hgr (fun j hj => by cases hj; exact .inl (Nat.le_refl _))).andThen hg2 (fun j hj => by cases hj; exact .inr rfl)⟩
  refine hmi2.congr fun z _ => ?_
  show Option.map _ _ = Option.map _ _
  congr 1
  unfold upd
  by_cases e : z = x
  · subst e
    simp [hg]
  · simp [e]
theorem OwnP.put_map {w0 w w' : World} {g c n i b m : Nat} {u : Nat → Value} {F : Nat → List Int} {f : Int → Option Value} {o : Obj} {v' : Value} (h : OwnP w0 w (.slice (some ⟨g, 0, none⟩) n c) n u F) (hg : (w.alloc o).grownBy w' (u i).ownBlock) (hm : MV w b m f) : MV (w'.setCell ⟨g, i, none⟩ v') b m f := by
  have hset : w'.grownBy (w'.setCell ⟨g, i, none⟩ v') (some g) := ⟨rfl, rfl, rfl, by simp [World.setCell], fun k _ hk => Below.heap_setCell _ _ _ _ (fun e => hk (by rw [e]))⟩
  exact ((hm.alloc o).kept hg (fun e => (h.each i).notMap hm e.symm)).kept hset (fun e => h.notMap hm e.symm)
theorem PcOut.put {w0 wr w' : World} {es : List (Int × Int)} {vs xs : List Int} {pb k n np g c j : Nat} {f : Int → Option Int} {u : Nat → Value} {F : Nat → List Int} {z : Int} {o : Obj} {v' : Value}
    (h : OwnP w0 wr (.slice (some ⟨g, 0, none⟩) n c) n u F) (hmi : MI wr pb np f) (hnp : np ≤ (k + 1) * 1024) (hpc : PcI es xs vs (vs.take k ++ [z]) n f) (hfl : PFill es f (vs.take k) [] F) (hk : k < vs.length) (hz : vs.getD k 0 = z) (hf : f z = some (j : Int)) (hi : j * 2 < n * 2)
    (hr : Own w0 w' v' (F (j * 2) ++ [z])) (hg : (wr.alloc o).grownBy w' (u (j * 2)).ownBlock) (ho : v'.ownBlock = (u (j * 2)).ownBlock ∨ v'.ownBlock = some (wr.heap.size + 1)) : PcOut w0 es vs xs pb (k + 1) (.slice (some ⟨g, 0, none⟩) n c) (w'.setCell ⟨g, j * 2, none⟩ v') :=
  ⟨n, f, np, _, _, h.put hi hr hg ho, h.put_map hg hmi, hnp, by rw [take_getD hk hz]; exact hpc, by rw [take_getD hk hz]; exact hfl.putv hf⟩
/-- The row at hand, one list of it under names of its own. -/
theorem OwnP.pick {w0 w : World} {v : Value} {n : Nat} {u : Nat → Value} {F : Nat → List Int} (h : OwnP w0 w v n u F) {i : Nat} (hi : i < n * 2) : ∃ g c A m k, v = .slice (some ⟨g, 0, none⟩) n c ∧ n ≤ c ∧ c ≤ 9223372036854775807 ∧ w.cell? ⟨g, i, none⟩ = some (.slice A m k) ∧ Hid (u i = .slice A m k) ∧ Hid (Own w0 w (.slice A m k) (F i)) := by
  obtain ⟨g, c, rfl, h1, h2, h3, h4, h5⟩ := h.at_ hi
  obtain ⟨A, m, k, e⟩ := (h.each i).slice_
  exact ⟨g, c, A, m, k, rfl, h1, h2, by rw [h5 i hi, e], Lib.hid e, Lib.hid (e ▸ h.each i)⟩
/-- One piece more: an empty one. -/
theorem PcOut.more {w0 wr w6 : World} {N : Int} {es : List (Int × Int)} {vs xs l : List Int} {pb n np : Nat} {f g : Int → Option Int} {v v6 : Value} {u : Nat → Value} {F : Nat → List Int} {z : Int} {o : Obj} {ms : List Int}
    (hown : OwnP w0 wr v n u F) (hmi : MI wr pb np (grow g f n)) (h6 : OwnP w0 w6 v6 (n + 1) u F) (hg6 : (wr.alloc o).grownBy w6 v.ownBlock) (hpc : PcI es xs vs l n f) (hfl : PFill es f l [] F) (hp : POK N es vs xs) (hz : z ∈ vs) (hf : f z = none) (hri : RI es xs (-1) z vs g ms ms.length) :
    ∃ f' n' j A c, v6 = .slice A n' c ∧ OwnP w0 w6 (.slice A n' c) n' u F ∧ MI w6 pb np f' ∧ Hid (PcI es xs vs (l ++ [z]) n' f') ∧ Hid (PFill es f' l [] F) ∧ Hid (f' z = some ((j : Nat) : Int)) ∧ Hid ((f' z).getD 0 = (j : Int)) ∧ j < n' ∧ j * 2 < n' * 2 := by
  obtain ⟨A, c, rfl⟩ := h6.len
  have hfz : grow g f n z = some (n : Int) := by unfold grow; rw [if_pos (by rw [hri.dist.start]; rfl)]
  exact ⟨grow g f n, n + 1, n, A, c, rfl, h6, MI.kept_ (MV.alloc hmi o : MI _ _ _ _) hg6 (fun e => hown.notMap hmi e.symm), Lib.hid (hpc.more hp hz hf hri.dist), Lib.hid (hfl.grow_ hpc hp hf hri.dist), Lib.hid hfz, Lib.hid (by rw [hfz]; rfl), by omega, by omega⟩
/-- While the edges are gone through. -/
def PcEd (w0 : World) (es : List (Int × Int)) (vs xs : List Int) (pb np n k : Nat) (f : Int → Option Int) (v : Value) (wr : World) : Prop :=
  ∃ u F, OwnP w0 wr v n u F ∧ MI wr pb np f ∧ PFill es f vs (xs.take k) F
theorem PcEd.put {w0 wr w' : World} {es : List (Int × Int)} {vs xs : List Int} {pb k n np g c j : Nat} {f : Int → Option Int} {u : Nat → Value} {F : Nat → List Int} {z : Int} {o : Obj} {v' : Value}
    (h : OwnP w0 wr (.slice (some ⟨g, 0, none⟩) n c) n u F) (hmi : MI wr pb np f) (hfl : PFill es f vs (xs.take k) F) (hk : k < xs.length) (hz : xs.getD k 0 = z) (hf : f (ends es z).1 = some (j : Int)) (hi : j * 2 + 1 < n * 2)
    (hr : Own w0 w' v' (F (j * 2 + 1) ++ [z])) (hg : (wr.alloc o).grownBy w' (u (j * 2 + 1)).ownBlock) (ho : v'.ownBlock = (u (j * 2 + 1)).ownBlock ∨ v'.ownBlock = some (wr.heap.size + 1)) : PcEd w0 es vs xs pb np n (k + 1) f (.slice (some ⟨g, 0, none⟩) n c) (w'.setCell ⟨g, j * 2 + 1, none⟩ v') :=
  ⟨_, _, h.put hi hr hg ho, h.put_map hg hmi, by rw [take_getD hk hz]; exact hfl.pute hf⟩
theorem PFill.lenv {es : List (Int × Int)} {f : Int → Option Int} {l ys : List Int} {F : Nat → List Int} (h : PFill es f l ys F) (j : Nat) : (F (j * 2)).length ≤ l.length ∧ (F (j * 2 + 1)).length ≤ ys.length := by
  rw [(h j).1, (h j).2]
  exact ⟨List.length_filter_le _ _, List.length_filter_le _ _⟩
end Go.Proofs.Ythobfbnopkbniaa
