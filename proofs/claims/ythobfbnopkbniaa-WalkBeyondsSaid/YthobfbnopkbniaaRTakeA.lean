/-
  What the making of the turns' struct keeps: lemmas on memory; places as plain functions. No conditions.
-/
import Derived.Test.YthobfbnopkbniaaRBase
namespace Go.Proofs.Ythobfbnopkbniaa
open Go.RowKit

/-- The places of the first k numbers of a list, put into g. -/
def putN (g : Int → Option Int) (t : List Int) : Nat → Int → Option Int
  | 0 => g
  | k + 1 => upd (putN g t k) (t.getD k 0) k
/-- The places of the first k lists' numbers, each list begun with its least. -/
def placeN (tt : List (List Int)) : Nat → Int → Option Int
  | 0 => fun _ => none
  | k + 1 => putN (placeN tt k) (first (tt.getD k [])) (tt.getD k []).length

theorem MV.block {w : World} {b n : Nat} {f : Int → Option Value} (h : MV w b n f) : ∃ es clock, w.heap[b]? = some (.map es clock) := by
  obtain ⟨D, ⟨es, clock, h, _⟩, _⟩ := h
  exact ⟨es, clock, h⟩
theorem cell_of_map {w : World} {b o : Nat} {es : Array MapEntry} {clock : Nat} (h : w.heap[b]? = some (.map es clock)) : w.cell? ⟨b, o, none⟩ = none := by
  unfold World.cell?
  rw [h]
theorem IS.mapped {w w' : World} {b n' : Nat} {f : Int → Option Value} {A : Option Addr} {n c : Nat} {xs : List Int} (h : IS w w.heap.size A n c xs) (hm : MV w b n' f) (hg : w.grownBy w' (some b)) : IS w' w'.heap.size A n c xs := by
  obtain ⟨es, clock, hb⟩ := hm.block
  refine ⟨h.1, h.2.1, h.2.2.1, h.2.2.2.1, fun hn => ?_⟩
  obtain ⟨g, o, e, hgb, hc⟩ := h.at_ hn
  refine ⟨g, o, e, Nat.lt_of_lt_of_le hgb hg.size, fun j hj => ?_⟩
  have hne : g ≠ b := by
    rintro rfl
    have := hc j hj
    rw [cell_of_map hb] at this
    cases this
  rw [← hc j hj]
  exact World.cell?_of_block (hg.block g hgb (fun e => hne (by injection e)))

/-- The turns' struct, as it is filled. -/
structure TakeInv (w wr : World) (rb pb lb : Nat) (tv dv : Value) (tt : List (List Int)) (g : Int → Option Int) (q : Nat) : Prop where
  box : wr.heap[rb]? = some (.cells #[tv, .map (some lb), .map (some pb), dv] 97 (0, 0))
  row : OwnT w wr tv tt
  map : ∃ cnt, MI wr pb cnt g ∧ cnt ≤ q
  new : w.heap.size ≤ rb ∧ w.heap.size ≤ pb
  dvs : ∃ A n c, dv = .slice A n c

section
variable {w wr w' : World} {rb pb lb : Nat} {tv dv : Value} {tt : List (List Int)} {g : Int → Option Int} {q : Nat}
theorem TakeInv.lt (h : TakeInv w wr rb pb lb tv dv tt g q) : rb < wr.heap.size := (Array.getElem?_eq_some_iff.1 h.box).1
theorem TakeInv.cell (h : TakeInv w wr rb pb lb tv dv tt g q) (i : Nat) : wr.cell? ⟨rb, i, none⟩ = #[tv, .map (some lb), .map (some pb), dv][i]? := cell_of_row wr rb i _ _ _ h.box
theorem TakeInv.frozen (h : TakeInv w wr rb pb lb tv dv tt g q) (i : Nat) : wr.frozen? ⟨rb, i, none⟩ = false := by
  have := h.box
  simp [World.frozen?, this]
theorem OwnT.owns (h : OwnT w wr tv tt) {k : Nat} (hk : tv.ownBlock = some k) : ∃ cur, wr.heap[k]? = some (.cells cur 25 (0, 0)) ∧ w.heap.size ≤ k := by
  obtain ⟨vs, h1, _⟩ := h.row
  rcases h1.2 with ⟨rfl, _⟩ | ⟨g', cap, cur, rfl, hb, hh, _⟩
  · simp [Value.ownBlock] at hk
  · have : g' = k := by simpa [Value.ownBlock] using hk
    subst this
    exact ⟨cur, hh, hb⟩
theorem TakeInv.notBox (h : TakeInv w wr rb pb lb tv dv tt g q) : tv.ownBlock ≠ some rb := by
  intro e
  obtain ⟨cur, hc, _⟩ := h.row.owns e
  rw [h.box] at hc
  injection hc with hc
  injection hc with _ ht
  revert ht
  decide
theorem TakeInv.notMap (h : TakeInv w wr rb pb lb tv dv tt g q) : tv.ownBlock ≠ some pb := by
  intro e
  obtain ⟨cur, hc, _⟩ := h.row.owns e
  obtain ⟨cnt, hm, hq⟩ := h.map
  obtain ⟨es, clock, hb⟩ := hm.block
  rw [hb] at hc
  cases hc
theorem TakeInv.boxMap (h : TakeInv w wr rb pb lb tv dv tt g q) : rb ≠ pb := by
  rintro rfl
  obtain ⟨cnt, hm, hq⟩ := h.map
  obtain ⟨es, clock, hb⟩ := hm.block
  have := h.box
  rw [hb] at this
  cases this
theorem TakeInv.later (h : TakeInv w wr rb pb lb tv dv tt g q) (hb : Below wr.heap.size wr w') : TakeInv w w' rb pb lb tv dv tt g q := by
  obtain ⟨cnt, hm, hq⟩ := h.map
  exact ⟨(hb.block rb h.lt).trans h.box, h.row.later hb, ⟨cnt, hm.below hb hm.lt, hq⟩, h.new, h.dvs⟩
/-- A place is put. -/
theorem TakeInv.put (h : TakeInv w wr rb pb lb tv dv tt g q) {cnt' : Nat} {g' : Int → Option Int} (hm' : MI w' pb cnt' g') (hc : cnt' ≤ q + 1) (hg : wr.grownBy w' (some pb)) : TakeInv w w' rb pb lb tv dv tt g' (q + 1) := by
  obtain ⟨cnt, hm, hq⟩ := h.map
  obtain ⟨es, clock, hb⟩ := hm.block
  refine ⟨(hg.block rb h.lt (fun e => h.boxMap (by injection e))).trans h.box, ?_, ⟨cnt', hm', hc⟩, h.new, h.dvs⟩
  refine h.row.kept hg (fun k hk => by cases hk; exact h.new.2) (.inr h.notMap) fun j hj u hat a n c e hn hp => ?_
  injection hp with hp
  obtain ⟨A, n', c', e', his, _⟩ := hat
  subst e
  injection e' with e1 e2 e3
  subst e1 e2
  obtain ⟨b, o, eb, hbb, hcc⟩ := his.at_ hn
  injection eb with eb
  subst eb
  have h3 := hcc 0 hn
  simp only at hp
  rw [← hp, cell_of_map hb] at h3
  cases h3
/-- A list is put behind the others (its own block laid first), and the field is set. -/
theorem TakeInv.append (h : TakeInv w wr rb pb lb tv dv tt g q) {o : Obj} {tv' : Value} {t : List Int} (hr : OwnT w w' tv' (tt ++ [t])) (hg : (wr.alloc o).grownBy w' tv.ownBlock) (hown : tv'.ownBlock = tv.ownBlock ∨ tv'.ownBlock = some (wr.heap.size + 1)) :
    TakeInv w (w'.setCell ⟨rb, 0, none⟩ tv') rb pb lb tv' dv (tt ++ [t]) g q := by
  obtain ⟨cnt, hm, hq⟩ := h.map
  have hlt := h.lt
  have hs := hg.size
  have hsz : (wr.alloc o).heap.size = wr.heap.size + 1 := by simp
  have hbox : w'.heap[rb]? = some (.cells #[tv, .map (some lb), .map (some pb), dv] 97 (0, 0)) :=
    ((hg.block rb (by omega) (fun e => h.notBox e.symm)).trans (Below.heap_alloc _ _ _ hlt)).trans h.box
  have hmap : MI w' pb cnt g := (hm.alloc o).kept hg (fun e => h.notMap e.symm)
  have hnb : tv'.ownBlock ≠ some rb := by
    rcases hown with e | e
    · rw [e]; exact h.notBox
    · rw [e]; intro e'; injection e' with e'; omega
  have hset : w'.grownBy (w'.setCell ⟨rb, 0, none⟩ tv') (some rb) := ⟨rfl, rfl, rfl, by simp [World.setCell], fun i _ hi => Below.heap_setCell _ _ _ _ (fun e => hi (by rw [e]))⟩
  refine ⟨?_, ?_, ⟨cnt, hmap.kept hset (fun e => h.boxMap (by injection e with e; exact e.symm)), hq⟩, h.new, h.dvs⟩
  · simp [World.setCell, Array.getElem?_modify, hbox]
  · refine hr.kept hset (fun k hk => by cases hk; exact h.new.1) (.inr hnb) fun j hj u hat a n c e hn hp => ?_
    injection hp with hp
    obtain ⟨A, n', c', e', his, _⟩ := hat
    subst e
    injection e' with e1 e2 e3
    subst e1 e2
    obtain ⟨b, o', eb, hbb, hc⟩ := his.at_ hn
    injection eb with eb
    subst eb
    have h3 := hc 0 hn
    simp only at hp
    rw [← hp, Nat.add_zero, cell_of_row w' rb o' _ _ _ hbox] at h3
    have htv : ∃ A n c, tv = .slice A n c := by
      obtain ⟨vs, q1, _⟩ := h.row.row
      rcases q1.2 with ⟨rfl, _⟩ | ⟨g', cap, cur, rfl, _⟩
      · exact ⟨_, _, _, rfl⟩
      · exact ⟨_, _, _, rfl⟩
    obtain ⟨A1, n1, c1, rfl⟩ := htv
    obtain ⟨A2, n2, c2, rfl⟩ := h.dvs
    match o', h3 with
    | 0, h3 => simp at h3
    | 1, h3 => simp at h3
    | 2, h3 => simp at h3
    | 3, h3 => simp at h3
    | o' + 4, h3 => simp at h3
end
end Go.Proofs.Ythobfbnopkbniaa
