/-
  An argument that is a slice of integers, as the row's reading gives it, is a list in the words of this seat's walks; no conditions.
-/
import Derived.Test.YthobfbnopkbniaaBase
import Derived.OpenShut
namespace Go.Proofs.Ythobfbnopkbniaa
open Go.RowKit

theorem i64_of_wf {x : Int} (h : (Lit.int .i64 x).wf = true) : I64 x := bounds_i64 h

theorem is_of_row {w : World} {a : Option Addr} {len cap : Nat} {zs : List Int}
    (h : (a = none ∧ len = 0 ∧ cap = 0 ∧ zs = []) ∨ ∃ x, a = some x ∧ len ≤ cap ∧ cap ≤ maxLen ∧ zs.length = cap ∧ (∀ i, i < zs.length → w.cell? (x.add i) = some (.int .i64 (zs.getD i 0))) ∧ ∀ n ∈ zs, (Lit.int .i64 n).wf = true) :
    IS w w.heap.size a len cap (zs.take len) := by
  rcases h with ⟨rfl, rfl, rfl, rfl⟩ | ⟨x, rfl, hl, hm, hz, hc, hw⟩
  · exact IS.none_
  · refine ⟨by rw [List.length_take]; omega, hl, hm, fun y hy => i64_of_wf (hw y (List.mem_of_mem_take hy)), fun hn => ?_⟩
    have h0 := hc 0 (by omega)
    have ha : x.add 0 = x := by simp [Addr.add]
    rw [ha] at h0
    obtain ⟨b, o, s⟩ := x
    have hs : s = none := by
      cases s with
      | none => rfl
      | some y =>
        unfold World.cell? at h0
        split at h0 <;> simp at h0
    subst hs
    refine ⟨b, o, rfl, World.block_lt_of_cell? w _ h0, fun j hj => ?_⟩
    have := hc j (by omega)
    have hadd : (⟨b, o, none⟩ : Addr).add j = ⟨b, o + j, none⟩ := by unfold Addr.add; split <;> simp_all
    rw [hadd] at this
    rw [this, List.getD_eq_getElem?_getD, List.getD_eq_getElem?_getD, List.getElem?_take, if_pos hj]
end Go.Proofs.Ythobfbnopkbniaa
