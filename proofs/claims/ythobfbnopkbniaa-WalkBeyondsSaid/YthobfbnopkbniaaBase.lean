/-
  Words for memory that all walks of this seat use: a slice of integers that reads as a list ('IS'). Plain theorems; no conditions.
-/
import Derived.Test.YthobfbnopkbniaaProg
import Derived.WalkKit
import Derived.Lib.Hide
import Derived.Laws.OwnMore
import Derived.Deep.Draws
namespace Go.Proofs.Ythobfbnopkbniaa
open Go.RowKit

/-- An integer that an int of 64 bits holds. -/
def I64 (x : Int) : Prop := -9223372036854775808 ≤ x ∧ x ≤ 9223372036854775807

/-- The slice value '.slice A n c' reads as the list xs; it lies below block B. -/
def IS (w : World) (B : Nat) (A : Option Addr) (n c : Nat) (xs : List Int) : Prop :=
  xs.length = n ∧ n ≤ c ∧ c ≤ 9223372036854775807 ∧ (∀ x ∈ xs, I64 x) ∧
    (0 < n → ∃ b o, A = some ⟨b, o, none⟩ ∧ b < B ∧ ∀ j, j < n → w.cell? ⟨b, o + j, none⟩ = some (.int .i64 (xs.getD j 0)))

theorem ret_int {k : IntKind} {a b : Int} (h : a = b) : Ending.returned (.int k a) = .returned (.int k b) := by rw [h]
theorem ret_bool {a b : Bool} (h : a = b) : Ending.returned (.bool a) = .returned (.bool b) := by rw [h]

section
variable {w w' : World} {B B' n c : Nat} {A : Option Addr} {xs : List Int}
theorem IS.len (h : IS w B A n c xs) : xs.length = n := h.1
theorem IS.le (h : IS w B A n c xs) : n ≤ c := h.2.1
theorem IS.cap (h : IS w B A n c xs) : c ≤ 9223372036854775807 := h.2.2.1
theorem IS.i64 (h : IS w B A n c xs) : ∀ x ∈ xs, I64 x := h.2.2.2.1
theorem IS.at_ (h : IS w B A n c xs) (hn : 0 < n) : ∃ b o, A = some ⟨b, o, none⟩ ∧ b < B ∧ ∀ j, j < n → w.cell? ⟨b, o + j, none⟩ = some (.int .i64 (xs.getD j 0)) := h.2.2.2.2 hn
theorem IS.none_ : IS w B none 0 0 [] := ⟨rfl, Nat.le_refl _, by omega, by simp, fun h => absurd h (by omega)⟩
theorem IS.keep (h : IS w B A n c xs) (hk : ∀ p : Addr, p.block < B → w'.cell? p = w.cell? p) : IS w' B A n c xs :=
  ⟨h.1, h.2.1, h.2.2.1, h.2.2.2.1, fun hn => by
    obtain ⟨b, o, e, hb, hc⟩ := h.2.2.2.2 hn
    exact ⟨b, o, e, hb, fun j hj => (hk ⟨b, o + j, none⟩ hb).trans (hc j hj)⟩⟩
theorem IS.more (h : IS w B A n c xs) (hB : B ≤ B') : IS w B' A n c xs :=
  ⟨h.1, h.2.1, h.2.2.1, h.2.2.2.1, fun hn => by
    obtain ⟨b, o, e, hb, hc⟩ := h.2.2.2.2 hn
    exact ⟨b, o, e, by omega, hc⟩⟩
theorem IS.below (h : IS w B A n c xs) (hb : Below B w w') : IS w' B A n c xs := h.keep fun _ hp => hb.cell hp
theorem IS.mem (h : IS w B A n c xs) {k : Nat} (hk : k < n) : xs.getD k 0 ∈ xs := by
  have hl : k < xs.length := by have := h.len; omega
  rw [List.getD_eq_getElem?_getD, List.getElem?_eq_getElem hl]
  exact List.getElem_mem hl
/-- One element, under a name of its own. -/
theorem IS.get (h : IS w B A n c xs) {k : Nat} (hk : k < n) :
    ∃ b o z, A = some ⟨b, o, none⟩ ∧ b < B ∧ Hid (xs.getD k 0 = z) ∧ I64 z ∧ w.cell? ⟨b, o + k, none⟩ = some (.int .i64 z) := by
  obtain ⟨b, o, e, hb, hc⟩ := h.at_ (by omega)
  exact ⟨b, o, _, e, hb, Lib.hid rfl, h.i64 _ (h.mem hk), hc k hk⟩
theorem IS.drew (h : IS w B A n c xs) : IS w.drew B A n c xs := h
theorem IS.drewN (h : IS w B A n c xs) (k : Nat) : IS (w.drewN k) B A n c xs := h
theorem IS.alloc (h : IS w B A n c xs) (hB : B ≤ w.heap.size) (o : Obj) : IS (w.alloc o) B A n c xs := h.keep fun p hp => World.cell?_alloc_lt w o p (by omega)
end

/-- w' is w behind some draws. -/
def Drawn (w w' : World) : Prop := ∃ m, w.drewN m = w'
theorem Drawn.refl (w : World) : Drawn w w := ⟨0, rfl⟩
theorem Drawn.of (w : World) (m : Nat) : Drawn w (w.drewN m) := ⟨m, rfl⟩
theorem Drawn.add {w w' : World} (h : Drawn w w') (m : Nat) : Drawn w (w'.drewN m) := by
  obtain ⟨k, rfl⟩ := h
  exact ⟨k + m, (World.drewN_drewN _ _ _).symm⟩
theorem Drawn.trans {a b c : World} (h : Drawn a b) (k : Drawn b c) : Drawn a c := by
  obtain ⟨m, rfl⟩ := k
  exact h.add m
theorem Drawn.below {w w' : World} (h : Drawn w w') (B : Nat) : Below B w w' := by
  obtain ⟨m, rfl⟩ := h
  exact ⟨rfl, rfl, rfl, Nat.le_refl _, fun _ _ => rfl⟩

end Go.Proofs.Ythobfbnopkbniaa
