/-
  A walk within a round of a range over a function, by the laws of the plain walk: a list of operations, and a region that draws its order, carried over to a round's frame. Plain theorems; no conditions on the program.
-/
import Derived.Test.YthobfbnopkbniaaRel
import Derived.RangeFuncWrites
import Derived.RangeFuncCalls
import Derived.TacticsIn
namespace Go.Proofs.Ythobfbnopkbniaa
open Go.RowKit

/-- The fence of a round. -/
abbrev rnd (l : Nat) : Fence := Fence.wide.inRound l

def Oper.calmB (o : Oper) : Bool := match o.op with | .defer _ => false | _ => true
theorem Oper.calm_spec {o : Oper} (h : Oper.calmB o = true) : ∀ c, o.op ≠ .defer c := by
  intro c hc
  unfold Oper.calmB at h
  rw [hc] at h
  cases h

theorem callsIn_rnd {l n : Nat} {P : Program} {f : FuncId} {args : Array Value} {w : World} {R : Ending → World → Prop} (h : Calls P f args w R) : CallsIn (rnd l) n P f args w R :=
  CallsIn.inRound l (callsIn_wide.2 h)
theorem rowsIn_rnd {l n : Nat} {P : Program} {row : String} {args : Array Value} {w : World} {R : Value → World → Prop} (h : Rows P row args w R) : RowsIn (rnd l) n P row args w R :=
  fun c cs _ => by
    obtain ⟨v, w', r, s⟩ := h c cs
    exact ⟨v, w', r, (show StepsIn (Machine.fenced P Fence.wide) P _ _ from stepsIn_wide.2 s)⟩

section
variable {P : Program} {o : Oper} {a : Act} {w : World} {l n : Nat} {ops : Array Oper} {Q : Exit → Act → World → Prop}
theorem uponIn_of_upon {K K' : Act → World → Prop} (hK : ∀ a w, K a w → K' a w) : ∀ r, o.upon P a K Q r → o.uponIn (rnd l) n P a K' Q r := by
  intro r h
  have hd : ((rnd l).depth.isSome = true → 1 ≤ n) := fun h => by simp [rnd, Fence.inRound, Fence.wide] at h
  cases r with
  | ok x w' =>
    cases x with
    | value v => exact hK _ _ h
    | skip => exact hK _ _ h
    | defer d => exact hK _ _ h
    | enter f args =>
      refine ⟨hd, callsIn_rnd (Calls.mono (R := _) h ?_)⟩
      intro e w'' he
      cases e with
      | returned v => exact hK _ _ he
      | panicked c => exact he
      | outgrown => exact he
    | row r args => exact ⟨hd, rowsIn_rnd (Rows.mono (R := _) h fun _ _ he => hK _ _ he)⟩
    | round => exact h.elim
    | _ => first | exact h.elim | exact hK _ _ h
  | halt x w' =>
    cases x with
    | panic v => exact h
    | _ => exact h.elim

theorem operIn_of_oper {K K' : Act → World → Prop} (hc : Oper.calmB o = true) (hK : ∀ a w, K a w → K' a w) (h : o.wp P a w K Q) : o.wpIn (rnd l) n P a w K' Q := by
  refine ⟨fun _ _ => trivial, ?_⟩
  have e : o.semAt (rnd l).round a.eval = execOp a.eval o := Oper.semAt_some l _ _ (Oper.calm_spec hc)
  rw [e]
  exact uponIn_of_upon hK _ h

theorem wpListIn_of (hQ : ¬ LetsOut Q) : ∀ (ls : List Oper) (a : Act) (w : World), ls.all Oper.calmB = true → wpList P ops Q ls a w → wpListIn (rnd l) n P ops Q ls a w
  | [], _, _, _, h => h
  | o :: ls, a, w, hc, h => by
    rw [List.all_cons, Bool.and_eq_true] at hc
    unfold wpListIn
    unfold wpList at h
    split
    · rename_i hw
      rw [if_pos hw] at h
      rcases h with h | h
      · exact operIn_of_oper hc.1 (fun a w h => wpListIn_of hQ ls a w hc.2 h) h
      · exact absurd h.2 hQ
    · rename_i hw
      rw [if_neg hw] at h
      exact ⟨fun _ _ => trivial, wpListIn_of hQ ls _ _ hc.2 h⟩
theorem wpOpsIn_of (hQ : ¬ LetsOut Q) (hc : ops.toList.all Oper.calmB = true) : ∀ (ls : List Nat) (a : Act) (w : World), wpOps P ops Q ls a w → wpOpsIn (rnd l) n P ops Q ls a w
  | [], _, _, h => h
  | i :: ls, a, w, h => by
    unfold wpOpsIn
    unfold wpOps at h
    cases ho : ops[i]? with
    | none =>
      rw [ho] at h
      exact wpOpsIn_of hQ hc ls a w h
    | some o =>
      rw [ho] at h
      have hco : Oper.calmB o = true := List.all_eq_true.1 hc o (by
        obtain ⟨hlt, rfl⟩ := Array.getElem?_eq_some_iff.1 ho
        exact Array.getElem_mem_toList hlt)
      dsimp only at h ⊢
      split
      · rename_i hw
        rw [if_pos hw] at h
        rcases h with h | h
        · exact operIn_of_oper hco (fun a w h => wpOpsIn_of hQ hc ls a w h) h
        · exact absurd h.2 hQ
      · rename_i hw
        rw [if_neg hw] at h
        exact ⟨fun _ _ => trivial, wpOpsIn_of hQ hc ls _ _ h⟩
end

/-- The region's order, as far as it is drawn. -/
theorem wpAny_region_rel {P : Program} {Q : Exit → Act → World → Prop} {a : Act} {w : World} {l : List Oper} (n : Nat) (D : List (List Nat)) (Rs : List (Value → World → Prop)) (hB : relB .any l.toArray n D = true) (hlen : Rs.length = n)
    (hops : relOps P l.toArray w D Rs (l.take n) a 0 (l.take n) Rs) (hend : ∀ w', Ext w w' → relEnd w' Rs (l.take n) a fun a' => wpAny P .any l.toArray Q (l.length - n) (listedN l.toArray n) a' w') :
    wpAny P .any l.toArray Q l.length (Array.replicate l.length false) a { w with drawn := w.drawn + 1 } := by
  have hn : n ≤ l.toArray.size := by
    have := hB
    unfold relB at this
    simp only [Bool.and_eq_true, decide_eq_true_eq] at this
    exact this.1.1.1.1.2
  obtain ⟨vs, hvs⟩ := putAll_self (l.take n) a 0
  have inv0 : HeadInv .any l.toArray n (Array.replicate l.toArray.size false) :=
    ⟨by simp, fun j oj _ hl => (by rw [getD_replicate_false] at hl; cases hl), fun t _ ht => getD_in (by simpa using ht) (getD_replicate_false _ _)⟩
  have hu : ∀ k, unlisted (Array.replicate l.toArray.size false) k ≤ k := fun k => by
    induction k with
    | zero => exact Nat.le_refl _
    | succ k ih => unfold unlisted; split <;> omega
  have := wpAny_rel (P := P) (md := .any) (w0 := w) (a0 := a) (Q := Q) hB hlen (by simpa using hops) (fun w' hx => by simpa using hend w' hx) n _ { w with drawn := w.drawn + 1 } vs inv0 (hu n) ⟨rfl, rfl, rfl, Nat.le_refl _, fun _ _ => rfl⟩ (fun i _ hl => by rw [getD_replicate_false] at hl; cases hl)
  rw [show n + (l.toArray.size - n) = l.toArray.size by omega] at this
  simpa [hvs] using this
section
variable {P : Program} {id n k : Nat} {Q : Exit → Act → World → Prop} {a : Act} {w : World} {l : List Oper}
/-- A region in the text's order. -/
theorem rnd_region (hc : l.all Oper.calmB = true) (hQ : ¬ LetsOut Q) (h : wpList P l.toArray Q l a w) : (Code.region id l.toArray false).wpIn (rnd k) n P Q a w :=
  wpIn_region_lit (wpListIn_of hQ l a w hc h)
/-- A region that draws its order. -/
theorem rnd_region_any (hm : P.follows .mixedOrders = true) (hc : l.all Oper.calmB = true) (hQ : ¬ LetsOut Q)
    (h : wpAny P .any l.toArray Q l.length (Array.replicate l.length false) a { w with drawn := w.drawn + 1 }) : (Code.region id l.toArray true).wpIn (rnd k) n P Q a w :=
  wpIn_region_draw fun t => wpOpsIn_of hQ (by simpa using hc) _ _ _ (by
    simp only [Region.schedule, hm, Bool.true_or, if_true]
    exact wpAny_sound l.toArray.size t _ a _ (by simpa using h))
theorem rnd_region_rel (m : Nat) (D : List (List Nat)) (Rs : List (Value → World → Prop)) (hc : l.all Oper.calmB = true) (hQ : ¬ LetsOut Q) (hm : P.follows .mixedOrders = true) (hB : relB .any l.toArray m D = true) (hlen : Rs.length = m)
    (hops : relOps P l.toArray w D Rs (l.take m) a 0 (l.take m) Rs) (hend : ∀ w', Ext w w' → relEnd w' Rs (l.take m) a fun a' => wpAny P .any l.toArray Q (l.length - m) (listedN l.toArray m) a' w') : (Code.region id l.toArray true).wpIn (rnd k) n P Q a w :=
  rnd_region_any hm hc hQ (wpAny_region_rel m D Rs hB hlen hops hend)
end
end Go.Proofs.Ythobfbnopkbniaa
