/-
  Joined texts: Rel, Round, RDarts, RBox, FOut, FState, RNew, RStep, RXor, RWhole, FInner, RDo, RTurn, FWalks, FKey, FKeyP, WQueue, WRows, FParts, WPlain. No conditions.
-/
import Derived.Test.YthobfbnopkbniaaFaceA
import Derived.StillTail
import Derived.RangeFuncWrites
import Derived.RangeFuncCalls
import Derived.TacticsIn
import Derived.LoopIn
import Derived.TacticsInMore
import Derived.Shelf.Abstract
import Derived.Deep.RegionHeld3
import Derived.Lib.Zigzag
import Derived.Laws.Cover3
import Derived.Deep.DeepMust
import Derived.Deep.AppendSrc

section
namespace Go.Proofs.Ythobfbnopkbniaa
open Go.RowKit

/-- w' is w with memory made besides. -/
def Ext (w w' : World) : Prop := Below w.heap.size w w'
theorem Ext.refl (w : World) : Ext w w := Below.refl _ _
theorem Ext.trans {a b c : World} (h : Ext a b) (k : Ext b c) : Ext a c := bstep h k
theorem Ext.alloc (w : World) (o : Obj) : Ext w (w.alloc o) := (Below.refl _ _).alloc (Nat.le_refl _) _
/-- R holds of v now and later. -/
def Kept (R : Value → World → Prop) (v : Value) (w : World) : Prop := ∀ w', Ext w w' → R v w'
theorem Kept.now {R : Value → World → Prop} {v : Value} {w : World} (h : Kept R v w) : R v w := h w (Ext.refl w)
theorem Kept.later {R : Value → World → Prop} {v : Value} {w w' : World} (h : Kept R v w) (k : Ext w w') : Kept R v w' := fun w'' k' => h w'' (k.trans k')

/-- Each operation's value in its place. -/
def putAll : List Oper → Act → Nat → (Nat → Value) → Act
  | [], a, _, _ => a
  | o :: l, a, k, vs => putAll l (a.put o.dst (vs k)) (k + 1) vs

theorem putAll_congr : ∀ (l : List Oper) (a : Act) (k : Nat) (vs us : Nat → Value), (∀ j, k ≤ j → vs j = us j) → putAll l a k vs = putAll l a k us
  | [], _, _, _, _, _ => rfl
  | o :: l, a, k, vs, us, h => by
    unfold putAll
    rw [h k (Nat.le_refl _)]
    exact putAll_congr l _ _ _ _ fun j hj => h j (by omega)
theorem putAll_comm : ∀ (l : List Oper) (a : Act) (k : Nat) (vs : Nat → Value) (d : Option Tmp) (v : Value), (∀ o ∈ l, ∀ e, d = some e → o.dst ≠ some e) → putAll l (a.put d v) k vs = (putAll l a k vs).put d v
  | [], _, _, _, _, _, _ => rfl
  | o :: l, a, k, vs, d, v, h => by
    unfold putAll
    rw [Act.put_comm a v (vs k) (h o (by simp))]
    exact putAll_comm l _ _ _ _ _ fun o' ho' => h o' (by simp [ho'])
theorem put_put (a : Act) (d : Option Tmp) (u v : Value) : (a.put d u).put d v = a.put d v := by
  cases d with
  | none => rfl
  | some d => simp [Act.put]
theorem put_self (a : Act) (d : Option Tmp) : ∃ v, a.put d v = a := by
  cases d with
  | none => exact ⟨undef, rfl⟩
  | some d =>
    refine ⟨a.tmps.getD d undef, ?_⟩
    obtain ⟨t, f⟩ := a
    show Act.mk _ _ = _
    congr 1
    rcases Nat.lt_or_ge d t.size with h | h
    · simp [h]
      apply Array.ext
      · simp
      · intro i h1 h2
        rw [Array.getElem_setIfInBounds (by simpa using h1)]
        split
        · subst_vars; rfl
        · rfl
    · exact Array.setIfInBounds_eq_of_size_le h
theorem putAll_self : ∀ (l : List Oper) (a : Act) (k : Nat), ∃ vs, putAll l a k vs = a
  | [], _, _ => ⟨fun _ => undef, rfl⟩
  | o :: l, a, k => by
    obtain ⟨v, hv⟩ := put_self a o.dst
    obtain ⟨us, hu⟩ := putAll_self l a (k + 1)
    refine ⟨fun j => if j = k then v else us j, ?_⟩
    unfold putAll
    dsimp only
    rw [if_pos rfl, hv]
    rw [putAll_congr l a (k + 1) _ us fun j hj => if_neg (by omega)]
    exact hu
/-- No two operations have one place. -/
def dstsApart : List Oper → Prop
  | [] => True
  | o :: l => (∀ o' ∈ l, ∀ e, o.dst = some e → o'.dst ≠ some e) ∧ dstsApart l
theorem putAll_put : ∀ (l : List Oper) (a : Act) (k j : Nat) (vs : Nat → Value) (o : Oper) (v : Value), dstsApart l → l[j]? = some o →
    putAll l a k (fun i => if i = k + j then v else vs i) = (putAll l a k vs).put o.dst v
  | [], _, _, _, _, _, _, _, h => by simp at h
  | p :: l, a, k, 0, vs, o, v, hd, h => by
    have : p = o := by simpa using h
    subst this
    unfold putAll
    dsimp only
    rw [if_pos (by omega), putAll_congr l _ (k + 1) _ vs fun j hj => if_neg (by omega)]
    rw [← putAll_comm l (a.put p.dst (vs k)) (k + 1) vs p.dst v hd.1, put_put]
  | p :: l, a, k, j + 1, vs, o, v, hd, h => by
    unfold putAll
    dsimp only
    rw [if_neg (by omega)]
    have := putAll_put l (a.put p.dst (vs k)) (k + 1) j vs o v hd.2 (by simpa using h)
    rw [show k + 1 + j = k + (j + 1) by omega] at this
    exact this
def dstsB : List Oper → Bool
  | [] => true
  | o :: l => (match o.dst with | some e => l.all (fun o' => o'.dst != some e) | none => true) && dstsB l
theorem dstsB_spec : ∀ {l : List Oper}, dstsB l = true → dstsApart l
  | [], _ => trivial
  | o :: l, h => by
    unfold dstsB at h
    rw [Bool.and_eq_true] at h
    refine ⟨fun o' ho' e he => ?_, dstsB_spec h.2⟩
    have h1 := h.1
    rw [he] at h1
    simp only [List.all_eq_true, bne_iff_ne, ne_eq] at h1
    exact h1 o' ho'

/-- An edge leads back. -/
def backB (md : Region.Mode) (ops : Array Oper) : Bool := (List.range ops.size).all fun i => ((ops[i]?).map fun o => o.after.all fun e => decide (e.on < i) || !Region.binds md e).getD true
/-- 'D i': operations for which operation i waits. -/
def waitsB (md : Region.Mode) (ops : Array Oper) (D : List (List Nat)) : Bool := (List.range ops.size).all fun i =>
  (D.getD i []).all fun k => ((ops[i]?).map fun o => o.after.any fun e => Region.binds md e && (e.on == k || (D.getD e.on []).contains k)).getD false
theorem backB_spec {md : Region.Mode} {ops : Array Oper} (h : backB md ops = true) {i : Nat} {o : Oper} (hi : ops[i]? = some o) : ∀ e ∈ o.after, Region.binds md e = true → e.on < i := by
  have hlt : i < ops.size := (Array.getElem?_eq_some_iff.1 hi).1
  have h1 := List.all_eq_true.1 h i (List.mem_range.2 hlt)
  rw [hi] at h1
  simp only [Option.map_some, Option.getD_some, Array.all_eq_true_iff_forall_mem, Bool.or_eq_true, decide_eq_true_eq] at h1
  exact fun e he hb => (h1 e he).resolve_right (by simp [hb])
theorem waitsB_spec {md : Region.Mode} {ops : Array Oper} {D : List (List Nat)} (h : waitsB md ops D = true) {i : Nat} {o : Oper} (hi : ops[i]? = some o) :
    ∀ k ∈ D.getD i [], ∃ e ∈ o.after, Region.binds md e = true ∧ (e.on = k ∨ k ∈ D.getD e.on []) := by
  have hlt : i < ops.size := (Array.getElem?_eq_some_iff.1 hi).1
  have h1 := List.all_eq_true.1 h i (List.mem_range.2 hlt)
  intro k hk
  have h2 := List.all_eq_true.1 h1 k hk
  rw [hi] at h2
  simp only [Option.map_some, Option.getD_some] at h2
  obtain ⟨e, he, hb⟩ := Array.any_eq_true'.1 h2
  rw [Bool.and_eq_true, Bool.or_eq_true] at hb
  refine ⟨e, he, hb.1, ?_⟩
  rcases hb.2 with h3 | h3
  · exact .inl (by simpa using h3)
  · exact .inr (by simpa using h3)

section
variable {P : Program} {ops : Array Oper} {md : Region.Mode} {D : List (List Nat)}
/-- What an operation waits for has come up. -/
theorem waits_listed (hb : backB md ops = true) (hw : waitsB md ops D = true) {listed : Array Bool} (hcl : ∀ j oj, ops[j]? = some oj → listed.getD j false = true → ∀ e ∈ oj.after, Region.binds md e = true → listed.getD e.on false = true) :
    ∀ (n i : Nat) (o : Oper), i < n → ops[i]? = some o → (∀ e ∈ o.after, Region.binds md e = true → listed.getD e.on false = true) → ∀ k ∈ D.getD i [], listed.getD k false = true
  | 0, _, _, h, _, _ => absurd h (by omega)
  | n + 1, i, o, hin, hi, hl => fun k hk => by
    obtain ⟨e, he, hbi, h⟩ := waitsB_spec hw hi k hk
    have h1 := hl e he hbi
    rcases h with rfl | h
    · exact h1
    · have hlt := backB_spec hb hi e he hbi
      have hlo : i < ops.size := (Array.getElem?_eq_some_iff.1 hi).1
      have hj : ops[e.on]? = some ops[e.on] := Array.getElem?_eq_getElem (by omega)
      exact waits_listed hb hw hcl n e.on _ (by omega) hj (fun e' he' hb' => hcl _ _ hj h1 e' he' hb') k h

/-- How many of the first n have not come up. -/
def unlisted (listed : Array Bool) : Nat → Nat
  | 0 => 0
  | n + 1 => unlisted listed n + (if listed.getD n true then 0 else 1)
theorem unlisted_out {listed : Array Bool} {i : Nat} : ∀ {n : Nat}, n ≤ i → unlisted (listed.setIfInBounds i true) n = unlisted listed n
  | 0, _ => rfl
  | n + 1, h => by
    unfold unlisted
    rw [unlisted_out (n := n) (by omega), getD_set_ne true (by omega)]
theorem unlisted_set {listed : Array Bool} {i : Nat} (hu : listed.getD i true = false) : ∀ {n : Nat}, i < n → unlisted (listed.setIfInBounds i true) n + 1 = unlisted listed n
  | 0, h => absurd h (by omega)
  | n + 1, h => by
    unfold unlisted
    by_cases hin : i = n
    · subst hin
      have h1 : (listed.setIfInBounds i true).getD i true = true := by
        rcases Nat.lt_or_ge i listed.size with h' | h'
        · simp [h']
        · simp [Array.getElem?_eq_none h'] at hu
      rw [unlisted_out (Nat.le_refl _), h1, hu]
      simp
    · rw [getD_set_ne true hin]
      have := unlisted_set hu (n := n) (by omega)
      omega
theorem unlisted_zero {listed : Array Bool} : ∀ {n : Nat}, unlisted listed n = 0 → ∀ i, i < n → listed.getD i true = true
  | 0, _, _, h => absurd h (by omega)
  | n + 1, h0, i, hi => by
    unfold unlisted at h0
    by_cases hin : i = n
    · subst hin
      cases hl : listed.getD i true with
      | true => rfl
      | false => rw [hl] at h0; simp at h0
    · exact unlisted_zero (n := n) (by omega) i (by omega)
theorem unlisted_least {listed : Array Bool} : ∀ {n : Nat}, unlisted listed n ≠ 0 → ∃ i, i < n ∧ listed.getD i true = false ∧ ∀ j, j < i → listed.getD j true = true
  | 0, h => absurd rfl h
  | n + 1, h => by
    by_cases h0 : unlisted listed n = 0
    · refine ⟨n, by omega, ?_, unlisted_zero h0⟩
      unfold unlisted at h
      cases hl : listed.getD n true with
      | true => rw [hl] at h; simp [h0] at h
      | false => rfl
    · obtain ⟨i, hi, h1, h2⟩ := unlisted_least h0
      exact ⟨i, by omega, h1, h2⟩

theorem wpAny_more {Q : Exit → Act → World → Prop} : ∀ (f : Nat) (listed : Array Bool) (a : Act) (w : World), wpAny P md ops Q f listed a w → wpAny P md ops Q (f + 1) listed a w
  | 0, _, _, _, h => ⟨fun _ => h.2, fun i hi => by rw [h.1] at hi; cases hi⟩
  | f + 1, _, _, _, h => ⟨h.1, fun i hi => wpOp_mono (fun a w h' => wpAny_more f _ a w h') (h.2 i hi)⟩
theorem wpAny_add {Q : Exit → Act → World → Prop} {g : Nat} {listed : Array Bool} {a : Act} {w : World} (h : wpAny P md ops Q g listed a w) : ∀ f, wpAny P md ops Q (f + g) listed a w
  | 0 => by rw [Nat.zero_add]; exact h
  | f + 1 => by rw [show f + 1 + g = (f + g) + 1 by omega]; exact wpAny_more _ _ _ _ (wpAny_add h f)

/-- The post behind one operation: on, or out as the region's. -/
def onOr (K : Act → World → Prop) (Q : Exit → Act → World → Prop) : Exit → Act → World → Prop
  | .normal, a, w => K a w
  | e, a, w => Q e a w
theorem wpOp_of_one {Q : Exit → Act → World → Prop} {K : Act → World → Prop} {i : Nat} {o : Oper} {a : Act} {w : World} (hi : ops[i]? = some o) (h : wpList P ops (onOr K Q) [o] a w) : wpOp P ops Q i K a w := by
  unfold wpOp
  simp only [hi]
  unfold wpList at h
  split
  · rename_i hw
    rw [if_pos hw] at h
    refine h.imp (fun h => ?_) (fun h => ⟨h.1, h.2⟩)
    unfold Oper.wp at *
    generalize (execOp a.eval o).run P w = r at *
    cases r with
    | ok n w' =>
      cases n <;> simp only [Oper.upon] at h ⊢ <;>
        first
          | exact h
          | exact Calls.mono h (fun e w'' he => by cases e <;> first | exact he)
          | exact Rows.mono h (fun _ _ he => he)
    | halt x w' => cases x <;> simp only [Oper.upon] at h ⊢ <;> exact h
  · rename_i hw
    rw [if_neg hw] at h
    exact h

/-- Facts of the operations in L, each under a letter for its value. -/
def relPre (L : List Nat) (w : World) : Nat → List (Value → World → Prop) → List Oper → Act → (Act → Prop) → Prop
  | k, R :: Rs, o :: l, a, K => ∀ v, (k ∈ L → Kept R v w) → relPre L w (k + 1) Rs l (a.put o.dst v) K
  | _, _, _, a, K => K a
theorem relPre_all {L : List Nat} {w : World} {K : Act → Prop} : ∀ (l : List Oper) (Rs : List (Value → World → Prop)) (k : Nat) (a : Act) (vs : Nat → Value), Rs.length = l.length →
    (∀ j, j < l.length → k + j ∈ L → Kept (Rs.getD j (fun _ _ => True)) (vs (k + j)) w) → relPre L w k Rs l a K → K (putAll l a k vs)
  | [], [], _, _, _, _, _, h => h
  | [], _ :: _, _, _, _, hl, _, _ => by simp at hl
  | _ :: _, [], _, _, _, hl, _, _ => by simp at hl
  | o :: l, R :: Rs, k, a, vs, hl, hf, h => by
    unfold putAll
    refine relPre_all l Rs (k + 1) _ vs (by simpa using hl) (fun j hj hm => ?_) (h (vs k) fun hm => ?_)
    · have := hf (j + 1) (by simpa using hj) (by rw [show k + (j + 1) = k + 1 + j by omega]; exact hm)
      rw [show k + (j + 1) = k + 1 + j by omega] at this
      exact this
    · exact hf 0 (by simp) hm
/-- The same of all operations. -/
def relEnd (w : World) : List (Value → World → Prop) → List Oper → Act → (Act → Prop) → Prop
  | R :: Rs, o :: l, a, K => ∀ v, Kept R v w → relEnd w Rs l (a.put o.dst v) K
  | _, _, a, K => K a
theorem relEnd_all {w : World} {K : Act → Prop} : ∀ (l : List Oper) (Rs : List (Value → World → Prop)) (k : Nat) (a : Act) (vs : Nat → Value), Rs.length = l.length →
    (∀ j, j < l.length → Kept (Rs.getD j (fun _ _ => True)) (vs (k + j)) w) → relEnd w Rs l a K → K (putAll l a k vs)
  | [], [], _, _, _, _, _, h => h
  | [], _ :: _, _, _, _, hl, _, _ => by simp at hl
  | _ :: _, [], _, _, _, hl, _, _ => by simp at hl
  | o :: l, R :: Rs, k, a, vs, hl, hf, h => by
    unfold putAll
    refine relEnd_all l Rs (k + 1) _ vs (by simpa using hl) (fun j hj => ?_) (h (vs k) (hf 0 (by simp)))
    have := hf (j + 1) (by simpa using hj)
    rw [show k + (j + 1) = k + 1 + j by omega] at this
    exact this
/-- What is asked of each operation. -/
def relOps (P : Program) (ops : Array Oper) (w0 : World) (D : List (List Nat)) (Rs : List (Value → World → Prop)) (head : List Oper) (a : Act) : Nat → List Oper → List (Value → World → Prop) → Prop
  | i, o :: l, R :: Rl => (∀ w, Ext w0 w → relPre (D.getD i []) w 0 Rs head a fun a' => ∀ K : Exit → Act → World → Prop, (∀ v w', Ext w w' → Kept R v w' → K .normal (a'.put o.dst v) w') → wpList P ops K [o] a' w) ∧ relOps P ops w0 D Rs head a (i + 1) l Rl
  | _, _, _ => True
theorem relOps_get {w0 : World} {Rs : List (Value → World → Prop)} {head : List Oper} {a : Act} : ∀ (l : List Oper) (Rl : List (Value → World → Prop)) (k j : Nat) (o : Oper), Rl.length = l.length → l[j]? = some o → relOps P ops w0 D Rs head a k l Rl →
    ∀ w, Ext w0 w → relPre (D.getD (k + j) []) w 0 Rs head a fun a' => ∀ K : Exit → Act → World → Prop, (∀ v w', Ext w w' → Kept (Rl.getD j (fun _ _ => True)) v w' → K .normal (a'.put o.dst v) w') → wpList P ops K [o] a' w
  | [], _, _, _, _, _, h, _ => by simp at h
  | _ :: _, [], _, _, _, hl, _, _ => by simp at hl
  | p :: l, R :: Rl, k, 0, o, _, h, hh => by
    have : p = o := by simpa using h
    subst this
    exact hh.1
  | p :: l, R :: Rl, k, j + 1, o, hl, h, hh => by
    have := relOps_get l Rl (k + 1) j o (by simpa using hl) (by simpa using h) hh.2
    rw [show k + 1 + j = k + (j + 1) by omega] at this
    exact this

/-- What waits for a later one of the tail waits for all of the head. -/
def chainTB (md : Region.Mode) (ops : Array Oper) (n : Nat) : Bool :=
  (List.range ops.size).all fun t => decide (t ≤ n) || (List.range t).any fun j => decide (n ≤ j) && Region.waitsFor md ops t j
theorem tail_waits_rel {n : Nat} {listed : Array Bool} (hs : Region.sinkB md ops n = true) (hc : chainTB md ops n = true) (inv : HeadInv md ops n listed) :
    ∀ (d i : Nat), n - i = d → i < n → listed.getD i true = false → ∀ t, n ≤ t → t ∉ Region.ready md ops listed := by
  intro d
  induction d using Nat.strongRecOn with
  | _ d ih =>
    intro i hd hi hun t ht hr
    obtain ⟨_, ot, hot, hall⟩ := mem_ready.1 hr
    have htlt : t < ops.size := (Array.getElem?_eq_some_iff.1 hot).1
    by_cases htn : t = n
    · subst htn
      have h1 := List.all_eq_true.1 hs i (List.mem_range.2 hi)
      obtain ⟨j, hj, hj2⟩ := List.any_eq_true.1 h1
      simp only [Bool.and_eq_true, decide_eq_true_eq] at hj2
      obtain ⟨oj, hoj, e, he, hb, hon⟩ := Region.waitsFor_spec hj2.2
      have hjle : j ≤ t := by have := List.mem_range.1 hj; omega
      by_cases hjt : j = t
      · subst hjt
        have : oj = ot := Option.some.inj (hoj.symm.trans hot)
        subst this
        have h2 := hall e he hb
        rw [hon, getD_both hun] at h2
        cases h2
      · cases hl : listed.getD j false with
        | true =>
          have h2 := inv.closed j oj hoj hl e he hb
          rw [hon, getD_both hun] at h2
          cases h2
        | false =>
          have hjs : j < listed.size := by rw [inv.size]; omega
          exact ih (t - j) (by omega) j rfl (by omega) (getD_in hjs hl) t (Nat.le_refl _) hr
    · have h1 := List.all_eq_true.1 hc t (List.mem_range.2 htlt)
      simp only [Bool.or_eq_true, decide_eq_true_eq] at h1
      rcases h1 with h1 | h1
      · omega
      · obtain ⟨j, hj, hj2⟩ := List.any_eq_true.1 h1
        simp only [Bool.and_eq_true, decide_eq_true_eq] at hj2
        obtain ⟨o', ho', e, he, hb, hon⟩ := Region.waitsFor_spec hj2.2
        have hjt := List.mem_range.1 hj
        have : o' = ot := Option.some.inj (ho'.symm.trans hot)
        subst this
        have h2 := hall e he hb
        rw [hon, getD_both (inv.tail j hj2.1 (by omega))] at h2
        cases h2

/-- What a region must be. -/
def relB (md : Region.Mode) (ops : Array Oper) (n : Nat) (D : List (List Nat)) : Bool :=
  Region.noSelect ops && decide (n ≤ ops.size) && (decide (n = ops.size) || (Region.sinkB md ops n && chainTB md ops n)) && backB md ops && waitsB md ops D && dstsB (ops.toList.take n)
/-- The first n have come up. -/
def listedN (ops : Array Oper) (n : Nat) : Array Bool := (Array.replicate n true) ++ (Array.replicate (ops.size - n) false)

theorem listed_all {listed : Array Bool} {n m : Nat} (hs : listed.size = m) (hn : n ≤ m) (h1 : ∀ i, i < n → listed.getD i true = true) (h2 : ∀ t, n ≤ t → t < m → listed.getD t true = false) :
    listed = (Array.replicate n true) ++ (Array.replicate (m - n) false) := by
  apply Array.ext
  · simp; omega
  · intro i hi hi'
    rcases Nat.lt_or_ge i n with h | h
    · have := h1 i h
      rw [Array.getElem_append_left (by simpa using h)]
      simp [hi] at this ⊢
      exact this
    · have := h2 i h (by omega)
      rw [Array.getElem_append_right (by simpa using h)]
      simp [hi] at this ⊢
      exact this

theorem wpAny_rel {w0 : World} {a0 : Act} {n : Nat} {Rs : List (Value → World → Prop)} {Q : Exit → Act → World → Prop} (hB : relB md ops n D = true) (hlen : Rs.length = n)
    (hops : relOps P ops w0 D Rs (ops.toList.take n) a0 0 (ops.toList.take n) Rs) (hend : ∀ w, Ext w0 w → relEnd w Rs (ops.toList.take n) a0 fun a' => wpAny P md ops Q (ops.size - n) (listedN ops n) a' w) :
    ∀ (f : Nat) (listed : Array Bool) (w : World) (vs : Nat → Value), HeadInv md ops n listed → unlisted listed n ≤ f → Ext w0 w → (∀ i, i < n → listed.getD i false = true → Kept (Rs.getD i (fun _ _ => True)) (vs i) w) →
      wpAny P md ops Q (f + (ops.size - n)) listed (putAll (ops.toList.take n) a0 0 vs) w := by
  unfold relB at hB
  simp only [Bool.and_eq_true, Bool.or_eq_true, decide_eq_true_eq] at hB
  obtain ⟨⟨⟨⟨⟨hsel, hn⟩, htail⟩, hback⟩, hwaits⟩, hdst⟩ := hB
  have htl : (ops.toList.take n).length = n := by simp; omega
  -- all have come up
  have done : ∀ (listed : Array Bool) (w : World) (vs : Nat → Value), HeadInv md ops n listed → unlisted listed n = 0 → Ext w0 w → (∀ i, i < n → listed.getD i false = true → Kept (Rs.getD i (fun _ _ => True)) (vs i) w) →
      wpAny P md ops Q (ops.size - n) listed (putAll (ops.toList.take n) a0 0 vs) w := by
    intro listed w vs inv h0 hx hf
    have hall := unlisted_zero h0
    have hal : ∀ i, i < n → listed.getD i false = true := fun i hi => by
      have h1 := hall i hi
      have h2 : i < listed.size := by rw [inv.size]; omega
      simp [h2] at h1 ⊢
      exact h1
    have he := relEnd_all (ops.toList.take n) Rs 0 a0 vs (by rw [hlen, htl]) (fun j hj => by rw [Nat.zero_add]; rw [htl] at hj; exact hf j hj (hal j hj)) (hend w hx)
    have hll := listed_all inv.size hn hall inv.tail
    rw [hll]
    exact he
  intro f
  induction f with
  | zero =>
    intro listed w vs inv hc hx hf
    rw [Nat.zero_add]
    exact done listed w vs inv (by omega) hx hf
  | succ f ih =>
    intro listed w vs inv hc hx hf
    by_cases h0 : unlisted listed n = 0
    · exact wpAny_add (done listed w vs inv h0 hx hf) _
    · rw [show f + 1 + (ops.size - n) = (f + (ops.size - n)) + 1 by omega]
      obtain ⟨i0, hi0, hu0, hl0⟩ := unlisted_least h0
      have hin : ∀ i ∈ Region.ready md ops listed, i < n := by
        intro i hi
        rcases htail with h | ⟨hs, hch⟩
        · obtain ⟨_, o, ho, _⟩ := mem_ready.1 hi
          have := (Array.getElem?_eq_some_iff.1 ho).1
          omega
        · rcases Nat.lt_or_ge i n with h | h
          · exact h
          · exact absurd hi (tail_waits_rel hs hch inv _ i0 rfl hi0 hu0 i h)
      refine ⟨fun hr => ?_, fun i hi => ?_⟩
      · exfalso
        have hlt : i0 < ops.size := by omega
        have hget : ops[i0]? = some ops[i0] := Array.getElem?_eq_getElem hlt
        have : i0 ∈ Region.ready md ops listed := mem_ready.2 ⟨hu0, _, hget, fun e he hb => by
          have h1 := backB_spec hback hget e he hb
          have h2 := hl0 _ h1
          have h3 : e.on < listed.size := by rw [inv.size]; omega
          simp [h3] at h2 ⊢
          exact h2⟩
        rw [hr] at this
        cases this
      · have hi' := hin i hi
        obtain ⟨hun, o, ho, hall⟩ := mem_ready.1 hi
        have hget : (ops.toList.take n)[i]? = some o := by
          rw [List.getElem?_take, if_pos hi']
          simpa using ho
        have hD := waits_listed hback hwaits inv.closed (i + 1) i o (by omega) ho hall
        have hpre := relOps_get (ops.toList.take n) Rs 0 i o (by rw [hlen, htl]) hget hops w hx
        rw [Nat.zero_add] at hpre
        have hone := relPre_all (ops.toList.take n) Rs 0 a0 vs (by rw [hlen, htl]) (fun j hj hm => by
          rw [Nat.zero_add] at hm ⊢
          rw [htl] at hj
          exact hf j hj (hD j hm)) hpre
        refine wpOp_of_one ho (hone _ fun v w' hx' hk => ?_)
        show wpAny P md ops Q (f + (ops.size - n)) (listed.setIfInBounds i true) _ w'
        rw [← putAll_put (ops.toList.take n) a0 0 i vs o v (dstsB_spec hdst) hget, Nat.zero_add]
        refine ih _ w' _ (inv.set hi hi') (by have := unlisted_set hun hi'; omega) (hx.trans hx') fun j hj hl => ?_
        by_cases hji : j = i
        · subst hji
          rw [if_pos rfl]
          exact hk
        · rw [if_neg hji]
          rw [getD_set_ne false (Ne.symm hji)] at hl
          exact (hf j hj hl).later hx'
end

/-- The region. -/
theorem wp_region_rel {P : Program} {id : Nat} {Q : Exit → Act → World → Prop} {a : Act} {w : World} {l : List Oper} (n : Nat) (D : List (List Nat)) (Rs : List (Value → World → Prop)) (hm : P.follows .mixedOrders = true) (hB : relB .any l.toArray n D = true) (hlen : Rs.length = n)
    (hops : relOps P l.toArray w D Rs (l.take n) a 0 (l.take n) Rs) (hend : ∀ w', Ext w w' → relEnd w' Rs (l.take n) a fun a' => wpAny P .any l.toArray Q (l.length - n) (listedN l.toArray n) a' w') : (Code.region id l.toArray true).wp P Q a w := by
  refine wp_region_any hm ?_
  have hn : n ≤ l.toArray.size := by
    have := hB
    unfold relB at this
    simp only [Bool.and_eq_true, decide_eq_true_eq] at this
    exact this.1.1.1.1.2
  obtain ⟨vs, hvs⟩ := putAll_self (l.take n) a 0
  have inv0 : HeadInv .any l.toArray n (Array.replicate l.toArray.size false) :=
    ⟨by simp, fun j oj _ hl => (by rw [getD_replicate_false] at hl; cases hl), fun t _ ht => getD_in (by simpa using ht) (getD_replicate_false _ _)⟩
  have hu : ∀ k, unlisted (Array.replicate l.toArray.size false) k ≤ k := fun k => by
    induction k with
    | zero => exact Nat.le_refl _
    | succ k ih => unfold unlisted; split <;> omega
  have := wpAny_rel (P := P) (md := .any) (w0 := w) (a0 := a) (Q := Q) hB hlen (by simpa using hops) (fun w' hx => by simpa using hend w' hx) n _ { w with drawn := w.drawn + 1 } vs inv0 (hu n) ⟨rfl, rfl, rfl, Nat.le_refl _, fun _ _ => rfl⟩ (fun i _ hl => by rw [getD_replicate_false] at hl; cases hl)
  rw [show n + (l.toArray.size - n) = l.toArray.size by omega] at this
  simpa [hvs] using this
/-- Nothing is left behind the head. -/
theorem tail_none {P : Program} {Q : Exit → Act → World → Prop} {a : Act} {w : World} {l : List Oper} {n : Nat} (hB : (decide (n = l.length) && (Region.ready .any l.toArray (listedN l.toArray n)).isEmpty) = true) (h : Q .normal a w) : wpAny P .any l.toArray Q (l.length - n) (listedN l.toArray n) a w := by
  simp only [Bool.and_eq_true, decide_eq_true_eq, List.isEmpty_iff] at hB
  rw [show l.length - n = 0 by omega]
  exact ⟨hB.2, h⟩
/-- What is left reads, in whatever order: one walk of the text's order. -/
theorem tail_quiet {P : Program} {Q : Exit → Act → World → Prop} {a : Act} {w : World} {l : List Oper} {n : Nat} (hB : (Region.noSelect l.toArray && Region.lexFrom .any l.toArray (l.length - n) n (listedN l.toArray n)) = true)
    (h : wpQuiet P l.toArray (fun w' => w' = w) (fun a' => Q .normal a' w) (l.drop n) a) : wpAny P .any l.toArray Q (l.length - n) (listedN l.toArray n) a w := by
  simp only [Bool.and_eq_true] at hB
  have hl : (l.drop n).length = l.length - n := by simp
  have := wpAnyQ_lex (C := fun w' => w' = w) (md := .any) hB.1 (l.drop n) n (listedN l.toArray n) a (fun j => by simp [List.getElem?_drop]) (by rw [hl]; exact hB.2) h
  rw [hl] at this
  exact wpAny_of_quiet (C := fun w' => w' = w) (Q := fun a' => Q .normal a' w) (fun a' w' hw' h' => by subst hw'; exact h') _ _ _ _ rfl this
/-- What is left comes one by one. -/
theorem tail_seq {P : Program} {Q : Exit → Act → World → Prop} {a : Act} {w : World} {l : List Oper} {n : Nat} (hB : Region.seqB .any l.toArray (l.length - n) n (listedN l.toArray n) = true)
    (h : wpList P l.toArray Q (l.drop n) a w) : wpAny P .any l.toArray Q (l.length - n) (listedN l.toArray n) a w := by
  have hl : (l.drop n).length = l.length - n := by simp
  have := wpAny_of_seq (md := .any) (Q' := Q) (l.drop n) n (listedN l.toArray n) a w (fun j => by simp [List.getElem?_drop]) (by rw [hl]; exact hB) h
  rwa [hl] at this
end Go.Proofs.Ythobfbnopkbniaa
end

section
namespace Go.Proofs.Ythobfbnopkbniaa
open Go.RowKit

/-- The fence of a round. -/
abbrev rnd (l : Nat) : Fence := Fence.wide.inRound l

def Oper.calmB (o : Oper) : Bool := match o.op with | .defer _ => false | _ => true
theorem Oper.calm_spec {o : Oper} (h : Oper.calmB o = true) : ∀ c, o.op ≠ .defer c := by
  intro c hc
  unfold Oper.calmB at h
  rw [hc] at h
  cases h

theorem callsIn_rnd {l n : Nat} {P : Program} {f : FuncId} {args : Array Value} {w : World} {R : Ending → World → Prop} (h : Calls P f args w R) : CallsIn (rnd l) n P f args w R :=
  CallsIn.inRound l (callsIn_wide.2 h)
theorem rowsIn_rnd {l n : Nat} {P : Program} {row : String} {args : Array Value} {w : World} {R : Value → World → Prop} (h : Rows P row args w R) : RowsIn (rnd l) n P row args w R :=
  fun c cs _ => by
    obtain ⟨v, w', r, s⟩ := h c cs
    exact ⟨v, w', r, (show StepsIn (Machine.fenced P Fence.wide) P _ _ from stepsIn_wide.2 s)⟩

section
variable {P : Program} {o : Oper} {a : Act} {w : World} {l n : Nat} {ops : Array Oper} {Q : Exit → Act → World → Prop}
theorem uponIn_of_upon {K K' : Act → World → Prop} (hK : ∀ a w, K a w → K' a w) : ∀ r, o.upon P a K Q r → o.uponIn (rnd l) n P a K' Q r := by
  intro r h
  have hd : ((rnd l).depth.isSome = true → 1 ≤ n) := fun h => by simp [rnd, Fence.inRound, Fence.wide] at h
  cases r with
  | ok x w' =>
    cases x with
    | value v => exact hK _ _ h
    | skip => exact hK _ _ h
    | defer d => exact hK _ _ h
    | enter f args =>
      refine ⟨hd, callsIn_rnd (Calls.mono (R := _) h ?_)⟩
      intro e w'' he
      cases e with
      | returned v => exact hK _ _ he
      | panicked c => exact he
      | outgrown => exact he
    | row r args => exact ⟨hd, rowsIn_rnd (Rows.mono (R := _) h fun _ _ he => hK _ _ he)⟩
    | round => exact h.elim
    | _ => first | exact h.elim | exact hK _ _ h
  | halt x w' =>
    cases x with
    | panic v => exact h
    | _ => exact h.elim

theorem operIn_of_oper {K K' : Act → World → Prop} (hc : Oper.calmB o = true) (hK : ∀ a w, K a w → K' a w) (h : o.wp P a w K Q) : o.wpIn (rnd l) n P a w K' Q := by
  refine ⟨fun _ _ => trivial, ?_⟩
  have e : o.semAt (rnd l).round a.eval = execOp a.eval o := Oper.semAt_some l _ _ (Oper.calm_spec hc)
  rw [e]
  exact uponIn_of_upon hK _ h

theorem wpListIn_of (hQ : ¬ LetsOut Q) : ∀ (ls : List Oper) (a : Act) (w : World), ls.all Oper.calmB = true → wpList P ops Q ls a w → wpListIn (rnd l) n P ops Q ls a w
  | [], _, _, _, h => h
  | o :: ls, a, w, hc, h => by
    rw [List.all_cons, Bool.and_eq_true] at hc
    unfold wpListIn
    unfold wpList at h
    split
    · rename_i hw
      rw [if_pos hw] at h
      rcases h with h | h
      · exact operIn_of_oper hc.1 (fun a w h => wpListIn_of hQ ls a w hc.2 h) h
      · exact absurd h.2 hQ
    · rename_i hw
      rw [if_neg hw] at h
      exact ⟨fun _ _ => trivial, wpListIn_of hQ ls _ _ hc.2 h⟩
theorem wpOpsIn_of (hQ : ¬ LetsOut Q) (hc : ops.toList.all Oper.calmB = true) : ∀ (ls : List Nat) (a : Act) (w : World), wpOps P ops Q ls a w → wpOpsIn (rnd l) n P ops Q ls a w
  | [], _, _, h => h
  | i :: ls, a, w, h => by
    unfold wpOpsIn
    unfold wpOps at h
    cases ho : ops[i]? with
    | none =>
      rw [ho] at h
      exact wpOpsIn_of hQ hc ls a w h
    | some o =>
      rw [ho] at h
      have hco : Oper.calmB o = true := List.all_eq_true.1 hc o (by
        obtain ⟨hlt, rfl⟩ := Array.getElem?_eq_some_iff.1 ho
        exact Array.getElem_mem_toList hlt)
      dsimp only at h ⊢
      split
      · rename_i hw
        rw [if_pos hw] at h
        rcases h with h | h
        · exact operIn_of_oper hco (fun a w h => wpOpsIn_of hQ hc ls a w h) h
        · exact absurd h.2 hQ
      · rename_i hw
        rw [if_neg hw] at h
        exact ⟨fun _ _ => trivial, wpOpsIn_of hQ hc ls _ _ h⟩
end

/-- The region's order, as far as it is drawn. -/
theorem wpAny_region_rel {P : Program} {Q : Exit → Act → World → Prop} {a : Act} {w : World} {l : List Oper} (n : Nat) (D : List (List Nat)) (Rs : List (Value → World → Prop)) (hB : relB .any l.toArray n D = true) (hlen : Rs.length = n)
    (hops : relOps P l.toArray w D Rs (l.take n) a 0 (l.take n) Rs) (hend : ∀ w', Ext w w' → relEnd w' Rs (l.take n) a fun a' => wpAny P .any l.toArray Q (l.length - n) (listedN l.toArray n) a' w') :
    wpAny P .any l.toArray Q l.length (Array.replicate l.length false) a { w with drawn := w.drawn + 1 } := by
  have hn : n ≤ l.toArray.size := by
    have := hB
    unfold relB at this
    simp only [Bool.and_eq_true, decide_eq_true_eq] at this
    exact this.1.1.1.1.2
  obtain ⟨vs, hvs⟩ := putAll_self (l.take n) a 0
  have inv0 : HeadInv .any l.toArray n (Array.replicate l.toArray.size false) :=
    ⟨by simp, fun j oj _ hl => (by rw [getD_replicate_false] at hl; cases hl), fun t _ ht => getD_in (by simpa using ht) (getD_replicate_false _ _)⟩
  have hu : ∀ k, unlisted (Array.replicate l.toArray.size false) k ≤ k := fun k => by
    induction k with
    | zero => exact Nat.le_refl _
    | succ k ih => unfold unlisted; split <;> omega
  have := wpAny_rel (P := P) (md := .any) (w0 := w) (a0 := a) (Q := Q) hB hlen (by simpa using hops) (fun w' hx => by simpa using hend w' hx) n _ { w with drawn := w.drawn + 1 } vs inv0 (hu n) ⟨rfl, rfl, rfl, Nat.le_refl _, fun _ _ => rfl⟩ (fun i _ hl => by rw [getD_replicate_false] at hl; cases hl)
  rw [show n + (l.toArray.size - n) = l.toArray.size by omega] at this
  simpa [hvs] using this
section
variable {P : Program} {id n k : Nat} {Q : Exit → Act → World → Prop} {a : Act} {w : World} {l : List Oper}
/-- A region in the text's order. -/
theorem rnd_region (hc : l.all Oper.calmB = true) (hQ : ¬ LetsOut Q) (h : wpList P l.toArray Q l a w) : (Code.region id l.toArray false).wpIn (rnd k) n P Q a w :=
  wpIn_region_lit (wpListIn_of hQ l a w hc h)
/-- A region that draws its order. -/
theorem rnd_region_any (hm : P.follows .mixedOrders = true) (hc : l.all Oper.calmB = true) (hQ : ¬ LetsOut Q)
    (h : wpAny P .any l.toArray Q l.length (Array.replicate l.length false) a { w with drawn := w.drawn + 1 }) : (Code.region id l.toArray true).wpIn (rnd k) n P Q a w :=
  wpIn_region_draw fun t => wpOpsIn_of hQ (by simpa using hc) _ _ _ (by
    simp only [Region.schedule, hm, Bool.true_or, if_true]
    exact wpAny_sound l.toArray.size t _ a _ (by simpa using h))
theorem rnd_region_rel (m : Nat) (D : List (List Nat)) (Rs : List (Value → World → Prop)) (hc : l.all Oper.calmB = true) (hQ : ¬ LetsOut Q) (hm : P.follows .mixedOrders = true) (hB : relB .any l.toArray m D = true) (hlen : Rs.length = m)
    (hops : relOps P l.toArray w D Rs (l.take m) a 0 (l.take m) Rs) (hend : ∀ w', Ext w w' → relEnd w' Rs (l.take m) a fun a' => wpAny P .any l.toArray Q (l.length - m) (listedN l.toArray m) a' w') : (Code.region id l.toArray true).wpIn (rnd k) n P Q a w :=
  rnd_region_any hm hc hQ (wpAny_region_rel m D Rs hB hlen hops hend)
end
end Go.Proofs.Ythobfbnopkbniaa
end

section
namespace Go.Proofs.Ythobfbnopkbniaa
open Go.RowKit Go.Shelf

/-- Memory is made, and blocks from n on that hold no cells are turned; nothing else. -/
structure Aside (n : Nat) (W W' : World) : Prop where
  os : W'.os = W.os
  tape : W'.tape = W.tape
  output : W'.output = W.output
  size : W.heap.size ≤ W'.heap.size
  same : ∀ (k : Nat) (o : Obj), W.heap[k]? = some o → (k < n ∨ o.isCells = true) → W'.heap[k]? = some o
theorem Aside.refl (n : Nat) (W : World) : Aside n W W := ⟨rfl, rfl, rfl, Nat.le_refl _, fun _ _ h _ => h⟩
theorem Aside.trans {n : Nat} {a b c : World} (h : Aside n a b) (k : Aside n b c) : Aside n a c :=
  ⟨k.os.trans h.os, k.tape.trans h.tape, k.output.trans h.output, Nat.le_trans h.size k.size, fun i o hi ho => k.same i o (h.same i o hi ho) ho⟩
theorem Aside.alloc (n : Nat) (W : World) (o : Obj) : Aside n W (W.alloc o) :=
  ⟨rfl, rfl, rfl, by simp, fun k _ hk _ => (Below.heap_alloc W o k (Array.getElem?_eq_some_iff.1 hk).1).trans hk⟩
theorem Aside.put {n l : Nat} {W : World} {o : Obj} (o' : Obj) (hl : n ≤ l) (h : W.heap[l]? = some o) (ho : o.isCells = false) : Aside n W (W.putObj l o') :=
  ⟨rfl, rfl, rfl, by simp, fun k o1 hk hc => (World.putObj_heap_other (fun e => by
    subst e
    rw [h] at hk
    cases hk
    rcases hc with hc | hc
    · omega
    · rw [ho] at hc; cases hc)).trans hk⟩
theorem Aside.below {n : Nat} {W W' : World} (h : Aside n W W') (hn : n ≤ W.heap.size) : Below n W W' :=
  ⟨h.os, h.tape, h.output, h.size, fun k hk => by
    have hlt : k < W.heap.size := by omega
    rw [h.same k _ (Array.getElem?_eq_getElem hlt) (.inl hk), Array.getElem?_eq_getElem hlt]⟩
theorem Aside.cell {n : Nat} {W W' : World} {p : Addr} {v : Value} (h : Aside n W W') (hc : W.cell? p = some v) : W'.cell? p = some v := by
  obtain ⟨o, ho, hoc⟩ := cells_of_cell hc
  rw [← hc]
  exact World.cell?_of_block ((h.same _ _ ho (.inr hoc)).trans ho.symm)
theorem Aside.frozen {n : Nat} {W W' : World} {p : Addr} {v : Value} (h : Aside n W W') (hc : W.cell? p = some v) : W'.frozen? p = W.frozen? p := by
  obtain ⟨o, ho, hoc⟩ := cells_of_cell hc
  exact World.frozen?_of_block ((h.same _ _ ho (.inr hoc)).trans ho.symm)

/-- How a round is left. -/
def rndPost (n : Nat) (I : World → Prop) (Ix : Code → World → Prop) (W : World) : Exit → Act → World → Prop
  | .normal, _, W' => KeepsFrom n W W' ∧ I W'
  | .ret, _, W' => KeepsFrom n W W' ∧ Ix .ret W'
  | .exit id, _, W' => KeepsFrom n W W' ∧ Ix (.exit id) W'
  | .goto t, _, W' => KeepsFrom n W W' ∧ Ix (.goto t) W'
  | .panic _, _, _ => False
  | .outgrown, _, _ => False
theorem rndPost_in {n : Nat} {I : World → Prop} {Ix : Code → World → Prop} {W : World} : ¬ LetsOut (rndPost n I Ix W) := fun ⟨_, _, h⟩ => h
theorem keepsFrom_ext {n : Nat} {W W' : World} (h : Below W.heap.size W W') : KeepsFrom n W W' :=
  ⟨h.size, fun k _ _ hk _ => (h.block k (Array.getElem?_eq_some_iff.1 hk).1).trans hk⟩

/-- What the iterator reads: the pointer in its box; the turns' darts. -/
def DI (W : World) (bx : Nat) (p : Option Addr) (Ad : Option Addr) (nd cd B : Nat) (ds : List Int) : Prop :=
  W.cell? ⟨bx, 0, none⟩ = some (.pointer p) ∧ ((p = none ∧ nd = 0) ∨ ∃ r, p = some ⟨r, 0, none⟩ ∧ W.cell? ⟨r, 3, none⟩ = some (.slice Ad nd cd) ∧ IS W B Ad nd cd ds)

/-- The mark of the block of the rounds' deferred calls. -/
abbrev markOf (D : Nat) : Deferred := { target := .collected D, args := #[] }

set_option maxHeartbeats 4000000 in
set_option maxRecDepth 100000 in
theorem wp_range_darts {g : Operand} {t : Tmp} {assign body : Code} {Q : Exit → Act → World → Prop} {a : Act} {w : World} {bx nd cd B : Nat} {p Ad : Option Addr} {ds : List Int}
    (hg : a.eval g = .func (.func 74) #[] #[.pointer (some ⟨bx, 0, none⟩)])
    (I : Nat → World → Prop) (Ix : Code → World → Prop) (hsI : ∀ k W W', I k W → Aside w.heap.size W W' → I k W') (hsX : ∀ c W W', Ix c W → Aside w.heap.size W W' → Ix c W')
    (hD : ∀ k W, I k W → DI W bx p Ad nd cd B ds) (h0 : I 0 w) (a₁ : Int → Act)
    (hassign : ∀ l n x W (K : Act → World → Prop), K (a₁ x) W → assign.wpIn (rnd l) n Try.prog (Exit.then K (fun _ _ _ => False)) { tmps := a.tmps.setIfInBounds t (.int .i64 x), defers := [] } W)
    (hbody : ∀ l n k W, I k W → k < nd → body.wpIn (rnd l) n Try.prog (rndPost w.heap.size (I (k + 1)) Ix W) (a₁ (ds.getD k 0)) W)
    (hdone : ∀ D W, w.heap.size ≤ D → I nd W → W.heap[D]? = some (.deferred (some [])) → Q .normal { a with defers := markOf D :: a.defers } W)
    (hstop : ∀ D c W, w.heap.size ≤ D → Ix c W → W.heap[D]? = some (.deferred (some [])) → c.wp Try.prog Q { a with defers := markOf D :: a.defers } W) :
    (Code.rangeFunc g #[t] assign body).wp Try.prog Q a w := by
  refine (wpIn_wide (n := 5)).1 (wpIn_rangeFunc ?_)
  intro fn _
  obtain ⟨rec, hrec⟩ : ∃ rec : LoopState → Option Code → Loop, rec = fun st pe => { state := st, pending := pe, fn, tmps := a.tmps, params := #[t], assign, body, defers := w.heap.size } := ⟨_, rfl⟩
  obtain ⟨L, hL⟩ : ∃ L, L = w.heap.size + 1 := ⟨_, rfl⟩
  obtain ⟨W1, hW1⟩ : ∃ W1, (w.alloc (.deferred (some []))).alloc (.loop (rec .ready none)) = W1 := ⟨_, rfl⟩
  have hr1 : W1.heap[L]? = some (.loop (rec .ready none)) := by
    rw [← hW1, hL]; have := World.alloc_heap_new (w.alloc (.deferred (some []))) (.loop (rec .ready none)); rwa [World.size_alloc] at this
  have hd1 : W1.heap[w.heap.size]? = some (.deferred (some [])) := by
    rw [← hW1]; exact (Below.heap_alloc _ _ _ (by simp)).trans (World.alloc_heap_new w _)
  have hI1 : I 0 W1 := hsI _ _ _ h0 (by rw [← hW1]; exact (Aside.alloc _ _ _).trans (Aside.alloc _ _ _))
  have enters : ∀ args W, (callFunc 74 args).run Try.prog W = .ok (.enter 74 args) W := enters_of Try.func74 (by kernel_rfl) rfl
  refine ⟨L, [markOf w.heap.size], W1, { target := .fn (.func 74) #[.pointer (some ⟨bx, 0, none⟩)], args := #[.func (.yield L) #[] #[]] }, W1, 74,
    #[.func (.yield L) #[] #[], .pointer (some ⟨bx, 0, none⟩)], W1, ?_, ?_, fun _ _ => trivial, ?_, fun _ => by omega, ?_⟩
  · rw [← hW1, hrec, hL]; exact run_enterLoop_outer _ _ _ _ _
  · simp only [resolve, hg]
    simp [go_sem]
  · simp [invoke, go_sem, enters]
  -- one round
  have hround : ∀ k W, k < nd → I k W → W.heap[L]? = some (.loop (rec .ready none)) → W.heap[w.heap.size]? = some (.deferred (some [])) →
      (Instr.yield L #[.int .i64 (ds.getD k 0)]).run Try.prog W = .ok (.round L fn (a.tmps.setIfInBounds t (.int .i64 (ds.getD k 0))) assign body) W ∧
      ∀ n, RoundIn Fence.wide n Try.prog L fn (a.tmps.setIfInBounds t (.int .i64 (ds.getD k 0))) assign body W fun e W' =>
        (e = .returned (.bool true) ∧ I (k + 1) W' ∧ W'.heap[L]? = some (.loop (rec .ready none)) ∧ W'.heap[w.heap.size]? = some (.deferred (some []))) ∨
        (e = .returned (.bool false) ∧ ∃ c, Ix c W' ∧ W'.heap[L]? = some (.loop (rec .done (some c))) ∧ W'.heap[w.heap.size]? = some (.deferred (some []))) := by
    intro k W hk hi hl hd
    have hy := run_yield (P := Try.prog) (args := #[.int .i64 (ds.getD k 0)]) hl (by rw [hrec]; simp)
    refine ⟨by rw [hy, hrec]; simp, fun n => ?_⟩
    have hlt : L < W.heap.size := (Array.getElem?_eq_some_iff.1 hl).1
    refine roundIn_of_wpIn trivial (hassign _ _ _ _ _ ⟨_, run_beginRound hl (by rw [hrec]), ?_⟩)
    obtain ⟨busy, hbusy⟩ : ∃ busy : Loop, busy = { rec .ready none with state := .busy } := ⟨_, rfl⟩
    rw [← hbusy]
    have hl2 : (W.putObj L (.loop busy)).heap[L]? = some (.loop busy) := World.putObj_heap_same hlt
    have hd2 : (W.putObj L (.loop busy)).heap[w.heap.size]? = some (.deferred (some [])) := (World.putObj_heap_other (by omega)).trans hd
    have hi2 : I k (W.putObj L (.loop busy)) := hsI _ _ _ hi (Aside.put _ (by omega) hl rfl)
    have fin : ∀ (jump : Option Code) (W3 : World), KeepsFrom w.heap.size (W.putObj L (.loop busy)) W3 →
        (Instr.endRound L jump).run Try.prog W3 = .ok (.bool jump.isNone) (W3.putObj L (.loop (rec (if jump.isNone then .ready else .done) jump))) ∧ Aside w.heap.size W3 (W3.putObj L (.loop (rec (if jump.isNone then .ready else .done) jump))) ∧
        (W3.putObj L (.loop (rec (if jump.isNone then .ready else .done) jump))).heap[L]? = some (.loop (rec (if jump.isNone then .ready else .done) jump)) ∧
        (W3.putObj L (.loop (rec (if jump.isNone then .ready else .done) jump))).heap[w.heap.size]? = some (.deferred (some [])) := fun jump W3 hk3 => by
      have hl3 := hk3.same _ _ (by omega) hl2 rfl
      have he := run_endRound (P := Try.prog) jump hl3
      refine ⟨by rw [he, hbusy, hrec], Aside.put _ (by omega) hl3 rfl, World.putObj_heap_same (Array.getElem?_eq_some_iff.1 hl3).1, (World.putObj_heap_other (by omega)).trans (hk3.same _ _ (Nat.le_refl _) hd2 rfl)⟩
    refine wpIn_mono (hbody L n k _ hi2 hk) ?_
    rintro e a3 W3 hp
    cases e with
    | normal =>
      obtain ⟨hr, hs, hl4, hd4⟩ := fin none W3 hp.1
      exact ⟨_, _, hr, .inl ⟨rfl, hsI _ _ _ hp.2 hs, hl4, hd4⟩⟩
    | ret =>
      obtain ⟨hr, hs, hl4, hd4⟩ := fin (some .ret) W3 hp.1
      exact ⟨_, _, hr, .inr ⟨rfl, .ret, hsX _ _ _ hp.2 hs, hl4, hd4⟩⟩
    | exit id =>
      obtain ⟨hr, hs, hl4, hd4⟩ := fin (some (.exit id)) W3 hp.1
      exact ⟨_, _, hr, .inr ⟨rfl, .exit id, hsX _ _ _ hp.2 hs, hl4, hd4⟩⟩
    | goto u =>
      obtain ⟨hr, hs, hl4, hd4⟩ := fin (some (.goto u)) W3 hp.1
      exact ⟨_, _, hr, .inr ⟨rfl, .goto u, hsX _ _ _ hp.2 hs, hl4, hd4⟩⟩
    | panic ch => exact hp.elim
    | outgrown => exact hp.elim
  -- the ways out
  have endN : ∀ v W, I nd W → W.heap[L]? = some (.loop (rec .ready none)) → W.heap[w.heap.size]? = some (.deferred (some [])) → rangePost Fence.wide 5 Try.prog L Q { a with defers := [markOf w.heap.size] ++ a.defers } (.returned v) W := fun v W hi hl hd => by
    have he := run_endLoop (P := Try.prog) hl (by rw [hrec]; simp)
    refine ⟨none, _, by rw [he, hrec], hdone _ _ (Nat.le_refl _) (hsI _ _ _ hi (Aside.put _ (by omega) hl rfl)) ((World.putObj_heap_other (by omega)).trans hd)⟩
  have endX : ∀ v c W, Ix c W → W.heap[L]? = some (.loop (rec .done (some c))) → W.heap[w.heap.size]? = some (.deferred (some [])) → rangePost Fence.wide 5 Try.prog L Q { a with defers := [markOf w.heap.size] ++ a.defers } (.returned v) W := fun v c W hi hl hd => by
    have he := run_endLoop (P := Try.prog) hl (by rw [hrec]; simp)
    refine ⟨some c, _, by rw [he, hrec], wpIn_wide.2 (hstop _ _ _ (Nat.le_refl _) (hsX _ _ _ hi (Aside.put _ (by omega) hl rfl)) ((World.putObj_heap_other (by omega)).trans hd))⟩
  -- the iterator
  have hL0 := hr1
  have hbx := (hD _ _ hI1).1
  have hcase := (hD _ _ hI1).2
  have hR := Lib.hid hround
  have hN := Lib.hid endN
  have hX := Lib.hid endX
  have hDD := Lib.hid hD
  clear hround endN endX hD hsI hsX hassign hbody hdone hstop hW1 hL0 hrec h0 hg enters hL
  refine callsIn_of_wp Try.func74 rfl trivial ?_ rfl
  simp only [Try.ntmps74, List.size_toArray, List.length_cons, List.length_nil, Nat.reduceAdd, Nat.reduceSub, Array.replicate_succ, Array.replicate_zero, List.push_toArray, List.append_toArray, List.nil_append, List.cons_append]
  rcases hcase with ⟨rfl, rfl⟩ | ⟨r, rfl, hc3, his⟩
  · gi_wp2
    refine bodyPost_ret (results_none rfl _ _ _) rfl ?_
    exact hN.out _ _ hI1 hr1 hd1
  · gi_wp2
    gi_loopw [12] (fun i wr => ∃ k : Nat, k ≤ nd ∧ i = .int .i64 k ∧ I k wr ∧ wr.heap[L]? = some (.loop (rec .ready none)) ∧ wr.heap[w.heap.size]? = some (.deferred (some []))) (fun i _ => nd - (intOf i).toNat)
    case atStart => exact ⟨0, Nat.zero_le _, rfl, hI1, hr1, hd1⟩
    case round =>
      obtain ⟨k, hk, rfl, hi, hl, hd⟩ := hrel
      by_cases hlt : k < nd
      · obtain ⟨hy, hRR⟩ := hR.out k wr hlt hi hl hd
        have isw : IS wr B Ad nd cd ds := by
          rcases (hDD.out _ _ hi).2 with ⟨h, _⟩ | ⟨r', h, _, h'⟩
          · cases h
          · exact h'
        obtain ⟨b', o', z, hA, hb', hz, hz64, hcz⟩ := isw.get hlt
        subst hA
        rw [hz.out] at hy hRR
        have hndc := his.cap
        have hndl := his.le
        clear isw his hI1 hr1 hd1 hc3 hbx
        gi_wp2
        refine (hRR _).mono ?_
        rintro e W3 (⟨rfl, hi3, hl3, hd3⟩ | ⟨rfl, c, hx3, hl3, hd3⟩)
        · gi_wp2
          go_roundw
          case rel => exact ⟨k + 1, by omega, by go_num, hi3, hl3, hd3⟩
          case measure => simp [intOf]; omega
        · gi_wp2
          refine bodyPost_ret (results_none rfl _ _ _) rfl ?_
          exact hX.out _ _ _ hx3 hl3 hd3
      · obtain rfl : k = nd := by omega
        clear his hI1 hr1 hd1 hc3 hbx
        gi_wp2
        go_end0
        exact hN.out _ _ hi hl hd

/-- The statement with a loop variable in slot v. -/
theorem wp_range_darts_v {g : Operand} {t v : Tmp} {id : Nat} {ty : TypeId} {pos : String} {after : Array Edge} {body : Code} {Q : Exit → Act → World → Prop} {a : Act} {w : World} {bx nd cd B : Nat} {p Ad : Option Addr} {ds : List Int}
    (hg : a.eval g = .func (.func 74) #[] #[.pointer (some ⟨bx, 0, none⟩)])
    (I : Nat → World → Prop) (Ix : Code → World → Prop) (hsI : ∀ k W W', I k W → Aside w.heap.size W W' → I k W') (hsX : ∀ c W W', Ix c W → Aside w.heap.size W W' → Ix c W')
    (hD : ∀ k W, I k W → DI W bx p Ad nd cd B ds) (h0 : I 0 w) (ht : t < a.tmps.size)
    (hbody : ∀ l n k W, I k W → k < nd → body.wpIn (rnd l) n Try.prog (rndPost w.heap.size (I (k + 1)) Ix W) { tmps := (a.tmps.setIfInBounds t (.int .i64 (ds.getD k 0))).setIfInBounds v (.int .i64 (ds.getD k 0)), defers := [] } W)
    (hdone : ∀ D W, w.heap.size ≤ D → I nd W → W.heap[D]? = some (.deferred (some [])) → Q .normal { a with defers := markOf D :: a.defers } W)
    (hstop : ∀ D c W, w.heap.size ≤ D → Ix c W → W.heap[D]? = some (.deferred (some [])) → c.wp Try.prog Q { a with defers := markOf D :: a.defers } W) :
    (Code.rangeFunc g #[t] (Code.region id #[{ dst := some v, op := .assign (.tmp t), type := ty, pos := pos, after := after, guard := none }] false) body).wp Try.prog Q a w :=
  wp_range_darts hg I Ix hsI hsX hD h0 (fun x => { tmps := (a.tmps.setIfInBounds t (.int .i64 x)).setIfInBounds v (.int .i64 x), defers := [] })
    (fun l n x W K hK => rnd_region (l := [{ dst := some v, op := .assign (.tmp t), type := ty, pos := pos, after := after, guard := none }]) rfl (fun ⟨_, _, h⟩ => h) (by
      unfold wpList
      rw [if_pos (by simp [Region.wanted])]
      refine .inl ?_
      unfold Oper.wp execOp
      have e : (Act.mk (a.tmps.setIfInBounds t (.int .i64 x)) []).eval (.tmp t) = .int .i64 x := by
        simp [Act.eval, ht]
      simp only [Sem.run_pure, Oper.upon, e, Act.put]
      exact hK))
    hbody hdone hstop

/-- Leaving with a result that lies in a cell. -/
theorem run_cell_bool {fn : Func} {p : Tmp} {tmps : Array Value} {w : World} {rb : Nat} {b : Bool} (h : fn.results = #[.cell p 4]) (hp : tmps.getD p undef = .pointer (some ⟨rb, 0, none⟩)) (hc : w.cell? ⟨rb, 0, none⟩ = some (.bool b)) :
    (results fn tmps).run Try.prog w = .ok (.bool b) w := by
  have hp' : tmps[p]?.getD undef = .pointer (some ⟨rb, 0, none⟩) := by rw [← hp, Array.getD_eq_getD_getElem?]
  simp [results, h, go_sem, hp', hc]
theorem leave_cell {fn : Func} {p : Tmp} {tmps : Array Value} {w : World} {rb n : Nat} {b : Bool} {R : Ending → World → Prop} (h : fn.results = #[.cell p 4]) (hp : tmps.getD p undef = .pointer (some ⟨rb, 0, none⟩)) (hc : w.cell? ⟨rb, 0, none⟩ = some (.bool b))
    (hR : R (.returned (.bool b)) w) : bodyPostM Fence.wide n Try.prog fn R .ret { tmps := tmps, defers := [] } w :=
  ⟨_, run_cell_bool h hp hc, hR⟩
theorem leave_cell_mark {fn : Func} {p : Tmp} {tmps : Array Value} {w : World} {rb n D : Nat} {b : Bool} {R : Ending → World → Prop} (h : fn.results = #[.cell p 4]) (hp : tmps.getD p undef = .pointer (some ⟨rb, 0, none⟩)) (hc : w.cell? ⟨rb, 0, none⟩ = some (.bool b))
    (hD : w.heap[D]? = some (.deferred (some []))) (hR : R (.returned (.bool b)) (w.putObj D (.deferred none))) : bodyPostM Fence.wide n Try.prog fn R .ret { tmps := tmps, defers := [markOf D] } w := by
  refine ⟨by simp, .inl ⟨D, _, rfl, run_takeDeferred hD, ?_⟩⟩
  exact ⟨_, run_cell_bool h hp ((Aside.put (n := D) (.deferred none) (Nat.le_refl _) hD rfl).cell hc), hR⟩
theorem below_mark {n D : Nat} {w w' : World} (hb : Below n w w') (hD : n ≤ D) : Below n w (w'.putObj D (.deferred none)) :=
  hb.trans ⟨rfl, rfl, rfl, by simp, fun k hk => World.putObj_heap_other (by omega)⟩
end Go.Proofs.Ythobfbnopkbniaa
end

section
namespace Go.Proofs.Ythobfbnopkbniaa
open Go.RowKit

/-- A variable's box. -/
theorem box_new (w : World) (v : Value) (t : TypeId) : ∃ w1, w.alloc (.cells #[v] t) = w1 ∧ Below w.heap.size w w1 ∧ w.heap.size < w1.heap.size ∧ w1.heap[w.heap.size]? = some (.cells #[v] t (0, 0)) :=
  ⟨_, rfl, (Below.refl _ _).alloc (Nat.le_refl _) _, by simp, heap_alloc_new _ _⟩
theorem box_cell {w : World} {g : Nat} {v : Value} {t : TypeId} (h : w.heap[g]? = some (.cells #[v] t (0, 0))) : w.cell? ⟨g, 0, none⟩ = some v := by simp [World.cell?, h]
theorem box_frozen {w : World} {g : Nat} {v : Value} {t : TypeId} (h : w.heap[g]? = some (.cells #[v] t (0, 0))) : w.frozen? ⟨g, 0, none⟩ = false := by simp [World.frozen?, h]
theorem box_set {w : World} {g : Nat} {v : Value} {t : TypeId} (h : w.heap[g]? = some (.cells #[v] t (0, 0))) (u : Value) : (w.setCell ⟨g, 0, none⟩ u).heap[g]? = some (.cells #[u] t (0, 0)) := by
  simp [World.setCell, Array.getElem?_modify, h]
theorem set_grown (w : World) (g : Nat) (u : Value) : w.grownBy (w.setCell ⟨g, 0, none⟩ u) (some g) :=
  ⟨rfl, rfl, rfl, by simp [World.setCell], fun i _ hi => Below.heap_setCell _ _ _ _ (fun e => hi (by rw [e]))⟩
theorem set_size (w : World) (g : Nat) (u : Value) : (w.setCell ⟨g, 0, none⟩ u).heap.size = w.heap.size := by simp [World.setCell]
theorem set_below {n g : Nat} {w : World} (h : n ≤ g) (u : Value) : Below n w (w.setCell ⟨g, 0, none⟩ u) := (Below.refl n w).setCell (p := ⟨g, 0, none⟩) h u
theorem set_keeps (n g : Nat) (w : World) (u : Value) : KeepsFrom n w (w.setCell ⟨g, 0, none⟩ u) := (KeepsOthers.setCell w ⟨g, 0, none⟩ u).from n

/-- What is put into a box that holds a pointer turns no other cell, and no map. -/
structure Past (g : Nat) (w w' : World) : Prop where
  grown : w.grownBy w' (some g)
  cell : ∀ (p : Addr) (v : Value), w.cell? p = some v → (∀ q, v ≠ .pointer q) → w'.cell? p = some v
  nomap : ∀ es clock, w.heap[g]? ≠ some (.map es clock)
theorem past_box {w : World} {g : Nat} {q : Option Addr} {t : TypeId} (h : w.heap[g]? = some (.cells #[.pointer q] t (0, 0))) (u : Value) : Past g w (w.setCell ⟨g, 0, none⟩ u) := by
  refine ⟨set_grown w g u, fun p v hc hv => ?_, fun es clock hm => by rw [h] at hm; cases hm⟩
  have hne : p.block ≠ g := fun e => by
    unfold World.cell? at hc
    rw [e, h] at hc
    dsimp only at hc
    split at hc
    · cases hc
    · match ho : p.off with
      | 0 => rw [ho] at hc; simp at hc; exact hv q hc.symm
      | k + 1 => rw [ho] at hc; simp at hc
  rw [← hc]
  exact World.cell?_of_block ((set_grown w g u).block _ (World.block_lt_of_cell? w _ hc) (fun e => hne (by injection e)))
section
variable {g : Nat} {w w' : World}
theorem IS.past_ {A : Option Addr} {n c : Nat} {xs : List Int} (h : IS w w.heap.size A n c xs) (hp : Past g w w') : IS w' w'.heap.size A n c xs := by
  refine ⟨h.1, h.2.1, h.2.2.1, h.2.2.2.1, fun hn => ?_⟩
  obtain ⟨b, o, e, hb, hc⟩ := h.2.2.2.2 hn
  exact ⟨b, o, e, Nat.lt_of_lt_of_le hb hp.grown.size, fun j hj => hp.cell _ _ (hc j hj) (fun q => by simp)⟩
theorem TS.past_ {A : Option Addr} {n c : Nat} {tt : List (List Int)} (h : TS w w.heap.size A n c tt) (hp : Past g w w') : TS w' w'.heap.size A n c tt := by
  refine ⟨h.1, h.2.1, h.2.2.1, fun hn => ?_⟩
  obtain ⟨b, o, e, hb, hc⟩ := h.2.2.2 hn
  refine ⟨b, o, e, Nat.lt_of_lt_of_le hb hp.grown.size, fun j hj => ?_⟩
  obtain ⟨A', n', c', h1, h2⟩ := hc j hj
  exact ⟨A', n', c', hp.cell _ _ h1 (fun q => by simp), h2.past_ hp⟩
theorem MV.past_ {b n : Nat} {f : Int → Option Value} (h : MV w b n f) (hp : Past g w w') : MV w' b n f :=
  h.kept hp.grown (fun e => by
    obtain ⟨es, clock, hb⟩ := h.block
    injection e with e
    subst e
    exact hp.nomap _ _ hb)
theorem RS.past_ {r : Nat} {lv : Int → Option Int} {tt : List (List Int)} {pl : Int → Option Int} {ds : List Int} (h : RS w r lv tt pl ds) (hp : Past g w w') : RS w' r lv tt pl ds := by
  obtain ⟨At, nt, ct, lb, nl, pb, np, Ad, nd, cd, h0, c0, c1, c2, c3, h1, h2, h3, h4⟩ := h
  exact ⟨At, nt, ct, lb, nl, pb, np, Ad, nd, cd, Nat.lt_of_lt_of_le h0 hp.grown.size, hp.cell _ _ c0 (fun q => by simp), hp.cell _ _ c1 (fun q => by simp), hp.cell _ _ c2 (fun q => by simp), hp.cell _ _ c3 (fun q => by simp),
    h1.past_ hp, MV.past_ h2 hp, MV.past_ h3 hp, h4.past_ hp⟩
end
/-- The run of a store of a pointer to turns. -/
theorem run_store_rota {w : World} {g : Nat} {v : Value} (h : w.heap[g]? = some (.cells #[v] 31 (0, 0))) (q : Option Addr) :
    (Instr.storeAt 31 (.pointer (some ⟨g, 0, none⟩)) (.pointer q)).run Try.prog w = .ok () (w.setCell ⟨g, 0, none⟩ (.pointer q)) := by
  have hc := box_cell h
  have hf := box_frozen h
  unfold Instr.storeAt Instr.sureAddr
  go_simp
/-- The iterator's facts, of turns. -/
theorem RS.di {w : World} {r bx : Nat} {lv : Int → Option Int} {tt : List (List Int)} {pl : Int → Option Int} {ds : List Int} (h : RS w r lv tt pl ds) :
    ∃ Ad nd cd, nd = ds.length ∧ (w.cell? ⟨bx, 0, none⟩ = some (.pointer (some ⟨r, 0, none⟩)) → DI w bx (some ⟨r, 0, none⟩) Ad nd cd w.heap.size ds) := by
  obtain ⟨At, nt, ct, lb, nl, pb, np, Ad, nd, cd, h0, c0, c1, c2, c3, h1, h2, h3, h4⟩ := h
  exact ⟨Ad, nd, cd, h4.len.symm, fun hc => ⟨hc, .inr ⟨r, rfl, c3, h4⟩⟩⟩
theorem RS.dp {w : World} {r : Nat} {lv : Int → Option Int} {tt : List (List Int)} {pl : Int → Option Int} {ds : List Int} (h : RS w r lv tt pl ds) :
    ∃ Ad nd cd, nd = ds.length ∧ w.cell? ⟨r, 3, none⟩ = some (.slice Ad nd cd) ∧ IS w w.heap.size Ad nd cd ds := by
  obtain ⟨At, nt, ct, lb, nl, pb, np, Ad, nd, cd, h0, c0, c1, c2, c3, h1, h2, h3, h4⟩ := h
  exact ⟨Ad, nd, cd, h4.len.symm, c3, h4⟩
theorem DI.below {w w' : World} {bx nd cd B : Nat} {p Ad : Option Addr} {ds : List Int} (h : DI w bx p Ad nd cd B ds) (hB : B ≤ w.heap.size) (hbx : bx < w.heap.size) (hp : ∀ a, p = some a → a.block < w.heap.size) (hb : Below w.heap.size w w') : DI w' bx p Ad nd cd B ds := by
  obtain ⟨h1, h2⟩ := h
  refine ⟨(hb.cell (p := ⟨bx, 0, none⟩) hbx).trans h1, h2.imp id ?_⟩
  rintro ⟨r, rfl, h3, h4⟩
  exact ⟨r, rfl, (hb.cell (p := ⟨r, 3, none⟩) (hp ⟨r, 0, none⟩ rfl)).trans h3, h4.below (hb.mono hB)⟩
section
variable {fn : Func} {p : Tmp} {tmps : Array Value} {W : World} {rb n D : Nat} {b0 b : Bool} {R : Ending → World → Prop}
theorem leave_set (h : fn.results = #[.cell p 4]) (hp : tmps.getD p undef = .pointer (some ⟨rb, 0, none⟩)) (hrb : W.heap[rb]? = some (.cells #[.bool b0] 4 (0, 0)))
    (hR : R (.returned (.bool b)) (W.setCell ⟨rb, 0, none⟩ (.bool b))) : bodyPostM Fence.wide n Try.prog fn R .ret { tmps := tmps, defers := [] } (W.setCell ⟨rb, 0, none⟩ (.bool b)) :=
  leave_cell h hp (box_cell (box_set hrb _)) hR
theorem leave_set_mark (h : fn.results = #[.cell p 4]) (hp : tmps.getD p undef = .pointer (some ⟨rb, 0, none⟩)) (hrb : W.heap[rb]? = some (.cells #[.bool b0] 4 (0, 0))) (hD : W.heap[D]? = some (.deferred (some [])))
    (hR : R (.returned (.bool b)) ((W.setCell ⟨rb, 0, none⟩ (.bool b)).putObj D (.deferred none))) : bodyPostM Fence.wide n Try.prog fn R .ret { tmps := tmps, defers := [markOf D] } (W.setCell ⟨rb, 0, none⟩ (.bool b)) :=
  leave_cell_mark h hp (box_cell (box_set hrb _)) (((set_grown W rb _).block D (Array.getElem?_eq_some_iff.1 hD).1 (fun e => by
    injection e with e
    subst e
    rw [hrb] at hD
    cases hD)).trans hD) hR
end
end Go.Proofs.Ythobfbnopkbniaa
end

section
namespace Go.Proofs.Ythobfbnopkbniaa
open Go.RowKit

/-- The box ob holds a row of the call's own that reads as L. -/
def OutAt (w0 w : World) (ob : Nat) (v : Value) (L : List (Int × List Int)) : Prop :=
  w.heap[ob]? = some (.cells #[v] 72 (0, 0)) ∧ OwnW 76 w0 w v L ∧ w0.heap.size ≤ ob
section
variable {w0 w w' : World} {ob : Nat} {v v' : Value} {L L' : List (Int × List Int)}
theorem OutAt.lt (h : OutAt w0 w ob v L) : ob < w.heap.size := (Array.getElem?_eq_some_iff.1 h.1).1
theorem OutAt.ne (h : OutAt w0 w ob v L) : v.ownBlock ≠ some ob := fun e => by
  obtain ⟨cur, hc, _⟩ := h.2.1.owns e
  rw [h.1] at hc
  injection hc with hc
  injection hc with _ ht
  revert ht
  decide
/-- Another block has been turned, that holds no integers, or is new since. -/
theorem OutAt.kept {row : Nat} (h : OutAt w0 w ob v L) (hg : w.grownBy w' (some row)) (hr : w0.heap.size ≤ row) (h1 : row ≠ ob) (hv : v.ownBlock ≠ some row) (hin : ∀ (a : Addr) (x : Int), w.cell? a = some (.int .i64 x) → some a.block ≠ v.ownBlock → row ≠ a.block) : OutAt w0 w' ob v L :=
  ⟨(hg.block ob h.lt (fun e => h1 (by injection e with e; exact e.symm))).trans h.1, h.2.1.kept hg (fun k hk => by cases hk; exact hr) (.inr hv) (fun a x ha hne e => hin a x ha hne (by injection e)), h.2.2⟩
theorem OutAt.later (h : OutAt w0 w ob v L) (hb : Below w.heap.size w w') : OutAt w0 w' ob v L := ⟨(hb.block ob h.lt).trans h.1, h.2.1.later hb, h.2.2⟩
theorem no_int_map {b : Nat} {es : Array MapEntry} {clock : Nat} (h : w.heap[b]? = some (.map es clock)) (a : Addr) (x : Int) (ha : w.cell? a = some (.int .i64 x)) : b ≠ a.block := fun e => by
  subst e
  unfold World.cell? at ha
  rw [h] at ha
  cases ha
/-- A map has been turned. -/
theorem OutAt.mapped {b n : Nat} {f : Int → Option Value} (h : OutAt w0 w ob v L) (hm : MV w b n f) (hb : w0.heap.size ≤ b) (hg : w.grownBy w' (some b)) : OutAt w0 w' ob v L := by
  obtain ⟨es, clock, hmb⟩ := hm.block
  refine h.kept hg hb (fun e => ?_) (fun e => ?_) fun a x ha _ => no_int_map hmb a x ha
  · subst e
    rw [h.1] at hmb
    cases hmb
  · obtain ⟨cur, hc, _⟩ := h.2.1.owns e
    rw [hmb] at hc
    cases hc
/-- 'out = append(out, ..)', behind the append: what the store needs, and what it leaves. -/
theorem OutAt.appended {tmp : Obj} (h : OutAt w0 w ob v L) (hown : OwnW 76 w0 w' v' L') (hg : (w.alloc tmp).grownBy w' v.ownBlock) :
    w'.heap[ob]? = some (.cells #[v] 72 (0, 0)) ∧ OutAt w0 (w'.setCell ⟨ob, 0, none⟩ v') ob v' L' := by
  have hlt := h.lt
  have hbox : w'.heap[ob]? = some (.cells #[v] 72 (0, 0)) := ((hg.block ob (by simp; omega) (fun e => h.ne e.symm)).trans (Below.heap_alloc _ _ _ hlt)).trans h.1
  refine ⟨hbox, box_set hbox v', hown.kept (set_grown w' ob v') (fun k hk => by cases hk; exact h.2.2) (.inr fun e => ?_) (fun a x ha _ e => ?_), h.2.2⟩
  · obtain ⟨cur, hc, _⟩ := hown.owns e
    rw [hbox] at hc
    injection hc with hc
    injection hc with _ ht
    revert ht
    decide
  · injection e with e
    unfold World.cell? at ha
    rw [← e, hbox] at ha
    dsimp only at ha
    obtain ⟨A, n, c, rfl⟩ := h.2.1.slice
    split at ha
    · cases ha
    · match ho : a.off with
      | 0 => rw [ho] at ha; simp at ha
      | k + 1 => rw [ho] at ha; simp at ha
end
theorem run_makeMap_none (w : World) : (Instr.makeMap 52 none).run Try.prog w = .ok (.map (some w.heap.size)) (w.alloc (.map #[] 0)) := by
  simp [Instr.makeMap]
theorem map_new (w : World) : ∃ w1, w.alloc (.map #[] 0) = w1 ∧ Below w.heap.size w w1 ∧ w.heap.size < w1.heap.size ∧ MI w1 w.heap.size 0 fun _ => none :=
  ⟨_, rfl, (Below.refl _ _).alloc (Nat.le_refl _) _, by simp, MI.made w⟩
/-- Leaving with two results. -/
theorem leave_res2 {fn : Func} {p q : Tmp} {tmps : Array Value} {w : World} {n : Nat} {R : Ending → World → Prop} (h : fn.results = #[.tmp p, .tmp q]) (hR : R (.returned (.tuple #[tmps.getD p undef, tmps.getD q undef])) w) :
    bodyPostM Fence.wide n Try.prog fn R .ret { tmps := tmps, defers := [] } w := ⟨_, results_tmp2 h _ _ _, hR⟩
theorem leave_res2_marks {fn : Func} {p q : Tmp} {tmps : Array Value} {w : World} {n D E : Nat} {R : Ending → World → Prop} (h : fn.results = #[.tmp p, .tmp q]) (hD : w.heap[D]? = some (.deferred (some []))) (hE : w.heap[E]? = some (.deferred (some []))) (hne : E ≠ D)
    (hR : R (.returned (.tuple #[tmps.getD p undef, tmps.getD q undef])) ((w.putObj D (.deferred none)).putObj E (.deferred none))) :
    bodyPostM Fence.wide n Try.prog fn R .ret { tmps := tmps, defers := [markOf D, markOf E] } w := by
  have hE' : (w.putObj D (.deferred none)).heap[E]? = some (.deferred (some [])) := (World.putObj_heap_other hne).trans hE
  refine ⟨by simp, .inl ⟨D, _, rfl, run_takeDeferred hD, by simp, .inl ⟨E, _, rfl, run_takeDeferred hE', ?_⟩⟩⟩
  exact ⟨_, results_tmp2 h _ _ _, hR⟩
end Go.Proofs.Ythobfbnopkbniaa
end

section
namespace Go.Proofs.Ythobfbnopkbniaa
open Go.RowKit

structure FS (w0 W : World) (ob lb mb : Nat) (v : Value) (L : List (Int × List Int)) (cnt : Nat) (g : Int → Option Int) : Prop where
  out : OutAt w0 W ob v L
  box : W.heap[lb]? = some (.cells #[.map (some mb)] 52 (0, 0))
  map : MI W mb cnt g
  lo : w0.heap.size ≤ mb
section
variable {w0 W W' : World} {ob lb mb cnt n : Nat} {v : Value} {L : List (Int × List Int)} {g : Int → Option Int}
theorem OwnW.aside {tw : TypeId} (h : OwnW tw w0 W v L) (ha : Aside n W W') (hn : w0.heap.size ≤ n) (hs : n ≤ W.heap.size) : OwnW tw w0 W' v L := by
  obtain ⟨vs, h1, h2⟩ := h.row
  refine ⟨⟨vs, ⟨h1.1, ?_⟩, fun j hj => ?_⟩, h.key, h.below.trans ((ha.below hs).mono hn)⟩
  · rcases h1.2 with h3 | ⟨b, cap, cur, rfl, hb, hg, rest⟩
    · exact .inl h3
    · exact .inr ⟨b, cap, cur, rfl, hb, ha.same _ _ hg (.inr rfl), rest⟩
  · obtain ⟨e1, u, hu, A, m, c, rfl, his, hne⟩ := h2 j hj
    refine ⟨e1, _, hu, A, m, c, rfl, ⟨his.1, his.2.1, his.2.2.1, his.2.2.2.1, fun hm => ?_⟩, hne⟩
    obtain ⟨b, o, rfl, hb, hc⟩ := his.at_ hm
    exact ⟨b, o, rfl, Nat.lt_of_lt_of_le hb ha.size, fun i hi => ha.cell (hc i hi)⟩
theorem FS.aside (h : FS w0 W ob lb mb v L cnt g) (ha : Aside n W W') (hn : mb < n) (hs : n ≤ W.heap.size) : FS w0 W' ob lb mb v L cnt g := by
  have hlo := h.lo
  refine ⟨⟨ha.same _ _ h.out.1 (.inr rfl), h.out.2.1.aside ha (by omega) hs, h.out.2.2⟩, ha.same _ _ h.box (.inr rfl), ?_, h.lo⟩
  obtain ⟨D, ⟨es, clock, h0, h1⟩, h2, h3⟩ := h.map
  exact ⟨D, ⟨es, clock, ha.same _ _ h0 (.inl hn), h1⟩, h2, h3⟩
theorem FS.later (h : FS w0 W ob lb mb v L cnt g) (hb : Below W.heap.size W W') : FS w0 W' ob lb mb v L cnt g :=
  ⟨h.out.later hb, (hb.block _ (Array.getElem?_eq_some_iff.1 h.box).1).trans h.box, MV.step h.map hb, h.lo⟩
theorem FS.lbmb (h : FS w0 W ob lb mb v L cnt g) : lb ≠ mb := fun e => by
  obtain ⟨es, clock, hm⟩ := h.map.block
  rw [← e, h.box] at hm
  cases hm
theorem FS.turned {cnt' : Nat} {g' : Int → Option Int} (h : FS w0 W ob lb mb v L cnt g) (hm : MI W' mb cnt' g') (hg : W.grownBy W' (some mb)) : FS w0 W' ob lb mb v L cnt' g' :=
  ⟨h.out.mapped h.map h.lo hg, (hg.block lb (Array.getElem?_eq_some_iff.1 h.box).1 (fun e => h.lbmb (by injection e))).trans h.box, hm, h.lo⟩
theorem FS.congr {g' : Int → Option Int} (h : FS w0 W ob lb mb v L cnt g) (he : ∀ z, g' z = g z) : FS w0 W ob lb mb v L cnt g' :=
  ⟨h.out, h.box, (by rw [show g' = g from funext he]; exact h.map), h.lo⟩
theorem FS.below (h : FS w0 W ob lb mb v L cnt g) : Below w0.heap.size w0 W := h.out.2.1.below
theorem FS.noMap (h : FS w0 W ob lb mb v L cnt g) {k : Nat} {o : Obj} (ho : W.heap[k]? = some o) (hm : ∀ es clock, o ≠ .map es clock) : k ≠ mb := fun e => by
  obtain ⟨es, clock, hb⟩ := h.map.block
  rw [← e, ho] at hb
  injection hb with hb
  exact hm _ _ hb
end
theorem WS.aside {w w' : World} {k n c : Nat} {A : Option Addr} {L : List (Int × List Int)} (h : WS w w.heap.size A n c L) (ha : Aside k w w') : WS w' w'.heap.size A n c L := by
  refine ⟨h.1, h.2.1, h.2.2.1, h.2.2.2.1, fun hn => ?_⟩
  obtain ⟨b, o, e, hb, hc⟩ := h.2.2.2.2 hn
  refine ⟨b, o, e, Nat.lt_of_lt_of_le hb ha.size, fun j hj => ?_⟩
  obtain ⟨h1, A', n', c', h2, h3⟩ := hc j hj
  refine ⟨ha.cell h1, A', n', c', ha.cell h2, h3.1, h3.2.1, h3.2.2.1, h3.2.2.2.1, fun hm => ?_⟩
  obtain ⟨b', o', e', hb', hc'⟩ := h3.at_ hm
  exact ⟨b', o', e', Nat.lt_of_lt_of_le hb' ha.size, fun i hi => ha.cell (hc' i hi)⟩
/-- The darts that have been put in. -/
def inG (D : List Int) (k : Nat) : Int → Option Int := fun z => if z ∈ D.take k then some z else none
theorem inG_next {D : List Int} {k : Nat} {d : Int} (hk : k < D.length) (hd : D.getD k 0 = d) (z : Int) : inG D (k + 1) z = upd (inG D k) d d z := by
  unfold inG upd
  rw [take_getD hk hd]
  simp only [List.mem_append, List.mem_singleton]
  by_cases hz : z = d
  · simp [hz]
  · simp [hz]
/-- The darts that are left. -/
def leftG (f : Int → Int) (n : Nat) (D : List Int) (k : Nat) : Int → Option Int := fun z => if leftB f n D k z = true then some z else none
theorem leftG_zero {f : Int → Int} {n : Nat} {D : List Int} (z : Int) : leftG f n D 0 z = inG D D.length z := by
  unfold leftG inG
  rw [List.take_of_length_le (Nat.le_refl _)]
  by_cases hz : z ∈ D
  · rw [if_pos (left_all hz), if_pos hz]
  · rw [left_out hz, if_neg hz]
    rfl
/-- .. when the first j of d's orbit have been gone through. -/
def goneG (f : Int → Int) (n : Nat) (D : List Int) (k : Nat) (d : Int) (j : Nat) : Int → Option Int := fun z => if leftB f n D k z = true ∧ z ∉ (orb f n d).take j then some z else none
section
variable {f : Int → Int} {D : List Int} {n k j p : Nat} {d : Int}
theorem goneG_zero (z : Int) : goneG f n D k d 0 z = leftG f n D k z := by unfold goneG leftG; simp
theorem goneG_next (hp : Period f d p) (hn : p ≤ n) (hj : j < p) (z : Int) : goneG f n D k d (j + 1) z = del (goneG f n D k d j) (iter f j d) z := by
  unfold goneG del
  rw [take_getD (by rw [orb_len hp hn]; exact hj) (orb_get hp hn hj)]
  simp only [List.mem_append, List.mem_singleton]
  by_cases hz : z = iter f j d
  · simp [hz]
  · simp [hz]
theorem goneG_end (hP : PermOn f D) (hn : D.length ≤ n) (hk : k < D.length) (hd : D.getD k 0 = d) (hl : (orb f n d).length = p) (z : Int) : goneG f n D k d p z = leftG f n D (k + 1) z := by
  unfold goneG leftG
  rw [left_go hP hn hk hd, List.take_of_length_le (by omega)]
  by_cases hz : z ∈ orb f n d
  · simp [hz]
  · simp [hz]
theorem goneG_some (hP : PermOn f D) (hn : D.length ≤ n) (hl : leftB f n D k d = true) (hp : Period f d p) (hpn : p ≤ n) (hj : j < p) : goneG f n D k d j (iter f j d) = some (iter f j d) := by
  unfold goneG
  refine if_pos ⟨left_meets hP hn hl ⟨j, rfl⟩, fun hm => ?_⟩
  have hdm := ((leftB_iff hP hn).1 hl).1
  rw [List.mem_take_iff_getElem] at hm
  obtain ⟨i, hi, e⟩ := hm
  rw [← getD_idx (by omega), orb_get hp hpn (by omega)] at e
  have hnd := orb_nodup hP hdm hn
  have := nodup_inj hnd (i := i) (j := j) (by rw [orb_len hp hpn]; omega) (by rw [orb_len hp hpn]; omega) (by rw [orb_get hp hpn (by omega), orb_get hp hpn hj]; exact e)
  omega
theorem goneG_back (hp : Period f d p) (hpn : p ≤ n) : goneG f n D k d p d = none := by
  unfold goneG
  refine if_neg fun hm => hm.2 ?_
  rw [List.take_of_length_le (by rw [orb_len hp hpn]; exact Nat.le_refl _)]
  have h0 := orb_get (k := 0) hp hpn hp.1
  have hl : 0 < (orb f n d).length := by rw [orb_len hp hpn]; exact hp.1
  rw [getD_idx hl] at h0
  have hm := List.getElem_mem hl
  rw [h0] at hm
  exact hm
theorem leftG_some (h : leftB f n D k d = true) : leftG f n D k d = some d := if_pos h
theorem leftG_none (h : leftB f n D k d = false) : leftG f n D k d = none := if_neg (by rw [h]; simp)
theorem leftG_skip (hP : PermOn f D) (hn : D.length ≤ n) (hk : k < D.length) (hd : D.getD k 0 = d) (h : leftB f n D k d = false) (z : Int) : leftG f n D (k + 1) z = leftG f n D k z := by
  unfold leftG
  rw [left_skip hP hn hk hd h]
end

set_option maxHeartbeats 4000000 in
set_option maxRecDepth 100000 in
theorem darts_box (w : World) (p : Option Addr) :
    Calls Try.prog 35 #[.pointer p] w fun e w' => ∃ bx, e = .returned (.func (.func 74) #[] #[.pointer (some ⟨bx, 0, none⟩)]) ∧ w'.heap[bx]? = some (.cells #[.pointer p] 31 (0, 0)) ∧ w.heap.size ≤ bx ∧ bx < w'.heap.size ∧ Below w.heap.size w w' := by
  have hh := heap_alloc_new w (.cells #[.pointer p] 31)
  go_enter Try.func35, Try.ntmps35
  go_wp2
  go_ret
  exact ⟨_, rfl, hh, Nat.le_refl _, by simp, (Below.refl _ _).alloc (Nat.le_refl _) _⟩
section
variable {w0 w w' : World} {ob lb mb cnt : Nat} {v v' : Value} {L L' : List (Int × List Int)} {g : Int → Option Int}
/-- What lies neither in the out row, nor in its box, stays where the row is made longer. -/
theorem FS.other {tmp : Obj} (h : FS w0 w ob lb mb v L cnt g) (hg : (w.alloc tmp).grownBy w' v.ownBlock) {k : Nat} {o : Obj} (ho : w.heap[k]? = some o) (h1 : k ≠ ob) (h2 : ∀ cur fr, o ≠ .cells cur 76 fr) : (w'.setCell ⟨ob, 0, none⟩ v').heap[k]? = some o := by
  have hlt : k < w.heap.size := (Array.getElem?_eq_some_iff.1 ho).1
  have hsz := hg.size
  have ha : (w.alloc tmp).heap.size = w.heap.size + 1 := by simp
  rw [(set_grown w' ob v').block k (by omega) (fun e => h1 (by injection e)), hg.block k (by omega) (fun e => ?_), Below.heap_alloc _ _ _ hlt]
  · exact ho
  · obtain ⟨cur, hc, _⟩ := h.out.2.1.owns e.symm
    rw [ho] at hc
    injection hc with hc
    exact h2 _ _ hc
theorem FS.appended {tmp : Obj} (h : FS w0 w ob lb mb v L cnt g) (hown : OwnW 76 w0 w' v' L') (hg : (w.alloc tmp).grownBy w' v.ownBlock) :
    w'.heap[ob]? = some (.cells #[v] 72 (0, 0)) ∧ FS w0 (w'.setCell ⟨ob, 0, none⟩ v') ob lb mb v' L' cnt g := by
  obtain ⟨h1, h2⟩ := h.out.appended hown hg
  obtain ⟨D, ⟨es, clock, hm, hr⟩, hs, hk⟩ := h.map
  refine ⟨h1, h2, h.other hg h.box (fun e => ?_) (fun cur fr e => ?_), ⟨D, ⟨es, clock, h.other hg hm (fun e => ?_) (fun cur fr e => by cases e), hr⟩, hs, hk⟩, h.lo⟩
  · have := h.box
    rw [e, h.out.1] at this
    injection this with this
    injection this with _ ht
    revert ht
    decide
  · injection e with _ ht
    revert ht
    decide
  · rw [e, h.out.1] at hm
    cases hm
/-- What a round that makes the out row longer leaves. -/
theorem FS.keeps {tmp : Obj} (h : FS w0 w ob lb mb v L cnt g) (hg : (w.alloc tmp).grownBy w' v.ownBlock) (n : Nat) : KeepsFrom n w (w'.setCell ⟨ob, 0, none⟩ v') :=
  ((KeepsOthers.alloc w tmp).from n).trans ((KeepsFrom.trans ((KeepsOthers.of_grownBy hg fun j o ej hj => by
    obtain ⟨cur, hc, _⟩ := h.out.2.1.owns ej
    have hlt : j < w.heap.size := (Array.getElem?_eq_some_iff.1 hc).1
    rw [Below.heap_alloc _ _ _ hlt, hc] at hj
    injection hj with hj
    subst hj
    rfl).from n) (set_keeps n ob w' v')))
end
end Go.Proofs.Ythobfbnopkbniaa
end

section
namespace Go.Proofs.Ythobfbnopkbniaa
open Go.RowKit

theorem GB.cells {w : World} {gb pb : Nat} {N : Int} {A : Option Addr} {m c : Nat} {es : List (Int × Int)} {Av : Option Addr} {nv cv : Nat} {Ae : Option Addr} {ne ce : Nat} (h : GB w gb pb N A m c es Av nv cv Ae ne ce) :
    w.cell? ⟨gb, 0, none⟩ = some (.int .i64 N) ∧ w.cell? ⟨gb, 1, none⟩ = some (.slice A m c) ∧ w.cell? ⟨pb, 0, none⟩ = some (.slice Av nv cv) ∧ w.cell? ⟨pb, 1, none⟩ = some (.slice Ae ne ce) := ⟨h.2.2.1, h.2.2.2.1, h.2.2.2.2.1, h.2.2.2.2.2.1⟩
/-- The cells that the round reads. -/
structure EdgeCells (w : World) (gb b o q : Nat) (A : Value) (x y : Int) : Prop where
  a : w.cell? ⟨gb, 1, none⟩ = some A
  x : w.cell? ⟨b, o + q * 2, none⟩ = some (.int .i64 x)
  y : w.cell? ⟨b, o + q * 2 + 1, none⟩ = some (.int .i64 y)
theorem EdgeCells.drew {w : World} {gb b o q : Nat} {A : Value} {x y : Int} (h : EdgeCells w gb b o q A x y) : EdgeCells w.drew gb b o q A x y := ⟨h.a, h.x, h.y⟩
theorem EdgeCells.grown {w w' : World} {gb b o q mb : Nat} {A : Value} {x y : Int} (h : EdgeCells w gb b o q A x y) (hg : w.grownBy w' (some mb)) (h1 : gb ≠ mb) (h2 : b ≠ mb) : EdgeCells w' gb b o q A x y :=
  have k1 : ∀ p : Addr, p.block ≠ mb → ∀ v, w.cell? p = some v → w'.cell? p = some v := fun p hp v hv => by
    rw [← hv]
    exact World.cell?_of_block (hg.block _ (World.block_lt_of_cell? w _ hv) (fun e => hp (by injection e)))
  ⟨k1 _ h1 _ h.a, k1 _ h2 _ h.x, k1 _ h2 _ h.y⟩
/-- What New answers. -/
def NewRes (w : World) (N : Int) (es : List (Int × Int)) (vs xs : List Int) (tt : List (List Int)) (e : Ending) (w' : World) : Prop :=
  ((pRight N es vs xs = 0 ∧ TurnOK N es xs tt ∧ ∃ r, e = .returned (.tuple #[.pointer (some ⟨r, 0, none⟩), .int .i64 0]) ∧ RS w' r (lvOf es xs) (tt.map first) (placeN tt tt.length) (allDarts xs)) ∨
    (¬ (pRight N es vs xs = 0 ∧ TurnOK N es xs tt) ∧ e = .returned (.tuple #[.pointer none, .int .i64 (if pRight N es vs xs = 0 then 5 else pRight N es vs xs)]))) ∧ Below w.heap.size w w'
theorem new_no {w w' : World} {N : Int} {es : List (Int × Int)} {vs xs : List Int} {tt : List (List Int)} {r : Int} (hp : pRight N es vs xs = r) (hr : r ≠ 0) (hb : Below w.heap.size w w') : NewRes w N es vs xs tt (.returned (.tuple #[.pointer none, .int .i64 r])) w' :=
  ⟨.inr ⟨fun h => hr (hp.symm.trans h.1), by rw [if_neg (by rw [hp]; exact hr), hp]⟩, hb⟩
theorem new_five {w w' : World} {N : Int} {es : List (Int × Int)} {vs xs : List Int} {tt : List (List Int)} (hp : pRight N es vs xs = 0) (hr : ¬ Turned N es xs tt) (hb : Below w.heap.size w w') : NewRes w N es vs xs tt (.returned (.tuple #[.pointer none, .int .i64 5])) w' :=
  ⟨.inr ⟨fun h => hr ((turned_iff (pRight_ok hp)).2 h.2), by rw [if_pos hp]⟩, hb⟩

set_option maxHeartbeats 4000000 in
set_option maxRecDepth 100000 in
theorem new_any (w : World) (N : Int) (A : Option Addr) (m c : Nat) (es : List (Int × Int)) (Av : Option Addr) (nv cv : Nat) (vs : List Int) (Ae : Option Addr) (ne ce : Nat) (xs : List Int) (At : Option Addr) (nt ct : Nat) (tt : List (List Int)) (h : GP w N A m c es Av nv cv vs Ae ne ce xs) (ht : TS w w.heap.size At nt ct tt) (hm60 : m ≤ 60) (hne60 : ne ≤ 60) :
    Calls Try.prog 19 #[.agg #[.int .i64 N, .slice A m c], .agg #[.slice Av nv cv, .slice Ae ne ce], .slice At nt ct] w (NewRes w N es vs xs tt) := by
  have hn := ht.le
  have hc := ht.cap
  have hcE := h.e.cap
  have hlE := h.e.le
  have HL := Lib.hid ht.len
  have HLE := Lib.hid h.e.len
  obtain ⟨w1, hw1, b1, gb1⟩ := box_gp w N A m c es Av nv cv Ae ne ce
  have h1 := h.step b1
  have t1 := ht.step b1
  have ⟨_, _, c0, c1, c2, c3, _⟩ := gb1
  clear h ht
  obtain ⟨r, hr⟩ : ∃ r, pRight N es vs xs = r := ⟨_, rfl⟩
  have HR := Lib.hid hr
  by_cases hr0 : r = 0
  · subst hr0
    have hp := pRight_ok hr
    clear hr
    by_cases hN : (nt : Int) = N
    · have d : (((nt : Int) != N) = false) := by simp [hN]
      have HN := Lib.hid hN
      clear hN
      go_enter Try.func19, Try.ntmps19
      go_wp2_with fail
      refine (gRightPart_any w1 N A m c es Av nv cv vs Ae ne ce xs h1).mono ?_
      rintro e w2 ⟨rfl, b2⟩
      rw [HR.out]
      have h2 := h1.step b2
      have t2 := t1.step b2
      have gb2 := gb1.step b2
      replace b1 := bstep b1 b2
      clear hw1 h1 t1 c0 c1 c2 c3 gb1 b2
      have ⟨_, _, c0, c1, c2, c3, _⟩ := gb2
      have hmm := run_makeMap_int
      have HP := Lib.hid hp
      clear hp
      go_wp2_with (with_reducible show wpList _ _ _ (Oper.mk (some 42) _ _ _ _ _ :: _) _ _; go_must (refine wpList_make_is rfl _ _ rfl ((Below.refl w2.heap.size w2).alloc (Nat.le_refl _) _) .i64 .i64 _ (2 * ne) rfl rfl (by omega) (by omega) ?_; intro v3 w3 own3 g3 hv3; obtain ⟨k0, k1, k2, k3⟩ := (gb2.step own3.below).cells))
      clear hmm
      obtain ⟨mb, hmb⟩ : ∃ mb, w2.heap.size = mb := ⟨_, rfl⟩
      have hmi3 : MI w3 w2.heap.size (2 * 0) (lvOf es (xs.take 0)) := by
        have := (MI.made w2).kept g3 (by simp)
        rw [List.take_zero, ← lvOf_nil]
        exact this
      rw [hmb] at hmi3
      have hlb : w2.heap.size ≤ mb := by omega
      have hE2 := h2.e
      have hG2 := h2.g
      have H2 := Lib.hid h2
      have T2 := Lib.hid t2
      clear h2 t2 c0 c1 c2 c3 k0 k1 k2 k3
      have own3' : Own w2 w3 v3 (allDarts (xs.take 0)) := own3
      rw [hmb]
      go_loopw [10, 46] (fun v i wr => ∃ k : Nat, k ≤ ne ∧ i = .int .i64 k ∧ Own w2 wr v (allDarts (xs.take k)) ∧ MI wr mb (2 * k) (lvOf es (xs.take k))) (fun _ i _ => ne - (intOf i).toNat)
      case atStart => exact ⟨0, Nat.zero_le _, rfl, own3', hmi3⟩
      case round =>
        obtain ⟨k, hk, rfl, hown, hmi⟩ := hrel
        have gb3 := gb2.step hown.below
        have ⟨_, _, c0, c1, c2, c3, _⟩ := gb3
        by_cases hlt : k < ne
        · obtain ⟨b, o, z, hA, hb, hz, hz64, hcz⟩ := (hE2.below hown.below).get hlt
          subst hA
          have hkl : Hid (k < xs.length) := Lib.hid (by rw [HLE.out]; exact hlt)
          have hzr := HP.out.xr z (hz.out ▸ hE2.mem hlt)
          have hml : es.length = m := hG2.len
          obtain ⟨q, rfl⟩ := Int.eq_ofNat_of_zero_le hzr.1
          have hqm : q < m := by omega
          obtain ⟨b', o', x, y, hA', hb', hxy, hx64, hy64, hcx, hcy⟩ := (hG2.below hown.below).get hqm
          subst hA'
          have hen : ends es q = (x, y) := by unfold ends; rw [Int.toNat_natCast]; exact hxy.out
          have hqn : (q : Int) ∉ xs.take k := not_in_take HP.out.xp hkl.out hz.out
          have w2q : IntKind.i64.wrap (2 * (q : Int)) = 2 * (q : Int) := IntWalk.i64_in _ (by omega)
          have w2r : IntKind.i64.wrap (2 * (q : Int) + 1) = 2 * (q : Int) + 1 := IntWalk.i64_in _ (by omega)
          obtain ⟨y1, st1, wa, wb, r1, r2, m2, g2, g1⟩ := MI.entry (g := lvOf es (xs.take k)) (MV.drewN hmi 1) (by omega) (2 * (q : Int)) ⟨by omega, by omega⟩ x
          rw [lvOf_none (d := 2 * (q : Int)) (by rw [show (2 * (q : Int)) / 2 = q by omega]; exact hqn)] at m2
          obtain ⟨y2, st2, wc, wd, r3, r4, m4, g4, g3'⟩ := m2.entry (by simp; omega) (2 * (q : Int) + 1) ⟨by omega, by omega⟩ y
          have hn2 : upd (lvOf es (xs.take k)) (2 * (q : Int)) x (2 * (q : Int) + 1) = none := by
            unfold upd
            rw [if_neg (by omega)]
            exact lvOf_none (by rw [show (2 * (q : Int) + 1) / 2 = q by omega]; exact hqn)
          rw [hn2] at m4
          have hst : upd (upd (lvOf es (xs.take k)) (2 * (q : Int)) x) (2 * (q : Int) + 1) y = lvOf es (xs.take (k + 1)) := by
            have := lvOf_snoc es (xs.take k) q
            rw [hen] at this
            rw [take_snoc hkl.out hz.out]
            exact this
          rw [hst] at m4
          have hcn : (if (none : Option Int).isSome = true then (if (none : Option Int).isSome = true then 2 * k else 2 * k + 1) else (if (none : Option Int).isSome = true then 2 * k else 2 * k + 1) + 1) = 2 * (k + 1) := by simp; omega
          rw [hcn] at m4
          have hob := Lib.hid (hown.notMap hmi)
          have hod := (hown.drewN 1).kept g2 (fun k' hk' => by cases hk'; exact hlb) (.inr hob.out)
          have hod2 := hod.kept g4 (fun k' hk' => by cases hk'; exact hlb) (.inr hob.out)
          have HOD := Lib.hid hod2
          have hx1 : I64 (2 * (q : Int)) := ⟨by omega, by omega⟩
          have hx2 : I64 (2 * (q : Int) + 1) := ⟨by omega, by omega⟩
          have HM := Lib.hid m4
          have HST := Lib.hid (show allDarts (xs.take (k + 1)) = allDarts (xs.take k) ++ [2 * (q : Int), 2 * (q : Int) + 1] by rw [take_snoc hkl.out hz.out, allDarts_snoc])
          have hlen : (allDarts (xs.take k)).length ≤ 2 * ne := by rw [allDarts_len, List.length_take]; omega
          replace r1 : (Instr.mapEntry 52 (.map (some mb)) (.int .i64 (2 * (q : Int)))).run Try.prog wr.drew = .ok (.tuple #[y1, .int .i64 st1]) wa := r1
          replace r2 : (Instr.entryStore 52 (.map (some mb)) (.int .i64 st1) (.int .i64 x)).run Try.prog wa = .ok () wb := r2
          replace r3 : (Instr.mapEntry 52 (.map (some mb)) (.int .i64 (2 * (q : Int) + 1))).run Try.prog wb = .ok (.tuple #[y2, .int .i64 st2]) wc := r3
          replace r4 : (Instr.entryStore 52 (.map (some mb)) (.int .i64 st2) (.int .i64 y)).run Try.prog wc = .ok () wd := r4
          have eg : (w.heap.size + 1 ≠ mb ∧ w.heap.size ≠ mb) := by omega
          have eb : b' ≠ mb := by omega
          have q0 : EdgeCells wr w.heap.size b' o' q (.slice (some ⟨b', o', none⟩) m c) x y := ⟨c1, hcx, hcy⟩
          have q1 := q0.drew
          have q2 := q1.grown g1 eg.2 eb
          have q3 := q1.grown g2 eg.2 eb
          have q4 := q3.grown g3' eg.2 eb
          have q5 := q3.grown g4 eg.2 eb
          obtain ⟨p1, p2, p3⟩ := q1
          obtain ⟨p4, p5, p6⟩ := q2
          obtain ⟨p7, p8, p9⟩ := q3
          obtain ⟨p10, p11, p12⟩ := q4
          obtain ⟨p13, p14, p15⟩ := q5
          clear hod hod2 m4 m2 g2 g4 g1 g3' hst hcn hn2 hqn hen hown hmi gb3 q0 eg eb
          go_wp2
          go_region_held3 (fun w' => w'.cell? ⟨w.heap.size, 1, none⟩ = some (.slice (some ⟨b', o', none⟩) m c) ∧ w'.cell? ⟨b', o' + q * 2, none⟩ = some (.int .i64 x) ∧ w'.cell? ⟨b', o' + q * 2 + 1, none⟩ = some (.int .i64 y)) (go_keep) (fail)
          go_wp2_with (with_reducible show wpList _ _ _ (Oper.mk (some 80) _ _ _ _ _ :: _) _ _; go_must (refine wpList_append_is (w0 := w2) (v := u10) (xs := allDarts (xs.take k)) (A := some ⟨wd.heap.size, 0, none⟩) (m := 2) (c := 2) rfl _ _ rfl rfl (HOD.out.alloc _) rfl (IS.two wd (2 * (q : Int)) (2 * (q : Int) + 1) hx1 hx2) (by omega) ?_; intro v' we hown' hgr' _))
          go_roundw
          case rel => exact ⟨k + 1, by omega, by go_num, by rw [HST.out]; exact hown', (HM.out.alloc _).kept hgr' (fun e => hob.out e.symm)⟩
          case measure => simp [intOf]; omega
        · obtain rfl : k = ne := by omega
          rw [List.take_of_length_le (Nat.le_of_eq HLE.out)] at hown hmi
          obtain ⟨Ad, nd, cd, rfl, hds⟩ := hown.is
          have hbw := hown.below
          have T3 := Lib.hid (T2.out.step hbw)
          have hmm := run_makeMap_int
          have B1 := Lib.hid (bstep b1 hbw)
          have hmbl := MV.lt hmi
          have HDS := Lib.hid hds
          clear hown hbw gb3 hds c0 c1 c2 c3
          go_wp2_with (with_reducible show wpList _ _ _ (Oper.mk (some 83) _ _ _ _ _ :: _) _ _; go_must (refine wpList_ilen rfl _ rfl rfl hmi ?_))
          clear hmm
          obtain ⟨pb, hpb⟩ : ∃ pb, wr.heap.size = pb := ⟨_, rfl⟩
          have hst : PlaceAt (wr.alloc (.map #[] 0)) pb (placed tt 0 0) := by rw [placed_start, ← hpb]; exact PlaceAt.start wr
          have hbst : Below wr.heap.size wr (wr.alloc (.map #[] 0)) := (Below.refl _ _).alloc (Nat.le_refl _) _
          rw [hpb]
          obtain ⟨wo, hwo⟩ : ∃ wo : World, wo = wr := ⟨_, rfl⟩
          rw [← hwo] at T3 HDS hmi hpb hbst hmbl B1 hst ⊢
          clear hwo
          go_loopw [87] (fun i wi => ∃ v : Nat, v ≤ nt ∧ i = .int .i64 v ∧ Below wo.heap.size wo wi ∧ PlaceAt wi pb (placed tt v 0) ∧ PlacedOK es xs tt v 0) (fun i _ => nt - (intOf i).toNat)
          case atStart => exact ⟨0, Nat.zero_le _, rfl, hbst, hst, PlacedOK.start es xs tt⟩
          case round =>
            obtain ⟨v, hv, rfl, hbv, hpl, hok⟩ := hrel
            by_cases hvl : v < nt
            · obtain ⟨bt, ot, t, A3, n3, c3, hA, hbt, htk, hc3, ist⟩ := T3.out.get hvl
              subst hA
              replace hc3 := (hbv.cell (p := ⟨bt, ot + v, none⟩) hbt).trans hc3
              have HVL : Hid (v < tt.length) := Lib.hid (by rw [HL.out]; exact hvl)
              have hl3 := ist.le
              have hc3' := ist.cap
              have HT3 : Hid ((tt.getD v []).length = n3) := Lib.hid (by rw [htk.out]; exact ist.len)
              have IST := Lib.hid ist
              have HBV := Lib.hid hbv
              clear ist hbv hst hbst
              go_wp2
              obtain ⟨wv, hwv⟩ : ∃ wv : World, wv = wr := ⟨_, rfl⟩
              rw [← hwv] at HBV hpl hc3
              have hb0 : Below wv.heap.size wv wr := hwv ▸ Below.refl _ _
              have hpl0 : PlaceAt wr pb (placed tt v 0) := hwv ▸ hpl
              clear hwv hc3 hpl
              go_loopw [94] (fun i wi => ∃ j : Nat, j ≤ n3 ∧ i = .int .i64 j ∧ Below wo.heap.size wo wi ∧ PlaceAt wi pb (placed tt v j) ∧ PlacedOK es xs tt v j) (fun i _ => n3 - (intOf i).toNat)
              case atStart => exact ⟨0, Nat.zero_le _, rfl, HBV.out.trans (hb0.mono HBV.out.size), hpl0, hok⟩
              case round =>
                clear hok hpl0 hb0
                obtain ⟨j, hj, rfl, hbj, hpl, hok⟩ := hrel
                by_cases hjl : j < n3
                · obtain ⟨bd, od, z, hA, hbd, hz, hz64, hcz⟩ := (IST.out.below hbj).get hjl
                  subst hA
                  obtain ⟨g, hmp, hgp⟩ := hpl
                  have hmi' : MI wr mb (2 * k) (lvOf es xs) := MV.below hmi hbj hmbl
                  have HJ : Hid (j < (tt.getD v []).length) := Lib.hid (by rw [HT3.out]; exact hjl)
                  have HZ : Hid ((tt.getD v []).getD j 0 = z) := Lib.hid (by rw [htk.out]; exact hz.out)
                  have hll := hok.len
                  rw [HLE.out] at hll
                  have HOK := Lib.hid hok
                  have HGP := Lib.hid hgp
                  have HB := Lib.hid (bstep B1.out hbj)
                  clear hok hgp
                  cases hl : lvOf es xs z with
                  | none =>
                    have HT : Hid (¬ Turned N es xs tt) := Lib.hid (not_turned HVL.out HJ.out HZ.out (.inl fun hx => by unfold lvOf at hl; rw [if_pos hx] at hl; cases hl))
                    have HL1 := Lib.hid hl
                    clear hl
                    cases hg : g z with
                    | none =>
                      have HG := Lib.hid hg
                      clear hg
                      go_wp2_with (first
                        | (with_reducible show wpList _ _ _ (Oper.mk (some 102) _ _ _ _ _ :: _) _ _; go_must (refine wpList_iok_none (g := lvOf es xs) (k := z) rfl _ _ rfl rfl hmi' rfl hz64 HL1.out ?_))
                        | (with_reducible show wpList _ _ _ (Oper.mk (some 108) _ _ _ _ _ :: _) _ _; go_must (refine wpList_iok_none (g := g) (k := z) rfl _ _ rfl rfl hmp rfl hz64 HG.out ?_)))
                      go_ret2
                      exact new_five HR.out HT.out HB.out
                    | some y =>
                      have HG := Lib.hid hg
                      clear hg
                      go_wp2_with (first
                        | (with_reducible show wpList _ _ _ (Oper.mk (some 102) _ _ _ _ _ :: _) _ _; go_must (refine wpList_iok_none (g := lvOf es xs) (k := z) rfl _ _ rfl rfl hmi' rfl hz64 HL1.out ?_))
                        | (with_reducible show wpList _ _ _ (Oper.mk (some 108) _ _ _ _ _ :: _) _ _; go_must (refine wpList_iok_some (g := g) (k := z) rfl _ _ rfl rfl hmp rfl hz64 y HG.out ?_)))
                      go_ret2
                      exact new_five HR.out HT.out HB.out
                  | some u =>
                    have HX : Hid (z / 2 ∈ xs ∧ tail es z = u) := Lib.hid (by
                      unfold lvOf at hl
                      split at hl
                      · rename_i hx
                        exact ⟨hx, by injection hl⟩
                      · cases hl)
                    have HL1 := Lib.hid hl
                    clear hl
                    by_cases huv : u = (v : Int)
                    · have d3 : ((u != (v : Int)) = false) := by simp [huv]
                      have HUV := Lib.hid huv
                      clear huv
                      cases hg : g z with
                      | none =>
                        have HG := Lib.hid hg
                        clear hg
                        go_wp2_with (first
                          | (with_reducible show wpList _ _ _ (Oper.mk (some 102) _ _ _ _ _ :: _) _ _; go_must (refine wpList_iok_some (g := lvOf es xs) (k := z) rfl _ _ rfl rfl hmi' rfl hz64 u HL1.out ?_))
                          | (with_reducible show wpList _ _ _ (Oper.mk (some 108) _ _ _ _ _ :: _) _ _; go_must (refine wpList_iok_none (g := g) (k := z) rfl _ _ rfl rfl hmp rfl hz64 HG.out ?_))
                          | (at_mapUpdate; go_must (refine wpList_istore rfl _ _ _ rfl rfl hmp (by omega) z rfl hz64 _ rfl ?_; intro w6 hm6 hg6)))
                        go_roundw
                        case rel => exact ⟨j + 1, by omega, by go_num, hbj.grown hg6 hbj.size (fun k' hk' => by cases hk'; omega), by rw [placed_step HJ.out HZ.out]; exact PlaceAt.put hm6 HG.out HGP.out, HOK.out.step HJ.out HZ.out HX.out.1 (HX.out.2.trans HUV.out) (fun hin => by have := (HGP.out z).2 hin; rw [HG.out] at this; cases this)⟩
                        case measure => simp [intOf]; omega
                      | some y =>
                        have HT : Hid (¬ Turned N es xs tt) := Lib.hid (not_turned HVL.out HJ.out HZ.out (.inr (.inr ((HGP.out z).1 (by rw [hg]; rfl)))))
                        have HG := Lib.hid hg
                        clear hg
                        go_wp2_with (first
                          | (with_reducible show wpList _ _ _ (Oper.mk (some 102) _ _ _ _ _ :: _) _ _; go_must (refine wpList_iok_some (g := lvOf es xs) (k := z) rfl _ _ rfl rfl hmi' rfl hz64 u HL1.out ?_))
                          | (with_reducible show wpList _ _ _ (Oper.mk (some 108) _ _ _ _ _ :: _) _ _; go_must (refine wpList_iok_some (g := g) (k := z) rfl _ _ rfl rfl hmp rfl hz64 y HG.out ?_)))
                        go_ret2
                        exact new_five HR.out HT.out HB.out
                    · have d3 : ((u != (v : Int)) = true) := by simp [huv]
                      have HT : Hid (¬ Turned N es xs tt) := Lib.hid (not_turned HVL.out HJ.out HZ.out (.inr (.inl (by rw [HX.out.2]; exact huv))))
                      clear huv
                      cases hg : g z with
                      | none =>
                        have HG := Lib.hid hg
                        clear hg
                        go_wp2_with (first
                          | (with_reducible show wpList _ _ _ (Oper.mk (some 102) _ _ _ _ _ :: _) _ _; go_must (refine wpList_iok_some (g := lvOf es xs) (k := z) rfl _ _ rfl rfl hmi' rfl hz64 u HL1.out ?_))
                          | (with_reducible show wpList _ _ _ (Oper.mk (some 108) _ _ _ _ _ :: _) _ _; go_must (refine wpList_iok_none (g := g) (k := z) rfl _ _ rfl rfl hmp rfl hz64 HG.out ?_)))
                        go_ret2
                        exact new_five HR.out HT.out HB.out
                      | some y =>
                        have HG := Lib.hid hg
                        clear hg
                        go_wp2_with (first
                          | (with_reducible show wpList _ _ _ (Oper.mk (some 102) _ _ _ _ _ :: _) _ _; go_must (refine wpList_iok_some (g := lvOf es xs) (k := z) rfl _ _ rfl rfl hmi' rfl hz64 u HL1.out ?_))
                          | (with_reducible show wpList _ _ _ (Oper.mk (some 108) _ _ _ _ _ :: _) _ _; go_must (refine wpList_iok_some (g := g) (k := z) rfl _ _ rfl rfl hmp rfl hz64 y HG.out ?_)))
                        go_ret2
                        exact new_five HR.out HT.out HB.out
                · obtain rfl : j = n3 := by omega
                  go_wp2
                  go_roundw
                  case rel => exact ⟨v + 1, by omega, by go_num, hbj, by rw [← placed_next HVL.out, HT3.out]; exact hpl, by rw [← HT3.out] at hok; exact hok.next HVL.out⟩
                  case measure => simp [intOf]; omega
            · obtain rfl : v = nt := by omega
              obtain ⟨g, hmp, hgp⟩ := hpl
              rw [← HL.out] at hmp hok
              rw [placed_end] at hmp
              have hmi' : MI wr mb (2 * k) (lvOf es xs) := MV.below hmi hbv hmbl
              have hv1024 : v ≤ 1024 := by have := HP.out.size; have := HN.out; omega
              have HIS := Lib.hid (HDS.out.step hbv)
              have HTS := Lib.hid (T3.out.step hbv)
              have HB := Lib.hid (bstep B1.out hbv)
              have HMI := Lib.hid hmi'
              have HOK := Lib.hid hok
              obtain ⟨L, hL⟩ : ∃ L, tt.flatten.length = L := ⟨_, rfl⟩
              rw [hL] at hmp
              have HLL := Lib.hid hL
              clear hL
              by_cases hlen : L = 2 * k
              · have d2 : (((L : Int) != 2 * (k : Int)) = false) := by simp [hlen]
                have htt : Hid (Turned N es xs tt) := Lib.hid (HOK.out.turned (by rw [HL.out]; exact HN.out) (by rw [HLL.out, hlen, HLE.out]))
                have hrow : Hid (∀ t ∈ tt, t.length ≤ 1024) := Lib.hid fun t ht => by
                  have h1 := (List.sublist_flatten_of_mem ht).length_le
                  rw [HLL.out] at h1
                  omega
                clear hlen hok
                go_wp2_with (first
                  | (with_reducible show wpList _ _ _ (Oper.mk (some 127) _ _ _ _ _ :: _) _ _; go_must (refine wpList_ilen rfl _ rfl rfl hmp ?_))
                  | (with_reducible show wpList _ _ _ (Oper.mk (some 129) _ _ _ _ _ :: _) _ _; go_must (refine wpList_ilen rfl _ rfl rfl hmi' ?_)))
                refine (take_any wr At v ct tt mb (2 * k) (lvOf es xs) Ad nd cd (allDarts xs) HTS.out HMI.out HIS.out hv1024 hrow.out).mono ?_
                rintro e w9 ⟨r, rfl, hrs, b9⟩
                go_wp2
                go_ret2
                exact ⟨.inl ⟨HR.out, (turned_iff HP.out).1 htt.out, r, rfl, hrs⟩, bstep HB.out b9⟩
              · have d2 : (((L : Int) != 2 * (k : Int)) = true) := by simp; omega
                have hnt : Hid (¬ Turned N es xs tt) := Lib.hid fun hh => hlen (by rw [← HLL.out, hh.2.2.2, HLE.out])
                clear hlen hok
                go_wp2_with (first
                  | (with_reducible show wpList _ _ _ (Oper.mk (some 127) _ _ _ _ _ :: _) _ _; go_must (refine wpList_ilen rfl _ rfl rfl hmp ?_))
                  | (with_reducible show wpList _ _ _ (Oper.mk (some 129) _ _ _ _ _ :: _) _ _; go_must (refine wpList_ilen rfl _ rfl rfl hmi' ?_)))
                go_ret2
                exact new_five HR.out hnt.out HB.out
    · have d : (((nt : Int) != N) = true) := by simp [hN]
      have hf : ¬ Turned N es xs tt := fun hh => hN (by have := hh.1; rw [HL.out] at this; exact this)
      have HF := Lib.hid hf
      clear hf hN hp
      go_enter Try.func19, Try.ntmps19
      go_wp2_with fail
      refine (gRightPart_any w1 N A m c es Av nv cv vs Ae ne ce xs h1).mono ?_
      rintro e w2 ⟨rfl, b2⟩
      rw [HR.out]
      have gb2 := gb1.step b2
      replace b1 := bstep b1 b2
      clear hw1 h1 t1 c0 c1 c2 c3 gb1 b2
      have ⟨_, _, c0, c1, c2, c3, _⟩ := gb2
      go_wp2
      go_ret2
      exact new_five HR.out HF.out b1
  · have hrb : (r != 0) = true := by simp [hr0]
    have HR0 := Lib.hid hr0
    clear hr0 hr
    go_enter Try.func19, Try.ntmps19
    go_wp2_with fail
    refine (gRightPart_any w1 N A m c es Av nv cv vs Ae ne ce xs h1).mono ?_
    rintro e w2 ⟨rfl, b2⟩
    rw [HR.out]
    go_wp2
    go_ret2
    exact new_no HR.out HR0.out (bstep b1 b2)

end Go.Proofs.Ythobfbnopkbniaa
end

section
namespace Go.Proofs.Ythobfbnopkbniaa
open Go.RowKit

set_option maxHeartbeats 2000000 in
set_option maxRecDepth 100000 in
theorem beside_nil (w : World) (d s : Int) :
    Calls Try.prog 64 #[.pointer none, .int .i64 d, .int .i64 s] w fun e w' => e = .returned (.tuple #[.int .i64 0, .bool false]) ∧ w = w' := by
  go_enter Try.func64, Try.ntmps64
  go_wp2
  go_ret2
  exact ⟨rfl, rfl⟩

set_option maxHeartbeats 2000000 in
set_option maxRecDepth 100000 in
theorem beside_no (w : World) (r : Nat) (lv : Int → Option Int) (tt : List (List Int)) (pl : Int → Option Int) (ds : List Int) (h : RS w r lv tt pl ds) (d s : Int) (hd : I64 d) (hl : lv d = none) :
    Calls Try.prog 64 #[.pointer (some ⟨r, 0, none⟩), .int .i64 d, .int .i64 s] w fun e w' => e = .returned (.tuple #[.int .i64 0, .bool false]) ∧ w = w' := by
  obtain ⟨At, nt, ct, lb, nl, pb, np, Ad, nd, cd, h0, c0, c1, c2, c3, h1, h2, h3, h4⟩ := h
  have HL1 := Lib.hid hl
  clear hl
  go_enter Try.func64, Try.ntmps64
  go_wp2_with (at_lookup; go_must (refine wpList_iok_none rfl _ _ rfl rfl h2 d rfl hd HL1.out ?_))
  go_ret2
  exact ⟨rfl, rfl⟩

set_option maxHeartbeats 2000000 in
set_option maxRecDepth 100000 in
theorem beside_yes (w : World) (r : Nat) (lv : Int → Option Int) (tt : List (List Int)) (pl : Int → Option Int) (ds : List Int) (h : RS w r lv tt pl ds) (d s : Int) (hd : I64 d) (u p : Nat) (t : List Int)
    (hl : lv d = some (u : Int)) (hu : u < tt.length) (ht : tt.getD u [] = t) (hp : pl d = some (p : Int)) (hpt : p < t.length) (hs1 : -1 ≤ s) (hs2 : s ≤ 1) (hn : t.length ≤ 1000000) (m : Nat) (hm : (p : Int) + s + t.length = m) :
    Calls Try.prog 64 #[.pointer (some ⟨r, 0, none⟩), .int .i64 d, .int .i64 s] w fun e w' => e = .returned (.tuple #[.int .i64 (t.getD (m % t.length) 0), .bool true]) ∧ w = w' := by
  obtain ⟨At, nt, ct, lb, nl, pb, np, Ad, nd, cd, h0, c0, c1, c2, c3, h1, h2, h3, h4⟩ := h
  have hnt := h1.le
  have hct := h1.cap
  have HL1 := Lib.hid hl
  have HP1 := Lib.hid (show (pl d).getD 0 = (p : Int) by rw [hp]; rfl)
  obtain ⟨b, o, t', A3, n3, c3', hA, hb, htk, hcc, ist⟩ := h1.get (show u < nt by have := h1.len; omega)
  subst hA
  have e : t' = t := htk.out.symm.trans ht
  subst e
  have hlen := ist.len
  have hl3 := ist.le
  have hc3 := ist.cap
  rw [hlen] at hpt hn hm ⊢
  have hun : u < nt := by have := h1.len; omega
  have hmm : m % n3 < n3 := Nat.mod_lt _ (by omega)
  obtain ⟨b2, o2, z, hA2, hb2, hz, hz64, hcz⟩ := ist.get hmm
  subst hA2
  clear hl ht hp hlen ist h1 h4 htk hu
  have hm0 : (0 : Int) ≤ (m : Int) % (n3 : Int) := Int.emod_nonneg _ (by omega)
  have hm1 : (m : Int) % (n3 : Int) < n3 := Int.emod_lt_of_pos _ (by omega)
  have hm2 : (0 : Int) ≤ (p : Int) + s + (n3 : Int) := by omega
  have w1 : IntKind.i64.wrap ((p : Int) + s) = (p : Int) + s := IntWalk.i64_in _ (by omega)
  go_enter Try.func64, Try.ntmps64
  go_wp2_with (first
    | (with_reducible show wpList _ _ _ (Oper.mk (some 19) _ _ _ _ _ :: _) _ _; go_must (refine wpList_iok_some rfl _ _ rfl rfl h2 d rfl hd _ HL1.out ?_))
    | (with_reducible show wpList _ _ _ (Oper.mk (some 37) _ _ _ _ _ :: _) _ _; go_must (refine wpList_ilook rfl _ _ rfl rfl h3 d rfl hd _ HP1.out ?_)))
  go_ret2
  rw [hz.out]
  exact ⟨rfl, rfl⟩

end Go.Proofs.Ythobfbnopkbniaa
end

section
namespace Go.Proofs.Ythobfbnopkbniaa
open Go.RowKit

theorem nat_xor_one (n : Nat) : n ^^^ 1 = if n % 2 = 0 then n + 1 else n - 1 := by
  have h1 : (n ^^^ 1) / 2 = n / 2 := by rw [Nat.xor_div_two]; simp
  have h2 : (n ^^^ 1) % 2 ^ 1 = (n % 2 ^ 1) ^^^ (1 % 2 ^ 1) := Nat.xor_mod_two_pow
  rw [Nat.pow_one] at h2
  rcases Nat.mod_two_eq_zero_or_one n with h3 | h3
  · rw [h3] at h2
    have h4 : (n ^^^ 1) % 2 = 1 := h2
    rw [if_pos h3]
    omega
  · rw [h3] at h2
    have h4 : (n ^^^ 1) % 2 = 0 := h2
    rw [if_neg (by omega)]
    omega
theorem bits_xor_one {d : Int} (hd : I64 d) : bits .xor .i64 d 1 = twin d := by
  show IntKind.i64.wrap ((BitVec.ofInt 64 d ^^^ BitVec.ofInt 64 1).toNat : Int) = _
  have h1 : (BitVec.ofInt 64 1).toNat = 1 := by decide
  have h2 : (BitVec.ofInt 64 d).toNat = (d % 18446744073709551616).toNat := by
    rw [BitVec.toNat_ofInt]
    rfl
  obtain ⟨g1, g2⟩ := hd
  rw [BitVec.toNat_xor, h1, h2, nat_xor_one, IntKind.wrap_i64]
  unfold twin
  have h3 : 0 ≤ d % 18446744073709551616 := Int.emod_nonneg _ (by omega)
  obtain ⟨e, he⟩ : ∃ e, (d % 18446744073709551616).toNat = e := ⟨_, rfl⟩
  have he' : d % 18446744073709551616 = e := by omega
  rw [he]
  split <;> split <;> omega
theorem twin_i64 {d : Int} (hd : I64 d) : I64 (twin d) := by
  obtain ⟨h1, h2⟩ := hd
  unfold twin
  split
  · exact ⟨by omega, by omega⟩
  · exact ⟨by omega, by omega⟩

section
variable (w : World) (R : Option Addr) (d : Int) (x : Int) (b : Bool)
set_option maxHeartbeats 2000000 in
set_option maxRecDepth 100000 in
theorem after_of (h : Calls Try.prog 64 #[.pointer R, .int .i64 d, .int .i64 1] w fun e w' => e = .returned (.tuple #[.int .i64 x, .bool b]) ∧ w = w') :
    Calls Try.prog 20 #[.pointer R, .int .i64 d] w fun e w' => e = .returned (.tuple #[.int .i64 x, .bool b]) ∧ w = w' := by
  go_enter Try.func20, Try.ntmps20
  go_wp2_with fail
  refine h.mono ?_
  rintro e w' ⟨rfl, rfl⟩
  go_wp2
  go_ret2
  exact ⟨rfl, rfl⟩
set_option maxHeartbeats 2000000 in
set_option maxRecDepth 100000 in
theorem before_of (h : Calls Try.prog 64 #[.pointer R, .int .i64 d, .int .i64 (-1)] w fun e w' => e = .returned (.tuple #[.int .i64 x, .bool b]) ∧ w = w') :
    Calls Try.prog 21 #[.pointer R, .int .i64 d] w fun e w' => e = .returned (.tuple #[.int .i64 x, .bool b]) ∧ w = w' := by
  go_enter Try.func21, Try.ntmps21
  go_wp2_with fail
  refine h.mono ?_
  rintro e w' ⟨rfl, rfl⟩
  go_wp2
  go_ret2
  exact ⟨rfl, rfl⟩
set_option maxHeartbeats 2000000 in
set_option maxRecDepth 100000 in
theorem next_of (hd : I64 d) (h : Calls Try.prog 64 #[.pointer R, .int .i64 (twin d), .int .i64 (-1)] w fun e w' => e = .returned (.tuple #[.int .i64 x, .bool b]) ∧ w = w') :
    Calls Try.prog 22 #[.pointer R, .int .i64 d] w fun e w' => e = .returned (.tuple #[.int .i64 x, .bool b]) ∧ w = w' := by
  have hx := bits_xor_one hd
  go_enter Try.func22, Try.ntmps22
  go_wp2_with fail
  refine h.mono ?_
  rintro e w' ⟨rfl, rfl⟩
  go_wp2
  go_ret2
  exact ⟨rfl, rfl⟩
set_option maxHeartbeats 2000000 in
set_option maxRecDepth 100000 in
theorem back_no (h : Calls Try.prog 64 #[.pointer R, .int .i64 d, .int .i64 1] w fun e w' => e = .returned (.tuple #[.int .i64 0, .bool false]) ∧ w = w') :
    Calls Try.prog 23 #[.pointer R, .int .i64 d] w fun e w' => e = .returned (.tuple #[.int .i64 0, .bool false]) ∧ w = w' := by
  go_enter Try.func23, Try.ntmps23
  go_wp2_with fail
  refine h.mono ?_
  rintro e w' ⟨rfl, rfl⟩
  go_wp2
  go_ret2
  exact ⟨rfl, rfl⟩
set_option maxHeartbeats 2000000 in
set_option maxRecDepth 100000 in
theorem back_yes (hx : I64 x) (h : Calls Try.prog 64 #[.pointer R, .int .i64 d, .int .i64 1] w fun e w' => e = .returned (.tuple #[.int .i64 x, .bool true]) ∧ w = w') :
    Calls Try.prog 23 #[.pointer R, .int .i64 d] w fun e w' => e = .returned (.tuple #[.int .i64 (twin x), .bool true]) ∧ w = w' := by
  have hx' := bits_xor_one hx
  go_enter Try.func23, Try.ntmps23
  go_wp2_with fail
  refine h.mono ?_
  rintro e w' ⟨rfl, rfl⟩
  go_wp2
  go_ret2
  exact ⟨rfl, rfl⟩
end
end Go.Proofs.Ythobfbnopkbniaa
end

section
namespace Go.Proofs.Ythobfbnopkbniaa
open Go.RowKit

/-- The numbers from 0 on. -/
def upto : Nat → List Int
  | 0 => []
  | n + 1 => upto n ++ [(n : Int)]
theorem upto_len : ∀ n, (upto n).length = n
  | 0 => rfl
  | n + 1 => by simp [upto, upto_len n]

theorem IS.apart {w w' : World} {rb : Nat} {A : Option Addr} {n c : Nat} {xs : List Int} (h : IS w w.heap.size A n c xs) (hg : w.grownBy w' (some rb)) (hne : ∀ a, A = some a → a.block ≠ rb) : IS w' w'.heap.size A n c xs := by
  refine ⟨h.1, h.2.1, h.2.2.1, h.2.2.2.1, fun hn => ?_⟩
  obtain ⟨g, o, e, hgb, hc⟩ := h.at_ hn
  refine ⟨g, o, e, Nat.lt_of_lt_of_le hgb hg.size, fun j hj => ?_⟩
  rw [← hc j hj]
  exact World.cell?_of_block (hg.block g hgb (fun e' => hne _ e (by injection e')))

/-- The part, as it is filled. -/
structure WInv (w wr : World) (pb : Nat) (v1 v2 : Value) (xs ys : List Int) : Prop where
  box : wr.heap[pb]? = some (.cells #[v1, v2] 27 (0, 0))
  r1 : Own w wr v1 xs
  r2 : Own w wr v2 ys
  new : w.heap.size ≤ pb
  apart : v1.ownBlock = none ∨ v1.ownBlock ≠ v2.ownBlock

section
variable {w wr w' : World} {pb : Nat} {v1 v2 : Value} {xs ys : List Int}
theorem Own.ownsInt (h : Own w wr v1 xs) {k : Nat} (hk : v1.ownBlock = some k) : ∃ cur, wr.heap[k]? = some (.cells cur 3 (0, 0)) ∧ w.heap.size ≤ k := by
  rcases h.row.2 with ⟨rfl, _⟩ | ⟨g', cap, cur, rfl, hb, hh, _⟩
  · simp [Value.ownBlock] at hk
  · have : g' = k := by simpa [Value.ownBlock] using hk
    subst this
    exact ⟨cur, hh, hb⟩
theorem Own.notPart (h : Own w wr v1 xs) {cs : Array Value} (hb : wr.heap[pb]? = some (.cells cs 27 (0, 0))) : v1.ownBlock ≠ some pb := by
  intro e
  obtain ⟨cur, hc, _⟩ := h.ownsInt e
  rw [hb] at hc
  injection hc with hc
  injection hc with _ ht
  revert ht
  decide
theorem Own.slice_ (h : Own w wr v1 xs) : ∃ A n c, v1 = .slice A n c := by
  obtain ⟨A, n, c, e, _⟩ := h.is
  exact ⟨A, n, c, e⟩
theorem WInv.lt (h : WInv w wr pb v1 v2 xs ys) : pb < wr.heap.size := (Array.getElem?_eq_some_iff.1 h.box).1
theorem WInv.cell (h : WInv w wr pb v1 v2 xs ys) (i : Nat) : wr.cell? ⟨pb, i, none⟩ = #[v1, v2][i]? := cell_of_row wr pb i _ _ _ h.box
theorem WInv.mid (h : WInv w wr pb v1 v2 xs ys) {o : Obj} {v : Value} (hv : v = v1 ∨ v = v2) (hg : (wr.alloc o).grownBy w' v.ownBlock) (i : Nat) (hi : i < 2) :
    w'.heap[pb]? = some (.cells #[v1, v2] 27 (0, 0)) ∧ (∃ u, w'.cell? ⟨pb, i, none⟩ = some u) ∧ w'.frozen? ⟨pb, i, none⟩ = false := by
  have hlt := h.lt
  have hsz : (wr.alloc o).heap.size = wr.heap.size + 1 := by simp
  have hne : v.ownBlock ≠ some pb := by
    rcases hv with rfl | rfl
    · exact h.r1.notPart h.box
    · exact h.r2.notPart h.box
  have hbox := ((hg.block pb (by omega) (fun e => hne e.symm)).trans (Below.heap_alloc _ _ _ hlt)).trans h.box
  refine ⟨hbox, ?_, by simp [World.frozen?, hbox]⟩
  rw [cell_of_row w' pb i _ _ _ hbox]
  match i, hi with
  | 0, _ => exact ⟨_, rfl⟩
  | 1, _ => exact ⟨_, rfl⟩
theorem WInv.put1 (h : WInv w wr pb v1 v2 xs ys) (h2 : v2.ownBlock = none) {o : Obj} {v' : Value} {xs' : List Int} (hr : Own w w' v' xs') (hg : (wr.alloc o).grownBy w' v1.ownBlock) :
    WInv w (w'.setCell ⟨pb, 0, none⟩ v') pb v' v2 xs' ys := by
  have hlt := h.lt
  obtain ⟨hbox, _, _⟩ := h.mid (.inl rfl) hg 0 (by omega)
  have hset : w'.grownBy (w'.setCell ⟨pb, 0, none⟩ v') (some pb) := ⟨rfl, rfl, rfl, by simp [World.setCell], fun i _ hi => Below.heap_setCell _ _ _ _ (fun e => hi (by rw [e]))⟩
  have h2' : Own w w' v2 ys := (h.r2.alloc o).kept hg (fun k hk => (h.r1.row.lt k hk).1) (.inl h2)
  refine ⟨by simp [World.setCell, Array.getElem?_modify, hbox], hr.kept hset (fun k hk => by cases hk; exact h.new) (.inr (hr.notPart hbox)), h2'.kept hset (fun k hk => by cases hk; exact h.new) (.inl h2), h.new, ?_⟩
  rw [h2]
  cases v'.ownBlock <;> simp
theorem WInv.put2 (h : WInv w wr pb v1 v2 xs ys) {o : Obj} {v' : Value} {ys' : List Int} (hr : Own w w' v' ys') (hg : (wr.alloc o).grownBy w' v2.ownBlock) (ho : v'.ownBlock = v2.ownBlock ∨ v'.ownBlock = some (wr.heap.size + 1)) :
    WInv w (w'.setCell ⟨pb, 1, none⟩ v') pb v1 v' xs ys' := by
  have hlt := h.lt
  obtain ⟨hbox, _, _⟩ := h.mid (.inr rfl) hg 1 (by omega)
  have hset : w'.grownBy (w'.setCell ⟨pb, 1, none⟩ v') (some pb) := ⟨rfl, rfl, rfl, by simp [World.setCell], fun i _ hi => Below.heap_setCell _ _ _ _ (fun e => hi (by rw [e]))⟩
  have h1' : Own w w' v1 xs := (h.r1.alloc o).kept hg (fun k hk => (h.r2.row.lt k hk).1) h.apart
  refine ⟨by simp [World.setCell, Array.getElem?_modify, hbox], h1'.kept hset (fun k hk => by cases hk; exact h.new) (.inr (h1'.notPart hbox)), hr.kept hset (fun k hk => by cases hk; exact h.new) (.inr (hr.notPart hbox)), h.new, ?_⟩
  rcases ho with e | e
  · rw [e]; exact h.apart
  · rw [e]
    cases hv : v1.ownBlock with
    | none => exact .inl rfl
    | some k =>
      refine .inr fun e' => ?_
      injection e' with e'
      obtain ⟨cur, hc, _⟩ := h.r1.ownsInt hv
      have := (Array.getElem?_eq_some_iff.1 hc).1
      omega
end

set_option maxHeartbeats 4000000 in
set_option maxRecDepth 100000 in
theorem whole_any (w : World) (N : Int) (A : Option Addr) (m c : Nat) (es : List (Int × Int)) (h : ES w w.heap.size A m c es) (hN0 : 0 ≤ N) (hN : N ≤ 1024) (hm : m ≤ 1024) :
    Calls Try.prog 61 #[.agg #[.int .i64 N, .slice A m c]] w fun e w' => ∃ A1 n1 c1 A2 n2 c2, e = .returned (.agg #[.slice A1 n1 c1, .slice A2 n2 c2]) ∧ IS w' w'.heap.size A1 n1 c1 (upto N.toNat) ∧ IS w' w'.heap.size A2 n2 c2 (upto m) ∧ Below w.heap.size w w' := by
  obtain ⟨n, rfl⟩ := Int.eq_ofNat_of_zero_le hN0
  obtain ⟨w1, hw1, b1, s1, c1⟩ := box_one w #[.int .i64 n, .slice A m c] 24
  obtain ⟨w2, hw2, b2, s2, k2⟩ := box_one w1 #[.slice none 0 0, .slice none 0 0] 27
  have g0 : w2.cell? ⟨w.heap.size, 0, none⟩ = some (.int .i64 n) := (b2.cell (p := ⟨w.heap.size, 0, none⟩) s1).trans (c1 0)
  have g1 : w2.cell? ⟨w.heap.size, 1, none⟩ = some (.slice A m c) := (b2.cell (p := ⟨w.heap.size, 1, none⟩) s1).trans (c1 1)
  have hgl : w.heap.size < w2.heap.size := by omega
  have hst : WInv w2 (w2.alloc (.cells #[.slice none 0 0, .slice none 0 0] 27)) w2.heap.size (.slice none 0 0) (.slice none 0 0) [] [] :=
    ⟨heap_alloc_new _ _, (Own.start w2).alloc _, (Own.start w2).alloc _, Nat.le_refl _, .inl rfl⟩
  have hm64 := h.cap
  have hmc := h.le
  have H := Lib.hid h
  have B12 := Lib.hid (bstep b1 b2)
  have K2 := Lib.hid k2
  clear h c1 k2 b1 b2
  go_enter Try.func61, Try.ntmps61
  go_wp2
  go_loopw [4] (fun i wr => ∃ k : Nat, k ≤ n ∧ i = .int .i64 k ∧ ∃ v, WInv w2 wr w2.heap.size v (.slice none 0 0) (upto k) []) (fun i _ => n - (intOf i).toNat)
  case atStart => exact ⟨0, Nat.zero_le _, rfl, _, hst⟩
  case round =>
    obtain ⟨k, hk, rfl, v, inv⟩ := hrel
    have q0 := (inv.r1.below.cell (p := ⟨w.heap.size, 0, none⟩) hgl).trans g0
    have q1 := (inv.r1.below.cell (p := ⟨w.heap.size, 1, none⟩) hgl).trans g1
    have e0 := inv.cell 0
    have e1 := inv.cell 1
    obtain ⟨vA, vn, vc, rfl⟩ := inv.r1.slice_
    by_cases hlt : k < n
    · have hz : I64 (k : Int) := ⟨by omega, by omega⟩
      have hll : (upto k).length + 1 ≤ 1000000000000 := by rw [upto_len]; omega
      have INV := Lib.hid inv
      clear inv hst
      go_wp2_with (with_reducible show wpList _ _ _ (Oper.mk (some 16) _ _ _ _ _ :: _) _ _; go_must (refine wpList_append_one (v := .slice vA vn vc) (w0 := w2) rfl _ _ rfl rfl INV.out.r1 _ hz rfl hll ?_; intro v' w5 hown' hg5 hb5; obtain ⟨hbx, ⟨u0, hu0⟩, hf0⟩ := INV.out.mid (.inl rfl) hg5 0 (by omega); obtain ⟨xA, xn, xc, rfl⟩ := hown'.slice_))
      go_roundw
      case rel => exact ⟨k + 1, by omega, by go_num, _, INV.out.put1 rfl hown' hg5⟩
      case measure => simp [intOf]; omega
    · obtain rfl : k = n := by omega
      have hj0 : WInv w2 wr w2.heap.size (.slice vA vn vc) (.slice none 0 0) (upto k) (upto 0) := inv
      clear hst inv e0 e1
      go_wp2
      clear q0 q1
      obtain ⟨wo, hwo⟩ : ∃ wo : World, wo = wr := ⟨_, rfl⟩
      rw [← hwo] at hj0 ⊢
      clear hwo
      go_loopw [5] (fun i wr => ∃ j : Nat, j ≤ m ∧ i = .int .i64 j ∧ ∃ v, WInv w2 wr w2.heap.size (.slice vA vn vc) v (upto k) (upto j)) (fun i _ => m - (intOf i).toNat)
      case atStart => exact ⟨0, Nat.zero_le _, rfl, _, hj0⟩
      case round =>
        obtain ⟨j, hj, rfl, v, inv⟩ := hrel
        have q0 := (inv.r2.below.cell (p := ⟨w.heap.size, 0, none⟩) hgl).trans g0
        have q1 := (inv.r2.below.cell (p := ⟨w.heap.size, 1, none⟩) hgl).trans g1
        have e0 := inv.cell 0
        have e1 := inv.cell 1
        obtain ⟨yA, yn, yc, rfl⟩ := inv.r2.slice_
        by_cases hlt : j < m
        · have hz : I64 (j : Int) := ⟨by omega, by omega⟩
          have hll : (upto j).length + 1 ≤ 1000000000000 := by rw [upto_len]; omega
          have INV := Lib.hid inv
          clear inv hj0
          go_wp2_with (with_reducible show wpList _ _ _ (Oper.mk (some 29) _ _ _ _ _ :: _) _ _; go_must (refine wpList_append_one (v := .slice yA yn yc) (w0 := w2) rfl _ _ rfl rfl INV.out.r2 _ hz rfl hll ?_; intro v' w5 hown' hg5 hb5; obtain ⟨hbx, ⟨u0, hu0⟩, hf0⟩ := INV.out.mid (.inr rfl) hg5 1 (by omega); obtain ⟨xA, xn, xc, rfl⟩ := hown'.slice_))
          go_roundw
          case rel => exact ⟨j + 1, by omega, by go_num, _, INV.out.put2 hown' hg5 hb5⟩
          case measure => simp [intOf]; omega
        · obtain rfl : j = m := by omega
          have hrb2 : w2.heap[w1.heap.size]? = some (.cells #[.slice none 0 0, .slice none 0 0] 27 (0, 0)) := by rw [← hw2]; exact heap_alloc_new _ _
          have hrb : wr.heap[w1.heap.size]? = some (.cells #[.slice none 0 0, .slice none 0 0] 27 (0, 0)) := (inv.r2.below.block _ s2).trans hrb2
          have z0 := cell_of_row wr w1.heap.size 0 _ _ _ hrb
          have z1 := cell_of_row wr w1.heap.size 1 _ _ _ hrb
          have f0 : wr.frozen? ⟨w1.heap.size, 0, none⟩ = false := by simp [World.frozen?, hrb]
          have f1 : wr.frozen? ⟨w1.heap.size, 1, none⟩ = false := by simp [World.frozen?, hrb]
          have i1 := inv.r1.isNew
          have i2 := inv.r2.isNew
          have hbel := inv.r2.below
          clear inv hj0
          go_wp2
          obtain ⟨A1, m1, d1, e1', his1, hnew1⟩ := i1
          obtain ⟨A2, m2, d2, e2', his2, hnew2⟩ := i2
          have hset : ∀ (W : World) (i : Nat) (u : Value), W.grownBy (W.setCell ⟨w1.heap.size, i, none⟩ u) (some w1.heap.size) := fun W i u => ⟨rfl, rfl, rfl, by simp [World.setCell], fun i _ hi => Below.heap_setCell _ _ _ _ (fun e => hi (by rw [e]))⟩
          have hbx : ((wr.setCell ⟨w1.heap.size, 0, none⟩ (.slice vA vn vc)).setCell ⟨w1.heap.size, 1, none⟩ (.slice yA yn yc)).heap[w1.heap.size]? = some (.cells #[.slice vA vn vc, .slice yA yn yc] 27 (0, 0)) := by
            simp [World.setCell, Array.getElem?_modify, hrb]
          try simp only [Exit.inBlock, Exit.then]
          refine bodyPost_ret (results_cell_row rfl _ _ w1.heap.size 27 #[.slice vA vn vc, .slice yA yn yc] (0, 0) _ rfl hbx Try.underlying27 rfl (by kernel_rfl)) rfl ?_
          have j1 := (his1.apart (hset wr 0 (.slice vA vn vc)) (fun a ha => by have := hnew1 a ha; omega)).apart (hset _ 1 (.slice yA yn yc)) (fun a ha => by have := hnew1 a ha; omega)
          have j2 := (his2.apart (hset wr 0 (.slice vA vn vc)) (fun a ha => by have := hnew2 a ha; omega)).apart (hset _ 1 (.slice yA yn yc)) (fun a ha => by have := hnew2 a ha; omega)
          rw [e1', e2'] at j1 j2 ⊢
          refine ⟨A1, m1, d1, A2, m2, d2, rfl, j1, j2, ?_⟩
          have b0 : Below w.heap.size w wr := B12.out.trans (hbel.mono (by omega))
          exact (b0.grown (hset wr 0 _) b0.size (fun k' hk' => by cases hk'; omega)).grown (hset _ 1 _) (by simp [World.setCell]; exact b0.size) (fun k' hk' => by cases hk'; omega)
end Go.Proofs.Ythobfbnopkbniaa
end

section
namespace Go.Proofs.Ythobfbnopkbniaa
open Go.RowKit

/-- W: when the round began; wb: the walk's box; dl: the darts that it holds; mb: the map of what is left. -/
structure InnerI (w0 W wr : World) (mb wb : Nat) (g : Int → Option Int) (d : Int) (dl : List Int) (dv : Value) : Prop where
  map : ∃ cnt, MI wr mb cnt g
  box : wr.heap[wb]? = some (.cells #[.int .i64 d, dv] 76 (0, 0))
  own : Own w0 wr dv dl
  new : ∀ q, dv.ownBlock = some q → W.heap.size ≤ q
  turned : W.grownBy wr (some mb)
  wbn : W.heap.size ≤ wb
  mbl : mb < W.heap.size
  lo : w0.heap.size ≤ mb
section
variable {w0 W wr w' : World} {mb wb : Nat} {g g' : Int → Option Int} {d : Int} {dl dl' : List Int} {dv dv' : Value}
theorem InnerI.ne_own (_ : InnerI w0 W wr mb wb g d dl dv) {u : Value} {ul : List Int} {wz : World} (hu : Own w0 wz u ul) (hb : wz.heap[wb]? = some (.cells #[.int .i64 d, dv] 76 (0, 0))) : u.ownBlock ≠ some wb := fun e => by
  obtain ⟨cur, hc, _⟩ := hu.ownsInt e
  rw [hb] at hc
  injection hc with hc
  injection hc with _ ht
  revert ht
  decide
theorem InnerI.lt (h : InnerI w0 W wr mb wb g d dl dv) : wb < wr.heap.size := (Array.getElem?_eq_some_iff.1 h.box).1
theorem InnerI.del {n' : Nat} (h : InnerI w0 W wr mb wb g d dl dv) (hm : MI w' mb n' g') (hg : wr.grownBy w' (some mb)) : InnerI w0 W w' mb wb g' d dl dv := by
  obtain ⟨cnt, hf⟩ := h.map
  have hmb := h.mbl
  have hwb := h.wbn
  refine ⟨⟨_, hm⟩, (hg.block wb h.lt (fun e => by injection e with e; omega)).trans h.box, h.own.kept hg (fun k hk => by cases hk; exact h.lo) (.inr (h.own.notMap hf)), h.new, ?_, h.wbn, h.mbl, h.lo⟩
  exact ⟨hg.os.trans h.turned.os, hg.tape.trans h.turned.tape, hg.output.trans h.turned.output, Nat.le_trans h.turned.size hg.size, fun k hk hne => (hg.block k (Nat.lt_of_lt_of_le hk h.turned.size) hne).trans (h.turned.block k hk hne)⟩
theorem InnerI.congr (h : InnerI w0 W wr mb wb g d dl dv) (he : ∀ z, g' z = g z) : InnerI w0 W wr mb wb g' d dl dv := by
  rw [show g' = g from funext he]
  exact h
/-- What the store of the longer row needs. -/
theorem InnerI.mid {o : Obj} (h : InnerI w0 W wr mb wb g d dl dv) (hg : (wr.alloc o).grownBy w' dv.ownBlock) : w'.heap[wb]? = some (.cells #[.int .i64 d, dv] 76 (0, 0)) :=
  ((hg.block wb (by have := h.lt; simp; omega) (fun e => h.ne_own h.own h.box e.symm)).trans (Below.heap_alloc _ _ _ h.lt)).trans h.box
theorem InnerI.push {o : Obj} (h : InnerI w0 W wr mb wb g d dl dv) (hown : Own w0 w' dv' dl') (hg : (wr.alloc o).grownBy w' dv.ownBlock) (ho : dv'.ownBlock = dv.ownBlock ∨ dv'.ownBlock = some (wr.heap.size + 1)) :
    InnerI w0 W (w'.setCell ⟨wb, 1, none⟩ dv') mb wb g d dl' dv' := by
  obtain ⟨cnt, hf⟩ := h.map
  have hmb := h.mbl
  have hwb := h.wbn
  have hlo := h.lo
  have hsz := h.turned.size
  have hsz2 := hg.size
  have ha : (wr.alloc o).heap.size = wr.heap.size + 1 := by simp
  have hm := h.mid hg
  have hset : w'.grownBy (w'.setCell ⟨wb, 1, none⟩ dv') (some wb) := ⟨rfl, rfl, rfl, by simp [World.setCell], fun i _ hi => Below.heap_setCell _ _ _ _ (fun e => hi (by rw [e]))⟩
  refine ⟨⟨cnt, MV.kept (MV.kept (MV.alloc hf o) hg (fun e => h.own.notMap hf e.symm)) hset (fun e => by injection e with e; omega)⟩, ?_, hown.kept hset (fun k hk => by cases hk; omega) (.inr (h.ne_own hown hm)), fun q hq => ?_, ?_, h.wbn, h.mbl, h.lo⟩
  · simp [World.setCell, Array.getElem?_modify, hm]
  · rcases ho with e | e
    · exact h.new q (e ▸ hq)
    · rw [e] at hq
      injection hq with hq
      omega
  · refine ⟨hg.os.trans h.turned.os, hg.tape.trans h.turned.tape, hg.output.trans h.turned.output, by rw [show (w'.setCell ⟨wb, 1, none⟩ dv').heap.size = w'.heap.size from by simp [World.setCell]]; omega, fun k hk hne => ?_⟩
    rw [hset.block k (by omega) (fun e => by injection e with e; omega), hg.block k (by omega) (fun e => by have := h.new k e.symm; omega), Below.heap_alloc _ _ _ (by omega)]
    exact h.turned.block k hk hne
theorem InnerI.start (hb : Below w0.heap.size w0 W) {cnt : Nat} (hm : MI W mb cnt g) (hlo : w0.heap.size ≤ mb) {w1 : World} (h1 : Below W.heap.size W w1) (hc : w1.heap[W.heap.size]? = some (.cells #[.int .i64 d, .slice none 0 0] 76 (0, 0))) : InnerI w0 W w1 mb W.heap.size g d [] (.slice none 0 0) :=
  ⟨⟨cnt, MV.step hm h1⟩, hc, Own.start_at (hb.trans (h1.mono hb.size)), fun q hq => by simp [Value.ownBlock] at hq, ⟨h1.os, h1.tape, h1.output, h1.size, fun k hk _ => h1.block k hk⟩, Nat.le_refl _, hm.lt, hlo⟩
end
theorem frozen_row {w : World} {b i : Nat} {cs : Array Value} {t : TypeId} (h : w.heap[b]? = some (.cells cs t (0, 0))) : w.frozen? ⟨b, i, none⟩ = false := by simp [World.frozen?, h]
/-- How many darts the walk's box holds. -/
def heldN (w : World) (b : Nat) : Nat := match w.cell? ⟨b, 1, none⟩ with
  | some (.slice _ n _) => n
  | _ => 0
theorem heldN_of {w : World} {b n c : Nat} {A : Option Addr} {d : Int} (h : w.heap[b]? = some (.cells #[.int .i64 d, .slice A n c] 76 (0, 0))) : heldN w b = n := by
  unfold heldN
  rw [cell_of_row w b 1 _ _ _ h]
  rfl
end Go.Proofs.Ythobfbnopkbniaa
end

section
namespace Go.Proofs.Ythobfbnopkbniaa
open Go.RowKit

/-- Turns of a part at block r. -/
def RT (w : World) (r : Nat) (es : List (Int × Int)) (xs : List Int) (tt : List (List Int)) : Prop := RS w r (lvOf es xs) (tt.map first) (placeN tt tt.length) (allDarts xs)
theorem RT.step {w w' : World} {r : Nat} {es : List (Int × Int)} {xs : List Int} {tt : List (List Int)} (h : RT w r es xs tt) (hb : Below w.heap.size w w') : RT w' r es xs tt := RS.step h hb

section
variable {w : World} {r : Nat} {es : List (Int × Int)} {xs : List Int} {tt : List (List Int)} {d : Int}
theorem t_beside_no (h : RT w r es xs tt) (s : Int) (hd : d / 2 ∉ xs) (h64 : I64 d) :
    Calls Try.prog 64 #[.pointer (some ⟨r, 0, none⟩), .int .i64 d, .int .i64 s] w fun e w' => e = .returned (.tuple #[.int .i64 0, .bool false]) ∧ w = w' :=
  beside_no w r _ _ _ _ h d s h64 (by unfold lvOf; rw [if_neg hd])
theorem t_after_no (h : RT w r es xs tt) (hd : d / 2 ∉ xs) (h64 : I64 d) : Calls Try.prog 20 #[.pointer (some ⟨r, 0, none⟩), .int .i64 d] w fun e w' => e = .returned (.tuple #[.int .i64 0, .bool false]) ∧ w = w' :=
  after_of w _ d _ _ (t_beside_no h 1 hd h64)
theorem t_before_no (h : RT w r es xs tt) (hd : d / 2 ∉ xs) (h64 : I64 d) : Calls Try.prog 21 #[.pointer (some ⟨r, 0, none⟩), .int .i64 d] w fun e w' => e = .returned (.tuple #[.int .i64 0, .bool false]) ∧ w = w' :=
  before_of w _ d _ _ (t_beside_no h (-1) hd h64)
theorem t_next_no (h : RT w r es xs tt) (hd : d / 2 ∉ xs) (h64 : I64 d) : Calls Try.prog 22 #[.pointer (some ⟨r, 0, none⟩), .int .i64 d] w fun e w' => e = .returned (.tuple #[.int .i64 0, .bool false]) ∧ w = w' :=
  next_of w _ d _ _ h64 (t_beside_no h (-1) (by rw [twin_half]; exact hd) (twin_i64 h64))
theorem t_back_no (h : RT w r es xs tt) (hd : d / 2 ∉ xs) (h64 : I64 d) : Calls Try.prog 23 #[.pointer (some ⟨r, 0, none⟩), .int .i64 d] w fun e w' => e = .returned (.tuple #[.int .i64 0, .bool false]) ∧ w = w' :=
  back_no w _ d (t_beside_no h 1 hd h64)
end
section
variable {w : World} {r : Nat} {N : Int} {es : List (Int × Int)} {vs xs : List Int} {tt : List (List Int)} {d : Int}
theorem t_beside_yes (h : RT w r es xs tt) (hp : POK N es vs xs) (hT : TurnOK N es xs tt) (s : Int) (hs1 : -1 ≤ s) (hs2 : s ≤ 1) (hd : d / 2 ∈ xs) :
    Calls Try.prog 64 #[.pointer (some ⟨r, 0, none⟩), .int .i64 d, .int .i64 s] w fun e w' => e = .returned (.tuple #[.int .i64 (stepOf es tt d s), .bool true]) ∧ w = w' := by
  obtain ⟨u, hu, hlt, ht, hm, hn, hpl, hlen⟩ := dart_facts hp hT hd
  obtain ⟨d0, d1⟩ := dart_i64 hp hd
  have hx : xs.length ≤ 1024 := by
    have := nodup_len (a := xs) (b := upto1 es.length) (sorted_nodup hp.xp) fun x hx => mem_upto1.2 (hp.xr x hx)
    rw [upto1_len] at this
    have := hp.size
    have := hp.n0
    omega
  have hpm := pos_mem hm
  exact beside_yes w r _ _ _ _ h d s ⟨by omega, by omega⟩ u (pos (turnOf es tt d) d) (turnOf es tt d) (by unfold lvOf; rw [if_pos hd, hu]) (by rw [List.length_map]; exact hlt)
    (by rw [ht, List.getD_eq_getElem?_getD, List.getElem?_map, List.getElem?_eq_getElem hlt, List.getD_eq_getElem?_getD, List.getElem?_eq_getElem hlt]; rfl) hpl hpm.1 hs1 hs2 (by omega) _
    (show _ = ((((pos (turnOf es tt d) d : Nat) : Int) + s + ((turnOf es tt d).length : Nat)).toNat : Int) by omega)
theorem t_after_yes (h : RT w r es xs tt) (hp : POK N es vs xs) (hT : TurnOK N es xs tt) (hd : d / 2 ∈ xs) : Calls Try.prog 20 #[.pointer (some ⟨r, 0, none⟩), .int .i64 d] w fun e w' => e = .returned (.tuple #[.int .i64 (stepOf es tt d 1), .bool true]) ∧ w = w' :=
  after_of w _ d _ _ (t_beside_yes h hp hT 1 (by omega) (by omega) hd)
theorem t_before_yes (h : RT w r es xs tt) (hp : POK N es vs xs) (hT : TurnOK N es xs tt) (hd : d / 2 ∈ xs) : Calls Try.prog 21 #[.pointer (some ⟨r, 0, none⟩), .int .i64 d] w fun e w' => e = .returned (.tuple #[.int .i64 (stepOf es tt d (-1)), .bool true]) ∧ w = w' :=
  before_of w _ d _ _ (t_beside_yes h hp hT (-1) (by omega) (by omega) hd)
theorem t_next_yes (h : RT w r es xs tt) (hp : POK N es vs xs) (hT : TurnOK N es xs tt) (hd : d / 2 ∈ xs) : Calls Try.prog 22 #[.pointer (some ⟨r, 0, none⟩), .int .i64 d] w fun e w' => e = .returned (.tuple #[.int .i64 (stepOf es tt (twin d) (-1)), .bool true]) ∧ w = w' := by
  obtain ⟨d0, d1⟩ := dart_i64 hp hd
  exact next_of w _ d _ _ ⟨by omega, by omega⟩ (t_beside_yes h hp hT (-1) (by omega) (by omega) (by rw [twin_half]; exact hd))
theorem t_back_yes (h : RT w r es xs tt) (hp : POK N es vs xs) (hT : TurnOK N es xs tt) (hd : d / 2 ∈ xs) : Calls Try.prog 23 #[.pointer (some ⟨r, 0, none⟩), .int .i64 d] w fun e w' => e = .returned (.tuple #[.int .i64 (twin (stepOf es tt d 1)), .bool true]) ∧ w = w' := by
  obtain ⟨d0, d1⟩ := dart_i64 hp (step_mem hp hT hd 1).1
  exact back_yes w _ d _ ⟨by omega, by omega⟩ (t_beside_yes h hp hT 1 (by omega) (by omega) hd)
end
end Go.Proofs.Ythobfbnopkbniaa
end

section
namespace Go.Proofs.Ythobfbnopkbniaa
open Go.RowKit

theorem RS.lt {w : World} {r : Nat} {lv : Int → Option Int} {tt : List (List Int)} {pl : Int → Option Int} {ds : List Int} (h : RS w r lv tt pl ds) : r < w.heap.size := by
  obtain ⟨_, _, _, _, _, _, _, _, _, _, h0, _⟩ := h
  exact h0
theorem Own.emptied (w : World) : Own w (w.alloc (.cells #[] 3)) (.slice (some ⟨w.heap.size, 0, none⟩) 0 0) [] := by
  refine ⟨⟨rfl, .inr ⟨w.heap.size, 0, #[], rfl, Nat.le_refl _, heap_alloc_new _ _, Nat.le_refl _, by omega, rfl, rfl⟩⟩, (Below.refl _ _).alloc (Nat.le_refl _) _, by simp⟩

theorem run_nil_eq (w : World) (A : Option Addr) (n c : Nat) : (binOp .eql 25 (.slice A n c) (.slice none 0 0)).run Try.prog w = .ok (.bool A.isNone) w := by
  unfold binOp
  simp [run_equal_slice_nil w _ _ A n c Try.underlying25, Result.andThen]

set_option maxHeartbeats 4000000 in
set_option maxRecDepth 100000 in
theorem clone_new (w : World) (A : Option Addr) (n c : Nat) (xs : List Int) (h : IS w w.heap.size A n c xs) (hs : n ≤ 1000000) :
    Calls Try.prog 73 #[.slice A n c] w (NewRow w xs) := by
  have hn := h.le
  have hc := h.cap
  have HL := Lib.hid h.len
  rcases A with _ | a
  · have hx : Hid (xs = []) := Lib.hid (by
      rcases Nat.eq_zero_or_pos n with h0 | h0
      · exact List.eq_nil_of_length_eq_zero (by rw [HL.out, h0])
      · obtain ⟨b, o, e, _⟩ := h.at_ h0
        cases e)
    clear h
    have heq := run_nil_eq w none n c
    go_enter Try.func73, Try.ntmps73
    go_wp2
    go_ret
    rw [hx.out]
    exact ⟨none, 0, 0, rfl, IS.none_, Below.refl _ _, fun a ha => by cases ha⟩
  · go_enter Try.func73, Try.ntmps73
    have h1 := h.alloc (Nat.le_refl _) (.cells #[] 3)
    have ho := Own.emptied w
    have hlen0 : ([] : List Int).length + n ≤ 1000000000000 := by simp; omega
    clear h
    have heq := run_nil_eq w (some a) n c
    go_wp2_with (at_builtin; go_must (refine wpList_append_is (w0 := w) (xs := []) rfl _ _ rfl rfl ho rfl h1 hlen0 ?_; intro v' w2 hown' hg' _))
    go_ret
    obtain ⟨A2, n2, c2, rfl, his, hnew⟩ := hown'.isNew
    exact ⟨A2, n2, c2, rfl, by simpa using his, hown'.below, hnew⟩

set_option maxHeartbeats 4000000 in
set_option maxRecDepth 100000 in
theorem about_new (w : World) (A : Option Addr) (n c : Nat) (xs : List Int) (h : IS w w.heap.size A n c xs) (hs : n ≤ 1000000) :
    Calls Try.prog 78 #[.slice A n c] w (NewRow w xs.reverse) := by
  have hn := h.le
  have hc := h.cap
  have HL := Lib.hid h.len
  go_enter Try.func78, Try.ntmps78
  go_wp2_with (at_make; go_must (refine wpList_make_is (w0 := w) rfl _ _ rfl (Below.refl _ _) _ _ _ n rfl rfl rfl (by omega) ?_; intro v1 w1 ho1 _ _; have h1 := h.below ho1.below))
  go_loopw [3, 4] (fun v i wr => ∃ k : Nat, k ≤ n ∧ i = .int .i64 ((k : Int) - 1) ∧ Own w wr v (xs.drop k).reverse) (fun _ i _ => (intOf i + 1).toNat)
  case atStart => exact ⟨n, Nat.le_refl _, rfl, by rw [List.drop_of_length_le (Nat.le_of_eq HL.out)]; exact ho1⟩
  case round =>
    obtain ⟨k, hk, rfl, hown⟩ := hrel
    by_cases h0 : 0 < k
    · obtain ⟨j, rfl⟩ : ∃ j, k = j + 1 := ⟨k - 1, by omega⟩
      rw [show (((j + 1 : Nat) : Int) - 1) = (j : Int) from by omega]
      have hr := h.below hown.below
      obtain ⟨b, o, z, rfl, hb, hz, hz64, hcx⟩ := hr.get (k := j) (by omega)
      have hlen : (xs.drop (j + 1)).reverse.length ≤ n := by rw [List.length_reverse, List.length_drop]; have := HL.out; omega
      have HH := Lib.hid h
      clear h hr h1
      go_wp2_with (at_builtin; go_must (refine wpList_append_one rfl _ _ rfl rfl hown z hz64 rfl (by omega) ?_; intro v' w2 hown' _ _))
      go_roundw
      case rel => exact ⟨j, by omega, rfl, by rw [drop_getD (by have := HL.out; omega) hz.out, List.reverse_cons]; exact hown'⟩
      case measure => simp [intOf]
    · obtain rfl : k = 0 := by omega
      go_wp2
      go_ret
      obtain ⟨A2, n2, c2, rfl, his, hnew⟩ := hown.isNew
      exact ⟨_, _, _, rfl, by simpa using his, hown.below, hnew⟩

theorem take_rows_snoc {tt : List (List Int)} {k : Nat} {t : List Int} (hk : k < tt.length) (ht : tt.getD k [] = t) : tt.take (k + 1) = tt.take k ++ [t] := by
  rw [List.take_succ_eq_append_getElem hk]
  rw [List.getD_eq_getElem?_getD, List.getElem?_eq_getElem hk] at ht
  rw [show tt[k] = t from ht]
theorem map_rows_snoc {f : List Int → List Int} {tt : List (List Int)} {k : Nat} {t : List Int} (hk : k < tt.length) (ht : tt.getD k [] = t) : (tt.take (k + 1)).map f = (tt.take k).map f ++ [f t] := by
  rw [take_rows_snoc hk ht, List.map_append]
  rfl
/-- A row that was made after all blocks of the call's own row. -/
theorem RowAt.made {w0 wr w5 : World} {tv : Value} {ts : List (List Int)} {A : Option Addr} {n c : Nat} {t : List Int} (h : OwnT w0 wr tv ts) (his : IS w5 w5.heap.size A n c t) (hnew : ∀ a, A = some a → wr.heap.size ≤ a.block) : RowAt w5 tv.ownBlock (.slice A n c) t :=
  ⟨_, _, _, rfl, his, fun _ a ha => by
    intro e
    obtain ⟨cur, hcur, _⟩ := h.owns e
    have h1 := (Array.getElem?_eq_some_iff.1 hcur).1
    have h2 := hnew a ha
    omega⟩

set_option maxHeartbeats 4000000 in
set_option maxRecDepth 100000 in
theorem turn_any (w : World) (r : Nat) (lv : Int → Option Int) (tt : List (List Int)) (pl : Int → Option Int) (ds : List Int) (h : RS w r lv tt pl ds) (hnt : tt.length ≤ 1024) (hlen : ∀ t ∈ tt, t.length ≤ 1024) :
    Calls Try.prog 33 #[.pointer (some ⟨r, 0, none⟩)] w fun e w' => ∃ A n c, e = .returned (.slice A n c) ∧ TS w' w'.heap.size A n c tt ∧ Below w.heap.size w w' := by
  obtain ⟨At, nt, ct, lb, nl, pb, np, Ad, nd, cd, hr, c0, _, _, _, ht, _, _, _⟩ := h
  have hn := ht.le
  have hc := ht.cap
  have HL := Lib.hid ht.len
  have hnt' : nt ≤ 1024 := by rw [← HL.out]; exact hnt
  go_enter Try.func33, Try.ntmps33
  go_wp2
  go_loopw [3, 13] (fun v i wr => ∃ k : Nat, k ≤ nt ∧ i = .int .i64 k ∧ OwnT w wr v (tt.take k)) (fun _ i _ => nt - (intOf i).toNat)
  case atStart => exact ⟨0, Nat.zero_le _, rfl, OwnT.start_at (Below.refl _ _)⟩
  case round =>
    obtain ⟨k, hk, rfl, hown⟩ := hrel
    by_cases hlt : k < nt
    · obtain ⟨b, o, t, A3, n3, c3, hA, hb, htk, hc3, ist⟩ := (ht.below hown.below).get hlt
      subst hA
      have hkl : Hid (k < tt.length) := Lib.hid (by rw [HL.out]; exact hlt)
      have hn3 : n3 ≤ 1024 := by rw [← ist.len, ← htk.out]; exact hlen _ (getD_mem hkl.out)
      have ist' := ist.more hown.below.size
      have HT := Lib.hid ht
      have HLn := Lib.hid hlen
      have HC0 := Lib.hid c0
      clear ht hlen ist c0
      go_wp2_with fail
      refine (clone_new _ _ _ _ _ ist' (by omega)).mono ?_
      rintro e w4 ⟨A4, n4, c4, rfl, is4, b4, hnew⟩
      have hown4 := hown.later b4
      have hrow := RowAt.made hown is4 hnew
      have hlr : (tt.take k).length + 1 ≤ 1000000 := by rw [List.length_take]; omega
      clear ist' hc3 is4 hnew
      go_wp2_with (with_reducible show wpList _ _ _ (Oper.mk (some 21) _ _ _ _ _ :: _) _ _; go_must (refine wpList_append_row (v := u3) (w0 := w) rfl _ _ rfl rfl hown4 hrow rfl hlr ?_; intro v' w5 hown' hg5 hb5))
      go_roundw
      case rel => exact ⟨k + 1, by omega, by go_num, by rw [take_rows_snoc hkl.out htk.out]; exact hown'⟩
      case measure => simp [intOf]; omega
    · obtain rfl : k = nt := by omega
      obtain ⟨tA, tn, tc, etv, hts⟩ := hown.ts (by rw [List.length_take]; omega)
      subst etv
      have hall : tt.take k = tt := List.take_of_length_le (by rw [HL.out]; omega)
      rw [hall] at hts
      have hbel := hown.below
      clear hown
      go_wp2
      go_ret
      exact ⟨_, _, _, rfl, hts, hbel⟩

theorem about_id (tt : List (List Int)) : tt.map (fun t => t.reverse.reverse) = tt := by simp

set_option maxHeartbeats 4000000 in
set_option maxRecDepth 100000 in
theorem mirror_any (w : World) (r : Nat) (lv : Int → Option Int) (tt : List (List Int)) (pl : Int → Option Int) (ds : List Int) (h : RS w r lv tt pl ds) (hnt : tt.length ≤ 1024) (hlen : ∀ t ∈ tt, t.length ≤ 1024) :
    Calls Try.prog 48 #[.pointer (some ⟨r, 0, none⟩)] w fun e w' => ∃ r', e = .returned (.pointer (some ⟨r', 0, none⟩)) ∧ RS w' r' lv ((tt.map List.reverse).map first) (placeN (tt.map List.reverse) (tt.map List.reverse).length) ds ∧ Below w.heap.size w w' := by
  obtain ⟨At, nt, ct, lb, nl, pb, np, Ad, nd, cd, hr, c0, c1, _, c3, ht, hlv, _, hds⟩ := h
  have hn := ht.le
  have hc := ht.cap
  have HL := Lib.hid ht.len
  have hnt' : nt ≤ 1024 := by rw [← HL.out]; exact hnt
  have HC0 := Lib.hid c0
  have HC1 := Lib.hid c1
  have HC3 := Lib.hid c3
  have HLV := Lib.hid hlv
  have HDS := Lib.hid hds
  clear hlv hds c1 c3
  go_enter Try.func48, Try.ntmps48
  go_wp2
  go_loopw [3, 13] (fun v i wr => ∃ k : Nat, k ≤ nt ∧ i = .int .i64 k ∧ OwnT w wr v ((tt.take k).map List.reverse)) (fun _ i _ => nt - (intOf i).toNat)
  case atStart => exact ⟨0, Nat.zero_le _, rfl, OwnT.start_at (Below.refl _ _)⟩
  case round =>
    obtain ⟨k, hk, rfl, hown⟩ := hrel
    by_cases hlt : k < nt
    · obtain ⟨b, o, t, A3, n3, c3, hA, hb, htk, hc3, ist⟩ := (ht.below hown.below).get hlt
      subst hA
      have hkl : Hid (k < tt.length) := Lib.hid (by rw [HL.out]; exact hlt)
      have hn3 : n3 ≤ 1024 := by rw [← ist.len, ← htk.out]; exact hlen _ (getD_mem hkl.out)
      have ist' := ist.more hown.below.size
      have HT := Lib.hid ht
      have HLn := Lib.hid hlen
      clear ht hlen ist c0
      go_wp2_with fail
      refine (about_new _ _ _ _ _ ist' (by omega)).mono ?_
      rintro e w4 ⟨A4, n4, c4, rfl, is4, b4, hnew⟩
      have hown4 := hown.later b4
      have hrow := RowAt.made hown is4 hnew
      have hlr : ((tt.take k).map List.reverse).length + 1 ≤ 1000000 := by rw [List.length_map, List.length_take]; omega
      clear ist' hc3 is4 hnew
      go_wp2_with (with_reducible show wpList _ _ _ (Oper.mk (some 21) _ _ _ _ _ :: _) _ _; go_must (refine wpList_append_row (v := u3) (w0 := w) rfl _ _ rfl rfl hown4 hrow rfl hlr ?_; intro v' w5 hown' hg5 hb5))
      go_roundw
      case rel => exact ⟨k + 1, by omega, by go_num, by rw [map_rows_snoc hkl.out htk.out]; exact hown'⟩
      case measure => simp [intOf]; omega
    · obtain rfl : k = nt := by omega
      obtain ⟨tA, tn, tc, etv, hts⟩ := hown.ts (by rw [List.length_map, List.length_take]; omega)
      subst etv
      have hall : tt.take k = tt := List.take_of_length_le (by rw [HL.out]; omega)
      rw [hall] at hts
      have hbel := hown.below
      have hlen2 : ∀ t ∈ tt.map List.reverse, t.length ≤ 1024 := fun t ht => by
        obtain ⟨u, hu, rfl⟩ := List.mem_map.1 ht
        rw [List.length_reverse]
        exact hlen u hu
      have HTS := Lib.hid hts
      have htn := hts.len
      rw [List.length_map, HL.out] at htn
      clear hown hts ht c0 hlen
      have HB := Lib.hid hbel
      have hr5 : r < wr.heap.size := by have := hbel.size; omega
      have q1 : wr.cell? ⟨r, 1, none⟩ = some (.map (some lb)) := (hbel.cell (p := ⟨r, 1, none⟩) hr).trans HC1.out
      have q3 : wr.cell? ⟨r, 3, none⟩ = some (.slice Ad nd cd) := (hbel.cell (p := ⟨r, 3, none⟩) hr).trans HC3.out
      clear hbel
      go_wp2_with fail
      refine wp_region_rel 9 [[],[],[1],[1,2],[1,2,3],[],[5],[5,6],[5,6,7]]
        [fun v _ => v = .slice tA tn tc,
         fun v _ => v = .pointer (some ⟨r, 0, none⟩),
         fun v _ => v = .pointer (some ⟨r, 0, none⟩),
         fun v _ => v = .pointer (some ⟨r, 1, none⟩),
         fun v _ => v = .map (some lb),
         fun v _ => v = .pointer (some ⟨r, 0, none⟩),
         fun v _ => v = .pointer (some ⟨r, 0, none⟩),
         fun v _ => v = .pointer (some ⟨r, 3, none⟩),
         fun v _ => v = .slice Ad nd cd]
        (by kernel_rfl) (by kernel_rfl) rfl ⟨?_, ?_, ?_, ?_, ?_, ?_, ?_, ?_, ?_, trivial⟩ ?_
      · intro wr hx v0 h0 v1 h1 v2 h2 v3 h3 v4 h4 v5 h5 v6 h6 v7 h7 v8 h8 K hK
        have p1 := (hx.cell (p := ⟨r, 1, none⟩) hr5).trans q1
        have p3 := (hx.cell (p := ⟨r, 3, none⟩) hr5).trans q3
        simp only [Act.put, List.setIfInBounds_toArray, List.set_cons_zero, List.set_cons_succ] at hK ⊢
        clear h0 h1 h2 h3 h4 h5 h6 h7 h8
        go_wp2
        exact hK _ _ (Ext.refl _) (fun _ _ => rfl)
      · intro wr hx v0 h0 v1 h1 v2 h2 v3 h3 v4 h4 v5 h5 v6 h6 v7 h7 v8 h8 K hK
        have p1 := (hx.cell (p := ⟨r, 1, none⟩) hr5).trans q1
        have p3 := (hx.cell (p := ⟨r, 3, none⟩) hr5).trans q3
        simp only [Act.put, List.setIfInBounds_toArray, List.set_cons_zero, List.set_cons_succ] at hK ⊢
        clear h0 h1 h2 h3 h4 h5 h6 h7 h8
        go_wp2
        exact hK _ _ (Ext.refl _) (fun _ _ => rfl)
      · intro wr hx v0 h0 v1 h1 v2 h2 v3 h3 v4 h4 v5 h5 v6 h6 v7 h7 v8 h8 K hK
        have p1 := (hx.cell (p := ⟨r, 1, none⟩) hr5).trans q1
        have p3 := (hx.cell (p := ⟨r, 3, none⟩) hr5).trans q3
        simp only [Act.put, List.setIfInBounds_toArray, List.set_cons_zero, List.set_cons_succ] at hK ⊢
        obtain rfl := (h1 (by decide)).now
        clear h0 h1 h2 h3 h4 h5 h6 h7 h8
        go_wp2
        exact hK _ _ (Ext.refl _) (fun _ _ => rfl)
      · intro wr hx v0 h0 v1 h1 v2 h2 v3 h3 v4 h4 v5 h5 v6 h6 v7 h7 v8 h8 K hK
        have p1 := (hx.cell (p := ⟨r, 1, none⟩) hr5).trans q1
        have p3 := (hx.cell (p := ⟨r, 3, none⟩) hr5).trans q3
        simp only [Act.put, List.setIfInBounds_toArray, List.set_cons_zero, List.set_cons_succ] at hK ⊢
        obtain rfl := (h2 (by decide)).now
        clear h0 h1 h2 h3 h4 h5 h6 h7 h8
        go_wp2
        exact hK _ _ (Ext.refl _) (fun _ _ => rfl)
      · intro wr hx v0 h0 v1 h1 v2 h2 v3 h3 v4 h4 v5 h5 v6 h6 v7 h7 v8 h8 K hK
        have p1 := (hx.cell (p := ⟨r, 1, none⟩) hr5).trans q1
        have p3 := (hx.cell (p := ⟨r, 3, none⟩) hr5).trans q3
        simp only [Act.put, List.setIfInBounds_toArray, List.set_cons_zero, List.set_cons_succ] at hK ⊢
        obtain rfl := (h3 (by decide)).now
        clear h0 h1 h2 h3 h4 h5 h6 h7 h8
        go_wp2
        exact hK _ _ (Ext.refl _) (fun _ _ => rfl)
      · intro wr hx v0 h0 v1 h1 v2 h2 v3 h3 v4 h4 v5 h5 v6 h6 v7 h7 v8 h8 K hK
        have p1 := (hx.cell (p := ⟨r, 1, none⟩) hr5).trans q1
        have p3 := (hx.cell (p := ⟨r, 3, none⟩) hr5).trans q3
        simp only [Act.put, List.setIfInBounds_toArray, List.set_cons_zero, List.set_cons_succ] at hK ⊢
        clear h0 h1 h2 h3 h4 h5 h6 h7 h8
        go_wp2
        exact hK _ _ (Ext.refl _) (fun _ _ => rfl)
      · intro wr hx v0 h0 v1 h1 v2 h2 v3 h3 v4 h4 v5 h5 v6 h6 v7 h7 v8 h8 K hK
        have p1 := (hx.cell (p := ⟨r, 1, none⟩) hr5).trans q1
        have p3 := (hx.cell (p := ⟨r, 3, none⟩) hr5).trans q3
        simp only [Act.put, List.setIfInBounds_toArray, List.set_cons_zero, List.set_cons_succ] at hK ⊢
        obtain rfl := (h5 (by decide)).now
        clear h0 h1 h2 h3 h4 h5 h6 h7 h8
        go_wp2
        exact hK _ _ (Ext.refl _) (fun _ _ => rfl)
      · intro wr hx v0 h0 v1 h1 v2 h2 v3 h3 v4 h4 v5 h5 v6 h6 v7 h7 v8 h8 K hK
        have p1 := (hx.cell (p := ⟨r, 1, none⟩) hr5).trans q1
        have p3 := (hx.cell (p := ⟨r, 3, none⟩) hr5).trans q3
        simp only [Act.put, List.setIfInBounds_toArray, List.set_cons_zero, List.set_cons_succ] at hK ⊢
        obtain rfl := (h6 (by decide)).now
        clear h0 h1 h2 h3 h4 h5 h6 h7 h8
        go_wp2
        exact hK _ _ (Ext.refl _) (fun _ _ => rfl)
      · intro wr hx v0 h0 v1 h1 v2 h2 v3 h3 v4 h4 v5 h5 v6 h6 v7 h7 v8 h8 K hK
        have p1 := (hx.cell (p := ⟨r, 1, none⟩) hr5).trans q1
        have p3 := (hx.cell (p := ⟨r, 3, none⟩) hr5).trans q3
        simp only [Act.put, List.setIfInBounds_toArray, List.set_cons_zero, List.set_cons_succ] at hK ⊢
        obtain rfl := (h7 (by decide)).now
        clear h0 h1 h2 h3 h4 h5 h6 h7 h8
        go_wp2
        exact hK _ _ (Ext.refl _) (fun _ _ => rfl)
      intro wr hx v0 h0 v1 h1 v2 h2 v3 h3 v4 h4 v5 h5 v6 h6 v7 h7 v8 h8
      have p1 := (hx.cell (p := ⟨r, 1, none⟩) hr5).trans q1
      have p3 := (hx.cell (p := ⟨r, 3, none⟩) hr5).trans q3
      obtain rfl := h0.now
      obtain rfl := h1.now
      obtain rfl := h2.now
      obtain rfl := h3.now
      obtain rfl := h4.now
      obtain rfl := h5.now
      obtain rfl := h6.now
      obtain rfl := h7.now
      obtain rfl := h8.now
      clear h0 h1 h2 h3 h4 h5 h6 h7 h8
      refine tail_seq (by kernel_rfl) ?_
      simp only [List.drop_succ_cons, List.drop_zero, Act.put, List.setIfInBounds_toArray, List.set_cons_zero, List.set_cons_succ]
      go_wp2_with fail
      have hbx := bstep HB.out hx
      refine (take_any _ tA tn tc (tt.map List.reverse) lb nl lv Ad nd cd ds (HTS.out.step hx) (MV.step HLV.out hbx) (HDS.out.step hbx) (by omega) hlen2).mono ?_
      rintro e w9 ⟨r', rfl, hrs, b9⟩
      go_wp2
      go_ret
      exact ⟨_, rfl, hrs, bstep hbx b9⟩

set_option maxHeartbeats 4000000 in
set_option maxRecDepth 100000 in
theorem darts_any (w : World) (p : Option Addr) :
    Calls Try.prog 35 #[.pointer p] w fun e w' => ∃ bx, e = .returned (.func (.func 74) #[] #[.pointer (some ⟨bx, 0, none⟩)]) ∧ w'.cell? ⟨bx, 0, none⟩ = some (.pointer p) ∧ w.heap.size ≤ bx ∧ bx < w'.heap.size ∧ Below w.heap.size w w' := by
  go_enter Try.func35, Try.ntmps35
  go_wp2
  go_ret
  exact ⟨_, rfl, by simp, Nat.le_refl _, by simp, (Below.refl _ _).alloc (Nat.le_refl _) _⟩
end Go.Proofs.Ythobfbnopkbniaa
end

section
namespace Go.Proofs.Ythobfbnopkbniaa
open Go.RowKit

/-- What face.Walks answers. -/
def WalksRes (w : World) (N : Int) (es : List (Int × Int)) (vs xs : List Int) (tt : List (List Int)) (e : Ending) (w' : World) : Prop :=
  ((pRight N es vs xs = 0 ∧ TurnOK N es xs tt ∧ ∃ A n c, e = .returned (.tuple #[.slice A n c, .int .i64 0]) ∧ WS w' w'.heap.size A n c (walksOf es tt vs xs)) ∨
    (¬ (pRight N es vs xs = 0 ∧ TurnOK N es xs tt) ∧ e = .returned (.tuple #[.slice none 0 0, .int .i64 (if pRight N es vs xs = 0 then 5 else pRight N es vs xs)]))) ∧ Below w.heap.size w w'

theorem lone_step {tt : List (List Int)} {vs : List Int} {k : Nat} {v : Int} (hk : k < vs.length) (hv : vs.getD k 0 = v) : lone tt (vs.drop k) = lone tt (vs.drop (k + 1)) ++ if (tt.getD v.toNat []).length = 0 then [(-1 - v, [])] else [] := by
  rw [drop_getD hk hv]
  unfold lone
  rw [List.reverse_cons, List.filter_append, List.map_append]
  congr 1
  by_cases h : (tt.getD v.toNat []).length = 0
  · rw [if_pos h]
    simp only [List.filter_cons, List.filter_nil, h, decide_true, if_true, List.map_cons, List.map_nil]
  · rw [if_neg h]
    simp only [List.filter_cons, List.filter_nil, h, decide_false, Bool.false_eq_true, if_false, List.map_nil]
theorem lone_len (tt : List (List Int)) (vs : List Int) : (lone tt vs).length ≤ vs.length := by
  unfold lone
  rw [List.length_map]
  refine Nat.le_trans (List.length_filter_le _ _) ?_
  rw [List.length_reverse]
  exact Nat.le_refl _

theorem xs_len {N : Int} {es : List (Int × Int)} {vs xs : List Int} (hp : POK N es vs xs) : xs.length ≤ 1024 := by
  have := nodup_len (a := xs) (b := upto1 es.length) (sorted_nodup hp.xp) fun x hx => mem_upto1.2 (hp.xr x hx)
  rw [upto1_len] at this
  have := hp.size
  have := hp.n0
  omega

set_option maxHeartbeats 4000000 in
set_option maxRecDepth 100000 in
theorem walks_any (w : World) (N : Int) (A : Option Addr) (m c : Nat) (es : List (Int × Int)) (Av : Option Addr) (nv cv : Nat) (vs : List Int) (Ae : Option Addr) (ne ce : Nat) (xs : List Int) (At : Option Addr) (nt ct : Nat) (tt : List (List Int)) (h : GP w N A m c es Av nv cv vs Ae ne ce xs) (ht : TS w w.heap.size At nt ct tt) (hm60 : m ≤ 60) (hne60 : ne ≤ 60) :
    Calls Try.prog 53 #[.agg #[.int .i64 N, .slice A m c], .agg #[.slice Av nv cv, .slice Ae ne ce], .slice At nt ct] w (WalksRes w N es vs xs tt) := by
  obtain ⟨w1, hw1, b1, gb1⟩ := box_gp w N A m c es Av nv cv Ae ne ce
  have h1 := h.step b1
  have t1 := ht.step b1
  clear h ht
  have ⟨_, _, c0, c1, c2, c3, _⟩ := gb1
  refine (callsIn_wide (n := 5)).1 (callsIn_of_wp_marks Try.func53 rfl trivial (wpIn_wide.2 ?_) rfl)
  simp only [Try.ntmps53, List.size_toArray, List.length_cons, List.length_nil, Nat.reduceAdd, Nat.reduceSub, Array.replicate_succ, Array.replicate_zero, List.push_toArray, List.append_toArray, List.nil_append, List.cons_append]
  go_wp2_with fail
  refine (new_any w1 N A m c es Av nv cv vs Ae ne ce xs At nt ct tt h1 t1 hm60 hne60).mono ?_
  rintro e w5 ⟨⟨hp, hT, r, rfl, hrs⟩ | ⟨hno, rfl⟩, b5⟩
  · have HP := Lib.hid hp
    have hpk := Lib.hid (pRight_ok hp)
    have hTT := Lib.hid hT
    have h5 := h1.step b5
    have t5 := t1.step b5
    have gb5 := gb1.step b5
    replace b1 := bstep b1 b5
    clear hp hT h1 t1 gb1 b5 c0 c1 c2 c3 hw1
    obtain ⟨rx, hrx⟩ : ∃ rx, w5.heap.size = rx := ⟨_, rfl⟩
    obtain ⟨w6, hw6, b6, s6, pc6⟩ := box_new w5 (.pointer (some ⟨r, 0, none⟩)) 31
    rw [hrx] at s6 pc6
    obtain ⟨ob, hob⟩ : ∃ ob, w6.heap.size = ob := ⟨_, rfl⟩
    obtain ⟨w7, hw7, b7, s7, oc7⟩ := box_new w6 (.slice none 0 0) 72
    rw [hob] at s7 oc7
    have h6 := h5.step b6
    have t6 := t5.step b6
    have gb6 := gb5.step b6
    have hrs6 := RS.step hrs b6
    have px6 := box_cell pc6
    have b16 := bstep b1 b6
    have gb7 := gb6.step b7
    have ho7 : OutAt w6 w7 ob (.slice none 0 0) [] := ⟨oc7, OwnW.start_at b7, by omega⟩
    have hnv := h6.v.len
    have hnt := t6.len
    have hct := t6.cap
    have hlt := t6.le
    have hnN := hTT.out.1
    have hnvl : nv ≤ 1024 := by
      have := nodup_len (a := vs) (b := upto1 nt) (sorted_nodup hpk.out.vp) fun x hx => mem_upto1.2 (by have := hpk.out.vr x hx; omega)
      rw [upto1_len] at this
      have := hpk.out.size
      omega
    have hcv := h6.v.cap
    have hlv := h6.v.le
    have ⟨_, _, c0, c1, c2, c3, _⟩ := gb7
    have H6 := Lib.hid h6
    have T6 := Lib.hid t6
    have GB6 := Lib.hid gb6
    have HRS6 := Lib.hid hrs6
    have PX6 := Lib.hid px6
    have B16 := Lib.hid b16
    clear h5 t5 gb5 hrs h6 t6 gb6 hrs6 px6 b16 b1 b6 pc6 oc7 gb7
    go_wp2_with fail
    clear hw6 hw7
    clear c0 c1 c2 c3
    go_loopw [11] (fun i wr => ∃ k : Nat, k ≤ nv ∧ i = .int .i64 ((k : Int) - 1) ∧ ∃ v, OutAt w6 wr ob v (lone tt (vs.drop k))) (fun i _ => (intOf i + 1).toNat)
    case atStart => exact ⟨nv, Nat.le_refl _, rfl, _, by rw [List.drop_of_length_le (by omega)]; exact ho7⟩
    case round =>
      obtain ⟨k, hk, rfl, v, ho⟩ := hrel
      obtain ⟨vA, vn, vc, rfl⟩ := ho.2.1.slice
      have hb := ho.2.1.below
      have gbx := GB6.out.step hb
      have ⟨_, _, c0, c1, c2, c3, _⟩ := gbx
      by_cases hk0 : k = 0
      · subst hk0
        have hneg : decide ((0 : Int) ≤ ((0 : Nat) : Int) - 1) = false := rfl
        have HO := Lib.hid ho
        have hmm := run_makeMap_none wr
        obtain ⟨mb, hmb⟩ : ∃ mb, wr.heap.size = mb := ⟨_, rfl⟩
        obtain ⟨wA, hwA, bA, sA, miA⟩ := map_new wr
        rw [hmb] at sA miA
        obtain ⟨lb, hlb⟩ : ∃ lb, wA.heap.size = lb := ⟨_, rfl⟩
        obtain ⟨wB, hwB, bB, sB, lcB⟩ := box_new wA (.map (some mb)) 52
        rw [hlb] at sB lcB
        have bAB := bstep bA bB
        have b6B : Below w6.heap.size w6 wB := hb.trans (bAB.mono hb.size)
        have ho6 := ho.later bAB
        have hmb6 : w6.heap.size ≤ mb := by rw [← hmb]; exact hb.size
        have hmlb : mb < lb := by rw [← hlb]; exact sA
        have miB := MV.step miA bB
        have pxB := (b6B.cell (p := ⟨rx, 0, none⟩) s6).trans PX6.out
        have HO6 := Lib.hid ho6
        have MIB := Lib.hid miB
        have LCB := Lib.hid lcB
        clear ho HO bA bB bAB miA miB lcB ho6 gbx c0 c1 c2 c3 hneg ho7 b7
        go_wp2_with fail
        clear hwA hwB hmm
        refine (darts_any wB (some ⟨r, 0, none⟩)).mono ?_
        rintro e wC ⟨bx, rfl, bcC, hbx, bxC, bC⟩
        have b6C : Below w6.heap.size w6 wC := b6B.trans (bC.mono b6B.size)
        have hoC := HO6.out.later bC
        have miC := MV.step MIB.out bC
        have lcC := (bC.block lb sB).trans LCB.out
        have lbC : lb < wC.heap.size := by omega
        have hbxm : mb < bx := by omega
        clear b6B pxB hbx bC HO6 MIB LCB sA sB hmb hlb hb
        go_wp2_with fail
        have hL0 : lone tt (vs.drop 0) = lone tt vs := rfl
        rw [hL0] at hoC
        have hlone := lone_len tt vs
        have fsC : FS w6 wC ob lb mb (.slice vA vn vc) (lone tt vs) 0 (inG (allDarts xs) 0) := ⟨hoC, lcC, miC, hmb6⟩
        have FSC := Lib.hid fsC
        obtain ⟨Ad, nd, cd, hnd, hc3, hds⟩ := HRS6.out.dp
        have hr6 : r < w6.heap.size := HRS6.out.lt
        have hxs := xs_len hpk.out
        rw [allDarts_len] at hnd
        have mbC : mb < wC.heap.size := by omega
        have HC3 := Lib.hid hc3
        have HDS := Lib.hid hds
        have hDI : Hid (∀ (W : World) (b : Nat), Below w6.heap.size w6 W → W.cell? ⟨b, 0, none⟩ = some (.pointer (some ⟨r, 0, none⟩)) → DI W b (some ⟨r, 0, none⟩) Ad nd cd w6.heap.size (allDarts xs)) := Lib.hid fun W b hb hc => ⟨hc, .inr ⟨r, rfl, (hb.cell (p := ⟨r, 3, none⟩) hr6).trans HC3.out, HDS.out.below hb⟩⟩
        have PXB : Hid (∀ W : World, Below w6.heap.size w6 W → W.cell? ⟨rx, 0, none⟩ = some (.pointer (some ⟨r, 0, none⟩))) := Lib.hid fun W hb => (hb.cell (p := ⟨rx, 0, none⟩) s6).trans PX6.out
        clear hoC lcC miC hL0 hc3 hds fsC
        refine wp_range_darts_v (bx := bx) (p := some ⟨r, 0, none⟩) (Ad := Ad) (nd := nd) (cd := cd) (B := w6.heap.size) (ds := allDarts xs) rfl
          (fun k W => (∃ cnt, cnt ≤ k ∧ FS w6 W ob lb mb (.slice vA vn vc) (lone tt vs) cnt (inG (allDarts xs) k)) ∧ W.cell? ⟨bx, 0, none⟩ = some (.pointer (some ⟨r, 0, none⟩)) ∧ wC.heap.size ≤ W.heap.size)
          (fun _ _ => False) ?sI ?sX ?D ⟨⟨0, Nat.le_refl _, FSC.out⟩, bcC, Nat.le_refl _⟩ (by simp) ?body ?done ?stop
        case sI => exact fun k W W' ⟨⟨cnt, h0, h1⟩, h2, h3⟩ ha => ⟨⟨cnt, h0, h1.aside ha mbC h3⟩, ha.cell h2, Nat.le_trans h3 ha.size⟩
        case sX => exact fun _ _ _ h _ => h
        case D => exact fun k W ⟨⟨cnt, _, h1⟩, h2, _⟩ => hDI.out W bx h1.below h2
        case stop => exact fun _ _ _ _ h _ => h.elim
        case body =>
          rintro l n k W ⟨⟨cnt, hcnt, hfs⟩, hbc, hsz⟩ hk
          have hk2 : k < (allDarts xs).length := by rw [allDarts_len]; omega
          obtain ⟨d, hd⟩ : ∃ d, (allDarts xs).getD k 0 = d := ⟨_, rfl⟩
          have hdm : d / 2 ∈ xs := by
            rw [← mem_allDarts, ← hd, getD_idx hk2]
            exact List.getElem_mem _
          have hd64 : I64 d := by have := dart_i64 hpk.out hdm; exact ⟨by omega, by omega⟩
          rw [hd]
          have lc1 := box_cell hfs.box
          have hmi := hfs.map
          have hcn : cnt < 1000000000000 := by omega
          have HFS := Lib.hid hfs
          have HD := Lib.hid hd
          have HBC := Lib.hid hbc
          clear hfs hd hbc hdm bcC
          simp only [List.setIfInBounds_toArray, List.set_cons_zero, List.set_cons_succ]
          gi_step
          refine rnd_region rfl (fun ⟨_, _, h⟩ => h) ?_
          go_wp2_with (at_mapUpdate; go_must (refine wpList_istore rfl _ _ _ rfl rfl hmi hcn d rfl hd64 d rfl ?_; intro W' hmi' hg'))
          refine ⟨KeepsFrom.of_grownBy hg' (fun q e => by cases e; exact mbC), ⟨_, ?_, (HFS.out.turned hmi' hg').congr (inG_next hk2 HD.out)⟩, ?_, Nat.le_trans hsz hg'.size⟩
          · split <;> omega
          · rw [← HBC.out]
            refine World.cell?_of_block (hg'.block bx (by omega) (fun e => ?_))
            injection e with e
            omega
        case done =>
          rintro D1 W1 hD1 ⟨⟨cnt1, hcnt1, hfs1⟩, _, hsz1⟩ hDef1
          have px1 := PXB.out W1 hfs1.below
          clear bcC FSC
          go_wp2_with fail
          refine (darts_box W1 (some ⟨r, 0, none⟩)).mono ?_
          rintro e wE ⟨bx2, rfl, bcE, hbx2, bxE, bE⟩
          have hndD : nd = (allDarts xs).length := by rw [allDarts_len]; exact hnd
          obtain ⟨f, hf⟩ : ∃ f, nx es tt = f := ⟨_, rfl⟩
          obtain ⟨n2, hn2⟩ : ∃ n2, 2 * xs.length = n2 := ⟨_, rfl⟩
          have hfsE : FS w6 wE ob lb mb (.slice vA vn vc) (lone tt vs ++ faces f n2 ((allDarts xs).take 0)) cnt1 (leftG f n2 (allDarts xs) 0) := by
            rw [hndD] at hfs1
            have := (hfs1.later bE).congr (fun z => leftG_zero (f := f) (n := n2) z)
            simpa [faces] using this
          have hDefE := (bE.block D1 (Array.getElem?_eq_some_iff.1 hDef1).1).trans hDef1
          have D1E : D1 < wE.heap.size := (Array.getElem?_eq_some_iff.1 hDefE).1
          have mbE : mb < wE.heap.size := by have := bE.size; omega
          have mbx2 : mb < bx2 := by omega
          have HFE := Lib.hid hfsE
          have HF := Lib.hid hf
          have HN2 := Lib.hid hn2
          have hP : Hid (PermOn f (allDarts xs)) := Lib.hid (by rw [← hf]; exact nx_perm hpk.out hTT.out)
          have hDl : (allDarts xs).length = n2 := by rw [allDarts_len, hn2]
          have hD1w : w.heap.size ≤ D1 := by have := B16.out.size; have := hfs1.below.size; omega
          have hmbD : mb ≠ D1 := by omega
          clear hfs1 hDef1 px1 hfsE hf hn2 bE hbx2 hsz1
          go_wp2_with fail
          refine wp_range_darts_v (bx := bx2) (p := some ⟨r, 0, none⟩) (Ad := Ad) (nd := nd) (cd := cd) (B := w6.heap.size) (ds := allDarts xs) rfl
            (fun k W => (∃ v cnt, FS w6 W ob lb mb v (lone tt vs ++ faces f n2 ((allDarts xs).take k)) cnt (leftG f n2 (allDarts xs) k)) ∧ W.heap[bx2]? = some (.cells #[.pointer (some ⟨r, 0, none⟩)] 31 (0, 0)) ∧ W.heap[D1]? = some (.deferred (some [])) ∧ wE.heap.size ≤ W.heap.size)
            (fun _ _ => False) ?sI ?sX ?D ⟨⟨_, _, HFE.out⟩, bcE, hDefE, Nat.le_refl _⟩ (by simp) ?body ?done ?stop
          case sI => exact fun k W W' ⟨⟨v, cnt, h1⟩, h2, h3, h4⟩ ha => ⟨⟨v, cnt, h1.aside ha mbE h4⟩, ha.same _ _ h2 (.inr rfl), ha.same _ _ h3 (.inl D1E), Nat.le_trans h4 ha.size⟩
          case sX => exact fun _ _ _ h _ => h
          case D => exact fun k W ⟨⟨v, cnt, h1⟩, h2, _, _⟩ => hDI.out W bx2 h1.below (box_cell h2)
          case stop => exact fun _ _ _ _ h _ => h.elim
          case done =>
            rintro D2 W2 hD2 ⟨⟨v, cnt, hfs⟩, _, hDef, hsz⟩ hDef2
            obtain ⟨vA2, vn2, vc2, rfl⟩ := hfs.out.2.1.slice
            have hall : (allDarts xs).take nd = allDarts xs := List.take_of_length_le (by omega)
            rw [hall] at hfs
            have hfl : (lone tt vs ++ faces f n2 (allDarts xs)).length ≤ 1000000 := by
              rw [List.length_append]
              unfold faces
              rw [List.length_map]
              have := List.length_filter_le (leastB f n2) (allDarts xs)
              omega
            obtain ⟨A9, n9, c9, he9, hws⟩ := hfs.out.2.1.ws hfl
            have o1 := box_cell hfs.out.1
            have hbel := hfs.below
            have HWS := Lib.hid hws
            have HE9 := Lib.hid he9
            clear hfs hws he9 HFE
            go_wp2_with fail
            refine leave_res2_marks rfl hDef2 hDef (by omega) ⟨.inl ⟨HP.out, hTT.out, vA2, vn2, vc2, rfl, ?_⟩, ?_⟩
            · have hA2 : Aside 0 W2 ((W2.putObj D2 (.deferred none)).putObj D1 (.deferred none)) := (Aside.put _ (Nat.zero_le _) hDef2 rfl).trans (Aside.put _ (Nat.zero_le _) ((World.putObj_heap_other (by omega)).trans hDef) rfl)
              have e9 := HE9.out
              injection e9 with e1 e2 e3
              subst e1 e2 e3
              unfold walksOf
              rw [HF.out, HN2.out]
              exact HWS.out.aside hA2
            · exact below_mark (below_mark (B16.out.trans (hbel.mono B16.out.size)) (by omega)) hD1w
          case body =>
            rintro l n k W ⟨⟨v, cnt, hfs⟩, hbc, hDW, hsz⟩ hk
            have hkD : k < (allDarts xs).length := by omega
            obtain ⟨d, hd⟩ : ∃ d, (allDarts xs).getD k 0 = d := ⟨_, rfl⟩
            have hdD : d ∈ allDarts xs := by rw [← hd, getD_idx hkD]; exact List.getElem_mem _
            have hdm : d / 2 ∈ xs := mem_allDarts.1 hdD
            have hd64 : I64 d := by have := dart_i64 hpk.out hdm; exact ⟨by omega, by omega⟩
            rw [hd]
            have lc1 := box_cell hfs.box
            have hmi := hfs.map
            have hleast : leftB f n2 (allDarts xs) k d = leastB f n2 d := left_next hP.out (allDarts_sorted hpk.out.xp) (by omega) hkD hd
            have hfn := faces_next (f := f) (n := n2) hkD hd
            have HFS := Lib.hid hfs
            have HD := Lib.hid hd
            have HBC := Lib.hid hbc
            have HDW := Lib.hid hDW
            have HFN := Lib.hid hfn
            clear hfs hd hbc hDW bcE hDefE HFE hfn
            simp only [List.setIfInBounds_toArray, List.set_cons_zero, List.set_cons_succ]
            gi_step
            gi_step
            gi_step
            refine rnd_region rfl (fun ⟨_, _, h⟩ => h) ?_
            by_cases hl : leftB f n2 (allDarts xs) k d = true
            · have HL := Lib.hid hl
              have HLE : Hid (leastB f n2 d = true) := Lib.hid (hleast ▸ hl)
              clear hl hleast
              go_wp2_with (with_reducible show wpList _ _ _ (Oper.mk (some 69) _ _ _ _ _ :: _) _ _; go_must (refine wpList_iok_some rfl _ _ rfl rfl hmi d rfl hd64 d (leftG_some HL.out) ?_))
              gi_step
              refine rnd_region rfl (fun ⟨_, _, h⟩ => h) ?_
              go_wp2_with fail
              gi_step
              gi_step
              gi_step
              gi_step
              gi_step
              obtain ⟨W1', hW1⟩ : ∃ W1', W.alloc (.cells #[.int .i64 d, .slice none 0 0] 76) = W1' := ⟨_, rfl⟩
              have bW1 : Below W.heap.size W W1' := by rw [← hW1]; exact (Below.refl _ _).alloc (Nat.le_refl _) _
              have cW1 : W1'.heap[W.heap.size]? = some (.cells #[.int .i64 d, .slice none 0 0] 76 (0, 0)) := by rw [← hW1]; exact heap_alloc_new _ _
              have hin0 := InnerI.start HFS.out.below HFS.out.map HFS.out.lo bW1 cW1
              obtain ⟨wb, hwb⟩ : ∃ wb, W.heap.size = wb := ⟨_, rfl⟩
              rw [hwb] at hin0
              obtain ⟨p, hp, hpl⟩ := hP.out.period hdD
              have hpn : p ≤ n2 := by omega
              have HP2 := Lib.hid hp
              have HI0 := Lib.hid (hin0.congr (g' := goneG f n2 (allDarts xs) k d 0) goneG_zero)
              have p0 : decide (0 < p) = true := decide_eq_true hp.1
              have HW1 := Lib.hid hW1
              clear hin0 bW1 cW1 lc1 hmi hp hW1
              refine rnd_region rfl (fun ⟨_, _, h⟩ => h) ?_
              go_wp2_with fail
              rw [HW1.out]
              gi_step
              gi_step
              refine rnd_region rfl (fun ⟨_, _, h⟩ => h) ?_
              go_wp2_with fail
              gi_step
              gi_loopw [19, 20] (fun x okv wr => ∃ j : Nat, j ≤ p ∧ x = .int .i64 (iter f j d) ∧ okv = .bool (decide (j < p)) ∧ ∃ dv, InnerI w6 W wr mb wb (goneG f n2 (allDarts xs) k d j) d ((orb f n2 d).take j) dv) (fun _ _ wr => p - heldN wr wb)
              case atStart => exact ⟨0, Nat.zero_le _, rfl, by rw [p0], _, HI0.out⟩
              case round =>
                obtain ⟨j, hj, rfl, rfl, dv, hin⟩ := hrel
                by_cases hjp : j < p
                · rw [decide_eq_true hjp]
                  obtain ⟨dA, dn, dc, rfl, hdis⟩ := hin.own.is
                  have hdn : j = dn := by have := hdis.len; rw [List.length_take, orb_len HP2.out hpn] at this; omega
                  subst hdn
                  obtain ⟨z, hz⟩ : ∃ z, iter f j d = z := ⟨_, rfl⟩
                  have hzD : z ∈ allDarts xs := by rw [← hz]; exact hP.out.iter hdD j
                  have hzm : z / 2 ∈ xs := mem_allDarts.1 hzD
                  have hz64 : I64 z := by have := dart_i64 hpk.out hzm; exact ⟨by omega, by omega⟩
                  have hlbW : lb < W.heap.size := (Array.getElem?_eq_some_iff.1 HFS.out.box).1
                  have hlbm := HFS.out.lbmb
                  obtain ⟨cnt2, hmi2⟩ := hin.map
                  have lc2 := box_cell ((hin.turned.block lb hlbW (fun e => hlbm (by injection e))).trans HFS.out.box)
                  have HIN := Lib.hid hin
                  have HHELD := Lib.hid (heldN_of hin.box)
                  have HZ := Lib.hid hz
                  have HJP := Lib.hid hjp
                  have hlen9 : ((orb f n2 d).take j).length + 1 ≤ 1000000000000 := by rw [List.length_take]; omega
                  rw [hz]
                  clear hin hz hjp hdis
                  gi_step
                  gi_step
                  refine rnd_region rfl (fun ⟨_, _, h⟩ => h) ?_
                  go_wp2_with fail
                  gi_step
                  gi_step
                  gi_step
                  gi_step
                  gi_step
                  gi_step
                  gi_step
                  refine rnd_region rfl (fun ⟨_, _, h⟩ => h) ?_
                  go_wp2_with (at_delete; go_must (refine wpList_idelete rfl _ _ rfl rfl hmi2 z rfl hz64 ?_; intro W2 n9 hn9 hmi3 hg3))
                  have hin2 := (HIN.out.del hmi3 hg3).congr (g' := goneG f n2 (allDarts xs) k d (j + 1)) (fun y => by rw [goneG_next HP2.out hpn HJP.out, HZ.out])
                  have HIN2 := Lib.hid hin2
                  have HOW2 := Lib.hid hin2.own
                  have k1 : W2.cell? ⟨wb, 1, none⟩ = some ((.slice dA j dc)) := cell_of_row W2 wb 1 _ _ _ hin2.box
                  clear hin2 hmi2 lc2 hmi3 hg3 hn9
                  gi_step
                  refine rnd_region rfl (fun ⟨_, _, h⟩ => h) ?_
                  go_wp2_with (with_reducible show wpList _ _ _ (Oper.mk (some 90) _ _ _ _ _ :: _) _ _; go_must (refine wpList_append_one (v := .slice dA j dc) (w0 := w6) rfl _ _ rfl rfl HOW2.out z hz64 rfl hlen9 ?_; intro dv' W3 hown' hg' ho'; obtain ⟨dA', dn', dc', rfl, his'⟩ := hown'.is; have q1 := cell_of_row W3 wb 1 _ _ _ (HIN2.out.mid hg'); have q2 := frozen_row (i := 1) (HIN2.out.mid hg')))
                  have hin3 := HIN2.out.push hown' hg' ho'
                  have hn' : dn' = j + 1 := by have := his'.len; rw [List.length_append, List.length_take, orb_len HP2.out hpn] at this; simp at this; omega
                  have htake : (orb f n2 d).take (j + 1) = (orb f n2 d).take j ++ [z] := take_getD (by rw [orb_len HP2.out hpn]; exact HJP.out) (by rw [orb_get HP2.out hpn HJP.out, HZ.out])
                  rw [← htake] at hin3
                  obtain ⟨W4, hW4⟩ : ∃ W4, W3.setCell ⟨wb, 1, none⟩ (.slice dA' dn' dc') = W4 := ⟨_, rfl⟩
                  rw [hW4] at hin3 ⊢
                  have px4 := PXB.out W4 hin3.own.below
                  have hc4 := t_next_yes (es := es) (tt := tt) (RS.step HRS6.out hin3.own.below) hpk.out hTT.out hzm
                  rw [show stepOf es tt (twin z) (-1) = f z from congrFun HF.out z] at hc4
                  obtain ⟨y, hy⟩ : ∃ y, f z = y := ⟨_, rfl⟩
                  rw [hy] at hc4
                  have hyD : y ∈ allDarts xs := by rw [← hy]; exact hP.out.mem _ hzD
                  have hy64 : I64 y := by have := dart_i64 hpk.out (mem_allDarts.1 hyD); exact ⟨by omega, by omega⟩
                  have hyi : iter f (j + 1) d = y := by rw [← hy, ← HZ.out]; rfl
                  obtain ⟨cnt4, hmi4⟩ := hin3.map
                  have lc4 := box_cell ((hin3.turned.block lb hlbW (fun e => hlbm (by injection e))).trans HFS.out.box)
                  have hh4 := heldN_of hin3.box
                  have HIN4 := Lib.hid hin3
                  have HC4 := Lib.hid hc4
                  have HYI := Lib.hid hyi
                  have HH4 := Lib.hid hh4
                  have HN' := Lib.hid hn'
                  clear hin3 hc4 hy hyi hh4 hn' htake hW4 hg' ho' hown' his' q1 q2 k1 hyD
                  refine rnd_region rfl (fun ⟨_, _, h⟩ => h) ?_
                  go_wp2_with fail
                  refine HC4.out.mono ?_
                  rintro e W5 ⟨rfl, rfl⟩
                  go_wp2_with fail
                  refine rnd_region rfl (fun ⟨_, _, h⟩ => h) ?_
                  by_cases hlast : j + 1 < p
                  · have hsome := goneG_some hP.out (by omega) HL.out HP2.out hpn hlast
                    rw [HYI.out] at hsome
                    have HS := Lib.hid hsome
                    have hdec : Hid (decide (j + 1 < p) = true) := Lib.hid (decide_eq_true hlast)
                    clear hsome
                    go_wp2_with (with_reducible show wpList _ _ _ (Oper.mk (some 81) _ _ _ _ _ :: _) _ _; go_must (refine wpList_iok_some rfl _ _ rfl rfl hmi4 y rfl hy64 y HS.out ?_))
                    go_roundw
                    case rel => exact ⟨j + 1, by omega, by rw [HYI.out], by rw [hdec.out], _, HIN4.out⟩
                    case measure => rw [HH4.out, HHELD.out, HN'.out]; omega
                  · obtain rfl : j + 1 = p := by have := HJP.out; omega
                    have hyd : y = d := by rw [← HYI.out]; exact HP2.out.2.1
                    have hnone := goneG_back (D := allDarts xs) (k := k) HP2.out hpn
                    rw [← hyd] at hnone
                    have HS : Hid (goneG f n2 (allDarts xs) k d (j + 1) y = none) := Lib.hid (by rw [hyd] at hnone ⊢; exact hnone)
                    have hdec : Hid (decide (j + 1 < j + 1) = false) := Lib.hid (decide_eq_false (by omega))
                    clear hnone hyd
                    go_wp2_with (with_reducible show wpList _ _ _ (Oper.mk (some 81) _ _ _ _ _ :: _) _ _; go_must (refine wpList_iok_none rfl _ _ rfl rfl hmi4 y rfl hy64 HS.out ?_))
                    go_roundw
                    case rel => exact ⟨j + 1, by omega, by rw [HYI.out], by rw [hdec.out], _, HIN4.out⟩
                    case measure => rw [HH4.out, HHELD.out, HN'.out]; omega
                · obtain rfl : j = p := by omega
                  rw [decide_eq_false hjp]
                  obtain ⟨dA, dn, dc, rfl, hdis⟩ := hin.own.is
                  have hallp : (orb f n2 d).take j = orb f n2 d := List.take_of_length_le (by rw [orb_len HP2.out hpn]; exact Nat.le_refl _)
                  rw [hallp] at hdis
                  obtain ⟨vA3, vn3, vc3, rfl⟩ := HFS.out.out.2.1.slice
                  obtain ⟨cnt2, hmi2⟩ := hin.map
                  have hfr := (HFS.out.turned hmi2 hin.turned).congr (g' := leftG f n2 (allDarts xs) (k + 1)) (fun y => (goneG_end hP.out (by omega) hkD HD.out (orb_len HP2.out hpn) y).symm)
                  have hrow : RowAt wr (Value.slice vA3 vn3 vc3).ownBlock (.slice dA dn dc) (orb f n2 d) := ⟨_, _, _, rfl, hdis, fun _ a ha e => by
                    subst ha
                    have h1 := hin.new a.block rfl
                    obtain ⟨cur, hc, _⟩ := HFS.out.out.2.1.owns e
                    have h2 := (Array.getElem?_eq_some_iff.1 hc).1
                    omega⟩
                  have o1 := box_cell hfr.out.1
                  have k0 : wr.cell? ⟨wb, 0, none⟩ = some (.int .i64 d) := cell_of_row wr wb 0 _ _ _ hin.box
                  have k1 : wr.cell? ⟨wb, 1, none⟩ = some (.slice dA dn dc) := cell_of_row wr wb 1 _ _ _ hin.box
                  have hbxm : bx2 ≠ mb := HFS.out.noMap HBC.out (fun _ _ => by simp)
                  have hD1m : D1 ≠ mb := HFS.out.noMap HDW.out (fun _ _ => by simp)
                  have hbcr := (hin.turned.block bx2 (Array.getElem?_eq_some_iff.1 HBC.out).1 (fun e => hbxm (by injection e))).trans HBC.out
                  have hDr := (hin.turned.block D1 (Array.getElem?_eq_some_iff.1 HDW.out).1 (fun e => hD1m (by injection e))).trans HDW.out
                  have hkf : KeepsFrom wE.heap.size W wr := KeepsFrom.of_grownBy hin.turned (fun q e => by cases e; exact mbE)
                  have hszr := hin.turned.size
                  have hlen9 : (lone tt vs ++ faces f n2 ((allDarts xs).take k)).length + 1 ≤ 1000000 := by
                    rw [List.length_append]
                    unfold faces
                    rw [List.length_map]
                    have h1 := List.length_filter_le (leastB f n2) ((allDarts xs).take k)
                    rw [List.length_take] at h1
                    omega
                  have HOWr := Lib.hid hfr.out.2.1
                  have HFR := Lib.hid hfr
                  have HBCR := Lib.hid hbcr
                  have HDR := Lib.hid hDr
                  have hobx : bx2 ≠ ob := fun e => by
                    have h1 := HBCR.out
                    rw [e, HFR.out.out.1] at h1
                    injection h1 with h1
                    injection h1 with _ ht
                    revert ht
                    decide
                  have hobD : D1 ≠ ob := fun e => by
                    have h1 := HDR.out
                    rw [e, HFR.out.out.1] at h1
                    cases h1
                  clear hin hfr hmi2 hdis hallp hbcr hDr
                  gi_step
                  gi_step
                  refine rnd_region rfl (fun ⟨_, _, h⟩ => h) ?_
                  go_wp2_with fail
                  gi_step
                  gi_step
                  gi_step
                  gi_step
                  refine rnd_region rfl (fun ⟨_, _, h⟩ => h) ?_
                  go_wp2_with (with_reducible show wpList _ _ _ (Oper.mk (some 101) _ _ _ _ _ :: _) _ _; go_must (refine wpList_append_walk (v := .slice vA3 vn3 vc3) (w0 := w6) wtFace rfl _ _ rfl rfl HOWr.out hd64 hrow rfl hlen9 ?_; intro v' w9 hown' hg' _; obtain ⟨hbox, hfin⟩ := HFR.out.appended hown' hg'; obtain ⟨vA', vn', vc', rfl⟩ := hown'.slice; have q1 := box_cell hbox; have q2 := box_frozen hbox))
                  refine ⟨hkf.trans (HFR.out.keeps hg' _), ⟨_, _, by rw [HFN.out, HLE.out, if_pos rfl, ← List.append_assoc]; exact hfin⟩, HFR.out.other hg' HBCR.out hobx (fun cur fr e => ?_), HFR.out.other hg' HDR.out hobD (fun cur fr e => by cases e), ?_⟩
                  · injection e with _ ht
                    revert ht
                    decide
                  · have h1 := hg'.size
                    have h2 : (wr.alloc (.cells #[.int .i64 d, .slice dA dn dc] 76)).heap.size = wr.heap.size + 1 := by simp
                    rw [set_size]
                    omega
            · have hl' : leftB f n2 (allDarts xs) k d = false := by simpa using hl
              have HL := Lib.hid hl'
              have HLE : Hid (leastB f n2 d = false) := Lib.hid (hleast ▸ hl')
              clear hl hl' hleast
              go_wp2_with (with_reducible show wpList _ _ _ (Oper.mk (some 69) _ _ _ _ _ :: _) _ _; go_must (refine wpList_iok_none rfl _ _ rfl rfl hmi d rfl hd64 (leftG_none HL.out) ?_))
              gi_step
              refine rnd_region rfl (fun ⟨_, _, h⟩ => h) ?_
              go_wp2_with fail
              gi_step
              gi_step
              gi_step
              exact ⟨KeepsFrom.refl _ _, ⟨_, _, by rw [HFN.out, HLE.out]; simpa using HFS.out.congr (leftG_skip hP.out (by omega) hkD HD.out HL.out)⟩, HBC.out, HDW.out, hsz⟩
      · obtain ⟨j, rfl⟩ : ∃ j, k = j + 1 := ⟨k - 1, by omega⟩
        rw [show (((j + 1 : Nat) : Int) - 1) = (j : Int) from by omega]
        obtain ⟨bv, ov, z, hAv, hbv, hz, hz64, hcz⟩ := (H6.out.step hb).v.get (k := j) (by omega)
        subst hAv
        have hzm : z ∈ vs := by rw [← hz.out, getD_idx (by omega)]; exact List.getElem_mem _
        have hzr := hpk.out.vr z hzm
        obtain ⟨u, rfl⟩ := Int.eq_ofNat_of_zero_le hzr.1
        obtain ⟨b, o, t, A3, n3, c3', hA, hbb, htk, hc3, ist⟩ := (T6.out.step hb).get (k := u) (by omega)
        subst hA
        have hl3 := ist.len
        have j0 : (0 : Int) ≤ (j : Int) := by omega
        have j1 : (j : Int) < (nv : Int) := by omega
        have u0 : (0 : Int) ≤ (u : Int) := by omega
        have u1 : (u : Int) < (nt : Int) := by omega
        have hstep := lone_step (tt := tt) (show j < vs.length by omega) hz.out
        rw [Int.toNat_natCast, htk.out, hl3] at hstep
        have HST := Lib.hid hstep
        have HO := Lib.hid ho
        have HOW := Lib.hid ho.2.1
        have ho1 := box_cell ho.1
        have hl1 : (lone tt (vs.drop (j + 1))).length + 1 ≤ 1000000 := by have := lone_len tt (vs.drop (j + 1)); rw [List.length_drop] at this; omega
        clear ist hstep ho gbx hz hzm htk
        by_cases hn0 : n3 = 0
        · subst hn0
          have hk64 : I64 (-1 - (u : Int)) := ⟨by omega, by omega⟩
          have hwr : IntKind.i64.wrap (-1 - (u : Int)) = -1 - (u : Int) := IntWalk.i64_in _ (by omega)
          have hrow : RowAt wr (Value.slice vA vn vc).ownBlock (.slice none 0 0) [] := ⟨none, 0, 0, rfl, IS.none_, fun h => absurd h (by omega)⟩
          go_wp2_with (with_reducible show wpList _ _ _ (Oper.mk (some 55) _ _ _ _ _ :: _) _ _; go_must (refine wpList_append_walk (v := .slice vA vn vc) (w0 := w6) wtFace rfl _ _ rfl rfl HOW.out hk64 hrow rfl hl1 ?_; intro v' w9 hown' hg' _; obtain ⟨hbox, hout⟩ := HO.out.appended hown' hg'; obtain ⟨vA', vn', vc', rfl⟩ := hown'.slice; have q1 := box_cell hbox; have q2 := box_frozen hbox))
          go_roundw
          case rel => exact ⟨j, by omega, rfl, _, by rw [HST.out, if_pos rfl]; exact hout⟩
          case measure => simp [intOf]
        · have hne : ((n3 : Int) == 0) = false := by simp; omega
          have HN0 := Lib.hid hn0
          clear hn0
          go_wp2
          go_roundw
          case rel => exact ⟨j, by omega, rfl, _, by rw [HST.out, if_neg HN0.out, List.append_nil]; exact HO.out⟩
          case measure => simp [intOf]
  · obtain ⟨q, hq⟩ : ∃ q, (if pRight N es vs xs = 0 then 5 else pRight N es vs xs) = q := ⟨_, rfl⟩
    have hqb : (q != 0) = true := by
      rw [← hq]
      simp only [bne_iff_ne, ne_eq]
      split <;> omega
    have HNO := Lib.hid hno
    have HQ := Lib.hid hq
    obtain ⟨w6, hw6, b6, s6, pc6⟩ := box_new w5 (.pointer none) 31
    have b16 := bstep (bstep b1 b5) b6
    rw [hq]
    subst hw6
    clear hno hq b5 b6 pc6
    go_wp2_with fail
    exact leave_res2 rfl ⟨.inr ⟨HNO.out, by rw [HQ.out]; rfl⟩, b16⟩
end Go.Proofs.Ythobfbnopkbniaa
end

section
namespace Go.Proofs.Ythobfbnopkbniaa
open Go.RowKit

set_option maxHeartbeats 400000 in
set_option maxRecDepth 100000 in
theorem index_any (w : World) (B : Nat) (A : Option Addr) (n c : Nat) (xs : List Int) (x : Int) (h : IS w B A n c xs) :
    Calls Try.prog 90 #[.slice A n c, .int .i64 x] w fun e w' => e = .returned (.int .i64 (fnd xs x)) ∧ w = w' := by
  have hn := h.le
  have hc := h.cap
  go_enter Try.func90, Try.ntmps90
  go_wp2
  go_loop [8] (fun i => ∃ k : Nat, k ≤ n ∧ i = .int .i64 k ∧ ∀ j, j < k → xs.getD j 0 ≠ x) (fun i => n - (intOf i).toNat)
  case atStart => exact ⟨0, Nat.zero_le _, rfl, fun j hj => absurd hj (by omega)⟩
  case round =>
    obtain ⟨k, hk, rfl, hj⟩ := hrel
    have HJ := Lib.hid hj
    clear hj
    by_cases hlt : k < n
    · obtain ⟨b, o, rfl, hb, hcell⟩ := h.at_ (by omega)
      have hcx : w.cell? ⟨b, o + k, none⟩ = some (.int .i64 (xs.getD k 0)) := hcell k hlt
      have HC := Lib.hid hcell
      have HH := Lib.hid h
      clear hcell h
      go_wp2
      · go_ret
        have hx : xs.getD k 0 = x := by
          have he : (x == xs[k]?.getD 0) = true := by assumption
          rw [beq_iff_eq] at he
          rw [List.getD_eq_getElem?_getD]; exact he.symm
        exact ⟨ret_int (fnd_at (by rw [HH.out.len]; exact hlt) hx HJ.out).symm, rfl⟩
      · go_round
        case rel =>
          refine ⟨k + 1, by omega, by go_num, fun j hj => ?_⟩
          rcases Nat.lt_or_ge j k with hjk | hjk
          · exact HJ.out j hjk
          · obtain rfl : j = k := by omega
            have he : (x == xs[j]?.getD 0) = false := by assumption
            rw [beq_eq_false_iff_ne] at he
            rw [List.getD_eq_getElem?_getD]; exact fun e => he e.symm
        case measure => simp [intOf]; omega
    · go_wp2
      go_ret
      exact ⟨ret_int (fnd_none fun j hj => HJ.out j (by have := h.len; omega)).symm, rfl⟩

theorem fnd_mem : ∀ (xs : List Int) (x : Int), 0 ≤ fnd xs x ↔ x ∈ xs
  | [], x => by simp [fnd]
  | a :: l, x => by
    have ih := fnd_mem l x
    by_cases h : a = x
    · simp [fnd, h]
    · by_cases h2 : fnd l x < 0
      · have h3 : ¬ x ∈ l := fun hm => by have := ih.2 hm; omega
        simp only [fnd, if_neg h, if_pos h2, List.mem_cons]
        refine ⟨fun h4 => absurd h4 (by decide), fun h4 => ?_⟩
        rcases h4 with e | e
        · exact absurd e.symm h
        · exact absurd e h3
      · have h3 : x ∈ l := ih.1 (by omega)
        simp only [fnd, if_neg h, if_neg h2, List.mem_cons]
        exact ⟨fun _ => .inr h3, fun _ => by omega⟩

set_option maxRecDepth 100000 in
theorem contains_any (w : World) (B : Nat) (A : Option Addr) (n c : Nat) (xs : List Int) (x : Int) (h : IS w B A n c xs) :
    Calls Try.prog 82 #[.slice A n c, .int .i64 x] w fun e w' => e = .returned (.bool (decide (x ∈ xs))) ∧ w = w' := by
  go_enter Try.func82, Try.ntmps82
  go_wp2_with fail
  refine (index_any w B A n c xs x h).mono ?_
  rintro e w2 ⟨rfl, rfl⟩
  have he : decide (0 ≤ fnd xs x) = decide (x ∈ xs) := decide_eq_decide.2 (fnd_mem xs x)
  go_wp2
  go_ret
  exact ⟨by first | exact congrArg _ (congrArg _ he) | simp, rfl⟩

/-- The key of the walk that a dart lies on: plain. -/
def keyOf : List (Int × List Int) → Int → Option Int
  | [], _ => none
  | p :: L, d => if p.1 = d ∨ d ∈ p.2 then some p.1 else keyOf L d
theorem keyOf_none : ∀ {L : List (Int × List Int)} {d : Int}, (∀ j, j < L.length → ¬ ((L.getD j (0, [])).1 = d ∨ d ∈ (L.getD j (0, [])).2)) → keyOf L d = none
  | [], d, _ => rfl
  | p :: L, d, h => by
    have h0 := h 0 (by simp)
    simp only [List.getD_cons_zero] at h0
    rw [keyOf, if_neg h0]
    exact keyOf_none fun j hj => by simpa using h (j + 1) (by simpa using hj)
theorem keyOf_at : ∀ {L : List (Int × List Int)} {d : Int} {k : Nat}, k < L.length → ((L.getD k (0, [])).1 = d ∨ d ∈ (L.getD k (0, [])).2) → (∀ j, j < k → ¬ ((L.getD j (0, [])).1 = d ∨ d ∈ (L.getD j (0, [])).2)) → keyOf L d = some (L.getD k (0, [])).1
  | [], d, k, hk, _, _ => by simp at hk
  | p :: L, d, 0, _, hx, _ => by
    simp only [List.getD_cons_zero] at hx ⊢
    rw [keyOf, if_pos hx]
  | p :: L, d, k + 1, hk, hx, h => by
    have h0 := h 0 (by omega)
    simp only [List.getD_cons_zero] at h0
    simp only [List.getD_cons_succ] at hx ⊢
    rw [keyOf, if_neg h0]
    exact keyOf_at (by simpa using hk) hx fun j hj => by simpa using h (j + 1) (by omega)

/-- What keyOf answers, as results. -/
def keyVal : Option Int → Value
  | some k => .tuple #[.int .i64 k, .bool true]
  | none => .tuple #[.int .i64 0, .bool false]
/-- What face.Key answers. -/
def KeyRes (w : World) (N : Int) (es : List (Int × Int)) (vs xs : List Int) (tt : List (List Int)) (d : Int) (e : Ending) (w' : World) : Prop :=
  ((pRight N es vs xs = 0 ∧ TurnOK N es xs tt ∧ e = .returned (keyVal (keyOf (walksOf es tt vs xs) d))) ∨ (¬ (pRight N es vs xs = 0 ∧ TurnOK N es xs tt) ∧ e = .returned (keyVal none))) ∧ Below w.heap.size w w'

set_option maxHeartbeats 4000000 in
set_option maxRecDepth 100000 in
theorem key_any (w : World) (N : Int) (A : Option Addr) (m c : Nat) (es : List (Int × Int)) (Av : Option Addr) (nv cv : Nat) (vs : List Int) (Ae : Option Addr) (ne ce : Nat) (xs : List Int) (At : Option Addr) (nt ct : Nat) (tt : List (List Int)) (d : Int) (h : GP w N A m c es Av nv cv vs Ae ne ce xs) (ht : TS w w.heap.size At nt ct tt) (hm60 : m ≤ 60) (hne60 : ne ≤ 60) :
    Calls Try.prog 58 #[.agg #[.int .i64 N, .slice A m c], .agg #[.slice Av nv cv, .slice Ae ne ce], .slice At nt ct, .int .i64 d] w (KeyRes w N es vs xs tt d) := by
  obtain ⟨w1, hw1, b1, gb1⟩ := box_gp w N A m c es Av nv cv Ae ne ce
  have h1 := h.step b1
  have t1 := ht.step b1
  clear h ht
  have ⟨_, _, c0, c1, c2, c3, _⟩ := gb1
  go_enter Try.func58, Try.ntmps58
  go_wp2_with fail
  refine (walks_any w1 N A m c es Av nv cv vs Ae ne ce xs At nt ct tt h1 t1 hm60 hne60).mono ?_
  rintro e w5 ⟨⟨hp, hT, A, n, c, rfl, hL⟩ | ⟨hno, rfl⟩, b5⟩
  · obtain ⟨L, hLe⟩ : ∃ L, walksOf es tt vs xs = L := ⟨_, rfl⟩
    rw [hLe] at hL
    have HLE := Lib.hid hLe
    have HPT := Lib.hid (And.intro hp hT)
    have hn := hL.le
    have hc := hL.cap
    have hlen := Lib.hid hL.len
    have HL := Lib.hid hL
    have HB := Lib.hid (bstep b1 b5)
    clear hL hLe hp hT b1 b5 h1 t1 gb1 c0 c1 c2 c3 hw1
    go_wp2
    have hst : Below w5.heap.size w5 w5 := Below.refl _ _
    go_loopw [25] (fun i wr => ∃ k : Nat, k ≤ n ∧ i = .int .i64 k ∧ Below w5.heap.size w5 wr ∧ Hid (∀ j, j < k → ¬ ((L.getD j (0, [])).1 = d ∨ d ∈ (L.getD j (0, [])).2))) (fun i _ => n - (intOf i).toNat)
    case atStart => exact ⟨0, Nat.zero_le _, rfl, hst, Lib.hid fun j hj => absurd hj (by omega)⟩
    case round =>
      clear hst
      obtain ⟨k, hk, rfl, hbel, hnot⟩ := hrel
      by_cases hlt : k < n
      · have hLr := HL.out.below hbel
        obtain ⟨b, o, y, t, A', n', c', rfl, hb, hgd, hy, hc0, hc1, his⟩ := hLr.get hlt
        have HIS := Lib.hid his
        have HBEL := Lib.hid hbel
        clear hLr his hbel
        by_cases hyd : y = d
        · subst hyd
          go_wp2_with fail
          go_ret2
          refine ⟨.inl ⟨HPT.out.1, HPT.out.2, ?_⟩, bstep HB.out (HBEL.out.alloc HBEL.out.size _)⟩
          rw [HLE.out, keyOf_at (k := k) (by have := hlen.out; omega) (.inl (by rw [hgd.out])) hnot.out, hgd.out]
          rfl
        · have hyd' : (y == d) = false := beq_eq_false_iff_ne.2 hyd
          have HYD := Lib.hid hyd
          clear hyd
          go_wp2_with fail
          have his' := (HIS.out.more HBEL.out.size).below ((Below.refl wr.heap.size wr).alloc (Nat.le_refl _) (.cells #[.int .i64 y, .slice A' n' c'] 76))
          refine (contains_any _ _ A' n' c' t d his').mono ?_
          rintro e w6 ⟨rfl, rfl⟩
          by_cases hdt : d ∈ t
          · have hdt' : decide (d ∈ t) = true := decide_eq_true hdt
            have HDT := Lib.hid hdt
            rw [hdt']
            clear hdt hdt' his'
            go_wp2_with fail
            go_ret2
            refine ⟨.inl ⟨HPT.out.1, HPT.out.2, ?_⟩, bstep HB.out (HBEL.out.alloc HBEL.out.size _)⟩
            rw [HLE.out, keyOf_at (k := k) (by have := hlen.out; omega) (.inr (by rw [hgd.out]; exact HDT.out)) hnot.out, hgd.out]
            rfl
          · have hdt' : decide (d ∈ t) = false := decide_eq_false hdt
            have HDT := Lib.hid hdt
            rw [hdt']
            clear hdt hdt' his'
            go_wp2_with fail
            go_roundw
            case rel =>
              refine ⟨k + 1, by omega, by go_num, HBEL.out.alloc HBEL.out.size _, Lib.hid fun j hj => ?_⟩
              rcases Nat.lt_or_ge j k with hjk | hjk
              · exact hnot.out j hjk
              · obtain rfl : j = k := by omega
                rw [hgd.out]
                exact fun h => h.elim HYD.out HDT.out
            case measure => simp [intOf]; omega
      · go_wp2
        go_ret2
        refine ⟨.inl ⟨HPT.out.1, HPT.out.2, ?_⟩, bstep HB.out hbel⟩
        rw [HLE.out, keyOf_none fun j hj => hnot.out j (by have := hlen.out; omega)]
        rfl
  · have HB := Lib.hid (bstep b1 b5)
    clear h1 t1 gb1 c0 c1 c2 c3 hw1 b1 b5
    go_wp2
    all_goals (go_ret2; exact ⟨.inr ⟨hno, rfl⟩, HB.out⟩)
end Go.Proofs.Ythobfbnopkbniaa
end

section
namespace Go.Proofs.Ythobfbnopkbniaa
open Go.RowKit

theorem keyOf_some : ∀ {L : List (Int × List Int)} {d k : Int}, keyOf L d = some k → ∃ p ∈ L, p.1 = k ∧ (p.1 = d ∨ d ∈ p.2)
  | [], d, k, h => by simp [keyOf] at h
  | p :: L, d, k, h => by
    unfold keyOf at h
    by_cases hp : p.1 = d ∨ d ∈ p.2
    · rw [if_pos hp] at h
      exact ⟨p, by simp, by injection h, hp⟩
    · rw [if_neg hp] at h
      obtain ⟨q, hq, h2⟩ := keyOf_some h
      exact ⟨q, List.mem_cons_of_mem _ hq, h2⟩
theorem keyOf_self : ∀ {L : List (Int × List Int)} {p : Int × List Int}, p ∈ L → (∀ q ∈ L, p.1 ∈ q.2 → q.1 = p.1) → keyOf L p.1 = some p.1
  | [], p, h, _ => by simp at h
  | q :: L, p, h, hq => by
    unfold keyOf
    by_cases hc : q.1 = p.1 ∨ p.1 ∈ q.2
    · rw [if_pos hc]
      rcases hc with e | e
      · rw [e]
      · rw [hq q (by simp) e]
    · rw [if_neg hc]
      have hpL : p ∈ L := by
        rcases List.mem_cons.1 h with e | e
        · exact absurd (.inl (by rw [e])) hc
        · exact e
      exact keyOf_self hpL fun r hr => hq r (List.mem_cons_of_mem _ hr)

/-- What a walk's key is. -/
theorem walks_good {N : Int} {es : List (Int × Int)} {vs xs : List Int} {tt : List (List Int)} (hp : POK N es vs xs) (hT : TurnOK N es xs tt) :
    (∀ p ∈ walksOf es tt vs xs, ∀ y ∈ p.2, 0 ≤ p.1 ∧ p.1 ≤ y) ∧ (∀ p ∈ walksOf es tt vs xs, ∀ q ∈ walksOf es tt vs xs, q.1 ∈ p.2 → p.1 = q.1) := by
  have hP := nx_perm hp hT
  have hn : (allDarts xs).length ≤ 2 * xs.length := by rw [allDarts_len]; exact Nat.le_refl _
  have hface : ∀ p ∈ faces (nx es tt) (2 * xs.length) (allDarts xs), p.1 ∈ allDarts xs ∧ p.2 = orb (nx es tt) (2 * xs.length) p.1 ∧ ∀ y ∈ p.2, p.1 ≤ y := by
    intro p h
    unfold faces at h
    obtain ⟨x, hx, rfl⟩ := List.mem_map.1 h
    obtain ⟨hxD, hl⟩ := List.mem_filter.1 hx
    refine ⟨hxD, rfl, fun y hy => ?_⟩
    unfold leastB at hl
    exact of_decide_eq_true (List.all_eq_true.1 hl y hy)
  have hD : ∀ x ∈ allDarts xs, 0 ≤ x := by
    intro x hx
    have := hp.xr _ (mem_allDarts.1 hx)
    omega
  have hlone : ∀ p ∈ lone tt vs, p.2 = [] ∧ p.1 < 0 := by
    intro p h
    unfold lone at h
    obtain ⟨v, hv, rfl⟩ := List.mem_map.1 h
    have hv2 := List.mem_reverse.1 (List.mem_filter.1 hv).1
    have := hp.vr v hv2
    exact ⟨rfl, by show -1 - v < 0; omega⟩
  constructor
  · intro p h y hy
    unfold walksOf at h
    rcases List.mem_append.1 h with h | h
    · rw [(hlone p h).1] at hy
      exact absurd hy (by simp)
    · obtain ⟨h1, _, h3⟩ := hface p h
      exact ⟨hD _ h1, h3 y hy⟩
  · intro p h q hq hqp
    unfold walksOf at h hq
    rcases List.mem_append.1 h with h | h
    · rw [(hlone p h).1] at hqp
      exact absurd hqp (by simp)
    · obtain ⟨h1, h2, h3⟩ := hface p h
      have hle := h3 _ hqp
      have h0 := hD _ h1
      rcases List.mem_append.1 hq with hq | hq
      · have := (hlone q hq).2
        omega
      · obtain ⟨k1, k2, k3⟩ := hface q hq
        rw [h2, mem_orb hP h1 hn] at hqp
        have hb := hqp.symm hP h1
        have hb2 : p.1 ∈ q.2 := by rw [k2, mem_orb hP k1 hn]; exact hb
        have := k3 _ hb2
        omega

/-- The law of FaceKeys. -/
theorem keys_law {N : Int} {es : List (Int × Int)} {vs xs : List Int} {tt : List (List Int)} (hp : POK N es vs xs) (hT : TurnOK N es xs tt) {d k : Int} (h : keyOf (walksOf es tt vs xs) d = some k) :
    keyOf (walksOf es tt vs xs) k = some k ∧ k ≤ d ∧ decide (k < 0) = decide (d < 0) := by
  obtain ⟨ha, hb⟩ := walks_good hp hT
  obtain ⟨p, hpL, rfl, hd⟩ := keyOf_some h
  refine ⟨keyOf_self hpL fun q hq hm => hb q hq p hpL hm, ?_⟩
  rcases hd with e | e
  · rw [e]
    exact ⟨Int.le_refl _, rfl⟩
  · obtain ⟨h0, h1⟩ := ha p hpL d e
    exact ⟨h1, decide_eq_decide.2 ⟨fun h => by omega, fun h => by omega⟩⟩
end Go.Proofs.Ythobfbnopkbniaa
end

section
namespace Go.Proofs.Ythobfbnopkbniaa
open Go.RowKit

/-- The slice value v lies in a row from block B on (or is nil); it reads as xs. -/
def OwnQ (w : World) (B : Nat) (v : Value) (xs : List Int) : Prop :=
  ∃ A n c, v = .slice A n c ∧ xs.length = n ∧ n ≤ c ∧ c ≤ 9223372036854775807 ∧ (∀ x ∈ xs, I64 x) ∧
    ((A = none ∧ c = 0) ∨ ∃ g off cur, A = some ⟨g, off, none⟩ ∧ B ≤ g ∧ w.heap[g]? = some (.cells cur 3 (0, 0)) ∧ off + c ≤ cur.size ∧ ∀ j, j < n → cur[off + j]? = some (.int .i64 (xs.getD j 0)))
/-- The variable at block b holds such a slice. -/
def QI (w : World) (B b : Nat) (xs : List Int) : Prop := ∃ v, w.heap[b]? = some (.cells #[v] 25 (0, 0)) ∧ B ≤ b ∧ OwnQ w B v xs

theorem addr_add' (b o j : Nat) : (⟨b, o, none⟩ : Addr).add j = ⟨b, o + j, none⟩ := by unfold Addr.add; split <;> simp_all
theorem frozen_of_row {w : World} {b i : Nat} {cs : Array Value} {t : TypeId} (h : w.heap[b]? = some (.cells cs t (0, 0))) : w.frozen? ⟨b, i, none⟩ = false := by simp [World.frozen?, h]
theorem World.drew_cell (w : World) (p : Addr) : w.drew.cell? p = w.cell? p := rfl
theorem cells_ne {w : World} {g b : Nat} {cur cur' : Array Value} {t t' : TypeId} {f f' : Nat × Nat} (h : w.heap[g]? = some (.cells cur t f)) (h' : w.heap[b]? = some (.cells cur' t' f')) (ht : t ≠ t') : g ≠ b := by
  rintro rfl
  rw [h] at h'
  injection h' with h'
  injection h' with _ h2
  exact ht h2
theorem OwnQ.keep {w w' : World} {B : Nat} {v : Value} {xs : List Int} (h : OwnQ w B v xs) (hk : ∀ (g : Nat) (cur : Array Value), w.heap[g]? = some (.cells cur 3 (0, 0)) → w'.heap[g]? = w.heap[g]?) : OwnQ w' B v xs := by
  obtain ⟨A, n, c, rfl, h1, h2, h3, h4, h5⟩ := h
  refine ⟨A, n, c, rfl, h1, h2, h3, h4, ?_⟩
  rcases h5 with h5 | ⟨g, off, cur, e, hB, hg, hs, hc⟩
  · exact .inl h5
  · exact .inr ⟨g, off, cur, e, hB, (hk g cur hg).trans hg, hs, hc⟩
/-- A block of another kind is written; new blocks come. -/
theorem QI.grown {w w' : World} {B b m : Nat} {xs : List Int} (h : QI w B b xs) (hg : w.grownBy w' (some m)) (hm : m < B ∨ ∃ es clock, w.heap[m]? = some (.map es clock)) : QI w' B b xs := by
  obtain ⟨v, hb, hB, hq⟩ := h
  have key : ∀ (g : Nat) (cs : Array Value) (t : TypeId), B ≤ g → w.heap[g]? = some (.cells cs t (0, 0)) → w'.heap[g]? = w.heap[g]? := fun g cs t hBg hgc => by
    refine hg.block g (Array.getElem?_eq_some_iff.1 hgc).1 fun e => ?_
    injection e with e
    subst e
    rcases hm with hm | ⟨es, clock, hm⟩
    · omega
    · rw [hm] at hgc; cases hgc
  refine ⟨v, (key b _ _ hB hb).trans hb, hB, ?_⟩
  obtain ⟨A, n, c, rfl, h1, h2, h3, h4, h5⟩ := hq
  refine ⟨A, n, c, rfl, h1, h2, h3, h4, ?_⟩
  rcases h5 with h5 | ⟨g, off, cur, e, hBg, hgc, hs, hc⟩
  · exact .inl h5
  · exact .inr ⟨g, off, cur, e, hBg, (key g _ _ hBg hgc).trans hgc, hs, hc⟩
theorem QI.later {w w' : World} {B b : Nat} {xs : List Int} (h : QI w B b xs) (hb : Below w.heap.size w w') : QI w' B b xs := by
  obtain ⟨v, hb', hB, hq⟩ := h
  exact ⟨v, (hb.block b (Array.getElem?_eq_some_iff.1 hb').1).trans hb', hB, hq.keep fun g cur hg => hb.block g (Array.getElem?_eq_some_iff.1 hg).1⟩

set_option maxRecDepth 100000 in
theorem run_append_q {w : World} {B : Nat} {v : Value} {xs : List Int} (hown : OwnQ w B v xs) (hB : B ≤ w.heap.size) (z : Int) (hz : I64 z) (hb : xs.length + 1 ≤ 1000000000000) (ty : TypeId) :
    ∃ v' w', (Builtin.append_ #[25, 25] ty #[v, .slice (some ⟨w.heap.size, 0, none⟩) 1 1]).run Try.prog (w.alloc (.cells #[.int .i64 z] 3)) = .ok v' w' ∧ OwnQ w' B v' (xs ++ [z]) ∧ Below B w w' ∧
      (∀ (g : Nat) (cs : Array Value) (t : TypeId), w.heap[g]? = some (.cells cs t (0, 0)) → t ≠ 3 → w'.heap[g]? = w.heap[g]?) := by
  obtain ⟨i0, hi, hz0, hz1, hz2⟩ := info_parts Try.infoInt
  obtain ⟨A, n, c, rfl, h1, h2, h3, h4, h5⟩ := hown
  have hi64 : ∀ x ∈ xs ++ [z], I64 x := fun x hx => (List.mem_append.1 hx).elim (h4 x) (fun h => by rw [List.mem_singleton] at h; subst h; exact hz)
  have hbl : Below B w (w.alloc (.cells #[.int .i64 z] 3)) := (Below.refl _ _).alloc hB _
  obtain ⟨W, hW⟩ : ∃ W, w.alloc (.cells #[.int .i64 z] 3) = W := ⟨_, rfl⟩
  have hsz : W.heap.size = w.heap.size + 1 := by rw [← hW]; simp
  have hold : ∀ g, g < w.heap.size → W.heap[g]? = w.heap[g]? := fun g hg => by rw [← hW]; exact Below.heap_alloc _ _ _ hg
  have hsrc : Src Try.prog i0.size 25 (.slice (some ⟨w.heap.size, 0, none⟩) 1 1) 1 [.int .i64 z] W := by
    rw [hz1, ← hW]
    exact Src.ofSlice (P := Try.prog) _ Try.underlying25 _ 1 1 _ rfl (cell_one_new _ _ _) (by intro u hu; simp at hu; subst hu; rfl)
  rw [hW] at hbl ⊢
  have grow : ∀ (olds : List Value), c < n + 1 → olds = xs.map (Value.int .i64) → (Builtin.firstCells i0.size n (.slice A n c)).run Try.prog W.drew = .ok olds.toArray W.drew →
      ∃ v' w', (Builtin.append_ #[25, 25] ty #[.slice A n c, .slice (some ⟨w.heap.size, 0, none⟩) 1 1]).run Try.prog W = .ok v' w' ∧ OwnQ w' B v' (xs ++ [z]) ∧ Below B w w' ∧
        (∀ (g : Nat) (cs : Array Value) (t : TypeId), w.heap[g]? = some (.cells cs t (0, 0)) → t ≠ 3 → w'.heap[g]? = w.heap[g]?) := by
    intro olds hlt ho hrun
    have hr := run_append_grow_src (P := Try.prog) W 25 25 ty 3 i0 (.int .i64 0) Try.underlying25 hi hz0 A n c olds hrun _ 1 _ hsrc (by omega) (by omega) (growslice_fits (by omega) (by rw [hz2]; omega))
    refine ⟨_, _, hr, ?_, ?_, ?_⟩
    · have hge := grownCap_ge W (n + 1) c 3
      have hcm : grownCap W (n + 1) c 3 ≤ maxLen := grownCap_le_maxLen W (n + 1) c 3 (by unfold maxLen; omega)
      refine ⟨_, _, _, rfl, by rw [List.length_append, h1]; rfl, hge, by unfold maxLen at hcm; exact hcm, hi64, .inr ⟨W.heap.size, 0, _, rfl, by omega, heap_alloc_new W.drew _, ?_, fun j hj => ?_⟩⟩
      · have hzc : (Value.int IntKind.i64 0).cells.size = 1 := rfl
        rw [ho, Array.size_append, List.size_toArray, size_zeroCells, hzc]
        simp only [List.length_append, List.length_map, h1, List.length_cons, List.length_nil]
        omega
      · rw [Nat.zero_add, ho, Array.getElem?_append_left (by simp [h1]; omega)]
        have e : (List.map (Value.int IntKind.i64) xs ++ [Value.int IntKind.i64 z]) = (xs ++ [z]).map (Value.int .i64) := by simp
        rw [e, List.getElem?_toArray, List.getElem?_map, List.getD_eq_getElem?_getD, List.getElem?_eq_getElem (by rw [List.length_append, h1]; exact hj)]
        rfl
    · have hd : Below B W W.drew := ⟨rfl, rfl, rfl, Nat.le_refl _, fun _ _ => rfl⟩
      exact (hbl.trans hd).alloc (by show B ≤ W.heap.size; omega) _
    · intro g cs t hg _
      have hlt := (Array.getElem?_eq_some_iff.1 hg).1
      rw [← hold g hlt]
      exact Below.heap_alloc W.drew _ g (by show g < W.heap.size; omega)
  rcases h5 with ⟨rfl, rfl⟩ | ⟨g, off, cur, rfl, hBg, hg, hs, hc⟩
  · obtain rfl : n = 0 := by omega
    have hx : xs = [] := List.eq_nil_of_length_eq_zero h1
    subst hx
    exact grow [] (by omega) rfl (by simp [Builtin.firstCells])
  · have hglt := (Array.getElem?_eq_some_iff.1 hg).1
    have hgW : W.heap[g]? = some (.cells cur 3 (0, 0)) := (hold g hglt).trans hg
    by_cases hroom : n + 1 ≤ c
    · have hcell : W.cell? ⟨g, off + n, none⟩ = cur[off + n]? := cell_of_row W g (off + n) cur 3 (0, 0) hgW
      have hlt : off + n < cur.size := by omega
      have hr := run_append_room_src (P := Try.prog) (w := W) 25 25 ty 3 i0 Try.underlying25 hi g off n c _ 1 _ hsrc hroom
        (fun j hj => by
          obtain rfl : j = 0 := by simpa using hj
          rw [hz1, Nat.mul_one, Nat.add_zero, hcell, Array.getElem?_eq_getElem hlt]; rfl)
        (fun j hj => by
          obtain rfl : j = 0 := by simpa using hj
          simp [World.frozen?, hgW])
      rw [hz1, Nat.mul_one] at hr
      have hset : (W.setCells g (off + n) [.int .i64 z]) = W.setCell ⟨g, off + n, none⟩ (.int .i64 z) := rfl
      rw [hset] at hr
      refine ⟨_, _, hr, ?_, hbl.setCell hBg _, ?_⟩
      · refine ⟨_, _, _, rfl, by rw [List.length_append, h1]; rfl, hroom, h3, hi64, .inr ⟨g, off, cur.setIfInBounds (off + n) (.int .i64 z), rfl, hBg, by simp [World.setCell, Array.getElem?_modify, hgW], by simpa using hs, fun j hj => ?_⟩⟩
        by_cases hjn : j = n
        · subst hjn
          rw [Array.getElem?_setIfInBounds_self_of_lt hlt, List.getD_eq_getElem?_getD, List.getElem?_append_right (by omega)]
          simp [h1]
        · rw [Array.getElem?_setIfInBounds_ne (by omega), hc j (by omega), List.getD_eq_getElem?_getD, List.getD_eq_getElem?_getD, List.getElem?_append_left (by omega)]
      · intro g' cs t hg' hne
        have hlt' := (Array.getElem?_eq_some_iff.1 hg').1
        rw [← hold g' hlt']
        exact Below.heap_setCell _ _ _ _ (cells_ne hg' hg hne)
    · refine grow (xs.map (Value.int .i64)) (by omega) rfl ?_
      have hcn : c = n := by omega
      subst hcn
      refine run_firstCells_some (P := Try.prog) W.drew i0.size c ⟨g, off, none⟩ c c _ (by rw [hz1, List.length_map, h1, Nat.mul_one]) fun j v hv => ?_
      have hjl : j < xs.length := by
        rcases Nat.lt_or_ge j xs.length with h | h
        · exact h
        · rw [List.getElem?_eq_none (by simpa using h)] at hv; cases hv
      rw [addr_add', World.drew_cell, cell_of_row W g (off + j) cur 3 (0, 0) hgW, hc j (by omega), ← hv, List.getElem?_map, List.getD_eq_getElem?_getD, List.getElem?_eq_getElem hjl]
      rfl

/-- 'append(v, z)' in a walk: z has been laid into a block of its own. -/
theorem wpList_append_q {w : World} {B : Nat} {v : Value} {xs : List Int} {ops : Array Oper} {rest : List Oper} {o : Oper} {a : Act} {Q : Exit → Act → World → Prop} (hgd : o.guard = none) (s x : Operand)
    (ho : o.op = .call { callee := .builtin .append, args := #[s, x], argTypes := #[25, 25] }) (hs : a.eval s = v) (hown : OwnQ w B v xs) (hB : B ≤ w.heap.size) (z : Int) (hz : I64 z)
    (hx : a.eval x = .slice (some ⟨w.heap.size, 0, none⟩) 1 1) (hb : xs.length + 1 ≤ 1000000000000)
    (h : ∀ v' w', OwnQ w' B v' (xs ++ [z]) → Below B w w' → (∀ (g : Nat) (cs : Array Value) (t : TypeId), w.heap[g]? = some (.cells cs t (0, 0)) → t ≠ 3 → w'.heap[g]? = w.heap[g]?) → wpList Try.prog ops Q rest (a.put o.dst v') w') :
    wpList Try.prog ops Q (o :: rest) a (w.alloc (.cells #[.int .i64 z] 3)) := by
  obtain ⟨v', w', hrun, h2, h3, h4⟩ := run_append_q hown hB z hz hb o.type
  refine wpList_plain hgd fun K hK => ?_
  unfold Oper.wp execOp
  simp only [ho, resolve, invoke, builtin, Sem.run_bind, Sem.run_pure, Result.andThen_ok, List.map_toArray, List.map_cons, List.map_nil, hs, hx, hrun]
  exact hK _ _ (h v' w' h2 h3 h4)

theorem OwnQ.slice {w : World} {B : Nat} {v : Value} {xs : List Int} (h : OwnQ w B v xs) : ∃ A n c, v = .slice A n c ∧ n = xs.length ∧ c ≤ 9223372036854775807 := by
  obtain ⟨A, n, c, rfl, h1, _, h3, _⟩ := h
  exact ⟨A, n, c, rfl, h1.symm, h3⟩
/-- The variable is set. -/
theorem QI.set {w : World} {B b : Nat} {v v' : Value} {xs : List Int} (hb : w.heap[b]? = some (.cells #[v] 25 (0, 0))) (hB : B ≤ b) (hq : OwnQ w B v' xs) : QI (w.setCell ⟨b, 0, none⟩ v') B b xs := by
  refine ⟨v', by simp [World.setCell, Array.getElem?_modify, hb], hB, hq.keep fun g cur hg => Below.heap_setCell _ _ _ _ (cells_ne hg hb (by decide))⟩

set_option maxHeartbeats 1000000 in
theorem put_any (w : World) (B b : Nat) (xs : List Int) (z : Int) (h : QI w B b xs) (hz : I64 z) (hl : xs.length ≤ 1000000) :
    Calls Try.prog 94 #[.int .i64 z, .pointer (some ⟨b, 0, none⟩)] w fun e w' => e = .returned (.tuple #[]) ∧ QI w' B b (xs ++ [z]) ∧ Below B w w' := by
  obtain ⟨v, hb, hB, hq⟩ := h
  have hblt := (Array.getElem?_eq_some_iff.1 hb).1
  obtain ⟨A, n, c, rfl, hn, hcc⟩ := hq.slice
  have hc : w.cell? ⟨b, 0, none⟩ = some (.slice A n c) := cell_of_row w b 0 _ _ _ hb
  have HQ := Lib.hid hq
  have HB := Lib.hid hb
  clear hq hn hb
  go_enter Try.func94, Try.ntmps94
  go_wp2_with (at_builtin; go_must (refine wpList_append_q (v := .slice A n c) rfl _ _ rfl rfl HQ.out (by omega) z hz rfl (by omega) ?_; intro v' w' hq' hb' hk; have HB2 := Lib.hid ((hk b _ _ HB.out (by decide)).trans HB.out); have hc2 : w'.cell? ⟨b, 0, none⟩ = some (.slice A n c) := cell_of_row w' b 0 _ _ _ HB2.out; have hf2 : w'.frozen? ⟨b, 0, none⟩ = false := frozen_of_row HB2.out; obtain ⟨A', n', c', rfl, hnn, _⟩ := hq'.slice; clear hk hnn))
  go_end0
  exact ⟨rfl, QI.set HB2.out hB hq', hb'.setCell hB _⟩

set_option maxHeartbeats 1000000 in
theorem take_none (w : World) (B b : Nat) (h : QI w B b []) :
    Calls Try.prog 95 #[.pointer (some ⟨b, 0, none⟩)] w fun e w' => e = .returned (.tuple #[.int .i64 0, .bool false]) ∧ w = w' := by
  obtain ⟨v, hb, hB, hq⟩ := h
  obtain ⟨A, n, c, rfl, hn, hcc⟩ := hq.slice
  have hc : w.cell? ⟨b, 0, none⟩ = some (.slice A n c) := cell_of_row w b 0 _ _ _ hb
  have hn0 : n = 0 := hn
  subst hn0
  clear hq hn hb
  go_enter Try.func95, Try.ntmps95
  go_wp2
  go_ret2
  exact ⟨rfl, rfl⟩

set_option maxHeartbeats 1000000 in
theorem take_some (w : World) (B b : Nat) (z : Int) (xs : List Int) (h : QI w B b (z :: xs)) (hl : xs.length ≤ 1000000) :
    Calls Try.prog 95 #[.pointer (some ⟨b, 0, none⟩)] w fun e w' => e = .returned (.tuple #[.int .i64 z, .bool true]) ∧ QI w' B b xs ∧ Below B w w' := by
  obtain ⟨v, hb, hB, hq⟩ := h
  obtain ⟨A, n, c, rfl, hn, hle, hcc, hi64, hrow⟩ := hq
  have hc : w.cell? ⟨b, 0, none⟩ = some (.slice A n c) := cell_of_row w b 0 _ _ _ hb
  have hfz : w.frozen? ⟨b, 0, none⟩ = false := frozen_of_row hb
  have hn' : n = xs.length + 1 := by rw [← hn]; rfl
  rcases hrow with ⟨rfl, rfl⟩ | ⟨g, off, cur, rfl, hBg, hg, hs, hcur⟩
  · omega
  · have hcz : w.cell? ⟨g, off, none⟩ = some (.int .i64 z) := by
      have := hcur 0 (by omega)
      rw [cell_of_row w g off _ _ _ hg]
      exact this
    have hq' : OwnQ w B (.slice (if c = 1 then some ⟨g, off, none⟩ else some ⟨g, off + 1, none⟩) (n - 1) (c - 1)) xs := by
      refine ⟨_, _, _, rfl, by omega, by omega, by omega, fun x hx => hi64 x (by simp [hx]), ?_⟩
      split
      · exact .inr ⟨g, off, cur, rfl, hBg, hg, by omega, fun j hj => absurd hj (by omega)⟩
      · refine .inr ⟨g, off + 1, cur, rfl, hBg, hg, by omega, fun j hj => ?_⟩
        have := hcur (j + 1) (by omega)
        rw [show off + 1 + j = off + (j + 1) by omega, this]
        rfl
    have hsl : ∀ W : World, (Instr.sliceAt 25 (.slice (some ⟨g, off, none⟩) n c) (some (.int .i64 1)) none none).run Try.prog W = .ok (.slice (if c = 1 then some ⟨g, off, none⟩ else some ⟨g, off + 1, none⟩) (n - 1) (c - 1)) W := fun W => by
      obtain ⟨i0, hi0, hz0, hz1, hz2⟩ := info_parts Try.infoInt
      have h1n : ¬ ((n : Int) < 1) := by omega
      have hadd := addr_add' g off 1
      simp [Instr.sliceAt, Instr.slice, run_underlying Try.underlying25, Instr.sliceBounds, Instr.sliceBound, asIntOf, h1n, sizeOf, typeInfo, hi0, hz1, hadd]
    have HB := Lib.hid hb
    have HQ := Lib.hid hq'
    have hn1 : 0 < n := by omega
    obtain ⟨A', hA'⟩ : ∃ A', (if c = 1 then some (⟨g, off, none⟩ : Addr) else some ⟨g, off + 1, none⟩) = A' := ⟨_, rfl⟩
    rw [hA'] at HQ hsl
    clear hq' hb hi64 hcur hg hA' hn hn'
    go_enter Try.func95, Try.ntmps95
    go_wp2
    go_ret2
    exact ⟨rfl, QI.set HB.out hB HQ.out, (Below.refl _ _).setCell hB _⟩
end Go.Proofs.Ythobfbnopkbniaa
end

section
namespace Go.Proofs.Ythobfbnopkbniaa
open Go.RowKit

theorem Try.infoPart : (Try.prog.info? 27).map (fun i => (i.zero, i.size, i.bytes)) = some (some (.agg #[.slice none 0 0, .slice none 0 0]), 2, 48) := by kernel_rfl

/-- f, turned at one place. -/
def atN {α : Type} (f : Nat → α) (i : Nat) (x : α) : Nat → α := fun j => if j = i then x else f j
theorem atN_same {α : Type} (f : Nat → α) (i : Nat) (x : α) : atN f i x i = x := if_pos rfl
theorem atN_ne {α : Type} (f : Nat → α) {i j : Nat} (x : α) (h : j ≠ i) : atN f i x j = f j := if_neg h

/-- v: a row of n parts; its lists, one after another, are F 0, F 1 (of the first), F 2, ..; u: their slices. -/
structure OwnP (w0 w : World) (v : Value) (n : Nat) (u : Nat → Value) (F : Nat → List Int) : Prop where
  row : ∃ xs, w.ownsRow w0.heap.size 27 2 v n xs ∧ ∀ i, i < n * 2 → xs[i]? = some (u i)
  each : ∀ i, Own w0 w (u i) (F i)
  apart : ∀ i k, i ≠ k → (u i).ownBlock = none ∨ (u i).ownBlock ≠ (u k).ownBlock
  rest : ∀ i, n * 2 ≤ i → u i = .slice none 0 0 ∧ F i = []
  below : Below w0.heap.size w0 w

section
variable {w0 w w' : World} {v : Value} {n : Nat} {u : Nat → Value} {F : Nat → List Int}
theorem OwnP.start (hb : Below w0.heap.size w0 w) : OwnP w0 w (.slice none 0 0) 0 (fun _ => .slice none 0 0) (fun _ => []) :=
  ⟨⟨[], World.ownsRow_nil _ _ _ _, fun i hi => absurd hi (by omega)⟩, fun _ => Own.start_at hb, fun _ _ _ => .inl rfl, fun _ _ => ⟨rfl, rfl⟩, hb⟩
theorem OwnP.kept {row : Option Nat} (h : OwnP w0 w v n u F) (hg : w.grownBy w' row) (hr : ∀ k, row = some k → w0.heap.size ≤ k) (hv : v.ownBlock = none ∨ v.ownBlock ≠ row) (hu : ∀ i, (u i).ownBlock = none ∨ (u i).ownBlock ≠ row) : OwnP w0 w' v n u F := by
  obtain ⟨xs, h1, h2⟩ := h.row
  exact ⟨⟨xs, h1.kept hg hv, h2⟩, fun i => (h.each i).kept hg hr (hu i), h.apart, h.rest, h.below.grown hg h.below.size hr⟩
theorem OwnP.later (h : OwnP w0 w v n u F) (hb : Below w.heap.size w w') : OwnP w0 w' v n u F :=
  h.kept (row := none) ⟨hb.os, hb.tape, hb.output, hb.size, fun i hi _ => hb.block i hi⟩ (fun k hk => by cases hk) (by cases hv : v.ownBlock <;> simp) (fun i => by cases hv : (u i).ownBlock <;> simp)
theorem OwnP.alloc (h : OwnP w0 w v n u F) (o : Obj) : OwnP w0 (w.alloc o) v n u F := h.later (Below.refl _ _ |>.alloc (Nat.le_refl _) o)
theorem OwnP.isPart (h : OwnP w0 w v n u F) {k : Nat} (hk : v.ownBlock = some k) : ∃ cur, w.heap[k]? = some (.cells cur 27 (0, 0)) ∧ w0.heap.size ≤ k := by
  obtain ⟨xs, h1, _⟩ := h.row
  rcases h1.2 with ⟨rfl, _⟩ | ⟨g', cap, cur, rfl, hb, hh, _⟩
  · simp [Value.ownBlock] at hk
  · have : g' = k := by simpa [Value.ownBlock] using hk
    subst this
    exact ⟨cur, hh, hb⟩
theorem OwnP.notInt (h : OwnP w0 w v n u F) {k : Nat} {cur : Array Value} (hk : w.heap[k]? = some (.cells cur 3 (0, 0))) : v.ownBlock ≠ some k := by
  intro e
  obtain ⟨cur', hc, _⟩ := h.isPart e
  rw [hk] at hc
  injection hc with hc
  injection hc with _ ht
  revert ht
  decide
/-- The row's block is none of its lists'. -/
theorem OwnP.row_ne (h : OwnP w0 w v n u F) (i : Nat) : v.ownBlock = none ∨ v.ownBlock ≠ (u i).ownBlock := by
  cases hv : v.ownBlock with
  | none => exact .inl rfl
  | some k =>
    refine .inr fun e => ?_
    obtain ⟨cur, hc, _⟩ := (h.each i).ownsInt e.symm
    exact h.notInt hc hv
theorem OwnP.notMap (h : OwnP w0 w v n u F) {b m : Nat} {f : Int → Option Value} (hm : MV w b m f) : v.ownBlock ≠ some b := by
  intro e
  obtain ⟨es, clock, hb⟩ := hm.block
  obtain ⟨cur, hc, _⟩ := h.isPart e
  rw [hb] at hc
  cases hc
/-- A map of the call's own has turned. -/
theorem OwnP.mapped (h : OwnP w0 w v n u F) {b m : Nat} {f : Int → Option Value} (hm : MV w b m f) (hb : w0.heap.size ≤ b) (hg : w.grownBy w' (some b)) : OwnP w0 w' v n u F :=
  h.kept hg (fun k hk => by cases hk; exact hb) (.inr (h.notMap hm)) (fun i => .inr ((h.each i).notMap hm))
theorem OwnP.len (h : OwnP w0 w v n u F) : ∃ A c, v = .slice A n c := by
  obtain ⟨xs, h1, _⟩ := h.row
  rcases h1.2 with ⟨rfl, rfl⟩ | ⟨g, cap, cur, rfl, _⟩
  · exact ⟨_, _, rfl⟩
  · exact ⟨_, _, rfl⟩
/-- Where it lies. -/
theorem OwnP.at_ (h : OwnP w0 w v n u F) {i : Nat} (hi : i < n * 2) : ∃ g c, v = .slice (some ⟨g, 0, none⟩) n c ∧ n ≤ c ∧ c ≤ 9223372036854775807 ∧ w0.heap.size ≤ g ∧ g < w.heap.size ∧ ∀ i, i < n * 2 → w.cell? ⟨g, i, none⟩ = some (u i) := by
  obtain ⟨xs, h1, h2⟩ := h.row
  have h1' := h1
  rcases h1'.2 with ⟨rfl, rfl⟩ | ⟨g, cap, cur, rfl, hb, hg, hnc, hcm, _⟩
  · omega
  · exact ⟨g, cap, rfl, hnc, hcm, hb, (Array.getElem?_eq_some_iff.1 hg).1, fun i hi => (h1.cellAt i hi).trans (h2 i hi)⟩

/-- One list has been turned (append): its slice is put back. -/
theorem OwnP.put {g c : Nat} (h : OwnP w0 w (.slice (some ⟨g, 0, none⟩) n c) n u F) {i : Nat} (hi : i < n * 2) {o : Obj} {v' : Value} {xs' : List Int} (hr : Own w0 w' v' xs') (hg : (w.alloc o).grownBy w' (u i).ownBlock)
    (ho : v'.ownBlock = (u i).ownBlock ∨ v'.ownBlock = some (w.heap.size + 1)) : OwnP w0 (w'.setCell ⟨g, i, none⟩ v') (.slice (some ⟨g, 0, none⟩) n c) n (atN u i v') (atN F i xs') := by
  obtain ⟨xs, h1, h2⟩ := h.row
  have hnew : ∀ k, (u i).ownBlock = some k → w0.heap.size ≤ k := fun k hk => ((h.each i).row.lt k hk).1
  have h1' := (h1.alloc o).kept hg (h.row_ne i)
  obtain ⟨h3, hset⟩ := h1'.stored i v'
  have hgn : w0.heap.size ≤ g := (h1.lt g rfl).1
  have hne : ∀ (v1 : Value) (ys : List Int), Own w0 w' v1 ys → v1.ownBlock ≠ some g := fun v1 ys hv e => by
    obtain ⟨cur, hc, _⟩ := hv.ownsInt e
    rcases h1'.2 with ⟨h4, _⟩ | ⟨g', cap, cur', h4, _, h5, _⟩
    · cases h4
    · injection h4 with h4
      injection h4 with h4
      injection h4 with h4
      subst h4
      rw [hc] at h5
      injection h5 with h5
      injection h5 with _ ht
      revert ht
      decide
  have hother : ∀ k, k ≠ i → Own w0 w' (u k) (F k) := fun k hk => ((h.each k).alloc o).kept hg hnew (h.apart k i hk)
  have hap : ∀ k, k ≠ i → (u k).ownBlock = none ∨ (u k).ownBlock ≠ v'.ownBlock := fun k hk => by
    rcases ho with e | e
    · rw [e]; exact h.apart k i hk
    · rw [e]
      cases hv : (u k).ownBlock with
      | none => exact .inl rfl
      | some b =>
        refine .inr fun e' => ?_
        injection e' with e'
        obtain ⟨cur, hc, _⟩ := (h.each k).ownsInt hv
        have := (Array.getElem?_eq_some_iff.1 hc).1
        omega
  refine ⟨⟨_, h3, fun k hk => ?_⟩, fun k => ?_, fun k l hkl => ?_, fun k hk => ?_, ?_⟩
  · by_cases e : k = i
    · subst e
      rw [atN_same, List.getElem?_set]
      have := h1.1
      simp only [if_true]
      rw [if_pos (by omega)]
    · rw [atN_ne _ _ e, List.getElem?_set, if_neg (fun e' => e e'.symm)]
      exact h2 k hk
  · by_cases e : k = i
    · subst e
      rw [atN_same, atN_same]
      exact hr.kept hset (fun k hk => by cases hk; exact hgn) (.inr (hne _ _ hr))
    · rw [atN_ne _ _ e, atN_ne _ _ e]
      exact (hother k e).kept hset (fun k hk => by cases hk; exact hgn) (.inr (hne _ _ (hother k e)))
  · by_cases e : k = i
    · have hli : l ≠ i := fun e' => hkl (e.trans e'.symm)
      subst e
      rw [atN_same, atN_ne _ _ hli]
      rcases hap l hli with h' | h'
      · rw [h']; cases v'.ownBlock <;> simp
      · exact .inr fun e' => h' e'.symm
    · by_cases e2 : l = i
      · subst e2
        rw [atN_same, atN_ne _ _ e]
        exact hap k e
      · rw [atN_ne _ _ e, atN_ne _ _ e2]
        exact h.apart k l hkl
  · rw [atN_ne _ _ (by omega), atN_ne _ _ (by omega)]
    exact h.rest k hk
  · exact hr.below.grown hset hr.below.size (fun k hk => by cases hk; exact hgn)
/-- What is needed between append and store. -/
theorem OwnP.mid {g c : Nat} (h : OwnP w0 w (.slice (some ⟨g, 0, none⟩) n c) n u F) {i : Nat} (hi : i < n * 2) {o : Obj} (hg : (w.alloc o).grownBy w' (u i).ownBlock) : w'.cell? ⟨g, i, none⟩ = some (u i) ∧ w'.frozen? ⟨g, i, none⟩ = false := by
  obtain ⟨xs, h1, h2⟩ := h.row
  have h1' := (h1.alloc o).kept hg (h.row_ne i)
  exact ⟨(h1'.cellAt i hi).trans (h2 i hi), h1'.frozenAt i⟩

/-- 'append(v, api.Part{})': the part has been laid into a block of its own. -/
theorem run_append_part (hown : OwnP w0 w v n u F) (hl : n + 1 ≤ 1000000) (ty : TypeId) :
    ∃ v' w', (Builtin.append_ #[64, 64] ty #[v, .slice (some ⟨w.heap.size, 0, none⟩) 1 1]).run Try.prog (w.alloc (.cells #[.slice none 0 0, .slice none 0 0] 27)) = .ok v' w' ∧
      OwnP w0 w' v' (n + 1) u F ∧ (w.alloc (.cells #[.slice none 0 0, .slice none 0 0] 27)).grownBy w' v.ownBlock := by
  obtain ⟨i0, hi, hz0, hz1, hz2⟩ := info_parts Try.infoPart
  obtain ⟨xs, h1, h2⟩ := hown.row
  have hbl : Below w0.heap.size w0 (w.alloc (.cells #[.slice none 0 0, .slice none 0 0] 27)) := hown.below.alloc hown.below.size _
  obtain ⟨v', w', hrun, g1, g2, _, g3⟩ := run_append_own_at (P := Try.prog) (w.alloc (.cells #[.slice none 0 0, .slice none 0 0] 27)) w0.heap.size 64 ty 27 i0 (.agg #[.slice none 0 0, .slice none 0 0]) 2 48 Try.underlying64 hi hz0 hz1 hz2 rfl (by decide)
    v n xs (h1.alloc _) ⟨w.heap.size, 0, none⟩ 1 1 [.slice none 0 0, .slice none 0 0] rfl (fun j z hj => by
      match j, hj with
      | 0, hj => simp at hj; subst hj; simp [Addr.add]
      | 1, hj => simp at hj; subst hj; simp [Addr.add]) (by intro z hz; simp at hz; subst hz; rfl) (by unfold maxLen; omega) (by omega) (by have := hown.below.size; simp; omega)
  have hlen := h1.1
  refine ⟨v', w', hrun, ⟨⟨_, g1, fun i hi => ?_⟩, fun i => ((hown.each i).alloc _).kept g2 (fun k hk => (h1.lt k hk).1) ?_, hown.apart, fun i hi => hown.rest i (by omega), hbl.grown g2 hbl.size (fun k hk => (h1.lt k hk).1)⟩, g2⟩
  · rcases Nat.lt_or_ge i (n * 2) with h | h
    · rw [List.getElem?_append_left (by omega)]
      exact h2 i h
    · rw [List.getElem?_append_right (by omega), (hown.rest i h).1, hlen]
      match hk : i - n * 2, (by omega : i - n * 2 < 2) with
      | 0, _ => rfl
      | 1, _ => rfl
  · cases hk : (u i).ownBlock with
    | none => exact .inl rfl
    | some k =>
      refine .inr fun e => ?_
      rcases hown.row_ne i with h | h
      · rw [h] at e; cases e
      · exact h (e.symm.trans hk.symm)
theorem wpList_append_part {ops : Array Oper} {rest : List Oper} {o : Oper} {a : Act} {Q : Exit → Act → World → Prop} (hgd : o.guard = none) (s x : Operand)
    (ho : o.op = .call { callee := .builtin .append, args := #[s, x], argTypes := #[64, 64] }) (hs : a.eval s = v) (hown : OwnP w0 w v n u F) (hx : a.eval x = .slice (some ⟨w.heap.size, 0, none⟩) 1 1) (hl : n + 1 ≤ 1000000)
    (h : ∀ v' w', OwnP w0 w' v' (n + 1) u F → (w.alloc (.cells #[.slice none 0 0, .slice none 0 0] 27)).grownBy w' v.ownBlock → wpList Try.prog ops Q rest (a.put o.dst v') w') : wpList Try.prog ops Q (o :: rest) a (w.alloc (.cells #[.slice none 0 0, .slice none 0 0] 27)) := by
  obtain ⟨v', w', hrun, h2, h3⟩ := run_append_part hown hl o.type
  refine wpList_plain hgd fun K hK => ?_
  unfold Oper.wp execOp
  simp only [ho, resolve, invoke, builtin, Sem.run_bind, Sem.run_pure, Result.andThen_ok, List.map_toArray, List.map_cons, List.map_nil, hs, hx, hrun]
  exact hK _ _ (h v' w' h2 h3)
end
end Go.Proofs.Ythobfbnopkbniaa
end

section
namespace Go.Proofs.Ythobfbnopkbniaa
open Go.RowKit

/-- A slice of n parts below block B: part j's lists are F (2j) and F (2j + 1). -/
def PS (w : World) (B : Nat) (A : Option Addr) (n c : Nat) (F : Nat → List Int) : Prop :=
  n ≤ c ∧ c ≤ 9223372036854775807 ∧ (0 < n → ∃ b o, A = some ⟨b, o, none⟩ ∧ b < B ∧ ∀ j, j < n * 2 → ∃ Aj nj cj, w.cell? ⟨b, o + j, none⟩ = some (.slice Aj nj cj) ∧ IS w B Aj nj cj (F j))
theorem PS.below {w w' : World} {B n c : Nat} {A : Option Addr} {F : Nat → List Int} (h : PS w B A n c F) (hb : Below B w w') : PS w' B A n c F :=
  ⟨h.1, h.2.1, fun hn => by
    obtain ⟨b, o, e, hbB, hc⟩ := h.2.2 hn
    refine ⟨b, o, e, hbB, fun j hj => ?_⟩
    obtain ⟨Aj, nj, cj, h2, h3⟩ := hc j hj
    exact ⟨Aj, nj, cj, (hb.cell (p := ⟨b, o + j, none⟩) hbB).trans h2, h3.below hb⟩⟩
theorem PS.more {w : World} {B B' n c : Nat} {A : Option Addr} {F : Nat → List Int} (h : PS w B A n c F) (hB : B ≤ B') : PS w B' A n c F :=
  ⟨h.1, h.2.1, fun hn => by
    obtain ⟨b, o, e, hbB, hc⟩ := h.2.2 hn
    refine ⟨b, o, e, by omega, fun j hj => ?_⟩
    obtain ⟨Aj, nj, cj, h2, h3⟩ := hc j hj
    exact ⟨Aj, nj, cj, h2, h3.more hB⟩⟩
theorem PS.step {w w' : World} {n c : Nat} {A : Option Addr} {F : Nat → List Int} (h : PS w w.heap.size A n c F) (hb : Below w.heap.size w w') : PS w' w'.heap.size A n c F := (h.below hb).more hb.size
theorem OwnP.ps {w0 w : World} {v : Value} {n : Nat} {u : Nat → Value} {F : Nat → List Int} (h : OwnP w0 w v n u F) : ∃ A c, v = .slice A n c ∧ PS w w.heap.size A n c F := by
  obtain ⟨vs, h1, h2⟩ := h.row
  rcases h1.2 with ⟨rfl, hx⟩ | ⟨g, cap, cur, rfl, hb, hg, hnc, hcm, hcs, htake⟩
  · have : n = 0 := by
      have h3 : vs.length = n * 2 := h1.1
      rw [hx] at h3
      simp at h3
      omega
    subst this
    exact ⟨none, 0, rfl, Nat.le_refl _, by omega, fun h => absurd h (by omega)⟩
  · refine ⟨_, _, rfl, hnc, hcm, fun hn => ⟨g, 0, rfl, (Array.getElem?_eq_some_iff.1 hg).1, fun j hj => ?_⟩⟩
    have c1 := h1.cellAt j (by omega)
    have c2 := h2 j hj
    obtain ⟨A, nj, cj, he, his⟩ := (h.each j).is
    rw [he] at c2
    simp only [Nat.zero_add]
    exact ⟨A, nj, cj, c1.trans c2, his⟩
end Go.Proofs.Ythobfbnopkbniaa
end

section
namespace Go.Proofs.Ythobfbnopkbniaa

/-- There is a way of so many darts from a to a vertex that doesn't come to 'shut'. -/
inductive Way (es : List (Int × Int)) (xs : List Int) (shut a : Int) : Nat → Int → Prop
  | start : Way es xs shut a 0 a
  | step {k : Nat} {v d : Int} : Way es xs shut a k v → d ∈ dartsOf es v xs → head es d ≠ shut → Way es xs shut a (k + 1) (head es d)
/-- f tells how far vertices are. -/
structure Dist (es : List (Int × Int)) (xs : List Int) (shut a : Int) (f : Int → Option Int) : Prop where
  start : f a = some 0
  way : ∀ u k, f u = some k → ∃ n : Nat, k = n ∧ Way es xs shut a n u
  on : ∀ u k d, f u = some k → d ∈ dartsOf es u xs → head es d ≠ shut → ∃ k', f (head es d) = some k' ∧ k' ≤ k + 1

section
variable {es : List (Int × Int)} {xs vs : List Int} {shut a : Int} {f g : Int → Option Int}
theorem Dist.le (h : Dist es xs shut a f) {n : Nat} {u : Int} (hw : Way es xs shut a n u) : ∃ k, f u = some k ∧ k ≤ n := by
  induction hw with
  | start => exact ⟨0, h.start, by omega⟩
  | step _ hd hs ih =>
    obtain ⟨k, hk, hle⟩ := ih
    obtain ⟨k', hk', hle'⟩ := h.on _ _ _ hk hd hs
    exact ⟨k', hk', by omega⟩
theorem Dist.some_iff (h : Dist es xs shut a f) (u k : Int) : f u = some k ↔ ∃ n : Nat, k = n ∧ Way es xs shut a n u ∧ ∀ j, j < n → ¬ Way es xs shut a j u := by
  constructor
  · intro hk
    obtain ⟨n, rfl, hw⟩ := h.way u k hk
    refine ⟨n, rfl, hw, fun j hj hwj => ?_⟩
    obtain ⟨k', hk', hle⟩ := h.le hwj
    rw [hk] at hk'
    injection hk' with hk'
    omega
  · rintro ⟨n, rfl, hw, hmin⟩
    obtain ⟨k, hk, hle⟩ := h.le hw
    obtain ⟨m, rfl, hm⟩ := h.way u k hk
    have : ¬ m < n := fun hlt => hmin m hlt hm
    rw [hk, show m = n by omega]
theorem Dist.unique (h : Dist es xs shut a f) (h' : Dist es xs shut a g) : f = g := by
  funext u
  apply Option.ext
  intro k
  rw [h.some_iff, h'.some_iff]
theorem Dist.nonneg (h : Dist es xs shut a f) {u k : Int} (hk : f u = some k) : 0 ≤ k := by
  obtain ⟨n, rfl, _⟩ := h.way u k hk
  omega

/-- How far, as a number. -/
def val (f : Int → Option Int) (u : Int) : Int := (f u).getD 0
theorem val_of {u k : Int} (h : f u = some k) : val f u = k := by unfold val; rw [h]; rfl
/-- The darts of u lead to what is met, no further than one on. -/
def Onward (es : List (Int × Int)) (shut : Int) (f : Int → Option Int) (u : Int) (l : List Int) : Prop := ∀ d ∈ l, head es d ≠ shut → ∃ k, f (head es d) = some k ∧ k ≤ val f u + 1

/-- What a search by distance keeps: ms: what has been met, in that order; of the first p the darts have been followed. -/
structure RI (es : List (Int × Int)) (xs : List Int) (shut a : Int) (vs : List Int) (f : Int → Option Int) (ms : List Int) (p : Nat) : Prop where
  nodup : ms.Nodup
  mem : ∀ u, u ∈ ms ↔ (f u).isSome = true
  sub : ∀ u ∈ ms, u ∈ vs
  start : f a = some 0
  way : ∀ u k, f u = some k → ∃ n : Nat, k = n ∧ Way es xs shut a n u
  sorted : ms.Pairwise fun x y => val f x ≤ val f y
  done : ∀ u ∈ ms.take p, Onward es shut f u (dartsOf es u xs)
  small : ∀ u ∈ ms, val f u < ms.length

theorem RI.some_ {ms : List Int} {p : Nat} (h : RI es xs shut a vs f ms p) {u : Int} (hu : u ∈ ms) : f u = some (val f u) := by
  obtain ⟨k, hk⟩ := Option.isSome_iff_exists.1 ((h.mem u).1 hu)
  rw [hk, val_of hk]
theorem RI.start_ (ha : a ∈ vs) : RI es xs shut a vs (upd (fun _ => none) a 0) [a] 0 := by
  refine ⟨by simp, fun u => ?_, by simpa using ha, by simp [upd], fun u k hk => ?_, by simp, by simp, fun u hu => ?_⟩
  · unfold upd; split <;> simp [*]
  · unfold upd at hk
    split at hk
    · injection hk with hk
      subst_vars
      exact ⟨0, by omega, Way.start⟩
    · cases hk
  · rw [List.mem_singleton.1 hu]
    simp [val, upd]
theorem RI.len {ms : List Int} {p : Nat} (h : RI es xs shut a vs f ms p) : ms.length ≤ vs.length := nodup_len h.nodup h.sub
theorem RI.first {ms : List Int} {p : Nat} (h : RI es xs shut a vs f ms p) : a ∈ ms := (h.mem a).2 (by rw [h.start]; rfl)
/-- A vertex is met. -/
theorem RI.meet {ms : List Int} {p : Nat} (h : RI es xs shut a vs f ms p) (hp : p ≤ ms.length) {v d : Int} (hv : v ∈ ms) (hd : d ∈ dartsOf es v xs) (hs : head es d ≠ shut) (hn : f (head es d) = none) (hb : ∀ u ∈ ms, val f u ≤ val f v + 1) (hin : head es d ∈ vs) :
    RI es xs shut a vs (upd f (head es d) (val f v + 1)) (ms ++ [head es d]) p ∧ ∀ u ∈ ms, val (upd f (head es d) (val f v + 1)) u = val f u := by
  have hnot : head es d ∉ ms := fun hm => by have := (h.mem _).1 hm; rw [hn] at this; cases this
  have hval : ∀ u ∈ ms, val (upd f (head es d) (val f v + 1)) u = val f u := fun u hu => by
    have hne : u ≠ head es d := fun e => hnot (e ▸ hu)
    show (upd f (head es d) (val f v + 1) u).getD 0 = _
    unfold upd
    rw [if_neg hne]
    rfl
  have hvn : val (upd f (head es d) (val f v + 1)) (head es d) = val f v + 1 := by
    show (upd f (head es d) (val f v + 1) (head es d)).getD 0 = _
    unfold upd
    rw [if_pos rfl]
    rfl
  refine ⟨⟨?_, fun u => ?_, fun u hu => ?_, ?_, fun u k hk => ?_, ?_, fun u hu => ?_, fun u hu => ?_⟩, hval⟩
  · exact List.nodup_append.2 ⟨h.nodup, by simp, fun x hx y hy e => by rw [List.mem_singleton] at hy; subst hy; exact hnot (e ▸ hx)⟩
  · rw [List.mem_append, List.mem_singleton]
    unfold upd
    split
    · simp [*]
    · rw [h.mem u]; simp [*]
  · rcases List.mem_append.1 hu with hu | hu
    · exact h.sub u hu
    · rw [List.mem_singleton] at hu; subst hu; exact hin
  · have hne : a ≠ head es d := fun e => hnot (e ▸ h.first)
    unfold upd
    rw [if_neg hne]
    exact h.start
  · unfold upd at hk
    split at hk
    · rename_i e
      injection hk with hk
      obtain ⟨n, hn', hw⟩ := h.way v _ (h.some_ hv)
      exact ⟨n + 1, by omega, e ▸ hw.step hd hs⟩
    · exact h.way u k hk
  · rw [List.pairwise_append]
    refine ⟨h.sorted.imp_of_mem fun hx hy hxy => by rw [hval _ hx, hval _ hy]; exact hxy, by simp, fun x hx y hy => ?_⟩
    rw [List.mem_singleton] at hy
    subst hy
    rw [hvn, hval x hx]
    exact hb x hx
  · rw [List.take_append_of_le_length hp] at hu
    have hum := List.mem_of_mem_take hu
    intro d' hd' hs'
    obtain ⟨k, hk, hle⟩ := h.done u hu d' hd' hs'
    refine ⟨k, ?_, by rw [hval u hum]; exact hle⟩
    unfold upd
    rw [if_neg]
    · exact hk
    · intro e
      rw [e, hn] at hk
      cases hk
  · rw [List.length_append, List.length_singleton]
    rcases List.mem_append.1 hu with hu | hu
    · rw [hval u hu]
      have := h.small u hu
      omega
    · rw [List.mem_singleton.1 hu, hvn]
      have := h.small v hv
      omega
/-- One dart more has been followed. -/
theorem Onward.snoc {u : Int} {l : List Int} {d : Int} (h : Onward es shut f u l) (hd : head es d ≠ shut → ∃ k, f (head es d) = some k ∧ k ≤ val f u + 1) : Onward es shut f u (l ++ [d]) := by
  intro x hx hs
  rcases List.mem_append.1 hx with hx | hx
  · exact h x hx hs
  · rw [List.mem_singleton] at hx; subst hx; exact hd hs
theorem Onward.upd_ {u w k : Int} {l : List Int} (h : Onward es shut f u l) (hn : f w = none) (hv : val (upd f w k) u = val f u) : Onward es shut (upd f w k) u l := by
  intro x hx hs
  obtain ⟨k', hk, hle⟩ := h x hx hs
  refine ⟨k', ?_, by rw [hv]; exact hle⟩
  unfold upd
  rw [if_neg]
  · exact hk
  · intro e; rw [e, hn] at hk; cases hk
/-- All darts of one vertex more have been followed. -/
theorem RI.next {ms : List Int} {p : Nat} (h : RI es xs shut a vs f ms p) {v : Int} (hp : p < ms.length) (hv : ms.getD p 0 = v) (ho : Onward es shut f v (dartsOf es v xs)) : RI es xs shut a vs f ms (p + 1) := by
  refine ⟨h.nodup, h.mem, h.sub, h.start, h.way, h.sorted, fun u hu => ?_, h.small⟩
  rw [take_getD hp hv] at hu
  rcases List.mem_append.1 hu with hu | hu
  · exact h.done u hu
  · rw [List.mem_singleton] at hu; subst hu; exact ho
/-- What is met is no further than one on from the one whose turn it is. -/
theorem RI.bound {ms : List Int} {p : Nat} (h : RI es xs shut a vs f ms p) {v : Int} (hb : ∀ u ∈ ms, val f u ≤ val f v + 1) (hp : p < ms.length) (hv : ms.getD p 0 = v) (hp1 : p + 1 < ms.length) : ∀ u ∈ ms, val f u ≤ val f (ms.getD (p + 1) 0) + 1 := by
  intro u hu
  have h1 := List.pairwise_iff_getElem.1 h.sorted p (p + 1) hp hp1 (by omega)
  rw [getD_idx hp] at hv
  rw [getD_idx hp1]
  rw [hv] at h1
  have := hb u hu
  omega
theorem RI.dist {ms : List Int} (h : RI es xs shut a vs f ms ms.length) : Dist es xs shut a f := by
  refine ⟨h.start, h.way, fun u k d hk hd hs => ?_⟩
  have hu : u ∈ ms := (h.mem u).2 (by rw [hk]; rfl)
  obtain ⟨k', hk', hle⟩ := h.done u (by rw [List.take_length]; exact hu) d hd hs
  rw [val_of hk] at hle
  exact ⟨k', hk', hle⟩
end
/-- The ends of the darts of a right part are its vertices. -/
theorem head_in {N : Int} {es : List (Int × Int)} {vs xs : List Int} (hp : POK N es vs xs) {d : Int} (hd : d / 2 ∈ xs) : head es d ∈ vs ∧ tail es d ∈ vs := by
  have h := hp.ends _ hd
  have key : ∀ e : Int, e / 2 = d / 2 → tail es e ∈ vs := fun e he => by
    unfold tail
    rw [he]
    split
    · exact h.1
    · exact h.2
  exact ⟨key _ (twin_half d), key d rfl⟩
end Go.Proofs.Ythobfbnopkbniaa
end
