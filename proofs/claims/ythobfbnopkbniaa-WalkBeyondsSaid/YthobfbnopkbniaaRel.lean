/-
  Regions that draw their order, whose operations read, make memory and call what makes memory: each operation is shown by itself, in whatever later world, from what is known of the operations that it waits for; what is shown must stay true when memory grows. Plain theorems; no conditions.
-/
import Derived.Test.YthobfbnopkbniaaGBase
import Derived.StillTail
namespace Go.Proofs.Ythobfbnopkbniaa
open Go.RowKit

/-- w' is w with memory made besides. -/
def Ext (w w' : World) : Prop := Below w.heap.size w w'
theorem Ext.refl (w : World) : Ext w w := Below.refl _ _
theorem Ext.trans {a b c : World} (h : Ext a b) (k : Ext b c) : Ext a c := bstep h k
theorem Ext.alloc (w : World) (o : Obj) : Ext w (w.alloc o) := (Below.refl _ _).alloc (Nat.le_refl _) _
/-- R holds of v now and later. -/
def Kept (R : Value → World → Prop) (v : Value) (w : World) : Prop := ∀ w', Ext w w' → R v w'
theorem Kept.now {R : Value → World → Prop} {v : Value} {w : World} (h : Kept R v w) : R v w := h w (Ext.refl w)
theorem Kept.later {R : Value → World → Prop} {v : Value} {w w' : World} (h : Kept R v w) (k : Ext w w') : Kept R v w' := fun w'' k' => h w'' (k.trans k')

/-- Each operation's value in its place. -/
def putAll : List Oper → Act → Nat → (Nat → Value) → Act
  | [], a, _, _ => a
  | o :: l, a, k, vs => putAll l (a.put o.dst (vs k)) (k + 1) vs

theorem putAll_congr : ∀ (l : List Oper) (a : Act) (k : Nat) (vs us : Nat → Value), (∀ j, k ≤ j → vs j = us j) → putAll l a k vs = putAll l a k us
  | [], _, _, _, _, _ => rfl
  | o :: l, a, k, vs, us, h => by
    unfold putAll
    rw [h k (Nat.le_refl _)]
    exact putAll_congr l _ _ _ _ fun j hj => h j (by omega)
theorem putAll_comm : ∀ (l : List Oper) (a : Act) (k : Nat) (vs : Nat → Value) (d : Option Tmp) (v : Value), (∀ o ∈ l, ∀ e, d = some e → o.dst ≠ some e) → putAll l (a.put d v) k vs = (putAll l a k vs).put d v
  | [], _, _, _, _, _, _ => rfl
  | o :: l, a, k, vs, d, v, h => by
    unfold putAll
    rw [Act.put_comm a v (vs k) (h o (by simp))]
    exact putAll_comm l _ _ _ _ _ fun o' ho' => h o' (by simp [ho'])
theorem put_put (a : Act) (d : Option Tmp) (u v : Value) : (a.put d u).put d v = a.put d v := by
  cases d with
  | none => rfl
  | some d => simp [Act.put]
theorem put_self (a : Act) (d : Option Tmp) : ∃ v, a.put d v = a := by
  cases d with
  | none => exact ⟨undef, rfl⟩
  | some d =>
    refine ⟨a.tmps.getD d undef, ?_⟩
    obtain ⟨t, f⟩ := a
    show Act.mk _ _ = _
    congr 1
    rcases Nat.lt_or_ge d t.size with h | h
    · simp [h]
      apply Array.ext
      · simp
      · intro i h1 h2
        rw [Array.getElem_setIfInBounds (by simpa using h1)]
        split
        · subst_vars; rfl
        · rfl
    · exact Array.setIfInBounds_eq_of_size_le h
theorem putAll_self : ∀ (l : List Oper) (a : Act) (k : Nat), ∃ vs, putAll l a k vs = a
  | [], _, _ => ⟨fun _ => undef, rfl⟩
  | o :: l, a, k => by
    obtain ⟨v, hv⟩ := put_self a o.dst
    obtain ⟨us, hu⟩ := putAll_self l a (k + 1)
    refine ⟨fun j => if j = k then v else us j, ?_⟩
    unfold putAll
    dsimp only
    rw [if_pos rfl, hv]
    rw [putAll_congr l a (k + 1) _ us fun j hj => if_neg (by omega)]
    exact hu
/-- No two operations have one place. -/
def dstsApart : List Oper → Prop
  | [] => True
  | o :: l => (∀ o' ∈ l, ∀ e, o.dst = some e → o'.dst ≠ some e) ∧ dstsApart l
theorem putAll_put : ∀ (l : List Oper) (a : Act) (k j : Nat) (vs : Nat → Value) (o : Oper) (v : Value), dstsApart l → l[j]? = some o →
    putAll l a k (fun i => if i = k + j then v else vs i) = (putAll l a k vs).put o.dst v
  | [], _, _, _, _, _, _, _, h => by simp at h
  | p :: l, a, k, 0, vs, o, v, hd, h => by
    have : p = o := by simpa using h
    subst this
    unfold putAll
    dsimp only
    rw [if_pos (by omega), putAll_congr l _ (k + 1) _ vs fun j hj => if_neg (by omega)]
    rw [← putAll_comm l (a.put p.dst (vs k)) (k + 1) vs p.dst v hd.1, put_put]
  | p :: l, a, k, j + 1, vs, o, v, hd, h => by
    unfold putAll
    dsimp only
    rw [if_neg (by omega)]
    have := putAll_put l (a.put p.dst (vs k)) (k + 1) j vs o v hd.2 (by simpa using h)
    rw [show k + 1 + j = k + (j + 1) by omega] at this
    exact this
def dstsB : List Oper → Bool
  | [] => true
  | o :: l => (match o.dst with | some e => l.all (fun o' => o'.dst != some e) | none => true) && dstsB l
theorem dstsB_spec : ∀ {l : List Oper}, dstsB l = true → dstsApart l
  | [], _ => trivial
  | o :: l, h => by
    unfold dstsB at h
    rw [Bool.and_eq_true] at h
    refine ⟨fun o' ho' e he => ?_, dstsB_spec h.2⟩
    have h1 := h.1
    rw [he] at h1
    simp only [List.all_eq_true, bne_iff_ne, ne_eq] at h1
    exact h1 o' ho'

/-- An edge leads back. -/
def backB (md : Region.Mode) (ops : Array Oper) : Bool := (List.range ops.size).all fun i => ((ops[i]?).map fun o => o.after.all fun e => decide (e.on < i) || !Region.binds md e).getD true
/-- 'D i': operations for which operation i waits. -/
def waitsB (md : Region.Mode) (ops : Array Oper) (D : List (List Nat)) : Bool := (List.range ops.size).all fun i =>
  (D.getD i []).all fun k => ((ops[i]?).map fun o => o.after.any fun e => Region.binds md e && (e.on == k || (D.getD e.on []).contains k)).getD false
theorem backB_spec {md : Region.Mode} {ops : Array Oper} (h : backB md ops = true) {i : Nat} {o : Oper} (hi : ops[i]? = some o) : ∀ e ∈ o.after, Region.binds md e = true → e.on < i := by
  have hlt : i < ops.size := (Array.getElem?_eq_some_iff.1 hi).1
  have h1 := List.all_eq_true.1 h i (List.mem_range.2 hlt)
  rw [hi] at h1
  simp only [Option.map_some, Option.getD_some, Array.all_eq_true_iff_forall_mem, Bool.or_eq_true, decide_eq_true_eq] at h1
  exact fun e he hb => (h1 e he).resolve_right (by simp [hb])
theorem waitsB_spec {md : Region.Mode} {ops : Array Oper} {D : List (List Nat)} (h : waitsB md ops D = true) {i : Nat} {o : Oper} (hi : ops[i]? = some o) :
    ∀ k ∈ D.getD i [], ∃ e ∈ o.after, Region.binds md e = true ∧ (e.on = k ∨ k ∈ D.getD e.on []) := by
  have hlt : i < ops.size := (Array.getElem?_eq_some_iff.1 hi).1
  have h1 := List.all_eq_true.1 h i (List.mem_range.2 hlt)
  intro k hk
  have h2 := List.all_eq_true.1 h1 k hk
  rw [hi] at h2
  simp only [Option.map_some, Option.getD_some] at h2
  obtain ⟨e, he, hb⟩ := Array.any_eq_true'.1 h2
  rw [Bool.and_eq_true, Bool.or_eq_true] at hb
  refine ⟨e, he, hb.1, ?_⟩
  rcases hb.2 with h3 | h3
  · exact .inl (by simpa using h3)
  · exact .inr (by simpa using h3)

section
variable {P : Program} {ops : Array Oper} {md : Region.Mode} {D : List (List Nat)}
/-- What an operation waits for has come up. -/
theorem waits_listed (hb : backB md ops = true) (hw : waitsB md ops D = true) {listed : Array Bool} (hcl : ∀ j oj, ops[j]? = some oj → listed.getD j false = true → ∀ e ∈ oj.after, Region.binds md e = true → listed.getD e.on false = true) :
    ∀ (n i : Nat) (o : Oper), i < n → ops[i]? = some o → (∀ e ∈ o.after, Region.binds md e = true → listed.getD e.on false = true) → ∀ k ∈ D.getD i [], listed.getD k false = true
  | 0, _, _, h, _, _ => absurd h (by omega)
  | n + 1, i, o, hin, hi, hl => fun k hk => by
    obtain ⟨e, he, hbi, h⟩ := waitsB_spec hw hi k hk
    have h1 := hl e he hbi
    rcases h with rfl | h
    · exact h1
    · have hlt := backB_spec hb hi e he hbi
      have hlo : i < ops.size := (Array.getElem?_eq_some_iff.1 hi).1
      have hj : ops[e.on]? = some ops[e.on] := Array.getElem?_eq_getElem (by omega)
      exact waits_listed hb hw hcl n e.on _ (by omega) hj (fun e' he' hb' => hcl _ _ hj h1 e' he' hb') k h

/-- How many of the first n have not come up. -/
def unlisted (listed : Array Bool) : Nat → Nat
  | 0 => 0
  | n + 1 => unlisted listed n + (if listed.getD n true then 0 else 1)
theorem unlisted_out {listed : Array Bool} {i : Nat} : ∀ {n : Nat}, n ≤ i → unlisted (listed.setIfInBounds i true) n = unlisted listed n
  | 0, _ => rfl
  | n + 1, h => by
    unfold unlisted
    rw [unlisted_out (n := n) (by omega), getD_set_ne true (by omega)]
theorem unlisted_set {listed : Array Bool} {i : Nat} (hu : listed.getD i true = false) : ∀ {n : Nat}, i < n → unlisted (listed.setIfInBounds i true) n + 1 = unlisted listed n
  | 0, h => absurd h (by omega)
  | n + 1, h => by
    unfold unlisted
    by_cases hin : i = n
    · subst hin
      have h1 : (listed.setIfInBounds i true).getD i true = true := by
        rcases Nat.lt_or_ge i listed.size with h' | h'
        · simp [h']
        · simp [Array.getElem?_eq_none h'] at hu
      rw [unlisted_out (Nat.le_refl _), h1, hu]
      simp
    · rw [getD_set_ne true hin]
      have := unlisted_set hu (n := n) (by omega)
      omega
theorem unlisted_zero {listed : Array Bool} : ∀ {n : Nat}, unlisted listed n = 0 → ∀ i, i < n → listed.getD i true = true
  | 0, _, _, h => absurd h (by omega)
  | n + 1, h0, i, hi => by
    unfold unlisted at h0
    by_cases hin : i = n
    · subst hin
      cases hl : listed.getD i true with
      | true => rfl
      | false => rw [hl] at h0; simp at h0
    · exact unlisted_zero (n := n) (by omega) i (by omega)
theorem unlisted_least {listed : Array Bool} : ∀ {n : Nat}, unlisted listed n ≠ 0 → ∃ i, i < n ∧ listed.getD i true = false ∧ ∀ j, j < i → listed.getD j true = true
  | 0, h => absurd rfl h
  | n + 1, h => by
    by_cases h0 : unlisted listed n = 0
    · refine ⟨n, by omega, ?_, unlisted_zero h0⟩
      unfold unlisted at h
      cases hl : listed.getD n true with
      | true => rw [hl] at h; simp [h0] at h
      | false => rfl
    · obtain ⟨i, hi, h1, h2⟩ := unlisted_least h0
      exact ⟨i, by omega, h1, h2⟩

theorem wpAny_more {Q : Exit → Act → World → Prop} : ∀ (f : Nat) (listed : Array Bool) (a : Act) (w : World), wpAny P md ops Q f listed a w → wpAny P md ops Q (f + 1) listed a w
  | 0, _, _, _, h => ⟨fun _ => h.2, fun i hi => by rw [h.1] at hi; cases hi⟩
  | f + 1, _, _, _, h => ⟨h.1, fun i hi => wpOp_mono (fun a w h' => wpAny_more f _ a w h') (h.2 i hi)⟩
theorem wpAny_add {Q : Exit → Act → World → Prop} {g : Nat} {listed : Array Bool} {a : Act} {w : World} (h : wpAny P md ops Q g listed a w) : ∀ f, wpAny P md ops Q (f + g) listed a w
  | 0 => by rw [Nat.zero_add]; exact h
  | f + 1 => by rw [show f + 1 + g = (f + g) + 1 by omega]; exact wpAny_more _ _ _ _ (wpAny_add h f)

/-- The post behind one operation: on, or out as the region's. -/
def onOr (K : Act → World → Prop) (Q : Exit → Act → World → Prop) : Exit → Act → World → Prop
  | .normal, a, w => K a w
  | e, a, w => Q e a w
theorem wpOp_of_one {Q : Exit → Act → World → Prop} {K : Act → World → Prop} {i : Nat} {o : Oper} {a : Act} {w : World} (hi : ops[i]? = some o) (h : wpList P ops (onOr K Q) [o] a w) : wpOp P ops Q i K a w := by
  unfold wpOp
  simp only [hi]
  unfold wpList at h
  split
  · rename_i hw
    rw [if_pos hw] at h
    refine h.imp (fun h => ?_) (fun h => ⟨h.1, h.2⟩)
    unfold Oper.wp at *
    generalize (execOp a.eval o).run P w = r at *
    cases r with
    | ok n w' =>
      cases n <;> simp only [Oper.upon] at h ⊢ <;>
        first
          | exact h
          | exact Calls.mono h (fun e w'' he => by cases e <;> first | exact he)
          | exact Rows.mono h (fun _ _ he => he)
    | halt x w' => cases x <;> simp only [Oper.upon] at h ⊢ <;> exact h
  · rename_i hw
    rw [if_neg hw] at h
    exact h

/-- Facts of the operations in L, each under a letter for its value. -/
def relPre (L : List Nat) (w : World) : Nat → List (Value → World → Prop) → List Oper → Act → (Act → Prop) → Prop
  | k, R :: Rs, o :: l, a, K => ∀ v, (k ∈ L → Kept R v w) → relPre L w (k + 1) Rs l (a.put o.dst v) K
  | _, _, _, a, K => K a
theorem relPre_all {L : List Nat} {w : World} {K : Act → Prop} : ∀ (l : List Oper) (Rs : List (Value → World → Prop)) (k : Nat) (a : Act) (vs : Nat → Value), Rs.length = l.length →
    (∀ j, j < l.length → k + j ∈ L → Kept (Rs.getD j (fun _ _ => True)) (vs (k + j)) w) → relPre L w k Rs l a K → K (putAll l a k vs)
  | [], [], _, _, _, _, _, h => h
  | [], _ :: _, _, _, _, hl, _, _ => by simp at hl
  | _ :: _, [], _, _, _, hl, _, _ => by simp at hl
  | o :: l, R :: Rs, k, a, vs, hl, hf, h => by
    unfold putAll
    refine relPre_all l Rs (k + 1) _ vs (by simpa using hl) (fun j hj hm => ?_) (h (vs k) fun hm => ?_)
    · have := hf (j + 1) (by simpa using hj) (by rw [show k + (j + 1) = k + 1 + j by omega]; exact hm)
      rw [show k + (j + 1) = k + 1 + j by omega] at this
      exact this
    · exact hf 0 (by simp) hm
/-- The same of all operations. -/
def relEnd (w : World) : List (Value → World → Prop) → List Oper → Act → (Act → Prop) → Prop
  | R :: Rs, o :: l, a, K => ∀ v, Kept R v w → relEnd w Rs l (a.put o.dst v) K
  | _, _, a, K => K a
theorem relEnd_all {w : World} {K : Act → Prop} : ∀ (l : List Oper) (Rs : List (Value → World → Prop)) (k : Nat) (a : Act) (vs : Nat → Value), Rs.length = l.length →
    (∀ j, j < l.length → Kept (Rs.getD j (fun _ _ => True)) (vs (k + j)) w) → relEnd w Rs l a K → K (putAll l a k vs)
  | [], [], _, _, _, _, _, h => h
  | [], _ :: _, _, _, _, hl, _, _ => by simp at hl
  | _ :: _, [], _, _, _, hl, _, _ => by simp at hl
  | o :: l, R :: Rs, k, a, vs, hl, hf, h => by
    unfold putAll
    refine relEnd_all l Rs (k + 1) _ vs (by simpa using hl) (fun j hj => ?_) (h (vs k) (hf 0 (by simp)))
    have := hf (j + 1) (by simpa using hj)
    rw [show k + (j + 1) = k + 1 + j by omega] at this
    exact this
/-- What is asked of each operation. -/
def relOps (P : Program) (ops : Array Oper) (w0 : World) (D : List (List Nat)) (Rs : List (Value → World → Prop)) (head : List Oper) (a : Act) : Nat → List Oper → List (Value → World → Prop) → Prop
  | i, o :: l, R :: Rl => (∀ w, Ext w0 w → relPre (D.getD i []) w 0 Rs head a fun a' => ∀ K : Exit → Act → World → Prop, (∀ v w', Ext w w' → Kept R v w' → K .normal (a'.put o.dst v) w') → wpList P ops K [o] a' w) ∧ relOps P ops w0 D Rs head a (i + 1) l Rl
  | _, _, _ => True
theorem relOps_get {w0 : World} {Rs : List (Value → World → Prop)} {head : List Oper} {a : Act} : ∀ (l : List Oper) (Rl : List (Value → World → Prop)) (k j : Nat) (o : Oper), Rl.length = l.length → l[j]? = some o → relOps P ops w0 D Rs head a k l Rl →
    ∀ w, Ext w0 w → relPre (D.getD (k + j) []) w 0 Rs head a fun a' => ∀ K : Exit → Act → World → Prop, (∀ v w', Ext w w' → Kept (Rl.getD j (fun _ _ => True)) v w' → K .normal (a'.put o.dst v) w') → wpList P ops K [o] a' w
  | [], _, _, _, _, _, h, _ => by simp at h
  | _ :: _, [], _, _, _, hl, _, _ => by simp at hl
  | p :: l, R :: Rl, k, 0, o, _, h, hh => by
    have : p = o := by simpa using h
    subst this
    exact hh.1
  | p :: l, R :: Rl, k, j + 1, o, hl, h, hh => by
    have := relOps_get l Rl (k + 1) j o (by simpa using hl) (by simpa using h) hh.2
    rw [show k + 1 + j = k + (j + 1) by omega] at this
    exact this

/-- What waits for a later one of the tail waits for all of the head. -/
def chainTB (md : Region.Mode) (ops : Array Oper) (n : Nat) : Bool :=
  (List.range ops.size).all fun t => decide (t ≤ n) || (List.range t).any fun j => decide (n ≤ j) && Region.waitsFor md ops t j
theorem tail_waits_rel {n : Nat} {listed : Array Bool} (hs : Region.sinkB md ops n = true) (hc : chainTB md ops n = true) (inv : HeadInv md ops n listed) :
    ∀ (d i : Nat), n - i = d → i < n → listed.getD i true = false → ∀ t, n ≤ t → t ∉ Region.ready md ops listed := by
  intro d
  induction d using Nat.strongRecOn with
  | _ d ih =>
    intro i hd hi hun t ht hr
    obtain ⟨_, ot, hot, hall⟩ := mem_ready.1 hr
    have htlt : t < ops.size := (Array.getElem?_eq_some_iff.1 hot).1
    by_cases htn : t = n
    · subst htn
      have h1 := List.all_eq_true.1 hs i (List.mem_range.2 hi)
      obtain ⟨j, hj, hj2⟩ := List.any_eq_true.1 h1
      simp only [Bool.and_eq_true, decide_eq_true_eq] at hj2
      obtain ⟨oj, hoj, e, he, hb, hon⟩ := Region.waitsFor_spec hj2.2
      have hjle : j ≤ t := by have := List.mem_range.1 hj; omega
      by_cases hjt : j = t
      · subst hjt
        have : oj = ot := Option.some.inj (hoj.symm.trans hot)
        subst this
        have h2 := hall e he hb
        rw [hon, getD_both hun] at h2
        cases h2
      · cases hl : listed.getD j false with
        | true =>
          have h2 := inv.closed j oj hoj hl e he hb
          rw [hon, getD_both hun] at h2
          cases h2
        | false =>
          have hjs : j < listed.size := by rw [inv.size]; omega
          exact ih (t - j) (by omega) j rfl (by omega) (getD_in hjs hl) t (Nat.le_refl _) hr
    · have h1 := List.all_eq_true.1 hc t (List.mem_range.2 htlt)
      simp only [Bool.or_eq_true, decide_eq_true_eq] at h1
      rcases h1 with h1 | h1
      · omega
      · obtain ⟨j, hj, hj2⟩ := List.any_eq_true.1 h1
        simp only [Bool.and_eq_true, decide_eq_true_eq] at hj2
        obtain ⟨o', ho', e, he, hb, hon⟩ := Region.waitsFor_spec hj2.2
        have hjt := List.mem_range.1 hj
        have : o' = ot := Option.some.inj (ho'.symm.trans hot)
        subst this
        have h2 := hall e he hb
        rw [hon, getD_both (inv.tail j hj2.1 (by omega))] at h2
        cases h2

/-- What a region must be. -/
def relB (md : Region.Mode) (ops : Array Oper) (n : Nat) (D : List (List Nat)) : Bool :=
  Region.noSelect ops && decide (n ≤ ops.size) && (decide (n = ops.size) || (Region.sinkB md ops n && chainTB md ops n)) && backB md ops && waitsB md ops D && dstsB (ops.toList.take n)
/-- The first n have come up. -/
def listedN (ops : Array Oper) (n : Nat) : Array Bool := (Array.replicate n true) ++ (Array.replicate (ops.size - n) false)

theorem listed_all {listed : Array Bool} {n m : Nat} (hs : listed.size = m) (hn : n ≤ m) (h1 : ∀ i, i < n → listed.getD i true = true) (h2 : ∀ t, n ≤ t → t < m → listed.getD t true = false) :
    listed = (Array.replicate n true) ++ (Array.replicate (m - n) false) := by
  apply Array.ext
  · simp; omega
  · intro i hi hi'
    rcases Nat.lt_or_ge i n with h | h
    · have := h1 i h
      rw [Array.getElem_append_left (by simpa using h)]
      simp [hi] at this ⊢
      exact this
    · have := h2 i h (by omega)
      rw [Array.getElem_append_right (by simpa using h)]
      simp [hi] at this ⊢
      exact this

theorem wpAny_rel {w0 : World} {a0 : Act} {n : Nat} {Rs : List (Value → World → Prop)} {Q : Exit → Act → World → Prop} (hB : relB md ops n D = true) (hlen : Rs.length = n)
    (hops : relOps P ops w0 D Rs (ops.toList.take n) a0 0 (ops.toList.take n) Rs) (hend : ∀ w, Ext w0 w → relEnd w Rs (ops.toList.take n) a0 fun a' => wpAny P md ops Q (ops.size - n) (listedN ops n) a' w) :
    ∀ (f : Nat) (listed : Array Bool) (w : World) (vs : Nat → Value), HeadInv md ops n listed → unlisted listed n ≤ f → Ext w0 w → (∀ i, i < n → listed.getD i false = true → Kept (Rs.getD i (fun _ _ => True)) (vs i) w) →
      wpAny P md ops Q (f + (ops.size - n)) listed (putAll (ops.toList.take n) a0 0 vs) w := by
  unfold relB at hB
  simp only [Bool.and_eq_true, Bool.or_eq_true, decide_eq_true_eq] at hB
  obtain ⟨⟨⟨⟨⟨hsel, hn⟩, htail⟩, hback⟩, hwaits⟩, hdst⟩ := hB
  have htl : (ops.toList.take n).length = n := by simp; omega
  -- all have come up
  have done : ∀ (listed : Array Bool) (w : World) (vs : Nat → Value), HeadInv md ops n listed → unlisted listed n = 0 → Ext w0 w → (∀ i, i < n → listed.getD i false = true → Kept (Rs.getD i (fun _ _ => True)) (vs i) w) →
      wpAny P md ops Q (ops.size - n) listed (putAll (ops.toList.take n) a0 0 vs) w := by
    intro listed w vs inv h0 hx hf
    have hall := unlisted_zero h0
    have hal : ∀ i, i < n → listed.getD i false = true := fun i hi => by
      have h1 := hall i hi
      have h2 : i < listed.size := by rw [inv.size]; omega
      simp [h2] at h1 ⊢
      exact h1
    have he := relEnd_all (ops.toList.take n) Rs 0 a0 vs (by rw [hlen, htl]) (fun j hj => by rw [Nat.zero_add]; rw [htl] at hj; exact hf j hj (hal j hj)) (hend w hx)
    have hll := listed_all inv.size hn hall inv.tail
    rw [hll]
    exact he
  intro f
  induction f with
  | zero =>
    intro listed w vs inv hc hx hf
    rw [Nat.zero_add]
    exact done listed w vs inv (by omega) hx hf
  | succ f ih =>
    intro listed w vs inv hc hx hf
    by_cases h0 : unlisted listed n = 0
    · exact wpAny_add (done listed w vs inv h0 hx hf) _
    · rw [show f + 1 + (ops.size - n) = (f + (ops.size - n)) + 1 by omega]
      obtain ⟨i0, hi0, hu0, hl0⟩ := unlisted_least h0
      have hin : ∀ i ∈ Region.ready md ops listed, i < n := by
        intro i hi
        rcases htail with h | ⟨hs, hch⟩
        · obtain ⟨_, o, ho, _⟩ := mem_ready.1 hi
          have := (Array.getElem?_eq_some_iff.1 ho).1
          omega
        · rcases Nat.lt_or_ge i n with h | h
          · exact h
          · exact absurd hi (tail_waits_rel hs hch inv _ i0 rfl hi0 hu0 i h)
      refine ⟨fun hr => ?_, fun i hi => ?_⟩
      · exfalso
        have hlt : i0 < ops.size := by omega
        have hget : ops[i0]? = some ops[i0] := Array.getElem?_eq_getElem hlt
        have : i0 ∈ Region.ready md ops listed := mem_ready.2 ⟨hu0, _, hget, fun e he hb => by
          have h1 := backB_spec hback hget e he hb
          have h2 := hl0 _ h1
          have h3 : e.on < listed.size := by rw [inv.size]; omega
          simp [h3] at h2 ⊢
          exact h2⟩
        rw [hr] at this
        cases this
      · have hi' := hin i hi
        obtain ⟨hun, o, ho, hall⟩ := mem_ready.1 hi
        have hget : (ops.toList.take n)[i]? = some o := by
          rw [List.getElem?_take, if_pos hi']
          simpa using ho
        have hD := waits_listed hback hwaits inv.closed (i + 1) i o (by omega) ho hall
        have hpre := relOps_get (ops.toList.take n) Rs 0 i o (by rw [hlen, htl]) hget hops w hx
        rw [Nat.zero_add] at hpre
        have hone := relPre_all (ops.toList.take n) Rs 0 a0 vs (by rw [hlen, htl]) (fun j hj hm => by
          rw [Nat.zero_add] at hm ⊢
          rw [htl] at hj
          exact hf j hj (hD j hm)) hpre
        refine wpOp_of_one ho (hone _ fun v w' hx' hk => ?_)
        show wpAny P md ops Q (f + (ops.size - n)) (listed.setIfInBounds i true) _ w'
        rw [← putAll_put (ops.toList.take n) a0 0 i vs o v (dstsB_spec hdst) hget, Nat.zero_add]
        refine ih _ w' _ (inv.set hi hi') (by have := unlisted_set hun hi'; omega) (hx.trans hx') fun j hj hl => ?_
        by_cases hji : j = i
        · subst hji
          rw [if_pos rfl]
          exact hk
        · rw [if_neg hji]
          rw [getD_set_ne false (Ne.symm hji)] at hl
          exact (hf j hj hl).later hx'
end

/-- The region. -/
theorem wp_region_rel {P : Program} {id : Nat} {Q : Exit → Act → World → Prop} {a : Act} {w : World} {l : List Oper} (n : Nat) (D : List (List Nat)) (Rs : List (Value → World → Prop)) (hm : P.follows .mixedOrders = true) (hB : relB .any l.toArray n D = true) (hlen : Rs.length = n)
    (hops : relOps P l.toArray w D Rs (l.take n) a 0 (l.take n) Rs) (hend : ∀ w', Ext w w' → relEnd w' Rs (l.take n) a fun a' => wpAny P .any l.toArray Q (l.length - n) (listedN l.toArray n) a' w') : (Code.region id l.toArray true).wp P Q a w := by
  refine wp_region_any hm ?_
  have hn : n ≤ l.toArray.size := by
    have := hB
    unfold relB at this
    simp only [Bool.and_eq_true, decide_eq_true_eq] at this
    exact this.1.1.1.1.2
  obtain ⟨vs, hvs⟩ := putAll_self (l.take n) a 0
  have inv0 : HeadInv .any l.toArray n (Array.replicate l.toArray.size false) :=
    ⟨by simp, fun j oj _ hl => (by rw [getD_replicate_false] at hl; cases hl), fun t _ ht => getD_in (by simpa using ht) (getD_replicate_false _ _)⟩
  have hu : ∀ k, unlisted (Array.replicate l.toArray.size false) k ≤ k := fun k => by
    induction k with
    | zero => exact Nat.le_refl _
    | succ k ih => unfold unlisted; split <;> omega
  have := wpAny_rel (P := P) (md := .any) (w0 := w) (a0 := a) (Q := Q) hB hlen (by simpa using hops) (fun w' hx => by simpa using hend w' hx) n _ { w with drawn := w.drawn + 1 } vs inv0 (hu n) ⟨rfl, rfl, rfl, Nat.le_refl _, fun _ _ => rfl⟩ (fun i _ hl => by rw [getD_replicate_false] at hl; cases hl)
  rw [show n + (l.toArray.size - n) = l.toArray.size by omega] at this
  simpa [hvs] using this
/-- Nothing is left behind the head. -/
theorem tail_none {P : Program} {Q : Exit → Act → World → Prop} {a : Act} {w : World} {l : List Oper} {n : Nat} (hB : (decide (n = l.length) && (Region.ready .any l.toArray (listedN l.toArray n)).isEmpty) = true) (h : Q .normal a w) : wpAny P .any l.toArray Q (l.length - n) (listedN l.toArray n) a w := by
  simp only [Bool.and_eq_true, decide_eq_true_eq, List.isEmpty_iff] at hB
  rw [show l.length - n = 0 by omega]
  exact ⟨hB.2, h⟩
/-- What is left reads, in whatever order: one walk of the text's order. -/
theorem tail_quiet {P : Program} {Q : Exit → Act → World → Prop} {a : Act} {w : World} {l : List Oper} {n : Nat} (hB : (Region.noSelect l.toArray && Region.lexFrom .any l.toArray (l.length - n) n (listedN l.toArray n)) = true)
    (h : wpQuiet P l.toArray (fun w' => w' = w) (fun a' => Q .normal a' w) (l.drop n) a) : wpAny P .any l.toArray Q (l.length - n) (listedN l.toArray n) a w := by
  simp only [Bool.and_eq_true] at hB
  have hl : (l.drop n).length = l.length - n := by simp
  have := wpAnyQ_lex (C := fun w' => w' = w) (md := .any) hB.1 (l.drop n) n (listedN l.toArray n) a (fun j => by simp [List.getElem?_drop]) (by rw [hl]; exact hB.2) h
  rw [hl] at this
  exact wpAny_of_quiet (C := fun w' => w' = w) (Q := fun a' => Q .normal a' w) (fun a' w' hw' h' => by subst hw'; exact h') _ _ _ _ rfl this
/-- What is left comes one by one. -/
theorem tail_seq {P : Program} {Q : Exit → Act → World → Prop} {a : Act} {w : World} {l : List Oper} {n : Nat} (hB : Region.seqB .any l.toArray (l.length - n) n (listedN l.toArray n) = true)
    (h : wpList P l.toArray Q (l.drop n) a w) : wpAny P .any l.toArray Q (l.length - n) (listedN l.toArray n) a w := by
  have hl : (l.drop n).length = l.length - n := by simp
  have := wpAny_of_seq (md := .any) (Q' := Q) (l.drop n) n (listedN l.toArray n) a w (fun j => by simp [List.getElem?_drop]) (by rw [hl]; exact hB) h
  rwa [hl] at this
end Go.Proofs.Ythobfbnopkbniaa
