/-
  Regions that draw their order (after XRel), where one extract of a tuple need not come ahead of the tail's first operation, a store: 'q, ok := f()', q a variable in a box. Plain theorems; no conditions.
-/
import Derived.Test.YthobfbnopkbniaaRel
namespace Go.Proofs.Ythobfbnopkbniaa
open Go.RowKit

/-- The operand is not the slot d. -/
def notSlot (d : Tmp) : Operand → Bool
  | .tmp t => t != d
  | _ => true
theorem eval_put_other {d : Tmp} {x : Operand} (h : notSlot d x = true) (a : Act) (v : Value) : (a.put (some d) v).eval x = a.eval x := by
  cases x with
  | tmp t =>
    have hne : t ≠ d := by simpa [notSlot] using h
    simp only [Act.eval, Act.put]
    rw [Array.getD_eq_getD_getElem?, Array.getD_eq_getD_getElem?, Array.getElem?_setIfInBounds_ne (Ne.symm hne)]
  | _ => rfl

section
variable {P : Program} {ops : Array Oper} {md : Region.Mode} {D : List (List Nat)}
def sinkButB (md : Region.Mode) (ops : Array Oper) (n p : Nat) : Bool :=
  (List.range n).all fun i => i == p || (List.range (n + 1)).any fun j => decide (i < j) && (j != p && Region.waitsFor md ops j i)

theorem tail_waits_but {n p : Nat} {listed : Array Bool} (hs : sinkButB md ops n p = true) (hc : chainTB md ops n = true) (hn : n < ops.size) (inv : HeadInv md ops n listed) :
    ∀ (d i : Nat), n - i = d → i < n → i ≠ p → listed.getD i true = false → ∀ t, n ≤ t → t ∉ Region.ready md ops listed := by
  intro d
  induction d using Nat.strongRecOn with
  | _ d ih =>
    intro i hd hi hip hun t ht hr
    obtain ⟨_, ot, hot, hall⟩ := mem_ready.1 hr
    have htlt : t < ops.size := (Array.getElem?_eq_some_iff.1 hot).1
    by_cases htn : t = n
    · subst htn
      have h1 := List.all_eq_true.1 hs i (List.mem_range.2 hi)
      simp only [Bool.or_eq_true, beq_iff_eq] at h1
      obtain ⟨j, hj, hj2⟩ := List.any_eq_true.1 (h1.resolve_left hip)
      simp only [Bool.and_eq_true, decide_eq_true_eq, bne_iff_ne, ne_eq] at hj2
      obtain ⟨oj, hoj, e, he, hb, hon⟩ := Region.waitsFor_spec hj2.2.2
      have hjle : j ≤ t := by have := List.mem_range.1 hj; omega
      by_cases hjt : j = t
      · subst hjt
        have : oj = ot := Option.some.inj (hoj.symm.trans hot)
        subst this
        have h2 := hall e he hb
        rw [hon, getD_both hun] at h2
        cases h2
      · cases hl : listed.getD j false with
        | true =>
          have h2 := inv.closed j oj hoj hl e he hb
          rw [hon, getD_both hun] at h2
          cases h2
        | false =>
          have hjs : j < listed.size := by rw [inv.size]; omega
          exact ih (t - j) (by omega) j rfl (by omega) hj2.2.1 (getD_in hjs hl) t (Nat.le_refl _) hr
    · have h1 := List.all_eq_true.1 hc t (List.mem_range.2 htlt)
      simp only [Bool.or_eq_true, decide_eq_true_eq] at h1
      rcases h1 with h1 | h1
      · omega
      · obtain ⟨j, hj, hj2⟩ := List.any_eq_true.1 h1
        simp only [Bool.and_eq_true, decide_eq_true_eq] at hj2
        obtain ⟨o', ho', e, he, hb, hon⟩ := Region.waitsFor_spec hj2.2
        have hjt := List.mem_range.1 hj
        have : o' = ot := Option.some.inj (ho'.symm.trans hot)
        subst this
        have h2 := hall e he hb
        rw [hon, getD_both (inv.tail j hj2.1 (by omega))] at h2
        cases h2
/-- Of the tail only its first may come. -/
theorem tail_first {n : Nat} {listed : Array Bool} (hc : chainTB md ops n = true) (inv : HeadInv md ops n listed) {t : Nat} (ht : n ≤ t) (hr : t ∈ Region.ready md ops listed) : t = n := by
  obtain ⟨_, ot, hot, hall⟩ := mem_ready.1 hr
  have htlt : t < ops.size := (Array.getElem?_eq_some_iff.1 hot).1
  refine Classical.byContradiction fun htn => ?_
  have h1 := List.all_eq_true.1 hc t (List.mem_range.2 htlt)
  simp only [Bool.or_eq_true, decide_eq_true_eq] at h1
  rcases h1 with h1 | h1
  · omega
  · obtain ⟨j, hj, hj2⟩ := List.any_eq_true.1 h1
    simp only [Bool.and_eq_true, decide_eq_true_eq] at hj2
    obtain ⟨o', ho', e, he, hb, hon⟩ := Region.waitsFor_spec hj2.2
    have hjt := List.mem_range.1 hj
    have : o' = ot := Option.some.inj (ho'.symm.trans hot)
    subst this
    have h2 := hall e he hb
    rw [hon, getD_both (inv.tail j hj2.1 (by omega))] at h2
    cases h2

/-- The first n have come up but p; so has n. -/
def listedBut (ops : Array Oper) (n p : Nat) : Array Bool := (listedN ops (n + 1)).setIfInBounds p false
theorem getD_listedN {n i : Nat} (hn : n ≤ ops.size) (hi : i < ops.size) (b : Bool) : (listedN ops n).getD i b = decide (i < n) := by
  unfold listedN
  rw [Array.getD_eq_getD_getElem?, Array.getElem?_append]
  split
  · rename_i h
    have : i < n := by simpa using h
    simp [this]
  · rename_i h
    have h1 : ¬ i < n := by simpa using h
    have h2 : i - n < ops.size - n := by omega
    simp [h1, h2]
theorem listedN_size {n : Nat} (hn : n ≤ ops.size) : (listedN ops n).size = ops.size := by
  unfold listedN
  simp
  omega
theorem array_getD_ext {a b : Array Bool} (hs : a.size = b.size) (h : ∀ i, i < a.size → a.getD i true = b.getD i true) : a = b := by
  apply Array.ext hs
  intro i h1 h2
  have := h i h1
  simpa [h1, h2] using this

/-- What a region must be. -/
def idleB (md : Region.Mode) (ops : Array Oper) (n p : Nat) (D : List (List Nat)) : Bool :=
  Region.noSelect ops && decide (p < n) && decide (n < ops.size) && backB md ops && waitsB md ops D && dstsB (ops.toList.take n) && sinkButB md ops n p && chainTB md ops n &&
    decide (Region.ready md ops (listedBut ops n p) = [p]) && Region.seqB md ops (ops.size - n) n (listedN ops n)

theorem extract_run (P : Program) (v : Value) (ix : Nat) : (∃ u, ∀ W : World, (Instr.extract v ix).run P W = .ok u W) ∨ (∃ m, ∀ W : World, (Instr.extract v ix).run P W = .halt m W ∧ ∀ x, m ≠ .panic x) := by
  unfold Instr.extract
  split
  · split
    · exact .inl ⟨_, fun W => rfl⟩
    · exact .inr ⟨_, fun W => ⟨rfl, fun x => by simp⟩⟩
  · exact .inr ⟨_, fun W => ⟨rfl, fun x => by simp⟩⟩

theorem getD_setF {a : Array Bool} {i j : Nat} (b : Bool) (h : i ≠ j) : (a.setIfInBounds i b).getD j true = a.getD j true := by
  rw [Array.getD_eq_getD_getElem?, Array.getD_eq_getD_getElem?, Array.getElem?_setIfInBounds_ne h]
theorem listedN_set {n : Nat} (hn : n < ops.size) : (listedN ops n).setIfInBounds n true = listedN ops (n + 1) := by
  refine array_getD_ext (by rw [Array.size_setIfInBounds, listedN_size (by omega), listedN_size (by omega)]) fun i hi => ?_
  rw [Array.size_setIfInBounds, listedN_size (by omega)] at hi
  rw [getD_listedN (by omega) hi]
  by_cases hin : n = i
  · subst hin
    have : n < (listedN ops n).size := by rw [listedN_size (by omega)]; exact hn
    simp [this]
  · rw [getD_set_ne true hin, getD_listedN (by omega) hi]
    simp
    omega
theorem listedBut_set {n p : Nat} (hn : n < ops.size) (hp : p < n) : (listedBut ops n p).setIfInBounds p true = listedN ops (n + 1) := by
  unfold listedBut
  refine array_getD_ext (by simp) fun i hi => ?_
  simp only [Array.size_setIfInBounds] at hi
  rw [listedN_size (by omega)] at hi
  by_cases hin : p = i
  · subst hin
    have : p < (listedN ops (n + 1)).size := by rw [listedN_size (by omega)]; omega
    rw [getD_listedN (by omega) hi]
    simp [this]
    omega
  · rw [getD_set_ne true hin, getD_setF false hin]
theorem listedBut_is {n p : Nat} {listed : Array Bool} (hn : n < ops.size) (hp : p < n) (hs : listed.size = ops.size) (hu : listed.getD p true = false) (hall : ∀ i, i < n → i ≠ p → listed.getD i true = true)
    (htail : ∀ t, n ≤ t → t < ops.size → listed.getD t true = false) : listed.setIfInBounds n true = listedBut ops n p := by
  unfold listedBut
  refine array_getD_ext (by rw [Array.size_setIfInBounds, Array.size_setIfInBounds, listedN_size (by omega), hs]) fun i hi => ?_
  rw [Array.size_setIfInBounds, hs] at hi
  by_cases h1 : n = i
  · subst h1
    rw [getD_setF false (show p ≠ n by omega), getD_listedN (by omega) hi]
    have : n < listed.size := by omega
    simp [this]
  · rw [getD_set_ne true h1]
    by_cases h2 : p = i
    · subst h2
      have : p < (listedN ops (n + 1)).size := by rw [listedN_size (by omega)]; omega
      rw [hu]
      simp [this]
    · rw [getD_setF false h2, getD_listedN (by omega) hi]
      rcases Nat.lt_or_ge i n with h3 | h3
      · rw [hall i h3 (Ne.symm h2)]
        simp
        omega
      · rw [htail i h3 hi]
        simp
        omega

theorem store_step {o : Oper} {T : TypeId} {x y : Operand} {a : Act} {w w1 : World} {K : Act → World → Prop} {Q : Exit → Act → World → Prop} (ho : o.op = .store T x y) (hd : o.dst = none)
    (hrun : (Instr.storeAt T (a.eval x) (a.eval y)).run P w = .ok () w1) (h : K a w1) : o.wp P a w K Q := by
  unfold Oper.wp execOp
  simp only [ho, Sem.run_bind, hrun, Result.andThen_ok, Sem.run_pure]
  simp only [Oper.upon, hd, Act.put]
  exact h
theorem extract_step {o : Oper} {z : Operand} {ix : Nat} {u : Value} {a : Act} {w : World} {K : Act → World → Prop} {Q : Exit → Act → World → Prop} (ho : o.op = .extract z ix)
    (hrun : (Instr.extract (a.eval z) ix).run P w = .ok u w) : o.wp P a w K Q ↔ K (a.put o.dst u) w := by
  unfold Oper.wp execOp
  simp only [ho, Sem.run_bind, hrun, Result.andThen_ok, Sem.run_pure, Oper.upon]

theorem wpAny_idle {w0 : World} {a0 : Act} {n p : Nat} {Rs : List (Value → World → Prop)} {Q : Exit → Act → World → Prop} {d : Tmp} {z x y : Operand} {ix : Nat} {T : TypeId} {op on : Oper}
    (hB : idleB md ops n p D = true) (hlen : Rs.length = n) (hop : ops[p]? = some op) (hopo : op.op = .extract z ix) (hopg : op.guard = none) (hopd : op.dst = some d)
    (hon : ops[n]? = some on) (hono : on.op = .store T x y) (hong : on.guard = none) (hond : on.dst = none) (hx0 : notSlot d x = true) (hy0 : notSlot d y = true)
    (hops : relOps P ops w0 D Rs (ops.toList.take n) a0 0 (ops.toList.take n) Rs)
    (hend : ∀ w, Ext w0 w → relEnd w Rs (ops.toList.take n) a0 fun a' => ∃ w1, (Instr.storeAt T (a'.eval x) (a'.eval y)).run P w = .ok () w1 ∧ wpList P ops Q (ops.toList.drop (n + 1)) a' w1) :
    ∀ (f : Nat) (listed : Array Bool) (w : World) (vs : Nat → Value), HeadInv md ops n listed → unlisted listed n ≤ f → Ext w0 w → (∀ i, i < n → listed.getD i false = true → Kept (Rs.getD i (fun _ _ => True)) (vs i) w) →
      wpAny P md ops Q (f + (ops.size - n)) listed (putAll (ops.toList.take n) a0 0 vs) w := by
  unfold idleB at hB
  simp only [Bool.and_eq_true, decide_eq_true_eq] at hB
  obtain ⟨⟨⟨⟨⟨⟨⟨⟨⟨hsel, hpn⟩, hn⟩, hback⟩, hwaits⟩, hdst⟩, hsink⟩, hch⟩, hready⟩, hseq⟩ := hB
  have htl : (ops.toList.take n).length = n := by simp; omega
  have hdropn : ops.toList.drop n = on :: ops.toList.drop (n + 1) := by
    obtain ⟨h1, h2⟩ := Array.getElem?_eq_some_iff.1 hon
    rw [List.drop_eq_getElem_cons (by simpa using h1)]
    congr 1
  have hseq' : Region.seqB md ops (ops.size - (n + 1)) (n + 1) (listedN ops (n + 1)) = true := by
    rw [show ops.size - n = (ops.size - (n + 1)) + 1 by omega] at hseq
    simp only [Region.seqB, Bool.and_eq_true] at hseq
    rw [← listedN_set hn]
    exact hseq.2
  have onw : ∀ a : Act, Region.wanted on (yielded ops a.tmps) = true := fun a => by simp [Region.wanted, hong]
  have opw : ∀ a : Act, Region.wanted op (yielded ops a.tmps) = true := fun a => by simp [Region.wanted, hopg]
  -- all have come up
  have done : ∀ (listed : Array Bool) (w : World) (vs : Nat → Value), HeadInv md ops n listed → unlisted listed n = 0 → Ext w0 w → (∀ i, i < n → listed.getD i false = true → Kept (Rs.getD i (fun _ _ => True)) (vs i) w) →
      wpAny P md ops Q (ops.size - n) listed (putAll (ops.toList.take n) a0 0 vs) w := by
    intro listed w vs inv h0 hx hf
    have hall := unlisted_zero h0
    have hal : ∀ i, i < n → listed.getD i false = true := fun i hi => by
      have h1 := hall i hi
      have h2 : i < listed.size := by rw [inv.size]; omega
      simp [h2] at h1 ⊢
      exact h1
    obtain ⟨w1, hrun, he⟩ := relEnd_all (ops.toList.take n) Rs 0 a0 vs (by rw [hlen, htl]) (fun j hj => by rw [Nat.zero_add]; rw [htl] at hj; exact hf j hj (hal j hj)) (hend w hx)
    have hll := listed_all inv.size (by omega) hall inv.tail
    rw [hll]
    have := wpAny_of_seq (P := P) (ops := ops) (md := md) (Q' := Q) (ops.toList.drop n) n (listedN ops n) (putAll (ops.toList.take n) a0 0 vs) w (fun j => by simp [List.getElem?_drop]) (by rw [show (ops.toList.drop n).length = ops.size - n by simp]; exact hseq)
      (by rw [hdropn]; unfold wpList; rw [if_pos (onw _)]; exact .inl (store_step hono hond hrun he))
    rwa [show (ops.toList.drop n).length = ops.size - n by simp] at this
  intro f
  induction f with
  | zero =>
    intro listed w vs inv hc hx hf
    rw [Nat.zero_add]
    exact done listed w vs inv (by omega) hx hf
  | succ f ih =>
    intro listed w vs inv hc hx hf
    by_cases h0 : unlisted listed n = 0
    · exact wpAny_add (done listed w vs inv h0 hx hf) _
    · rw [show f + 1 + (ops.size - n) = (f + (ops.size - n)) + 1 by omega]
      obtain ⟨i0, hi0, hu0, hl0⟩ := unlisted_least h0
      -- what an operation of the head that may come yields
      have hone : ∀ i o, i ∈ Region.ready md ops listed → i < n → ops[i]? = some o → ∀ K : Exit → Act → World → Prop, (∀ v w', Ext w w' → Kept (Rs.getD i (fun _ _ => True)) v w' → K .normal ((putAll (ops.toList.take n) a0 0 vs).put o.dst v) w') →
          wpList P ops K [o] (putAll (ops.toList.take n) a0 0 vs) w := by
        intro i o hi hi' ho
        obtain ⟨_, o', ho', hall⟩ := mem_ready.1 hi
        obtain rfl : o = o' := Option.some.inj (ho.symm.trans ho')
        have hget : (ops.toList.take n)[i]? = some o := by
          rw [List.getElem?_take, if_pos hi']
          simpa using ho
        have hD := waits_listed hback hwaits inv.closed (i + 1) i o (by omega) ho hall
        have hpre := relOps_get (ops.toList.take n) Rs 0 i o (by rw [hlen, htl]) hget hops w hx
        rw [Nat.zero_add] at hpre
        exact relPre_all (ops.toList.take n) Rs 0 a0 vs (by rw [hlen, htl]) (fun j hj hm => by
          rw [Nat.zero_add] at hm ⊢
          rw [htl] at hj
          exact hf j hj (hD j hm)) hpre
      have hrdy : ∀ i, i < n → listed.getD i true = false → (∀ j, j < i → listed.getD j true = true) → i ∈ Region.ready md ops listed := fun i hi hu hl => by
        have hlt : i < ops.size := by omega
        have hget : ops[i]? = some ops[i] := Array.getElem?_eq_getElem hlt
        exact mem_ready.2 ⟨hu, _, hget, fun e he hb => by
          have h1 := backB_spec hback hget e he hb
          have h2 := hl _ h1
          have h3 : e.on < listed.size := by rw [inv.size]; omega
          simp [h3] at h2 ⊢
          exact h2⟩
      refine ⟨fun hr => ?_, fun i hi => ?_⟩
      · exfalso
        have := hrdy i0 hi0 hu0 hl0
        rw [hr] at this
        cases this
      · rcases Nat.lt_or_ge i n with hi' | hi'
        · obtain ⟨hun, o, ho, hall⟩ := mem_ready.1 hi
          have hget : (ops.toList.take n)[i]? = some o := by
            rw [List.getElem?_take, if_pos hi']
            simpa using ho
          refine wpOp_of_one ho (hone i o hi hi' ho _ fun v w' hx' hk => ?_)
          show wpAny P md ops Q (f + (ops.size - n)) (listed.setIfInBounds i true) _ w'
          rw [← putAll_put (ops.toList.take n) a0 0 i vs o v (dstsB_spec hdst) hget, Nat.zero_add]
          refine ih _ w' _ (inv.set hi hi') (by have := unlisted_set hun hi'; omega) (hx.trans hx') fun j hj hl => ?_
          by_cases hji : j = i
          · subst hji
            rw [if_pos rfl]
            exact hk
          · rw [if_neg hji]
            rw [getD_set_ne false (Ne.symm hji)] at hl
            exact (hf j hj hl).later hx'
        · obtain rfl : i = n := tail_first hch inv hi' hi
          have hothers : ∀ j, j < i → j ≠ p → listed.getD j true = true := fun j hj hjp => by
            cases hl : listed.getD j true with
            | true => rfl
            | false => exact absurd hi (tail_waits_but hsink hch hn inv _ j rfl hj hjp hl i (Nat.le_refl _))
          have hpu : listed.getD p true = false := by
            have hip : i0 = p := Classical.byContradiction fun hne => by
              rw [hothers i0 hi0 hne] at hu0
              cases hu0
            rw [← hip]
            exact hu0
          have hpr := hrdy p hpn hpu fun j hj => hothers j (by omega) (by omega)
          obtain ⟨u, hu, v, hkv, hputs⟩ : ∃ u, (∀ W : World, (Instr.extract ((putAll (ops.toList.take i) a0 0 vs).eval z) ix).run P W = .ok u W) ∧ ∃ v, Kept (Rs.getD p (fun _ _ => True)) v w ∧ (putAll (ops.toList.take i) a0 0 vs).put op.dst u = (putAll (ops.toList.take i) a0 0 vs).put op.dst v := by
            have h1 := hone p op hpr hpn hop (fun e a' w' => e = .normal ∧ ∃ v, Kept (Rs.getD p (fun _ _ => True)) v w' ∧ a' = (putAll (ops.toList.take i) a0 0 vs).put op.dst v) (fun v w' _ hk => ⟨rfl, v, hk, rfl⟩)
            unfold wpList at h1
            rw [if_pos (opw _)] at h1
            rcases h1 with h1 | ⟨_, a3, w3, h1, _⟩
            · rcases extract_run P ((putAll (ops.toList.take i) a0 0 vs).eval z) ix with ⟨u, hu⟩ | ⟨m, hm⟩
              · rw [extract_step hopo (hu w)] at h1
                obtain ⟨_, v, hk, he⟩ := h1
                exact ⟨u, hu, v, hk, he⟩
              · exfalso
                unfold Oper.wp execOp at h1
                simp only [hopo, Sem.run_bind, (hm w).1, Result.andThen] at h1
                cases m with
                | panic q => exact (hm w).2 q rfl
                | _ => exact h1.elim
            · cases h1
          have hgetp : (ops.toList.take i)[p]? = some op := by
            rw [List.getElem?_take, if_pos hpn]
            simpa using hop
          have he := relEnd_all (ops.toList.take i) Rs 0 a0 (fun j => if j = 0 + p then v else vs j) (by rw [hlen, htl]) (fun j hj => by
            rw [htl] at hj
            rw [Nat.zero_add, Nat.zero_add]
            by_cases hjp : j = p
            · subst hjp
              rw [if_pos rfl]
              exact hkv
            · rw [if_neg hjp]
              have h1 := hothers j hj hjp
              have h2 : j < listed.size := by rw [inv.size]; omega
              exact hf j hj (by simp [h2] at h1 ⊢; exact h1)) (hend w hx)
          rw [putAll_put (ops.toList.take i) a0 0 p vs op v (dstsB_spec hdst) hgetp, ← hputs] at he
          obtain ⟨w1, hrun, hrest⟩ := he
          rw [hopd, eval_put_other hx0, eval_put_other hy0] at hrun
          unfold wpOp
          simp only [hon]
          rw [if_pos (onw _)]
          refine .inl (store_step hono hond hrun ?_)
          rw [listedBut_is hn hpn inv.size hpu hothers inv.tail]
          have hfu : f + (ops.size - i) = f + ((ops.size - (i + 1)) + 1) := by omega
          rw [hfu]
          refine wpAny_add ?_ f
          refine ⟨fun hr => (by rw [hready] at hr; cases hr), fun j hj => ?_⟩
          rw [hready, List.mem_singleton] at hj
          subst hj
          unfold wpOp
          simp only [hop]
          rw [if_pos (opw _)]
          refine .inl ((extract_step hopo (hu w1)).2 ?_)
          rw [listedBut_set hn hpn]
          have := wpAny_of_seq (P := P) (ops := ops) (md := md) (Q' := Q) (ops.toList.drop (i + 1)) (i + 1) (listedN ops (i + 1)) _ w1 (fun j => by simp [List.getElem?_drop]) (by rw [show (ops.toList.drop (i + 1)).length = ops.size - (i + 1) by simp]; exact hseq') hrest
          rwa [show (ops.toList.drop (i + 1)).length = ops.size - (i + 1) by simp] at this
end

/-- The region. -/
theorem wp_region_idle {P : Program} {id : Nat} {Q : Exit → Act → World → Prop} {a : Act} {w : World} {l : List Oper} (n p : Nat) (D : List (List Nat)) (Rs : List (Value → World → Prop)) {d : Tmp} {z x y : Operand} {ix : Nat} {T : TypeId} {op on : Oper}
    (hm : P.follows .mixedOrders = true) (hB : idleB .any l.toArray n p D = true) (hlen : Rs.length = n) (hop : l[p]? = some op) (hopo : op.op = .extract z ix) (hopg : op.guard = none) (hopd : op.dst = some d)
    (hon : l[n]? = some on) (hono : on.op = .store T x y) (hong : on.guard = none) (hond : on.dst = none) (hx0 : notSlot d x = true) (hy0 : notSlot d y = true)
    (hops : relOps P l.toArray w D Rs (l.take n) a 0 (l.take n) Rs)
    (hend : ∀ w', Ext w w' → relEnd w' Rs (l.take n) a fun a' => ∃ w1, (Instr.storeAt T (a'.eval x) (a'.eval y)).run P w' = .ok () w1 ∧ wpList P l.toArray Q (l.drop (n + 1)) a' w1) :
    (Code.region id l.toArray true).wp P Q a w := by
  refine wp_region_any hm ?_
  have hn : n < l.toArray.size := by
    have := hB
    unfold idleB at this
    simp only [Bool.and_eq_true, decide_eq_true_eq] at this
    exact this.1.1.1.1.1.1.1.2
  obtain ⟨vs, hvs⟩ := putAll_self (l.take n) a 0
  have inv0 : HeadInv .any l.toArray n (Array.replicate l.toArray.size false) :=
    ⟨by simp, fun j oj _ hl => (by rw [getD_replicate_false] at hl; cases hl), fun t _ ht => getD_in (by simpa using ht) (getD_replicate_false _ _)⟩
  have hu : ∀ k, unlisted (Array.replicate l.toArray.size false) k ≤ k := fun k => by
    induction k with
    | zero => exact Nat.le_refl _
    | succ k ih => unfold unlisted; split <;> omega
  have := wpAny_idle (P := P) (md := .any) (w0 := w) (a0 := a) (Q := Q) hB hlen (by simpa using hop) hopo hopg hopd (by simpa using hon) hono hong hond hx0 hy0 (by simpa using hops) (fun w' hx => by simpa using hend w' hx) n _ { w with drawn := w.drawn + 1 } vs inv0 (hu n) ⟨rfl, rfl, rfl, Nat.le_refl _, fun _ _ => rfl⟩ (fun i _ hl => by rw [getD_replicate_false] at hl; cases hl)
  rw [show n + (l.toArray.size - n) = l.toArray.size by omega] at this
  simpa [hvs] using this
end Go.Proofs.Ythobfbnopkbniaa
