/-
  The contracts of walk.queue, walk.target and walk.leaving, for parts that are right. No conditions on the program.
-/
import Derived.Test.YthobfbnopkbniaaWQueue
import Derived.Test.YthobfbnopkbniaaRNewA
namespace Go.Proofs.Ythobfbnopkbniaa
open Go.RowKit

/-- What puts into, and what takes from, the queue in the variable at block b. -/
abbrev putV (b : Nat) : Value := .func (.func 94) #[] #[.pointer (some ⟨b, 0, none⟩)]
abbrev takeV (b : Nat) : Value := .func (.func 95) #[] #[.pointer (some ⟨b, 0, none⟩)]

set_option maxHeartbeats 1000000 in
theorem queue_any (w : World) : Calls Try.prog 87 #[] w fun e w' => e = .returned (.tuple #[putV w.heap.size, takeV w.heap.size]) ∧ QI w' w.heap.size w.heap.size [] ∧ Below w.heap.size w w' := by
  have hq : QI (w.alloc (.cells #[.slice none 0 0] 25)) w.heap.size w.heap.size [] :=
    ⟨_, heap_alloc_new w _, Nat.le_refl _, none, 0, 0, rfl, rfl, Nat.le_refl _, by omega, by simp, .inl ⟨rfl, rfl⟩⟩
  go_enter Try.func87, Try.ntmps87
  go_wp2
  go_ret2
  exact ⟨rfl, hq, (Below.refl _ _).alloc (Nat.le_refl _) _⟩

set_option maxHeartbeats 1000000 in
/-- The vertex that a dart comes to. -/
theorem target_any (w : World) (N : Int) (A : Option Addr) (m c : Nat) (es : List (Int × Int)) (d : Int) (hg : ES w w.heap.size A m c es) (h0 : 0 ≤ d) (h1 : d < 2 * m) :
    Calls Try.prog 70 #[.agg #[.int .i64 N, .slice A m c], .int .i64 d] w fun e w' => e = .returned (.int .i64 (head es d)) ∧ Below w.heap.size w w' := by
  have hm := hg.le
  have hc := hg.cap
  obtain ⟨q, rfl⟩ := Int.eq_ofNat_of_zero_le h0
  have hq : q / 2 < m := by omega
  obtain ⟨w1, hw1, b1, hs1, hcell⟩ := box_one w #[.int .i64 N, .slice A m c] 24
  have c1 : w1.cell? ⟨w.heap.size, 1, none⟩ = some (.slice A m c) := hcell 1
  obtain ⟨b, o, x, y, rfl, hb, hxy, hx64, hy64, hcx, hcy⟩ := (hg.below b1).get hq
  have hen : Hid (ends es ((q : Int) / 2) = (x, y)) := Lib.hid (by unfold ends; rw [show ((q : Int) / 2).toNat = q / 2 from by omega]; exact hxy.out)
  have HH := Lib.hid hg
  clear hg hcell
  by_cases hp : q % 2 = 0
  · have hp' : ((q : Int) % 2 == 0) = true := by simp; omega
    have ht : Hid (head es (q : Int) = y) := Lib.hid (by
      unfold head tail twin
      rw [if_pos (show (q : Int) % 2 = 0 by omega), if_neg (by omega), show ((q : Int) + 1) / 2 = (q : Int) / 2 by omega, hen.out])
    clear hp
    go_enter Try.func70, Try.ntmps70
    go_wp2
    go_ret
    exact ⟨ret_int ht.out.symm, b1⟩
  · have hp' : ((q : Int) % 2 == 0) = false := by simp; omega
    have ht : Hid (head es (q : Int) = x) := Lib.hid (by
      unfold head tail twin
      rw [if_neg (show ¬ (q : Int) % 2 = 0 by omega), if_pos (by omega), show ((q : Int) - 1) / 2 = (q : Int) / 2 by omega, hen.out])
    clear hp
    go_enter Try.func70, Try.ntmps70
    go_wp2
    go_ret
    exact ⟨ret_int ht.out.symm, b1⟩

/-- Block b is a map with integer keys whose values are slices that read as D says (nil where there is none). -/
def DM (w : World) (b : Nat) (D : Int → List Int) : Prop := ∃ n F, MV w b n F ∧ ∀ k, I64 k → ∃ A m c, (F k).getD (.slice none 0 0) = .slice A m c ∧ IS w w.heap.size A m c (D k)
theorem DM.step {w w' : World} {b : Nat} {D : Int → List Int} (h : DM w b D) (hb : Below w.heap.size w w') : DM w' b D := by
  obtain ⟨n, F, h1, h2⟩ := h
  exact ⟨n, F, MV.step h1 hb, fun k hk => by
    obtain ⟨A, m, c, e, hi⟩ := h2 k hk
    exact ⟨A, m, c, e, hi.step hb⟩⟩
theorem zeroRow (w : World) : (zeroValue 25).run Try.prog w = .ok (.slice none 0 0) w := by kernel_rfl
section
variable {w : World} {b : Nat} {D : Int → List Int} {ops : Array Oper} {rest : List Oper} {o : Oper} {a : Act} {Q : Exit → Act → World → Prop}
/-- 'm[k]' in such a map. -/
theorem wpList_drow (hg : o.guard = none) (m x : Operand) (hop : o.op = Op.lookup 91 m x false) (hm : a.eval m = .map (some b)) (h : DM w b D) (k : Int) (hx : a.eval x = .int .i64 k) (hk : I64 k)
    (hK : ∀ A n c, IS w w.heap.size A n c (D k) → wpList Try.prog ops Q rest (a.put o.dst (.slice A n c)) w) : wpList Try.prog ops Q (o :: rest) a w := by
  obtain ⟨n, F, h1, h2⟩ := h
  obtain ⟨A, m', c, e, hi⟩ := h2 k hk
  exact wpList_look_aux hg m x 91 25 hop Try.underlying91 (zeroRow w) hm h1 k hx hk _ e (hK A m' c hi)
end

/-- .. of the call's own, as it is filled: no two rows lie in one block. -/
structure Grp (w0 w : World) (b : Nat) (D : Int → List Int) (q : Nat) (F : Int → Option Value) : Prop where
  map : ∃ n, MV w b n F ∧ n ≤ q
  rows : ∀ k, I64 k → (F k = none ∧ D k = []) ∨ ∃ v, F k = some v ∧ Own w0 w v (D k) ∧ D k ≠ []
  apart : ∀ k k' v v', I64 k → I64 k' → k ≠ k' → F k = some v → F k' = some v' → v.ownBlock = none ∨ v.ownBlock ≠ v'.ownBlock
  new : w0.heap.size ≤ b
  below : Below w0.heap.size w0 w
section
variable {w0 w : World} {b q : Nat} {D : Int → List Int} {F : Int → Option Value}
theorem Grp.later {w' : World} (h : Grp w0 w b D q F) (hb : Below w.heap.size w w') : Grp w0 w' b D q F := by
  obtain ⟨n, hm, hq⟩ := h.map
  exact ⟨⟨n, MV.step hm hb, hq⟩, fun k hk => (h.rows k hk).imp id fun ⟨v, h1, h2, h3⟩ => ⟨v, h1, h2.later hb, h3⟩, h.apart, h.new, h.below.trans (hb.mono h.below.size)⟩
theorem Grp.start (w : World) : Grp w (w.alloc (.map #[] 0)) w.heap.size (fun _ => []) 0 (fun _ => none) :=
  ⟨⟨0, MV.made w, Nat.le_refl _⟩, fun _ _ => .inl ⟨rfl, rfl⟩, (fun _ _ _ _ _ _ _ h _ => by cases h), Nat.le_refl _, (Below.refl _ _).alloc (Nat.le_refl _) _⟩
theorem Grp.at_ (h : Grp w0 w b D q F) {k : Int} (hk : I64 k) : ∃ v, (F k).getD (.slice none 0 0) = v ∧ Own w0 w v (D k) := by
  rcases h.rows k hk with ⟨h1, h2⟩ | ⟨v, h1, h2, _⟩
  · exact ⟨_, rfl, by rw [h1, h2]; exact Own.start_at h.below⟩
  · exact ⟨_, rfl, by rw [h1]; exact h2⟩
theorem Grp.dm (h : Grp w0 w b D q F) : DM w b D := by
  obtain ⟨n, hm, hq⟩ := h.map
  refine ⟨n, F, hm, fun k hk => ?_⟩
  obtain ⟨v, hv, ho⟩ := h.at_ hk
  obtain ⟨A, m, c, e, hi⟩ := ho.is
  exact ⟨A, m, c, by rw [hv, e], hi⟩
/-- The row at one key is appended to. -/
theorem Grp.mid (h : Grp w0 w b D q F) {k : Int} (hk : I64 k) {v : Value} (hv : (F k).getD (.slice none 0 0) = v) {ob : Obj} {w2 : World} (hg : (w.alloc ob).grownBy w2 v.ownBlock) :
    ∃ n, MV w2 b n F ∧ n ≤ q := by
  obtain ⟨n, hm, hq⟩ := h.map
  obtain ⟨v', hv', ho⟩ := h.at_ hk
  have : v' = v := hv'.symm.trans hv
  subst this
  exact ⟨n, (hm.alloc ob).kept hg (fun e => ho.notMap hm e.symm), hq⟩
theorem Grp.step (h : Grp w0 w b D q F) {k : Int} (hk : I64 k) {v : Value} (hv : (F k).getD (.slice none 0 0) = v) {ob : Obj} {w2 w3 : World} (hg : (w.alloc ob).grownBy w2 v.ownBlock) {v' : Value} {z : Int} (ho : Own w0 w2 v' (D k ++ [z]))
    (hb : v'.ownBlock = v.ownBlock ∨ v'.ownBlock = some (w.heap.size + 1)) {n' : Nat} (hm3 : MV w3 b n' (upd F k v')) (hn' : n' ≤ q + 1) (hg3 : w2.grownBy w3 (some b)) :
    Grp w0 w3 b (fun j => if j = k then D k ++ [z] else D j) (q + 1) (upd F k v') := by
  obtain ⟨v1, hv1, hv0⟩ := h.at_ hk
  have : v1 = v := hv1.symm.trans hv
  subst this
  obtain ⟨n2, hm2, _⟩ := h.mid hk hv hg
  have hkeep : ∀ {u : Value} {ys : List Int}, Own w0 w u ys → (u.ownBlock = none ∨ u.ownBlock ≠ v1.ownBlock) → Own w0 w2 u ys := fun hu hne => (hu.alloc ob).kept hg (fun j hj => (hv0.row.lt j hj).1) hne
  have h3 : ∀ {u : Value} {ys : List Int}, Own w0 w2 u ys → Own w0 w3 u ys := fun hu => hu.kept hg3 (fun j hj => by cases hj; exact h.new) (.inr (hu.notMap hm2))
  have old : ∀ j u, I64 j → j ≠ k → F j = some u → u.ownBlock = none ∨ u.ownBlock ≠ v1.ownBlock := fun j u hj hjk hu => by
    cases hF : F k with
    | none =>
      have e : v1 = .slice none 0 0 := by rw [← hv, hF]; rfl
      subst e
      cases hub : u.ownBlock with
      | none => exact .inl rfl
      | some g => exact .inr (by simp [Value.ownBlock])
    | some x =>
      have e : x = v1 := by rw [← hv, hF]; rfl
      subst e
      exact h.apart j k u x hj hk hjk hu hF
  have fresh : ∀ j u, I64 j → j ≠ k → F j = some u → u.ownBlock = none ∨ u.ownBlock ≠ v'.ownBlock := fun j u hj hjk hu => by
    rcases hb with e | e
    · rw [e]; exact old j u hj hjk hu
    · rcases h.rows j hj with ⟨hn, _⟩ | ⟨x, hx, hox, _⟩
      · rw [hn] at hu; cases hu
      · have : x = u := Option.some.inj (hx.symm.trans hu)
        subst this
        cases hxb : x.ownBlock with
        | none => exact .inl rfl
        | some g =>
          refine .inr fun e' => ?_
          rw [e] at e'
          injection e' with e'
          have := (hox.row.lt g hxb).2
          omega
  refine ⟨⟨n', hm3, hn'⟩, fun j hj => ?_, fun j j' u u' hj hj' hne hu hu' => ?_, h.new, (h3 ho).below⟩
  · by_cases hjk : j = k
    · subst hjk
      refine .inr ⟨v', by simp [upd], ?_, by simp⟩
      rw [if_pos rfl]
      exact h3 ho
    · rw [if_neg hjk]
      rcases h.rows j hj with ⟨h1, h2⟩ | ⟨u, h1, h2, h4⟩
      · exact .inl ⟨by simp [upd, hjk, h1], h2⟩
      · exact .inr ⟨u, by simp [upd, hjk, h1], h3 (hkeep h2 (old j u hj hjk h1)), h4⟩
  · by_cases hjk : j = k
    · subst hjk
      have e : u = v' := by simp [upd] at hu; exact hu.symm
      subst e
      have hF : F j' = some u' := by simpa [upd, Ne.symm hne] using hu'
      cases hub : u.ownBlock with
      | none => exact .inl rfl
      | some g =>
        refine .inr fun e' => ?_
        rcases fresh j' u' hj' (Ne.symm hne) hF with h4 | h4
        · rw [h4] at e'; cases e'
        · exact h4 (by rw [hub]; exact e'.symm)
    · have hF : F j = some u := by simpa [upd, hjk] using hu
      by_cases hjk' : j' = k
      · subst hjk'
        have e : u' = v' := by simp [upd] at hu'; exact hu'.symm
        subst e
        exact fresh j u hj hjk hF
      · exact h.apart j j' u u' hj hj' hne hF (by simpa [upd, hjk'] using hu')
end

/-- The darts of the first edges, one more edge. -/
theorem leave_step (es : List (Int × Int)) (l : List Int) (z : Int) : (fun j => if j = (ends es z).2 then (if (ends es z).2 = (ends es z).1 then dartsOf es (ends es z).1 l ++ [2 * z] else dartsOf es (ends es z).2 l) ++ [2 * z + 1] else if j = (ends es z).1 then dartsOf es (ends es z).1 l ++ [2 * z] else dartsOf es j l) = fun j => dartsOf es j (l ++ [z]) := by
  funext j
  have t1 : tail es (2 * z) = (ends es z).1 := by unfold tail; rw [if_pos (by omega), show (2 * z) / 2 = z by omega]
  have t2 : tail es (2 * z + 1) = (ends es z).2 := by unfold tail; rw [if_neg (by omega), show (2 * z + 1) / 2 = z by omega]
  rw [dartsOf_append]
  simp only [dartsOf, t1, t2, List.append_nil]
  by_cases h2 : j = (ends es z).2
  · subst h2
    rw [if_pos rfl, if_pos rfl]
    by_cases h1 : (ends es z).2 = (ends es z).1
    · rw [if_pos h1, if_pos h1.symm, h1]; simp
    · rw [if_neg h1, if_neg (Ne.symm h1)]; simp
  · rw [if_neg h2, if_neg (Ne.symm h2)]
    by_cases h1 : j = (ends es z).1
    · subst h1
      rw [if_pos rfl, if_pos rfl]; simp
    · rw [if_neg h1, if_neg (Ne.symm h1)]; simp
theorem leave_len (es : List (Int × Int)) (x y z : Int) (l : List Int) : (if y = x then dartsOf es x l ++ [z] else dartsOf es y l).length ≤ 2 * l.length + 1 := by
  split
  · rw [List.length_append]
    have := dartsOf_len es x l
    simp only [List.length_cons, List.length_nil]
    omega
  · have := dartsOf_len es y l
    omega
theorem run_makeMap_rows (w : World) : (Instr.makeMap 91 none).run Try.prog w = .ok (.map (some w.heap.size)) (w.alloc (.map #[] 0)) := by
  simp [Instr.makeMap]

set_option maxHeartbeats 4000000 in
set_option maxRecDepth 100000 in
theorem leaving_any (w : World) (N : Int) (A : Option Addr) (m c : Nat) (es : List (Int × Int)) (Av : Option Addr) (nv cv : Nat) (vs : List Int) (Ae : Option Addr) (ne ce : Nat) (xs : List Int) (h : GP w N A m c es Av nv cv vs Ae ne ce xs) (hp : POK N es vs xs) :
    Calls Try.prog 66 #[.agg #[.int .i64 N, .slice A m c], .agg #[.slice Av nv cv, .slice Ae ne ce]] w fun e w' => ∃ b, e = .returned (.map (some b)) ∧ DM w' b (fun v => dartsOf es v xs) ∧ w.heap.size ≤ b ∧ Below w.heap.size w w' := by
  have hcE := h.e.cap
  have hlE := h.e.le
  have HLE := Lib.hid h.e.len
  obtain ⟨w1, hw1, b1, gb1⟩ := box_gp w N A m c es Av nv cv Ae ne ce
  have h1 := h.step b1
  have ⟨_, _, c0, c1, c2, c3, _⟩ := gb1
  clear h
  have hmm := run_makeMap_rows
  have hst := Grp.start w1
  have HP := Lib.hid hp
  have hne60 : ne ≤ 1024 := by
    have := nodup_len (a := xs) (b := (List.range es.length).map Int.ofNat) (sorted_nodup hp.xp) fun x hx => by
      have := hp.xr x hx
      exact List.mem_map.2 ⟨x.toNat, List.mem_range.2 (by omega), by show ((x.toNat : Nat) : Int) = x; omega⟩
    rw [List.length_map, List.length_range] at this
    have := hp.size
    have := hp.n0
    have := h1.e.len
    omega
  clear hp
  go_enter Try.func66, Try.ntmps66
  go_wp2
  have hgl : gb1.1 = gb1.1 := rfl
  clear hgl hmm
  obtain ⟨mb, hmb⟩ : ∃ mb, w1.heap.size = mb := ⟨_, rfl⟩
  rw [hmb] at hst ⊢
  have hb12 : Below w1.heap.size w1 (w1.alloc (.map #[] 0)) := (Below.refl _ _).alloc (Nat.le_refl _) _
  have hE := h1.e
  have hG := h1.g
  have HMB := Lib.hid hmb
  clear hmb hw1 c0 c1 c2 c3 h1
  go_loopw [14] (fun i wr => ∃ k : Nat, k ≤ ne ∧ i = .int .i64 k ∧ ∃ F, Grp w1 wr mb (fun v => dartsOf es v (xs.take k)) (2 * k) F) (fun i _ => ne - (intOf i).toNat)
  case atStart => exact ⟨0, Nat.zero_le _, rfl, _, by rw [List.take_zero]; exact hst⟩
  case round =>
    obtain ⟨k, hk, rfl, F, inv⟩ := hrel
    have gb3 := gb1.step inv.below
    have ⟨_, _, c0, c1, c2, c3, _⟩ := gb3
    by_cases hlt : k < ne
    · obtain ⟨b, o, z, rfl, hb, hz, hz64, hcz⟩ := (hE.below inv.below).get hlt
      have hkl : Hid (k < xs.length) := Lib.hid (by rw [HLE.out]; exact hlt)
      have hzr := HP.out.xr z (hz.out ▸ hE.mem hlt)
      obtain ⟨q, rfl⟩ := Int.eq_ofNat_of_zero_le hzr.1
      have hml := hG.len
      have hm1024 : m ≤ 1024 := by have := HP.out.size; have := HP.out.n0; omega
      have hqm : q < m := by omega
      obtain ⟨b', o', x, y, rfl, hb', hxy, hx64, hy64, hcx, hcy⟩ := (hG.below inv.below).get hqm
      have hen : Hid (ends es q = (x, y)) := Lib.hid (by unfold ends; rw [Int.toNat_natCast]; exact hxy.out)
      have w2q : IntKind.i64.wrap (2 * (q : Int)) = 2 * (q : Int) := IntWalk.i64_in _ (by omega)
      have w2r : IntKind.i64.wrap (2 * (q : Int) + 1) = 2 * (q : Int) + 1 := IntWalk.i64_in _ (by omega)
      have hq0 : (0 : Int) ≤ (q : Int) := by omega
      have hq1 : (q : Int) < (m : Int) := by omega
      have hmc := hG.cap
      have hmle := hG.le
      have hq64 : I64 (2 * (q : Int)) := ⟨by omega, by omega⟩
      have hr64 : I64 (2 * (q : Int) + 1) := ⟨by omega, by omega⟩
      have HINV := Lib.hid inv
      have GB1 := Lib.hid gb1
      have HEE := Lib.hid hE
      have HGG := Lib.hid hG
      clear inv gb1 hst hzr hml hE hG gb3
      go_wp2
      go_quiet (fail)
      obtain ⟨wd, hwd⟩ : ∃ wd, wr.drewN nq = wd := ⟨_, rfl⟩
      have inv := HINV.out.later ((Drawn.of wr nq).below _)
      rw [hwd] at inv ⊢
      clear hwd c0 c1 c2 c3 hcx hcy hcz
      have hlen : ∀ v, (dartsOf es v (xs.take k)).length ≤ 2 * ne := fun v => by
        have h1 := dartsOf_len es v (xs.take k)
        have h2 : (xs.take k).length ≤ k := List.length_take_le _ _
        omega
      obtain ⟨v1, hv1, ho1⟩ := inv.at_ hx64
      obtain ⟨A1, n1, d1, rfl, _⟩ := ho1.is
      obtain ⟨cnt, hm1, hcnt⟩ := inv.map
      have HV1 := Lib.hid hv1
      have HL := Lib.hid hlen
      have HL1 : Hid ((dartsOf es x (xs.take k)).length + 1 ≤ 1000000000000) := Lib.hid (by have := hlen x; omega)
      have hk1024 : k ≤ 1024 := by omega
      clear hv1 hlen
      go_wp2_with (first
        | (with_reducible show wpList _ _ _ (Oper.mk (some 34) _ _ _ _ _ :: _) _ _; go_must (refine wpList_look_aux rfl _ _ 91 25 rfl Try.underlying91 (zeroRow _) rfl hm1 x rfl hx64 _ HV1.out ?_))
        | (with_reducible show wpList _ _ _ (Oper.mk (some 38) _ _ _ _ _ :: _) _ _; go_must (refine wpList_append_one (v := .slice A1 n1 d1) (w0 := w1) rfl _ _ rfl rfl ho1 _ hq64 rfl HL1.out ?_; intro v2 w2 ho2 hg2 hb2; obtain ⟨A2, n2, d2, rfl, _⟩ := ho2.is; obtain ⟨cnt2, hm2, hcnt2⟩ := inv.mid hx64 HV1.out hg2; have hcnt2' : cnt2 < 1000000000000 := by omega))
        | (with_reducible show wpList _ _ _ (Oper.mk none (Op.mapUpdate _ (Operand.tmp 30) _ _) _ _ _ _ :: _) _ _; go_must (refine wpList_store rfl _ _ _ 91 25 rfl Try.underlying91 rfl hm2 hcnt2' x rfl hx64 _ rfl ?_; intro w3 hm3 hg3; have inv3 := inv.step hx64 HV1.out hg2 ho2 hb2 hm3 (by split <;> omega) hg3; clear hm1 hm2 hm3 ho1 ho2 hg2 hg3 inv; obtain ⟨v3, hv3, ho3⟩ := inv3.at_ hy64; obtain ⟨A3, n3, d3, rfl, _⟩ := ho3.is; obtain ⟨cnt3, hm4, hcnt3⟩ := inv3.map; have HV3 := Lib.hid hv3; have HL3 := Lib.hid (leave_len es x y (2 * (q : Int)) (xs.take k)); clear hv3))
        | (with_reducible show wpList _ _ _ (Oper.mk (some 43) _ _ _ _ _ :: _) _ _; go_must (refine wpList_look_aux rfl _ _ 91 25 rfl Try.underlying91 (zeroRow _) rfl hm4 y rfl hy64 _ HV3.out ?_))
        | (with_reducible show wpList _ _ _ (Oper.mk (some 48) _ _ _ _ _ :: _) _ _; go_must (refine wpList_append_one (v := .slice A3 n3 d3) (w0 := w1) rfl _ _ rfl rfl ho3 _ hr64 rfl (by have h9 := HL3.out; have h8 := hk1024; have h7 : (xs.take k).length ≤ k := List.length_take_le _ _; omega) ?_; intro v4 w4 ho4 hg4 hb4; obtain ⟨A4, n4, d4, rfl, _⟩ := ho4.is; obtain ⟨cnt4, hm5, hcnt4⟩ := inv3.mid hy64 HV3.out hg4; have hcnt4' : cnt4 < 1000000000000 := by omega))
        | (with_reducible show wpList _ _ _ (Oper.mk none (Op.mapUpdate _ (Operand.tmp 39) _ _) _ _ _ _ :: _) _ _; go_must (refine wpList_store rfl _ _ _ 91 25 rfl Try.underlying91 rfl hm5 hcnt4' y rfl hy64 _ rfl ?_; intro w5 hm6 hg5; have inv5 := inv3.step hy64 HV3.out hg4 ho4 hb4 hm6 (by split <;> omega) hg5; clear hm4 hm5 hm6 ho3 ho4 hg4 hg5 inv3)))
      go_roundw
      case rel =>
        have e := leave_step es (xs.take k) (q : Int)
        rw [hen.out, ← take_snoc hkl.out hz.out] at e
        dsimp only at e
        rw [e] at inv5
        exact ⟨k + 1, by omega, by go_num, _, inv5⟩
      case measure => simp [intOf]; omega
    · obtain rfl : k = ne := by omega
      have hdm := inv.dm
      rw [List.take_of_length_le (Nat.le_of_eq HLE.out)] at hdm
      have hbl := Lib.hid (bstep b1 inv.below)
      clear inv
      go_wp2
      go_ret
      exact ⟨mb, rfl, hdm, by have := HMB.out; have := b1.size; omega, hbl.out⟩

end Go.Proofs.Ythobfbnopkbniaa
