/-
  The contract of walk.reach, for parts that are right. No conditions on the program.
-/
import Derived.Test.YthobfbnopkbniaaWLeave
import Derived.Test.YthobfbnopkbniaaWPlain
import Derived.Deep.LoopGhost
namespace Go.Proofs.Ythobfbnopkbniaa
open Go.RowKit

/-- As DM, the rows below block B. -/
def DB (w : World) (B b : Nat) (D : Int → List Int) : Prop := b < B ∧ ∃ n F, MV w b n F ∧ ∀ k, I64 k → ∃ A m c, (F k).getD (.slice none 0 0) = .slice A m c ∧ IS w B A m c (D k)
theorem DM.db {w : World} {b : Nat} {D : Int → List Int} (h : DM w b D) : DB w w.heap.size b D := by
  obtain ⟨n, F, h1, h2⟩ := h
  exact ⟨h1.lt, n, F, h1, h2⟩
theorem DB.below {w w' : World} {B b : Nat} {D : Int → List Int} (h : DB w B b D) (hb : Below B w w') : DB w' B b D := by
  obtain ⟨h0, n, F, h1, h2⟩ := h
  exact ⟨h0, n, F, h1.below hb h0, fun k hk => by
    obtain ⟨A, m, c, e, hi⟩ := h2 k hk
    exact ⟨A, m, c, e, hi.below hb⟩⟩
section
variable {w : World} {B b : Nat} {D : Int → List Int} {ops : Array Oper} {rest : List Oper} {o : Oper} {a : Act} {Q : Exit → Act → World → Prop}
/-- 'm[k]' in such a map. -/
theorem wpList_dbrow (hg : o.guard = none) (m x : Operand) (hop : o.op = Op.lookup 91 m x false) (hm : a.eval m = .map (some b)) (h : DB w B b D) (k : Int) (hx : a.eval x = .int .i64 k) (hk : I64 k)
    (hK : ∀ A n c, IS w B A n c (D k) → wpList Try.prog ops Q rest (a.put o.dst (.slice A n c)) w) : wpList Try.prog ops Q (o :: rest) a w := by
  obtain ⟨_, n, F, h1, h2⟩ := h
  obtain ⟨A, m', c, e, hi⟩ := h2 k hk
  exact wpList_look_aux hg m x 91 25 hop Try.underlying91 (zeroRow w) hm h1 k hx hk _ e (hK A m' c hi)
/-- A map's literal is filled. -/
theorem wpList_iinsert {n : Nat} {g : Int → Option Int} (hg : o.guard = none) (m x v : Operand) (hop : o.op = Op.insert 52 m x v)
    (hm : a.eval m = .map (some b)) (h : MI w b n g) (hn : n < 1000000000000) (k : Int) (hx : a.eval x = .int .i64 k) (hk : I64 k) (u : Int) (hv : a.eval v = .int .i64 u)
    (hK : ∀ w', MI w' b (if (g k).isSome then n else n + 1) (upd g k u) → w.grownBy w' (some b) → wpList Try.prog ops Q rest (a.put o.dst undef) w') : wpList Try.prog ops Q (o :: rest) a w := by
  obtain ⟨w', hrun, h4, h5⟩ := MV.update h hn k hk (.int .i64 u) Try.underlying52
  refine wpList_plain hg fun K' hK' => ?_
  unfold Oper.wp
  simp only [execOp, hop, hm, hx, hv, Sem.run_bind, hrun, Result.andThen_ok, Sem.run_pure]
  refine hK' _ _ (hK w' ?_ h5)
  have e1 : (if ((g k).map (Value.int .i64)).isSome then n else n + 1) = if (g k).isSome then n else n + 1 := by cases g k <;> rfl
  rw [e1] at h4
  exact h4.congr fun j _ => by
    show ((upd g k u) j).map _ = upd _ k _ j
    unfold upd
    split <;> rfl
end
theorem run_makeMap_ints (w : World) : (Instr.makeMap 52 none).run Try.prog w = .ok (.map (some w.heap.size)) (w.alloc (.map #[] 0)) := by
  simp [Instr.makeMap]
theorem int_le_succ (x : Int) : x ≤ x + 1 := by omega
theorem rise_len {l : List Int} {n : Nat} (hp : l.Pairwise (· < ·)) (hr : ∀ x ∈ l, 0 ≤ x ∧ x < n) : l.length ≤ n := by
  have := nodup_len (a := l) (b := upto1 n) (sorted_nodup hp) fun x hx => mem_upto1.2 (hr x hx)
  rwa [upto1_len] at this
theorem POK.lens {N : Int} {es : List (Int × Int)} {vs xs : List Int} (hp : POK N es vs xs) : vs.length ≤ 1024 ∧ xs.length ≤ 1024 ∧ N ≤ 1024 := by
  have h1 := hp.size
  have h2 := hp.n0
  have h3 := rise_len hp.vp (n := N.toNat) fun x hx => by have := hp.vr x hx; omega
  have h4 := rise_len hp.xp hp.xr
  omega

/-- The loop over what has been met: gk: so many rounds, at most, are still to come. -/
def ROut (es : List (Int × Int)) (xs : List Int) (shut a : Int) (vs : List Int) (w wr : World) (mb qB qb gk : Nat) (v ok : Value) : Prop :=
  ∃ f ms p, RI es xs shut a vs f ms p ∧ MI wr mb ms.length f ∧ Below w.heap.size w wr ∧
    ((ok = .bool true ∧ ∃ z, v = .int .i64 z ∧ p < ms.length ∧ ms.getD p 0 = z ∧ QI wr qB qb (ms.drop (p + 1)) ∧ (∀ u ∈ ms, val f u ≤ val f z + 1) ∧ p + gk = vs.length + 1) ∨ (ok = .bool false ∧ v = .int .i64 0 ∧ p = ms.length))
/-- The loop over the darts of one. -/
def RIn (es : List (Int × Int)) (xs : List Int) (shut a : Int) (vs : List Int) (w wr : World) (mb qB qb p : Nat) (z : Int) (j : Nat) : Prop :=
  ∃ f ms, RI es xs shut a vs f ms p ∧ MI wr mb ms.length f ∧ Below w.heap.size w wr ∧ p < ms.length ∧ ms.getD p 0 = z ∧ QI wr qB qb (ms.drop (p + 1)) ∧ (∀ u ∈ ms, val f u ≤ val f z + 1) ∧ Onward es shut f z ((dartsOf es z xs).take j)

set_option maxHeartbeats 8000000 in
set_option maxRecDepth 100000 in
theorem reach_any (w : World) (N : Int) (A : Option Addr) (m c : Nat) (es : List (Int × Int)) (vs xs : List Int) (db : Nat) (a shut : Int) (hg : ES w w.heap.size A m c es) (hd : DM w db (fun v => dartsOf es v xs)) (hp : POK N es vs xs) (ha : a ∈ vs) :
    Calls Try.prog 67 #[.agg #[.int .i64 N, .slice A m c], .map (some db), .int .i64 a, .int .i64 shut] w fun e w' =>
      ∃ b f ms, e = .returned (.map (some b)) ∧ MI w' b ms.length f ∧ RI es xs shut a vs f ms ms.length ∧ w.heap.size ≤ b ∧ Below w.heap.size w w' := by
  obtain ⟨w1, hw1, b1, hs1, hcell⟩ := box_one w #[.int .i64 N, .slice A m c] 24
  have c0 : w1.cell? ⟨w.heap.size, 0, none⟩ = some (.int .i64 N) := hcell 0
  have c1 : w1.cell? ⟨w.heap.size, 1, none⟩ = some (.slice A m c) := hcell 1
  have hg1 := hg.step b1
  have hd1 := (hd.step b1).db
  obtain ⟨hvl, hxl, hNl⟩ := hp.lens
  have ha64 : I64 a := by have := hp.vr a ha; exact ⟨by omega, by omega⟩
  have HP := Lib.hid hp
  have HA := Lib.hid ha
  have hmm := run_makeMap_ints
  have hm0 := MI.made w1
  clear hg hd hp ha hcell
  go_enter Try.func67, Try.ntmps67
  go_wp2_with (with_reducible show wpList _ _ _ (Oper.mk none (Op.insert _ _ _ _) _ _ _ _ :: _) _ _; go_must (refine wpList_iinsert rfl _ _ _ rfl rfl hm0 (by omega) a rfl ha64 0 rfl ?_; intro w2 hm2 hg2))
  clear hmm hm0
  obtain ⟨mb, hmb⟩ : ∃ mb, w1.heap.size = mb := ⟨_, rfl⟩
  rw [hmb] at hm2 hg2 ⊢
  have b2 : Below w1.heap.size w1 w2 := ((Below.refl _ _).alloc (Nat.le_refl _) _).grown hg2 (by simp) (fun k hk => by cases hk; omega)
  have hml := hm2.lt
  have hm2' : MI w2 mb [a].length (upd (fun _ => none) a 0) := hm2
  refine (queue_any w2).mono ?_
  rintro e w3 ⟨rfl, hq3, b3⟩
  obtain ⟨qb, hqb⟩ : ∃ qb, w2.heap.size = qb := ⟨_, rfl⟩
  have hm3 := hm2'.below b3 hml
  rw [hqb] at hq3 b3 hml ⊢
  go_wp2_with fail
  refine (put_any w3 qb qb [] a hq3 ha64 (by simp)).mono ?_
  rintro e w4 ⟨rfl, hq4, b4⟩
  have hm4 := hm3.below b4 hml
  go_wp2_with fail
  refine (take_some w4 qb qb a [] hq4 (by simp)).mono ?_
  rintro e w5 ⟨rfl, hq5, b5⟩
  have hm5 := hm4.below b5 hml
  have hqw : w1.heap.size ≤ qb := by rw [← hqb]; exact b2.size
  have H5 : Below w1.heap.size w1 w5 := ((b2.trans (b3.mono hqw)).trans (b4.mono hqw)).trans (b5.mono hqw)
  have hst : ROut es xs shut a vs w1 w5 mb qb qb (vs.length + 1) (.int .i64 a) (.bool true) :=
    ⟨upd (fun _ => none) a 0, [a], 0, RI.start_ HA.out, hm5, H5, .inl ⟨rfl, a, rfl, by simp, rfl, hq5, fun u hu => by rw [List.mem_singleton.1 hu]; exact int_le_succ _, by omega⟩⟩
  have hmbw : w.heap.size ≤ mb := by rw [← hmb]; exact b1.size
  have hmb1 : w1.heap.size ≤ mb := by omega
  have HG := Lib.hid hg1
  have HD := Lib.hid hd1
  have HB1 := Lib.hid b1
  have k0 := Lib.hid c0
  have k1 := Lib.hid c1
  clear hq3 hq4 hq5 hm2 hm2' hm3 hm4 hm5 b2 b3 b4 b5 H5 hg2 hmb hqb hw1 hg1 hd1 b1 c0 c1
  go_wp2
  go_loopg [12, 13] (vs.length + 1) (fun gk v ok wr => ROut es xs shut a vs w1 wr mb qb qb gk v ok)
  case atStart => exact hst
  case round =>
    clear hst
    obtain ⟨f, ms, p, hri, hmi, hbel, hok⟩ := hrel
    rcases hok with ⟨rfl, z, rfl, hpl, hpz, hq, hbd, hgk⟩ | ⟨rfl, rfl, hpl⟩
    · have hzv := hri.sub z (by rw [← hpz, getD_idx hpl]; exact List.getElem_mem hpl)
      have hz64 : I64 z := by have := HP.out.vr z hzv; exact ⟨by omega, by omega⟩
      have hdb := HD.out.below hbel
      have hst : RIn es xs shut a vs w1 wr mb qb qb p z 0 := ⟨f, ms, hri, hmi, hbel, hpl, hpz, hq, hbd, by rw [List.take_zero]; intro d hd; cases hd⟩
      have HBE := Lib.hid hbel
      clear hri hmi hbel hq hbd hpz hpl
      go_wp2_with (with_reducible show wpList _ _ _ (Oper.mk (some 42) _ _ _ _ _ :: _) _ _; go_must (refine wpList_dbrow rfl _ _ rfl rfl hdb z rfl hz64 ?_; intro A3 n3 c3 is3))
      have hn3 := is3.le
      have hc3 := is3.cap
      have HL3 := Lib.hid is3.len
      have is1 : IS w1 w1.heap.size A3 n3 c3 (dartsOf es z xs) := is3.keep fun p hp => (HBE.out.cell hp).symm
      have HZ := Lib.hid hzv
      have HGK := Lib.hid hgk
      clear is3 hdb HBE hzv hgk
      obtain ⟨wo, hwo⟩ : ∃ wo : World, wo = wr := ⟨_, rfl⟩
      rw [← hwo] at hst ⊢
      clear hwo
      go_loopw [44] (fun i wi => ∃ j : Nat, j ≤ n3 ∧ i = .int .i64 j ∧ RIn es xs shut a vs w1 wi mb qb qb p z j) (fun i _ => n3 - (intOf i).toNat)
      case atStart => exact ⟨0, Nat.zero_le _, rfl, hst⟩
      case round =>
        clear hst
        obtain ⟨j, hj, rfl, f, ms, hri, hmi, hbel, hpl, hpz, hq, hbd, hon⟩ := hrel
        by_cases hlt : j < n3
        · obtain ⟨b', o', d, rfl, hb', hdz, hd64, hcd⟩ := (is1.below hbel).get hlt
          have hjl : Hid (j < (dartsOf es z xs).length) := Lib.hid (by rw [HL3.out]; exact hlt)
          have hdm := mem_dartsOf.1 (show d ∈ dartsOf es z xs by rw [← hdz.out, getD_idx hjl.out]; exact List.getElem_mem hjl.out)
          have hdr := HP.out.xr _ hdm.1
          have hgl := HG.out.len
          have hd0 : 0 ≤ d := by omega
          have hd1 : d < 2 * m := by omega
          have c0 := (hbel.cell (p := ⟨w.heap.size, 0, none⟩) hs1).trans k0.out
          have c1 := (hbel.cell (p := ⟨w.heap.size, 1, none⟩) hs1).trans k1.out
          have hgw : ES wr wr.heap.size A m c es := (HG.out.below hbel).more hbel.size
          have hhv := (head_in HP.out hdm.1).1
          have hh64 : I64 (head es d) := by have := HP.out.vr _ hhv; exact ⟨by omega, by omega⟩
          obtain ⟨u, hu⟩ : ∃ u, head es d = u := ⟨_, rfl⟩
          have HU := Lib.hid hu
          rw [hu] at hhv hh64
          have HIS := Lib.hid is1
          have HDM := Lib.hid hdm
          have HRI := Lib.hid hri
          have HON := Lib.hid hon
          have HBD := Lib.hid hbd
          have HPZ := Lib.hid hpz
          have HBE := Lib.hid hbel
          have htk : Hid ((dartsOf es z xs).take (j + 1) = (dartsOf es z xs).take j ++ [d]) := Lib.hid (take_getD hjl.out hdz.out)
          have hml' := hri.len
          clear is1 hdm hri hon hbd hpz hu hdr hgl hbel
          have tgt : Hid (Calls Try.prog 70 #[.agg #[.int .i64 N, .slice A m c], .int .i64 d] wr fun e w' => e = .returned (.int .i64 u) ∧ Below wr.heap.size wr w') := by
            have := target_any wr N A m c es d hgw hd0 hd1
            rw [HU.out] at this
            exact Lib.hid this
          go_wp2_with fail
          refine tgt.out.mono ?_
          rintro e w6 ⟨rfl, b6⟩
          have hm6 : MI w6 mb ms.length f := MV.step hmi b6
          have hq6 := hq.later b6
          have HB6 := Lib.hid (HBE.out.trans (b6.mono HBE.out.size))
          clear hmi hq b6 c0 c1 hgw tgt hcd
          cases hf : f u with
          | some k =>
            have HF := Lib.hid hf
            clear hf
            go_wp2_with (with_reducible show wpList _ _ _ (Oper.mk (some 54) _ _ _ _ _ :: _) _ _; go_must (refine wpList_iok_some (g := f) (k := u) rfl _ _ rfl rfl hm6 rfl hh64 k HF.out ?_))
            go_roundw
            case rel =>
              refine ⟨j + 1, by omega, by go_num, f, ms, HRI.out, hm6, HB6.out, hpl, HPZ.out, hq6, HBD.out, ?_⟩
              rw [htk.out]
              refine HON.out.snoc fun _ => ?_
              rw [HU.out]
              have hum : u ∈ ms := (HRI.out.mem u).2 (by rw [HF.out]; rfl)
              exact ⟨k, HF.out, by have := HBD.out u hum; rw [val_of HF.out] at this; exact this⟩
            case measure => simp [intOf]; omega
          | none =>
            have HF := Lib.hid hf
            clear hf
            by_cases hus : u = shut
            · have hub : (u == shut) = true := by simp [hus]
              have HUS := Lib.hid hus
              clear hus
              go_wp2_with (with_reducible show wpList _ _ _ (Oper.mk (some 54) _ _ _ _ _ :: _) _ _; go_must (refine wpList_iok_none (g := f) (k := u) rfl _ _ rfl rfl hm6 rfl hh64 HF.out ?_))
              go_roundw
              case rel =>
                refine ⟨j + 1, by omega, by go_num, f, ms, HRI.out, hm6, HB6.out, hpl, HPZ.out, hq6, HBD.out, ?_⟩
                rw [htk.out]
                exact HON.out.snoc fun hne => absurd (HU.out.trans HUS.out) hne
              case measure => simp [intOf]; omega
            · have hub : (u == shut) = false := by simp [hus]
              have HUS := Lib.hid hus
              clear hus
              have hzm : z ∈ ms := by rw [← HPZ.out, getD_idx hpl]; exact List.getElem_mem hpl
              have hsm := HRI.out.small z hzm
              have hvn : 0 ≤ val f z := by
                obtain ⟨n', e', _⟩ := HRI.out.way z _ (HRI.out.some_ hzm)
                omega
              obtain ⟨q, hqv⟩ : ∃ q, val f z = q := ⟨_, rfl⟩
              rw [hqv] at hsm hvn
              have HQV := Lib.hid hqv
              have HZM := Lib.hid hzm
              have hFZ : Hid ((f z).getD 0 = q) := Lib.hid hqv
              have hql : q < 1025 := by omega
              have hmn : ms.length < 1000000000000 := by omega
              clear hqv hzm hsm
              go_wp2_with (first
                | (with_reducible show wpList _ _ _ (Oper.mk (some 54) _ _ _ _ _ :: _) _ _; go_must (refine wpList_iok_none (g := f) (k := u) rfl _ _ rfl rfl hm6 rfl hh64 HF.out ?_))
                | (with_reducible show wpList _ _ _ (Oper.mk (some 67) _ _ _ _ _ :: _) _ _; go_must (refine wpList_ilook (g := f) (k := z) rfl _ _ rfl rfl hm6 rfl hz64 q hFZ.out ?_))
                | (with_reducible show wpList _ _ _ (Oper.mk none (Op.mapUpdate _ _ _ _) _ _ _ _ :: _) _ _; go_must (refine wpList_istore (g := f) rfl _ _ _ rfl rfl hm6 hmn u rfl hh64 (q + 1) rfl ?_; intro w7 hm7 hg7)))
              have hq7 := hq6.grown hg7 (.inl hml)
              have hlw := HB6.out.size
              have hlm := hm6.lt
              refine (put_any w7 qb qb (ms.drop (p + 1)) u hq7 hh64 (by rw [List.length_drop]; omega)).mono ?_
              rintro e w8 ⟨rfl, hq8, b8⟩
              have hm8 : MI w8 mb (ms ++ [u]).length (upd f u (q + 1)) := by
                have h1 : (if (f u).isSome then ms.length else ms.length + 1) = (ms ++ [u]).length := by rw [HF.out]; simp
                rw [h1] at hm7
                exact MV.below hm7 b8 hml
              have HB8 : Hid (Below w1.heap.size w1 w8) := Lib.hid ((HB6.out.grown hg7 HB6.out.size (fun k hk => by cases hk; exact hmb1)).trans (b8.mono hqw))
              clear hm6 hm7 hq6 hq7 hg7 b8
              go_wp2
              go_roundw
              case rel =>
                obtain ⟨hri', hval⟩ := HRI.out.meet (Nat.le_of_lt hpl) HZM.out (mem_dartsOf.2 HDM.out) (by rw [HU.out]; exact HUS.out) (by rw [HU.out]; exact HF.out) HBD.out (by rw [HU.out]; exact hhv)
                rw [HU.out, HQV.out] at hri' hval
                have hvz : val (upd f u (q + 1)) z = q := (hval z HZM.out).trans HQV.out
                refine ⟨j + 1, by omega, by go_num, _, ms ++ [u], hri', hm8, HB8.out, by rw [List.length_append]; omega, ?_, ?_, ?_, ?_⟩
                · rw [List.getD_eq_getElem?_getD, List.getElem?_append_left hpl, ← List.getD_eq_getElem?_getD]; exact HPZ.out
                · rw [List.drop_append_of_le_length (by omega)]; exact hq8
                · intro x hx
                  rw [hvz]
                  rcases List.mem_append.1 hx with hx | hx
                  · rw [hval x hx]
                    have := HBD.out x hx
                    rw [HQV.out] at this
                    exact this
                  · rw [List.mem_singleton.1 hx]
                    unfold val upd
                    rw [if_pos rfl]
                    exact Int.le_refl _
                · rw [htk.out]
                  refine (HON.out.upd_ HF.out (hvz.trans HQV.out.symm)).snoc fun _ => ?_
                  rw [HU.out, hvz]
                  exact ⟨q + 1, by unfold upd; rw [if_pos rfl], Int.le_refl _⟩
              case measure => simp [intOf]; omega
        · obtain rfl : j = n3 := by omega
          rw [List.take_of_length_le (Nat.le_of_eq HL3.out)] at hon
          have hri1 := hri.next hpl hpz hon
          have hml' := hri.len
          have HGK' := HGK.out
          by_cases hlast : p + 1 < ms.length
          · have hbd1 := hri.bound hbd hpl hpz hlast
            obtain ⟨z', hz'⟩ : ∃ z', ms.getD (p + 1) 0 = z' := ⟨_, rfl⟩
            rw [drop_getD hlast hz'] at hq
            rw [hz'] at hbd1
            have HRI := Lib.hid hri1
            have HBD := Lib.hid hbd1
            have HZ' := Lib.hid hz'
            clear hri hri1 hbd hbd1 hpz hon hz'
            go_wp2_with fail
            refine (take_some wr qb qb z' (ms.drop (p + 1 + 1)) hq (by rw [List.length_drop]; omega)).mono ?_
            rintro e w6 ⟨rfl, hq6, b6⟩
            have hm6 : MI w6 mb ms.length f := MV.below hmi b6 hml
            have HB6 := Lib.hid (hbel.trans (b6.mono hqw))
            clear hmi hbel b6 hq
            go_wp2
            go_roundg (gk - 1)
            case measure => omega
            case rel => exact ⟨f, ms, p + 1, HRI.out, hm6, HB6.out, .inl ⟨rfl, z', rfl, hlast, HZ'.out, hq6, HBD.out, by omega⟩⟩
          · have hpe : p + 1 = ms.length := by omega
            rw [List.drop_eq_nil_of_le (by omega)] at hq
            have HRI := Lib.hid hri1
            have HPE := Lib.hid hpe
            clear hri hri1 hbd hpz hon hpe hlast
            go_wp2_with fail
            refine (take_none wr qb qb hq).mono ?_
            rintro e w6 ⟨rfl, rfl⟩
            go_wp2
            go_roundg (gk - 1)
            case measure => omega
            case rel => exact ⟨f, ms, p + 1, HRI.out, hmi, hbel, .inr ⟨rfl, rfl, HPE.out⟩⟩
    · subst hpl
      have HR := Lib.hid hri
      have HM := Lib.hid hmi
      have HBE := Lib.hid hbel
      clear hri hmi hbel
      go_wp2
      go_ret
      exact ⟨mb, f, ms, rfl, HM.out, HR.out, hmbw, bstep HB1.out HBE.out⟩
end Go.Proofs.Ythobfbnopkbniaa
