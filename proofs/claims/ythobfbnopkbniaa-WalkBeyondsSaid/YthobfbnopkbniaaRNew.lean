/-
  The contract of rota.New, for graphs with at most 60 edges, and parts with at most 60; no other conditions.
-/
import Derived.Test.YthobfbnopkbniaaRNewA
import Derived.Deep.RegionHeld3
namespace Go.Proofs.Ythobfbnopkbniaa
open Go.RowKit

theorem GB.cells {w : World} {gb pb : Nat} {N : Int} {A : Option Addr} {m c : Nat} {es : List (Int × Int)} {Av : Option Addr} {nv cv : Nat} {Ae : Option Addr} {ne ce : Nat} (h : GB w gb pb N A m c es Av nv cv Ae ne ce) :
    w.cell? ⟨gb, 0, none⟩ = some (.int .i64 N) ∧ w.cell? ⟨gb, 1, none⟩ = some (.slice A m c) ∧ w.cell? ⟨pb, 0, none⟩ = some (.slice Av nv cv) ∧ w.cell? ⟨pb, 1, none⟩ = some (.slice Ae ne ce) := ⟨h.2.2.1, h.2.2.2.1, h.2.2.2.2.1, h.2.2.2.2.2.1⟩
/-- The cells that the round reads. -/
structure EdgeCells (w : World) (gb b o q : Nat) (A : Value) (x y : Int) : Prop where
  a : w.cell? ⟨gb, 1, none⟩ = some A
  x : w.cell? ⟨b, o + q * 2, none⟩ = some (.int .i64 x)
  y : w.cell? ⟨b, o + q * 2 + 1, none⟩ = some (.int .i64 y)
theorem EdgeCells.drew {w : World} {gb b o q : Nat} {A : Value} {x y : Int} (h : EdgeCells w gb b o q A x y) : EdgeCells w.drew gb b o q A x y := ⟨h.a, h.x, h.y⟩
theorem EdgeCells.grown {w w' : World} {gb b o q mb : Nat} {A : Value} {x y : Int} (h : EdgeCells w gb b o q A x y) (hg : w.grownBy w' (some mb)) (h1 : gb ≠ mb) (h2 : b ≠ mb) : EdgeCells w' gb b o q A x y :=
  have k1 : ∀ p : Addr, p.block ≠ mb → ∀ v, w.cell? p = some v → w'.cell? p = some v := fun p hp v hv => by
    rw [← hv]
    exact World.cell?_of_block (hg.block _ (World.block_lt_of_cell? w _ hv) (fun e => hp (by injection e)))
  ⟨k1 _ h1 _ h.a, k1 _ h2 _ h.x, k1 _ h2 _ h.y⟩
/-- What New answers. -/
def NewRes (w : World) (N : Int) (es : List (Int × Int)) (vs xs : List Int) (tt : List (List Int)) (e : Ending) (w' : World) : Prop :=
  ((pRight N es vs xs = 0 ∧ TurnOK N es xs tt ∧ ∃ r, e = .returned (.tuple #[.pointer (some ⟨r, 0, none⟩), .int .i64 0]) ∧ RS w' r (lvOf es xs) (tt.map first) (placeN tt tt.length) (allDarts xs)) ∨
    (¬ (pRight N es vs xs = 0 ∧ TurnOK N es xs tt) ∧ e = .returned (.tuple #[.pointer none, .int .i64 (if pRight N es vs xs = 0 then 5 else pRight N es vs xs)]))) ∧ Below w.heap.size w w'
theorem new_no {w w' : World} {N : Int} {es : List (Int × Int)} {vs xs : List Int} {tt : List (List Int)} {r : Int} (hp : pRight N es vs xs = r) (hr : r ≠ 0) (hb : Below w.heap.size w w') : NewRes w N es vs xs tt (.returned (.tuple #[.pointer none, .int .i64 r])) w' :=
  ⟨.inr ⟨fun h => hr (hp.symm.trans h.1), by rw [if_neg (by rw [hp]; exact hr), hp]⟩, hb⟩
theorem new_five {w w' : World} {N : Int} {es : List (Int × Int)} {vs xs : List Int} {tt : List (List Int)} (hp : pRight N es vs xs = 0) (hr : ¬ Turned N es xs tt) (hb : Below w.heap.size w w') : NewRes w N es vs xs tt (.returned (.tuple #[.pointer none, .int .i64 5])) w' :=
  ⟨.inr ⟨fun h => hr ((turned_iff (pRight_ok hp)).2 h.2), by rw [if_pos hp]⟩, hb⟩

set_option maxHeartbeats 4000000 in
set_option maxRecDepth 100000 in
theorem new_any (w : World) (N : Int) (A : Option Addr) (m c : Nat) (es : List (Int × Int)) (Av : Option Addr) (nv cv : Nat) (vs : List Int) (Ae : Option Addr) (ne ce : Nat) (xs : List Int) (At : Option Addr) (nt ct : Nat) (tt : List (List Int)) (h : GP w N A m c es Av nv cv vs Ae ne ce xs) (ht : TS w w.heap.size At nt ct tt) (hm60 : m ≤ 60) (hne60 : ne ≤ 60) :
    Calls Try.prog 19 #[.agg #[.int .i64 N, .slice A m c], .agg #[.slice Av nv cv, .slice Ae ne ce], .slice At nt ct] w (NewRes w N es vs xs tt) := by
  have hn := ht.le
  have hc := ht.cap
  have hcE := h.e.cap
  have hlE := h.e.le
  have HL := Lib.hid ht.len
  have HLE := Lib.hid h.e.len
  obtain ⟨w1, hw1, b1, gb1⟩ := box_gp w N A m c es Av nv cv Ae ne ce
  have h1 := h.step b1
  have t1 := ht.step b1
  have ⟨_, _, c0, c1, c2, c3, _⟩ := gb1
  clear h ht
  obtain ⟨r, hr⟩ : ∃ r, pRight N es vs xs = r := ⟨_, rfl⟩
  have HR := Lib.hid hr
  by_cases hr0 : r = 0
  · subst hr0
    have hp := pRight_ok hr
    clear hr
    by_cases hN : (nt : Int) = N
    · have d : (((nt : Int) != N) = false) := by simp [hN]
      have HN := Lib.hid hN
      clear hN
      go_enter Try.func19, Try.ntmps19
      go_wp2_with fail
      refine (gRightPart_any w1 N A m c es Av nv cv vs Ae ne ce xs h1).mono ?_
      rintro e w2 ⟨rfl, b2⟩
      rw [HR.out]
      have h2 := h1.step b2
      have t2 := t1.step b2
      have gb2 := gb1.step b2
      replace b1 := bstep b1 b2
      clear hw1 h1 t1 c0 c1 c2 c3 gb1 b2
      have ⟨_, _, c0, c1, c2, c3, _⟩ := gb2
      have hmm := run_makeMap_int
      have HP := Lib.hid hp
      clear hp
      go_wp2_with (with_reducible show wpList _ _ _ (Oper.mk (some 42) _ _ _ _ _ :: _) _ _; go_must (refine wpList_make_is rfl _ _ rfl ((Below.refl w2.heap.size w2).alloc (Nat.le_refl _) _) .i64 .i64 _ (2 * ne) rfl rfl (by omega) (by omega) ?_; intro v3 w3 own3 g3 hv3; obtain ⟨k0, k1, k2, k3⟩ := (gb2.step own3.below).cells))
      clear hmm
      obtain ⟨mb, hmb⟩ : ∃ mb, w2.heap.size = mb := ⟨_, rfl⟩
      have hmi3 : MI w3 w2.heap.size (2 * 0) (lvOf es (xs.take 0)) := by
        have := (MI.made w2).kept g3 (by simp)
        rw [List.take_zero, ← lvOf_nil]
        exact this
      rw [hmb] at hmi3
      have hlb : w2.heap.size ≤ mb := by omega
      have hE2 := h2.e
      have hG2 := h2.g
      have H2 := Lib.hid h2
      have T2 := Lib.hid t2
      clear h2 t2 c0 c1 c2 c3 k0 k1 k2 k3
      have own3' : Own w2 w3 v3 (allDarts (xs.take 0)) := own3
      rw [hmb]
      go_loopw [10, 46] (fun v i wr => ∃ k : Nat, k ≤ ne ∧ i = .int .i64 k ∧ Own w2 wr v (allDarts (xs.take k)) ∧ MI wr mb (2 * k) (lvOf es (xs.take k))) (fun _ i _ => ne - (intOf i).toNat)
      case atStart => exact ⟨0, Nat.zero_le _, rfl, own3', hmi3⟩
      case round =>
        obtain ⟨k, hk, rfl, hown, hmi⟩ := hrel
        have gb3 := gb2.step hown.below
        have ⟨_, _, c0, c1, c2, c3, _⟩ := gb3
        by_cases hlt : k < ne
        · obtain ⟨b, o, z, hA, hb, hz, hz64, hcz⟩ := (hE2.below hown.below).get hlt
          subst hA
          have hkl : Hid (k < xs.length) := Lib.hid (by rw [HLE.out]; exact hlt)
          have hzr := HP.out.xr z (hz.out ▸ hE2.mem hlt)
          have hml : es.length = m := hG2.len
          obtain ⟨q, rfl⟩ := Int.eq_ofNat_of_zero_le hzr.1
          have hqm : q < m := by omega
          obtain ⟨b', o', x, y, hA', hb', hxy, hx64, hy64, hcx, hcy⟩ := (hG2.below hown.below).get hqm
          subst hA'
          have hen : ends es q = (x, y) := by unfold ends; rw [Int.toNat_natCast]; exact hxy.out
          have hqn : (q : Int) ∉ xs.take k := not_in_take HP.out.xp hkl.out hz.out
          have w2q : IntKind.i64.wrap (2 * (q : Int)) = 2 * (q : Int) := IntWalk.i64_in _ (by omega)
          have w2r : IntKind.i64.wrap (2 * (q : Int) + 1) = 2 * (q : Int) + 1 := IntWalk.i64_in _ (by omega)
          obtain ⟨y1, st1, wa, wb, r1, r2, m2, g2, g1⟩ := MI.entry (g := lvOf es (xs.take k)) (MV.drewN hmi 1) (by omega) (2 * (q : Int)) ⟨by omega, by omega⟩ x
          rw [lvOf_none (d := 2 * (q : Int)) (by rw [show (2 * (q : Int)) / 2 = q by omega]; exact hqn)] at m2
          obtain ⟨y2, st2, wc, wd, r3, r4, m4, g4, g3'⟩ := m2.entry (by simp; omega) (2 * (q : Int) + 1) ⟨by omega, by omega⟩ y
          have hn2 : upd (lvOf es (xs.take k)) (2 * (q : Int)) x (2 * (q : Int) + 1) = none := by
            unfold upd
            rw [if_neg (by omega)]
            exact lvOf_none (by rw [show (2 * (q : Int) + 1) / 2 = q by omega]; exact hqn)
          rw [hn2] at m4
          have hst : upd (upd (lvOf es (xs.take k)) (2 * (q : Int)) x) (2 * (q : Int) + 1) y = lvOf es (xs.take (k + 1)) := by
            have := lvOf_snoc es (xs.take k) q
            rw [hen] at this
            rw [take_snoc hkl.out hz.out]
            exact this
          rw [hst] at m4
          have hcn : (if (none : Option Int).isSome = true then (if (none : Option Int).isSome = true then 2 * k else 2 * k + 1) else (if (none : Option Int).isSome = true then 2 * k else 2 * k + 1) + 1) = 2 * (k + 1) := by simp; omega
          rw [hcn] at m4
          have hob := Lib.hid (hown.notMap hmi)
          have hod := (hown.drewN 1).kept g2 (fun k' hk' => by cases hk'; exact hlb) (.inr hob.out)
          have hod2 := hod.kept g4 (fun k' hk' => by cases hk'; exact hlb) (.inr hob.out)
          have HOD := Lib.hid hod2
          have hx1 : I64 (2 * (q : Int)) := ⟨by omega, by omega⟩
          have hx2 : I64 (2 * (q : Int) + 1) := ⟨by omega, by omega⟩
          have HM := Lib.hid m4
          have HST := Lib.hid (show allDarts (xs.take (k + 1)) = allDarts (xs.take k) ++ [2 * (q : Int), 2 * (q : Int) + 1] by rw [take_snoc hkl.out hz.out, allDarts_snoc])
          have hlen : (allDarts (xs.take k)).length ≤ 2 * ne := by rw [allDarts_len, List.length_take]; omega
          replace r1 : (Instr.mapEntry 52 (.map (some mb)) (.int .i64 (2 * (q : Int)))).run Try.prog wr.drew = .ok (.tuple #[y1, .int .i64 st1]) wa := r1
          replace r2 : (Instr.entryStore 52 (.map (some mb)) (.int .i64 st1) (.int .i64 x)).run Try.prog wa = .ok () wb := r2
          replace r3 : (Instr.mapEntry 52 (.map (some mb)) (.int .i64 (2 * (q : Int) + 1))).run Try.prog wb = .ok (.tuple #[y2, .int .i64 st2]) wc := r3
          replace r4 : (Instr.entryStore 52 (.map (some mb)) (.int .i64 st2) (.int .i64 y)).run Try.prog wc = .ok () wd := r4
          have eg : (w.heap.size + 1 ≠ mb ∧ w.heap.size ≠ mb) := by omega
          have eb : b' ≠ mb := by omega
          have q0 : EdgeCells wr w.heap.size b' o' q (.slice (some ⟨b', o', none⟩) m c) x y := ⟨c1, hcx, hcy⟩
          have q1 := q0.drew
          have q2 := q1.grown g1 eg.2 eb
          have q3 := q1.grown g2 eg.2 eb
          have q4 := q3.grown g3' eg.2 eb
          have q5 := q3.grown g4 eg.2 eb
          obtain ⟨p1, p2, p3⟩ := q1
          obtain ⟨p4, p5, p6⟩ := q2
          obtain ⟨p7, p8, p9⟩ := q3
          obtain ⟨p10, p11, p12⟩ := q4
          obtain ⟨p13, p14, p15⟩ := q5
          clear hod hod2 m4 m2 g2 g4 g1 g3' hst hcn hn2 hqn hen hown hmi gb3 q0 eg eb
          go_wp2
          go_region_held3 (fun w' => w'.cell? ⟨w.heap.size, 1, none⟩ = some (.slice (some ⟨b', o', none⟩) m c) ∧ w'.cell? ⟨b', o' + q * 2, none⟩ = some (.int .i64 x) ∧ w'.cell? ⟨b', o' + q * 2 + 1, none⟩ = some (.int .i64 y)) (go_keep) (fail)
          go_wp2_with (with_reducible show wpList _ _ _ (Oper.mk (some 80) _ _ _ _ _ :: _) _ _; go_must (refine wpList_append_is (w0 := w2) (v := u10) (xs := allDarts (xs.take k)) (A := some ⟨wd.heap.size, 0, none⟩) (m := 2) (c := 2) rfl _ _ rfl rfl (HOD.out.alloc _) rfl (IS.two wd (2 * (q : Int)) (2 * (q : Int) + 1) hx1 hx2) (by omega) ?_; intro v' we hown' hgr' _))
          go_roundw
          case rel => exact ⟨k + 1, by omega, by go_num, by rw [HST.out]; exact hown', (HM.out.alloc _).kept hgr' (fun e => hob.out e.symm)⟩
          case measure => simp [intOf]; omega
        · obtain rfl : k = ne := by omega
          rw [List.take_of_length_le (Nat.le_of_eq HLE.out)] at hown hmi
          obtain ⟨Ad, nd, cd, rfl, hds⟩ := hown.is
          have hbw := hown.below
          have T3 := Lib.hid (T2.out.step hbw)
          have hmm := run_makeMap_int
          have B1 := Lib.hid (bstep b1 hbw)
          have hmbl := MV.lt hmi
          have HDS := Lib.hid hds
          clear hown hbw gb3 hds c0 c1 c2 c3
          go_wp2_with (with_reducible show wpList _ _ _ (Oper.mk (some 83) _ _ _ _ _ :: _) _ _; go_must (refine wpList_ilen rfl _ rfl rfl hmi ?_))
          clear hmm
          obtain ⟨pb, hpb⟩ : ∃ pb, wr.heap.size = pb := ⟨_, rfl⟩
          have hst : PlaceAt (wr.alloc (.map #[] 0)) pb (placed tt 0 0) := by rw [placed_start, ← hpb]; exact PlaceAt.start wr
          have hbst : Below wr.heap.size wr (wr.alloc (.map #[] 0)) := (Below.refl _ _).alloc (Nat.le_refl _) _
          rw [hpb]
          obtain ⟨wo, hwo⟩ : ∃ wo : World, wo = wr := ⟨_, rfl⟩
          rw [← hwo] at T3 HDS hmi hpb hbst hmbl B1 hst ⊢
          clear hwo
          go_loopw [87] (fun i wi => ∃ v : Nat, v ≤ nt ∧ i = .int .i64 v ∧ Below wo.heap.size wo wi ∧ PlaceAt wi pb (placed tt v 0) ∧ PlacedOK es xs tt v 0) (fun i _ => nt - (intOf i).toNat)
          case atStart => exact ⟨0, Nat.zero_le _, rfl, hbst, hst, PlacedOK.start es xs tt⟩
          case round =>
            obtain ⟨v, hv, rfl, hbv, hpl, hok⟩ := hrel
            by_cases hvl : v < nt
            · obtain ⟨bt, ot, t, A3, n3, c3, hA, hbt, htk, hc3, ist⟩ := T3.out.get hvl
              subst hA
              replace hc3 := (hbv.cell (p := ⟨bt, ot + v, none⟩) hbt).trans hc3
              have HVL : Hid (v < tt.length) := Lib.hid (by rw [HL.out]; exact hvl)
              have hl3 := ist.le
              have hc3' := ist.cap
              have HT3 : Hid ((tt.getD v []).length = n3) := Lib.hid (by rw [htk.out]; exact ist.len)
              have IST := Lib.hid ist
              have HBV := Lib.hid hbv
              clear ist hbv hst hbst
              go_wp2
              obtain ⟨wv, hwv⟩ : ∃ wv : World, wv = wr := ⟨_, rfl⟩
              rw [← hwv] at HBV hpl hc3
              have hb0 : Below wv.heap.size wv wr := hwv ▸ Below.refl _ _
              have hpl0 : PlaceAt wr pb (placed tt v 0) := hwv ▸ hpl
              clear hwv hc3 hpl
              go_loopw [94] (fun i wi => ∃ j : Nat, j ≤ n3 ∧ i = .int .i64 j ∧ Below wo.heap.size wo wi ∧ PlaceAt wi pb (placed tt v j) ∧ PlacedOK es xs tt v j) (fun i _ => n3 - (intOf i).toNat)
              case atStart => exact ⟨0, Nat.zero_le _, rfl, HBV.out.trans (hb0.mono HBV.out.size), hpl0, hok⟩
              case round =>
                clear hok hpl0 hb0
                obtain ⟨j, hj, rfl, hbj, hpl, hok⟩ := hrel
                by_cases hjl : j < n3
                · obtain ⟨bd, od, z, hA, hbd, hz, hz64, hcz⟩ := (IST.out.below hbj).get hjl
                  subst hA
                  obtain ⟨g, hmp, hgp⟩ := hpl
                  have hmi' : MI wr mb (2 * k) (lvOf es xs) := MV.below hmi hbj hmbl
                  have HJ : Hid (j < (tt.getD v []).length) := Lib.hid (by rw [HT3.out]; exact hjl)
                  have HZ : Hid ((tt.getD v []).getD j 0 = z) := Lib.hid (by rw [htk.out]; exact hz.out)
                  have hll := hok.len
                  rw [HLE.out] at hll
                  have HOK := Lib.hid hok
                  have HGP := Lib.hid hgp
                  have HB := Lib.hid (bstep B1.out hbj)
                  clear hok hgp
                  cases hl : lvOf es xs z with
                  | none =>
                    have HT : Hid (¬ Turned N es xs tt) := Lib.hid (not_turned HVL.out HJ.out HZ.out (.inl fun hx => by unfold lvOf at hl; rw [if_pos hx] at hl; cases hl))
                    have HL1 := Lib.hid hl
                    clear hl
                    cases hg : g z with
                    | none =>
                      have HG := Lib.hid hg
                      clear hg
                      go_wp2_with (first
                        | (with_reducible show wpList _ _ _ (Oper.mk (some 102) _ _ _ _ _ :: _) _ _; go_must (refine wpList_iok_none (g := lvOf es xs) (k := z) rfl _ _ rfl rfl hmi' rfl hz64 HL1.out ?_))
                        | (with_reducible show wpList _ _ _ (Oper.mk (some 108) _ _ _ _ _ :: _) _ _; go_must (refine wpList_iok_none (g := g) (k := z) rfl _ _ rfl rfl hmp rfl hz64 HG.out ?_)))
                      go_ret2
                      exact new_five HR.out HT.out HB.out
                    | some y =>
                      have HG := Lib.hid hg
                      clear hg
                      go_wp2_with (first
                        | (with_reducible show wpList _ _ _ (Oper.mk (some 102) _ _ _ _ _ :: _) _ _; go_must (refine wpList_iok_none (g := lvOf es xs) (k := z) rfl _ _ rfl rfl hmi' rfl hz64 HL1.out ?_))
                        | (with_reducible show wpList _ _ _ (Oper.mk (some 108) _ _ _ _ _ :: _) _ _; go_must (refine wpList_iok_some (g := g) (k := z) rfl _ _ rfl rfl hmp rfl hz64 y HG.out ?_)))
                      go_ret2
                      exact new_five HR.out HT.out HB.out
                  | some u =>
                    have HX : Hid (z / 2 ∈ xs ∧ tail es z = u) := Lib.hid (by
                      unfold lvOf at hl
                      split at hl
                      · rename_i hx
                        exact ⟨hx, by injection hl⟩
                      · cases hl)
                    have HL1 := Lib.hid hl
                    clear hl
                    by_cases huv : u = (v : Int)
                    · have d3 : ((u != (v : Int)) = false) := by simp [huv]
                      have HUV := Lib.hid huv
                      clear huv
                      cases hg : g z with
                      | none =>
                        have HG := Lib.hid hg
                        clear hg
                        go_wp2_with (first
                          | (with_reducible show wpList _ _ _ (Oper.mk (some 102) _ _ _ _ _ :: _) _ _; go_must (refine wpList_iok_some (g := lvOf es xs) (k := z) rfl _ _ rfl rfl hmi' rfl hz64 u HL1.out ?_))
                          | (with_reducible show wpList _ _ _ (Oper.mk (some 108) _ _ _ _ _ :: _) _ _; go_must (refine wpList_iok_none (g := g) (k := z) rfl _ _ rfl rfl hmp rfl hz64 HG.out ?_))
                          | (at_mapUpdate; go_must (refine wpList_istore rfl _ _ _ rfl rfl hmp (by omega) z rfl hz64 _ rfl ?_; intro w6 hm6 hg6)))
                        go_roundw
                        case rel => exact ⟨j + 1, by omega, by go_num, hbj.grown hg6 hbj.size (fun k' hk' => by cases hk'; omega), by rw [placed_step HJ.out HZ.out]; exact PlaceAt.put hm6 HG.out HGP.out, HOK.out.step HJ.out HZ.out HX.out.1 (HX.out.2.trans HUV.out) (fun hin => by have := (HGP.out z).2 hin; rw [HG.out] at this; cases this)⟩
                        case measure => simp [intOf]; omega
                      | some y =>
                        have HT : Hid (¬ Turned N es xs tt) := Lib.hid (not_turned HVL.out HJ.out HZ.out (.inr (.inr ((HGP.out z).1 (by rw [hg]; rfl)))))
                        have HG := Lib.hid hg
                        clear hg
                        go_wp2_with (first
                          | (with_reducible show wpList _ _ _ (Oper.mk (some 102) _ _ _ _ _ :: _) _ _; go_must (refine wpList_iok_some (g := lvOf es xs) (k := z) rfl _ _ rfl rfl hmi' rfl hz64 u HL1.out ?_))
                          | (with_reducible show wpList _ _ _ (Oper.mk (some 108) _ _ _ _ _ :: _) _ _; go_must (refine wpList_iok_some (g := g) (k := z) rfl _ _ rfl rfl hmp rfl hz64 y HG.out ?_)))
                        go_ret2
                        exact new_five HR.out HT.out HB.out
                    · have d3 : ((u != (v : Int)) = true) := by simp [huv]
                      have HT : Hid (¬ Turned N es xs tt) := Lib.hid (not_turned HVL.out HJ.out HZ.out (.inr (.inl (by rw [HX.out.2]; exact huv))))
                      clear huv
                      cases hg : g z with
                      | none =>
                        have HG := Lib.hid hg
                        clear hg
                        go_wp2_with (first
                          | (with_reducible show wpList _ _ _ (Oper.mk (some 102) _ _ _ _ _ :: _) _ _; go_must (refine wpList_iok_some (g := lvOf es xs) (k := z) rfl _ _ rfl rfl hmi' rfl hz64 u HL1.out ?_))
                          | (with_reducible show wpList _ _ _ (Oper.mk (some 108) _ _ _ _ _ :: _) _ _; go_must (refine wpList_iok_none (g := g) (k := z) rfl _ _ rfl rfl hmp rfl hz64 HG.out ?_)))
                        go_ret2
                        exact new_five HR.out HT.out HB.out
                      | some y =>
                        have HG := Lib.hid hg
                        clear hg
                        go_wp2_with (first
                          | (with_reducible show wpList _ _ _ (Oper.mk (some 102) _ _ _ _ _ :: _) _ _; go_must (refine wpList_iok_some (g := lvOf es xs) (k := z) rfl _ _ rfl rfl hmi' rfl hz64 u HL1.out ?_))
                          | (with_reducible show wpList _ _ _ (Oper.mk (some 108) _ _ _ _ _ :: _) _ _; go_must (refine wpList_iok_some (g := g) (k := z) rfl _ _ rfl rfl hmp rfl hz64 y HG.out ?_)))
                        go_ret2
                        exact new_five HR.out HT.out HB.out
                · obtain rfl : j = n3 := by omega
                  go_wp2
                  go_roundw
                  case rel => exact ⟨v + 1, by omega, by go_num, hbj, by rw [← placed_next HVL.out, HT3.out]; exact hpl, by rw [← HT3.out] at hok; exact hok.next HVL.out⟩
                  case measure => simp [intOf]; omega
            · obtain rfl : v = nt := by omega
              obtain ⟨g, hmp, hgp⟩ := hpl
              rw [← HL.out] at hmp hok
              rw [placed_end] at hmp
              have hmi' : MI wr mb (2 * k) (lvOf es xs) := MV.below hmi hbv hmbl
              have hv1024 : v ≤ 1024 := by have := HP.out.size; have := HN.out; omega
              have HIS := Lib.hid (HDS.out.step hbv)
              have HTS := Lib.hid (T3.out.step hbv)
              have HB := Lib.hid (bstep B1.out hbv)
              have HMI := Lib.hid hmi'
              have HOK := Lib.hid hok
              obtain ⟨L, hL⟩ : ∃ L, tt.flatten.length = L := ⟨_, rfl⟩
              rw [hL] at hmp
              have HLL := Lib.hid hL
              clear hL
              by_cases hlen : L = 2 * k
              · have d2 : (((L : Int) != 2 * (k : Int)) = false) := by simp [hlen]
                have htt : Hid (Turned N es xs tt) := Lib.hid (HOK.out.turned (by rw [HL.out]; exact HN.out) (by rw [HLL.out, hlen, HLE.out]))
                have hrow : Hid (∀ t ∈ tt, t.length ≤ 1024) := Lib.hid fun t ht => by
                  have h1 := (List.sublist_flatten_of_mem ht).length_le
                  rw [HLL.out] at h1
                  omega
                clear hlen hok
                go_wp2_with (first
                  | (with_reducible show wpList _ _ _ (Oper.mk (some 127) _ _ _ _ _ :: _) _ _; go_must (refine wpList_ilen rfl _ rfl rfl hmp ?_))
                  | (with_reducible show wpList _ _ _ (Oper.mk (some 129) _ _ _ _ _ :: _) _ _; go_must (refine wpList_ilen rfl _ rfl rfl hmi' ?_)))
                refine (take_any wr At v ct tt mb (2 * k) (lvOf es xs) Ad nd cd (allDarts xs) HTS.out HMI.out HIS.out hv1024 hrow.out).mono ?_
                rintro e w9 ⟨r, rfl, hrs, b9⟩
                go_wp2
                go_ret2
                exact ⟨.inl ⟨HR.out, (turned_iff HP.out).1 htt.out, r, rfl, hrs⟩, bstep HB.out b9⟩
              · have d2 : (((L : Int) != 2 * (k : Int)) = true) := by simp; omega
                have hnt : Hid (¬ Turned N es xs tt) := Lib.hid fun hh => hlen (by rw [← HLL.out, hh.2.2.2, HLE.out])
                clear hlen hok
                go_wp2_with (first
                  | (with_reducible show wpList _ _ _ (Oper.mk (some 127) _ _ _ _ _ :: _) _ _; go_must (refine wpList_ilen rfl _ rfl rfl hmp ?_))
                  | (with_reducible show wpList _ _ _ (Oper.mk (some 129) _ _ _ _ _ :: _) _ _; go_must (refine wpList_ilen rfl _ rfl rfl hmi' ?_)))
                go_ret2
                exact new_five HR.out hnt.out HB.out
    · have d : (((nt : Int) != N) = true) := by simp [hN]
      have hf : ¬ Turned N es xs tt := fun hh => hN (by have := hh.1; rw [HL.out] at this; exact this)
      have HF := Lib.hid hf
      clear hf hN hp
      go_enter Try.func19, Try.ntmps19
      go_wp2_with fail
      refine (gRightPart_any w1 N A m c es Av nv cv vs Ae ne ce xs h1).mono ?_
      rintro e w2 ⟨rfl, b2⟩
      rw [HR.out]
      have gb2 := gb1.step b2
      replace b1 := bstep b1 b2
      clear hw1 h1 t1 c0 c1 c2 c3 gb1 b2
      have ⟨_, _, c0, c1, c2, c3, _⟩ := gb2
      go_wp2
      go_ret2
      exact new_five HR.out HF.out b1
  · have hrb : (r != 0) = true := by simp [hr0]
    have HR0 := Lib.hid hr0
    clear hr0 hr
    go_enter Try.func19, Try.ntmps19
    go_wp2_with fail
    refine (gRightPart_any w1 N A m c es Av nv cv vs Ae ne ce xs h1).mono ?_
    rintro e w2 ⟨rfl, b2⟩
    rw [HR.out]
    go_wp2
    go_ret2
    exact new_no HR.out HR0.out (bstep b1 b2)

end Go.Proofs.Ythobfbnopkbniaa
