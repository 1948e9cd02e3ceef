/-
  The contract of walk.Pieces. No conditions on the program.
-/
import Derived.Test.YthobfbnopkbniaaWPieceQ
namespace Go.Proofs.Ythobfbnopkbniaa
open Go.RowKit

set_option maxHeartbeats 16000000 in
set_option maxRecDepth 100000 in
theorem pieces_any (w : World) (N : Int) (A : Option Addr) (m c : Nat) (es : List (Int × Int)) (Av : Option Addr) (nv cv : Nat) (vs : List Int) (Ae : Option Addr) (ne ce : Nat) (xs : List Int) (h : GP w N A m c es Av nv cv vs Ae ne ce xs) : Calls Try.prog 46 #[.agg #[.int .i64 N, .slice A m c], .agg #[.slice Av nv cv, .slice Ae ne ce]] w (PcRes w N es vs xs) := by
  obtain ⟨r, hr⟩ : ∃ r, pRight N es vs xs = r := ⟨_, rfl⟩
  have HR := Lib.hid hr
  obtain ⟨w1, hw1, b1, gb1⟩ := box_gp w N A m c es Av nv cv Ae ne ce
  have h1 := h.step b1
  clear h
  by_cases hr0 : r = 0
  · subst hr0
    have hp := Lib.hid (pRight_ok hr)
    clear hr
    go_enter Try.func46, Try.ntmps46
    have ⟨_, _, c0, c1, c2, c3, _⟩ := gb1
    go_wp2_with fail
    refine (gRightPart_any w1 N A m c es Av nv cv vs Ae ne ce xs h1).mono ?_
    rintro e w2 ⟨rfl, b2⟩
    rw [HR.out]
    have h2 := h1.step b2
    have gb2 := gb1.step b2
    replace b1 := bstep b1 b2
    clear hw1 h1 c0 c1 c2 c3 gb1 b2
    have ⟨hg2, hp2, c0, c1, c2, c3, _⟩ := gb2
    go_wp2_with fail
    refine (leaving_any w2 N A m c es Av nv cv vs Ae ne ce xs h2 hp.out).mono ?_
    rintro e w0 ⟨db, rfl, hdm, _, b3⟩
    have h0 := h2.step b3
    have gb0 := gb2.step b3
    replace b1 := bstep b1 b3
    have hdb := Lib.hid hdm.db
    have B1 := Lib.hid b1
    clear h2 c0 c1 c2 c3 gb2 b3 hg2 hp2 hdm b1
    have ⟨hg0, hp0, c0, c1, c2, c3, _⟩ := gb0
    have hlenv := h0.v.len
    have hlev := h0.v.le
    have hcapv := h0.v.cap
    have hlene := h0.e.len
    have hlee := h0.e.le
    have hcape := h0.e.cap
    have hmg := h0.g.len
    have hmc := h0.g.cap
    have hmle := h0.g.le
    have H0 := Lib.hid h0
    have GB0 := Lib.hid gb0
    have hmm := run_makeMap_ints
    obtain ⟨hvl, hxl2, hNl⟩ := hp.out.lens
    have hmi0 := MI.made w0
    have hst : PcOut w0 es vs xs w0.heap.size 0 (.slice none 0 0) (w0.alloc (.map #[] 0)) := ⟨0, _, 0, _, _, OwnP.start ((Below.refl _ _).alloc (Nat.le_refl _) _), hmi0, Nat.le_refl _, PcI.start_, PFill.start_⟩
    clear h0 gb0 hmi0
    go_wp2
    obtain ⟨wm, hwm⟩ : ∃ wm : World, wm = w0.alloc (.map #[] 0) := ⟨_, rfl⟩
    rw [← hwm] at hst ⊢
    have hbm : Below w0.heap.size w0 wm := by rw [hwm]; exact (Below.refl _ _).alloc (Nat.le_refl _) _
    have k3 : wm.cell? ⟨w.heap.size + 1, 0, none⟩ = some (.slice Av nv cv) := (hbm.cell hp0).trans c2
    clear hwm c0 c1 c2 c3
    go_wp2
    go_loopw [9, 32] (fun v i wr => ∃ k : Nat, k ≤ nv ∧ i = .int .i64 k ∧ PcOut w0 es vs xs w0.heap.size k v wr) (fun _ i _ => nv - (intOf i).toNat)
    case atStart => exact ⟨0, Nat.zero_le _, rfl, hst⟩
    case round =>
      clear hst k3
      obtain ⟨k, hk, rfl, n, f, np, u, F, hown, hmi, hnp, hpc, hfl⟩ := hrel
      have hbel := hown.below
      by_cases hlt : k < nv
      · obtain ⟨bv, ov, z, hAv, hbv, hz, hz64, hcz⟩ := (H0.out.v.below hbel).get hlt
        subst hAv
        have hkl : Hid (k < vs.length) := Lib.hid (by omega)
        have ⟨_, _, c0, c1, c2, c3, _⟩ := GB0.out.step hbel
        have HZ := Lib.hid (hz.out ▸ (getD_idx hkl.out ▸ List.getElem_mem hkl.out : vs.getD k 0 ∈ vs) : z ∈ vs)
        cases hf : f z with
        | none =>
          have HF := Lib.hid hf
          have OW0 := Lib.hid hown
          have MI0 := Lib.hid hmi
          have PC0 := Lib.hid hpc
          have FL0 := Lib.hid hfl
          clear hf
          obtain ⟨vA0, vc0, rfl⟩ := hown.len
          clear hpc hfl hown
          go_wp2_with (with_reducible show wpList _ _ _ (Oper.mk (some 39) _ _ _ _ _ :: _) _ _; go_must (refine wpList_iok_none (g := f) (k := z) rfl _ _ rfl rfl hmi rfl hz64 HF.out ?_))
          refine (reach_any wr N A m c es vs xs db z (-1) (H0.out.step hbel).g ((hdb.out.below hbel).dm hbel.size) hp.out HZ.out).mono ?_
          rintro e wq ⟨fb, g, ms, rfl, hmig, hri, hfb, hbq⟩
          have hpq : w0.heap.size < wr.heap.size := hmi.lt
          have hmq : MI wq w0.heap.size np f := MV.below hmi hbq hpq
          have hsq := hbq.size
          have OWQ := Lib.hid (OW0.out.later hbq)
          have HRI := Lib.hid hri
          have HML := Lib.hid hri.len
          clear OW0 MI0 hmi hri hbq c0 c1 c2 c3 hcz
          go_wp2_with (first | (at_range; refine wpList_rm_range rfl _ rfl rfl hmig ?_; intro ws hrm hgs hss) | go_in)
          go_frame
          have hst : PcIn wq f g w0.heap.size fb k ms.length n ws := PcIn.start_ hrm hmq hgs (by have := HML.out; omega)
          have HMQ := Lib.hid hmq
          clear hrm hgs hss hmig hmq
          go_loopw [14] (fun _ wi => PcIn wq f g w0.heap.size fb k ms.length n wi) (fun _ wi => wi.rangeLeft fb wq.heap.size)
          case atStart => exact hst
          case round =>
            clear hst
            obtain ⟨left, cnt, np', hrm, hmi, hle, hgq⟩ := hrel
            go_wp2_with (first | (at_next; refine wpList_rm_next rfl _ rfl rfl hrm ?_ ?_) | go_in)
            · intro hc0 hl0
              replace hmi := PcIn.end_ hmi hl0
              have hown := OWQ.out.mapped HMQ.out (Nat.le_refl _) hgq
              have hn6 : n + 1 ≤ 1000000 := by have := PC0.out.le; have h2 : (vs.take k).length ≤ k := List.length_take_le _ _; omega
              have NP := Lib.hid (show np' ≤ (k + 1) * 1024 by omega)
              clear hgq hc0 hl0 hle hrm
              have hlen : ∀ j : Nat, Hid ((F (j * 2)).length + 1 ≤ 1000000000000) := fun j => Lib.hid (by have h1 := (FL0.out.lenv j).1; have h2 : (vs.take k).length ≤ k := List.length_take_le _ _; omega)
              go_wp2_with (first
                | ((with_reducible show wpList _ _ _ (Oper.mk (some 60) _ _ _ _ _ :: _) _ _); go_must (refine wpList_append_part rfl _ _ rfl rfl hown rfl hn6 ?_; intro v6 w6 hown6 hg6; obtain ⟨f', n', j, A6, c6, rfl, hown6', hmi6, PC, FL, HFJ, HFG, HJ, hin⟩ := PcOut.more hown hmi hown6 hg6 PC0.out FL0.out hp.out HZ.out HF.out HRI.out; clear hown6 hg6; have OW := Lib.hid hown6'; obtain ⟨gb, cc, vA, vn, vc, hsl, hnc, hcm, e0, HUE, EACH⟩ := hown6'.pick hin; cases hsl; clear hown6'))
                | (with_reducible show wpList _ _ _ (Oper.mk (some 63) _ _ _ _ _ :: _) _ _; go_must (refine wpList_ilook (k := z) rfl _ _ rfl rfl hmi6 rfl hz64 _ HFG.out ?_))
                | (with_reducible show wpList _ _ _ (Oper.mk (some 73) _ _ _ _ _ :: _) _ _; go_must (refine wpList_append_one (v := .slice vA vn vc) (w0 := w0) rfl _ _ rfl rfl EACH.out _ hz64 rfl (hlen j).out ?_; intro v' w5 hown' hg5' hb5'; obtain ⟨hc5, hf5⟩ := OW.out.mid hin (HUE.out ▸ hg5'); obtain ⟨xA, xn, xc, rfl⟩ := hown'.slice_)))
              go_roundw
              case rel => exact ⟨k + 1, by omega, by go_num, PcOut.put OW.out hmi6 NP.out PC.out FL.out hkl.out hz.out HFJ.out hin hown' (HUE.out ▸ hg5') (HUE.out ▸ hb5')⟩
              case measure => simp [intOf]; omega
            · intro x cx wx cnt' hx64 hx hgx hrm' hlt' hgr hsz hen
              have hmix := MI.kept_ hmi hgr (by simp; omega)
              have hnp' : np' < 1000000000000 := by omega
              have HX := Lib.hid hx
              have HGX := Lib.hid hgx
              have HRM := Lib.hid hrm'
              have LE := Lib.hid hle
              have GQ := Lib.hid hgq
              have GR := Lib.hid hgr
              have RMO := Lib.hid hrm
              clear hmi hrm hrm' hle hgq hgr hx hgx hsz
              go_wp2_with (with_reducible show wpList _ _ _ (Oper.mk none (Op.mapUpdate _ _ _ _) _ _ _ _ :: _) _ _; go_must (refine wpList_istore rfl _ _ _ rfl rfl hmix hnp' x rfl hx64 n rfl ?_; intro w7 hmi7 hg7))
              go_frame
              go_roundw
              case rel => exact PcIn.step HX.out HGX.out HRM.out hlt' GR.out ⟨_, ite_le _, hmi7⟩ hg7 LE.out GQ.out (by omega) (by omega)
              case measure =>
                rw [(HRM.out.kept hg7 (by simp; omega) (by simp; omega)).left_eq, RMO.out.left_eq]
                omega
        | some j0 =>
          obtain ⟨j, rfl, hj⟩ := hpc.lt z j0 hf
          have hin : j * 2 < n * 2 := by omega
          have hlen : Hid ((F (j * 2)).length + 1 ≤ 1000000000000) := Lib.hid (by have h1 := (hfl.lenv j).1; have h2 : (vs.take k).length ≤ k := List.length_take_le _ _; omega)
          have FL := Lib.hid hfl
          have OW := Lib.hid hown
          obtain ⟨gb, cc, vA, vn, vc, hsl, hnc, hcm, e0, HUE, EACH⟩ := hown.pick hin
          cases hsl
          have HFJ := Lib.hid hf
          have HFG : Hid ((f z).getD 0 = (j : Int)) := Lib.hid (by rw [hf]; rfl)
          have PC := Lib.hid (hpc.met hf)
          have NP : Hid (np ≤ (k + 1) * 1024) := Lib.hid (by omega)
          clear hf hpc hfl hown
          go_wp2_with (first
            | (with_reducible show wpList _ _ _ (Oper.mk (some 39) _ _ _ _ _ :: _) _ _; go_must (refine wpList_iok_some (g := f) (k := z) rfl _ _ rfl rfl hmi rfl hz64 _ HFJ.out ?_))
            | (with_reducible show wpList _ _ _ (Oper.mk (some 63) _ _ _ _ _ :: _) _ _; go_must (refine wpList_ilook (k := z) rfl _ _ rfl rfl hmi rfl hz64 _ HFG.out ?_))
            | (with_reducible show wpList _ _ _ (Oper.mk (some 73) _ _ _ _ _ :: _) _ _; go_must (refine wpList_append_one (v := .slice vA vn vc) (w0 := w0) rfl _ _ rfl rfl EACH.out _ hz64 rfl hlen.out ?_; intro v' w5 hown' hg5' hb5'; obtain ⟨hc5, hf5⟩ := OW.out.mid hin (HUE.out ▸ hg5'); obtain ⟨xA, xn, xc, rfl⟩ := hown'.slice_)))
          go_roundw
          case rel => exact ⟨k + 1, by omega, by go_num, PcOut.put OW.out hmi NP.out PC.out FL.out hkl.out hz.out HFJ.out hin hown' (HUE.out ▸ hg5') (HUE.out ▸ hb5')⟩
          case measure => simp [intOf]; omega
      · obtain rfl : k = nv := by omega
        rw [List.take_of_length_le (by omega)] at hpc hfl
        obtain ⟨vA0, vc0, rfl⟩ := hown.len
        have hst : PcEd w0 es vs xs w0.heap.size np n 0 f (.slice vA0 n vc0) wr := ⟨u, F, hown, hmi, hfl⟩
        have HB := Lib.hid hbel
        have PC := Lib.hid hpc
        have ⟨_, _, c0, c1, c2, c3, _⟩ := GB0.out.step hbel
        clear hown hmi hfl hpc hbel
        go_wp2
        obtain ⟨ws, hws⟩ : ∃ ws : World, ws = wr := ⟨_, rfl⟩
        rw [← hws] at hst ⊢
        clear hws c0 c1 c2 c3 HB
        go_loopw [80] (fun i wr => ∃ k : Nat, k ≤ ne ∧ i = .int .i64 k ∧ PcEd w0 es vs xs w0.heap.size np n k f (.slice vA0 n vc0) wr) (fun i _ => ne - (intOf i).toNat)
        case atStart => exact ⟨0, Nat.zero_le _, rfl, hst⟩
        case round =>
          clear hst
          obtain ⟨k, hk, rfl, u, F, hown, hmi, hfl⟩ := hrel
          have hbel := hown.below
          by_cases hlt : k < ne
          · obtain ⟨be, oe, z, rfl, hbe, hz, hz64, hcz⟩ := (H0.out.e.below hbel).get hlt
            have hkl : Hid (k < xs.length) := Lib.hid (by omega)
            have hzm := H0.out.e.mem hlt
            rw [hz.out] at hzm
            have hzr := hp.out.xr z hzm
            have hen' := hp.out.ends z hzm
            obtain ⟨q, rfl⟩ := Int.eq_ofNat_of_zero_le hzr.1
            have hqm : q < m := by omega
            obtain ⟨bg, og, x, y, rfl, hbg, hxy, hx64, hy64, hcx, hcy⟩ := (H0.out.g.below hbel).get hqm
            have hen : ends es q = (x, y) := by unfold ends; rw [Int.toNat_natCast]; exact hxy.out
            have hq0 : (0 : Int) ≤ (q : Int) := by omega
            have hq1 : (q : Int) < (m : Int) := by omega
            have hxv : x ∈ vs := by simpa [hen] using hen'.1
            obtain ⟨j0, hj0⟩ := Option.isSome_iff_exists.1 (PC.out.all x hxv)
            obtain ⟨j, rfl, hj⟩ := PC.out.lt x j0 hj0
            have hin : j * 2 + 1 < n * 2 := by omega
            have hlen : Hid ((F (j * 2 + 1)).length + 1 ≤ 1000000000000) := Lib.hid (by have h1 := (hfl.lenv j).2; have h2 : (xs.take k).length ≤ k := List.length_take_le _ _; omega)
            have FL := Lib.hid hfl
            have OW := Lib.hid hown
            obtain ⟨gb, cc, vA, vn, vc, hsl, hnc, hcm, e0, HUE, EACH⟩ := hown.pick hin
            have HFJ : Hid (f (ends es q).1 = some (j : Int)) := Lib.hid (by rw [hen]; exact hj0)
            have HFG : Hid ((f x).getD 0 = (j : Int)) := Lib.hid (by rw [hj0]; rfl)
            have ⟨_, _, c0, c1, _, _, _⟩ := GB0.out.step hbel
            cases hsl
            clear hown hfl hj0 hen hen' hzm hzr
            go_wp2_with (first
              | (with_reducible show wpList _ _ _ (Oper.mk (some 91) _ _ _ _ _ :: _) _ _; go_must (refine wpList_ilook (k := x) rfl _ _ rfl rfl hmi rfl hx64 _ HFG.out ?_))
              | (with_reducible show wpList _ _ _ (Oper.mk (some 101) _ _ _ _ _ :: _) _ _; go_must (refine wpList_append_one (v := .slice vA vn vc) (w0 := w0) rfl _ _ rfl rfl EACH.out _ hz64 rfl hlen.out ?_; intro v' w5 hown' hg5' hb5'; obtain ⟨hc5, hf5⟩ := OW.out.mid hin (HUE.out ▸ hg5'); obtain ⟨xA, xn, xc, rfl⟩ := hown'.slice_)))
            go_roundw
            case rel => exact ⟨k + 1, by omega, by go_num, PcEd.put OW.out hmi FL.out hkl.out hz.out HFJ.out hin hown' (HUE.out ▸ hg5') (HUE.out ▸ hb5')⟩
            case measure => simp [intOf]; omega
          · obtain rfl : k = ne := by omega
            rw [List.take_of_length_le (by omega)] at hfl
            have FL := Lib.hid hfl
            have OW := Lib.hid hown
            have HB := Lib.hid hbel
            clear hown hfl hbel hmi
            go_wp2
            go_ret2
            exact ⟨bstep B1.out HB.out, .inr ⟨HR.out, _, n, f, u, F, rfl, OW.out.from B1.out, PC.out, FL.out⟩⟩
  · have hrb : (r != 0) = true := by simp [hr0]
    have HR0 := Lib.hid hr0
    clear hr0 hr
    go_enter Try.func46, Try.ntmps46
    have ⟨_, _, c0, c1, c2, c3, _⟩ := gb1
    go_wp2_with fail
    refine (gRightPart_any w1 N A m c es Av nv cv vs Ae ne ce xs h1).mono ?_
    rintro e w2 ⟨rfl, b2⟩
    rw [HR.out]
    go_wp2
    go_ret2
    exact ⟨bstep b1 b2, .inl ⟨by rw [HR.out]; exact HR0.out, by rw [HR.out]; rfl⟩⟩
end Go.Proofs.Ythobfbnopkbniaa
