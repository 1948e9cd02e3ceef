/-
  The contract of ref07.Walks, for right parts and turns; no other conditions.
-/
import Derived.Test.YthobfbnopkbniaaVRRefS
import Derived.Test.YthobfbnopkbniaaFaceD
namespace Go.Proofs.Ythobfbnopkbniaa
open Go.RowKit

theorem allDarts_at : ∀ {xs : List Int} {k : Nat}, k < 2 * xs.length → (allDarts xs).getD k 0 = 2 * xs.getD (k / 2) 0 + ((k % 2 : Nat) : Int)
  | [], _, h => absurd h (by simp)
  | x :: xs, 0, _ => by simp [allDarts]
  | x :: xs, 1, _ => by simp [allDarts]
  | x :: xs, k + 2, h => by
    have h' : k < 2 * xs.length := by simp at h; omega
    have ih := allDarts_at h'
    have e1 : (k + 2) / 2 = k / 2 + 1 := by omega
    have e2 : (k + 2) % 2 = k % 2 := by omega
    rw [e1, e2]
    simp only [allDarts, List.getD_cons_succ]
    exact ih
/-- The first so many of an orbit. -/
def orbTake (f : Int → Int) (d : Int) (k : Nat) : List Int := (List.range k).map fun j => iter f j d
theorem orbTake_one (f : Int → Int) (d : Int) : orbTake f d 1 = [d] := rfl
theorem orbTake_next (f : Int → Int) (d : Int) (k : Nat) : orbTake f d (k + 1) = orbTake f d k ++ [iter f k d] := by unfold orbTake; rw [List.range_succ, List.map_append]; rfl
theorem orbTake_len (f : Int → Int) (d : Int) (k : Nat) : (orbTake f d k).length = k := by unfold orbTake; simp
/-- While an orbit is gone round: how far, what comes next, is d the least so far. -/
structure GoneI (f : Int → Int) (D : List Int) (d : Int) (k : Nat) (x : Int) (b : Bool) : Prop where
  nxt : x = iter f (k + 1) d
  lt : ∃ p, Period f d p ∧ p ≤ D.length ∧ k < p
  least : b = (orbTake f d (k + 1)).all fun y => decide (d ≤ y)
section
variable {f : Int → Int} {D : List Int} {d x : Int} {k n : Nat} {b : Bool}
theorem GoneI.start_ (hP : PermOn f D) (hd : d ∈ D) : GoneI f D d 0 (f d) true := by
  obtain ⟨p, hp, hl⟩ := hP.period hd
  exact ⟨rfl, ⟨p, hp, hl, hp.1⟩, by rw [orbTake_one]; simp⟩
theorem GoneI.in_ (h : GoneI f D d k x b) (hP : PermOn f D) (hd : d ∈ D) : x ∈ D := by rw [h.nxt]; exact hP.iter hd _
theorem GoneI.small (h : GoneI f D d k x b) : k < D.length := by obtain ⟨p, _, h1, h2⟩ := h.lt; omega
theorem GoneI.on (h : GoneI f D d k x b) (hx : x ≠ d) : GoneI f D d (k + 1) (f x) (b && decide (d < x)) ∧ orbTake f d (k + 2) = orbTake f d (k + 1) ++ [x] := by
  obtain ⟨p, hp, hl, hk⟩ := h.lt
  have hne : k + 1 ≠ p := fun e => hx (by rw [h.nxt, e]; exact hp.2.1)
  have e2 : orbTake f d (k + 2) = orbTake f d (k + 1) ++ [x] := by rw [orbTake_next, ← h.nxt]
  refine ⟨⟨by rw [h.nxt]; rfl, ⟨p, hp, hl, by omega⟩, ?_⟩, e2⟩
  rw [show k + 1 + 1 = k + 2 from rfl, e2, List.all_append, ← h.least]
  congr 1
  simp only [List.all_cons, List.all_nil, Bool.and_true]
  exact decide_eq_decide.2 ⟨fun h => by omega, fun h => by omega⟩
theorem GoneI.end_ (h : GoneI f D d k d b) (hn : D.length ≤ n) : orbTake f d (k + 1) = orb f n d ∧ b = leastB f n d := by
  obtain ⟨p, hp, hl, hk⟩ := h.lt
  have hkp : k + 1 = p := by
    refine Classical.byContradiction fun hne => hp.2.2 (k + 1) (by omega) (by omega) ?_
    exact h.nxt.symm
  have e : orbTake f d (k + 1) = orb f n d := by
    rw [orb_is hp (by omega), hkp]
    rfl
  refine ⟨e, ?_⟩
  rw [h.least, e]
  rfl
end
theorem Own.lit_one (w : World) (x : Int) (hx : I64 x) : Own w (w.alloc (.cells #[.int .i64 x] 3)) (.slice (some ⟨w.heap.size, 0, none⟩) 1 1) [x] :=
  ⟨World.ownsRow_lit (base := w.heap.size) (size := 1) w #[.int .i64 x] 1 (Nat.le_refl _) (by unfold maxLen; omega) rfl, (Below.refl _ _).alloc (Nat.le_refl _) _, by simpa using hx⟩

theorem gb_graph {w : World} {g p : Nat} {N : Int} {A : Option Addr} {m c : Nat} {es : List (Int × Int)} {Av : Option Addr} {nv cv : Nat} {Ae : Option Addr} {ne ce : Nat} (h : GB w g p N A m c es Av nv cv Ae ne ce) :
    w.cell? ⟨g, 0, none⟩ = some (.int .i64 N) ∧ w.cell? ⟨g, 1, none⟩ = some (.slice A m c) := ⟨h.2.2.1, h.2.2.2.1⟩
/-- How long a slice is. -/
def sliceLen : Value → Nat
  | .slice _ n _ => n
  | _ => 0

set_option maxHeartbeats 4000000 in
set_option maxRecDepth 100000 in
theorem refWalks_any (w : World) (N : Int) (A : Option Addr) (m c : Nat) (es : List (Int × Int)) (Av : Option Addr) (nv cv : Nat) (vs : List Int) (Ae : Option Addr) (ne ce : Nat) (xs : List Int) (At : Option Addr) (nt ct : Nat) (tt : List (List Int)) (h : GP w N A m c es Av nv cv vs Ae ne ce xs) (ht : TS w w.heap.size At nt ct tt) (hp : POK N es vs xs) (hT : TurnOK N es xs tt) :
    Calls Try.prog 59 #[.agg #[.int .i64 N, .slice A m c], .agg #[.slice Av nv cv, .slice Ae ne ce], .slice At nt ct] w fun e w' => ∃ A n c, e = .returned (.slice A n c) ∧ WS w' w'.heap.size A n c (walksOf es tt vs xs) ∧ Below w.heap.size w w' := by
  obtain ⟨w1, hw1, b1, gb1⟩ := box_gp w N A m c es Av nv cv Ae ne ce
  have h1 := h.step b1
  have t1 := ht.step b1
  clear h ht
  have ⟨_, _, c0, c1, c2, c3, _⟩ := gb1
  have hnv := h1.v.len
  have hcv := h1.v.cap
  have hlv := h1.v.le
  have hne := h1.e.len
  have hce := h1.e.cap
  have hle := h1.e.le
  have hnt := t1.len
  have hct := t1.cap
  have hlt := t1.le
  have hnN := hT.1
  have hnvl : nv ≤ 1024 := by
    have := nodup_len (a := vs) (b := upto1 nt) (sorted_nodup hp.vp) fun x hx => mem_upto1.2 (by have := hp.vr x hx; omega)
    rw [upto1_len] at this
    have := hp.size
    omega
  have hxl := xs_len hp
  have HP := Lib.hid hp
  have HT := Lib.hid hT
  have H1 := Lib.hid h1
  have T1 := Lib.hid t1
  have GB1 := Lib.hid gb1
  have B1 := Lib.hid b1
  have hst : OwnW 83 w1 w1 (.slice none 0 0) (lone tt (vs.drop nv)) := by rw [List.drop_of_length_le (by omega)]; exact OwnW.start_at (Below.refl _ _)
  clear hp hT h1 t1 gb1 b1
  go_enter Try.func59, Try.ntmps59
  go_wp2
  clear hw1 c0 c1 c2 c3
  go_loopw [7, 8] (fun v i wr => ∃ k : Nat, k ≤ nv ∧ i = .int .i64 ((k : Int) - 1) ∧ OwnW 83 w1 wr v (lone tt (vs.drop k))) (fun _ i _ => (intOf i + 1).toNat)
  case atStart => exact ⟨nv, Nat.le_refl _, rfl, hst⟩
  case round =>
    clear hst
    obtain ⟨k, hk, rfl, ho⟩ := hrel
    obtain ⟨vA, vn, vc, rfl⟩ := ho.slice
    have hb := ho.below
    have ⟨_, _, c0, c1, c2, c3, _⟩ := GB1.out.step hb
    by_cases hk0 : k = 0
    · subst hk0
      have hneg : decide ((0 : Int) ≤ ((0 : Nat) : Int) - 1) = false := rfl
      have HO := Lib.hid ho
      clear ho
      go_wp2
      have hL0 : lone tt (vs.drop 0) = lone tt vs := rfl
      have hst : OwnW 83 w1 wr (.slice vA vn vc) (lone tt vs ++ faces (nx es tt) (2 * xs.length) ((allDarts xs).take 0)) := by
        rw [List.take_zero, show faces (nx es tt) (2 * xs.length) [] = [] from rfl, List.append_nil]
        exact HO.out
      have wa : IntKind.i64.wrap (2 * (ne : Int)) = 2 * (ne : Int) := IntWalk.i64_in _ (by omega)
      have hPM := Lib.hid (nx_perm HP.out HT.out)
      have hDS := Lib.hid (allDarts_sorted HP.out.xp)
      have hDL := Lib.hid (allDarts_len xs)
      have hlone := lone_len tt vs
      clear hneg c0 c1 c2 c3 HO hL0 hb
      go_loopw [7, 9] (fun v i wr => ∃ k : Nat, k ≤ 2 * ne ∧ i = .int .i64 k ∧ OwnW 83 w1 wr v (lone tt vs ++ faces (nx es tt) (2 * xs.length) ((allDarts xs).take k))) (fun _ i _ => 2 * ne - (intOf i).toNat)
      case atStart => exact ⟨0, Nat.zero_le _, rfl, hst⟩
      case round =>
        clear hst
        obtain ⟨k, hk, rfl, ho⟩ := hrel
        obtain ⟨wo, hwo⟩ : ∃ wo : World, wo = wr := ⟨_, rfl⟩
        subst hwo
        obtain ⟨vA, vn, vc, rfl⟩ := ho.slice
        have hb := ho.below
        have ⟨_, _, c0, c1, c2, c3, _⟩ := GB1.out.step hb
        by_cases hlt : k < 2 * ne
        · have hk2 : k < 2 * xs.length := by omega
          have hget := allDarts_at hk2
          obtain ⟨be, oe, z, hAe, hbe, hz, hz64, hcz⟩ := (H1.out.step hb).e.get (k := k / 2) (by omega)
          subst hAe
          rw [hz.out] at hget
          obtain ⟨d, hd⟩ : ∃ d, (allDarts xs).getD k 0 = d := ⟨_, rfl⟩
          have hdD : d ∈ allDarts xs := by
            rw [← hd, getD_idx (by rw [allDarts_len]; exact hk2)]
            exact List.getElem_mem _
          have hdx := mem_allDarts.1 hdD
          rw [hd] at hget
          have hd64 := dart_i64 HP.out hdx
          have hzr : 0 ≤ z ∧ z ≤ 1024 := by omega
          have wb : IntKind.i64.wrap (2 * z) = 2 * z := IntWalk.i64_in _ (by omega)
          have hde : 2 * z + (k : Int) % 2 = d := by omega
          have wc : IntKind.i64.wrap (2 * z + (k : Int) % 2) = 2 * z + (k : Int) % 2 := IntWalk.i64_in _ (by omega)
          have k0 : (0 : Int) ≤ (k : Int) := by omega
          have k2 : (k : Int) < 2 * (ne : Int) := by omega
          have k3 : k / 2 < ne := by omega
          have HHD := Lib.hid hd
          have HO := Lib.hid ho
          have HB := Lib.hid hb
          have HDD := Lib.hid hdD
          have HDX := Lib.hid hdx
          clear hget hd hz hdD ho hdx hb
          go_wp2_with fail
          obtain ⟨wl, hwl⟩ : ∃ wl, wo.alloc (.cells #[.int .i64 d] 3) = wl := ⟨_, rfl⟩
          have hd64' : I64 d := ⟨by omega, by omega⟩
          have hown0 := Own.lit_one wo d hd64'
          rw [hwl] at hown0 ⊢
          obtain ⟨lb, hlb⟩ : ∃ lb, wo.heap.size = lb := ⟨_, rfl⟩
          rw [hlb] at hown0 ⊢
          have bl := hown0.below
          have hbl := HB.out.trans (bl.mono HB.out.size)
          have h2 := H1.out.step hbl
          have t2 := T1.out.step hbl
          refine (next6_any wl N A m c es vs xs At nt ct tt h2.g t2 HP.out HT.out d HDX.out).mono ?_
          rintro e w5 ⟨rfl, b5⟩
          rw [show stepOf es tt (twin d) (-1) = nx es tt d from rfl]
          have hown1 := hown0.later b5
          have hg0 := GoneI.start_ hPM.out HDD.out
          obtain ⟨x0, hx0⟩ : ∃ x0, nx es tt d = x0 := ⟨_, rfl⟩
          rw [hx0] at hg0 ⊢
          have hst : ∃ t x b, Value.int .i64 x0 = .int .i64 x ∧ Value.bool true = .bool b ∧ GoneI (nx es tt) (allDarts xs) d t x b ∧ Own wo w5 (.slice (some ⟨lb, 0, none⟩) 1 1) (orbTake (nx es tt) d (t + 1)) := ⟨0, x0, true, rfl, rfl, hg0, hown1⟩
          clear hx0 hg0 hown0 hown1 bl hbl h2 t2 b5 hwl c0 c1 c2 c3 hlb hcz
          go_wp2
          go_loopw [11, 12, 13] (fun lv bv xv wi => ∃ t x b, xv = .int .i64 x ∧ bv = .bool b ∧ GoneI (nx es tt) (allDarts xs) d t x b ∧ Own wo wi lv (orbTake (nx es tt) d (t + 1))) (fun lv _ _ _ => 2 * xs.length + 1 - sliceLen lv)
          case atStart => exact hst
          case round =>
            clear hst
            obtain ⟨t, x, b, rfl, rfl, hg, hown⟩ := hrel
            obtain ⟨lA, ln, lc, rfl⟩ := hown.slice_
            have hbel := hown.below
            have htD := hg.small
            have hln : ln = t + 1 := by
              obtain ⟨A', n', c', e, his⟩ := hown.is
              injection e with e1 e2 e3
              subst e1 e2 e3
              have := his.len
              rw [orbTake_len] at this
              exact this.symm
            subst hln
            by_cases hxd : x = d
            · have hxd' : (x != d) = false := by simp [hxd]
              rw [hxd] at hg
              clear hxd
              obtain ⟨he1, he2⟩ := hg.end_ (n := 2 * xs.length) (by rw [hDL.out]; exact Nat.le_refl _)
              rw [he1] at hown
              have hfn := faces_next (f := nx es tt) (n := 2 * xs.length) (show k < (allDarts xs).length by rw [hDL.out]; exact hk2) HHD.out
              rw [← he2] at hfn
              have HFN := Lib.hid hfn
              have HOW := Lib.hid (HO.out.later hbel)
              have hrow : RowAt wr (Value.slice vA vn vc).ownBlock (.slice lA (t + 1) lc) (orb (nx es tt) (2 * xs.length) d) := by
                obtain ⟨A', n', c', e, his, hnew⟩ := hown.isNew
                refine ⟨A', n', c', e, his, fun _ a ha e2 => ?_⟩
                obtain ⟨cur, hc, _⟩ := HO.out.owns e2
                have := (Array.getElem?_eq_some_iff.1 hc).1
                have := hnew a ha
                omega
              have hl9 : (lone tt vs ++ faces (nx es tt) (2 * xs.length) ((allDarts xs).take k)).length + 1 ≤ 1000000 := by
                have h1 : (faces (nx es tt) (2 * xs.length) ((allDarts xs).take k)).length ≤ ((allDarts xs).take k).length := by
                  unfold faces
                  rw [List.length_map]
                  exact List.length_filter_le _ _
                have h2 : ((allDarts xs).take k).length ≤ k := List.length_take_le _ _
                rw [List.length_append]
                omega
              cases b with
              | false =>
                clear hg hown hfn hrow he1 he2
                go_wp2
                go_roundw
                case rel => exact ⟨k + 1, by omega, by go_num, by rw [HFN.out, if_neg (by simp), List.append_nil]; exact HOW.out⟩
                case measure => simp [intOf]; omega
              | true =>
                clear hg hown hfn he1 he2
                go_wp2_with (with_reducible show wpList _ _ _ (Oper.mk (some 89) _ _ _ _ _ :: _) _ _; go_must (refine wpList_append_walk (v := .slice vA vn vc) (w0 := w1) wtRef rfl _ _ rfl rfl HOW.out hd64' hrow rfl hl9 ?_; intro v' w9 hown' hg' _))
                go_roundw
                case rel => exact ⟨k + 1, by omega, by go_num, by rw [HFN.out, if_pos rfl, ← List.append_assoc]; exact hown'⟩
                case measure => simp [intOf]; omega
            · have hxd' : (x != d) = true := by simpa [bne_iff_ne] using hxd
              obtain ⟨hg2, hot⟩ := hg.on hxd
              have hxD := hg.in_ hPM.out HDD.out
              have hxx := mem_allDarts.1 hxD
              have hx64 := dart_i64 HP.out hxx
              have hx64' : I64 x := ⟨by omega, by omega⟩
              have HOT := Lib.hid hot
              have HOWN := Lib.hid hown
              have hml : Hid ((orbTake (nx es tt) d (t + 1)).length + 1 ≤ 1000000000000) := Lib.hid (by rw [orbTake_len]; have := hDL.out; omega)
              have HXX := Lib.hid hxx
              cases b with
              | false =>
                rw [Bool.false_and] at hg2
                have HG2 := Lib.hid hg2
                clear hg hown hg2 hot hxD hxx
                go_wp2_with (with_reducible show wpList _ _ _ (Oper.mk (some 76) _ _ _ _ _ :: _) _ _; go_must (refine wpList_append_one (v := .slice lA (t + 1) lc) (w0 := wo) rfl _ _ rfl rfl HOWN.out _ hx64' rfl hml.out ?_; intro v' w9 hown9 hg9 _; obtain ⟨d0, d1⟩ := gb_graph (GB1.out.step (HB.out.trans (hown9.below.mono HB.out.size)))))
                have hbl9 := HB.out.trans (hown9.below.mono HB.out.size)
                have h29 := H1.out.step hbl9
                have t29 := T1.out.step hbl9
                refine (next6_any w9 N A m c es vs xs At nt ct tt h29.g t29 HP.out HT.out x HXX.out).mono ?_
                rintro e w10 ⟨rfl, b10⟩
                rw [show stepOf es tt (twin x) (-1) = nx es tt x from rfl]
                have hown10 := hown9.later b10
                obtain ⟨x2, hx2⟩ : ∃ x2, nx es tt x = x2 := ⟨_, rfl⟩
                rw [hx2] at HG2 ⊢
                rw [← HOT.out] at hown10
                have HO10 := Lib.hid hown10
                obtain ⟨lA2, ln2, lc2, rfl⟩ := hown10.slice_
                have hln2 : ln2 = t + 2 := by
                  obtain ⟨A', n', c', e, his⟩ := hown10.is
                  injection e with e1 e2 e3
                  subst e1 e2 e3
                  have := his.len
                  rw [orbTake_len] at this
                  exact this.symm
                subst hln2
                clear hown9 hg9 d0 d1 hbl9 h29 t29 b10 hown10 hx2
                go_wp2
                go_roundw
                case rel => exact ⟨t + 1, x2, _, rfl, rfl, HG2.out, HO10.out⟩
                case measure => simp [sliceLen]; have := hDL.out; omega
              | true =>
                rw [Bool.true_and] at hg2
                have HG2 := Lib.hid hg2
                clear hg hown hg2 hot hxD hxx
                go_wp2_with (with_reducible show wpList _ _ _ (Oper.mk (some 76) _ _ _ _ _ :: _) _ _; go_must (refine wpList_append_one (v := .slice lA (t + 1) lc) (w0 := wo) rfl _ _ rfl rfl HOWN.out _ hx64' rfl hml.out ?_; intro v' w9 hown9 hg9 _; obtain ⟨d0, d1⟩ := gb_graph (GB1.out.step (HB.out.trans (hown9.below.mono HB.out.size)))))
                have hbl9 := HB.out.trans (hown9.below.mono HB.out.size)
                have h29 := H1.out.step hbl9
                have t29 := T1.out.step hbl9
                refine (next6_any w9 N A m c es vs xs At nt ct tt h29.g t29 HP.out HT.out x HXX.out).mono ?_
                rintro e w10 ⟨rfl, b10⟩
                rw [show stepOf es tt (twin x) (-1) = nx es tt x from rfl]
                have hown10 := hown9.later b10
                obtain ⟨x2, hx2⟩ : ∃ x2, nx es tt x = x2 := ⟨_, rfl⟩
                rw [hx2] at HG2 ⊢
                rw [← HOT.out] at hown10
                have HO10 := Lib.hid hown10
                obtain ⟨lA2, ln2, lc2, rfl⟩ := hown10.slice_
                have hln2 : ln2 = t + 2 := by
                  obtain ⟨A', n', c', e, his⟩ := hown10.is
                  injection e with e1 e2 e3
                  subst e1 e2 e3
                  have := his.len
                  rw [orbTake_len] at this
                  exact this.symm
                subst hln2
                clear hown9 hg9 d0 d1 hbl9 h29 t29 b10 hown10 hx2
                go_wp2
                go_roundw
                case rel => exact ⟨t + 1, x2, _, rfl, rfl, HG2.out, HO10.out⟩
                case measure => simp [sliceLen]; have := hDL.out; omega
        · obtain rfl : k = 2 * ne := by omega
          rw [List.take_of_length_le (by rw [allDarts_len]; omega)] at ho
          have hge : decide ((((2 * ne : Nat)) : Int) < 2 * (ne : Int)) = false := decide_eq_false (by omega)
          have hcast : (((2 * ne : Nat)) : Int) = 2 * (ne : Int) := by omega
          have hWL := walks_len (tt := tt) HP.out
          obtain ⟨A', n', c', e, hws⟩ := ho.ws (by unfold walksOf at hWL; omega)
          injection e with e1 e2 e3
          subst e1 e2 e3
          have HWS := Lib.hid hws
          have HB := Lib.hid hb
          clear hws ho hb
          rw [hcast]
          go_wp2
          go_ret
          exact ⟨_, _, _, rfl, HWS.out, bstep B1.out HB.out⟩
    · obtain ⟨j, rfl⟩ : ∃ j, k = j + 1 := ⟨k - 1, by omega⟩
      rw [show (((j + 1 : Nat) : Int) - 1) = (j : Int) from by omega]
      obtain ⟨bv, ov, z, hAv, hbv, hz, hz64, hcz⟩ := (H1.out.step hb).v.get (k := j) (by omega)
      subst hAv
      have hzm : z ∈ vs := by rw [← hz.out, getD_idx (by omega)]; exact List.getElem_mem _
      have hzr := HP.out.vr z hzm
      obtain ⟨u, rfl⟩ := Int.eq_ofNat_of_zero_le hzr.1
      obtain ⟨b, o, t, A3, n3, c3', hA, hbb, htk, hc3, ist⟩ := (T1.out.step hb).get (k := u) (by omega)
      subst hA
      have hl3 := ist.len
      have j0 : (0 : Int) ≤ (j : Int) := by omega
      have j1 : (j : Int) < (nv : Int) := by omega
      have u0 : (0 : Int) ≤ (u : Int) := by omega
      have u1 : (u : Int) < (nt : Int) := by omega
      have hstep := lone_step (tt := tt) (show j < vs.length by omega) hz.out
      rw [Int.toNat_natCast, htk.out, hl3] at hstep
      have HST := Lib.hid hstep
      have HOW := Lib.hid ho
      have hl1 : (lone tt (vs.drop (j + 1))).length + 1 ≤ 1000000 := by have := lone_len tt (vs.drop (j + 1)); rw [List.length_drop] at this; omega
      clear ist hstep ho hz hzm htk
      by_cases hn0 : n3 = 0
      · subst hn0
        have hk64 : I64 (-1 - (u : Int)) := ⟨by omega, by omega⟩
        have hwr : IntKind.i64.wrap (-1 - (u : Int)) = -1 - (u : Int) := IntWalk.i64_in _ (by omega)
        have hrow : RowAt wr (Value.slice vA vn vc).ownBlock (.slice none 0 0) [] := ⟨none, 0, 0, rfl, IS.none_, fun h => absurd h (by omega)⟩
        go_wp2_with (with_reducible show wpList _ _ _ (Oper.mk (some 41) _ _ _ _ _ :: _) _ _; go_must (refine wpList_append_walk (v := .slice vA vn vc) (w0 := w1) wtRef rfl _ _ rfl rfl HOW.out hk64 hrow rfl hl1 ?_; intro v' w9 hown' hg' _))
        go_roundw
        case rel => exact ⟨j, by omega, rfl, by rw [HST.out, if_pos rfl]; exact hown'⟩
        case measure => simp [intOf]
      · have hne : ((n3 : Int) == 0) = false := by simp; omega
        have HN0 := Lib.hid hn0
        clear hn0
        go_wp2
        go_roundw
        case rel => exact ⟨j, by omega, rfl, by rw [HST.out, if_neg HN0.out, List.append_nil]; exact HOW.out⟩
        case measure => simp [intOf]
end Go.Proofs.Ythobfbnopkbniaa
