/-
  The walk of the law WalkBeyonds; no conditions.
-/
import Derived.Test.YthobfbnopkbniaaWFars
import Derived.Test.YthobfbnopkbniaaGDarts
import Derived.Test.YthobfbnopkbniaaWPiece
import Derived.Test.YthobfbnopkbniaaWBeyP
import Derived.Test.YthobfbnopkbniaaWOr
import Derived.Test.YthobfbnopkbniaaWSame
import Derived.Test.YthobfbnopkbniaaIdle
namespace Go.Proofs.Ythobfbnopkbniaa
open Go.RowKit

/-- A box that holds a part; its lists. -/
def PBox (w : World) (g : Nat) (A1 : Option Addr) (n1 c1 : Nat) (l1 : List Int) (A2 : Option Addr) (n2 c2 : Nat) (l2 : List Int) : Prop :=
  w.heap[g]? = some (.cells #[.slice A1 n1 c1, .slice A2 n2 c2] 27 (0, 0)) ∧ IS w w.heap.size A1 n1 c1 l1 ∧ IS w w.heap.size A2 n2 c2 l2
/-- A list of integers lies not in a box of slices: what is put there leaves it as it is. -/
theorem IS.past {w : World} {A : Option Addr} {n c g i : Nat} {xs : List Int} {cs : Array Value} {t : TypeId} {fr : Nat × Nat} {v : Value} (h : IS w w.heap.size A n c xs) (hg : w.heap[g]? = some (.cells cs t fr)) (hcs : ∀ (j : Nat) (z : Int), cs[j]? ≠ some (.int .i64 z)) : IS (w.setCell ⟨g, i, none⟩ v) (w.setCell ⟨g, i, none⟩ v).heap.size A n c xs := by
  refine ⟨h.1, h.2.1, h.2.2.1, h.2.2.2.1, fun hn => ?_⟩
  obtain ⟨b, o, e, hb, hc⟩ := h.2.2.2.2 hn
  refine ⟨b, o, e, by simpa [World.setCell] using hb, fun j hj => ?_⟩
  have hbg : b ≠ g := fun e' => by
    subst e'
    have := hc j hj
    rw [cell_of_row w b (o + j) _ _ _ hg] at this
    exact hcs _ _ this
  rw [← hc j hj]
  exact World.cell?_setCell_other _ _ _ _ (fun e' => hbg (by injection e' with h1 _ _; exact h1.symm))
theorem two_no_int {u v : Value} (hu : ∀ z, u ≠ .int .i64 z) (hv : ∀ z, v ≠ .int .i64 z) (j : Nat) (z : Int) : (#[u, v] : Array Value)[j]? ≠ some (.int .i64 z) := by
  match j with
  | 0 => intro h; simp at h; exact hu z h
  | 1 => intro h; simp at h; exact hv z h
  | j + 2 => intro h; simp at h

theorem PBox.step {w w' : World} {g : Nat} {A1 : Option Addr} {n1 c1 : Nat} {l1 : List Int} {A2 : Option Addr} {n2 c2 : Nat} {l2 : List Int} (h : PBox w g A1 n1 c1 l1 A2 n2 c2 l2) (hb : Below w.heap.size w w') : PBox w' g A1 n1 c1 l1 A2 n2 c2 l2 :=
  ⟨(hb.block _ (Array.getElem?_eq_some_iff.1 h.1).1).trans h.1, h.2.1.step hb, h.2.2.step hb⟩
theorem PBox.lt {w : World} {g : Nat} {A1 : Option Addr} {n1 c1 : Nat} {l1 : List Int} {A2 : Option Addr} {n2 c2 : Nat} {l2 : List Int} (h : PBox w g A1 n1 c1 l1 A2 n2 c2 l2) : g < w.heap.size := (Array.getElem?_eq_some_iff.1 h.1).1
theorem PBox.cell {w : World} {g : Nat} {A1 : Option Addr} {n1 c1 : Nat} {l1 : List Int} {A2 : Option Addr} {n2 c2 : Nat} {l2 : List Int} (h : PBox w g A1 n1 c1 l1 A2 n2 c2 l2) :
    w.cell? ⟨g, 0, none⟩ = some (.slice A1 n1 c1) ∧ w.cell? ⟨g, 1, none⟩ = some (.slice A2 n2 c2) ∧ w.frozen? ⟨g, 0, none⟩ = false ∧ w.frozen? ⟨g, 1, none⟩ = false :=
  ⟨cell_of_row w g 0 _ _ _ h.1, cell_of_row w g 1 _ _ _ h.1, frozen_of_row h.1, frozen_of_row h.1⟩
theorem IS.past2 {w : World} {A : Option Addr} {n c g : Nat} {xs : List Int} {A1 A2 : Option Addr} {n1 c1 n2 c2 : Nat} {B1 B2 : Option Addr} {m1 d1 m2 d2 : Nat} {t : TypeId} (h : IS w w.heap.size A n c xs) (hg : w.heap[g]? = some (.cells #[.slice A1 n1 c1, .slice A2 n2 c2] t (0, 0))) :
    IS ((w.setCell ⟨g, 0, none⟩ (.slice B1 m1 d1)).setCell ⟨g, 1, none⟩ (.slice B2 m2 d2)) ((w.setCell ⟨g, 0, none⟩ (.slice B1 m1 d1)).setCell ⟨g, 1, none⟩ (.slice B2 m2 d2)).heap.size A n c xs := by
  have h1 : IS (w.setCell ⟨g, 0, none⟩ (.slice B1 m1 d1)) (w.setCell ⟨g, 0, none⟩ (.slice B1 m1 d1)).heap.size A n c xs := h.past hg (two_no_int (by simp) (by simp))
  have hg1 : (w.setCell ⟨g, 0, none⟩ (.slice B1 m1 d1)).heap[g]? = some (.cells #[.slice B1 m1 d1, .slice A2 n2 c2] t (0, 0)) := by simp [World.setCell, Array.getElem?_modify, hg]
  exact h1.past hg1 (two_no_int (by simp) (by simp))
/-- Two slices are put into a box. -/
theorem box_put {wo w : World} {g : Nat} {A1 A2 : Option Addr} {n1 c1 n2 c2 : Nat} {B1 B2 : Option Addr} {m1 d1 m2 d2 : Nat} {ys zs : List Int} (hg : w.heap[g]? = some (.cells #[.slice A1 n1 c1, .slice A2 n2 c2] 27 (0, 0))) (i1 : IS w w.heap.size B1 m1 d1 ys) (i2 : IS w w.heap.size B2 m2 d2 zs) (hb : Below wo.heap.size wo w) (hn : wo.heap.size ≤ g) :
    PBox ((w.setCell ⟨g, 0, none⟩ (.slice B1 m1 d1)).setCell ⟨g, 1, none⟩ (.slice B2 m2 d2)) g B1 m1 d1 ys B2 m2 d2 zs ∧ Below wo.heap.size wo ((w.setCell ⟨g, 0, none⟩ (.slice B1 m1 d1)).setCell ⟨g, 1, none⟩ (.slice B2 m2 d2)) :=
  ⟨⟨by simp [World.setCell, Array.getElem?_modify, hg], i1.past2 hg, i2.past2 hg⟩, (hb.setCell hn _).setCell hn _⟩
theorem box_start (w : World) (v : Int) (hv : I64 v) : ∃ wa, (w.alloc (.cells #[.int .i64 v] 3)).alloc (.cells #[.slice (some ⟨w.heap.size, 0, none⟩) 1 1, .slice none 0 0] 27) = wa ∧ ∃ ab, w.heap.size + 1 = ab ∧
    PBox wa ab (some ⟨w.heap.size, 0, none⟩) 1 1 [v] none 0 0 [] ∧ Below w.heap.size w wa ∧ w.heap.size ≤ ab := by
  have hb : Below w.heap.size w (w.alloc (.cells #[.int .i64 v] 3)) := (Below.refl _ _).alloc (Nat.le_refl _) _
  have hb2 : Below (w.alloc (.cells #[.int .i64 v] 3)).heap.size _ ((w.alloc (.cells #[.int .i64 v] 3)).alloc (.cells #[.slice (some ⟨w.heap.size, 0, none⟩) 1 1, .slice none 0 0] 27)) := (Below.refl _ _).alloc (Nat.le_refl _) _
  have h1 : IS (w.alloc (.cells #[.int .i64 v] 3)) (w.alloc (.cells #[.int .i64 v] 3)).heap.size (some ⟨w.heap.size, 0, none⟩) 1 1 [v] := (IS.one w v hv).more (by simp)
  exact ⟨_, rfl, _, rfl, ⟨by have := heap_alloc_new (w.alloc (.cells #[.int .i64 v] 3)) (.cells #[.slice (some ⟨w.heap.size, 0, none⟩) 1 1, .slice none 0 0] 27); simpa using this, h1.step hb2, IS.none_⟩, bstep hb hb2, by omega⟩
/-- What the loop over the darts keeps. -/
def BLoop (wo : World) (es : List (Int × Int)) (xs : List Int) (v : Int) (ab : Nat) (A8 : Option Addr) (n8 c8 k : Nat) (ds : List Int) (wr : World) : Prop :=
  Below wo.heap.size wo wr ∧ IS wr wr.heap.size A8 n8 c8 ds ∧ ∃ A1 n1 c1 l1 A2 n2 c2 l2, PBox wr ab A1 n1 c1 l1 A2 n2 c2 l2 ∧ BeyAll es xs v (ds.take k) l1 l2
theorem BeyAll.lens {N : Int} {es : List (Int × Int)} {vs xs ds l1 l2 : List Int} {v : Int} (h : BeyAll es xs v ds l1 l2) (hp : POK N es vs xs) (hv : v ∈ vs) (hd : ∀ d ∈ ds, d ∈ dartsOf es v xs) : l1.length ≤ 1024 ∧ l2.length ≤ 1024 := by
  obtain ⟨hvl, hxl, _⟩ := hp.lens
  refine ⟨Nat.le_trans (nodup_len (sorted_nodup h.up1) fun z hz => ?_) hvl, Nat.le_trans (nodup_len (sorted_nodup h.up2) fun z hz => ((h.mem2 z).1 hz).1) hxl⟩
  rcases (h.mem1 z).1 hz with h1 | ⟨d, h1, _, k, h2⟩
  · exact h1 ▸ hv
  · exact h2.in_ hp (head_in hp (mem_dartsOf.1 (hd d h1)).1).1
theorem BeyIs.lens {N : Int} {es : List (Int × Int)} {vs xs ys zs : List Int} {v d : Int} (h : BeyIs es vs xs v d ys zs) (hp : POK N es vs xs) : ys.length ≤ 1024 ∧ zs.length ≤ 1024 := by
  obtain ⟨hvl, hxl, _⟩ := hp.lens
  rcases h with ⟨_, rfl, rfl⟩ | ⟨_, f, ms, _, rfl, rfl⟩
  · exact ⟨by simp, by simp⟩
  · exact ⟨Nat.le_trans (List.length_filter_le _ _) hvl, Nat.le_trans (List.length_filter_le _ _) hxl⟩

theorem OwnP.part_ {w0 w : World} {v : Value} {n : Nat} {u : Nat → Value} {F : Nat → List Int} (h : OwnP w0 w v n u F) {i : Nat} (hi : i < n) :
    ∃ g c A1 m1 d1 A2 m2 d2, v = .slice (some ⟨g, 0, none⟩) n c ∧ n ≤ c ∧ c ≤ 9223372036854775807 ∧ g < w.heap.size ∧ w.cell? ⟨g, i * 2, none⟩ = some (.slice A1 m1 d1) ∧ w.cell? ⟨g, i * 2 + 1, none⟩ = some (.slice A2 m2 d2) ∧
      IS w w.heap.size A1 m1 d1 (F (i * 2)) ∧ IS w w.heap.size A2 m2 d2 (F (i * 2 + 1)) := by
  obtain ⟨g, c, rfl, h1, h2, _, h4, h5⟩ := h.at_ (i := i * 2) (by omega)
  obtain ⟨A1, m1, d1, e1, i1⟩ := (h.each (i * 2)).is
  obtain ⟨A2, m2, d2, e2, i2⟩ := (h.each (i * 2 + 1)).is
  exact ⟨g, c, A1, m1, d1, A2, m2, d2, rfl, h1, h2, h4, by rw [h5 _ (by omega), e1], by rw [h5 _ (by omega), e2], i1, i2⟩
/-- The run of a store of two slices. -/
theorem run_store_part {w : World} {g : Nat} {x y : Value} (h : w.heap[g]? = some (.cells #[x, y] 27 (0, 0))) (A1 A2 : Option Addr) (n1 c1 n2 c2 : Nat) :
    (Instr.storeAt 27 (.pointer (some ⟨g, 0, none⟩)) (.agg #[.slice A1 n1 c1, .slice A2 n2 c2])).run Try.prog w = .ok () ((w.setCell ⟨g, 0, none⟩ (.slice A1 n1 c1)).setCell ⟨g, 1, none⟩ (.slice A2 n2 c2)) := by
  have k0 : w.cell? ⟨g, 0, none⟩ = some x := cell_of_row w g 0 _ _ _ h
  have k1 : w.cell? ⟨g, 1, none⟩ = some y := cell_of_row w g 1 _ _ _ h
  have f0 : w.frozen? ⟨g, 0, none⟩ = false := frozen_of_row h
  have f1 : w.frozen? ⟨g, 1, none⟩ = false := frozen_of_row h
  unfold Instr.storeAt Instr.sureAddr
  go_simp
/-- What Or answers, of two lists. -/
def OrIs (a b l : List Int) : Prop := l.Pairwise (· < ·) ∧ ∀ z, z ∈ l ↔ z ∈ a ∨ z ∈ b

set_option maxHeartbeats 4000000 in
set_option maxRecDepth 100000 in
theorem law_WalkBeyonds (w : World) (N : Int) (A : Option Addr) (m c : Nat) (es : List (Int × Int)) (Av : Option Addr) (nv cv : Nat) (vs : List Int) (Ae : Option Addr) (ne ce : Nat) (xs : List Int) (v : Int) (h : GP w N A m c es Av nv cv vs Ae ne ce xs) (hv : I64 v) :
    Calls Try.prog 8 #[.agg #[.int .i64 N, .slice A m c], .agg #[.slice Av nv cv, .slice Ae ne ce], .int .i64 v] w fun e w' => e = .returned (.bool true) ∧ Below w.heap.size w w' := by
  obtain ⟨w1, hw1, b1, gb1⟩ := box_gp w N A m c es Av nv cv Ae ne ce
  have h1 := h.step b1
  clear h
  go_enter Try.func8, Try.ntmps8
  go_wp2_with fail
  refine (awake5_any w1).mono ?_
  rintro e w2 ⟨rfl, b2⟩
  have h2 := h1.step b2
  have gb2 := gb1.step b2
  replace b1 := bstep b1 b2
  clear hw1 h1 gb1 b2
  have ⟨_, _, c0, c1, c2, c3, _⟩ := gb2
  by_cases hs : Small N m nv ne
  · have hnv60 := hs.2.1
    have hne60 := hs.2.2.1
    have hm60 := hs.1
    have HS := Lib.hid hs
    clear hs
    go_wp2_with fail
    refine (small_yes w2 N A m c es Av nv cv vs Ae ne ce xs h2 HS.out).mono ?_
    rintro e w3 ⟨rfl, b3⟩
    have h3 := h2.step b3
    have gb3 := gb2.step b3
    replace b1 := bstep b1 b3
    clear h2 gb2 b3 c0 c1 c2 c3
    have ⟨_, _, c0, c1, c2, c3, _⟩ := gb3
    obtain ⟨r, hr⟩ : ∃ r, pRight N es vs xs = r := ⟨_, rfl⟩
    have HR := Lib.hid hr
    go_wp2_with fail
    refine (refRightPart_any w3 N A m c es Av nv cv vs Ae ne ce xs h3).mono ?_
    rintro e w4 ⟨rfl, b4⟩
    rw [HR.out]
    have h4 := h3.step b4
    have gb4 := gb3.step b4
    replace b1 := bstep b1 b4
    clear h3 gb3 b4 c0 c1 c2 c3
    have ⟨_, _, c0, c1, c2, c3, _⟩ := gb4
    by_cases hr0 : r = 0
    · subst hr0
      have hp := Lib.hid (pRight_ok hr)
      clear hr
      by_cases hvv : v ∈ vs
      · have HV := Lib.hid hvv
        clear hvv
        go_wp2_with fail
        refine (in_yes w4 _ Av nv cv vs v h4.v HV.out).mono ?_
        rintro e w5 ⟨rfl, rfl⟩
        go_wp2_with fail
        obtain ⟨wa, hwa, ab, hab, hpb, b5, hab4⟩ := box_start w4 v hv
        rw [hwa, hab]
        have h5 := h4.step b5
        have hmx : m ≤ 1024 := by omega
        have hnx : ne ≤ 1024 := by omega
        have hxr : ∀ x ∈ xs, 0 ≤ x ∧ x < (m : Int) := fun x hx => by have := hp.out.xr x hx; have := h4.g.len; omega
        refine (refDarts_any wa N A m c es Av nv cv vs Ae ne ce xs v h5 hmx hnx hxr).mono ?_
        rintro e w6 ⟨A8, n8, c8, rfl, is8, b6⟩
        have hst : BLoop w4 es xs v ab A8 n8 c8 0 (dartsOf es v xs) w6 := ⟨bstep b5 b6, is8, _, _, _, _, _, _, _, _, hpb.step b6, BeyAll.start_⟩
        have hle8 := is8.le
        have hcap8 := is8.cap
        have HL8 := Lib.hid is8.len
        have B1 := Lib.hid b1
        have H4 := Lib.hid h4
        have GB4 := Lib.hid gb4
        have HAB := Lib.hid hab4
        have hgl := gb4.1
        have hpl := gb4.2.1
        clear hwa hab hpb b5 b6 hab4 is8 h5 h4 gb4 b1 c0 c1 c2 c3 hxr
        go_wp2
        go_loopw [9] (fun i wr => ∃ k : Nat, k ≤ n8 ∧ i = .int .i64 k ∧ BLoop w4 es xs v ab A8 n8 c8 k (dartsOf es v xs) wr) (fun i _ => n8 - (intOf i).toNat)
        case atStart => exact ⟨0, Nat.zero_le _, rfl, hst⟩
        case round =>
          clear hst
          obtain ⟨k, hk, rfl, hbel, is8, A1, n1, c1, l1, A2, n2, c2, l2, hpb, hall⟩ := hrel
          have gb7 := GB4.out.step hbel
          have ⟨_, _, c0, c1', c2', c3, _⟩ := gb7
          by_cases hlt : k < n8
          · obtain ⟨b8, o8, d, rfl, hb8, hd, hd64, hcd⟩ := is8.get hlt
            have hkl : Hid (k < (dartsOf es v xs).length) := Lib.hid (by have := HL8.out; omega)
            have HD := Lib.hid hd.out
            have HDM : Hid (d ∈ dartsOf es v xs) := Lib.hid (by rw [← hd.out, getD_idx hkl.out]; exact List.getElem_mem hkl.out)
            have HBC : Hid (BeyC N es vs xs v d) := Lib.hid ⟨HR.out, by have := mem_dartsOf.1 HDM.out; have := hp.out.xr _ this.1; omega, (mem_dartsOf.1 HDM.out).1, (mem_dartsOf.1 HDM.out).2⟩
            have H7 := Lib.hid (H4.out.step hbel)
            have HALL := Lib.hid hall
            have HPB := Lib.hid hpb
            have IS8 := Lib.hid is8
            have HBEL := Lib.hid hbel
            have hk0 : (0 : Int) ≤ (k : Int) := by omega
            have hk1 : (k : Int) < (n8 : Int) := by omega
            clear hall hpb is8 hbel
            go_wp2
            obtain ⟨wo, hwo⟩ : ∃ wo : World, wo = wr := ⟨_, rfl⟩
            rw [← hwo] at gb7 c0 c1' c2' c3 hb8 hcd H7 HPB IS8 HBEL ⊢
            clear hwo
            refine wp_region_idle 12 10 [[],[],[],[],[],[3,4],[3,4,5],[0,1,2,3,4,5,6],[0,1,2,3,4,5,6,7],[0,1,2,3,4,5,6,7,8],[0,1,2,3,4,5,6,7,8],[]]
              [fun x _ => x = .agg #[.int .i64 N, .slice A m c],
               fun x _ => x = .agg #[.slice Av nv cv, .slice Ae ne ce],
               fun x _ => x = .int .i64 v,
               fun x _ => x = .slice (some ⟨b8, o8, none⟩) n8 c8,
               fun x _ => x = .int .i64 k,
               fun x _ => x = .pointer (some ⟨b8, o8 + k, none⟩),
               fun x _ => x = .int .i64 d,
               fun x w' => ∃ B1 m1 d1 B2 m2 d2 ys zs, x = .tuple #[.agg #[.slice B1 m1 d1, .slice B2 m2 d2], .bool true] ∧ IS w' w'.heap.size B1 m1 d1 ys ∧ IS w' w'.heap.size B2 m2 d2 zs ∧ BeyIs es vs xs v d ys zs,
               fun x w' => ∃ B1 m1 d1 B2 m2 d2 ys zs, x = .tuple #[.agg #[.slice B1 m1 d1, .slice B2 m2 d2], .bool true] ∧ IS w' w'.heap.size B1 m1 d1 ys ∧ IS w' w'.heap.size B2 m2 d2 zs ∧ BeyIs es vs xs v d ys zs,
               fun x w' => ∃ B1 m1 d1 B2 m2 d2 ys zs, x = .agg #[.slice B1 m1 d1, .slice B2 m2 d2] ∧ IS w' w'.heap.size B1 m1 d1 ys ∧ IS w' w'.heap.size B2 m2 d2 zs ∧ BeyIs es vs xs v d ys zs,
               fun x _ => x = .bool true,
               fun x w' => ∃ eb, x = .pointer (some ⟨eb, 0, none⟩) ∧ wo.heap.size ≤ eb ∧ w'.heap[eb]? = some (.cells #[.slice none 0 0, .slice none 0 0] 27 (0, 0))]
              (by kernel_rfl) (by kernel_rfl) rfl rfl rfl rfl rfl rfl rfl rfl rfl rfl rfl ⟨?_, ?_, ?_, ?_, ?_, ?_, ?_, ?_, ?_, ?_, ?_, ?_, trivial⟩ ?_
            · intro wr hx v0 h0 v1 h1 v2 h2 v3 h3 v4 h4 v5 h5 v6 h6 v7 h7 v8 h8 v9 h9 v10 h10 v11 h11 K hK
              have ⟨_, _, q0, q1, q2, q3, _⟩ := gb7.step hx
              have q4 := (hx.cell (p := ⟨b8, o8 + k, none⟩) hb8).trans hcd
              simp only [Act.put, List.setIfInBounds_toArray, List.set_cons_zero, List.set_cons_succ] at hK ⊢
              clear h0 h1 h2 h3 h4 h5 h6 h7 h8 h9 h10 h11
              go_wp2
              exact hK _ _ (Ext.refl _) (fun _ _ => rfl)
            · intro wr hx v0 h0 v1 h1 v2 h2 v3 h3 v4 h4 v5 h5 v6 h6 v7 h7 v8 h8 v9 h9 v10 h10 v11 h11 K hK
              have ⟨_, _, q0, q1, q2, q3, _⟩ := gb7.step hx
              have q4 := (hx.cell (p := ⟨b8, o8 + k, none⟩) hb8).trans hcd
              simp only [Act.put, List.setIfInBounds_toArray, List.set_cons_zero, List.set_cons_succ] at hK ⊢
              clear h0 h1 h2 h3 h4 h5 h6 h7 h8 h9 h10 h11
              go_wp2
              exact hK _ _ (Ext.refl _) (fun _ _ => rfl)
            · intro wr hx v0 h0 v1 h1 v2 h2 v3 h3 v4 h4 v5 h5 v6 h6 v7 h7 v8 h8 v9 h9 v10 h10 v11 h11 K hK
              have ⟨_, _, q0, q1, q2, q3, _⟩ := gb7.step hx
              have q4 := (hx.cell (p := ⟨b8, o8 + k, none⟩) hb8).trans hcd
              simp only [Act.put, List.setIfInBounds_toArray, List.set_cons_zero, List.set_cons_succ] at hK ⊢
              clear h0 h1 h2 h3 h4 h5 h6 h7 h8 h9 h10 h11
              go_wp2
              exact hK _ _ (Ext.refl _) (fun _ _ => rfl)
            · intro wr hx v0 h0 v1 h1 v2 h2 v3 h3 v4 h4 v5 h5 v6 h6 v7 h7 v8 h8 v9 h9 v10 h10 v11 h11 K hK
              have ⟨_, _, q0, q1, q2, q3, _⟩ := gb7.step hx
              have q4 := (hx.cell (p := ⟨b8, o8 + k, none⟩) hb8).trans hcd
              simp only [Act.put, List.setIfInBounds_toArray, List.set_cons_zero, List.set_cons_succ] at hK ⊢
              clear h0 h1 h2 h3 h4 h5 h6 h7 h8 h9 h10 h11
              go_wp2
              exact hK _ _ (Ext.refl _) (fun _ _ => rfl)
            · intro wr hx v0 h0 v1 h1 v2 h2 v3 h3 v4 h4 v5 h5 v6 h6 v7 h7 v8 h8 v9 h9 v10 h10 v11 h11 K hK
              have ⟨_, _, q0, q1, q2, q3, _⟩ := gb7.step hx
              have q4 := (hx.cell (p := ⟨b8, o8 + k, none⟩) hb8).trans hcd
              simp only [Act.put, List.setIfInBounds_toArray, List.set_cons_zero, List.set_cons_succ] at hK ⊢
              clear h0 h1 h2 h3 h4 h5 h6 h7 h8 h9 h10 h11
              go_wp2
              exact hK _ _ (Ext.refl _) (fun _ _ => rfl)
            · intro wr hx v0 h0 v1 h1 v2 h2 v3 h3 v4 h4 v5 h5 v6 h6 v7 h7 v8 h8 v9 h9 v10 h10 v11 h11 K hK
              have ⟨_, _, q0, q1, q2, q3, _⟩ := gb7.step hx
              have q4 := (hx.cell (p := ⟨b8, o8 + k, none⟩) hb8).trans hcd
              simp only [Act.put, List.setIfInBounds_toArray, List.set_cons_zero, List.set_cons_succ] at hK ⊢
              obtain rfl := (h3 (by decide)).now
              obtain rfl := (h4 (by decide)).now
              clear h0 h1 h2 h3 h4 h5 h6 h7 h8 h9 h10 h11
              go_wp2
              exact hK _ _ (Ext.refl _) (fun _ _ => rfl)
            · intro wr hx v0 h0 v1 h1 v2 h2 v3 h3 v4 h4 v5 h5 v6 h6 v7 h7 v8 h8 v9 h9 v10 h10 v11 h11 K hK
              have ⟨_, _, q0, q1, q2, q3, _⟩ := gb7.step hx
              have q4 := (hx.cell (p := ⟨b8, o8 + k, none⟩) hb8).trans hcd
              simp only [Act.put, List.setIfInBounds_toArray, List.set_cons_zero, List.set_cons_succ] at hK ⊢
              obtain rfl := (h5 (by decide)).now
              clear h0 h1 h2 h3 h4 h5 h6 h7 h8 h9 h10 h11
              go_wp2
              exact hK _ _ (Ext.refl _) (fun _ _ => rfl)
            · intro wr hx v0 h0 v1 h1 v2 h2 v3 h3 v4 h4 v5 h5 v6 h6 v7 h7 v8 h8 v9 h9 v10 h10 v11 h11 K hK
              have ⟨_, _, q0, q1, q2, q3, _⟩ := gb7.step hx
              have q4 := (hx.cell (p := ⟨b8, o8 + k, none⟩) hb8).trans hcd
              simp only [Act.put, List.setIfInBounds_toArray, List.set_cons_zero, List.set_cons_succ] at hK ⊢
              obtain rfl := (h0 (by decide)).now
              obtain rfl := (h1 (by decide)).now
              obtain rfl := (h2 (by decide)).now
              obtain rfl := (h6 (by decide)).now
              clear h0 h1 h2 h3 h4 h5 h6 h7 h8 h9 h10 h11
              go_wp2_with fail
              refine (beyond_yes wr N A m c es Av nv cv vs Ae ne ce xs v d (H7.out.step hx) hd64 HBC.out).mono ?_
              rintro e w' ⟨⟨B1, m1, d1, B2, m2, d2, ys, zs, rfl, js1, js2, hbi⟩, hb⟩
              go_wp2
              exact hK _ _ hb (fun w'' hx' => ⟨_, _, _, _, _, _, _, _, rfl, js1.step hx', js2.step hx', hbi⟩)
            · intro wr hx v0 h0 v1 h1 v2 h2 v3 h3 v4 h4 v5 h5 v6 h6 v7 h7 v8 h8 v9 h9 v10 h10 v11 h11 K hK
              have ⟨_, _, q0, q1, q2, q3, _⟩ := gb7.step hx
              have q4 := (hx.cell (p := ⟨b8, o8 + k, none⟩) hb8).trans hcd
              simp only [Act.put, List.setIfInBounds_toArray, List.set_cons_zero, List.set_cons_succ] at hK ⊢
              obtain ⟨B1, m1, d1, B2, m2, d2, ys, zs, rfl, js1, js2, hbi⟩ := (h7 (by decide)).now
              clear h0 h1 h2 h3 h4 h5 h6 h7 h8 h9 h10 h11
              go_wp2
              exact hK _ _ (Ext.refl _) (fun w'' hx' => ⟨_, _, _, _, _, _, _, _, rfl, js1.step hx', js2.step hx', hbi⟩)
            · intro wr hx v0 h0 v1 h1 v2 h2 v3 h3 v4 h4 v5 h5 v6 h6 v7 h7 v8 h8 v9 h9 v10 h10 v11 h11 K hK
              have ⟨_, _, q0, q1, q2, q3, _⟩ := gb7.step hx
              have q4 := (hx.cell (p := ⟨b8, o8 + k, none⟩) hb8).trans hcd
              simp only [Act.put, List.setIfInBounds_toArray, List.set_cons_zero, List.set_cons_succ] at hK ⊢
              obtain ⟨B1, m1, d1, B2, m2, d2, ys, zs, rfl, js1, js2, hbi⟩ := (h8 (by decide)).now
              clear h0 h1 h2 h3 h4 h5 h6 h7 h8 h9 h10 h11
              go_wp2
              exact hK _ _ (Ext.refl _) (fun w'' hx' => ⟨_, _, _, _, _, _, _, _, rfl, js1.step hx', js2.step hx', hbi⟩)
            · intro wr hx v0 h0 v1 h1 v2 h2 v3 h3 v4 h4 v5 h5 v6 h6 v7 h7 v8 h8 v9 h9 v10 h10 v11 h11 K hK
              have ⟨_, _, q0, q1, q2, q3, _⟩ := gb7.step hx
              have q4 := (hx.cell (p := ⟨b8, o8 + k, none⟩) hb8).trans hcd
              simp only [Act.put, List.setIfInBounds_toArray, List.set_cons_zero, List.set_cons_succ] at hK ⊢
              obtain ⟨B1, m1, d1, B2, m2, d2, ys, zs, rfl, js1, js2, hbi⟩ := (h8 (by decide)).now
              clear h0 h1 h2 h3 h4 h5 h6 h7 h8 h9 h10 h11
              go_wp2
              exact hK _ _ (Ext.refl _) (fun _ _ => rfl)
            · intro wr hx v0 h0 v1 h1 v2 h2 v3 h3 v4 h4 v5 h5 v6 h6 v7 h7 v8 h8 v9 h9 v10 h10 v11 h11 K hK
              have ⟨_, _, q0, q1, q2, q3, _⟩ := gb7.step hx
              have q4 := (hx.cell (p := ⟨b8, o8 + k, none⟩) hb8).trans hcd
              simp only [Act.put, List.setIfInBounds_toArray, List.set_cons_zero, List.set_cons_succ] at hK ⊢
              clear h0 h1 h2 h3 h4 h5 h6 h7 h8 h9 h10 h11
              go_wp2
              exact hK _ _ (Ext.alloc _ _) (fun w'' hx' => ⟨_, rfl, hx.size, (hx'.block _ (by simp)).trans (heap_alloc_new wr _)⟩)
            intro w8 hx v0 h0 v1 h1 v2 h2 v3 h3 v4 h4 v5 h5 v6 h6 v7 h7 v8 h8 v9 h9 v10 h10 v11 h11
            have ⟨_, _, q0, q1, q2, q3, _⟩ := gb7.step hx
            have q4 := (hx.cell (p := ⟨b8, o8 + k, none⟩) hb8).trans hcd
            obtain ⟨B1, m1, d1, B2, m2, d2, ys, zs, rfl, js1, js2, hbi⟩ := h9.now
            obtain rfl := h10.now
            obtain ⟨eb, rfl, hebw, hebc⟩ := h11.now
            clear h0 h1 h2 h3 h4 h5 h6 h7 h8 h9 h10 h11
            simp only [List.drop_succ_cons, List.drop_zero, Act.put, List.setIfInBounds_toArray, List.set_cons_zero, List.set_cons_succ]
            refine ⟨_, run_store_part hebc _ _ _ _ _ _, ?_⟩
            obtain ⟨pe, bq⟩ := box_put hebc js1 js2 hx hebw
            obtain ⟨w9, hw9⟩ : ∃ w9, (w8.setCell ⟨eb, 0, none⟩ (.slice B1 m1 d1)).setCell ⟨eb, 1, none⟩ (.slice B2 m2 d2) = w9 := ⟨_, rfl⟩
            rw [hw9] at pe bq ⊢
            have pa := HPB.out.step bq
            have hup := hbi.up hp.out
            have hls := hbi.lens hp.out
            have hla := HALL.out.lens hp.out HV.out (fun d' hd' => List.mem_of_mem_take hd')
            have HBI := Lib.hid hbi
            have PA := Lib.hid pa
            have PE := Lib.hid pe
            have BQ := Lib.hid bq
            have ebl : eb < w9.heap.size := (Array.getElem?_eq_some_iff.1 pe.1).1
            have abl : ab < w9.heap.size := (Array.getElem?_eq_some_iff.1 pa.1).1
            have ⟨ka0, ka1, fa0, fa1⟩ := PBox.cell pa
            have ⟨ke0, ke1, _, _⟩ := PBox.cell pe
            clear hx hebc js1 js2 hbi q0 q1 q2 q3 q4 c0 c1' c2' c3 gb7 hw9 pa pe bq hcd
            go_wp2_with fail
            refine wp_region_rel 11 [[],[0],[],[2],[0,1,2,3],[],[5],[],[7],[0,1,2,3,4,5,6,7,8],[0,1,2,3,4,5,6,7,8,9]]
              [fun x _ => x = .pointer (some ⟨ab, 0, none⟩),
               fun x _ => x = .slice A1 n1 c1,
               fun x _ => x = .pointer (some ⟨eb, 0, none⟩),
               fun x _ => x = .slice B1 m1 d1,
               fun x w' => ∃ A3 n3 c3 l3, x = .slice A3 n3 c3 ∧ IS w' w'.heap.size A3 n3 c3 l3 ∧ OrIs l1 ys l3,
               fun x _ => x = .pointer (some ⟨ab, 1, none⟩),
               fun x _ => x = .slice A2 n2 c2,
               fun x _ => x = .pointer (some ⟨eb, 1, none⟩),
               fun x _ => x = .slice B2 m2 d2,
               fun x w' => ∃ A3 n3 c3 l3, x = .slice A3 n3 c3 ∧ IS w' w'.heap.size A3 n3 c3 l3 ∧ OrIs l2 zs l3,
               fun x w' => ∃ A3 n3 c3 l3 A4 n4 c4 l4, x = .agg #[.slice A3 n3 c3, .slice A4 n4 c4] ∧ IS w' w'.heap.size A3 n3 c3 l3 ∧ IS w' w'.heap.size A4 n4 c4 l4 ∧ OrIs l1 ys l3 ∧ OrIs l2 zs l4]
              (by kernel_rfl) (by kernel_rfl) rfl ⟨?_, ?_, ?_, ?_, ?_, ?_, ?_, ?_, ?_, ?_, ?_, trivial⟩ ?_
            · intro wr hx v0 h0 v1 h1 v2 h2 v3 h3 v4 h4 v5 h5 v6 h6 v7 h7 v8 h8 v9 h9 v10 h10 K hK
              have z0 := (hx.cell (p := ⟨ab, 0, none⟩) abl).trans ka0
              have z1 := (hx.cell (p := ⟨ab, 1, none⟩) abl).trans ka1
              have z2 := (hx.cell (p := ⟨eb, 0, none⟩) ebl).trans ke0
              have z3 := (hx.cell (p := ⟨eb, 1, none⟩) ebl).trans ke1
              simp only [Act.put, List.setIfInBounds_toArray, List.set_cons_zero, List.set_cons_succ] at hK ⊢
              clear h0 h1 h2 h3 h4 h5 h6 h7 h8 h9 h10
              go_wp2
              exact hK _ _ (Ext.refl _) (fun _ _ => rfl)
            · intro wr hx v0 h0 v1 h1 v2 h2 v3 h3 v4 h4 v5 h5 v6 h6 v7 h7 v8 h8 v9 h9 v10 h10 K hK
              have z0 := (hx.cell (p := ⟨ab, 0, none⟩) abl).trans ka0
              have z1 := (hx.cell (p := ⟨ab, 1, none⟩) abl).trans ka1
              have z2 := (hx.cell (p := ⟨eb, 0, none⟩) ebl).trans ke0
              have z3 := (hx.cell (p := ⟨eb, 1, none⟩) ebl).trans ke1
              simp only [Act.put, List.setIfInBounds_toArray, List.set_cons_zero, List.set_cons_succ] at hK ⊢
              obtain rfl := (h0 (by decide)).now
              clear h0 h1 h2 h3 h4 h5 h6 h7 h8 h9 h10
              go_wp2
              exact hK _ _ (Ext.refl _) (fun _ _ => rfl)
            · intro wr hx v0 h0 v1 h1 v2 h2 v3 h3 v4 h4 v5 h5 v6 h6 v7 h7 v8 h8 v9 h9 v10 h10 K hK
              have z0 := (hx.cell (p := ⟨ab, 0, none⟩) abl).trans ka0
              have z1 := (hx.cell (p := ⟨ab, 1, none⟩) abl).trans ka1
              have z2 := (hx.cell (p := ⟨eb, 0, none⟩) ebl).trans ke0
              have z3 := (hx.cell (p := ⟨eb, 1, none⟩) ebl).trans ke1
              simp only [Act.put, List.setIfInBounds_toArray, List.set_cons_zero, List.set_cons_succ] at hK ⊢
              clear h0 h1 h2 h3 h4 h5 h6 h7 h8 h9 h10
              go_wp2
              exact hK _ _ (Ext.refl _) (fun _ _ => rfl)
            · intro wr hx v0 h0 v1 h1 v2 h2 v3 h3 v4 h4 v5 h5 v6 h6 v7 h7 v8 h8 v9 h9 v10 h10 K hK
              have z0 := (hx.cell (p := ⟨ab, 0, none⟩) abl).trans ka0
              have z1 := (hx.cell (p := ⟨ab, 1, none⟩) abl).trans ka1
              have z2 := (hx.cell (p := ⟨eb, 0, none⟩) ebl).trans ke0
              have z3 := (hx.cell (p := ⟨eb, 1, none⟩) ebl).trans ke1
              simp only [Act.put, List.setIfInBounds_toArray, List.set_cons_zero, List.set_cons_succ] at hK ⊢
              obtain rfl := (h2 (by decide)).now
              clear h0 h1 h2 h3 h4 h5 h6 h7 h8 h9 h10
              go_wp2
              exact hK _ _ (Ext.refl _) (fun _ _ => rfl)
            · intro wr hx v0 h0 v1 h1 v2 h2 v3 h3 v4 h4 v5 h5 v6 h6 v7 h7 v8 h8 v9 h9 v10 h10 K hK
              have z0 := (hx.cell (p := ⟨ab, 0, none⟩) abl).trans ka0
              have z1 := (hx.cell (p := ⟨ab, 1, none⟩) abl).trans ka1
              have z2 := (hx.cell (p := ⟨eb, 0, none⟩) ebl).trans ke0
              have z3 := (hx.cell (p := ⟨eb, 1, none⟩) ebl).trans ke1
              simp only [Act.put, List.setIfInBounds_toArray, List.set_cons_zero, List.set_cons_succ] at hK ⊢
              obtain rfl := (h1 (by decide)).now
              obtain rfl := (h3 (by decide)).now
              clear h0 h1 h2 h3 h4 h5 h6 h7 h8 h9 h10
              go_wp2_with fail
              refine (refOr_any wr _ _ _ _ _ _ l1 ys (PA.out.step hx).2.1 (PE.out.step hx).2.1 HALL.out.up1 hup.1 (by have := PA.out.2.1.len; omega) (by have := PE.out.2.1.len; omega)).mono ?_
              rintro e w' ⟨A3, n3, c3, l3, rfl, js3, u3, m3, hb⟩
              go_wp2
              exact hK _ _ hb (fun w'' hx' => ⟨_, _, _, _, rfl, js3.step hx', u3, m3⟩)
            · intro wr hx v0 h0 v1 h1 v2 h2 v3 h3 v4 h4 v5 h5 v6 h6 v7 h7 v8 h8 v9 h9 v10 h10 K hK
              have z0 := (hx.cell (p := ⟨ab, 0, none⟩) abl).trans ka0
              have z1 := (hx.cell (p := ⟨ab, 1, none⟩) abl).trans ka1
              have z2 := (hx.cell (p := ⟨eb, 0, none⟩) ebl).trans ke0
              have z3 := (hx.cell (p := ⟨eb, 1, none⟩) ebl).trans ke1
              simp only [Act.put, List.setIfInBounds_toArray, List.set_cons_zero, List.set_cons_succ] at hK ⊢
              clear h0 h1 h2 h3 h4 h5 h6 h7 h8 h9 h10
              go_wp2
              exact hK _ _ (Ext.refl _) (fun _ _ => rfl)
            · intro wr hx v0 h0 v1 h1 v2 h2 v3 h3 v4 h4 v5 h5 v6 h6 v7 h7 v8 h8 v9 h9 v10 h10 K hK
              have z0 := (hx.cell (p := ⟨ab, 0, none⟩) abl).trans ka0
              have z1 := (hx.cell (p := ⟨ab, 1, none⟩) abl).trans ka1
              have z2 := (hx.cell (p := ⟨eb, 0, none⟩) ebl).trans ke0
              have z3 := (hx.cell (p := ⟨eb, 1, none⟩) ebl).trans ke1
              simp only [Act.put, List.setIfInBounds_toArray, List.set_cons_zero, List.set_cons_succ] at hK ⊢
              obtain rfl := (h5 (by decide)).now
              clear h0 h1 h2 h3 h4 h5 h6 h7 h8 h9 h10
              go_wp2
              exact hK _ _ (Ext.refl _) (fun _ _ => rfl)
            · intro wr hx v0 h0 v1 h1 v2 h2 v3 h3 v4 h4 v5 h5 v6 h6 v7 h7 v8 h8 v9 h9 v10 h10 K hK
              have z0 := (hx.cell (p := ⟨ab, 0, none⟩) abl).trans ka0
              have z1 := (hx.cell (p := ⟨ab, 1, none⟩) abl).trans ka1
              have z2 := (hx.cell (p := ⟨eb, 0, none⟩) ebl).trans ke0
              have z3 := (hx.cell (p := ⟨eb, 1, none⟩) ebl).trans ke1
              simp only [Act.put, List.setIfInBounds_toArray, List.set_cons_zero, List.set_cons_succ] at hK ⊢
              clear h0 h1 h2 h3 h4 h5 h6 h7 h8 h9 h10
              go_wp2
              exact hK _ _ (Ext.refl _) (fun _ _ => rfl)
            · intro wr hx v0 h0 v1 h1 v2 h2 v3 h3 v4 h4 v5 h5 v6 h6 v7 h7 v8 h8 v9 h9 v10 h10 K hK
              have z0 := (hx.cell (p := ⟨ab, 0, none⟩) abl).trans ka0
              have z1 := (hx.cell (p := ⟨ab, 1, none⟩) abl).trans ka1
              have z2 := (hx.cell (p := ⟨eb, 0, none⟩) ebl).trans ke0
              have z3 := (hx.cell (p := ⟨eb, 1, none⟩) ebl).trans ke1
              simp only [Act.put, List.setIfInBounds_toArray, List.set_cons_zero, List.set_cons_succ] at hK ⊢
              obtain rfl := (h7 (by decide)).now
              clear h0 h1 h2 h3 h4 h5 h6 h7 h8 h9 h10
              go_wp2
              exact hK _ _ (Ext.refl _) (fun _ _ => rfl)
            · intro wr hx v0 h0 v1 h1 v2 h2 v3 h3 v4 h4 v5 h5 v6 h6 v7 h7 v8 h8 v9 h9 v10 h10 K hK
              have z0 := (hx.cell (p := ⟨ab, 0, none⟩) abl).trans ka0
              have z1 := (hx.cell (p := ⟨ab, 1, none⟩) abl).trans ka1
              have z2 := (hx.cell (p := ⟨eb, 0, none⟩) ebl).trans ke0
              have z3 := (hx.cell (p := ⟨eb, 1, none⟩) ebl).trans ke1
              simp only [Act.put, List.setIfInBounds_toArray, List.set_cons_zero, List.set_cons_succ] at hK ⊢
              obtain rfl := (h6 (by decide)).now
              obtain rfl := (h8 (by decide)).now
              clear h0 h1 h2 h3 h4 h5 h6 h7 h8 h9 h10
              go_wp2_with fail
              refine (refOr_any wr _ _ _ _ _ _ l2 zs (PA.out.step hx).2.2 (PE.out.step hx).2.2 HALL.out.up2 hup.2 (by have := PA.out.2.2.len; omega) (by have := PE.out.2.2.len; omega)).mono ?_
              rintro e w' ⟨A3, n3, c3, l3, rfl, js3, u3, m3, hb⟩
              go_wp2
              exact hK _ _ hb (fun w'' hx' => ⟨_, _, _, _, rfl, js3.step hx', u3, m3⟩)
            · intro wr hx v0 h0 v1 h1 v2 h2 v3 h3 v4 h4 v5 h5 v6 h6 v7 h7 v8 h8 v9 h9 v10 h10 K hK
              have z0 := (hx.cell (p := ⟨ab, 0, none⟩) abl).trans ka0
              have z1 := (hx.cell (p := ⟨ab, 1, none⟩) abl).trans ka1
              have z2 := (hx.cell (p := ⟨eb, 0, none⟩) ebl).trans ke0
              have z3 := (hx.cell (p := ⟨eb, 1, none⟩) ebl).trans ke1
              simp only [Act.put, List.setIfInBounds_toArray, List.set_cons_zero, List.set_cons_succ] at hK ⊢
              obtain ⟨A3, n3, c3, l3, rfl, js3, o3⟩ := (h4 (by decide)).now
              obtain ⟨A4, n4, c4, l4, rfl, js4, o4⟩ := (h9 (by decide)).now
              clear h0 h1 h2 h3 h4 h5 h6 h7 h8 h9 h10
              go_wp2
              exact hK _ _ (Ext.refl _) (fun w'' hx' => ⟨_, _, _, _, _, _, _, _, rfl, js3.step hx', js4.step hx', o3, o4⟩)
            intro w10 hx v0 h0 v1 h1 v2 h2 v3 h3 v4 h4 v5 h5 v6 h6 v7 h7 v8 h8 v9 h9 v10 h10
            have z0 := (hx.cell (p := ⟨ab, 0, none⟩) abl).trans ka0
            have z1 := (hx.cell (p := ⟨ab, 1, none⟩) abl).trans ka1
            have z2 := (hx.cell (p := ⟨eb, 0, none⟩) ebl).trans ke0
            have z3 := (hx.cell (p := ⟨eb, 1, none⟩) ebl).trans ke1
            obtain ⟨A3, n3, c3, l3, A4, n4, c4, l4, rfl, js3, js4, o3, o4⟩ := h10.now
            clear h0 h1 h2 h3 h4 h5 h6 h7 h8 h9 h10
            refine tail_seq (by kernel_rfl) ?_
            simp only [List.drop_succ_cons, List.drop_zero, Act.put, List.setIfInBounds_toArray, List.set_cons_zero, List.set_cons_succ]
            have pa := PA.out.step hx
            have ⟨y0, y1, y2, y3⟩ := PBox.cell pa
            have h410 : Below w4.heap.size w4 w10 := bstep (bstep HBEL.out BQ.out) hx
            obtain ⟨pb, bb⟩ := box_put pa.1 js3 js4 h410 HAB.out
            have is8' := ((IS8.out.step BQ.out).step hx).past2 (B1 := A3) (B2 := A4) (m1 := n3) (d1 := c3) (m2 := n4) (d2 := c4) pa.1
            have hmore := HALL.out.more hp.out HBI.out HV.out HDM.out o3.1 o4.1 o3.2 o4.2
            rw [← take_getD hkl.out HD.out] at hmore
            have HM := Lib.hid hmore
            have PB := Lib.hid pb
            have BB := Lib.hid bb
            have IS8' := Lib.hid is8'
            clear z0 z1 z2 z3 ka0 ka1 ke0 ke1 fa0 fa1 js3 js4 o3 o4 hmore pb bb is8' pa hx h410
            go_wp2
            go_roundw
            case rel => exact ⟨k + 1, by omega, by go_num, BB.out, IS8'.out, _, _, _, _, _, _, _, _, PB.out, HM.out⟩
            case measure => simp [intOf]; omega
          · obtain rfl : k = n8 := by omega
            have hall' : BeyAll es xs v (dartsOf es v xs) l1 l2 := by rwa [List.take_of_length_le (Nat.le_of_eq HL8.out)] at hall
            have HALL := Lib.hid hall'
            have HPB := Lib.hid hpb
            have HBEL := Lib.hid hbel
            clear hall hall' hpb is8
            go_wp2_with fail
            refine (pieces_any wr N A m c es Av nv cv vs Ae ne ce xs (H4.out.step hbel)).mono ?_
            rintro e w7 ⟨b7, ⟨hr, _⟩ | ⟨hr, v7, n7, f, u, F, rfl, hown, hpc, hfl⟩⟩
            · exact absurd HR.out hr
            · obtain ⟨pA, pc, rfl⟩ := hown.len
              have OW := Lib.hid hown
              have PC := Lib.hid hpc
              have FL := Lib.hid hfl
              have PB7 := Lib.hid (HPB.out.step b7)
              have B7 := Lib.hid (bstep HBEL.out b7)
              have hn7 : n7 ≤ 1024 := by have := hpc.le; have := hp.out.lens; omega
              clear hown hpc hfl hr hbel gb7 c0 c1' c2' c3 b7
              go_wp2_with fail
              go_loopw [14] (fun i wr => ∃ j : Nat, j ≤ n7 ∧ i = .int .i64 j ∧ (∀ q : Nat, q < j → f v ≠ some (q : Int)) ∧ Ext w7 wr) (fun i _ => n7 - (intOf i).toNat)
              case atStart => exact ⟨0, Nat.zero_le _, rfl, fun q hq => absurd hq (by omega), Ext.refl _⟩
              case round =>
                obtain ⟨j, hj, rfl, hnot, hx7⟩ := hrel
                have HN := Lib.hid hnot
                clear hnot
                by_cases hjl : j < n7
                · obtain ⟨g, cc, A5, m5, d5, A6, m6, d6, hsl, hnc, hcm, hgw, e0, e1, i1, i2⟩ := (OW.out.later hx7).part_ hjl
                  cases hsl
                  have hj0 : (0 : Int) ≤ (j : Int) := by omega
                  have hj1 : (j : Int) < (n7 : Int) := by omega
                  have I1 := Lib.hid i1
                  have I2 := Lib.hid i2
                  clear i1 i2
                  by_cases hin : v ∈ F (j * 2)
                  · have hfv : f v = some (j : Int) := by
                      rw [(FL.out j).1, List.mem_filter] at hin
                      exact of_decide_eq_true (by simpa using hin.2)
                    have HEND := Lib.hid (HALL.out.end_ hp.out PC.out HV.out hfv)
                    have HIN := Lib.hid hin
                    clear hin hfv
                    go_wp2_with fail
                    refine (in_yes wr _ A5 _ _ _ v I1.out HIN.out).mono ?_
                    rintro e w9 ⟨rfl, rfl⟩
                    have pbx := PB7.out.step hx7
                    have ⟨y0, y1, _, _⟩ := PBox.cell pbx
                    have abx : ab < wr.heap.size := (Array.getElem?_eq_some_iff.1 pbx.1).1
                    have PBX := Lib.hid pbx
                    clear pbx
                    go_wp2_with fail
                    refine wp_region_rel 7 [[],[],[0,1],[0,1,2],[],[0,1,2,3,4],[0,1,2,3,4,5]]
                      [fun x _ => x = .slice (some ⟨g, 0, none⟩) n7 pc,
                       fun x _ => x = .int .i64 j,
                       fun x _ => x = .pointer (some ⟨g, j * 2, none⟩),
                       fun x _ => x = .agg #[.slice A5 m5 d5, .slice A6 m6 d6],
                       fun x _ => x = .agg #[.slice A1 n1 c1, .slice A2 n2 c2],
                       fun x _ => x = .bool true,
                       fun x _ => x = .bool true]
                      (by kernel_rfl) (by kernel_rfl) rfl ⟨?_, ?_, ?_, ?_, ?_, ?_, ?_, trivial⟩ ?_
                    · intro wr hx v0 h0 v1 h1 v2 h2 v3 h3 v4 h4 v5 h5 v6 h6 K hK
                      have z0 := (hx.cell (p := ⟨ab, 0, none⟩) abx).trans y0
                      have z1 := (hx.cell (p := ⟨ab, 1, none⟩) abx).trans y1
                      have z2 := (hx.cell (p := ⟨g, j * 2, none⟩) hgw).trans e0
                      have z3 := (hx.cell (p := ⟨g, j * 2 + 1, none⟩) hgw).trans e1
                      simp only [Act.put, List.setIfInBounds_toArray, List.set_cons_zero, List.set_cons_succ] at hK ⊢
                      clear h0 h1 h2 h3 h4 h5 h6
                      go_wp2
                      exact hK _ _ (Ext.refl _) (fun _ _ => rfl)
                    · intro wr hx v0 h0 v1 h1 v2 h2 v3 h3 v4 h4 v5 h5 v6 h6 K hK
                      have z0 := (hx.cell (p := ⟨ab, 0, none⟩) abx).trans y0
                      have z1 := (hx.cell (p := ⟨ab, 1, none⟩) abx).trans y1
                      have z2 := (hx.cell (p := ⟨g, j * 2, none⟩) hgw).trans e0
                      have z3 := (hx.cell (p := ⟨g, j * 2 + 1, none⟩) hgw).trans e1
                      simp only [Act.put, List.setIfInBounds_toArray, List.set_cons_zero, List.set_cons_succ] at hK ⊢
                      clear h0 h1 h2 h3 h4 h5 h6
                      go_wp2
                      exact hK _ _ (Ext.refl _) (fun _ _ => rfl)
                    · intro wr hx v0 h0 v1 h1 v2 h2 v3 h3 v4 h4 v5 h5 v6 h6 K hK
                      have z0 := (hx.cell (p := ⟨ab, 0, none⟩) abx).trans y0
                      have z1 := (hx.cell (p := ⟨ab, 1, none⟩) abx).trans y1
                      have z2 := (hx.cell (p := ⟨g, j * 2, none⟩) hgw).trans e0
                      have z3 := (hx.cell (p := ⟨g, j * 2 + 1, none⟩) hgw).trans e1
                      simp only [Act.put, List.setIfInBounds_toArray, List.set_cons_zero, List.set_cons_succ] at hK ⊢
                      obtain rfl := (h0 (by decide)).now
                      obtain rfl := (h1 (by decide)).now
                      clear h0 h1 h2 h3 h4 h5 h6
                      go_wp2
                      exact hK _ _ (Ext.refl _) (fun _ _ => rfl)
                    · intro wr hx v0 h0 v1 h1 v2 h2 v3 h3 v4 h4 v5 h5 v6 h6 K hK
                      have z0 := (hx.cell (p := ⟨ab, 0, none⟩) abx).trans y0
                      have z1 := (hx.cell (p := ⟨ab, 1, none⟩) abx).trans y1
                      have z2 := (hx.cell (p := ⟨g, j * 2, none⟩) hgw).trans e0
                      have z3 := (hx.cell (p := ⟨g, j * 2 + 1, none⟩) hgw).trans e1
                      simp only [Act.put, List.setIfInBounds_toArray, List.set_cons_zero, List.set_cons_succ] at hK ⊢
                      obtain rfl := (h2 (by decide)).now
                      clear h0 h1 h2 h3 h4 h5 h6
                      go_wp2
                      exact hK _ _ (Ext.refl _) (fun _ _ => rfl)
                    · intro wr hx v0 h0 v1 h1 v2 h2 v3 h3 v4 h4 v5 h5 v6 h6 K hK
                      have z0 := (hx.cell (p := ⟨ab, 0, none⟩) abx).trans y0
                      have z1 := (hx.cell (p := ⟨ab, 1, none⟩) abx).trans y1
                      have z2 := (hx.cell (p := ⟨g, j * 2, none⟩) hgw).trans e0
                      have z3 := (hx.cell (p := ⟨g, j * 2 + 1, none⟩) hgw).trans e1
                      simp only [Act.put, List.setIfInBounds_toArray, List.set_cons_zero, List.set_cons_succ] at hK ⊢
                      clear h0 h1 h2 h3 h4 h5 h6
                      go_wp2
                      exact hK _ _ (Ext.refl _) (fun _ _ => rfl)
                    · intro wr hx v0 h0 v1 h1 v2 h2 v3 h3 v4 h4 v5 h5 v6 h6 K hK
                      have z0 := (hx.cell (p := ⟨ab, 0, none⟩) abx).trans y0
                      have z1 := (hx.cell (p := ⟨ab, 1, none⟩) abx).trans y1
                      have z2 := (hx.cell (p := ⟨g, j * 2, none⟩) hgw).trans e0
                      have z3 := (hx.cell (p := ⟨g, j * 2 + 1, none⟩) hgw).trans e1
                      simp only [Act.put, List.setIfInBounds_toArray, List.set_cons_zero, List.set_cons_succ] at hK ⊢
                      obtain rfl := (h3 (by decide)).now
                      obtain rfl := (h4 (by decide)).now
                      clear h0 h1 h2 h3 h4 h5 h6
                      go_wp2_with fail
                      refine (refSame_any _ A5 A6 A1 A2 _ _ _ _ _ _ _ _ (F (j * 2)) (F (j * 2 + 1)) l1 l2 (I1.out.step hx) (I2.out.step hx) (PBX.out.step hx).2.1 (PBX.out.step hx).2.2).mono ?_
                      rintro e w9 ⟨rfl, b9⟩
                      rw [decide_eq_true ⟨(FL.out j).1.trans HEND.out.1, (FL.out j).2.trans HEND.out.2⟩]
                      go_wp2
                      exact hK _ _ b9 (fun _ _ => rfl)
                    · intro wr hx v0 h0 v1 h1 v2 h2 v3 h3 v4 h4 v5 h5 v6 h6 K hK
                      have z0 := (hx.cell (p := ⟨ab, 0, none⟩) abx).trans y0
                      have z1 := (hx.cell (p := ⟨ab, 1, none⟩) abx).trans y1
                      have z2 := (hx.cell (p := ⟨g, j * 2, none⟩) hgw).trans e0
                      have z3 := (hx.cell (p := ⟨g, j * 2 + 1, none⟩) hgw).trans e1
                      simp only [Act.put, List.setIfInBounds_toArray, List.set_cons_zero, List.set_cons_succ] at hK ⊢
                      obtain rfl := (h5 (by decide)).now
                      clear h0 h1 h2 h3 h4 h5 h6
                      go_wp2
                      exact hK _ _ (Ext.refl _) (fun _ _ => rfl)
                    intro w10 hx v0 h0 v1 h1 v2 h2 v3 h3 v4 h4 v5 h5 v6 h6
                    have z0 := (hx.cell (p := ⟨ab, 0, none⟩) abx).trans y0
                    have z1 := (hx.cell (p := ⟨ab, 1, none⟩) abx).trans y1
                    have z2 := (hx.cell (p := ⟨g, j * 2, none⟩) hgw).trans e0
                    have z3 := (hx.cell (p := ⟨g, j * 2 + 1, none⟩) hgw).trans e1
                    obtain rfl := h6.now
                    clear h0 h1 h2 h3 h4 h5 h6
                    refine tail_none (by kernel_rfl) ?_
                    simp only [Act.put, List.setIfInBounds_toArray, List.set_cons_zero, List.set_cons_succ]
                    go_wp2
                    go_ret
                    exact ⟨rfl, bstep B1.out (bstep (bstep B7.out hx7) hx)⟩
                  · have hne : Hid (f v ≠ some (j : Int)) := Lib.hid fun hf => hin (by
                      rw [(FL.out j).1, List.mem_filter]
                      exact ⟨HV.out, by simp [hf]⟩)
                    have HIN := Lib.hid hin
                    clear hin
                    go_wp2_with fail
                    refine (in_no wr _ A5 _ _ _ v I1.out HIN.out).mono ?_
                    rintro e w9 ⟨rfl, rfl⟩
                    clear e0 e1
                    go_wp2
                    go_roundw
                    case rel =>
                      refine ⟨j + 1, by omega, by go_num, fun q hq => ?_, hx7⟩
                      rcases Nat.lt_or_ge q j with hqj | hqj
                      · exact HN.out q hqj
                      · obtain rfl : q = j := by omega
                        exact hne.out
                    case measure => simp [intOf]; omega
                · exfalso
                  have h1 := PC.out.all v HV.out
                  obtain ⟨k', hk'⟩ := Option.isSome_iff_exists.1 h1
                  obtain ⟨i', rfl, hi'⟩ := PC.out.lt v k' hk'
                  exact HN.out i' (by omega) hk'
      · have HV := Lib.hid hvv
        clear hvv
        go_wp2_with fail
        refine (in_no w4 _ Av nv cv vs v h4.v HV.out).mono ?_
        rintro e w5 ⟨rfl, rfl⟩
        go_wp2_with fail
        refine (awake5_any w4).mono ?_
        rintro e w6 ⟨rfl, b6⟩
        go_wp2
        go_ret
        exact ⟨rfl, bstep b1 b6⟩
    · have hrb : (r != 0) = true := by simp [hr0]
      clear hr0 hr
      go_wp2_with fail
      refine (awake5_any w4).mono ?_
      rintro e w6 ⟨rfl, b6⟩
      go_wp2
      go_ret
      exact ⟨rfl, bstep b1 b6⟩
  ·
    have HS := Lib.hid hs
    clear hs
    go_wp2_with fail
    refine (small_no w2 N A m c es Av nv cv vs Ae ne ce xs h2 HS.out).mono ?_
    rintro e w3 ⟨rfl, b3⟩
    go_wp2_with fail
    refine (awake5_any w3).mono ?_
    rintro e w4 ⟨rfl, b4⟩
    go_wp2
    go_ret
    exact ⟨rfl, bstep (bstep b1 b3) b4⟩
end Go.Proofs.Ythobfbnopkbniaa
