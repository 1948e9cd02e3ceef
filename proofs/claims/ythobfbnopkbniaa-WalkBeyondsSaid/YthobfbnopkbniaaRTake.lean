/-
  The contract of rota.take, for lists of at most 1024 numbers each, at most 1024 of them; no other conditions.
-/
import Derived.Test.YthobfbnopkbniaaRTakeA
import Derived.Deep.DeepMust
namespace Go.Proofs.Ythobfbnopkbniaa
open Go.RowKit

/-- The turns' struct at block r: its lists tt, the vertices lv that darts leave, their places pl, all darts ds. -/
def RS (w : World) (r : Nat) (lv : Int → Option Int) (tt : List (List Int)) (pl : Int → Option Int) (ds : List Int) : Prop :=
  ∃ At nt ct lb nl pb np Ad nd cd, r < w.heap.size ∧ w.cell? ⟨r, 0, none⟩ = some (.slice At nt ct) ∧ w.cell? ⟨r, 1, none⟩ = some (.map (some lb)) ∧ w.cell? ⟨r, 2, none⟩ = some (.map (some pb)) ∧ w.cell? ⟨r, 3, none⟩ = some (.slice Ad nd cd) ∧
    TS w w.heap.size At nt ct tt ∧ MI w lb nl lv ∧ MI w pb np pl ∧ IS w w.heap.size Ad nd cd ds
theorem MV.step {w w' : World} {b n : Nat} {f : Int → Option Value} (h : MV w b n f) (hb : Below w.heap.size w w') : MV w' b n f := h.below hb h.lt
theorem RS.step {w w' : World} {r : Nat} {lv : Int → Option Int} {tt : List (List Int)} {pl : Int → Option Int} {ds : List Int} (h : RS w r lv tt pl ds) (hb : Below w.heap.size w w') : RS w' r lv tt pl ds := by
  obtain ⟨At, nt, ct, lb, nl, pb, np, Ad, nd, cd, h0, c0, c1, c2, c3, h1, h2, h3, h4⟩ := h
  have := hb.size
  exact ⟨At, nt, ct, lb, nl, pb, np, Ad, nd, cd, by omega, (hb.cell (p := ⟨r, 0, none⟩) h0).trans c0, (hb.cell (p := ⟨r, 1, none⟩) h0).trans c1, (hb.cell (p := ⟨r, 2, none⟩) h0).trans c2, (hb.cell (p := ⟨r, 3, none⟩) h0).trans c3, h1.step hb, MV.step h2 hb, MV.step h3 hb, h4.step hb⟩

theorem TakeInv.mid {w wr w' : World} {rb pb lb : Nat} {tv dv : Value} {tt : List (List Int)} {g : Int → Option Int} {q : Nat} (h : TakeInv w wr rb pb lb tv dv tt g q) {o : Obj} (hg : (wr.alloc o).grownBy w' tv.ownBlock) :
    (∃ u, w'.cell? ⟨rb, 0, none⟩ = some u) ∧ w'.frozen? ⟨rb, 0, none⟩ = false := by
  have hlt := h.lt
  have hsz : (wr.alloc o).heap.size = wr.heap.size + 1 := by simp
  have hbox := ((hg.block rb (by omega) (fun e => h.notBox e.symm)).trans (Below.heap_alloc _ _ _ hlt)).trans h.box
  exact ⟨⟨_, cell_of_row w' rb 0 _ _ _ hbox⟩, by simp [World.frozen?, hbox]⟩

theorem TakeInv.start (w : World) (lb : Nat) (Ad : Option Addr) (nd cd : Nat) :
    TakeInv w ((w.alloc (.map #[] 0)).alloc (.cells #[.slice none 0 0, .map (some lb), .map (some w.heap.size), .slice Ad nd cd] 97)) (w.heap.size + 1) w.heap.size lb (.slice none 0 0) (.slice Ad nd cd) [] (fun _ => none) 0 := by
  have hb : Below w.heap.size w ((w.alloc (.map #[] 0)).alloc (.cells #[.slice none 0 0, .map (some lb), .map (some w.heap.size), .slice Ad nd cd] 97)) :=
    ((Below.refl _ _).alloc (Nat.le_refl _) _).alloc (by simp) _
  have hsz : (w.alloc (.map #[] 0)).heap.size = w.heap.size + 1 := by simp
  refine ⟨?_, OwnT.start_at hb, ⟨0, (MI.made w).alloc _, Nat.le_refl _⟩, ⟨by omega, Nat.le_refl _⟩, ⟨_, _, _, rfl⟩⟩
  rw [← hsz]
  exact heap_alloc_new _ _

theorem OwnT.slice {w0 w : World} {v : Value} {tt : List (List Int)} (h : OwnT w0 w v tt) : ∃ A n c, v = .slice A n c := by
  obtain ⟨vs, h1, _⟩ := h.row
  rcases h1.2 with ⟨rfl, _⟩ | ⟨g, cap, cur, rfl, _⟩
  · exact ⟨_, _, _, rfl⟩
  · exact ⟨_, _, _, rfl⟩
theorem map_first_snoc {tt : List (List Int)} {k : Nat} {t : List Int} (hk : k < tt.length) (ht : tt.getD k [] = t) : (tt.take (k + 1)).map first = (tt.take k).map first ++ [first t] := by
  rw [List.take_succ_eq_append_getElem hk, List.map_append]
  rw [List.getD_eq_getElem?_getD, List.getElem?_eq_getElem hk] at ht
  rw [show tt[k] = t from ht]
  rfl

set_option maxHeartbeats 4000000 in
set_option maxRecDepth 100000 in
theorem take_any (w : World) (At : Option Addr) (nt ct : Nat) (tt : List (List Int)) (lb nl : Nat) (lv : Int → Option Int) (Ad : Option Addr) (nd cd : Nat) (ds : List Int)
    (ht : TS w w.heap.size At nt ct tt) (hl : MI w lb nl lv) (hd : IS w w.heap.size Ad nd cd ds) (hnt : nt ≤ 1024) (hlen : ∀ t ∈ tt, t.length ≤ 1024) :
    Calls Try.prog 63 #[.slice At nt ct, .map (some lb), .slice Ad nd cd] w fun e w' => ∃ r, e = .returned (.pointer (some ⟨r, 0, none⟩)) ∧ RS w' r lv (tt.map first) (placeN tt tt.length) ds ∧ Below w.heap.size w w' := by
  have hn := ht.le
  have hc := ht.cap
  have HL := Lib.hid ht.len
  have hst := TakeInv.start w lb Ad nd cd
  have hmm := run_makeMap_int
  go_enter Try.func63, Try.ntmps63
  go_wp2_with (with_reducible show wpList _ _ _ (Oper.mk (some 15) _ _ _ _ _ :: _) _ _; go_must (refine wpList_ilen rfl _ rfl rfl hl ?_))
  clear hmm
  go_loopw [22] (fun i wr => ∃ k : Nat, k ≤ nt ∧ i = .int .i64 k ∧ ∃ tv q, q ≤ k * 1024 ∧ TakeInv w wr (w.heap.size + 1) w.heap.size lb tv (.slice Ad nd cd) ((tt.take k).map first) (placeN tt k) q) (fun i _ => nt - (intOf i).toNat)
  case atStart => exact ⟨0, Nat.zero_le _, rfl, _, 0, by omega, hst⟩
  case round =>
    obtain ⟨k, hk, rfl, tv, q, hq, inv⟩ := hrel
    by_cases hlt : k < nt
    · obtain ⟨b, o, t, A3, n3, c3, hA, hb, htk, hc3, ist⟩ := (ht.below inv.row.below).get hlt
      subst hA
      have hkl : Hid (k < tt.length) := Lib.hid (by rw [HL.out]; exact hlt)
      have hn3 : n3 ≤ 1024 := by rw [← ist.len, ← htk.out]; exact hlen _ (getD_mem hkl.out)
      have ist' := ist.more inv.row.below.size
      have hownlt : Hid (∀ k', tv.ownBlock = some k' → k' < wr.heap.size) := Lib.hid fun k' hk' => by
        obtain ⟨cur, hcur, _⟩ := inv.row.owns hk'
        exact (Array.getElem?_eq_some_iff.1 hcur).1
      have HT := Lib.hid ht
      have HLn := Lib.hid hlen
      clear ht hlen ist
      go_wp2_with fail
      refine (first_new wr A3 n3 c3 t ist' (by omega)).mono ?_
      rintro e w4 ⟨A4, n4, c4, rfl, is4, b4, hnew⟩
      have inv4 := inv.later b4
      have hn4 : n4 = n3 := by have h1 := is4.len; unfold first at h1; rw [turn_length, ist'.len] at h1; exact h1.symm
      have hn4' : n4 ≤ 1024 := by omega
      have hc4 := is4.le
      have hc4' := is4.cap
      have HN4 := Lib.hid hn4
      have HLt := Lib.hid ist'.len
      clear hn4 inv ist' b4
      go_wp2
      obtain ⟨wo, hwo⟩ : ∃ wo : World, wo = wr := ⟨_, rfl⟩
      rw [← hwo] at hnew hownlt hc3
      clear hwo hc3
      go_loopw [30] (fun i wi => ∃ j : Nat, j ≤ n4 ∧ i = .int .i64 j ∧ TakeInv w wi (w.heap.size + 1) w.heap.size lb tv (.slice Ad nd cd) ((tt.take k).map first) (putN (placeN tt k) (first t) j) (q + j) ∧ IS wi wi.heap.size A4 n4 c4 (first t)) (fun i _ => n4 - (intOf i).toNat)
      case atStart => exact ⟨0, Nat.zero_le _, rfl, inv4, is4⟩
      case round =>
        obtain ⟨j, hj, rfl, invj, isj⟩ := hrel
        have hcl := invj.cell 2
        by_cases hjl : j < n4
        · obtain ⟨b', o', z, hA, hb', hz, hz64, hcz⟩ := isj.get hjl
          subst hA
          obtain ⟨cnt, hm, hcq⟩ := invj.map
          have hcnt : cnt < 1000000000000 := by omega
          have hcl : wr.cell? ⟨w.heap.size + 1, 2, none⟩ = some (.map (some w.heap.size)) := hcl
          clear inv4 is4
          have IJ := Lib.hid invj
          have ISJ := Lib.hid isj
          clear invj isj
          go_wp2_with (at_mapUpdate; go_must (refine wpList_istore rfl _ _ _ rfl rfl hm hcnt z rfl hz64 _ rfl ?_; intro w5 hm5 hg5))
          go_roundw
          case rel =>
            refine ⟨j + 1, by omega, by go_num, ?_, ISJ.out.mapped hm hg5⟩
            have := IJ.out.put hm5 (by split <;> omega) hg5
            rw [putN, hz.out]
            exact this
          case measure => simp [intOf]; omega
        · obtain rfl : j = n4 := by omega
          have hcl0 : wr.cell? ⟨w.heap.size + 1, 0, none⟩ = some tv := invj.cell 0
          have hrow : RowAt wr tv.ownBlock (.slice A4 j c4) (first t) := ⟨_, _, _, rfl, isj, fun hn' a ha => by
            intro e
            have h1 := hownlt.out _ e
            have h2 := hnew a ha
            omega⟩
          have hlr : ((tt.take k).map first).length + 1 ≤ 1000000 := by rw [List.length_map, List.length_take]; omega
          have IJ := Lib.hid invj
          clear invj isj hcl inv4 is4
          go_wp2_with (with_reducible show wpList _ _ _ (Oper.mk (some 49) _ _ _ _ _ :: _) _ _; go_must (refine wpList_append_row (v := tv) (w0 := w) rfl _ _ rfl rfl IJ.out.row hrow rfl hlr ?_; intro v' w5 hown' hg5 hb5; obtain ⟨⟨u0, hu0⟩, hf0⟩ := IJ.out.mid hg5; obtain ⟨vA, vn, vc, rfl⟩ := hown'.slice))
          go_roundw
          case rel =>
            refine ⟨k + 1, by omega, by go_num, .slice vA vn vc, q + j, by omega, ?_⟩
            rw [map_first_snoc hkl.out htk.out]
            have := IJ.out.append hown' hg5 hb5
            rw [show placeN tt (k + 1) = putN (placeN tt k) (first t) j from by rw [placeN, htk.out, HLt.out, ← HN4.out]]
            exact this
          case measure => simp [intOf]; omega
    · obtain rfl : k = nt := by omega
      obtain ⟨tA, tn, tc, etv, hts⟩ := inv.row.ts (by rw [List.length_map, List.length_take]; omega)
      have c0 := inv.cell 0
      have c1 := inv.cell 1
      have c2 := inv.cell 2
      have c3 := inv.cell 3
      have hfin : RS wr (w.heap.size + 1) lv (tt.map first) (placeN tt tt.length) ds := by
        obtain ⟨cnt, hm, hq2⟩ := inv.map
        have e : (tt.take k).map first = tt.map first := by rw [List.take_of_length_le (by rw [HL.out]; omega)]
        rw [HL.out]
        rw [e] at hts
        refine ⟨tA, tn, tc, lb, nl, w.heap.size, cnt, Ad, nd, cd, inv.lt, by rw [c0, etv]; rfl, c1, c2, c3, hts, hl.below inv.row.below hl.lt, hm, hd.step inv.row.below⟩
      have hbel := inv.row.below
      go_wp2
      go_ret
      exact ⟨_, rfl, hfin, hbel⟩

end Go.Proofs.Ythobfbnopkbniaa
