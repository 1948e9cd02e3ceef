/-
  'for d := range r.Darts()': the law of the statement, out of the walk of its body in a round's frame. No conditions on the program.
-/
import Derived.Test.YthobfbnopkbniaaRound
import Derived.Test.YthobfbnopkbniaaRTake
import Derived.LoopIn
import Derived.TacticsInMore
import Derived.Shelf.Abstract
namespace Go.Proofs.Ythobfbnopkbniaa
open Go.RowKit Go.Shelf

/-- Memory is made, and blocks from n on that hold no cells are turned; nothing else. -/
structure Aside (n : Nat) (W W' : World) : Prop where
  os : W'.os = W.os
  tape : W'.tape = W.tape
  output : W'.output = W.output
  size : W.heap.size ≤ W'.heap.size
  same : ∀ (k : Nat) (o : Obj), W.heap[k]? = some o → (k < n ∨ o.isCells = true) → W'.heap[k]? = some o
theorem Aside.refl (n : Nat) (W : World) : Aside n W W := ⟨rfl, rfl, rfl, Nat.le_refl _, fun _ _ h _ => h⟩
theorem Aside.trans {n : Nat} {a b c : World} (h : Aside n a b) (k : Aside n b c) : Aside n a c :=
  ⟨k.os.trans h.os, k.tape.trans h.tape, k.output.trans h.output, Nat.le_trans h.size k.size, fun i o hi ho => k.same i o (h.same i o hi ho) ho⟩
theorem Aside.alloc (n : Nat) (W : World) (o : Obj) : Aside n W (W.alloc o) :=
  ⟨rfl, rfl, rfl, by simp, fun k _ hk _ => (Below.heap_alloc W o k (Array.getElem?_eq_some_iff.1 hk).1).trans hk⟩
theorem Aside.put {n l : Nat} {W : World} {o : Obj} (o' : Obj) (hl : n ≤ l) (h : W.heap[l]? = some o) (ho : o.isCells = false) : Aside n W (W.putObj l o') :=
  ⟨rfl, rfl, rfl, by simp, fun k o1 hk hc => (World.putObj_heap_other (fun e => by
    subst e
    rw [h] at hk
    cases hk
    rcases hc with hc | hc
    · omega
    · rw [ho] at hc; cases hc)).trans hk⟩
theorem Aside.below {n : Nat} {W W' : World} (h : Aside n W W') (hn : n ≤ W.heap.size) : Below n W W' :=
  ⟨h.os, h.tape, h.output, h.size, fun k hk => by
    have hlt : k < W.heap.size := by omega
    rw [h.same k _ (Array.getElem?_eq_getElem hlt) (.inl hk), Array.getElem?_eq_getElem hlt]⟩
theorem Aside.cell {n : Nat} {W W' : World} {p : Addr} {v : Value} (h : Aside n W W') (hc : W.cell? p = some v) : W'.cell? p = some v := by
  obtain ⟨o, ho, hoc⟩ := cells_of_cell hc
  rw [← hc]
  exact World.cell?_of_block ((h.same _ _ ho (.inr hoc)).trans ho.symm)
theorem Aside.frozen {n : Nat} {W W' : World} {p : Addr} {v : Value} (h : Aside n W W') (hc : W.cell? p = some v) : W'.frozen? p = W.frozen? p := by
  obtain ⟨o, ho, hoc⟩ := cells_of_cell hc
  exact World.frozen?_of_block ((h.same _ _ ho (.inr hoc)).trans ho.symm)

/-- How a round is left. -/
def rndPost (n : Nat) (I : World → Prop) (Ix : Code → World → Prop) (W : World) : Exit → Act → World → Prop
  | .normal, _, W' => KeepsFrom n W W' ∧ I W'
  | .ret, _, W' => KeepsFrom n W W' ∧ Ix .ret W'
  | .exit id, _, W' => KeepsFrom n W W' ∧ Ix (.exit id) W'
  | .goto t, _, W' => KeepsFrom n W W' ∧ Ix (.goto t) W'
  | .panic _, _, _ => False
  | .outgrown, _, _ => False
theorem rndPost_in {n : Nat} {I : World → Prop} {Ix : Code → World → Prop} {W : World} : ¬ LetsOut (rndPost n I Ix W) := fun ⟨_, _, h⟩ => h
theorem keepsFrom_ext {n : Nat} {W W' : World} (h : Below W.heap.size W W') : KeepsFrom n W W' :=
  ⟨h.size, fun k _ _ hk _ => (h.block k (Array.getElem?_eq_some_iff.1 hk).1).trans hk⟩

/-- What the iterator reads: the pointer in its box; the turns' darts. -/
def DI (W : World) (bx : Nat) (p : Option Addr) (Ad : Option Addr) (nd cd B : Nat) (ds : List Int) : Prop :=
  W.cell? ⟨bx, 0, none⟩ = some (.pointer p) ∧ ((p = none ∧ nd = 0) ∨ ∃ r, p = some ⟨r, 0, none⟩ ∧ W.cell? ⟨r, 3, none⟩ = some (.slice Ad nd cd) ∧ IS W B Ad nd cd ds)

/-- The mark of the block of the rounds' deferred calls. -/
abbrev markOf (D : Nat) : Deferred := { target := .collected D, args := #[] }

set_option maxHeartbeats 4000000 in
set_option maxRecDepth 100000 in
theorem wp_range_darts {g : Operand} {t : Tmp} {assign body : Code} {Q : Exit → Act → World → Prop} {a : Act} {w : World} {bx nd cd B : Nat} {p Ad : Option Addr} {ds : List Int}
    (hg : a.eval g = .func (.func 74) #[] #[.pointer (some ⟨bx, 0, none⟩)])
    (I : Nat → World → Prop) (Ix : Code → World → Prop) (hsI : ∀ k W W', I k W → Aside w.heap.size W W' → I k W') (hsX : ∀ c W W', Ix c W → Aside w.heap.size W W' → Ix c W')
    (hD : ∀ k W, I k W → DI W bx p Ad nd cd B ds) (h0 : I 0 w) (a₁ : Int → Act)
    (hassign : ∀ l n x W (K : Act → World → Prop), K (a₁ x) W → assign.wpIn (rnd l) n Try.prog (Exit.then K (fun _ _ _ => False)) { tmps := a.tmps.setIfInBounds t (.int .i64 x), defers := [] } W)
    (hbody : ∀ l n k W, I k W → k < nd → body.wpIn (rnd l) n Try.prog (rndPost w.heap.size (I (k + 1)) Ix W) (a₁ (ds.getD k 0)) W)
    (hdone : ∀ D W, w.heap.size ≤ D → I nd W → W.heap[D]? = some (.deferred (some [])) → Q .normal { a with defers := markOf D :: a.defers } W)
    (hstop : ∀ D c W, w.heap.size ≤ D → Ix c W → W.heap[D]? = some (.deferred (some [])) → c.wp Try.prog Q { a with defers := markOf D :: a.defers } W) :
    (Code.rangeFunc g #[t] assign body).wp Try.prog Q a w := by
  refine (wpIn_wide (n := 5)).1 (wpIn_rangeFunc ?_)
  intro fn _
  obtain ⟨rec, hrec⟩ : ∃ rec : LoopState → Option Code → Loop, rec = fun st pe => { state := st, pending := pe, fn, tmps := a.tmps, params := #[t], assign, body, defers := w.heap.size } := ⟨_, rfl⟩
  obtain ⟨L, hL⟩ : ∃ L, L = w.heap.size + 1 := ⟨_, rfl⟩
  obtain ⟨W1, hW1⟩ : ∃ W1, (w.alloc (.deferred (some []))).alloc (.loop (rec .ready none)) = W1 := ⟨_, rfl⟩
  have hr1 : W1.heap[L]? = some (.loop (rec .ready none)) := by
    rw [← hW1, hL]; have := World.alloc_heap_new (w.alloc (.deferred (some []))) (.loop (rec .ready none)); rwa [World.size_alloc] at this
  have hd1 : W1.heap[w.heap.size]? = some (.deferred (some [])) := by
    rw [← hW1]; exact (Below.heap_alloc _ _ _ (by simp)).trans (World.alloc_heap_new w _)
  have hI1 : I 0 W1 := hsI _ _ _ h0 (by rw [← hW1]; exact (Aside.alloc _ _ _).trans (Aside.alloc _ _ _))
  have enters : ∀ args W, (callFunc 74 args).run Try.prog W = .ok (.enter 74 args) W := enters_of Try.func74 (by kernel_rfl) rfl
  refine ⟨L, [markOf w.heap.size], W1, { target := .fn (.func 74) #[.pointer (some ⟨bx, 0, none⟩)], args := #[.func (.yield L) #[] #[]] }, W1, 74,
    #[.func (.yield L) #[] #[], .pointer (some ⟨bx, 0, none⟩)], W1, ?_, ?_, fun _ _ => trivial, ?_, fun _ => by omega, ?_⟩
  · rw [← hW1, hrec, hL]; exact run_enterLoop_outer _ _ _ _ _
  · simp only [resolve, hg]
    simp [go_sem]
  · simp [invoke, go_sem, enters]
  -- one round
  have hround : ∀ k W, k < nd → I k W → W.heap[L]? = some (.loop (rec .ready none)) → W.heap[w.heap.size]? = some (.deferred (some [])) →
      (Instr.yield L #[.int .i64 (ds.getD k 0)]).run Try.prog W = .ok (.round L fn (a.tmps.setIfInBounds t (.int .i64 (ds.getD k 0))) assign body) W ∧
      ∀ n, RoundIn Fence.wide n Try.prog L fn (a.tmps.setIfInBounds t (.int .i64 (ds.getD k 0))) assign body W fun e W' =>
        (e = .returned (.bool true) ∧ I (k + 1) W' ∧ W'.heap[L]? = some (.loop (rec .ready none)) ∧ W'.heap[w.heap.size]? = some (.deferred (some []))) ∨
        (e = .returned (.bool false) ∧ ∃ c, Ix c W' ∧ W'.heap[L]? = some (.loop (rec .done (some c))) ∧ W'.heap[w.heap.size]? = some (.deferred (some []))) := by
    intro k W hk hi hl hd
    have hy := run_yield (P := Try.prog) (args := #[.int .i64 (ds.getD k 0)]) hl (by rw [hrec]; simp)
    refine ⟨by rw [hy, hrec]; simp, fun n => ?_⟩
    have hlt : L < W.heap.size := (Array.getElem?_eq_some_iff.1 hl).1
    refine roundIn_of_wpIn trivial (hassign _ _ _ _ _ ⟨_, run_beginRound hl (by rw [hrec]), ?_⟩)
    obtain ⟨busy, hbusy⟩ : ∃ busy : Loop, busy = { rec .ready none with state := .busy } := ⟨_, rfl⟩
    rw [← hbusy]
    have hl2 : (W.putObj L (.loop busy)).heap[L]? = some (.loop busy) := World.putObj_heap_same hlt
    have hd2 : (W.putObj L (.loop busy)).heap[w.heap.size]? = some (.deferred (some [])) := (World.putObj_heap_other (by omega)).trans hd
    have hi2 : I k (W.putObj L (.loop busy)) := hsI _ _ _ hi (Aside.put _ (by omega) hl rfl)
    have fin : ∀ (jump : Option Code) (W3 : World), KeepsFrom w.heap.size (W.putObj L (.loop busy)) W3 →
        (Instr.endRound L jump).run Try.prog W3 = .ok (.bool jump.isNone) (W3.putObj L (.loop (rec (if jump.isNone then .ready else .done) jump))) ∧ Aside w.heap.size W3 (W3.putObj L (.loop (rec (if jump.isNone then .ready else .done) jump))) ∧
        (W3.putObj L (.loop (rec (if jump.isNone then .ready else .done) jump))).heap[L]? = some (.loop (rec (if jump.isNone then .ready else .done) jump)) ∧
        (W3.putObj L (.loop (rec (if jump.isNone then .ready else .done) jump))).heap[w.heap.size]? = some (.deferred (some [])) := fun jump W3 hk3 => by
      have hl3 := hk3.same _ _ (by omega) hl2 rfl
      have he := run_endRound (P := Try.prog) jump hl3
      refine ⟨by rw [he, hbusy, hrec], Aside.put _ (by omega) hl3 rfl, World.putObj_heap_same (Array.getElem?_eq_some_iff.1 hl3).1, (World.putObj_heap_other (by omega)).trans (hk3.same _ _ (Nat.le_refl _) hd2 rfl)⟩
    refine wpIn_mono (hbody L n k _ hi2 hk) ?_
    rintro e a3 W3 hp
    cases e with
    | normal =>
      obtain ⟨hr, hs, hl4, hd4⟩ := fin none W3 hp.1
      exact ⟨_, _, hr, .inl ⟨rfl, hsI _ _ _ hp.2 hs, hl4, hd4⟩⟩
    | ret =>
      obtain ⟨hr, hs, hl4, hd4⟩ := fin (some .ret) W3 hp.1
      exact ⟨_, _, hr, .inr ⟨rfl, .ret, hsX _ _ _ hp.2 hs, hl4, hd4⟩⟩
    | exit id =>
      obtain ⟨hr, hs, hl4, hd4⟩ := fin (some (.exit id)) W3 hp.1
      exact ⟨_, _, hr, .inr ⟨rfl, .exit id, hsX _ _ _ hp.2 hs, hl4, hd4⟩⟩
    | goto u =>
      obtain ⟨hr, hs, hl4, hd4⟩ := fin (some (.goto u)) W3 hp.1
      exact ⟨_, _, hr, .inr ⟨rfl, .goto u, hsX _ _ _ hp.2 hs, hl4, hd4⟩⟩
    | panic ch => exact hp.elim
    | outgrown => exact hp.elim
  -- the ways out
  have endN : ∀ v W, I nd W → W.heap[L]? = some (.loop (rec .ready none)) → W.heap[w.heap.size]? = some (.deferred (some [])) → rangePost Fence.wide 5 Try.prog L Q { a with defers := [markOf w.heap.size] ++ a.defers } (.returned v) W := fun v W hi hl hd => by
    have he := run_endLoop (P := Try.prog) hl (by rw [hrec]; simp)
    refine ⟨none, _, by rw [he, hrec], hdone _ _ (Nat.le_refl _) (hsI _ _ _ hi (Aside.put _ (by omega) hl rfl)) ((World.putObj_heap_other (by omega)).trans hd)⟩
  have endX : ∀ v c W, Ix c W → W.heap[L]? = some (.loop (rec .done (some c))) → W.heap[w.heap.size]? = some (.deferred (some [])) → rangePost Fence.wide 5 Try.prog L Q { a with defers := [markOf w.heap.size] ++ a.defers } (.returned v) W := fun v c W hi hl hd => by
    have he := run_endLoop (P := Try.prog) hl (by rw [hrec]; simp)
    refine ⟨some c, _, by rw [he, hrec], wpIn_wide.2 (hstop _ _ _ (Nat.le_refl _) (hsX _ _ _ hi (Aside.put _ (by omega) hl rfl)) ((World.putObj_heap_other (by omega)).trans hd))⟩
  -- the iterator
  have hL0 := hr1
  have hbx := (hD _ _ hI1).1
  have hcase := (hD _ _ hI1).2
  have hR := Lib.hid hround
  have hN := Lib.hid endN
  have hX := Lib.hid endX
  have hDD := Lib.hid hD
  clear hround endN endX hD hsI hsX hassign hbody hdone hstop hW1 hL0 hrec h0 hg enters hL
  refine callsIn_of_wp Try.func74 rfl trivial ?_ rfl
  simp only [Try.ntmps74, List.size_toArray, List.length_cons, List.length_nil, Nat.reduceAdd, Nat.reduceSub, Array.replicate_succ, Array.replicate_zero, List.push_toArray, List.append_toArray, List.nil_append, List.cons_append]
  rcases hcase with ⟨rfl, rfl⟩ | ⟨r, rfl, hc3, his⟩
  · gi_wp2
    refine bodyPost_ret (results_none rfl _ _ _) rfl ?_
    exact hN.out _ _ hI1 hr1 hd1
  · gi_wp2
    gi_loopw [12] (fun i wr => ∃ k : Nat, k ≤ nd ∧ i = .int .i64 k ∧ I k wr ∧ wr.heap[L]? = some (.loop (rec .ready none)) ∧ wr.heap[w.heap.size]? = some (.deferred (some []))) (fun i _ => nd - (intOf i).toNat)
    case atStart => exact ⟨0, Nat.zero_le _, rfl, hI1, hr1, hd1⟩
    case round =>
      obtain ⟨k, hk, rfl, hi, hl, hd⟩ := hrel
      by_cases hlt : k < nd
      · obtain ⟨hy, hRR⟩ := hR.out k wr hlt hi hl hd
        have isw : IS wr B Ad nd cd ds := by
          rcases (hDD.out _ _ hi).2 with ⟨h, _⟩ | ⟨r', h, _, h'⟩
          · cases h
          · exact h'
        obtain ⟨b', o', z, hA, hb', hz, hz64, hcz⟩ := isw.get hlt
        subst hA
        rw [hz.out] at hy hRR
        have hndc := his.cap
        have hndl := his.le
        clear isw his hI1 hr1 hd1 hc3 hbx
        gi_wp2
        refine (hRR _).mono ?_
        rintro e W3 (⟨rfl, hi3, hl3, hd3⟩ | ⟨rfl, c, hx3, hl3, hd3⟩)
        · gi_wp2
          go_roundw
          case rel => exact ⟨k + 1, by omega, by go_num, hi3, hl3, hd3⟩
          case measure => simp [intOf]; omega
        · gi_wp2
          refine bodyPost_ret (results_none rfl _ _ _) rfl ?_
          exact hX.out _ _ _ hx3 hl3 hd3
      · obtain rfl : k = nd := by omega
        clear his hI1 hr1 hd1 hc3 hbx
        gi_wp2
        go_end0
        exact hN.out _ _ hi hl hd

/-- The statement with a loop variable in slot v. -/
theorem wp_range_darts_v {g : Operand} {t v : Tmp} {id : Nat} {ty : TypeId} {pos : String} {after : Array Edge} {body : Code} {Q : Exit → Act → World → Prop} {a : Act} {w : World} {bx nd cd B : Nat} {p Ad : Option Addr} {ds : List Int}
    (hg : a.eval g = .func (.func 74) #[] #[.pointer (some ⟨bx, 0, none⟩)])
    (I : Nat → World → Prop) (Ix : Code → World → Prop) (hsI : ∀ k W W', I k W → Aside w.heap.size W W' → I k W') (hsX : ∀ c W W', Ix c W → Aside w.heap.size W W' → Ix c W')
    (hD : ∀ k W, I k W → DI W bx p Ad nd cd B ds) (h0 : I 0 w) (ht : t < a.tmps.size)
    (hbody : ∀ l n k W, I k W → k < nd → body.wpIn (rnd l) n Try.prog (rndPost w.heap.size (I (k + 1)) Ix W) { tmps := (a.tmps.setIfInBounds t (.int .i64 (ds.getD k 0))).setIfInBounds v (.int .i64 (ds.getD k 0)), defers := [] } W)
    (hdone : ∀ D W, w.heap.size ≤ D → I nd W → W.heap[D]? = some (.deferred (some [])) → Q .normal { a with defers := markOf D :: a.defers } W)
    (hstop : ∀ D c W, w.heap.size ≤ D → Ix c W → W.heap[D]? = some (.deferred (some [])) → c.wp Try.prog Q { a with defers := markOf D :: a.defers } W) :
    (Code.rangeFunc g #[t] (Code.region id #[{ dst := some v, op := .assign (.tmp t), type := ty, pos := pos, after := after, guard := none }] false) body).wp Try.prog Q a w :=
  wp_range_darts hg I Ix hsI hsX hD h0 (fun x => { tmps := (a.tmps.setIfInBounds t (.int .i64 x)).setIfInBounds v (.int .i64 x), defers := [] })
    (fun l n x W K hK => rnd_region (l := [{ dst := some v, op := .assign (.tmp t), type := ty, pos := pos, after := after, guard := none }]) rfl (fun ⟨_, _, h⟩ => h) (by
      unfold wpList
      rw [if_pos (by simp [Region.wanted])]
      refine .inl ?_
      unfold Oper.wp execOp
      have e : (Act.mk (a.tmps.setIfInBounds t (.int .i64 x)) []).eval (.tmp t) = .int .i64 x := by
        simp [Act.eval, ht]
      simp only [Sem.run_pure, Oper.upon, e, Act.put]
      exact hK))
    hbody hdone hstop

/-- Leaving with a result that lies in a cell. -/
theorem run_cell_bool {fn : Func} {p : Tmp} {tmps : Array Value} {w : World} {rb : Nat} {b : Bool} (h : fn.results = #[.cell p 4]) (hp : tmps.getD p undef = .pointer (some ⟨rb, 0, none⟩)) (hc : w.cell? ⟨rb, 0, none⟩ = some (.bool b)) :
    (results fn tmps).run Try.prog w = .ok (.bool b) w := by
  have hp' : tmps[p]?.getD undef = .pointer (some ⟨rb, 0, none⟩) := by rw [← hp, Array.getD_eq_getD_getElem?]
  simp [results, h, go_sem, hp', hc]
theorem leave_cell {fn : Func} {p : Tmp} {tmps : Array Value} {w : World} {rb n : Nat} {b : Bool} {R : Ending → World → Prop} (h : fn.results = #[.cell p 4]) (hp : tmps.getD p undef = .pointer (some ⟨rb, 0, none⟩)) (hc : w.cell? ⟨rb, 0, none⟩ = some (.bool b))
    (hR : R (.returned (.bool b)) w) : bodyPostM Fence.wide n Try.prog fn R .ret { tmps := tmps, defers := [] } w :=
  ⟨_, run_cell_bool h hp hc, hR⟩
theorem leave_cell_mark {fn : Func} {p : Tmp} {tmps : Array Value} {w : World} {rb n D : Nat} {b : Bool} {R : Ending → World → Prop} (h : fn.results = #[.cell p 4]) (hp : tmps.getD p undef = .pointer (some ⟨rb, 0, none⟩)) (hc : w.cell? ⟨rb, 0, none⟩ = some (.bool b))
    (hD : w.heap[D]? = some (.deferred (some []))) (hR : R (.returned (.bool b)) (w.putObj D (.deferred none))) : bodyPostM Fence.wide n Try.prog fn R .ret { tmps := tmps, defers := [markOf D] } w := by
  refine ⟨by simp, .inl ⟨D, _, rfl, run_takeDeferred hD, ?_⟩⟩
  exact ⟨_, run_cell_bool h hp ((Aside.put (n := D) (.deferred none) (Nat.le_refl _) hD rfl).cell hc), hR⟩
theorem below_mark {n D : Nat} {w w' : World} (hb : Below n w w') (hD : n ≤ D) : Below n w (w'.putObj D (.deferred none)) :=
  hb.trans ⟨rfl, rfl, rfl, by simp, fun k hk => World.putObj_heap_other (by omega)⟩
end Go.Proofs.Ythobfbnopkbniaa
