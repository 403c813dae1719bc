import Derived.Test.YtpaojpjhppgoeaaS16
import Derived.Shelf.Abstract
set_option linter.unusedSimpArgs false
set_option linter.unusedVariables false
/-! Ranges over functions. -/
namespace Dm
open Go
def mrk (D : Nat) : Deferred := { target := .collected D, args := #[] }
section
variable {δ : List Deferred} {P : Program} {T : Tab} {g g' g'' : G} {s s' s'' : St} {a : Act} {w w' w'' : World} {n N : Nat}

/-- What code does that may hold a range over a function. -/
def SWm (P : Program) (n N : Nat) (c : Code) (Q : Exit → St → Prop) (s : St) : Prop :=
  ∀ (δ : List Deferred) (g : G) (a : Act) (w : World), Rel δ g s a w → a.tmps.size = n →
    c.wp P (fun e a' w' => ∃ (Ds : List Nat) (g' : G) (s' : St), Q e s' ∧ Rel (Ds.map mrk ++ δ) g' s' a' w' ∧ (∀ D ∈ Ds, w.heap.size ≤ D ∧ w'.heap[D]? = some (.deferred (some []))) ∧ Ds.Nodup ∧ a'.tmps.size = n ∧ StepN N g s w g' s' w') a w

theorem SWm.of {c : Code} {Q : Exit → St → Prop} (h : SWp P n N c Q s) : SWm P n N c Q s := fun δ g a w hr hn =>
  wp_mono (h δ g a w hr hn) fun e a' w' ⟨g', s', h1, h2, h3, h4⟩ => ⟨[], g', s', h1, h2, fun D hD => (by cases hD), List.nodup_nil, h3, h4⟩

/-- A block that holds no cells is as it was. -/
theorem StepN.other (h : StepN N g s w g' s' w') (ho : RelO g s w) {D : Nat} {o : Obj} (hD : w.heap[D]? = some o) (hc : o.isCells = false) : w'.heap[D]? = some o := by
  rw [h.same D (Array.getElem?_eq_some_iff.1 hD).1 fun hown => ?_, hD]
  obtain ⟨cells, e, fz, h1⟩ := Own.cel ho hown
  rw [h1] at hD
  cases hD
  cases hc

theorem SWm.seq {x y : Code} {Q : Exit → St → Prop} (h : SWm P n N x (sq (SWm P n N y Q) Q) s) : SWm P n N (.seq x y) Q s := fun δ g a w hr hn => by
  refine wp_seq (wp_mono (h δ g a w hr hn) fun e a' w' ⟨Ds, g', s', h1, h2, h3, h4, h5, h6⟩ => ?_)
  cases e with
  | normal =>
    refine wp_mono (h1 _ g' a' w' h2 h5) fun e a'' w'' ⟨Ds', g'', s'', h7, h8, h9, h10, h11, h12⟩ => ?_
    refine ⟨Ds' ++ Ds, g'', s'', h7, by simpa using h8, fun D hD => ?_, ?_, h11, h6.trans h12⟩
    · rcases List.mem_append.1 hD with hD | hD
      · exact ⟨Nat.le_trans h6.size (h9 D hD).1, (h9 D hD).2⟩
      · exact ⟨(h3 D hD).1, h12.other h2.o (h3 D hD).2 rfl⟩
    · refine List.nodup_append.2 ⟨h10, h4, fun D hD D' hD' e => ?_⟩
      subst e
      have := (h9 D hD).1
      have := (Array.getElem?_eq_some_iff.1 (h3 D hD').2).1
      omega
  | _ => exact ⟨Ds, g', s', h1, h2, h3, h4, h5, h6⟩

theorem SWm.block {id : Nat} {c : Code} {Q : Exit → St → Prop} (h : SWm P n N c (bl id Q) s) : SWm P n N (.block id c) Q s := fun δ g a w hr hn => by
  refine wp_block (wp_mono (h δ g a w hr hn) fun e a' w' ⟨Ds, g', s', h1, h2, h3, h4, h5, h6⟩ => ?_)
  cases e with
  | exit i =>
    simp only [bl] at h1
    simp only [Exit.inBlock]
    split
    · rename_i hi
      rw [if_pos hi] at h1
      exact ⟨Ds, g', s', h1, h2, h3, h4, h5, h6⟩
    · rename_i hi
      rw [if_neg hi] at h1
      exact ⟨Ds, g', s', h1, h2, h3, h4, h5, h6⟩
  | _ => exact ⟨Ds, g', s', h1, h2, h3, h4, h5, h6⟩

theorem SWm.mono {c : Code} {Q Q' : Exit → St → Prop} (h : SWm P n N c Q s) (hq : ∀ e s', Q e s' → Q' e s') : SWm P n N c Q' s :=
  fun δ g a w hr hn => wp_mono (h δ g a w hr hn) fun e a' w' ⟨Ds, g', s', h1, h2⟩ => ⟨Ds, g', s', hq e s' h1, h2⟩

/-! ### The world grows by what is no cells -/
theorem RelO.grown {row : Option Nat} (ho : RelO g s w) (hg : w.grownBy w' row) (hrow : ∀ r, row = some r → ∃ o : Obj, w.heap[r]? = some o ∧ o.isCells = false) : RelO g s w' := by
  have hcel : ∀ b, Cel w b → w'.heap[b]? = w.heap[b]? := fun b hb => hg.block b hb.lt fun e => by
    obtain ⟨o, h1, h2⟩ := hrow b e.symm
    obtain ⟨cells, e', fz, h3⟩ := hb
    rw [h3] at h1
    cases h1
    cases h2
  have hk : Keeps g.I w w' := fun b hb => hcel b (ho.cel b hb)
  exact ⟨fun id o h => (ho.ok id o h).mono hk (.refl g) (fun b hb => hcel b (Own.cel ho ⟨id, o, h, hb⟩)) rfl, ho.apart, ho.fresh, fun b hb => ⟨Nat.lt_of_lt_of_le (ho.imm b hb).1 hg.size, (ho.imm b hb).2⟩, fun b hb => (ho.cel b hb).keep (hcel b (ho.cel b hb))⟩
theorem Rel.grown {row : Option Nat} (hr : Rel δ g s a w) (hg : w.grownBy w' row) (hrow : ∀ r, row = some r → ∃ o : Obj, w.heap[r]? = some o ∧ o.isCells = false) : Rel δ g s a w' := by
  have hk : Keeps g.I w w' := fun b hb => hg.block b (hr.o.cel b hb).lt fun e => by
    obtain ⟨o, h1, h2⟩ := hrow b e.symm
    obtain ⟨cells, e', fz, h3⟩ := hr.o.cel b hb
    rw [h3] at h1
    cases h1
    cases h2
  exact ⟨fun t d ht => let ⟨v, h1, h2⟩ := hr.tm t d ht; ⟨v, h1, h2.mono hk (.refl g)⟩, hr.defers, hr.o.grown hg hrow⟩
theorem StepN.grown {row : Option Nat} (h : StepN N g s w g' s' w') (hg : w'.grownBy w'' row) (hrow : ∀ r, row = some r → w.heap.size ≤ r) : StepN N g s w g' s' w'' :=
  ⟨h.ρ, h.κ, h.I, Nat.le_trans h.size hg.size, fun b hb ho => (hg.block b (Nat.lt_of_lt_of_le hb h.size) fun e => by have := hrow b e.symm; omega).trans (h.same b hb ho), h.own, h.imm, h.env.trans ⟨hg.os, hg.output, hg.tape⟩⟩

theorem StepN.less {M : Nat} (hNM : N ≤ M) (h : StepN M g s w g' s' w') : StepN N g s w g' s' w' :=
  ⟨fun id b hi => h.ρ id b (by omega), fun id a l c hi => h.κ id a l c (by omega), h.I, h.size, h.same, h.own, h.imm, h.env⟩
/-- An iterator: it hands over ys, in this order; each round may say 'no more'. -/
def IterOk (P : Program) (gf : FuncId) (caps : List D) {m : Nat} (ys : Fin m → List D) (order : List (Fin m)) : Prop :=
  (∀ (args : Array Value) (w : World), (callFunc gf args).run P w = .ok (.enter gf args) w) ∧ ∀ (I : Nat → Prop) (w : World) (lb : Array Value), (∀ b, I b → Cel w b) → lb.size = caps.length → (∀ (i : Nat) (v : Value) (d : D), lb[i]? = some v → caps[i]? = some d → VRel (G0 I) w v d) →
    ∃ encs : Fin m → Array Value, (∀ x, (encs x).size = (ys x).length ∧ ∀ (j : Nat) (v : Value) (d : D), (encs x)[j]? = some v → (ys x)[j]? = some d → VRel (G0 I) w v d) ∧
      SeqStopsK Fence.wide 4 P gf lb encs (fun W W' => ∀ b, I b → Cel W b → W'.heap[b]? = W.heap[b]?) (fun xs => xs = order) (fun pre => pre <+: order) m w

def setps : List Nat → List D → List (Nat × D) → List (Nat × D)
  | p :: l, d :: ds, tm => setps l ds ((p, d) :: tm)
  | _, _, tm => tm
def asg (A : St → Prop) : Exit → St → Prop
  | .normal, s => A s
  | _, _ => False
/-- Behind a round: what comes next, or how the loop is left. -/
def rfp (Q : Exit → St → Prop) (s : St) (A : St → Prop) (pfx : Prop) : Exit → St → Prop
  | .normal, s' => A s'
  | .ret, s' => pfx → Q .ret ⟨s.tm, s'.os, s'.nx⟩
  | .exit i, s' => pfx → Q (.exit i) ⟨s.tm, s'.os, s'.nx⟩
  | _, _ => False

theorem setps_rel {δ' : List Deferred} {w : World} : ∀ (ps : List Nat) (ds : List D) (vs : List Value) {tm : List (Nat × D)} {os : List (Nat × Ob)} {nx : Nat} {a : Act}, Rel δ' g ⟨tm, os, nx⟩ a w → vs.length = ds.length → (∀ p ∈ ps, p < a.tmps.size) →
    (∀ (j : Nat) (v : Value) (d : D), vs[j]? = some v → ds[j]? = some d → VRel g w v d) →
    Rel δ' g ⟨setps ps ds tm, os, nx⟩ { tmps := (ps.zip vs).foldl (fun t (p, v) => t.setIfInBounds p v) a.tmps, defers := a.defers } w ∧ ((ps.zip vs).foldl (fun t (p, v) => t.setIfInBounds p v) a.tmps).size = a.tmps.size
  | [], ds, vs, tm, os, nx, a, hr, _, _, _ => ⟨by simpa [setps] using hr, rfl⟩
  | p :: ps, [], [], tm, os, nx, a, hr, _, _, _ => ⟨by simpa [setps] using hr, rfl⟩
  | p :: ps, d :: ds, v :: vs, tm, os, nx, a, hr, hl, hp, hv => by
    have h1 : Rel δ' g ⟨(p, d) :: tm, os, nx⟩ (a.put (some p) v) w := hr.put (some p) (hv 0 v d rfl rfl) (fun x hx => by cases hx; exact hp p (by simp))
    have h2 := setps_rel ps ds vs (a := a.put (some p) v) h1 (by simpa using hl) (fun q hq => by rw [put_size]; exact hp q (by simp [hq])) (fun j u e hu he => hv (j + 1) u e (by simpa using hu) (by simpa using he))
    refine ⟨?_, ?_⟩
    · have := h2.1
      simpa [setps, Act.put] using this
    · have := h2.2
      rw [put_size] at this
      simpa [Act.put] using this

def exOf : Code → Option Exit
  | .ret => some .ret
  | .exit i => some (.exit i)
  | _ => none

/-- What needs no ghost of one's own. -/
def D.pure1 : D → Bool
  | .c _ => true
  | .rp _ => true
  | _ => false
theorem VRel.toG0 {v : Value} {d : D} (hd : d.pure1 = true) (h : VRel g w v d) : VRel (G0 g.I) w v d := by
  cases d <;> simp only [D.pure1, Bool.false_eq_true] at hd
  case c x => cases h with | c _ _ h => exact .c _ _ h
  case rp cs => cases h with | rp b off _ vs hI hc => exact .rp b off cs vs hI hc

/-- A range over a function. -/
theorem SWm.rangeFunc (hT : TabS P T) (lv : Nat → Option (List Nat)) {gop : Operand} {ps : Array Tmp} {assign body : Code} {Q : Exit → St → Prop} {gf : FuncId} {caps : List D} (hev : s.ev gop = .fn (.func gf) [] caps) (hcaps : ∀ d ∈ caps, d.pure1 = true)
    {m : Nat} {ys : Fin m → List D} {order : List (Fin m)} (hit : IterOk P gf caps ys order) (O : List (Fin m) → List (Nat × Ob)) (ok : List (Fin m) → Prop)
    (hps : ∀ x, (ys x).length = ps.size) (hpn : ∀ p ∈ ps.toList, p < n) (hN : N ≤ s.nx)
    (ha1 : plainC assign = true) (ha2 : dstOk n assign = true) (hb1 : plainC body = true) (hb2 : dstOk n body = true)
    (h0 : ok [] ∧ Sub s.nx s ⟨s.tm, O [], s.nx⟩)
    (hround : ∀ pre x, ok pre → pre.length < m → awp P T n s.nx lv assign (asg fun s1 =>
      awp P T n s.nx lv body (rfp Q s (fun s' => ok (pre ++ [x]) ∧ Sub s.nx ⟨s.tm, s'.os, s'.nx⟩ ⟨s.tm, O (pre ++ [x]), s.nx⟩) (pre ++ [x] <+: order)) s1) ⟨setps ps.toList (ys x) s.tm, O pre, s.nx⟩)
    (hdone : ok order → Q .normal ⟨s.tm, O order, s.nx⟩) : SWm P n N (.rangeFunc gop ps assign body) Q s := by
  intro δ g a w hr hn
  have hg := hr.ev gop
  rw [hev] at hg
  generalize hgv : a.eval gop = gv at hg
  cases hg with
  | fn _ fiv lb _ _ h1 h2 h3 h4 =>
  have hfi : fiv = #[] := by
    apply Array.eq_empty_of_size_eq_zero
    simpa using h1
  subst hfi
  obtain ⟨hent, hit⟩ := hit
  obtain ⟨encs, hencs, hseq⟩ := hit g.I w lb hr.o.cel h2 fun i v d hv hd => (h4 i v d hv hd).toG0 (hcaps d (List.mem_of_getElem? hd))
  have hst0 : ∃ g1, Rel δ g1 ⟨s.tm, O [], s.nx⟩ a w ∧ StepN s.nx g s w g1 ⟨s.tm, O [], s.nx⟩ w := ⟨_, hr.sub h0.2⟩
  refine wpIn_wide (n := 5).1 (wpIn_rangeFunc fun fn _ => ?_)
  obtain ⟨rec, hrec⟩ : ∃ rec : LoopState → Option Code → Loop, rec = fun st pe => { state := st, pending := pe, fn, tmps := a.tmps, params := ps, assign, body, defers := w.heap.size } := ⟨_, rfl⟩
  obtain ⟨W1, hW1⟩ : ∃ W1, (w.alloc (.deferred (some []))).alloc (.loop (rec .ready none)) = W1 := ⟨_, rfl⟩
  have hL1 : W1.heap[w.heap.size + 1]? = some (.loop (rec .ready none)) := by
    rw [← hW1]; have := World.alloc_heap_new (w.alloc (.deferred (some []))) (.loop (rec .ready none)); rwa [World.size_alloc] at this
  have hD1 : W1.heap[w.heap.size]? = some (.deferred (some [])) := by
    rw [← hW1]; exact (RowKit.Below.heap_alloc _ _ _ (by simp)).trans (World.alloc_heap_new w _)
  have hb1' : RowKit.Below w.heap.size w W1 := by
    rw [← hW1]; exact ((RowKit.Below.refl _ w).alloc (Nat.le_refl _) _).alloc (by simp) _
  -- what holds between two rounds
  obtain ⟨J, hJ⟩ : ∃ J : List (Fin m) → World → Prop, J = fun pre W => ok pre ∧ ∃ g1, Rel δ g1 ⟨s.tm, O pre, s.nx⟩ a W ∧ StepN s.nx g s w g1 ⟨s.tm, O pre, s.nx⟩ W := ⟨_, rfl⟩
  obtain ⟨Jx, hJx⟩ : ∃ Jx : Code → List (Fin m) → World → Prop, Jx = fun c pre W => ∃ (e : Exit) (s' : St) (g1 : G), exOf c = some e ∧ (pre <+: order → Q e ⟨s.tm, s'.os, s'.nx⟩) ∧ Rel δ g1 ⟨s.tm, s'.os, s'.nx⟩ a W ∧ StepN s.nx g s w g1 ⟨s.tm, s'.os, s'.nx⟩ W := ⟨_, rfl⟩
  have hJg : ∀ pre W W' row, J pre W → W.grownBy W' row → (∀ r, row = some r → w.heap.size ≤ r ∧ ∃ o : Obj, W.heap[r]? = some o ∧ o.isCells = false) → J pre W' := by
    intro pre W W' row h hgr hrow
    rw [hJ] at h ⊢
    obtain ⟨h5, g1, h6, h7⟩ := h
    exact ⟨h5, g1, h6.grown hgr fun r e => (hrow r e).2, h7.grown hgr fun r e => (hrow r e).1⟩
  have hJxg : ∀ c pre W W' row, Jx c pre W → W.grownBy W' row → (∀ r, row = some r → w.heap.size ≤ r ∧ ∃ o : Obj, W.heap[r]? = some o ∧ o.isCells = false) → Jx c pre W' := by
    intro c pre W W' row h hgr hrow
    rw [hJx] at h ⊢
    obtain ⟨e, s', g1, h5, h8, h6, h7⟩ := h
    exact ⟨e, s', g1, h5, h8, h6.grown hgr fun r e => (hrow r e).2, h7.grown hgr fun r e => (hrow r e).1⟩
  have hput : ∀ (W : World) (o : Obj), W.heap[w.heap.size + 1]? = some o → o.isCells = false → ∀ r, some (w.heap.size + 1) = some r → w.heap.size ≤ r ∧ ∃ o : Obj, W.heap[r]? = some o ∧ o.isCells = false := fun W o h h' r e => by cases e; exact ⟨by omega, o, h, h'⟩
  have hwalk : ∀ {A : World} {row : Option Nat}, (∀ r, row = some r → W1.heap.size ≤ r ∧ ∃ o : Obj, A.heap[r]? = some o ∧ o.isWalk = true) → ∀ r, row = some r → w.heap.size ≤ r ∧ ∃ o : Obj, A.heap[r]? = some o ∧ o.isCells = false := fun h r e => by
    obtain ⟨h5, o, h6, h7⟩ := h r e
    exact ⟨Nat.le_trans hb1'.size h5, o, h6, Obj.not_cells_of_walk h7⟩
  have hW1g : ∀ pre, J pre w → J pre W1 := fun pre h => by
    rw [← hW1]
    exact hJg _ _ _ none (hJg _ _ _ none h (World.grownBy_alloc w _ none) (fun r e => by cases e)) (World.grownBy_alloc _ _ none) fun r e => by cases e
  refine ⟨w.heap.size + 1, [{ target := .collected w.heap.size, args := #[] }], W1, { target := .fn (.func gf) lb, args := #[.func (.yield (w.heap.size + 1)) #[] #[]] }, W1, gf,
    #[.func (.yield (w.heap.size + 1)) #[] #[]] ++ lb, W1, ?_, ?_, ?_, ?_, fun _ => by omega, ?_⟩
  · rw [← hW1, hrec]; exact run_enterLoop_outer _ _ _ _ _
  · simp only [resolve, hgv]
    simp [go_sem]
  · intro f' _; trivial
  · simp [invoke, go_sem, hent]
  · refine (hseq (w.heap.size + 1)
      (fun pre W => J pre W ∧ W.heap[w.heap.size + 1]? = some (.loop (rec .ready none)) ∧ W.heap[w.heap.size]? = some (.deferred (some [])))
      (fun pre W => ∃ c, Jx c pre W ∧ W.heap[w.heap.size + 1]? = some (.loop (rec .done (some c))) ∧ W.heap[w.heap.size]? = some (.deferred (some [])))
      W1 hb1'
      (fun pre A B row hs hgr hrow => ⟨hJg pre A B row hs.1 hgr (hwalk hrow), (grownBy_keeps hgr (fun r e => (hrow r e).2) hs.2.1 rfl).trans hs.2.1, (grownBy_keeps hgr (fun r e => (hrow r e).2) hs.2.2 rfl).trans hs.2.2⟩)
      (fun pre A B row hs hgr hrow => by
        obtain ⟨c, hc, hl, hk⟩ := hs
        exact ⟨c, hJxg c pre A B row hc hgr (hwalk hrow), (grownBy_keeps hgr (fun r e => (hrow r e).2) hl rfl).trans hl, (grownBy_keeps hgr (fun r e => (hrow r e).2) hk rfl).trans hk⟩)
      ?_ ⟨hW1g _ (by rw [hJ]; exact ⟨h0.1, hst0⟩), hL1, hD1⟩).mono ?_
    · -- one round
      rintro pre x W ⟨hj, hl, hk⟩ hlen
      rw [hJ] at hj
      obtain ⟨hok, g1, hr1, hs1⟩ := hj
      have hy := run_yield (P := P) (args := encs x) hl (by rw [hrec]; exact (hencs x).1.trans (hps x))
      rw [hrec] at hy
      have henc : ∀ (j : Nat) (v : Value) (d : D), (encs x)[j]? = some v → (ys x)[j]? = some d → VRel g1 W v d := fun j v d hv hd => by
        have := (hencs x).2 j v d hv hd
        have h5 := this.of0 (g := g) fun b hb => hb
        have hst := hs1.step hr.o (Nat.le_refl _)
        exact hst.vrel hr.o h5
      have hset := setps_rel (δ' := []) ps.toList (ys x) (encs x).toList (a := { tmps := a.tmps, defers := [] }) (g := g1) (w := W) (tm := s.tm) (os := O pre) (nx := s.nx) ⟨hr1.tm, rfl, hr1.o⟩ (by simpa using (hencs x).1) (fun p hp => by show p < a.tmps.size; rw [hn]; exact hpn p hp) (fun j v d hv hd => henc j v d (by simpa using hv) hd)
      have hzip : ((ps.zip (encs x)).foldl (fun t (p, v) => t.setIfInBounds p v) a.tmps) = ((ps.toList.zip (encs x).toList).foldl (fun t (p, v) => t.setIfInBounds p v) a.tmps) := by
        rw [← Array.foldl_toList, Array.toList_zip]
      refine ⟨fn, _, assign, body, hy, roundIn_of_wpIn trivial ?_⟩
      rw [hzip]
      refine wpIn_mono (awp_in hT lv assign _ _ ha1 ha2 (hround pre x hok hlen) g1 _ W hset.1 (by show _ = n; rw [hset.2]; exact hn)) ?_
      rintro e a2 W2 ⟨g2, s2, h5, h6, h7, h8⟩
      cases e with
      | normal =>
        have h5 : awp P T n s.nx lv body _ s2 := h5
        have hl2 := h8.other hset.1.o hl rfl
        have hk2 := h8.other hset.1.o hk rfl
        refine ⟨_, run_beginRound hl2 (by rw [hrec]), ?_⟩
        obtain ⟨W3, hW3⟩ : ∃ W3, W2.putObj (w.heap.size + 1) (.loop { rec .ready none with state := .busy }) = W3 := ⟨_, rfl⟩
        rw [hW3]
        have hg3 : W2.grownBy W3 (some (w.heap.size + 1)) := by rw [← hW3]; exact grownBy_putObj' _ _ _
        have hlt2 : w.heap.size + 1 < W2.heap.size := (Array.getElem?_eq_some_iff.1 hl2).1
        have hl3 : W3.heap[w.heap.size + 1]? = some (.loop { rec .ready none with state := .busy }) := by rw [← hW3]; exact World.putObj_heap_same hlt2
        have hk3 : W3.heap[w.heap.size]? = some (.deferred (some [])) := by rw [← hW3]; exact (World.putObj_heap_other (by omega)).trans hk2
        have hr3 := h6.grown hg3 fun r e => (hput W2 _ hl2 rfl r e).2
        have hs3 : StepN s.nx g s w g2 ⟨s.tm, s2.os, s2.nx⟩ W3 := ((hs1.tm (tm := s.tm) (tm' := s.tm)).trans (h8.tm (tm := s.tm) (tm' := s.tm))).grown hg3 fun r e => (hput W2 _ hl2 rfl r e).1
        refine wpIn_mono (awp_in hT lv body _ _ hb1 hb2 h5 g2 a2 W3 hr3 h7) ?_
        rintro e a4 W4 ⟨g4, s4, h9, h10, h11, h12⟩
        have hl4 := h12.other hr3.o hl3 rfl
        have hk4 := h12.other hr3.o hk3 rfl
        have hs4 : StepN s.nx g s w g4 ⟨s.tm, s4.os, s4.nx⟩ W4 := hs3.trans (h12.tm (tm := s.tm) (tm' := s.tm))
        have hst : Step g s w g4 ⟨s.tm, s4.os, s4.nx⟩ W4 := hs4.step hr.o (Nat.le_refl _)
        have hr4 : Rel δ g4 ⟨s.tm, s4.os, s4.nx⟩ a W4 := ⟨fun t d ht => let ⟨v, h13, h14⟩ := hr.tm t d ht; ⟨v, h13, hst.vrel hr.o h14⟩, hr.defers, h10.o.tm⟩
        have fin : ∀ (jump : Option Code), ∃ W5, (Instr.endRound (w.heap.size + 1) jump).run P W4 = .ok (.bool jump.isNone) W5 ∧ W4.grownBy W5 (some (w.heap.size + 1)) ∧ W5.heap[w.heap.size + 1]? = some (.loop (rec (if jump.isNone then .ready else .done) jump)) ∧ W5.heap[w.heap.size]? = some (.deferred (some [])) := fun jump => by
          have := run_endRound (P := P) jump hl4
          rw [hrec] at this ⊢
          exact ⟨_, this, grownBy_putObj' _ _ _, World.putObj_heap_same (Array.getElem?_eq_some_iff.1 hl4).1, (World.putObj_heap_other (by omega)).trans hk4⟩
        have hkp : ∀ W5, W4.grownBy W5 (some (w.heap.size + 1)) → ∀ b, g.I b → Cel W b → W5.heap[b]? = W.heap[b]? := fun W5 hg5 b hb _ => by
          have h13 : W.heap[b]? = w.heap[b]? := hs1.same b (hr.o.imm b hb).1 (hr.o.imm b hb).2
          have h14 : W4.heap[b]? = w.heap[b]? := hst.same b (hr.o.imm b hb).1 (hr.o.imm b hb).2
          have hlt := (hr.o.imm b hb).1
          rw [h13, ← h14]
          exact hg5.block b (Nat.lt_of_lt_of_le hlt hst.size) fun e => by cases e; omega
        have leave : ∀ (c : Code) (e : Exit), exOf c = some e → (pre ++ [x] <+: order → Q e ⟨s.tm, s4.os, s4.nx⟩) → Jx c (pre ++ [x]) W4 := fun c e h13 h14 => by
          rw [hJx]
          exact ⟨e, s4, g4, h13, h14, hr4, hs4⟩
        cases e with
        | normal =>
          obtain ⟨h13, h14⟩ : ok (pre ++ [x]) ∧ Sub s.nx ⟨s.tm, s4.os, s4.nx⟩ ⟨s.tm, O (pre ++ [x]), s.nx⟩ := h9
          obtain ⟨h15, h16⟩ := hr4.sub h14
          obtain ⟨W5, h17, h18, h19, h20⟩ := fin none
          refine ⟨_, W5, h17, .inl ⟨rfl, ⟨hJg _ W4 W5 _ (by rw [hJ]; exact ⟨h13, _, h15, hs4.trans h16⟩) h18 (hput W4 _ hl4 rfl), h19, h20⟩, hkp W5 h18⟩⟩
        | ret =>
          obtain ⟨W5, h17, h18, h19, h20⟩ := fin (some .ret)
          exact ⟨_, W5, h17, .inr ⟨rfl, .ret, hJxg _ _ W4 W5 _ (leave .ret .ret rfl h9) h18 (hput W4 _ hl4 rfl), h19, h20⟩⟩
        | exit i =>
          obtain ⟨W5, h17, h18, h19, h20⟩ := fin (some (.exit i))
          exact ⟨_, W5, h17, .inr ⟨rfl, .exit i, hJxg _ _ W4 W5 _ (leave (.exit i) (.exit i) rfl h9) h18 (hput W4 _ hl4 rfl), h19, h20⟩⟩
        | _ => exact h9.elim
      | _ => exact h5.elim
    · -- behind the iterator
      rintro e W2 ⟨⟨v, rfl⟩, (⟨xs, rfl, hi, hl, hk⟩ | ⟨pre, hSp, c, hi, hl, hk⟩)⟩
      · refine ⟨none, _, by have := run_endLoop (P := P) hl (by rw [hrec]; simp); rw [hrec] at this; exact this, ?_⟩
        have hg3 := grownBy_putObj' W2 (w.heap.size + 1) (.loop { rec .ready none with state := .exhausted })
        have hi3 := hJg _ W2 _ _ hi hg3 (hput W2 _ hl rfl)
        have hk3 := (World.putObj_heap_other (w := W2) (r := w.heap.size + 1) (o := .loop { rec .ready none with state := .exhausted }) (k := w.heap.size) (by omega)).trans hk
        rw [hrec] at hi3 hk3
        rw [hJ] at hi3
        obtain ⟨h5, g1, h6, h7⟩ := hi3
        exact ⟨[w.heap.size], g1, _, hdone h5, ⟨h6.tm, by show _ :: a.defers = _; rw [hr.defers]; rfl, h6.o⟩, fun D hD => by simp at hD; subst hD; exact ⟨Nat.le_refl _, hk3⟩, by simp, hn, StepN.less hN h7⟩
      · refine ⟨some c, _, by have := run_endLoop (P := P) hl (by rw [hrec]; simp); rw [hrec] at this; exact this, ?_⟩
        have hg3 := grownBy_putObj' W2 (w.heap.size + 1) (.loop { rec .done (some c) with state := .exhausted })
        have hi3 := hJxg c _ W2 _ _ hi hg3 (hput W2 _ hl rfl)
        have hk3 := (World.putObj_heap_other (w := W2) (r := w.heap.size + 1) (o := .loop { rec .done (some c) with state := .exhausted }) (k := w.heap.size) (by omega)).trans hk
        rw [hrec] at hi3 hk3
        rw [hJx] at hi3
        have hfin : ∀ Wf, (∃ (e : Exit) (s' : St) (g1 : G), exOf c = some e ∧ (pre <+: order → Q e ⟨s.tm, s'.os, s'.nx⟩) ∧ Rel δ g1 ⟨s.tm, s'.os, s'.nx⟩ a Wf ∧ StepN s.nx g s w g1 ⟨s.tm, s'.os, s'.nx⟩ Wf) → Wf.heap[w.heap.size]? = some (.deferred (some [])) →
            c.wpIn Fence.wide 5 P (fun e a' w' => ∃ (Ds : List Nat) (g' : G) (s' : St), Q e s' ∧ Rel (Ds.map mrk ++ δ) g' s' a' w' ∧ (∀ D ∈ Ds, w.heap.size ≤ D ∧ w'.heap[D]? = some (.deferred (some []))) ∧ Ds.Nodup ∧ a'.tmps.size = n ∧ StepN N g s w g' s' w') { a with defers := [{ target := .collected w.heap.size, args := #[] }] ++ a.defers } Wf := by
          rintro Wf ⟨e, s', g1, h5, h8, h6, h7⟩ hkf
          have key : ∃ (Ds : List Nat) (g' : G) (s' : St), Q e s' ∧ Rel (Ds.map mrk ++ δ) g' s' { a with defers := [{ target := .collected w.heap.size, args := #[] }] ++ a.defers } Wf ∧ (∀ D ∈ Ds, w.heap.size ≤ D ∧ Wf.heap[D]? = some (.deferred (some []))) ∧ Ds.Nodup ∧ a.tmps.size = n ∧ StepN N g s w g' s' Wf :=
            ⟨[w.heap.size], g1, _, h8 hSp, ⟨h6.tm, by show _ :: a.defers = _; rw [hr.defers]; rfl, h6.o⟩, fun D hD => by simp at hD; subst hD; exact ⟨Nat.le_refl _, hkf⟩, by simp, hn, StepN.less hN h7⟩
          cases c <;> simp only [exOf, reduceCtorEq, Option.some.injEq] at h5
          · subst h5; exact wpIn_exit key
          · subst h5; exact wpIn_ret key
        exact hfin _ hi3 hk3
end
end Dm
