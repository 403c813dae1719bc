import Derived.Test.YtceoichdaepegaaGreatP5
import Derived.Ground.SlsfProg
import Derived.LoopNIn
import Derived.Shelf.Abstract
import Derived.Shelf.SlSortCmp.NoneTotal
set_option linter.unusedSimpArgs false
set_option linter.unusedVariables false
set_option linter.unusedSectionVars false
namespace Dm
open Go
def mrk (D : Nat) : Deferred := { target := .collected D, args := #[] }
section
variable {δ : List Deferred} {P : Program} {T : Tab} {g g' g'' : G} {s s' s'' : St} {a : Act} {w w' w'' : World} {n N : Nat}

def SWm (P : Program) (n N : Nat) (c : Code) (Q : Exit → St → Prop) (s : St) : Prop :=
  ∀ (δ : List Deferred) (g : G) (a : Act) (w : World), Rel δ g s a w → a.tmps.size = n →
    c.wp P (fun e a' w' => ∃ (Ds : List Nat) (g' : G) (s' : St), Q e s' ∧ Rel (Ds.map mrk ++ δ) g' s' a' w' ∧ (∀ D ∈ Ds, w.heap.size ≤ D ∧ w'.heap[D]? = some (.deferred (some []))) ∧ Ds.Nodup ∧ a'.tmps.size = n ∧ StepN N g s w g' s' w') a w

theorem SWm.of {c : Code} {Q : Exit → St → Prop} (h : SWp P n N c Q s) : SWm P n N c Q s := fun δ g a w hr hn =>
  wp_mono (h δ g a w hr hn) fun e a' w' ⟨g', s', h1, h2, h3, h4⟩ => ⟨[], g', s', h1, h2, fun D hD => (by cases hD), List.nodup_nil, h3, h4⟩

theorem StepN.other (h : StepN N g s w g' s' w') (ho : RelO g s w) {D : Nat} {o : Obj} (hD : w.heap[D]? = some o) (hc : plainOb o = false) : w'.heap[D]? = some o := by
  rw [h.same D (Array.getElem?_eq_some_iff.1 hD).1 fun hown => ?_, hD]
  obtain ⟨o', h1, h2⟩ := Own.cel ho hown
  rw [h1] at hD
  cases hD
  rw [hc] at h2
  cases h2

theorem SWm.seq {x y : Code} {Q : Exit → St → Prop} (h : SWm P n N x (sq (SWm P n N y Q) Q) s) : SWm P n N (.seq x y) Q s := fun δ g a w hr hn => by
  refine wp_seq (wp_mono (h δ g a w hr hn) fun e a' w' ⟨Ds, g', s', h1, h2, h3, h4, h5, h6⟩ => ?_)
  cases e with
  | normal =>
    refine wp_mono (h1 _ g' a' w' h2 h5) fun e a'' w'' ⟨Ds', g'', s'', h7, h8, h9, h10, h11, h12⟩ => ?_
    refine ⟨Ds' ++ Ds, g'', s'', h7, by simpa using h8, fun D hD => ?_, ?_, h11, h6.trans h12⟩
    · rcases List.mem_append.1 hD with hD | hD
      · exact ⟨Nat.le_trans h6.size (h9 D hD).1, (h9 D hD).2⟩
      · exact ⟨(h3 D hD).1, h12.other h2.o (h3 D hD).2 rfl⟩
    · refine List.nodup_append.2 ⟨h10, h4, fun D hD D' hD' e => ?_⟩
      subst e
      have := (h9 D hD).1
      have := (Array.getElem?_eq_some_iff.1 (h3 D hD').2).1
      omega
  | _ => exact ⟨Ds, g', s', h1, h2, h3, h4, h5, h6⟩

theorem SWm.block {id : Nat} {c : Code} {Q : Exit → St → Prop} (h : SWm P n N c (bl id Q) s) : SWm P n N (.block id c) Q s := fun δ g a w hr hn => by
  refine wp_block (wp_mono (h δ g a w hr hn) fun e a' w' ⟨Ds, g', s', h1, h2, h3, h4, h5, h6⟩ => ?_)
  cases e with
  | exit i =>
    simp only [bl] at h1
    simp only [Exit.inBlock]
    split
    · rename_i hi
      rw [if_pos hi] at h1
      exact ⟨Ds, g', s', h1, h2, h3, h4, h5, h6⟩
    · rename_i hi
      rw [if_neg hi] at h1
      exact ⟨Ds, g', s', h1, h2, h3, h4, h5, h6⟩
  | _ => exact ⟨Ds, g', s', h1, h2, h3, h4, h5, h6⟩

theorem SWm.mono {c : Code} {Q Q' : Exit → St → Prop} (h : SWm P n N c Q s) (hq : ∀ e s', Q e s' → Q' e s') : SWm P n N c Q' s :=
  fun δ g a w hr hn => wp_mono (h δ g a w hr hn) fun e a' w' ⟨Ds, g', s', h1, h2⟩ => ⟨Ds, g', s', hq e s' h1, h2⟩

theorem Ext.grown (h : Ext w w') : w.grownBy w' none := ⟨h.2.2.os, h.2.2.tape, h.2.2.out, h.1, fun k hk _ => h.2.1 k hk⟩

theorem RelO.grown {row : Option Nat} (ho : RelO g s w) (hg : w.grownBy w' row) (hrow : ∀ r, row = some r → ∃ o : Obj, w.heap[r]? = some o ∧ plainOb o = false) : RelO g s w' := by
  have hcel : ∀ b, Cel w b → w'.heap[b]? = w.heap[b]? := fun b hb => hg.block b hb.lt fun e => by
    obtain ⟨o, h1, h2⟩ := hrow b e.symm
    obtain ⟨o', h3, h4⟩ := hb
    rw [h3] at h1
    cases h1
    rw [h4] at h2
    cases h2
  have hk : Keeps g.I w w' := fun b hb => hcel b (ho.cel b hb)
  exact ⟨fun id o h => (ho.ok id o h).mono hk (.refl g) (fun b hb => hcel b (Own.cel ho ⟨id, o, h, hb⟩)) rfl, ho.apart, ho.fresh, fun b hb => ⟨Nat.lt_of_lt_of_le (ho.imm b hb).1 hg.size, (ho.imm b hb).2⟩, fun b hb => (ho.cel b hb).keep (hcel b (ho.cel b hb))⟩
theorem Rel.grown {row : Option Nat} (hr : Rel δ g s a w) (hg : w.grownBy w' row) (hrow : ∀ r, row = some r → ∃ o : Obj, w.heap[r]? = some o ∧ plainOb o = false) : Rel δ g s a w' := by
  have hk : Keeps g.I w w' := fun b hb => hg.block b (hr.o.cel b hb).lt fun e => by
    obtain ⟨o, h1, h2⟩ := hrow b e.symm
    obtain ⟨o', h3, h4⟩ := hr.o.cel b hb
    rw [h3] at h1
    cases h1
    rw [h4] at h2
    cases h2
  exact ⟨fun t d ht => let ⟨v, h1, h2⟩ := hr.tm t d ht; ⟨v, h1, h2.mono hk (.refl g)⟩, hr.defers, hr.o.grown hg hrow⟩
theorem StepN.grown {row : Option Nat} (h : StepN N g s w g' s' w') (hg : w'.grownBy w'' row) (hd : w'.drawn ≤ w''.drawn) (hrow : ∀ r, row = some r → w.heap.size ≤ r) : StepN N g s w g' s' w'' :=
  ⟨h.ρ, h.κ, h.I, Nat.le_trans h.size hg.size, fun b hb ho => (hg.block b (Nat.lt_of_lt_of_le hb h.size) fun e => by have := hrow b e.symm; omega).trans (h.same b hb ho), h.own, h.imm, h.env.trans ⟨hg.os, hg.output, hg.tape, hd⟩⟩

theorem StepN.less {M : Nat} (hNM : N ≤ M) (h : StepN M g s w g' s' w') : StepN N g s w g' s' w' :=
  ⟨fun id b hi => h.ρ id b (by omega), fun id a l c hi => h.κ id a l c (by omega), h.I, h.size, h.same, h.own, h.imm, h.env⟩
def SeqG (P : Program) (gf : FuncId) (lb : Array Value) (I : Nat → Prop) {m : Nat} (ys : Fin m → List D) (order : List (Fin m)) (w : World) : Prop :=
  ∀ (l : Nat) (J Jx : List (Fin m) → World → Prop) (W : World), RowKit.Below w.heap.size w W → (∀ pre A B, J pre A → Ext A B → J pre B) → (∀ pre A B, Jx pre A → Ext A B → Jx pre B) →
    (∀ pre x (vs : Array Value) W1, J pre W1 → pre.length < m → vs.size = (ys x).length → (∀ (j : Nat) (v : Value) (d : D), vs[j]? = some v → (ys x)[j]? = some d → VRel (G0 I) W1 v d) → YieldAt Fence.wide 3 P l vs W1 fun e W' =>
      (e = .returned (.bool true) ∧ J (pre ++ [x]) W' ∧ ∀ b, I b → Cel W1 b → W'.heap[b]? = W1.heap[b]?) ∨ (e = .returned (.bool false) ∧ Jx (pre ++ [x]) W')) →
    J [] W → CallsIn Fence.wide 4 P gf (#[.func (.yield l) #[] #[]] ++ lb) W fun e W' => (∃ v, e = .returned v) ∧ ((∃ xs, xs = order ∧ J xs W') ∨ (∃ pre, pre <+: order ∧ Jx pre W'))
def IterOk (P : Program) (gf : FuncId) (caps : List D) {m : Nat} (ys : Fin m → List D) (order : List (Fin m)) : Prop :=
  (∀ (args : Array Value) (w : World), (callFunc gf args).run P w = .ok (.enter gf args) w) ∧ ∀ (I : Nat → Prop) (w : World) (lb : Array Value), (∀ b, I b → Cel w b) → lb.size = caps.length → (∀ (i : Nat) (v : Value) (d : D), lb[i]? = some v → caps[i]? = some d → VRel (G0 I) w v d) →
    SeqG P gf lb I ys order w

def setps : List Nat → List D → List (Nat × D) → List (Nat × D)
  | p :: l, d :: ds, tm => setps l ds ((p, d) :: tm)
  | _, _, tm => tm
def asg (A : St → Prop) : Exit → St → Prop
  | .normal, s => A s
  | _, _ => False
def rfp (Q : Exit → St → Prop) (s : St) (A : St → Prop) (pfx : Prop) : Exit → St → Prop
  | .normal, s' => A s'
  | .ret, s' => pfx → Q .ret ⟨s.tm, s'.os, s'.nx⟩
  | .exit i, s' => pfx → Q (.exit i) ⟨s.tm, s'.os, s'.nx⟩
  | _, _ => False

theorem setps_rel {δ' : List Deferred} {w : World} : ∀ (ps : List Nat) (ds : List D) (vs : List Value) {tm : List (Nat × D)} {os : List (Nat × Ob)} {nx : Nat} {a : Act}, Rel δ' g ⟨tm, os, nx⟩ a w → vs.length = ds.length → (∀ p ∈ ps, p < a.tmps.size) →
    (∀ (j : Nat) (v : Value) (d : D), vs[j]? = some v → ds[j]? = some d → VRel g w v d) →
    Rel δ' g ⟨setps ps ds tm, os, nx⟩ { tmps := (ps.zip vs).foldl (fun t (p, v) => t.setIfInBounds p v) a.tmps, defers := a.defers } w ∧ ((ps.zip vs).foldl (fun t (p, v) => t.setIfInBounds p v) a.tmps).size = a.tmps.size
  | [], ds, vs, tm, os, nx, a, hr, _, _, _ => ⟨by simpa [setps] using hr, rfl⟩
  | p :: ps, [], [], tm, os, nx, a, hr, _, _, _ => ⟨by simpa [setps] using hr, rfl⟩
  | p :: ps, d :: ds, v :: vs, tm, os, nx, a, hr, hl, hp, hv => by
    have h1 : Rel δ' g ⟨(p, d) :: tm, os, nx⟩ (a.put (some p) v) w := hr.put (some p) (hv 0 v d rfl rfl) (fun x hx => by cases hx; exact hp p (by simp))
    have h2 := setps_rel ps ds vs (a := a.put (some p) v) h1 (by simpa using hl) (fun q hq => by rw [put_size]; exact hp q (by simp [hq])) (fun j u e hu he => hv (j + 1) u e (by simpa using hu) (by simpa using he))
    refine ⟨?_, ?_⟩
    · have := h2.1
      simpa [setps, Act.put] using this
    · have := h2.2
      rw [put_size] at this
      simpa [Act.put] using this

def exOf : Code → Option Exit
  | .ret => some .ret
  | .exit i => some (.exit i)
  | _ => none

def D.pure1 : D → Bool
  | .c _ => true
  | .rp _ => true
  | _ => false
theorem VRel.toG0 {v : Value} {d : D} (hd : d.pure1 = true) (h : VRel g w v d) : VRel (G0 g.I) w v d := by
  cases d <;> simp only [D.pure1, Bool.false_eq_true] at hd
  case c x => cases h with | c _ _ h => exact .c _ _ h
  case rp cs => cases h with | rp b off _ vs hI hc => exact .rp b off cs vs hI hc

theorem SWm.rangeFunc (hT : TabS P T) (lv : Nat → Option (List Nat)) {gop : Operand} {ps : Array Tmp} {assign body : Code} {Q : Exit → St → Prop} {gf : FuncId} {caps : List D} (hev : s.ev gop = .fn (.func gf) [] caps) (hcaps : ∀ d ∈ caps, d.pure1 = true)
    {m : Nat} {ys : Fin m → List D} {order : List (Fin m)} (hit : IterOk P gf caps ys order) (O : List (Fin m) → List (Nat × Ob)) (ok : List (Fin m) → Prop)
    (hps : ∀ x, (ys x).length = ps.size) (hpn : ∀ p ∈ ps.toList, p < n) (hN : N ≤ s.nx)
    (ha1 : plainC assign = true) (ha2 : dstOk n assign = true) (hb1 : plainC body = true) (hb2 : dstOk n body = true)
    (h0 : ok [] ∧ Sub s.nx s ⟨s.tm, O [], s.nx⟩)
    (hround : ∀ pre x, ok pre → pre.length < m → awp P T n s.nx lv assign (asg fun s1 =>
      awp P T n s.nx lv body (rfp Q s (fun s' => ok (pre ++ [x]) ∧ Sub s.nx ⟨s.tm, s'.os, s'.nx⟩ ⟨s.tm, O (pre ++ [x]), s.nx⟩) (pre ++ [x] <+: order)) s1) ⟨setps ps.toList (ys x) s.tm, O pre, s.nx⟩)
    (hdone : ok order → Q .normal ⟨s.tm, O order, s.nx⟩) : SWm P n N (.rangeFunc gop ps assign body) Q s := by
  intro δ g a w hr hn
  have hg := hr.ev gop
  rw [hev] at hg
  generalize hgv : a.eval gop = gv at hg
  cases hg with
  | fn _ fiv lb _ _ h1 h2 h3 h4 =>
  have hfi : fiv = #[] := by
    apply Array.eq_empty_of_size_eq_zero
    simpa using h1
  subst hfi
  obtain ⟨hent, hit⟩ := hit
  have hseq := hit g.I w lb hr.o.cel h2 fun i v d hv hd => (h4 i v d hv hd).toG0 (hcaps d (List.mem_of_getElem? hd))
  have hst0 : ∃ g1, Rel δ g1 ⟨s.tm, O [], s.nx⟩ a w ∧ StepN s.nx g s w g1 ⟨s.tm, O [], s.nx⟩ w := ⟨_, hr.sub h0.2⟩
  refine wpIn_wide (n := 5).1 (wpIn_rangeFunc fun fn _ => ?_)
  obtain ⟨rec, hrec⟩ : ∃ rec : LoopState → Option Code → Loop, rec = fun st pe => { state := st, pending := pe, fn, tmps := a.tmps, params := ps, assign, body, defers := w.heap.size } := ⟨_, rfl⟩
  obtain ⟨W1, hW1⟩ : ∃ W1, (w.alloc (.deferred (some []))).alloc (.loop (rec .ready none)) = W1 := ⟨_, rfl⟩
  have hL1 : W1.heap[w.heap.size + 1]? = some (.loop (rec .ready none)) := by
    rw [← hW1]; have := World.alloc_heap_new (w.alloc (.deferred (some []))) (.loop (rec .ready none)); rwa [World.size_alloc] at this
  have hD1 : W1.heap[w.heap.size]? = some (.deferred (some [])) := by
    rw [← hW1]; exact (RowKit.Below.heap_alloc _ _ _ (by simp)).trans (World.alloc_heap_new w _)
  have hb1' : RowKit.Below w.heap.size w W1 := by
    rw [← hW1]; exact ((RowKit.Below.refl _ w).alloc (Nat.le_refl _) _).alloc (by simp) _
  -- what holds between two rounds
  obtain ⟨J, hJ⟩ : ∃ J : List (Fin m) → World → Prop, J = fun pre W => ok pre ∧ ∃ g1, Rel δ g1 ⟨s.tm, O pre, s.nx⟩ a W ∧ StepN s.nx g s w g1 ⟨s.tm, O pre, s.nx⟩ W := ⟨_, rfl⟩
  obtain ⟨Jx, hJx⟩ : ∃ Jx : Code → List (Fin m) → World → Prop, Jx = fun c pre W => ∃ (e : Exit) (s' : St) (g1 : G), exOf c = some e ∧ (pre <+: order → Q e ⟨s.tm, s'.os, s'.nx⟩) ∧ Rel δ g1 ⟨s.tm, s'.os, s'.nx⟩ a W ∧ StepN s.nx g s w g1 ⟨s.tm, s'.os, s'.nx⟩ W := ⟨_, rfl⟩
  have hJe : ∀ pre W W', J pre W → Ext W W' → J pre W' := by
    intro pre W W' h he
    rw [hJ] at h ⊢
    obtain ⟨h5, g1, h6, h7⟩ := h
    exact ⟨h5, g1, h6.grown he.grown fun r e => (by cases e), h7.grown he.grown he.2.2.drw fun r e => by cases e⟩
  have hJxe : ∀ c pre W W', Jx c pre W → Ext W W' → Jx c pre W' := by
    intro c pre W W' h he
    rw [hJx] at h ⊢
    obtain ⟨e, s', g1, h5, h8, h6, h7⟩ := h
    exact ⟨e, s', g1, h5, h8, h6.grown he.grown fun r e => (by cases e), h7.grown he.grown he.2.2.drw fun r e => by cases e⟩
  have hJg : ∀ pre W W' row, J pre W → W.grownBy W' row → W.drawn ≤ W'.drawn → (∀ r, row = some r → w.heap.size ≤ r ∧ ∃ o : Obj, W.heap[r]? = some o ∧ plainOb o = false) → J pre W' := by
    intro pre W W' row h hgr hdr hrow
    rw [hJ] at h ⊢
    obtain ⟨h5, g1, h6, h7⟩ := h
    exact ⟨h5, g1, h6.grown hgr fun r e => (hrow r e).2, h7.grown hgr hdr fun r e => (hrow r e).1⟩
  have hJxg : ∀ c pre W W' row, Jx c pre W → W.grownBy W' row → W.drawn ≤ W'.drawn → (∀ r, row = some r → w.heap.size ≤ r ∧ ∃ o : Obj, W.heap[r]? = some o ∧ plainOb o = false) → Jx c pre W' := by
    intro c pre W W' row h hgr hdr hrow
    rw [hJx] at h ⊢
    obtain ⟨e, s', g1, h5, h8, h6, h7⟩ := h
    exact ⟨e, s', g1, h5, h8, h6.grown hgr fun r e => (hrow r e).2, h7.grown hgr hdr fun r e => (hrow r e).1⟩
  have hput : ∀ (W : World) (o : Obj), W.heap[w.heap.size + 1]? = some o → plainOb o = false → ∀ r, some (w.heap.size + 1) = some r → w.heap.size ≤ r ∧ ∃ o : Obj, W.heap[r]? = some o ∧ plainOb o = false := fun W o h h' r e => by cases e; exact ⟨by omega, o, h, h'⟩
  have hW1g : ∀ pre, J pre w → J pre W1 := fun pre h => by
    rw [← hW1]
    exact hJg _ _ _ none (hJg _ _ _ none h (World.grownBy_alloc w _ none) (Nat.le_refl _) (fun r e => by cases e)) (World.grownBy_alloc _ _ none) (Nat.le_refl _) fun r e => by cases e
  refine ⟨w.heap.size + 1, [{ target := .collected w.heap.size, args := #[] }], W1, { target := .fn (.func gf) lb, args := #[.func (.yield (w.heap.size + 1)) #[] #[]] }, W1, gf,
    #[.func (.yield (w.heap.size + 1)) #[] #[]] ++ lb, W1, ?_, ?_, ?_, ?_, fun _ => by omega, ?_⟩
  · rw [← hW1, hrec]; exact run_enterLoop_outer _ _ _ _ _
  · simp only [resolve, hgv]
    simp [go_sem]
  · intro f' _; trivial
  · simp [invoke, go_sem, hent]
  · refine (hseq (w.heap.size + 1)
      (fun pre W => J pre W ∧ W.heap[w.heap.size + 1]? = some (.loop (rec .ready none)) ∧ W.heap[w.heap.size]? = some (.deferred (some [])))
      (fun pre W => ∃ c, Jx c pre W ∧ W.heap[w.heap.size + 1]? = some (.loop (rec .done (some c))) ∧ W.heap[w.heap.size]? = some (.deferred (some [])))
      W1 hb1'
      (fun pre A B hs he => ⟨hJe pre A B hs.1 he, (he.2.1 _ (Array.getElem?_eq_some_iff.1 hs.2.1).1).trans hs.2.1, (he.2.1 _ (Array.getElem?_eq_some_iff.1 hs.2.2).1).trans hs.2.2⟩)
      (fun pre A B hs he => by
        obtain ⟨c, hc, hl, hk⟩ := hs
        exact ⟨c, hJxe c pre A B hc he, (he.2.1 _ (Array.getElem?_eq_some_iff.1 hl).1).trans hl, (he.2.1 _ (Array.getElem?_eq_some_iff.1 hk).1).trans hk⟩)
      ?_ ⟨hW1g _ (by rw [hJ]; exact ⟨h0.1, hst0⟩), hL1, hD1⟩).mono ?_
    · -- one round
      rintro pre x vs W ⟨hj, hl, hk⟩ hlen hvs1 hvs2
      rw [hJ] at hj
      obtain ⟨hok, g1, hr1, hs1⟩ := hj
      have hy := run_yield (P := P) (args := vs) hl (by rw [hrec]; exact hvs1.trans (hps x))
      rw [hrec] at hy
      have henc : ∀ (j : Nat) (v : Value) (d : D), vs[j]? = some v → (ys x)[j]? = some d → VRel g1 W v d := fun j v d hv hd =>
        (hvs2 j v d hv hd).of0 (g := g1) fun b hb => hs1.I b hb
      have hset := setps_rel (δ' := []) ps.toList (ys x) vs.toList (a := { tmps := a.tmps, defers := [] }) (g := g1) (w := W) (tm := s.tm) (os := O pre) (nx := s.nx) ⟨hr1.tm, rfl, hr1.o⟩ (by simpa using hvs1) (fun p hp => by show p < a.tmps.size; rw [hn]; exact hpn p hp) (fun j v d hv hd => henc j v d (by simpa using hv) hd)
      have hzip : ((ps.zip vs).foldl (fun t (p, v) => t.setIfInBounds p v) a.tmps) = ((ps.toList.zip vs.toList).foldl (fun t (p, v) => t.setIfInBounds p v) a.tmps) := by
        rw [← Array.foldl_toList, Array.toList_zip]
      refine ⟨fn, _, assign, body, hy, roundIn_of_wpIn trivial ?_⟩
      rw [hzip]
      refine wpIn_mono (awp_in hT lv assign _ _ ha1 ha2 (hround pre x hok hlen) g1 _ W hset.1 (by show _ = n; rw [hset.2]; exact hn)) ?_
      rintro e a2 W2 ⟨g2, s2, h5, h6, h7, h8⟩
      cases e with
      | normal =>
        have h5 : awp P T n s.nx lv body _ s2 := h5
        have hl2 := h8.other hset.1.o hl rfl
        have hk2 := h8.other hset.1.o hk rfl
        refine ⟨_, run_beginRound hl2 (by rw [hrec]), ?_⟩
        obtain ⟨W3, hW3⟩ : ∃ W3, W2.putObj (w.heap.size + 1) (.loop { rec .ready none with state := .busy }) = W3 := ⟨_, rfl⟩
        rw [hW3]
        have hg3 : W2.grownBy W3 (some (w.heap.size + 1)) := by rw [← hW3]; exact grownBy_putObj' _ _ _
        have hlt2 : w.heap.size + 1 < W2.heap.size := (Array.getElem?_eq_some_iff.1 hl2).1
        have hl3 : W3.heap[w.heap.size + 1]? = some (.loop { rec .ready none with state := .busy }) := by rw [← hW3]; exact World.putObj_heap_same hlt2
        have hk3 : W3.heap[w.heap.size]? = some (.deferred (some [])) := by rw [← hW3]; exact (World.putObj_heap_other (by omega)).trans hk2
        have hr3 := h6.grown hg3 fun r e => (hput W2 _ hl2 rfl r e).2
        have hs3 : StepN s.nx g s w g2 ⟨s.tm, s2.os, s2.nx⟩ W3 := ((hs1.tm (tm := s.tm) (tm' := s.tm)).trans (h8.tm (tm := s.tm) (tm' := s.tm))).grown hg3 (by rw [← hW3]; exact Nat.le_refl _) fun r e => (hput W2 _ hl2 rfl r e).1
        refine wpIn_mono (awp_in hT lv body _ _ hb1 hb2 h5 g2 a2 W3 hr3 h7) ?_
        rintro e a4 W4 ⟨g4, s4, h9, h10, h11, h12⟩
        have hl4 := h12.other hr3.o hl3 rfl
        have hk4 := h12.other hr3.o hk3 rfl
        have hs4 : StepN s.nx g s w g4 ⟨s.tm, s4.os, s4.nx⟩ W4 := hs3.trans (h12.tm (tm := s.tm) (tm' := s.tm))
        have hst : Step g s w g4 ⟨s.tm, s4.os, s4.nx⟩ W4 := hs4.step hr.o (Nat.le_refl _)
        have hr4 : Rel δ g4 ⟨s.tm, s4.os, s4.nx⟩ a W4 := ⟨fun t d ht => let ⟨v, h13, h14⟩ := hr.tm t d ht; ⟨v, h13, hst.vrel hr.o h14⟩, hr.defers, h10.o.tm⟩
        have fin : ∀ (jump : Option Code), ∃ W5, (Instr.endRound (w.heap.size + 1) jump).run P W4 = .ok (.bool jump.isNone) W5 ∧ (W4.grownBy W5 (some (w.heap.size + 1)) ∧ W4.drawn ≤ W5.drawn) ∧ W5.heap[w.heap.size + 1]? = some (.loop (rec (if jump.isNone then .ready else .done) jump)) ∧ W5.heap[w.heap.size]? = some (.deferred (some [])) := fun jump => by
          have := run_endRound (P := P) jump hl4
          rw [hrec] at this ⊢
          exact ⟨_, this, ⟨grownBy_putObj' _ _ _, Nat.le_refl _⟩, World.putObj_heap_same (Array.getElem?_eq_some_iff.1 hl4).1, (World.putObj_heap_other (by omega)).trans hk4⟩
        have hkp : ∀ W5, W4.grownBy W5 (some (w.heap.size + 1)) → ∀ b, g.I b → Cel W b → W5.heap[b]? = W.heap[b]? := fun W5 hg5 b hb _ => by
          have h13 : W.heap[b]? = w.heap[b]? := hs1.same b (hr.o.imm b hb).1 (hr.o.imm b hb).2
          have h14 : W4.heap[b]? = w.heap[b]? := hst.same b (hr.o.imm b hb).1 (hr.o.imm b hb).2
          have hlt := (hr.o.imm b hb).1
          rw [h13, ← h14]
          exact hg5.block b (Nat.lt_of_lt_of_le hlt hst.size) fun e => by cases e; omega
        have leave : ∀ (c : Code) (e : Exit), exOf c = some e → (pre ++ [x] <+: order → Q e ⟨s.tm, s4.os, s4.nx⟩) → Jx c (pre ++ [x]) W4 := fun c e h13 h14 => by
          rw [hJx]
          exact ⟨e, s4, g4, h13, h14, hr4, hs4⟩
        cases e with
        | normal =>
          obtain ⟨h13, h14⟩ : ok (pre ++ [x]) ∧ Sub s.nx ⟨s.tm, s4.os, s4.nx⟩ ⟨s.tm, O (pre ++ [x]), s.nx⟩ := h9
          obtain ⟨h15, h16⟩ := hr4.sub h14
          obtain ⟨W5, h17, h18, h19, h20⟩ := fin none
          refine ⟨_, W5, h17, .inl ⟨rfl, ⟨hJg _ W4 W5 _ (by rw [hJ]; exact ⟨h13, _, h15, hs4.trans h16⟩) h18.1 h18.2 (hput W4 _ hl4 rfl), h19, h20⟩, hkp W5 h18.1⟩⟩
        | ret =>
          obtain ⟨W5, h17, h18, h19, h20⟩ := fin (some .ret)
          exact ⟨_, W5, h17, .inr ⟨rfl, .ret, hJxg _ _ W4 W5 _ (leave .ret .ret rfl h9) h18.1 h18.2 (hput W4 _ hl4 rfl), h19, h20⟩⟩
        | exit i =>
          obtain ⟨W5, h17, h18, h19, h20⟩ := fin (some (.exit i))
          exact ⟨_, W5, h17, .inr ⟨rfl, .exit i, hJxg _ _ W4 W5 _ (leave (.exit i) (.exit i) rfl h9) h18.1 h18.2 (hput W4 _ hl4 rfl), h19, h20⟩⟩
        | _ => exact h9.elim
      | _ => exact h5.elim
    · -- behind the iterator
      rintro e W2 ⟨⟨v, rfl⟩, (⟨xs, rfl, hi, hl, hk⟩ | ⟨pre, hSp, c, hi, hl, hk⟩)⟩
      · refine ⟨none, _, by have := run_endLoop (P := P) hl (by rw [hrec]; simp); rw [hrec] at this; exact this, ?_⟩
        have hg3 := grownBy_putObj' W2 (w.heap.size + 1) (.loop { rec .ready none with state := .exhausted })
        have hi3 := hJg _ W2 _ _ hi hg3 (Nat.le_refl _) (hput W2 _ hl rfl)
        have hk3 := (World.putObj_heap_other (w := W2) (r := w.heap.size + 1) (o := .loop { rec .ready none with state := .exhausted }) (k := w.heap.size) (by omega)).trans hk
        rw [hrec] at hi3 hk3
        rw [hJ] at hi3
        obtain ⟨h5, g1, h6, h7⟩ := hi3
        exact ⟨[w.heap.size], g1, _, hdone h5, ⟨h6.tm, by show _ :: a.defers = _; rw [hr.defers]; rfl, h6.o⟩, fun D hD => by simp at hD; subst hD; exact ⟨Nat.le_refl _, hk3⟩, by simp, hn, StepN.less hN h7⟩
      · refine ⟨some c, _, by have := run_endLoop (P := P) hl (by rw [hrec]; simp); rw [hrec] at this; exact this, ?_⟩
        have hg3 := grownBy_putObj' W2 (w.heap.size + 1) (.loop { rec .done (some c) with state := .exhausted })
        have hi3 := hJxg c _ W2 _ _ hi hg3 (Nat.le_refl _) (hput W2 _ hl rfl)
        have hk3 := (World.putObj_heap_other (w := W2) (r := w.heap.size + 1) (o := .loop { rec .done (some c) with state := .exhausted }) (k := w.heap.size) (by omega)).trans hk
        rw [hrec] at hi3 hk3
        rw [hJx] at hi3
        have hfin : ∀ Wf, (∃ (e : Exit) (s' : St) (g1 : G), exOf c = some e ∧ (pre <+: order → Q e ⟨s.tm, s'.os, s'.nx⟩) ∧ Rel δ g1 ⟨s.tm, s'.os, s'.nx⟩ a Wf ∧ StepN s.nx g s w g1 ⟨s.tm, s'.os, s'.nx⟩ Wf) → Wf.heap[w.heap.size]? = some (.deferred (some [])) →
            c.wpIn Fence.wide 5 P (fun e a' w' => ∃ (Ds : List Nat) (g' : G) (s' : St), Q e s' ∧ Rel (Ds.map mrk ++ δ) g' s' a' w' ∧ (∀ D ∈ Ds, w.heap.size ≤ D ∧ w'.heap[D]? = some (.deferred (some []))) ∧ Ds.Nodup ∧ a'.tmps.size = n ∧ StepN N g s w g' s' w') { a with defers := [{ target := .collected w.heap.size, args := #[] }] ++ a.defers } Wf := by
          rintro Wf ⟨e, s', g1, h5, h8, h6, h7⟩ hkf
          have key : ∃ (Ds : List Nat) (g' : G) (s' : St), Q e s' ∧ Rel (Ds.map mrk ++ δ) g' s' { a with defers := [{ target := .collected w.heap.size, args := #[] }] ++ a.defers } Wf ∧ (∀ D ∈ Ds, w.heap.size ≤ D ∧ Wf.heap[D]? = some (.deferred (some []))) ∧ Ds.Nodup ∧ a.tmps.size = n ∧ StepN N g s w g' s' Wf :=
            ⟨[w.heap.size], g1, _, h8 hSp, ⟨h6.tm, by show _ :: a.defers = _; rw [hr.defers]; rfl, h6.o⟩, fun D hD => by simp at hD; subst hD; exact ⟨Nat.le_refl _, hkf⟩, by simp, hn, StepN.less hN h7⟩
          cases c <;> simp only [exOf, reduceCtorEq, Option.some.injEq] at h5
          · subst h5; exact wpIn_exit key
          · subst h5; exact wpIn_ret key
        exact hfin _ hi3 hk3
end
end Dm
namespace Dm
open Go
section
variable {δ : List Deferred} {P : Program} {T : Tab} {g g' g'' : G} {s s' s'' : St} {a : Act} {w w' w'' : World} {n N : Nat}

theorem leaves_marks {m : Nat} {fn : Func} {tmps : Array Value} {R : Ending → World → Prop} (K : World → Prop) : ∀ (Ds : List Nat) (w : World), Ds.Nodup → (∀ D ∈ Ds, w.heap[D]? = some (.deferred (some []))) → K w →
    (∀ W D, D ∈ Ds → K W → W.heap[D]? = some (.deferred (some [])) → K (W.putObj D (.deferred none))) → (∀ W, K W → ∃ v, (results fn tmps).run P W = .ok v W ∧ R (.returned v) W) →
    LeavesInM Fence.wide m P fn tmps R (Ds.map mrk) .returning w
  | [], w, _, _, hK, _, h => h w hK
  | D :: Ds, w, hn, hD, hK, hs, h => by
    obtain ⟨hn1, hn2⟩ := List.nodup_cons.1 hn
    refine ⟨by simp, .inl ⟨D, _, rfl, run_takeDeferred (hD D (by simp)), ?_⟩⟩
    refine leaves_marks K Ds _ hn2 (fun D' hD' => ?_) (hs w D (by simp) hK (hD D (by simp))) (fun W D' hD' => hs W D' (by simp [hD'])) h
    have hne : D' ≠ D := fun e => hn1 (by rw [← e]; exact hD')
    exact (World.putObj_heap_other hne).trans (hD D' (by simp [hD']))

theorem acall_introM {f : FuncId} {fn : Func} {c : Code} {ds : List D} {os : List (Nat × Ob)} {nx : Nat} {Q : D → List (Nat × Ob) → Nat → Prop}
    (hf : P.funcs[f]? = some fn) (hname : (fn.name == "runtime.NumGoroutine") = false) (hb : fn.body = some c) (hn : fn.ntmps = n) (hl : ds.length ≤ n) {rs : List ResultVar} (hrs : fn.results.toList = rs)
    (h : SWm P n nx c (fin P rs Q) ⟨prm 0 ds, os, nx⟩) : ACall P f ds os nx Q := by
  refine ⟨⟨fn, hf, hname, by rw [hb]; rfl⟩, fun g w vs ho hsz hv => ?_⟩
  refine callsIn_wide (n := 5).1 (callsIn_of_wp_marks hf hb trivial (wpIn_wide.2 ?_))
  subst hn
  have hr : Rel [] g ⟨prm 0 ds, os, nx⟩ { tmps := vs ++ Array.replicate (fn.ntmps - vs.size) undef, defers := [] } w := by
    refine ⟨fun t d ht => ?_, rfl, ho.tm⟩
    obtain ⟨_, h2⟩ := lk_prm ds 0 t d ht
    rw [Nat.sub_zero] at h2
    have ht : t < vs.size := by
      rw [hsz]
      rcases Nat.lt_or_ge t ds.length with h | h
      · exact h
      · rw [List.getElem?_eq_none h] at h2; cases h2
    refine ⟨vs[t], ?_, hv t _ d (Array.getElem?_eq_getElem ht) h2⟩
    rw [Array.getElem?_append_left ht, Array.getElem?_eq_getElem ht]
  refine wp_mono (h [] g _ w hr (by simp; omega)) fun e a' w' ⟨Ds, g', s', h1, h2, h3, h4, h5, h6⟩ => ?_
  rw [List.append_nil] at h2
  have fin : ∀ (hq : rto (rdD P s' rs) s' Q), LeavesInM Fence.wide 5 P fn a'.tmps (fun e w' => ∃ v d g' os' nx', e = .returned v ∧ Q d os' nx' ∧ RelO g' ⟨[], os', nx'⟩ w' ∧ VRel g' w' v d ∧ Step g ⟨[], os, nx⟩ w g' ⟨[], os', nx'⟩ w') a'.defers .returning w' := by
    intro hq
    rw [h2.defers]
    refine leaves_marks (fun W => Rel (Ds.map mrk) g' s' a' W ∧ StepN nx g ⟨prm 0 ds, os, nx⟩ w g' s' W) Ds w' h4 (fun D hD => (h3 D hD).2) ⟨h2, h6⟩ (fun W D hD hK hd => ?_) (fun W hK => ?_)
    · have hg := grownBy_putObj' W D (.deferred none)
      exact ⟨hK.1.grown hg fun r e => by cases e; exact ⟨_, hd, rfl⟩, hK.2.grown hg (Nat.le_refl _) fun r e => by cases e; exact (h3 D hD).1⟩
    · unfold rto at hq
      split at hq
      · rename_i d hrd
        obtain ⟨v, h7, h8⟩ := rdD_sound hK.1 fn hrs hrd
        exact ⟨v, h7, v, d, g', s'.os, s'.nx, rfl, hq, hK.1.o.tm, h8, (hK.2.tm (tm := []) (tm' := [])).step ho (Nat.le_refl _)⟩
      · cases hq
  cases e with
  | normal => exact fin h1
  | ret => exact fin h1
  | _ => cases h1

theorem SWm.awp (hT : TabS P T) (lv : Nat → Option (List Nat)) {c : Code} {Q : Exit → St → Prop} (hd : dstOk n c = true) (h : awp P T n N lv c Q s) : SWm P n N c Q s := SWm.of (awp_sound hT lv c Q s hd h)
end
end Dm
namespace Dm
open Go
abbrev Sg (m : Nat) := List (Fin m) × Bool
section
variable {P : Program} {T : Tab} {g : G} {s s' : St} {a : Act} {w w' : World} {n l m : Nat}

structure YOk (P : Program) (l : Nat) (I : Nat → Prop) {m : Nat} (ys : Fin m → List D) (J Jx : List (Fin m) → World → Prop) : Prop where
  round : ∀ pre x (vs : Array Value) W1, J pre W1 → pre.length < m → vs.size = (ys x).length → (∀ (j : Nat) (v : Value) (d : D), vs[j]? = some v → (ys x)[j]? = some d → VRel (G0 I) W1 v d) → YieldAt Fence.wide 3 P l vs W1 fun e W' =>
      (e = .returned (.bool true) ∧ J (pre ++ [x]) W' ∧ ∀ b, I b → Cel W1 b → W'.heap[b]? = W1.heap[b]?) ∨ (e = .returned (.bool false) ∧ Jx (pre ++ [x]) W')
  grow : ∀ pre W W', J pre W → Ext W W' → J pre W'
  growx : ∀ pre W W', Jx pre W → Ext W W' → Jx pre W'

def RelY (I : Nat → Prop) {m : Nat} (J Jx : List (Fin m) → World → Prop) (s : St) (σ : Sg m) (a : Act) (w : World) : Prop :=
  s.os = [] ∧ s.nx = 0 ∧ match σ.2 with
    | true => Rel [] (G0 I) s a w ∧ J σ.1 w
    | false => Rel [] (G0 fun _ => False) s a w ∧ Jx σ.1 w

def SY (P : Program) (n : Nat) (I : Nat → Prop) {m : Nat} (J Jx : List (Fin m) → World → Prop) (c : Code) (Q : Exit → St → Sg m → Prop) (s : St) (σ : Sg m) : Prop :=
  ∀ a w, RelY I J Jx s σ a w → a.tmps.size = n → c.wpIn Fence.wide 4 P (fun e a' w' => ∃ s' σ', Q e s' σ' ∧ RelY I J Jx s' σ' a' w' ∧ a'.tmps.size = n) a w

def yargs (o : Oper) (s : St) (l : Nat) : Option (List D) := match o.op with
  | .call c => match c.callee with
    | .value f => match s.ev f with
      | .fn (.yield l') [] [] => if l' = l then some (c.args.toList.map s.ev) else none
      | _ => none
    | _ => none
  | _ => none
def numsL : List Nat → List (Nat × D) → List (Nat × D)
  | _, [] => []
  | seen, (t, d) :: l => if seen.contains t = true then numsL seen l else if d.scal = true then (t, d) :: numsL (t :: seen) l else numsL (t :: seen) l
def St.nums (s : St) : St := ⟨numsL [] s.tm, [], 0⟩
def aopsY (P : Program) (T : Tab) (l : Nat) {m : Nat} (ys : Fin m → List D) (K : St → Sg m → Prop) : List Oper → St → Sg m → Prop
  | [], s, σ => K s σ
  | o :: rest, s, σ => o.guard = none ∧ match yargs o s l with
    | some ds => σ.2 = true ∧ σ.1.length < m ∧ ∃ x, ds = ys x ∧ aopsY P T l ys K rest (s.put o.dst (.bool true)) (σ.1 ++ [x], true) ∧ aopsY P T l ys K rest (s.nums.put o.dst (.bool false)) (σ.1 ++ [x], false)
    | none => aopQ P T o s fun s' => aopsY P T l ys K rest s' σ

variable {I : Nat → Prop} {ys : Fin m → List D} {J Jx : List (Fin m) → World → Prop}

theorem Rel.ext0 {I : Nat → Prop} (hr : Rel [] (G0 I) s a w) (hext : Ext w w') : Rel [] (G0 I) s a w' := by
  obtain ⟨h1, h2⟩ := hr.o.grow hext (I := I) (fun b hb => hb) (fun b _ hb => hb) (fun b hb => (hr.o.cel b hb).keep (hext.2.1 b (hr.o.imm b hb).1))
  exact ⟨fun t d ht => let ⟨v, h3, h4⟩ := hr.tm t d ht; ⟨v, h3, h2.vrel hr.o h4⟩, hr.defers, h1⟩

theorem RelY.put {σ : Sg m} (h : RelY I J Jx s σ a w) (t : Option Tmp) {v : Value} {d : D} (hv : ∀ g, (σ.2 = true → g = G0 I) → (σ.2 = false → g = G0 fun _ => False) → VRel g w v d) (ht : ∀ x, t = some x → x < a.tmps.size) : RelY I J Jx (s.put t d) σ (a.put t v) w := by
  obtain ⟨h1, h2, h3⟩ := h
  refine ⟨by cases t <;> exact h1, by cases t <;> exact h2, ?_⟩
  obtain ⟨pre, b⟩ := σ
  cases b
  · exact ⟨h3.1.put t (hv _ (fun h => by cases h) fun _ => rfl) ht, h3.2⟩
  · exact ⟨h3.1.put t (hv _ (fun _ => rfl) fun h => by cases h) ht, h3.2⟩

theorem RelY.ext {σ : Sg m} (hY : YOk P l I ys J Jx) (h : RelY I J Jx s σ a w) (hext : Ext w w') : RelY I J Jx s σ a w' := by
  obtain ⟨h1, h2, h3⟩ := h
  refine ⟨h1, h2, ?_⟩
  obtain ⟨pre, b⟩ := σ
  cases b
  · exact ⟨h3.1.ext0 hext, hY.growx _ _ _ h3.2 hext⟩
  · exact ⟨h3.1.ext0 hext, hY.grow _ _ _ h3.2 hext⟩

theorem opY (hT : TabOk P T) (hY : YOk P l I ys J Jx) {σ : Sg m} {o : Oper} {K : St → Prop} (h : aopQ P T o s K) (hr : RelY I J Jx s σ a w) (hn : a.tmps.size = n) (hd : ∀ x, o.dst = some x → x < n) {KK : Act → World → Prop} {Q : Exit → Act → World → Prop}
    (hK : ∀ s' a' w', K s' → RelY I J Jx s' σ a' w' → a'.tmps.size = n → KK a' w') : o.wpIn Fence.wide 4 P a w KK Q := by
  have main : ∃ (v : Value) (d : D), QVal P o a w v ∧ K (s.put o.dst d) ∧ ∀ w', Ext w w' → RelY I J Jx (s.put o.dst d) σ (a.put o.dst v) w' := by
    obtain ⟨h1, h2, h3⟩ := hr
    obtain ⟨pre, b⟩ := σ
    cases b
    · obtain ⟨v, d, h4, h5, h6⟩ := aopQ_sound hT o h h3.1
      refine ⟨v, d, h4, h6, fun w' hext => RelY.ext hY (σ := (pre, false)) (RelY.put (σ := (pre, false)) ⟨h1, h2, h3⟩ o.dst (fun g _ hg => by rw [hg rfl]; exact h5) (fun x hx => by rw [hn]; exact hd x hx)) hext⟩
    · obtain ⟨v, d, h4, h5, h6⟩ := aopQ_sound hT o h h3.1
      refine ⟨v, d, h4, h6, fun w' hext => RelY.ext hY (σ := (pre, true)) (RelY.put (σ := (pre, true)) ⟨h1, h2, h3⟩ o.dst (fun g hg _ => by rw [hg rfl]; exact h5) (fun x hx => by rw [hn]; exact hd x hx)) hext⟩
  obtain ⟨v, d, h4, h5, h6⟩ := main
  refine ⟨fun f _ => trivial, ?_⟩
  have hq := h4 w (.refl w)
  unfold Oper.quietAt at hq
  have hsem : Oper.semAt Fence.wide.round a.eval o = execOp a.eval o := rfl
  rw [hsem]
  generalize (execOp a.eval o).run P w = r at hq ⊢
  have fin : ∀ w', Ext w w' → KK (a.put o.dst v) w' := fun w' hext => hK _ _ _ h5 (h6 w' hext) (by rw [put_size, hn])
  cases r with
  | ok nx w1 =>
    cases nx with
    | value u => obtain ⟨rfl, rfl⟩ := hq; exact fin _ (.refl _)
    | skip => obtain ⟨rfl, rfl⟩ := hq; exact fin _ (.refl _)
    | enter f args =>
      obtain ⟨rfl, hc⟩ := hq
      refine ⟨fun hh => (by cases hh), callsIn_wide.2 (hc.mono ?_)⟩
      rintro e w2 ⟨rfl, hext⟩
      exact fin w2 hext
    | _ => exact hq.elim
  | halt x w1 => exact hq.elim

theorem nums_lk {t : Nat} {d : D} : ∀ (tm : List (Nat × D)) (seen : List Nat), lk t (numsL seen tm) = some d → seen.contains t = false ∧ lk t tm = some d ∧ d.scal = true
  | [], seen, h => by cases h
  | (u, e) :: l, seen, h => by
    simp only [numsL] at h
    split at h
    · rename_i hc
      obtain ⟨h1, h2, h3⟩ := nums_lk l seen h
      refine ⟨h1, ?_, h3⟩
      rw [lk_cons, if_neg (fun e => by subst e; rw [h1] at hc; cases hc)]
      exact h2
    · rename_i hc
      split at h
      · rename_i hs
        rw [lk_cons] at h
        split at h
        · rename_i e'
          cases h
          subst e'
          exact ⟨by simpa using hc, by rw [lk_cons, if_pos rfl], hs⟩
        · rename_i hne
          obtain ⟨h1, h2, h3⟩ := nums_lk l _ h
          exact ⟨by simp at h1 ⊢; exact h1.2, by rw [lk_cons, if_neg hne]; exact h2, h3⟩
      · obtain ⟨h1, h2, h3⟩ := nums_lk l _ h
        have hne : ¬ t = u := by simp at h1; exact h1.1
        exact ⟨by simp at h1 ⊢; exact h1.2, by rw [lk_cons, if_neg hne]; exact h2, h3⟩

theorem yieldY (hY : YOk P l I ys J Jx) {pre : List (Fin m)} {o : Oper} {ds : List D} (hy : yargs o s l = some ds) (hlen : pre.length < m) {x : Fin m} (hx : ds = ys x) (hr : RelY I J Jx s (pre, true) a w) (hn : a.tmps.size = n) (hd : ∀ t, o.dst = some t → t < n)
    {KK : Act → World → Prop} {Q : Exit → Act → World → Prop}
    (hK : ∀ w', RelY I J Jx (s.put o.dst (.bool true)) (pre ++ [x], true) (a.put o.dst (.bool true)) w' → KK (a.put o.dst (.bool true)) w')
    (hK' : ∀ w', RelY I J Jx (s.nums.put o.dst (.bool false)) (pre ++ [x], false) (a.put o.dst (.bool false)) w' → KK (a.put o.dst (.bool false)) w') : o.wpIn Fence.wide 4 P a w KK Q := by
  obtain ⟨h1, h2, h3, h4⟩ := hr
  unfold yargs at hy
  split at hy <;> try cases hy
  rename_i c ho
  split at hy <;> try cases hy
  rename_i f hc
  split at hy <;> try cases hy
  rename_i l' hf
  split at hy <;> cases hy
  rename_i hl
  subst hl
  have hff := h3.ev f
  rw [hf] at hff
  generalize hfv : a.eval f = fv at hff
  cases hff with
  | fn _ fiv cav _ _ h5 h6 h7 h8 =>
  have e1 : fiv = #[] := Array.eq_empty_of_size_eq_zero (by simpa using h5)
  have e2 : cav = #[] := Array.eq_empty_of_size_eq_zero (by simpa using h6)
  subst e1; subst e2
  obtain ⟨h9, h10⟩ := map_rel h3 c.args
  have hvs : ∀ (j : Nat) (v : Value) (d : D), (c.args.map a.eval)[j]? = some v → (ys x)[j]? = some d → VRel (G0 I) w v d := fun j v d hv hd => h10 j v d hv (by rw [hx]; exact hd)
  obtain ⟨fn, tmps, assign, body, hrun, hround⟩ := hY.round pre x (c.args.map a.eval) w h4 hlen (by rw [h9, hx]) hvs
  refine ⟨fun f _ => trivial, ?_⟩
  have hsem : Oper.semAt Fence.wide.round a.eval o = execOp a.eval o := rfl
  rw [hsem]
  have hex : (execOp a.eval o).run P w = .ok (.round l' fn tmps assign body) w := by
    unfold execOp
    simp [ho, resolve, hc, hfv, Deferred.ofValue, invoke, hrun]
  rw [hex]
  refine ⟨fun hh => (by cases hh), hround.mono ?_⟩
  rintro e w' (⟨rfl, hj, hkp⟩ | ⟨rfl, hj⟩)
  · refine hK w' (RelY.put (σ := (pre ++ [x], true)) ⟨h1, h2, ?_, hj⟩ o.dst (fun g _ _ => .c _ _ (.bool _)) fun t ht => by rw [hn]; exact hd t ht)
    have hk : Keeps I w w' := fun b hb => hkp b hb (h3.o.cel b hb)
    refine ⟨fun t d ht => let ⟨v, h11, h12⟩ := h3.tm t d ht; ⟨v, h11, h12.mono hk (.refl _)⟩, h3.defers, ⟨fun id o h => ?_, fun id o id' o' b h => ?_, fun id _ => ⟨rfl, rfl⟩, fun b hb => ⟨((h3.o.cel b hb).keep (hk b hb)).lt, (h3.o.imm b hb).2⟩, fun b hb => (h3.o.cel b hb).keep (hk b hb)⟩⟩
    · rw [h1] at h; cases h
    · rw [h1] at h; cases h
  · refine hK' w' (RelY.put (σ := (pre ++ [x], false)) ⟨rfl, rfl, ⟨fun t d ht => ?_, h3.defers, ⟨fun id o h => (by cases h), fun id o id' o' b h => (by cases h), fun id _ => ⟨rfl, rfl⟩, fun b hb => hb.elim, fun b hb => hb.elim⟩⟩, hj⟩ o.dst (fun g _ _ => .c _ _ (.bool _)) fun t ht => by rw [hn]; exact hd t ht)
    obtain ⟨_, h11, h12⟩ := nums_lk _ _ ht
    obtain ⟨v, h13, h14⟩ := h3.tm t d h11
    exact ⟨v, h13, h14.any h12⟩

theorem aopsY_sound (hT : TabOk P T) (hY : YOk P l I ys J Jx) (all : Array Oper) {K : St → Sg m → Prop} {Q : Exit → Act → World → Prop} : ∀ (ops : List Oper) {s : St} {σ : Sg m} {a : Act} {w : World}, (∀ o ∈ ops, dstOk1 n o = true) → aopsY P T l ys K ops s σ → RelY I J Jx s σ a w → a.tmps.size = n →
    (∀ s' σ' a' w', K s' σ' → RelY I J Jx s' σ' a' w' → a'.tmps.size = n → Q .normal a' w') → wpListIn Fence.wide 4 P all Q ops a w
  | [], s, σ, a, w, _, h, hr, hn, hQ => hQ _ _ _ _ h hr hn
  | o :: rest, s, σ, a, w, hd, h, hr, hn, hQ => by
    have hdo : ∀ x, o.dst = some x → x < n := fun x hx => by
      have := hd o (by simp)
      unfold dstOk1 at this
      rw [hx] at this
      simpa using this
    have hrest : ∀ o ∈ rest, dstOk1 n o = true := fun o ho => hd o (by simp [ho])
    obtain ⟨hg, h⟩ := h
    have hw : Region.wanted o (yielded all a.tmps) = true := by simp [Region.wanted, hg]
    simp only [wpListIn, hw, if_true]
    split at h
    · rename_i ds hds
      obtain ⟨hlive, hlen, x, hx, h1, h2⟩ := h
      obtain ⟨pre, b⟩ := σ
      have hb : b = true := hlive
      subst hb
      exact yieldY hY hds hlen hx hr hn hdo (fun w' hr' => aopsY_sound hT hY all rest hrest h1 hr' (by rw [put_size, hn]) hQ) (fun w' hr' => aopsY_sound hT hY all rest hrest h2 hr' (by rw [put_size, hn]) hQ)
    · exact opY hT hY h hr hn hdo fun s' a' w' hK hr' hn' => aopsY_sound hT hY all rest hrest hK hr' hn' hQ

theorem RelY.sub {σ : Sg m} (h : RelY I J Jx s σ a w) (hs : s'.os = [] ∧ s'.nx = 0 ∧ subT s.tm s'.tm) : RelY I J Jx s' σ a w := by
  obtain ⟨h1, h2, h3⟩ := h
  have key : ∀ {I : Nat → Prop}, Rel [] (G0 I) s a w → Rel [] (G0 I) s' a w := fun hr => ⟨fun t d ht => by
    obtain ⟨d', h4, h5⟩ := subT_get hs.2.2 ht
    obtain ⟨v, h6, h7⟩ := hr.tm t d' h4
    exact ⟨v, h6, h7.le h5⟩, hr.defers, ⟨fun id o h => (by rw [hs.1] at h; cases h), fun id o id' o' b h => (by rw [hs.1] at h; cases h), fun id _ => ⟨rfl, rfl⟩, fun b hb => ⟨(hr.o.imm b hb).1, fun ⟨id, o, h, _⟩ => by rw [hs.1] at h; cases h⟩, hr.o.cel⟩⟩
  refine ⟨hs.1, hs.2.1, ?_⟩
  obtain ⟨pre, b⟩ := σ
  cases b
  · exact ⟨key h3.1, h3.2⟩
  · exact ⟨key h3.1, h3.2⟩

theorem SY.region (hT : TabOk P T) (hY : YOk P l I ys J Jx) {i : Nat} {ops : Array Oper} {Q : Exit → St → Sg m → Prop} {σ : Sg m} (hd : ops.toList.all (dstOk1 n) = true) (h : aopsY P T l ys (Q .normal) ops.toList s σ) : SY P n I J Jx (.region i ops false) Q s σ := fun a w hr hn =>
  wpIn_region_list (aopsY_sound hT hY ops ops.toList (fun o ho => List.all_eq_true.1 hd o ho) h hr hn fun s' σ' a' w' h1 h2 h3 => ⟨s', σ', h1, h2, h3⟩)
theorem SY.seq {x y : Code} {Q : Exit → St → Sg m → Prop} {σ : Sg m} (h : SY P n I J Jx x (fun e s σ => match e with | .normal => SY P n I J Jx y Q s σ | e => Q e s σ) s σ) : SY P n I J Jx (.seq x y) Q s σ := fun a w hr hn => by
  refine wpIn_seq (wpIn_mono (h a w hr hn) fun e a' w' ⟨s', σ', h1, h2, h3⟩ => ?_)
  cases e with
  | normal => exact h1 a' w' h2 h3
  | _ => exact ⟨s', σ', h1, h2, h3⟩
theorem RelY.ev {σ : Sg m} (h : RelY I J Jx s σ a w) {c : Operand} {b : Bool} (hc : s.ev c = .bool b) : a.eval c = .bool b := by
  obtain ⟨h1, h2, h3⟩ := h
  obtain ⟨pre, b'⟩ := σ
  cases b'
  · have := h3.1.ev c; rw [hc] at this; exact this.bool_inv
  · have := h3.1.ev c; rw [hc] at this; exact this.bool_inv
theorem SY.cond {c : Operand} {x y : Code} {b : Bool} {Q : Exit → St → Sg m → Prop} {σ : Sg m} (hc : s.ev c = .bool b) (h1 : b = true → SY P n I J Jx x Q s σ) (h2 : b = false → SY P n I J Jx y Q s σ) : SY P n I J Jx (.cond c x y) Q s σ := fun a w hr hn => by
  refine wpIn_cond (hr.ev hc) ?_
  cases b with
  | true => exact h1 rfl a w hr hn
  | false => exact h2 rfl a w hr hn
theorem SY.skip {Q : Exit → St → Sg m → Prop} {σ : Sg m} (h : Q .normal s σ) : SY P n I J Jx .skip Q s σ := fun a w hr hn => wpIn_skip ⟨s, σ, h, hr, hn⟩
theorem SY.ret {Q : Exit → St → Sg m → Prop} {σ : Sg m} (h : Q .ret s σ) : SY P n I J Jx .ret Q s σ := fun a w hr hn => wpIn_ret ⟨s, σ, h, hr, hn⟩
theorem SY.exit {i : Nat} {Q : Exit → St → Sg m → Prop} {σ : Sg m} (h : Q (.exit i) s σ) : SY P n I J Jx (.exit i) Q s σ := fun a w hr hn => wpIn_exit ⟨s, σ, h, hr, hn⟩
theorem SY.block {i : Nat} {c : Code} {Q : Exit → St → Sg m → Prop} {σ : Sg m} (h : SY P n I J Jx c (fun e s σ => match e with | .exit j => if j = i then Q .normal s σ else Q (.exit j) s σ | e => Q e s σ) s σ) : SY P n I J Jx (.block i c) Q s σ := fun a w hr hn => by
  refine wpIn_block (wpIn_mono (h a w hr hn) fun e a' w' ⟨s', σ', h1, h2, h3⟩ => ?_)
  cases e with
  | exit j =>
    simp only [Exit.inBlock]
    dsimp only at h1
    split
    · rename_i hj; rw [if_pos hj] at h1; exact ⟨s', σ', h1, h2, h3⟩
    · rename_i hj; rw [if_neg hj] at h1; exact ⟨s', σ', h1, h2, h3⟩
  | _ => exact ⟨s', σ', h1, h2, h3⟩
theorem SY.loop {c : Code} {Q : Exit → St → Sg m → Prop} {σ : Sg m} (k : Nat) (S : Nat → St) (G' : Nat → Sg m) (i0 : Nat) (h0 : ∀ a w, RelY I J Jx s σ a w → RelY I J Jx (S i0) (G' i0) a w) (hi0 : i0 ≤ k)
    (hround : ∀ i, i ≤ k → SY P n I J Jx c (fun e s' σ' => match e with | .normal => i < k ∧ σ' = G' (i + 1) ∧ (S (i + 1)).os = [] ∧ (S (i + 1)).nx = 0 ∧ subT s'.tm (S (i + 1)).tm | e => Q e s' σ') (S i) (G' i)) : SY P n I J Jx (.loop c) Q s σ := by
  have key : ∀ (j i : Nat) (a : Act) (w : World), i ≤ k → k - i = j → RelY I J Jx (S i) (G' i) a w → a.tmps.size = n →
      Code.roundsIn Fence.wide 4 P c (fun e a' w' => ∃ s' σ', Q e s' σ' ∧ RelY I J Jx s' σ' a' w' ∧ a'.tmps.size = n) (j + 1) a w := by
    intro j
    induction j with
    | zero =>
      intro i a w hi hj hr hn
      refine wpIn_mono (hround i hi a w hr hn) fun e a' w' ⟨s', σ', h1, h2, h3⟩ => ?_
      cases e with
      | normal => have := h1.1; omega
      | _ => exact ⟨s', σ', h1, h2, h3⟩
    | succ j ih =>
      intro i a w hi hj hr hn
      refine wpIn_mono (hround i hi a w hr hn) fun e a' w' ⟨s', σ', h1, h2, h3⟩ => ?_
      cases e with
      | normal =>
        obtain ⟨h4, rfl, h5, h6, h7⟩ := h1
        exact ih (i + 1) a' w' h4 (by omega) (h2.sub ⟨h5, h6, h7⟩) h3
      | _ => exact ⟨s', σ', h1, h2, h3⟩
  exact fun a w hr hn => wpIn_loop_rounds (k - i0 + 1) (key (k - i0) i0 a w hi0 rfl (h0 a w hr) hn)
end
end Dm
namespace Dm
open Go
section
variable {P : Program} {T : Tab} {g : G} {s s' : St} {a : Act} {w w' : World} {n l m : Nat}

theorem IterOk.of {gf : FuncId} {fn : Func} {c : Code} {caps : List D} {ys : Fin m → List D} {order : List (Fin m)}
    (hf : P.funcs[gf]? = some fn) (hname : (fn.name == "runtime.NumGoroutine") = false) (hb : fn.body = some c) (hn : fn.ntmps = n) (hl : caps.length + 1 ≤ n) (hrs : fn.results.toList = [])
    (h : ∀ (l : Nat) (I : Nat → Prop) (J Jx : List (Fin m) → World → Prop), YOk P l I ys J Jx →
      SY P n I J Jx c (fun e _ σ => (e = .normal ∨ e = .ret) ∧ ((σ.2 = true ∧ σ.1 = order) ∨ (σ.2 = false ∧ σ.1 <+: order))) ⟨prm 0 (.fn (.yield l) [] [] :: caps), [], 0⟩ ([], true)) : IterOk P gf caps ys order := by
  refine ⟨Go.Proofs.enters_of hf hname hb, fun I w lb hI hsz hv => ?_⟩
  · intro l J Jx W hbel hJ hJx hround h0
    refine callsIn_of_wp hf hb trivial ?_
    subst hn
    have hY : YOk P l I ys J Jx :=
      ⟨hround, hJ, hJx⟩
    have hcel : ∀ b, I b → Cel W b := fun b hb => (hI b hb).keep (hbel.block b (hI b hb).lt)
    have hk : Keeps I w W := fun b hb => hbel.block b (hI b hb).lt
    have hr : Rel [] (G0 I) ⟨prm 0 (.fn (.yield l) [] [] :: caps), [], 0⟩ { tmps := (#[Value.func (.yield l) #[] #[]] ++ lb) ++ Array.replicate (fn.ntmps - (#[Value.func (.yield l) #[] #[]] ++ lb).size) undef, defers := [] } W := by
      refine ⟨fun t d ht => ?_, rfl, (RelO.none I W hcel).tm⟩
      obtain ⟨_, h2⟩ := lk_prm _ 0 t d ht
      rw [Nat.sub_zero] at h2
      have hs : (#[Value.func (.yield l) #[] #[]] ++ lb).size = caps.length + 1 := by simp [hsz]; omega
      have ht : t < (#[Value.func (.yield l) #[] #[]] ++ lb).size := by
        rw [hs]
        have := (List.getElem?_eq_some_iff.1 h2).1
        simpa using this
      refine ⟨(#[Value.func (.yield l) #[] #[]] ++ lb)[t], by rw [Array.getElem?_append_left ht, Array.getElem?_eq_getElem ht], ?_⟩
      cases t with
      | zero =>
        simp at h2
        subst h2
        simp
        exact .fn _ _ _ _ _ rfl rfl (fun i v d h => by simp at h) (fun i v d h => by simp at h)
      | succ t =>
        have h3 : caps[t]? = some d := by simpa using h2
        have h4 : lb[t]? = some (#[Value.func (.yield l) #[] #[]] ++ lb)[t + 1] := by
          rw [Array.getElem_append_right (by simp)]
          simp
        exact (hv t _ d h4 h3).mono hk (.refl _)
    refine wpIn_mono (h l I J Jx hY _ W ⟨rfl, rfl, hr, h0⟩ (by simp [hsz]; omega)) ?_
    rintro e a' w' ⟨s', σ', ⟨h1, h2⟩, h3, h4⟩
    have fin : a'.defers = [] ∧ ∃ v, (results fn a'.tmps).run P w' = .ok v w' ∧ ((∃ u, Ending.returned v = .returned u) ∧ ((∃ xs, xs = order ∧ J xs w') ∨ (∃ pre, pre <+: order ∧ Jx pre w'))) := by
      obtain ⟨h5, h6, h7⟩ := h3
      obtain ⟨pre, b⟩ := σ'
      cases b
      · obtain ⟨h8, h9⟩ := h7
        obtain ⟨v, h10, _⟩ := rdD_sound h8 fn hrs (d := .tup []) rfl
        refine ⟨h8.defers, v, h10, ⟨v, rfl⟩, .inr ⟨pre, ?_, h9⟩⟩
        rcases h2 with ⟨h, _⟩ | ⟨_, h⟩
        · cases h
        · exact h
      · obtain ⟨h8, h9⟩ := h7
        obtain ⟨v, h10, _⟩ := rdD_sound h8 fn hrs (d := .tup []) rfl
        refine ⟨h8.defers, v, h10, ⟨v, rfl⟩, .inl ⟨pre, ?_, h9⟩⟩
        rcases h2 with ⟨_, h⟩ | ⟨h, _⟩
        · exact h
        · cases h
    rcases h1 with rfl | rfl
    · exact fin
    · exact fin
end
end Dm
namespace Dm
open Go Go.Proofs Go.IntWalk
structure Ev where
  seq : Nat
  kind : Int
  a : Nat
  n : Nat
deriving DecidableEq, Inhabited
@[go_sem] def Ev.enc (e : Ev) : List C := [.int .u64 (e.seq : Int), .int .i64 e.kind, .int .u64 (e.a : Int), .int .u64 (e.n : Int)]
def Ev.dec : List C → Ev
  | [.int .u64 z248, .int .i64 z249, .int .u64 z250, .int .u64 z251] => (⟨z248.toNat, z249, z250.toNat, z251.toNat⟩ : Ev)
  | _ => default
def evs (l : List Ev) : List (List C) := l.map Ev.enc
def devs (l : List (List C)) : List Ev := l.map Ev.dec
@[simp, go_sem] theorem evs_length (l : List Ev) : (evs l).length = l.length := by simp [evs]
@[go_sem] theorem evs_get (l : List Ev) (i : Nat) : (evs l).getD i [.int .u64 0, .int .i64 0, .int .u64 0, .int .u64 0] = (l.getD i default).enc := by
  simp only [evs, List.getD_eq_getElem?_getD, List.getElem?_map]
  cases l[i]? <;> rfl
@[go_sem] theorem evs_wide (l : List Ev) : Wide 4 (evs l) = True := by
  simp [Wide, evs, Ev.enc]
theorem Ev.dec_enc (e : Ev) : Ev.dec e.enc = e := by
  simp [Ev.enc, Ev.dec]
@[go_sem] theorem devs_evs (l : List Ev) : devs (evs l) = l := by
  simp only [devs, evs, List.map_map]
  exact List.map_id'' (fun e => Ev.dec_enc e) l
@[go_sem] theorem evs_app (a b : List Ev) : evs a ++ evs b = evs (a ++ b) := by simp [evs]
@[go_sem] theorem evs_drop (l : List Ev) (k : Nat) : (evs l).drop k = evs (l.drop k) := by simp [evs]
@[go_sem] theorem evs_take (l : List Ev) (k : Nat) : (evs l).take k = evs (l.take k) := by simp [evs]
@[go_sem] theorem evs_one (z252 : Int) (z253 : Int) (z254 : Int) (z255 : Int) (hz252 : 0 ≤ z252) (hz254 : 0 ≤ z254) (hz255 : 0 ≤ z255) : [[C.int .u64 z252, C.int .i64 z253, C.int .u64 z254, C.int .u64 z255]] = evs [⟨z252.toNat, z253, z254.toNat, z255.toNat⟩] := by simp [evs, Ev.enc, Int.toNat_of_nonneg hz252, Int.toNat_of_nonneg hz254, Int.toNat_of_nonneg hz255]
@[go_sem] theorem evs_set (l : List Ev) (i : Nat) (z252 : Int) (z253 : Int) (z254 : Int) (z255 : Int) (hz252 : 0 ≤ z252) (hz254 : 0 ≤ z254) (hz255 : 0 ≤ z255) : (evs l).set i [C.int .u64 z252, C.int .i64 z253, C.int .u64 z254, C.int .u64 z255] = evs (l.set i ⟨z252.toNat, z253, z254.toNat, z255.toNat⟩) := by simp [evs, List.map_set, Ev.enc, Int.toNat_of_nonneg hz252, Int.toNat_of_nonneg hz254, Int.toNat_of_nonneg hz255]
@[go_sem] theorem evs_cons (l : List Ev) (z252 : Int) (z253 : Int) (z254 : Int) (z255 : Int) (hz252 : 0 ≤ z252) (hz254 : 0 ≤ z254) (hz255 : 0 ≤ z255) : [C.int .u64 z252, C.int .i64 z253, C.int .u64 z254, C.int .u64 z255] :: evs l = evs (⟨z252.toNat, z253, z254.toNat, z255.toNat⟩ :: l) := by simp [evs, Ev.enc, Int.toNat_of_nonneg hz252, Int.toNat_of_nonneg hz254, Int.toNat_of_nonneg hz255]
@[go_sem] theorem evs_flat (l : List Ev) : flatE (evs l) = True := eq_true fun x hx c hc => by
  obtain ⟨e, _, rfl⟩ := List.mem_map.1 hx
  simp only [Ev.enc, List.mem_cons, List.not_mem_nil, or_false] at hc
  rcases hc with rfl | rfl | rfl | rfl <;> rfl
@[go_sem] theorem Ev.eta {e : Ev} : (⟨e.seq, e.kind, e.a, e.n⟩ : Ev) = e := rfl
@[go_sem] theorem Ev.eqD {a b : Ev} : eqD Tryz.prog 74 [D.c (.int .u64 (a.seq : Int)), D.c (.int .i64 a.kind), D.c (.int .u64 (a.a : Int)), D.c (.int .u64 (a.n : Int))] [D.c (.int .u64 (b.seq : Int)), D.c (.int .i64 b.kind), D.c (.int .u64 (b.a : Int)), D.c (.int .u64 (b.n : Int))] = some (decide (a = b)) := by
  cases a; cases b
  simp only [Dm.eqD, eqOf_74, eqCells, eqC, List.getElem?_cons_zero, List.getElem?_cons_succ, if_true, Option.some.injEq, Ev.mk.injEq]
  rw [Bool.eq_iff_iff]
  simp [Int.ofNat_inj]
structure Fd where
  next : Nat
  l : List Ev
deriving DecidableEq, Inhabited
@[go_sem] def Fd.enc (e : Fd) : List C := [.int .u64 (e.next : Int), .sl (evs e.l)]
def Fd.dec : List C → Fd
  | [.int .u64 z257, .sl z258] => (⟨z257.toNat, (devs z258)⟩ : Fd)
  | _ => default
def fds (l : List Fd) : List (List C) := l.map Fd.enc
def dfds (l : List (List C)) : List Fd := l.map Fd.dec
@[simp, go_sem] theorem fds_length (l : List Fd) : (fds l).length = l.length := by simp [fds]
@[go_sem] theorem fds_get (l : List Fd) (i : Nat) : (fds l).getD i [.int .u64 0, .sl []] = (l.getD i default).enc := by
  simp only [fds, List.getD_eq_getElem?_getD, List.getElem?_map]
  cases l[i]? <;> rfl
@[go_sem] theorem fds_wide (l : List Fd) : Wide 2 (fds l) = True := by
  simp [Wide, fds, Fd.enc]
theorem Fd.dec_enc (e : Fd) : Fd.dec e.enc = e := by
  simp [Fd.enc, Fd.dec, devs_evs]
@[go_sem] theorem dfds_fds (l : List Fd) : dfds (fds l) = l := by
  simp only [dfds, fds, List.map_map]
  exact List.map_id'' (fun e => Fd.dec_enc e) l
@[go_sem] theorem fds_app (a b : List Fd) : fds a ++ fds b = fds (a ++ b) := by simp [fds]
@[go_sem] theorem fds_drop (l : List Fd) (k : Nat) : (fds l).drop k = fds (l.drop k) := by simp [fds]
@[go_sem] theorem fds_take (l : List Fd) (k : Nat) : (fds l).take k = fds (l.take k) := by simp [fds]
@[go_sem] theorem fds_one (z259 : Int) (z260 : List Ev) (hz259 : 0 ≤ z259) : [[C.int .u64 z259, C.sl (evs z260)]] = fds [⟨z259.toNat, z260⟩] := by simp [fds, Fd.enc, Int.toNat_of_nonneg hz259]
@[go_sem] theorem fds_set (l : List Fd) (i : Nat) (z259 : Int) (z260 : List Ev) (hz259 : 0 ≤ z259) : (fds l).set i [C.int .u64 z259, C.sl (evs z260)] = fds (l.set i ⟨z259.toNat, z260⟩) := by simp [fds, List.map_set, Fd.enc, Int.toNat_of_nonneg hz259]
@[go_sem] theorem fds_cons (l : List Fd) (z259 : Int) (z260 : List Ev) (hz259 : 0 ≤ z259) : [C.int .u64 z259, C.sl (evs z260)] :: fds l = fds (⟨z259.toNat, z260⟩ :: l) := by simp [fds, Fd.enc, Int.toNat_of_nonneg hz259]
@[go_sem] theorem Fd.eta {e : Fd} : (⟨e.next, e.l⟩ : Fd) = e := rfl
def kindS (k : Int) : Bool := decide (0 ≤ k ∧ k < 16)
@[go_sem] def fkind_r (k : Int) : D := .bool (kindS k)
@[go_sem] abbrev n_fkind : FuncId := 197
@[go_sem] def fkind_T : Tab := []
theorem fkind_T_ok : TabOk Tryz.prog fkind_T := TabOk.nil
set_option maxRecDepth 8000 in
set_option maxHeartbeats 1000000 in
theorem fkind_ok (k : Int)  : PureFn Tryz.prog 197 [.c (.int .i64 k)] (fkind_r k) := by
  refine .of (ac197 fkind_T_ok (Nat.le_of_ble_eq_true rfl) ?_)
  simp -implicitDefEqProofs only [cdA, go_sem, Go.Proofs.Tryz.f197, reduceIte, reduceCtorEq, Nat.reduceEqDiff, Nat.reduceAdd, Nat.reduceLeDiff, Nat.reduceSub, Nat.reduceMul, Nat.reduceLT, Nat.reduceShiftRight, Nat.reduceMod, Int.reduceLE, Int.reduceLT, Int.reduceToNat, cdB, List.cons.injEq, true_and, and_true]
  have e : kindS k = decide (0 ≤ k ∧ k < 16) := rfl
  rw [e]
  exact ⟨fun h => by rw [decide_eq_decide]; exact ⟨fun h2 => ⟨h, h2⟩, fun h2 => h2.2⟩, fun h => (decide_eq_false fun h2 => h h2.1).symm⟩
def sp_fkind : List D → Option (Prop × D × Fr)
  | [.c (.int .i64 z261)] => some (True, fkind_r z261, [])
  | _ => none
attribute [go_sem] sp_fkind
theorem sp_fkind_ok : ∀ rs p r fr, sp_fkind rs = some (p, r, fr) → p → FnOk Tryz.prog 197 rs r fr := by
  intro rs p r fr h hp
  unfold sp_fkind at h
  split at h <;> cases h
  rename_i z261
  exact fkind_ok z261
@[go_sem] def fnew_r  : D := .agg [.int .u64 1, .sl (evs [])]
@[go_sem] abbrev n_fnew : FuncId := 116
@[go_sem] def fnew_T : Tab := []
theorem fnew_T_ok : TabOk Tryz.prog fnew_T := TabOk.nil
set_option maxRecDepth 8000 in
set_option maxHeartbeats 1000000 in
theorem fnew_ok   : PureFn Tryz.prog 116 [] (fnew_r ) := by
  refine .of (ac116 fnew_T_ok (Nat.le_of_ble_eq_true rfl) ?_)
  simp -implicitDefEqProofs only [cdA, go_sem, Go.Proofs.Tryz.f116, reduceIte, reduceCtorEq, Nat.reduceEqDiff, Nat.reduceAdd, Nat.reduceLeDiff, Nat.reduceSub, Nat.reduceMul, Nat.reduceLT, Nat.reduceShiftRight, Nat.reduceMod, Int.reduceLE, Int.reduceLT, Int.reduceToNat, cdB, List.cons.injEq, true_and, and_true]
  rfl
def sp_fnew : List D → Option (Prop × D × Fr)
  | [] => some (True, fnew_r , [])
  | _ => none
attribute [go_sem] sp_fnew
theorem sp_fnew_ok : ∀ rs p r fr, sp_fnew rs = some (p, r, fr) → p → FnOk Tryz.prog 116 rs r fr := by
  intro rs p r fr h hp
  unfold sp_fnew at h
  split at h <;> cases h
  exact fnew_ok 
theorem rev_take {n k : Nat} (h : k < n) : (List.finRange n).reverse.take k ++ [⟨n - 1 - k, by omega⟩] = (List.finRange n).reverse.take (k + 1) := by
  have hl : k < (List.finRange n).reverse.length := by simpa using h
  rw [List.take_add_one, List.getElem?_eq_getElem hl]
  simp
set_option maxRecDepth 4000 in
theorem back_iter (l : List Ev) (hl : l.length ≤ 1000000) : IterOk Tryz.prog 239 [.rp [.sl (evs l)]] (m := l.length) (fun x => [.int .i64 x.1, .agg ((l.getD x.1 default).enc.map .c)]) (List.finRange l.length).reverse := by
  refine IterOk.of (n := 19) (fn := Tryz.f239) (by kernel_rfl) rfl rfl rfl (Nat.le_of_ble_eq_true rfl) rfl ?_
  intro y I J Jx hY
  refine SY.seq (SY.region .nil hY rfl ?_)
  simp -implicitDefEqProofs only [cdA, go_sem, aopsY, yargs, St.nums, numsL, List.contains_cons, List.contains_nil, Nat.reduceBEq, Bool.or_self, reduceIte, reduceCtorEq, Nat.reduceEqDiff, Nat.reduceAdd, Nat.reduceLeDiff, Nat.reduceSub, Nat.reduceMul, Nat.reduceLT, Nat.reduceShiftRight, Nat.reduceMod, Int.reduceLE, Int.reduceLT, Int.reduceToNat, cdB, List.cons.injEq, true_and, and_true]
  refine fun _ => SY.block (SY.loop l.length (fun k => ⟨[(0, .fn (.yield y) [] []), (1, .rp [.sl (evs l)]), (3, .int .i64 ((l.length : Int) - 1 - k))], [], 0⟩) (fun k => ((List.finRange l.length).reverse.take k, true)) 0 ?_ (Nat.zero_le _) ?_)
  · intro a w h
    rw [i64_in _ (by omega)] at h
    have h := h.sub (s' := ⟨[(0, .fn (.yield y) [] []), (1, .rp [.sl (evs l)]), (3, .int .i64 ((l.length : Int) - 1 - (0 : Nat)))], [], 0⟩) ⟨rfl, rfl, by simp [go_sem]⟩
    simpa using h
  · intro k hk
    refine SY.seq (SY.seq (SY.region .nil hY rfl ?_))
    simp -implicitDefEqProofs only [cdA, go_sem, aopsY, yargs, St.nums, numsL, List.contains_cons, List.contains_nil, Nat.reduceBEq, Bool.or_self, reduceIte, reduceCtorEq, Nat.reduceEqDiff, Nat.reduceAdd, Nat.reduceLeDiff, Nat.reduceSub, Nat.reduceMul, Nat.reduceLT, Nat.reduceShiftRight, Nat.reduceMod, Int.reduceLE, Int.reduceLT, Int.reduceToNat, cdB, List.cons.injEq, true_and, and_true]
    refine SY.cond rfl (fun hc => SY.skip ?_) (fun hc => SY.exit ?_)
    · have hk' : k < l.length := by simp at hc; omega
      refine SY.seq (SY.block (SY.seq (SY.region .nil hY rfl ?_)))
      simp -implicitDefEqProofs only [cdA, go_sem, aopsY, yargs, St.nums, numsL, List.contains_cons, List.contains_nil, Nat.reduceBEq, Bool.or_self, reduceIte, reduceCtorEq, Nat.reduceEqDiff, Nat.reduceAdd, Nat.reduceLeDiff, Nat.reduceSub, Nat.reduceMul, Nat.reduceLT, Nat.reduceShiftRight, Nat.reduceMod, Int.reduceLE, Int.reduceLT, Int.reduceToNat, cdB, List.cons.injEq, true_and, and_true]
      refine ⟨by omega, by simp; omega, ⟨l.length - 1 - k, by omega⟩, ?_, ?_, ?_⟩
      · have e1 : ((l.length : Int) - 1 - k).toNat = l.length - 1 - k := by omega
        have e2 : ((l.length : Int) - 1 - k) = ((l.length - 1 - k : Nat) : Int) := by omega
        rw [e1, e2]; exact ⟨rfl, rfl⟩
      · refine SY.cond (b := false) rfl (fun h => by cases h) (fun _ => SY.skip (SY.region .nil hY rfl ?_))
        simp -implicitDefEqProofs only [cdA, go_sem, aopsY, yargs, reduceIte, reduceCtorEq, Nat.reduceEqDiff, Nat.reduceAdd, Nat.reduceLeDiff, Nat.reduceSub, Nat.reduceMul, Nat.reduceLT, Nat.reduceShiftRight, Nat.reduceMod, Int.reduceLE, Int.reduceLT, Int.reduceToNat, cdB, List.cons.injEq, true_and, and_true]
        rw [i64_in _ (by omega)]
        exact ⟨hk', by rw [rev_take hk'], by omega⟩
      · refine SY.cond (b := true) rfl (fun _ => SY.ret ?_) (fun h => by cases h)
        refine ⟨.inr rfl, .inr ⟨rfl, ?_⟩⟩
        rw [rev_take hk']
        exact List.take_prefix _ _
    · have hk' : k = l.length := by simp at hc; omega
      have : List.take l.length (List.finRange l.length).reverse = (List.finRange l.length).reverse := List.take_of_length_le (by simp)
      simp [hk', this]
@[go_sem] def fback_r (l : List Ev) : D := .fn (.func 239) [] [.rp [.sl (evs l)]]
@[go_sem] abbrev n_fback : FuncId := 196
@[go_sem] def fback_T : Tab := []
theorem fback_T_ok : TabOk Tryz.prog fback_T := TabOk.nil
set_option maxRecDepth 8000 in
set_option maxHeartbeats 1000000 in
theorem fback_ok (l : List Ev)  : PureFn Tryz.prog 196 [.sl (evs l)] (fback_r l) := by
  refine .of (ac196 fback_T_ok (Nat.le_of_ble_eq_true rfl) ?_)
  simp -implicitDefEqProofs only [cdA, go_sem, Go.Proofs.Tryz.f196, reduceIte, reduceCtorEq, Nat.reduceEqDiff, Nat.reduceAdd, Nat.reduceLeDiff, Nat.reduceSub, Nat.reduceMul, Nat.reduceLT, Nat.reduceShiftRight, Nat.reduceMod, Int.reduceLE, Int.reduceLT, Int.reduceToNat, cdB, List.cons.injEq, true_and, and_true]
  exact ⟨_, rfl, rfl⟩
def sp_fback : List D → Option (Prop × D × Fr)
  | [.c (.sl z262)] => some (z262 = evs (devs z262), fback_r (devs z262), [])
  | _ => none
attribute [go_sem] sp_fback
theorem sp_fback_ok : ∀ rs p r fr, sp_fback rs = some (p, r, fr) → p → FnOk Tryz.prog 196 rs r fr := by
  intro rs p r fr h hp
  unfold sp_fback at h
  split at h <;> cases h
  have hc0 := hp
  rename_i z262
  obtain ⟨z262, rfl⟩ : ∃ m, z262 = evs m := ⟨_, hc0⟩
  simp only [devs_evs]
  exact fback_ok z262
def okEv (n : Int) : List Ev → Bool
  | [] => true
  | e :: r => decide ((e.seq : Int) = n - (r.length + 1)) && kindS e.kind && okEv n r
def okFd (f : Fd) : Prop := 1 ≤ f.next ∧ f.next ≤ MM ∧ f.l.length = min (f.next - 1) 64 ∧ okEv f.next f.l = true
instance (f : Fd) : Decidable (okFd f) := by unfold okFd; infer_instance
def chkF (f : Fd) : Int := if okFd f then 0 else 1
theorem okEv_get (n : Int) : ∀ (l : List Ev), okEv n l = true ↔ ∀ i : Nat, i < l.length → ((l.getD i default).seq : Int) = n - (l.length - i : Int) ∧ kindS (l.getD i default).kind = true
  | [] => by simp [okEv]
  | e :: r => by
    rw [okEv, Bool.and_eq_true, Bool.and_eq_true, okEv_get n r, decide_eq_true_eq]
    constructor
    · rintro ⟨⟨h1, h2⟩, h3⟩ i hi
      cases i with
      | zero => simp [h1, h2]
      | succ i =>
        have := h3 i (by simpa using hi)
        simp only [List.getD_cons_succ, List.length_cons]
        refine ⟨?_, this.2⟩
        rw [this.1]
        omega
    · intro h
      refine ⟨?_, fun i hi => ?_⟩
      · have := h 0 (by simp)
        simp at this
        exact ⟨by rw [this.1], this.2⟩
      · have := h (i + 1) (by simpa using hi)
        simp only [List.getD_cons_succ, List.length_cons] at this
        refine ⟨?_, this.2⟩
        rw [this.1]
        omega
theorem check_bad {f : Fd} {pre : List (Fin f.l.length)} {x : Fin f.l.length} (h : pre ++ [x] <+: (List.finRange f.l.length).reverse)
    (hb : ¬ (((f.l.getD x.1 default).seq : Int) = f.next - (pre.length + 1 : Int) ∧ kindS (f.l.getD x.1 default).kind = true)) : chkF f = 1 := by
  unfold chkF
  rw [if_neg]
  rintro ⟨_, _, _, h4⟩
  obtain ⟨t, ht⟩ := h
  have h5 : (List.finRange f.l.length).reverse[pre.length]? = some x := by rw [← ht]; simp
  have h6 := (okEv_get f.next f.l).1 h4 x.1 x.2
  have hlt : pre.length < f.l.length := by
    have := (List.getElem?_eq_some_iff.1 h5).1
    simpa using this
  have h7 : x.1 = f.l.length - 1 - pre.length := by
    rw [List.getElem?_eq_getElem (by simpa using hlt)] at h5
    simp at h5
    rw [← h5]
  refine hb ⟨?_, h6.2⟩
  rw [h6.1, h7]
  omega
attribute [go_sem] setps asg rfp
@[go_sem] def fcheck_r (f : Fd) : D := .int .i64 (chkF f)
@[go_sem] abbrev n_fcheck : FuncId := 104
@[go_sem] def fcheck_T : Tab := [(197, sp_fkind), (196, sp_fback)]
theorem fcheck_T_ok : TabOk Tryz.prog fcheck_T := (TabOk.cons sp_fkind_ok (TabOk.cons sp_fback_ok TabOk.nil))
set_option maxRecDepth 8000 in
set_option maxHeartbeats 1000000 in
theorem fcheck_ok (f : Fd) (h : f.next ≤ 18446744073709551615) : PureFn Tryz.prog 104 [.agg [.c (.int .u64 (f.next : Int)), .sl (evs f.l)]] (fcheck_r f) := by
  refine .of (acall_introM (n := 44) (fn := Tryz.f104) (by kernel_rfl) rfl rfl rfl (Nat.le_of_ble_eq_true rfl) (rs := [.cell 2 34]) rfl ?_)
  refine SWm.seq (SWm.awp fcheck_T_ok.toS lv104 rfl ?_)
  simp -implicitDefEqProofs only [cdA, go_sem, reduceIte, reduceCtorEq, Nat.reduceEqDiff, Nat.reduceAdd, Nat.reduceLeDiff, Nat.reduceSub, Nat.reduceMul, Nat.reduceLT, Nat.reduceShiftRight, Nat.reduceMod, Int.reduceLE, Int.reduceLT, Int.reduceToNat, cdB, List.cons.injEq, true_and, and_true]
  refine SWm.seq (SWm.awp fcheck_T_ok.toS lv104 rfl ?_)
  simp -implicitDefEqProofs only [cdA, go_sem, reduceIte, reduceCtorEq, Nat.reduceEqDiff, Nat.reduceAdd, Nat.reduceLeDiff, Nat.reduceSub, Nat.reduceMul, Nat.reduceLT, Nat.reduceShiftRight, Nat.reduceMod, Int.reduceLE, Int.reduceLT, Int.reduceToNat, cdB, List.cons.injEq, true_and, and_true]
  have hbad : ¬ okFd f → 1 = chkF f := fun h => by rw [chkF, if_neg h]
  refine ⟨fun h1 => ⟨fun h2 h3 => ⟨fun h4 => ?_, fun h4 => hbad fun ho => h4 ?_⟩, fun h2 => hbad fun ho => ?_⟩, fun h1 => hbad fun ho => ?_⟩
  rotate_left 1
  · have := ho.2.2.1
    rw [u64_in f.l.length (by omega), u64_in ((f.next : Int) - 1) (by omega)]; omega
  · have := ho.2.1; unfold MM at this; omega
  · have := ho.1; omega
  · refine SWm.seq (SWm.awp fcheck_T_ok.toS lv104 rfl ?_)
    simp -implicitDefEqProofs only [cdA, go_sem, reduceIte, reduceCtorEq, Nat.reduceEqDiff, Nat.reduceAdd, Nat.reduceLeDiff, Nat.reduceSub, Nat.reduceMul, Nat.reduceLT, Nat.reduceShiftRight, Nat.reduceMod, Int.reduceLE, Int.reduceLT, Int.reduceToNat, cdB, List.cons.injEq, true_and, and_true]
    refine SWm.seq (SWm.seq (SWm.awp fcheck_T_ok.toS lv104 rfl ?_))
    simp -implicitDefEqProofs only [cdA, go_sem, reduceIte, reduceCtorEq, Nat.reduceEqDiff, Nat.reduceAdd, Nat.reduceLeDiff, Nat.reduceSub, Nat.reduceMul, Nat.reduceLT, Nat.reduceShiftRight, Nat.reduceMod, Int.reduceLE, Int.reduceLT, Int.reduceToNat, cdB, List.cons.injEq, true_and, and_true]
    have hle : (f.l.length : Int) ≤ 64 ∧ (f.l.length : Int) ≤ f.next - 1 := by
      rw [u64_in f.l.length (by omega), u64_in ((f.next : Int) - 1) (by omega)] at h4
      omega
    have hlen : f.l.length ≤ 1000000 := by omega
    refine SWm.block (SWm.rangeFunc fcheck_T_ok.toS lv104 (caps := [.rp [.sl (evs f.l)]]) rfl (by simp [D.pure1]) (back_iter f.l hlen)
      (fun pre => [(2, .box [.int .u64 ((f.next : Int) - pre.length)]), (1, .box [.int .i64 0]), (0, .box [.int .u64 f.next, .sl (evs f.l)])])
      (fun pre => ∀ (j : Nat) (x : Fin f.l.length), pre[j]? = some x → ((f.l.getD x.1 default).seq : Int) = f.next - (j + 1) ∧ kindS (f.l.getD x.1 default).kind = true)
      (fun x => rfl) (by decide) (Nat.zero_le _) rfl rfl rfl rfl ?_ ?_ ?_)
    · simp [go_sem]
    · intro pre x hok hpre
      simp -implicitDefEqProofs only [cdA, go_sem, reduceIte, reduceCtorEq, Nat.reduceEqDiff, Nat.reduceAdd, Nat.reduceLeDiff, Nat.reduceSub, Nat.reduceMul, Nat.reduceLT, Nat.reduceShiftRight, Nat.reduceMod, Int.reduceLE, Int.reduceLT, Int.reduceToNat, cdB, List.cons.injEq, true_and, and_true]
      rw [u64_in ((f.next : Int) - _ - 1) (by omega)]
      refine ⟨fun h5 => ⟨fun h6 => ⟨fun j y hj => ?_, by omega⟩, fun h6 hp => ?_⟩, fun h5 hp => ?_⟩
      · rw [List.getElem?_append] at hj
        split at hj
        · exact hok j y hj
        · rename_i hge
          have : j = pre.length := by
            have := (List.getElem?_eq_some_iff.1 hj).1
            simp at this
            omega
          subst this
          simp at hj
          subst hj
          exact ⟨by omega, h6⟩
      · exact (check_bad hp fun h => by rw [h6] at h; cases h.2).symm
      · exact (check_bad hp fun h => h5 (by omega)).symm
    · intro hok
      refine SWm.awp fcheck_T_ok.toS lv104 rfl ?_
      simp -implicitDefEqProofs only [cdA, go_sem, reduceIte, reduceCtorEq, Nat.reduceEqDiff, Nat.reduceAdd, Nat.reduceLeDiff, Nat.reduceSub, Nat.reduceMul, Nat.reduceLT, Nat.reduceShiftRight, Nat.reduceMod, Int.reduceLE, Int.reduceLT, Int.reduceToNat, cdB, List.cons.injEq, true_and, and_true]
      rw [u64_in f.l.length (by omega), u64_in ((f.next : Int) - 1) (by omega)] at h4
      have hE : okEv f.next f.l = true := by
        rw [okEv_get]
        intro i hi
        have h5 : (List.finRange f.l.length).reverse[f.l.length - 1 - i]? = some ⟨i, hi⟩ := by
          rw [List.getElem?_eq_getElem (by simp; omega)]
          simp
          try omega
        obtain ⟨h6, h7⟩ := hok _ _ h5
        refine ⟨?_, h7⟩
        rw [h6]
        omega
      rw [chkF, if_pos (show okFd f from ⟨by omega, by unfold MM; omega, by omega, hE⟩)]
@[go_sem] def fcheck_p (f : Fd) : Prop := (f.next ≤ 18446744073709551615)
def sp_fcheck : List D → Option (Prop × D × Fr)
  | [.agg [.c (.int .u64 z264), .c (.sl z265)]] => some (z264 = (z264.toNat : Int) ∧ z265 = evs (devs z265) ∧ fcheck_p (⟨z264.toNat, (devs z265)⟩ : Fd), fcheck_r (⟨z264.toNat, (devs z265)⟩ : Fd), [])
  | _ => none
attribute [go_sem] sp_fcheck
theorem sp_fcheck_ok : ∀ rs p r fr, sp_fcheck rs = some (p, r, fr) → p → FnOk Tryz.prog 104 rs r fr := by
  intro rs p r fr h hp
  unfold sp_fcheck at h
  split at h <;> cases h
  obtain ⟨hc0, hc1, hp⟩ := hp
  rename_i z264 z265
  obtain ⟨z264, rfl⟩ : ∃ m : Nat, z264 = m := ⟨_, hc0⟩
  obtain ⟨z265, rfl⟩ : ∃ m, z265 = evs m := ⟨_, hc1⟩
  simp only [Int.toNat_natCast, devs_evs]
  simp only [Int.toNat_natCast, devs_evs, fcheck_p] at hp
  exact fcheck_ok ⟨z264, z265⟩ hp
theorem chkF_0 {f : Fd} : chkF f = 0 ↔ okFd f := by unfold chkF; split <;> rename_i h <;> simp only [h] <;> decide
@[go_sem] def evclone_r (l : List Ev) : D := .vec 0 l.length
@[go_sem] def evclone_fr (l : List Ev) : Fr := [(4, 74, true, evs l)]
@[go_sem] abbrev n_evclone : FuncId := 206
@[go_sem] def evclone_T : Tab := []
theorem evclone_T_ok : TabOk Tryz.prog evclone_T := TabOk.nil
set_option maxRecDepth 8000 in
set_option maxHeartbeats 1000000 in
theorem evclone_ok (l : List Ev) (hl : l.length ≤ 1000000) : FreshFn Tryz.prog 206 [.sl (evs l)] (evclone_r l) (evclone_fr l) := by
  refine .of (ac206 evclone_T_ok (Nat.le_of_ble_eq_true rfl) ?_)
  simp -implicitDefEqProofs only [cdA, go_sem, Go.Proofs.Tryz.f206, reduceIte, reduceCtorEq, Nat.reduceEqDiff, Nat.reduceAdd, Nat.reduceLeDiff, Nat.reduceSub, Nat.reduceMul, Nat.reduceLT, Nat.reduceShiftRight, Nat.reduceMod, Int.reduceLE, Int.reduceLT, Int.reduceToNat, cdB, List.cons.injEq, true_and, and_true]
  refine fun b hb => ⟨fun h => ?_, fun h => ?_⟩
  · exact ⟨[none], by simp [go_sem, hb h], by cases l <;> simp_all [go_sem, evs]⟩
  · exact ⟨by omega, [some 0], by simp [go_sem]⟩
@[go_sem] def evclone_p (l : List Ev) : Prop := (l.length ≤ 1000000)
def sp_evclone : List D → Option (Prop × D × Fr)
  | [.c (.sl z266)] => some (z266 = evs (devs z266) ∧ evclone_p (devs z266), evclone_r (devs z266), evclone_fr (devs z266))
  | _ => none
attribute [go_sem] sp_evclone
theorem sp_evclone_ok : ∀ rs p r fr, sp_evclone rs = some (p, r, fr) → p → FnOk Tryz.prog 206 rs r fr := by
  intro rs p r fr h hp
  unfold sp_evclone at h
  split at h <;> cases h
  obtain ⟨hc0, hp⟩ := hp
  rename_i z266
  obtain ⟨z266, rfl⟩ : ∃ m, z266 = evs m := ⟨_, hc0⟩
  simp only [devs_evs]
  simp only [devs_evs, evclone_p] at hp
  exact (show FnOk _ _ _ _ _ from And.intro rfl (evclone_ok z266 hp))
def addF (f : Fd) (k : Int) (a n : Nat) : Fd × Nat × Int := if okFd f ∧ kindS k = true then (if f.next = MM then ((⟨0, []⟩ : Fd), 0, 7) else ((⟨f.next + 1, (f.l ++ [(⟨f.next, k, a, n⟩ : Ev)]).drop (f.l.length + 1 - 64)⟩ : Fd), f.next, 0)) else ((⟨0, []⟩ : Fd), 0, 1)
@[go_sem] def fadd_r (f : Fd) (k : Int) (a : Nat) (n : Nat) : D := .tup [.agg [.int .u64 (addF f k a n).1.next, .sl (evs (addF f k a n).1.l)], .int .u64 (addF f k a n).2.1, .int .i64 (addF f k a n).2.2]
@[go_sem] abbrev n_fadd : FuncId := 142
@[go_sem] def fadd_T : Tab := [(104, sp_fcheck), (197, sp_fkind), (206, sp_evclone)]
theorem fadd_T_ok : TabOk Tryz.prog fadd_T := (TabOk.cons sp_fcheck_ok (TabOk.cons sp_fkind_ok (TabOk.cons sp_evclone_ok TabOk.nil)))
set_option maxRecDepth 8000 in
set_option maxHeartbeats 1000000 in
theorem fadd_ok (f : Fd) (k : Int) (a : Nat) (n : Nat) (h : f.next ≤ 18446744073709551615) : PureFn Tryz.prog 142 [.agg [.c (.int .u64 (f.next : Int)), .sl (evs f.l)], .c (.int .i64 k), .c (.int .u64 (a : Int)), .c (.int .u64 (n : Int))] (fadd_r f k a n) := by
  refine .of (ac142 fadd_T_ok (Nat.le_of_ble_eq_true rfl) ?_)
  simp -implicitDefEqProofs only [cdA, go_sem, Go.Proofs.Tryz.f142, reduceIte, reduceCtorEq, Nat.reduceEqDiff, Nat.reduceAdd, Nat.reduceLeDiff, Nat.reduceSub, Nat.reduceMul, Nat.reduceLT, Nat.reduceShiftRight, Nat.reduceMod, Int.reduceLE, Int.reduceLT, Int.reduceToNat, cdB, List.cons.injEq, true_and, and_true]
  have hbad : ¬ (okFd f ∧ kindS k = true) → (0 = ((addF f k a n).1.next : Int) ∧ evs (addF f k a n).1.l = []) ∧ 0 = ((addF f k a n).2.1 : Int) ∧ 1 = (addF f k a n).2.2 := fun h => by
    rw [addF, if_neg h]; exact ⟨⟨rfl, rfl⟩, rfl, rfl⟩
  refine ⟨h, fun h0 => ⟨fun hk => ⟨fun hm => ?_, fun hm => ?_⟩, fun hk => hbad fun ho => by rw [hk] at ho; cases ho.2⟩, fun h0 => hbad fun ho => h0 (chkF_0.2 ho.1)⟩
  · rw [addF, if_pos ⟨chkF_0.1 h0, hk⟩, if_pos (by unfold MM; omega)]; exact ⟨⟨rfl, rfl⟩, rfl, rfl⟩
  · have ho := chkF_0.1 h0
    have h1 := ho.2.2.1
    have h2 := ho.2.1
    unfold MM at h2
    rw [addF, if_pos ⟨ho, hk⟩, if_neg (by unfold MM; omega)]
    have e : (max (IntKind.i64.wrap ((f.l.length : Int) + 1 - 64)) 0).toNat = f.l.length + 1 - 64 := by rw [i64_in _ (by omega)]; omega
    rw [e, u64_in _ (by omega)]
    refine ⟨by omega, by omega, fun _ => ⟨⟨by omega, by rw [i64_in _ (by omega)]; omega⟩, ⟨by dsimp only; omega, rfl, _, _, _, rfl⟩, rfl, rfl⟩⟩
@[go_sem] def fadd_p (f : Fd) (k : Int) (a : Nat) (n : Nat) : Prop := (f.next ≤ 18446744073709551615)
def sp_fadd : List D → Option (Prop × D × Fr)
  | [.agg [.c (.int .u64 z268), .c (.sl z269)], .c (.int .i64 z270), .c (.int .u64 z271), .c (.int .u64 z272)] => some (z268 = (z268.toNat : Int) ∧ z269 = evs (devs z269) ∧ z271 = (z271.toNat : Int) ∧ z272 = (z272.toNat : Int) ∧ fadd_p (⟨z268.toNat, (devs z269)⟩ : Fd) z270 z271.toNat z272.toNat, fadd_r (⟨z268.toNat, (devs z269)⟩ : Fd) z270 z271.toNat z272.toNat, [])
  | _ => none
attribute [go_sem] sp_fadd
theorem sp_fadd_ok : ∀ rs p r fr, sp_fadd rs = some (p, r, fr) → p → FnOk Tryz.prog 142 rs r fr := by
  intro rs p r fr h hp
  unfold sp_fadd at h
  split at h <;> cases h
  obtain ⟨hc0, hc1, hc2, hc3, hp⟩ := hp
  rename_i z268 z269 z270 z271 z272
  obtain ⟨z268, rfl⟩ : ∃ m : Nat, z268 = m := ⟨_, hc0⟩
  obtain ⟨z269, rfl⟩ : ∃ m, z269 = evs m := ⟨_, hc1⟩
  obtain ⟨z271, rfl⟩ : ∃ m : Nat, z271 = m := ⟨_, hc2⟩
  obtain ⟨z272, rfl⟩ : ∃ m : Nat, z272 = m := ⟨_, hc3⟩
  simp only [Int.toNat_natCast, devs_evs]
  simp only [Int.toNat_natCast, devs_evs, fadd_p] at hp
  exact fadd_ok ⟨z268, z269⟩ z270 z271 z272 hp
end Dm
namespace Dm
open Go Go.Proofs Go.IntWalk
structure Wt where
  id : Nat
  w : Option Nat
deriving DecidableEq
instance : Inhabited Wt := ⟨⟨default, some 0⟩⟩
@[go_sem] def Wt.enc (e : Wt) : List C := [.int .u64 (e.id : Int), .flt .f64 e.w]
def Wt.dec : List C → Wt
  | [.int .u64 z110, .flt .f64 z111] => (⟨z110.toNat, z111⟩ : Wt)
  | _ => default
def wts (l : List Wt) : List (List C) := l.map Wt.enc
def dwts (l : List (List C)) : List Wt := l.map Wt.dec
@[simp, go_sem] theorem wts_length (l : List Wt) : (wts l).length = l.length := by simp [wts]
@[go_sem] theorem wts_get (l : List Wt) (i : Nat) : (wts l).getD i [.int .u64 0, .flt .f64 (some 0)] = (l.getD i default).enc := by
  simp only [wts, List.getD_eq_getElem?_getD, List.getElem?_map]
  cases l[i]? <;> rfl
@[go_sem] theorem wts_wide (l : List Wt) : Wide 2 (wts l) = True := by
  simp [Wide, wts, Wt.enc]
theorem Wt.dec_enc (e : Wt) : Wt.dec e.enc = e := by
  simp [Wt.enc, Wt.dec]
@[go_sem] theorem dwts_wts (l : List Wt) : dwts (wts l) = l := by
  simp only [dwts, wts, List.map_map]
  exact List.map_id'' (fun e => Wt.dec_enc e) l
@[go_sem] theorem wts_app (a b : List Wt) : wts a ++ wts b = wts (a ++ b) := by simp [wts]
@[go_sem] theorem wts_drop (l : List Wt) (k : Nat) : (wts l).drop k = wts (l.drop k) := by simp [wts]
@[go_sem] theorem wts_take (l : List Wt) (k : Nat) : (wts l).take k = wts (l.take k) := by simp [wts]
@[go_sem] theorem wts_one (z112 : Int) (z113 : Option Nat) (hz112 : 0 ≤ z112) : [[C.int .u64 z112, C.flt .f64 z113]] = wts [⟨z112.toNat, z113⟩] := by simp [wts, Wt.enc, Int.toNat_of_nonneg hz112]
@[go_sem] theorem wts_set (l : List Wt) (i : Nat) (z112 : Int) (z113 : Option Nat) (hz112 : 0 ≤ z112) : (wts l).set i [C.int .u64 z112, C.flt .f64 z113] = wts (l.set i ⟨z112.toNat, z113⟩) := by simp [wts, List.map_set, Wt.enc, Int.toNat_of_nonneg hz112]
@[go_sem] theorem wts_cons (l : List Wt) (z112 : Int) (z113 : Option Nat) (hz112 : 0 ≤ z112) : [C.int .u64 z112, C.flt .f64 z113] :: wts l = wts (⟨z112.toNat, z113⟩ :: l) := by simp [wts, Wt.enc, Int.toNat_of_nonneg hz112]
@[go_sem] theorem wts_flat (l : List Wt) : flatE (wts l) = True := eq_true fun x hx c hc => by
  obtain ⟨e, _, rfl⟩ := List.mem_map.1 hx
  simp only [Wt.enc, List.mem_cons, List.not_mem_nil, or_false] at hc
  rcases hc with rfl | rfl <;> rfl
@[go_sem] theorem Wt.eta {e : Wt} : (⟨e.id, e.w⟩ : Wt) = e := rfl
structure Mk where
  id : Nat
  s : Option Nat
deriving DecidableEq
instance : Inhabited Mk := ⟨⟨default, some 0⟩⟩
@[go_sem] def Mk.enc (e : Mk) : List C := [.int .u64 (e.id : Int), .flt .f64 e.s]
def Mk.dec : List C → Mk
  | [.int .u64 z115, .flt .f64 z116] => (⟨z115.toNat, z116⟩ : Mk)
  | _ => default
def mks (l : List Mk) : List (List C) := l.map Mk.enc
def dmks (l : List (List C)) : List Mk := l.map Mk.dec
@[simp, go_sem] theorem mks_length (l : List Mk) : (mks l).length = l.length := by simp [mks]
@[go_sem] theorem mks_get (l : List Mk) (i : Nat) : (mks l).getD i [.int .u64 0, .flt .f64 (some 0)] = (l.getD i default).enc := by
  simp only [mks, List.getD_eq_getElem?_getD, List.getElem?_map]
  cases l[i]? <;> rfl
@[go_sem] theorem mks_wide (l : List Mk) : Wide 2 (mks l) = True := by
  simp [Wide, mks, Mk.enc]
theorem Mk.dec_enc (e : Mk) : Mk.dec e.enc = e := by
  simp [Mk.enc, Mk.dec]
@[go_sem] theorem dmks_mks (l : List Mk) : dmks (mks l) = l := by
  simp only [dmks, mks, List.map_map]
  exact List.map_id'' (fun e => Mk.dec_enc e) l
@[go_sem] theorem mks_app (a b : List Mk) : mks a ++ mks b = mks (a ++ b) := by simp [mks]
@[go_sem] theorem mks_drop (l : List Mk) (k : Nat) : (mks l).drop k = mks (l.drop k) := by simp [mks]
@[go_sem] theorem mks_take (l : List Mk) (k : Nat) : (mks l).take k = mks (l.take k) := by simp [mks]
@[go_sem] theorem mks_one (z117 : Int) (z118 : Option Nat) (hz117 : 0 ≤ z117) : [[C.int .u64 z117, C.flt .f64 z118]] = mks [⟨z117.toNat, z118⟩] := by simp [mks, Mk.enc, Int.toNat_of_nonneg hz117]
@[go_sem] theorem mks_set (l : List Mk) (i : Nat) (z117 : Int) (z118 : Option Nat) (hz117 : 0 ≤ z117) : (mks l).set i [C.int .u64 z117, C.flt .f64 z118] = mks (l.set i ⟨z117.toNat, z118⟩) := by simp [mks, List.map_set, Mk.enc, Int.toNat_of_nonneg hz117]
@[go_sem] theorem mks_cons (l : List Mk) (z117 : Int) (z118 : Option Nat) (hz117 : 0 ≤ z117) : [C.int .u64 z117, C.flt .f64 z118] :: mks l = mks (⟨z117.toNat, z118⟩ :: l) := by simp [mks, Mk.enc, Int.toNat_of_nonneg hz117]
@[go_sem] theorem mks_flat (l : List Mk) : flatE (mks l) = True := eq_true fun x hx c hc => by
  obtain ⟨e, _, rfl⟩ := List.mem_map.1 hx
  simp only [Mk.enc, List.mem_cons, List.not_mem_nil, or_false] at hc
  rcases hc with rfl | rfl <;> rfl
@[go_sem] theorem Mk.eta {e : Mk} : (⟨e.id, e.s⟩ : Mk) = e := rfl
abbrev F1 : Option Nat := some 4607182418800017408
@[go_sem] def isnanf_r (x : Option Nat) : D := .bool (fnan x)
@[go_sem] abbrev n_isnanf : FuncId := 213
@[go_sem] def isnanf_T : Tab := []
theorem isnanf_T_ok : TabOk Tryz.prog isnanf_T := TabOk.nil
set_option maxRecDepth 8000 in
set_option maxHeartbeats 1000000 in
theorem isnanf_ok (x : Option Nat)  : PureFn Tryz.prog 213 [.c (.flt .f64 x)] (isnanf_r x) := by
  refine .of (ac213 isnanf_T_ok (Nat.le_of_ble_eq_true rfl) ?_)
  simp -implicitDefEqProofs only [cdA, go_sem, Go.Proofs.Tryz.f213, reduceIte, reduceCtorEq, Nat.reduceEqDiff, Nat.reduceAdd, Nat.reduceLeDiff, Nat.reduceSub, Nat.reduceMul, Nat.reduceLT, Nat.reduceShiftRight, Nat.reduceMod, Int.reduceLE, Int.reduceLT, Int.reduceToNat, cdB, List.cons.injEq, true_and, and_true]
  rfl
def sp_isnanf : List D → Option (Prop × D × Fr)
  | [.c (.flt .f64 z119)] => some (True, isnanf_r z119, [])
  | _ => none
attribute [go_sem] sp_isnanf
theorem sp_isnanf_ok : ∀ rs p r fr, sp_isnanf rs = some (p, r, fr) → p → FnOk Tryz.prog 213 rs r fr := by
  intro rs p r fr h hp
  unfold sp_isnanf at h
  split at h <;> cases h
  rename_i z119
  exact isnanf_ok z119
@[go_sem] def cmpf_r (x : Option Nat) (y : Option Nat) : D := .int .i64 (cmpS (fkey x) (fkey y))
@[go_sem] abbrev n_cmpf : FuncId := 128
@[go_sem] def cmpf_T : Tab := [(213, sp_isnanf)]
theorem cmpf_T_ok : TabOk Tryz.prog cmpf_T := (TabOk.cons sp_isnanf_ok TabOk.nil)
set_option maxRecDepth 8000 in
set_option maxHeartbeats 1000000 in
theorem cmpf_ok (x : Option Nat) (y : Option Nat)  : PureFn Tryz.prog 128 [.c (.flt .f64 x), .c (.flt .f64 y)] (cmpf_r x y) := by
  refine .of (ac128 cmpf_T_ok (Nat.le_of_ble_eq_true rfl) ?_)
  simp -implicitDefEqProofs only [cdA, go_sem, Go.Proofs.Tryz.f128, reduceIte, reduceCtorEq, Nat.reduceEqDiff, Nat.reduceAdd, Nat.reduceLeDiff, Nat.reduceSub, Nat.reduceMul, Nat.reduceLT, Nat.reduceShiftRight, Nat.reduceMod, Int.reduceLE, Int.reduceLT, Int.reduceToNat, cdB, List.cons.injEq, true_and, and_true]
  have h1 := fkey_ge x
  have h2 := fkey_ge y
  rw [fnan_key, fnan_key, ford_lt, ford_gt]
  generalize fkey x = a at *
  generalize fkey y = b at *
  generalize kNan = k at *
  unfold cmpS
  simp only [decide_eq_true_eq, decide_eq_false_iff_not, Bool.and_eq_true, Bool.and_eq_false_iff, ne_eq, Classical.not_not]
  refine ⟨fun h3 => ⟨fun h4 => ?_, fun h4 => ?_⟩, fun h3 => ⟨fun h4 => ?_, fun h4 => ⟨fun h5 => ?_, fun h5 => ⟨fun h6 => ?_, fun h6 => ?_⟩⟩⟩⟩
  all_goals (repeat' split) <;> first | rfl | (exfalso; omega)
def sp_cmpf : List D → Option (Prop × D × Fr)
  | [.c (.flt .f64 z120), .c (.flt .f64 z121)] => some (True, cmpf_r z120 z121, [])
  | _ => none
attribute [go_sem] sp_cmpf
theorem sp_cmpf_ok : ∀ rs p r fr, sp_cmpf rs = some (p, r, fr) → p → FnOk Tryz.prog 128 rs r fr := by
  intro rs p r fr h hp
  unfold sp_cmpf at h
  split at h <;> cases h
  rename_i z120 z121
  exact cmpf_ok z120 z121
def weighS (l : List Wt) (id : Nat) : Option Nat := match l.find? fun x => decide (x.id = id) with
  | some x => x.w
  | none => F1
@[go_sem] def weigh_r (l : List Wt) (id : Nat) : D := .c (.flt .f64 (weighS l id))
@[go_sem] abbrev n_weigh : FuncId := 122
@[go_sem] def weigh_T : Tab := []
theorem weigh_T_ok : TabOk Tryz.prog weigh_T := TabOk.nil
set_option maxRecDepth 8000 in
set_option maxHeartbeats 1000000 in
theorem weigh_ok (l : List Wt) (id : Nat)  : PureFn Tryz.prog 122 [.sl (wts l), .c (.int .u64 (id : Int))] (weigh_r l id) := by
  refine .of (ac122 weigh_T_ok (Nat.le_of_ble_eq_true rfl) ?_)
  simp -implicitDefEqProofs only [cdA, go_sem, Go.Proofs.Tryz.f122, reduceIte, reduceCtorEq, Nat.reduceEqDiff, Nat.reduceAdd, Nat.reduceLeDiff, Nat.reduceSub, Nat.reduceMul, Nat.reduceLT, Nat.reduceShiftRight, Nat.reduceMod, Int.reduceLE, Int.reduceLT, Int.reduceToNat, cdB, List.cons.injEq, true_and, and_true]
  refine ac208 weigh_T_ok (Nat.le_of_ble_eq_true rfl) ?_
  simp -implicitDefEqProofs only [cdA, go_sem, Go.Proofs.Tryz.f208, reduceIte, reduceCtorEq, Nat.reduceEqDiff, Nat.reduceAdd, Nat.reduceLeDiff, Nat.reduceSub, Nat.reduceMul, Nat.reduceLT, Nat.reduceShiftRight, Nat.reduceMod, Int.reduceLE, Int.reduceLT, Int.reduceToNat, cdB, List.cons.injEq, true_and, and_true]
  refine fun hl => SWp.loop (ι := { i : Nat // i ≤ l.length ∧ ∀ j, j < i → (l.getD j default).id ≠ id }) (fun i => ⟨[(0, .sl (wts l)), (1, .fn (.func 209) [] [.ref 0 0]), (7, .int .i64 l.length), (8, .int .i64 i.1)], [(0, .box [.int .u64 id])], 1⟩) (fun i => l.length - i.1) ⟨0, by simp⟩ ?_ ?_
  · simp [go_sem]
  · rintro ⟨i, hi, hall⟩
    refine awp_sound weigh_T_ok.toS lv208 _ _ _ rfl ?_
    simp -implicitDefEqProofs only [cdA, go_sem, reduceIte, reduceCtorEq, Nat.reduceEqDiff, Nat.reduceAdd, Nat.reduceLeDiff, Nat.reduceSub, Nat.reduceMul, Nat.reduceLT, Nat.reduceShiftRight, Nat.reduceMod, Int.reduceLE, Int.reduceLT, Int.reduceToNat, cdB, List.cons.injEq, true_and, and_true]
    have hno : (∀ j, j < l.length → (l.getD j default).id ≠ id) → weighS l id = F1 := fun h => by
      have : l.find? (fun x => decide (x.id = id)) = none := by
        rw [List.find?_eq_none]
        intro x hx
        obtain ⟨j, hj, rfl⟩ := mem_getD.1 hx
        simpa using h j hj
      rw [weighS, this]
    have hyes : i < l.length → (l.getD i default).id = id → weighS l id = (l.getD i default).w := fun h h' => by
      have : l.find? (fun x => decide (x.id = id)) = some (l.getD i default) := by
        rw [List.find?_eq_some_iff_getElem]
        refine ⟨by simpa using h', i, h, (getD_lt h).symm, fun j hj => ?_⟩
        have := hall j hj
        rw [getD_lt (by omega)] at this
        simpa using this
      rw [weighS, this]
    refine ⟨fun h => ⟨by omega, ?_⟩, fun h => ?_⟩
    · skip
      refine ac209 weigh_T_ok (Nat.le_of_ble_eq_true rfl) ?_
      simp -implicitDefEqProofs only [cdA, go_sem, Go.Proofs.Tryz.f209, reduceIte, reduceCtorEq, Nat.reduceEqDiff, Nat.reduceAdd, Nat.reduceLeDiff, Nat.reduceSub, Nat.reduceMul, Nat.reduceLT, Nat.reduceShiftRight, Nat.reduceMod, Int.reduceLE, Int.reduceLT, Int.reduceToNat, cdB, List.cons.injEq, true_and, and_true]
      refine ⟨fun h1 => ⟨fun h2 => by omega, fun _ => ⟨by omega, ?_⟩⟩, fun h1 => ⟨⟨i + 1, by omega, fun j hj => ?_⟩, by dsimp only; omega, i64_in _ (by omega)⟩⟩
      · rw [hyes (by omega) (by omega)]
      · by_cases hji : j = i
        · subst hji; omega
        · exact hall j (by omega)
    · rw [hno fun j hj => hall j (by omega)]
def sp_weigh : List D → Option (Prop × D × Fr)
  | [.c (.sl z128), .c (.int .u64 z129)] => some (z128 = wts (dwts z128) ∧ z129 = (z129.toNat : Int), weigh_r (dwts z128) z129.toNat, [])
  | _ => none
attribute [go_sem] sp_weigh
theorem sp_weigh_ok : ∀ rs p r fr, sp_weigh rs = some (p, r, fr) → p → FnOk Tryz.prog 122 rs r fr := by
  intro rs p r fr h hp
  unfold sp_weigh at h
  split at h <;> cases h
  obtain ⟨hc0, hc1⟩ := hp
  rename_i z128 z129
  obtain ⟨z128, rfl⟩ : ∃ m, z128 = wts m := ⟨_, hc0⟩
  obtain ⟨z129, rfl⟩ : ∃ m : Nat, z129 = m := ⟨_, hc1⟩
  simp only [Int.toNat_natCast, dwts_wts]
  exact weigh_ok z128 z129
def oneS (c : Ch) (w n : Option Nat) : Option Nat × Int := if okCh c then (far .mul w (far .quo (far .sub (fofi (roomC c).1) n) (fofi (sumsC c).2.1)), 0) else (some 0, 1)
theorem roomC_0 {c : Ch} : (roomC c).2 = 0 ↔ okCh c := by
  unfold roomC
  by_cases h : okCh c
  · rw [if_pos h]
    simp only [h, iff_true]
    split <;> rfl
  · rw [if_neg h]
    simp [h]
@[go_sem] def one_r (c : Ch) (w : Option Nat) (n : Option Nat) : D := .tup [.c (.flt .f64 (oneS c w n).1), .int .i64 (oneS c w n).2]
@[go_sem] abbrev n_one : FuncId := 121
@[go_sem] def one_T : Tab := [(120, sp_croom), (143, sp_call)]
theorem one_T_ok : TabOk Tryz.prog one_T := (TabOk.cons sp_croom_ok (TabOk.cons sp_call_ok TabOk.nil))
set_option maxRecDepth 8000 in
set_option maxHeartbeats 1000000 in
theorem one_ok (c : Ch) (w : Option Nat) (n : Option Nat)  : PureFn Tryz.prog 121 [.agg [.c (.int .u64 (c.id : Int)), .c (.int .u64 (c.loc : Int)), .c (.int .u64 (c.rem : Int)), .c (.int .u64 (c.res : Int)), .c (.int .u64 (c.most : Int)), .sl (hds c.holds), .c (.bool c.op)], .c (.flt .f64 w), .c (.flt .f64 n)] (one_r c w n) := by
  refine .of (ac121 one_T_ok (Nat.le_of_ble_eq_true rfl) ?_)
  simp -implicitDefEqProofs only [cdA, go_sem, Go.Proofs.Tryz.f121, reduceIte, reduceCtorEq, Nat.reduceEqDiff, Nat.reduceAdd, Nat.reduceLeDiff, Nat.reduceSub, Nat.reduceMul, Nat.reduceLT, Nat.reduceShiftRight, Nat.reduceMod, Int.reduceLE, Int.reduceLT, Int.reduceToNat, cdB, List.cons.injEq, true_and, and_true]
  have hr := roomC_0 (c := c)
  rw [hr, sumsC_0, oneS]
  by_cases h : okCh c
  · have e : (sumsC c).2.2 = 0 := sumsC_0.2 h
    simp [h]
  · have e : (roomC c).2 = 1 := by rw [roomC, if_neg h]
    simp [h, e]
def sp_one : List D → Option (Prop × D × Fr)
  | [.agg [.c (.int .u64 z131), .c (.int .u64 z132), .c (.int .u64 z133), .c (.int .u64 z134), .c (.int .u64 z135), .c (.sl z136), .c (.bool z137)], .c (.flt .f64 z138), .c (.flt .f64 z139)] => some (z131 = (z131.toNat : Int) ∧ z132 = (z132.toNat : Int) ∧ z133 = (z133.toNat : Int) ∧ z134 = (z134.toNat : Int) ∧ z135 = (z135.toNat : Int) ∧ z136 = hds (dhds z136), one_r (⟨z131.toNat, z132.toNat, z133.toNat, z134.toNat, z135.toNat, (dhds z136), z137⟩ : Ch) z138 z139, [])
  | _ => none
attribute [go_sem] sp_one
theorem sp_one_ok : ∀ rs p r fr, sp_one rs = some (p, r, fr) → p → FnOk Tryz.prog 121 rs r fr := by
  intro rs p r fr h hp
  unfold sp_one at h
  split at h <;> cases h
  obtain ⟨hc0, hc1, hc2, hc3, hc4, hc5⟩ := hp
  rename_i z131 z132 z133 z134 z135 z136 z137 z138 z139
  obtain ⟨z131, rfl⟩ : ∃ m : Nat, z131 = m := ⟨_, hc0⟩
  obtain ⟨z132, rfl⟩ : ∃ m : Nat, z132 = m := ⟨_, hc1⟩
  obtain ⟨z133, rfl⟩ : ∃ m : Nat, z133 = m := ⟨_, hc2⟩
  obtain ⟨z134, rfl⟩ : ∃ m : Nat, z134 = m := ⟨_, hc3⟩
  obtain ⟨z135, rfl⟩ : ∃ m : Nat, z135 = m := ⟨_, hc4⟩
  obtain ⟨z136, rfl⟩ : ∃ m, z136 = hds m := ⟨_, hc5⟩
  simp only [Int.toNat_natCast, dhds_hds]
  exact one_ok ⟨z131, z132, z133, z134, z135, z136, z137⟩ z138 z139
@[go_sem] def misnan_r (x : Option Nat) : D := .bool (fnan x)
@[go_sem] abbrev n_misnan : FuncId := 123
@[go_sem] def misnan_T : Tab := []
theorem misnan_T_ok : TabOk Tryz.prog misnan_T := TabOk.nil
set_option maxRecDepth 8000 in
set_option maxHeartbeats 1000000 in
theorem misnan_ok (x : Option Nat)  : PureFn Tryz.prog 123 [.c (.flt .f64 x)] (misnan_r x) := by
  refine .of (ac123 misnan_T_ok (Nat.le_of_ble_eq_true rfl) ?_)
  simp -implicitDefEqProofs only [cdA, go_sem, Go.Proofs.Tryz.f123, reduceIte, reduceCtorEq, Nat.reduceEqDiff, Nat.reduceAdd, Nat.reduceLeDiff, Nat.reduceSub, Nat.reduceMul, Nat.reduceLT, Nat.reduceShiftRight, Nat.reduceMod, Int.reduceLE, Int.reduceLT, Int.reduceToNat, cdB, List.cons.injEq, true_and, and_true]
  rfl
def sp_misnan : List D → Option (Prop × D × Fr)
  | [.c (.flt .f64 z150)] => some (True, misnan_r z150, [])
  | _ => none
attribute [go_sem] sp_misnan
theorem sp_misnan_ok : ∀ rs p r fr, sp_misnan rs = some (p, r, fr) → p → FnOk Tryz.prog 123 rs r fr := by
  intro rs p r fr h hp
  unfold sp_misnan at h
  split at h <;> cases h
  rename_i z150
  exact misnan_ok z150
@[go_sem] def mnan_r  : D := .c (.flt .f64 none)
@[go_sem] abbrev n_mnan : FuncId := 124
@[go_sem] def mnan_T : Tab := [ovk 210]
theorem mnan_T_ok : TabOk Tryz.prog mnan_T := (TabOk.cons (ov_ok 210) TabOk.nil)
set_option maxRecDepth 8000 in
set_option maxHeartbeats 1000000 in
theorem mnan_ok   : PureFn Tryz.prog 124 [] (mnan_r ) := by
  refine .of (ac124 mnan_T_ok (Nat.le_of_ble_eq_true rfl) ?_)
  simp -implicitDefEqProofs only [cdA, go_sem, Go.Proofs.Tryz.f124, reduceIte, reduceCtorEq, Nat.reduceEqDiff, Nat.reduceAdd, Nat.reduceLeDiff, Nat.reduceSub, Nat.reduceMul, Nat.reduceLT, Nat.reduceShiftRight, Nat.reduceMod, Int.reduceLE, Int.reduceLT, Int.reduceToNat, cdB, List.cons.injEq, true_and, and_true]
  exact ⟨_, rfl, rfl, rfl, rfl, by kernel_rfl⟩
def sp_mnan : List D → Option (Prop × D × Fr)
  | [] => some (True, mnan_r , [])
  | _ => none
attribute [go_sem] sp_mnan
theorem sp_mnan_ok : ∀ rs p r fr, sp_mnan rs = some (p, r, fr) → p → FnOk Tryz.prog 124 rs r fr := by
  intro rs p r fr h hp
  unfold sp_mnan at h
  split at h <;> cases h
  exact mnan_ok 
def mkO (a b : Mk) : Int := orS [cmpS (fkey b.s) (fkey a.s), cmpS a.id b.id]
@[go_sem] def mkcmp_r (a : Mk) (b : Mk) : D := .int .i64 (mkO a b)
@[go_sem] abbrev n_mkcmp : FuncId := 126
@[go_sem] def mkcmp_T : Tab := [(128, sp_cmpf), (129, sp_cmp), (127, sp_cmpor)]
theorem mkcmp_T_ok : TabOk Tryz.prog mkcmp_T := (TabOk.cons sp_cmpf_ok (TabOk.cons sp_cmp_ok (TabOk.cons sp_cmpor_ok TabOk.nil)))
set_option maxRecDepth 8000 in
set_option maxHeartbeats 1000000 in
theorem mkcmp_ok (a : Mk) (b : Mk)  : PureFn Tryz.prog 126 [.agg [.c (.int .u64 (a.id : Int)), .c (.flt .f64 a.s)], .agg [.c (.int .u64 (b.id : Int)), .c (.flt .f64 b.s)]] (mkcmp_r a b) := by
  refine .of (ac126 mkcmp_T_ok (Nat.le_of_ble_eq_true rfl) ?_)
  simp -implicitDefEqProofs only [cdA, go_sem, Go.Proofs.Tryz.f126, reduceIte, reduceCtorEq, Nat.reduceEqDiff, Nat.reduceAdd, Nat.reduceLeDiff, Nat.reduceSub, Nat.reduceMul, Nat.reduceLT, Nat.reduceShiftRight, Nat.reduceMod, Int.reduceLE, Int.reduceLT, Int.reduceToNat, cdB, List.cons.injEq, true_and, and_true]
  refine ADraw.run us126_1 mkcmp_T_ok follows_mixed (by kernel_rfl) (by kernel_rfl) ?_
  simp -implicitDefEqProofs only [cdA, go_sem, reduceIte, reduceCtorEq, Nat.reduceEqDiff, Nat.reduceAdd, Nat.reduceLeDiff, Nat.reduceSub, Nat.reduceMul, Nat.reduceLT, Nat.reduceShiftRight, Nat.reduceMod, Int.reduceLE, Int.reduceLT, Int.reduceToNat, cdB, List.cons.injEq, true_and, and_true]
  rfl
def sp_mkcmp : List D → Option (Prop × D × Fr)
  | [.agg [.c (.int .u64 z152), .c (.flt .f64 z153)], .agg [.c (.int .u64 z155), .c (.flt .f64 z156)]] => some (z152 = (z152.toNat : Int) ∧ z155 = (z155.toNat : Int), mkcmp_r (⟨z152.toNat, z153⟩ : Mk) (⟨z155.toNat, z156⟩ : Mk), [])
  | _ => none
attribute [go_sem] sp_mkcmp
end Dm
namespace Dm
open Go Go.Proofs Go.Shelf Go.RowKit Go.Lib Go.Sort
section
variable {P : Program} {ρ : Ren} {w w' : World}
theorem ext_grow (h : Ext w w') : ∃ q os', w' = Sort.grow (w.drewN q) os' := by
  refine ⟨w'.drawn - w.drawn, w'.heap.extract w.heap.size w'.heap.size, ?_⟩
  obtain ⟨h1, h2, h3⟩ := h
  have e1 : w'.heap = w.heap ++ w'.heap.extract w.heap.size w'.heap.size := by
    apply Array.ext_getElem?
    intro i
    rw [Array.getElem?_append]
    split
    · rename_i hi; exact h2 i hi
    · rename_i hi
      rw [Array.getElem?_extract]
      by_cases hi2 : i < w'.heap.size
      · rw [if_pos (by omega), show w.heap.size + (i - w.heap.size) = i by omega]
      · rw [if_neg (by omega), Array.getElem?_eq_none (by omega)]
  have e2 : w'.drawn = w.drawn + (w'.drawn - w.drawn) := by have := h3.drw; omega
  obtain ⟨a1, a2, a3, a4, a5⟩ := w'
  obtain ⟨b1, b2, b3, b4, b5⟩ := w
  have h31 := h3.os
  have h32 := h3.out
  have h33 := h3.tape
  simp only at e1 e2 h31 h32 h33
  subst h31; subst h32; subst h33
  simp only [Sort.grow, World.drewN, World.mk.injEq, and_self, and_true, true_and]
  exact ⟨e1, e2⟩
theorem putCells_get {off : Nat} {F cells : Array Value} {t : Nat} (ht : t < cells.size) : (putCells id off F cells)[t]? = if off ≤ t ∧ t < off + F.size then some F[t - off]! else cells[t]? := by
  unfold putCells
  rw [Array.getElem?_mapIdx, Array.getElem?_eq_getElem ht]
  simp only [Option.map_some, id]
  split <;> rfl
theorem sw_heap {enc : Nat → List Value} {k blk off m : Nat} {dk : Array Nat} {os : Array Obj} {cells : Array Value} {e : TypeId} {fz : Nat × Nat} (hb : w.heap[blk]? = some (.cells cells e fz)) {j : Nat} (hj : j < w.heap.size) :
    (sortWorldK enc k w blk off m dk os).heap[j]? = if j = blk then some (.cells (putCells id off (flatK enc k dk) cells) e fz) else w.heap[j]? := by
  unfold sortWorldK putRowK putRow mapBlock Sort.grow Sort.ahead
  have hs : (w.heap.modify blk (onCells (putCells id off (flatK enc k dk)))).size = w.heap.size := by simp
  simp only
  rw [Array.getElem?_append_left (by rw [hs]; exact hj), Array.getElem?_modify]
  by_cases h : j = blk
  · subst h
    rw [if_pos rfl, if_pos rfl, hb]; rfl
  · rw [if_neg (fun e => h e.symm), if_neg h]
theorem sw_size {enc : Nat → List Value} {k blk off m : Nat} {dk : Array Nat} {os : Array Obj} : w.heap.size ≤ (sortWorldK enc k w blk off m dk os).heap.size := by
  unfold sortWorldK putRowK putRow mapBlock Sort.grow Sort.ahead
  simp
theorem sw_env {enc : Nat → List Value} {k blk off m : Nat} {dk : Array Nat} {os : Array Obj} : Env w (sortWorldK enc k w blk off m dk os) := ⟨rfl, rfl, rfl, Nat.le_add_right _ _⟩
theorem ACall.sort (L : SlLaysF0.n6 P ρ) {k : Nat} (hk0 : 0 < k) (aE : ∀ w, (isAgg (ρ.t 24)).run P w = .ok true w) (zE : ∀ w, (Go.sizeOf (ρ.t 24)).run P w = .ok k w)
    {f g : FuncId} (hf : ρ.f 6 = f) {cf : List C → List C → Int} {id e nx n : Nat} {h0 : Bool} {els : List (List C)} {os : List (Nat × Ob)} {Q : D → List (Nat × Ob) → Nat → Prop}
    (hi : lk id os = some (.vec h0 k e els)) (hn : n = els.length) (hsz : n < 4611686018427387904)
    (hcmp : ∀ x ∈ els, ∀ y ∈ els, PureFn P g [.agg (x.map .c), .agg (y.map .c)] (.int .i64 (cf x y)))

    (h1 : ∀ x ∈ els, ¬ cf x x < 0) (h2 : ∀ x ∈ els, ∀ y ∈ els, ∀ z ∈ els, cf x y < 0 → cf y z < 0 → cf x z < 0) (h3 : ∀ x ∈ els, ∀ y ∈ els, ∀ z ∈ els, ¬ cf x y < 0 → ¬ cf y z < 0 → ¬ cf x z < 0)
    (hQ : ∀ els' : List (List C), List.Perm els' els → els'.Pairwise (fun x y => ¬ cf y x < 0) → Q (.tup []) (upd id (.vec h0 k e els') os) nx) : ACall P f [.vec id n, .fn (.func g) [] []] os nx Q := by
  subst hf
  refine ⟨?_, fun g0 w vs ho hsv hv => ?_⟩
  · obtain ⟨nm, hnm, hfn⟩ := L.f6
    exact ⟨_, hfn, hnm, rfl⟩
  have hlen : vs.size = 2 := hsv
  have hv0 := hv 0 vs[0] _ (Array.getElem?_eq_getElem (by omega)) rfl
  have hv1 := hv 1 vs[1] _ (Array.getElem?_eq_getElem (by omega)) rfl
  have hvs : vs = #[vs[0], vs[1]] := by
    apply Array.ext
    · simpa using hlen
    · intro i hi1 hi2
      have : i = 0 ∨ i = 1 := by omega
      rcases this with rfl | rfl <;> rfl
  have hfn : vs[1] = .func (.func g) #[] #[] := by
    generalize vs[1] = u at hv1
    cases hv1 with
    | fn _ fi ca _ _ hs1 hs2 =>
      have e1 : fi = #[] := Array.eq_empty_of_size_eq_zero (by simpa using hs1)
      have e2 : ca = #[] := Array.eq_empty_of_size_eq_zero (by simpa using hs2)
      rw [e1, e2]
  rw [hfn] at hvs
  obtain ⟨a, cap, hκ, hle, hcm, hw, hob⟩ := ho.ok id _ hi
  obtain ⟨a', cap', hva, hcase⟩ : ∃ a' cap', vs[0] = .slice a' n cap' ∧ (a' = a ∧ cap' = cap) := by
    generalize vs[0] = u at hv0
    cases hv0 with
    | vec a' cap' _ _ a0 len cap0 hk hle' hm ha hvq =>
      rw [hκ] at hk
      cases hk
      exact ⟨a', cap', rfl, hvq hn⟩
  obtain ⟨rfl, rfl⟩ := hcase
  rw [hva] at hvs
  clear hv0 hv1 hv hva hfn
  subst hvs
  have hrt : ∀ g' w', VRel g' w' (.tuple #[]) (.tup []) := fun g' w' => .tup #[] [] rfl (fun i v d hv => by simp at hv)
  by_cases hn0 : n = 0
  · have hels : els = [] := List.eq_nil_of_length_eq_zero (by omega)
    have hcon := AnyF.slices_SortFunc_none L a' cap' (.func (.func g) #[] #[]) w
    subst hn0
    refine hcon.mono ?_
    rintro ex w' ⟨rfl, rfl⟩
    subst hels
    have hq := hQ [] (.refl _) .nil
    obtain ⟨hr1, hr2⟩ := ho.replace hi (.vec h0 k e []) [] (.refl g0) (fun _ h => h) (fun _ _ => rfl) (fun _ _ => rfl) (Nat.le_refl _) (fun _ _ _ => rfl) (ho.ok id _ hi) (fun b hb => .inl hb)
    exact ⟨_, _, g0, _, nx, rfl, hq, hr1, hrt _ _, hr2⟩
  rcases hob with ⟨_, hc0⟩ | ⟨b, off, cells, vals, rfl, hblk, hsz2, ⟨hhd, hone⟩, hcell⟩
  · omega
  have hlt : b < w.heap.size := (Array.getElem?_eq_some_iff.1 hblk).1
  let ix : Nat → Nat := fun i => if i < n then i else 0
  have hix : ∀ i, ix i < n := fun i => by show (if i < n then i else 0) < n; split <;> omega
  let E : Nat → List C := fun i => els.getD (ix i) []
  have hE : ∀ i, E i ∈ els := fun i => by
    have h4 : ix i < els.length := by rw [← hn]; exact hix i
    show els.getD (ix i) [] ∈ els
    rw [List.getD_eq_getElem?_getD, List.getElem?_eq_getElem h4]
    exact List.getElem_mem h4
  have hE2 : ∀ i, els[ix i]? = some (E i) := fun i => by
    have h4 : ix i < els.length := by rw [← hn]; exact hix i
    show els[ix i]? = some (els.getD (ix i) [])
    rw [List.getD_eq_getElem?_getD, List.getElem?_eq_getElem h4]; rfl
  let enc : Nat → List Value := fun i => (List.range k).map (vals (ix i))
  have henc : ∀ x, (enc x).length = k := fun x => by simp [enc]
  have hcl : ∀ i j, j < k → ∃ y, (E i)[j]? = some y ∧ cells[off + ix i * k + j]? = some (vals (ix i) j) ∧ CRel g0.I w (vals (ix i) j) y := fun i j hj => by
    have hwd : (E i).length = k := hw _ (hE i)
    have h4 : (E i)[j]? = some ((E i)[j]'(by omega)) := List.getElem?_eq_getElem (by omega)
    exact ⟨_, h4, hcell (ix i) j _ _ (hE2 i) h4⟩
  have hO : SWO (ltOf fun i j => cf (E i) (E j)) := by
    refine ⟨fun x => ?_, fun x y z hx hy => ?_, fun x y z hx hy => ?_⟩
    · unfold ltOf; exact decide_eq_false (h1 _ (hE x))
    · unfold ltOf at *
      exact decide_eq_true (h2 _ (hE x) _ (hE y) _ (hE z) (of_decide_eq_true hx) (of_decide_eq_true hy))
    · unfold ltOf at *
      exact decide_eq_false (h3 _ (hE x) _ (hE y) _ (hE z) (of_decide_eq_false hx) (of_decide_eq_false hy))
  have hmem0 : E 0 ∈ els := hE 0
  have eg : ∀ args w, (callFunc g args).run P w = .ok (.enter g args) w := by
    obtain ⟨⟨fn, h4, h5, h6⟩, _⟩ := hcmp _ hmem0 _ hmem0
    cases hb : fn.body with
    | none => rw [hb] at h6; cases h6
    | some c => exact enters_of h4 h5 hb
  have hIb : ∀ b', g0.I b' → b' < w.heap.size ∧ b' ≠ b := fun b' hb' => ⟨(ho.imm b' hb').1, fun e => (ho.imm b' hb').2 ⟨id, _, hi, by rw [e]; simp [G.blk, hκ]⟩⟩
  have hkeep : ∀ (m : Nat) (dk : Array Nat) (os' : Array Obj), Keeps g0.I w (sortWorldK enc k w b off m dk os') := fun m dk os' b' hb' => by
    rw [sw_heap hblk (hIb b' hb').1, if_neg (hIb b' hb').2]
  have hcl2 : CmpLays P g #[] enc k (fun i j => cf (E i) (E j)) b off n w := by
    intro m os' dk hdk x y
    have harg : ∀ (i : Nat) (v : Value) (d : D), (#[Value.agg (enc x).toArray, .agg (enc y).toArray] : Array Value)[i]? = some v → [D.agg ((E x).map .c), .agg ((E y).map .c)][i]? = some d → VRel (G0 g0.I) (sortWorldK enc k w b off m dk os') v d := by
      have one : ∀ x, VRel (G0 g0.I) (sortWorldK enc k w b off m dk os') (.agg (enc x).toArray) (.agg ((E x).map .c)) := fun x => by
        have hwd : (E x).length = k := hw _ (hE x)
        refine .agg _ _ (by simp [henc, hwd]) fun i v d hv hd => ?_
        simp only [List.getElem?_toArray, enc, List.getElem?_map] at hv
        have hik : i < k := by
          rcases Nat.lt_or_ge i k with h | h
          · exact h
          · rw [List.getElem?_eq_none (by simpa using h)] at hv; cases hv
        rw [List.getElem?_range hik] at hv
        simp only [Option.map_some, Option.some.injEq] at hv
        obtain ⟨z, h4, h5, h6⟩ := hcl x i hik
        rw [List.getElem?_map, h4] at hd
        simp only [Option.map_some, Option.some.injEq] at hd
        subst hv; subst hd
        exact .c _ _ (h6.mono (hkeep m dk os') fun b hb => hb)
      intro i v d hv hd
      have : i = 0 ∨ i = 1 ∨ 2 ≤ i := by omega
      rcases this with rfl | rfl | h
      · simp at hv hd; subst hv; subst hd; exact one x
      · simp at hv hd; subst hv; subst hd; exact one y
      · rw [List.getElem?_eq_none (by simpa using h)] at hd; cases hd
    have hc := (hcmp _ (hE x) _ (hE y)).2 g0.I (sortWorldK enc k w b off m dk os') #[.agg (enc x).toArray, .agg (enc y).toArray] (fun b' hb' => (ho.cel b' hb').keep (hkeep m dk os' b' hb')) rfl harg
    refine hc.mono ?_
    rintro ex w' ⟨v, I', rfl, hvr, hext, _⟩
    have := hvr.int_inv
    subst this
    exact ⟨rfl, ext_grow hext⟩
  have hflat : ∀ (d : Array Nat) (t : Nat), t < d.size * k → (flatK enc k d)[t]! = vals (ix d[t / k]!) (t % k) := fun d t ht => by
    rw [get_flatK _ _ _ _ ht]
    have : t % k < k := Nat.mod_lt _ hk0
    simp [enc, this]
  have hH : HoldsK enc k w b off (Array.range n) := by
    intro t ht
    simp only [size_flatK, Array.size_range] at ht
    have h4 : t / k < n := (Nat.div_lt_iff_lt_mul hk0).2 ht
    rw [hflat _ _ (by simpa using ht)]
    have h5 : (Array.range n)[t / k]! = t / k := by simp [h4]
    rw [h5]
    have h6 : ix (t / k) = t / k := by show (if t / k < n then t / k else 0) = t / k; rw [if_pos h4]
    obtain ⟨y, h7, h8, h9⟩ := hcl (t / k) (t % k) (Nat.mod_lt _ hk0)
    rw [h6, show off + t / k * k + t % k = off + t by rw [Nat.add_assoc, Nat.div_add_mod']] at h8
    rw [h6]
    refine ⟨by simp only [World.cell?, hblk]; simpa using h8, by simp [World.frozen?, hblk]⟩
  have hcon := AnyQ.slices_SortFunc L k aE zE enc henc (fun x v hv => by
    simp only [enc, List.mem_map, List.mem_range] at hv
    obtain ⟨j, hj, rfl⟩ := hv
    obtain ⟨y, h7, h8, h9⟩ := hcl x j hj
    exact hone _ (Array.mem_toList_iff.2 (Array.mem_of_getElem? h8))) (fun i j => cf (E i) (E j)) hO g #[] b off cap' (Array.range n) w eg (by simpa using hcl2) hH hlt (by simpa using hsz)
  rw [Array.size_range] at hcon
  refine hcon.mono ?_
  rintro ex w' ⟨rfl, d', m, os', ⟨hp1, _, hp2⟩, hso, rfl⟩
  rw [Array.size_range] at hp1
  have hperm : d'.toList.Perm (List.range n) := by
    have e1 : d'.extract 0 n = d' := by rw [← hp1, Array.extract_size]
    have e2 : (Array.range n).extract 0 n = Array.range n := by
      have : (Array.range n).size = n := Array.size_range
      conv => lhs; arg 3; rw [← this]
      exact Array.extract_size
    rw [e1, e2, Array.toList_range] at hp2
    exact hp2
  have hEr : (List.range n).map E = els := by
    apply List.ext_getElem?
    intro i
    rw [List.getElem?_map]
    by_cases hin : i < n
    · rw [List.getElem?_range hin, Option.map_some, ← hE2 i]
      show els[ix i]? = _
      have : ix i = i := by show (if i < n then i else 0) = i; rw [if_pos hin]
      rw [this]
    · rw [List.getElem?_eq_none (by simpa using hin), List.getElem?_eq_none (by omega)]; rfl
  have hpe : (d'.toList.map E).Perm els := by
    have := hperm.map E
    rwa [hEr] at this
  have hlen' : (d'.toList.map E).length = n := by rw [hpe.length_eq]; exact hn.symm
  have hpw : (d'.toList.map E).Pairwise (fun x y => ¬ cf y x < 0) := by
    rw [List.pairwise_map, List.pairwise_iff_getElem]
    intro i j hi hj hij
    have hi' : i < d'.size := by simpa using hi
    have hj' : j < d'.size := by simpa using hj
    have := hso i j (Nat.zero_le _) hij (by omega)
    rw [getElem!_pos d' i hi', getElem!_pos d' j hj'] at this
    have := of_decide_eq_false this
    simpa using this
  have hq := hQ _ hpe hpw
  have hdn : ∀ i, i < n → d'[i]! < n := fun i hi => by
    have hi' : i < d'.size := by omega
    rw [getElem!_pos d' i hi']
    exact List.mem_range.1 (hperm.mem_iff.1 (by simp))
  have hok : OK g0 (sortWorldK enc k w b off m d' os') id (.vec h0 k e (d'.toList.map E)) := by
    refine ⟨some ⟨b, off, none⟩, cap', by rw [hlen', hn]; exact hκ, by omega, hcm, fun x hx => hw x (hpe.mem_iff.1 hx), .inr ⟨b, off, putCells _root_.id off (flatK enc k d') cells, fun i j => vals (ix d'[i]!) j, rfl, by rw [sw_heap hblk hlt, if_pos rfl], ?_, ⟨?_, ?_⟩, ?_⟩⟩
    · simpa [putCells] using hsz2
    · intro h
      have := hhd h
      simpa [putCells] using this
    · intro v hv
      rw [Array.mem_toList_iff] at hv
      obtain ⟨t, ht, htv⟩ := Array.mem_iff_getElem.1 hv
      have ht' : t < cells.size := by simpa [putCells] using ht
      have h4 := putCells_get (off := off) (F := flatK enc k d') ht'
      rw [Array.getElem?_eq_getElem ht, htv] at h4
      split at h4
      · rename_i h5
        simp only [Option.some.injEq] at h4
        rw [size_flatK] at h5
        rw [h4, hflat _ _ (by omega)]
        obtain ⟨y, h7, h8, h9⟩ := hcl (d'[(t - off) / k]!) ((t - off) % k) (Nat.mod_lt _ hk0)
        exact hone _ (Array.mem_toList_iff.2 (Array.mem_of_getElem? h8))
      · exact hone _ (Array.mem_toList_iff.2 (Array.mem_of_getElem? h4.symm))
    · intro i j x y hx hy
      rw [List.getElem?_map] at hx
      have hin : i < n := by
        rcases Nat.lt_or_ge i n with h | h
        · exact h
        · rw [List.getElem?_eq_none (by simp; omega)] at hx; cases hx
      have hi' : i < d'.size := by omega
      have h4 : d'.toList[i]? = some d'[i]! := by rw [getElem!_pos d' i hi', Array.getElem?_toList, Array.getElem?_eq_getElem hi']
      rw [h4] at hx
      simp only [Option.map_some, Option.some.injEq] at hx
      subst hx
      have hjk : j < k := by
        have hwd := hw _ (hE d'[i]!)
        have := (List.getElem?_eq_some_iff.1 hy).1
        omega
      obtain ⟨z, h7, h8, h9⟩ := hcl d'[i]! j hjk
      rw [h7] at hy
      cases hy
      have hb1 : i * k + j < n * k := by
        have := Nat.mul_le_mul_right k (show i + 1 ≤ n from hin)
        rw [Nat.add_mul, Nat.one_mul] at this; omega
      have hb2 : n * k ≤ cap' * k := Nat.mul_le_mul_right k (by omega)
      have h10 : off + i * k + j < cells.size := by omega
      rw [putCells_get h10, if_pos ⟨by omega, by rw [size_flatK, hp1]; omega⟩, show off + i * k + j - off = i * k + j by omega, hflat _ _ (by rw [hp1]; exact hb1)]
      have e1 : (i * k + j) / k = i := by rw [Nat.add_comm, Nat.add_mul_div_right _ _ hk0, Nat.div_eq_of_lt hjk, Nat.zero_add]
      have e2 : (i * k + j) % k = j := by rw [Nat.add_comm, Nat.add_mul_mod_self_right, Nat.mod_eq_of_lt hjk]
      rw [e1, e2]
      exact ⟨rfl, h9.mono (hkeep m d' os') fun b hb => hb⟩
  obtain ⟨hr1, hr2⟩ := ho.replace hi (.vec h0 k e (d'.toList.map E)) [] (.refl g0) (fun _ h => h) (fun _ _ => rfl) (fun _ _ => rfl) sw_size (fun b' hb' hne => by
    rw [sw_heap hblk hb', if_neg fun e => hne (by rw [e]; simp [G.blk, hκ])]) hok (fun b' hb' => .inl (by simpa [G.blk, hκ] using hb')) sw_env
  exact ⟨_, _, g0, _, nx, rfl, hq, hr1, hrt _ _, hr2⟩
end
end Dm
namespace Dm
open Go
def fzB (o : Option Ob) (id n t : Nat) (s : St) (K : St → Prop) : Prop := match o with
  | some (.vec _ _ _ els) => n = els.length ∧ K ⟨upd t (.c (.sl els)) s.tm, rmv s.os [id], s.nx⟩
  | _ => False
def fzA (x : Option D) (t : Nat) (s : St) (K : St → Prop) : Prop := match x with
  | some (.vec id n) => fzB (lk id s.os) id n t s K
  | some _ => K s
  | none => False
def fzK : List Nat → St → (St → Prop) → Prop
  | [], s, K => K s
  | t :: l, s, K => fzA (lk t s.tm) t s (fun s => fzK l s K)
section
variable {δ : List Deferred} {P : Program} {g g' : G} {s s' : St} {a : Act} {w w' : World} {n N : Nat} {K : St → Prop}
@[congr] theorem fzA_congr {x x' : Option D} {t : Nat} (h : x = x') : fzA x t s K = fzA x' t s K := by rw [h]
@[congr] theorem fzB_congr {x x' : Option Ob} {id n t : Nat} (h : x = x') : fzB x id n t s K = fzB x' id n t s K := by rw [h]
@[congr] theorem fzK_congr {l : List Nat} (h : s = s') : fzK l s K = fzK l s' K := by rw [h]
@[go_sem] theorem fzK_nil : fzK [] s K = K s := rfl
@[go_sem] theorem fzK_cons {t : Nat} {l : List Nat} : fzK (t :: l) s K = fzA (lk t s.tm) t s (fun s => fzK l s K) := rfl
@[go_sem] theorem fzA_vec {id m t : Nat} : fzA (some (.vec id m)) t s K = fzB (lk id s.os) id m t s K := rfl
@[go_sem] theorem fzA_c {x : C} {t : Nat} : fzA (some (.c x)) t s K = K s := rfl
@[go_sem] theorem fzA_nil {t : Nat} : fzA (some .nil) t s K = K s := rfl
@[go_sem] theorem fzB_vec {id m t : Nat} {hd : Bool} {z : Nat} {e : TypeId} {els : List (List C)} : fzB (some (.vec hd z e els)) id m t s K = (m = els.length ∧ K ⟨upd t (.c (.sl els)) s.tm, rmv s.os [id], s.nx⟩) := rfl
def lpF {ι : Type} (fz : List Nat) (N : Nat) (S : ι → St) (μ : ι → Nat) (m : Nat) (Q : Exit → St → Prop) : Exit → St → Prop
  | .normal, s => fzK fz s fun s => ∃ i, μ i < m ∧ Sub N s (S i)
  | e, s => Q e s
variable {Q : Exit → St → Prop}
@[congr] theorem lpF_congr {ι : Type} {fz : List Nat} {S : ι → St} {μ : ι → Nat} {m : Nat} {e : Exit} (h' : s = s') : lpF fz N S μ m Q e s = lpF fz N S μ m Q e s' := by rw [h']
@[go_sem] theorem lpF_n {ι : Type} {fz : List Nat} {S : ι → St} {μ : ι → Nat} {m : Nat} : lpF fz N S μ m Q .normal s = fzK fz s fun s => ∃ i, μ i < m ∧ Sub N s (S i) := rfl
@[go_sem] theorem lpF_r {ι : Type} {fz : List Nat} {S : ι → St} {μ : ι → Nat} {m : Nat} : lpF fz N S μ m Q .ret s = Q .ret s := rfl
@[go_sem] theorem lpF_e {ι : Type} {fz : List Nat} {S : ι → St} {μ : ι → Nat} {m i : Nat} : lpF fz N S μ m Q (.exit i) s = Q (.exit i) s := rfl
end
end Dm
namespace Go.Proofs
open Go.Shelf Go.RowKit Go.Lib Go.Sort
def Tryz.sortMk_ren : Go.Shelf.Ren := ⟨fun | 6 => 125 | 15 => 212 | 14 => 211 | 28 => 249 | 29 => 250 | 20 => 241 | 21 => 242 | 22 => 243 | 23 => 244 | 24 => 245 | 25 => 246 | 26 => 247 | 27 => 248 | 46 => 257 | 47 => 258 | 48 => 259 | 49 => 260 | 50 => 261 | 57 => 266 | n => n, fun | 22 => 142 | 24 => 149 | 25 => 154 | 3 => 3 | 39 => 220 | 0 => 0 | 53 => 250 | 55 => 26 | 4 => 4 | 46 => 244 | 45 => 243 | 50 => 106 | 5 => 5 | 9 => 9 | 66 => 254 | 70 => 258 | 76 => 263 | 77 => 264 | n => n, fun | n => n⟩
theorem Tryz.sortMk : Go.Proofs.SlLaysF0.n6 Tryz.prog Tryz.sortMk_ren := {
 mixed := by kernel_rfl
 f6 := ⟨Tryz.f125.name, by decide, Tryz.func125.trans (congrArg some (by kernel_rfl))⟩
 f14 := ⟨Tryz.f211.name, by decide, Tryz.func211.trans (congrArg some (by kernel_rfl))⟩
 f15 := Tryz.func212.trans (congrArg some (by kernel_rfl))
 f20 := ⟨Tryz.f241.name, by decide, Tryz.func241.trans (congrArg some (by kernel_rfl))⟩
 f21 := ⟨Tryz.f242.name, by decide, Tryz.func242.trans (congrArg some (by kernel_rfl))⟩
 f22 := ⟨Tryz.f243.name, by decide, Tryz.func243.trans (congrArg some (by kernel_rfl))⟩
 f23 := ⟨Tryz.f244.name, by decide, Tryz.func244.trans (congrArg some (by kernel_rfl))⟩
 f24 := ⟨Tryz.f245.name, by decide, Tryz.func245.trans (congrArg some (by kernel_rfl))⟩
 f25 := ⟨Tryz.f246.name, by decide, Tryz.func246.trans (congrArg some (by kernel_rfl))⟩
 f26 := ⟨Tryz.f247.name, by decide, Tryz.func247.trans (congrArg some (by kernel_rfl))⟩
 f27 := ⟨Tryz.f248.name, by decide, Tryz.func248.trans (congrArg some (by kernel_rfl))⟩
 f28 := Tryz.func249.trans (congrArg some (by kernel_rfl))
 f29 := Tryz.func250.trans (congrArg some (by kernel_rfl))
 f46 := ⟨Tryz.f257.name, by decide, Tryz.func257.trans (congrArg some (by kernel_rfl))⟩
 f47 := Tryz.func258.trans (congrArg some (by kernel_rfl))
 f48 := Tryz.func259.trans (congrArg some (by kernel_rfl))
 f49 := ⟨Tryz.f260.name, by decide, Tryz.func260.trans (congrArg some (by kernel_rfl))⟩
 f50 := ⟨Tryz.f261.name, by decide, Tryz.func261.trans (congrArg some (by kernel_rfl))⟩
 f57 := ⟨Tryz.f266.name, by decide, Tryz.func266.trans (congrArg some (by kernel_rfl))⟩
 t0 := Tryz.underlying0
 a0 := Tryz.isAgg0
 z0 := Tryz.sizeOf0
 v0 := Tryz.zeroValue0
 t3 := Tryz.underlying3
 a3 := Tryz.isAgg3
 z3 := Tryz.sizeOf3
 v3 := Tryz.zeroValue3
 t4 := Tryz.underlying4
 a4 := Tryz.isAgg4
 z4 := Tryz.sizeOf4
 v4 := Tryz.zeroValue4
 t5 := Tryz.underlying5
 a5 := Tryz.isAgg5
 z5 := Tryz.sizeOf5
 v5 := Tryz.zeroValue5
 t9 := Tryz.underlying9
 a9 := Tryz.isAgg9
 z9 := Tryz.sizeOf9
 v9 := Tryz.zeroValue9
 t22 := Tryz.underlying142
 a22 := Tryz.isAgg142
 z22 := Tryz.sizeOf142
 v22 := Tryz.zeroValue142
 t25 := Tryz.underlying154
 a25 := Tryz.isAgg154
 z25 := Tryz.sizeOf154
 v25 := Tryz.zeroValue154
 t39 := Tryz.underlying220
 a39 := Tryz.isAgg220
 z39 := Tryz.sizeOf220
 v39 := Tryz.zeroValue220
 t45 := Tryz.underlying243
 a45 := Tryz.isAgg243
 z45 := Tryz.sizeOf243
 v45 := Tryz.zeroValue243
 t46 := Tryz.underlying244
 a46 := Tryz.isAgg244
 z46 := Tryz.sizeOf244
 v46 := Tryz.zeroValue244
 t50 := Tryz.underlying106
 a50 := Tryz.isAgg106
 z50 := Tryz.sizeOf106
 v50 := Tryz.zeroValue106
 t53 := Tryz.underlying250
 a53 := Tryz.isAgg250
 z53 := Tryz.sizeOf250
 v53 := Tryz.zeroValue250
 t55 := Tryz.underlying26
 a55 := Tryz.isAgg26
 z55 := Tryz.sizeOf26
 v55 := Tryz.zeroValue26
 t66 := Tryz.underlying254
 a66 := Tryz.isAgg254
 z66 := Tryz.sizeOf254
 v66 := Tryz.zeroValue254
 t70 := Tryz.underlying258
 a70 := Tryz.isAgg258
 z70 := Tryz.sizeOf258
 v70 := Tryz.zeroValue258
 t76 := Tryz.underlying263
 a76 := Tryz.isAgg263
 z76 := Tryz.sizeOf263
 v76 := Tryz.zeroValue263
 t77 := Tryz.underlying264
 a77 := Tryz.isAgg264
 z77 := Tryz.sizeOf264
 v77 := Tryz.zeroValue264 }
end Go.Proofs
namespace Dm
open Go Go.Proofs Go.IntWalk
abbrev ltM (a b : Int × Nat) : Prop := b.1 < a.1 ∨ (a.1 = b.1 ∧ a.2 < b.2)
instance : DecidableRel ltM := fun a b => by unfold ltM; infer_instance
theorem totM : Srt.Tot ltM := ⟨fun a => by unfold ltM; omega, fun h h' => by unfold ltM at *; omega, fun a b => by
  unfold ltM
  have : a = b ↔ a.1 = b.1 ∧ a.2 = b.2 := Prod.ext_iff
  rw [this]; omega⟩
def Mk.key (m : Mk) : Int × Nat := (fkey m.s, m.id)
theorem mkO_neg {a b : Mk} : mkO a b < 0 ↔ ltM a.key b.key := by
  unfold mkO orS ltM Mk.key cmpS
  by_cases h1 : fkey b.s < fkey a.s
  · simp [h1]
  · by_cases h2 : fkey a.s < fkey b.s
    · simp [h1, h2]; omega
    · by_cases h3 : (a.id : Int) < b.id
      · simp [h1, h2, h3]; omega
      · by_cases h4 : (b.id : Int) < a.id
        · simp [h1, h2, h3, h4]; omega
        · simp [h1, h2, h3, h4]; omega
def ordM (l : List Mk) : List Mk := l.foldl (Srt.put Mk.key ltM) []
def elig (n : Nat) (c : Ch) : Bool := c.op && decide (max n 1 ≤ (roomC c).1)
def mkOf (w : List Wt) (n : Nat) (c : Ch) : Mk := ⟨c.id, (oneS c (weighS w c.id) (fofi n)).1⟩
def mksOf (l : List Ch) (w : List Wt) (n : Nat) : List Mk := (l.filter (elig n)).map (mkOf w n)
def ordL (l : List Ch) (w : List Wt) (n : Nat) : List Nat × Int := if okLd l then ((ordM (mksOf l w n)).map Mk.id, 0) else ([], 1)
theorem mksOf_succ {l : List Ch} {w : List Wt} {n i : Nat} (h : i < l.length) : mksOf (l.take (i + 1)) w n = mksOf (l.take i) w n ++ (if elig n (l.getD i default) = true then [mkOf w n (l.getD i default)] else []) := by
  rw [take_succ h, mksOf, List.filter_append, List.map_append]
  congr 1
  generalize l.getD i default = x
  by_cases h : elig n x = true <;> simp [h]
theorem mksOf_len {l : List Ch} {w : List Wt} {n : Nat} : (mksOf l w n).length ≤ l.length := by
  rw [mksOf, List.length_map]; exact List.length_filter_le _ _
theorem flo_canon {n : Nat} (h : fnan (flo .f64 n) = true) : flo .f64 n = none := by
  rw [fnan_key, decide_eq_true_iff, flo_key, dkey_nan (read_dbl n)] at h
  exact flo_nan h
theorem far_canon {op : BinOp} {a b : Option Nat} (h : fnan (far op a b) = true) : far op a b = none := by
  unfold far at *
  cases a with
  | none => rfl
  | some x => cases b with
    | none => rfl
    | some y =>
      simp only at *
      have key : ∀ o : Option Nat, fnan (o.bind (flo .f64)) = true → o.bind (flo .f64) = none := fun o ho => by
        cases o with
        | none => rfl
        | some z => exact flo_canon ho
      split at h <;> exact key _ h
theorem ordM_put {l : List Mk} : ∀ {m : List Mk}, Srt.Up Mk.key ltM m → Srt.Up Mk.key ltM (l.foldl (Srt.put Mk.key ltM) m) := by
  induction l with
  | nil => exact fun h => h
  | cons x l ih => exact fun h => ih (Srt.put_up totM h)
theorem ordM_up {l : List Mk} : Srt.Up Mk.key ltM (ordM l) := ordM_put .nil
theorem ordM_mem {l : List Mk} (hd : (l.map Mk.id).Nodup) {x : Mk} : x ∈ ordM l ↔ x ∈ l := by
  have key : ∀ (l m : List Mk), Srt.Up Mk.key ltM m → ((m ++ l).map Mk.id).Nodup → ∀ x, x ∈ l.foldl (Srt.put Mk.key ltM) m ↔ x ∈ m ∨ x ∈ l := by
    intro l
    induction l with
    | nil => intro m _ _ x; simp
    | cons y l ih =>
      intro m hu hn x
      rw [List.foldl_cons, ih _ (Srt.put_up totM hu) ?_]
      · rw [Srt.mem_put totM hu]
        simp only [List.mem_cons]
        constructor
        · rintro ((h | h) | h)
          · exact .inr (.inl h)
          · exact .inl h.1
          · exact .inr (.inr h)
        · rintro (h | h | h)
          · refine .inl (.inr ⟨h, fun he => ?_⟩)
            have : x.id = y.id := congrArg Prod.snd he
            rw [List.map_append, List.nodup_append] at hn
            exact hn.2.2 _ (List.mem_map.2 ⟨x, h, rfl⟩) _ (by simp) this
          · exact .inl (.inl h)
          · exact .inr h
      · have hp : (Srt.put Mk.key ltM m y).Perm (m ++ [y]) := by
          have ht : ¬ Srt.thr Mk.key ltM m y.key = true := fun h => by
            obtain ⟨z, hz, he⟩ := (Srt.thr_iff totM hu).1 h
            have : z.id = y.id := congrArg Prod.snd he
            rw [List.map_append, List.nodup_append] at hn
            exact hn.2.2 _ (List.mem_map.2 ⟨z, hz, rfl⟩) _ (by simp) this
          rw [Srt.put, if_neg ht]
          exact Srt.ins_perm.trans (List.perm_append_comm (l₁ := [y]))
        have := (hp.append_right l).map Mk.id
        rw [List.append_assoc] at this
        exact this.nodup_iff.2 hn
  have := key l [] .nil (by simpa using hd) x
  simpa [ordM] using this
theorem ordM_eq {l m : List Mk} (hd : (l.map Mk.id).Nodup) (hu : Srt.Up Mk.key ltM m) (hm : ∀ x, x ∈ m ↔ x ∈ l) : m = ordM l :=
  Srt.ext totM hu ordM_up fun x => by rw [hm, ordM_mem hd]
theorem mksOf_ids {l : List Ch} {w : List Wt} {n : Nat} (h : okLd l) : ((mksOf l w n).map Mk.id).Nodup := by
  have h1 := (Srt.chn_up (lt := ltN) Srt.totNat).1 h.2.2.1
  unfold Srt.Up at h1
  rw [mksOf, List.map_map, List.Nodup, List.pairwise_map]
  exact (h1.sublist List.filter_sublist).imp fun hlt he => by
    change _ < _ at hlt
    change Ch.id _ = Ch.id _ at he
    omega
theorem sorted_ord {l : List Mk} {els : List (List C)} (hd : (l.map Mk.id).Nodup) (hp : els.Perm (mks l)) (hs : els.Pairwise fun x y => ¬ mkO (Mk.dec y) (Mk.dec x) < 0) : els = mks (ordM l) := by
  have h1 : mks (els.map Mk.dec) = els := by
    simp only [mks, List.map_map]
    refine (List.map_congr_left fun x hx => ?_).trans (List.map_id _)
    obtain ⟨a, _, rfl⟩ := List.mem_map.1 (hp.mem_iff.1 hx)
    show (Mk.dec a.enc).enc = a.enc
    rw [Mk.dec_enc]
  have h2 : (els.map Mk.dec).Perm l := by
    have := hp.map Mk.dec
    rwa [show (mks l).map Mk.dec = l from dmks_mks l] at this
  have h3 : els.map Mk.dec = ordM l := by
    refine ordM_eq hd ?_ fun x => h2.mem_iff
    have hd2 : ((els.map Mk.dec).map Mk.id).Nodup := ((h2.map Mk.id).nodup_iff).2 hd
    unfold Srt.Up
    rw [List.Nodup, List.pairwise_map] at hd2
    have hs2 : (els.map Mk.dec).Pairwise fun x y => ¬ mkO y x < 0 := by rw [List.pairwise_map]; exact hs
    refine hd2.imp₂ ?_ hs2
    intro a b hne hno
    rw [mkO_neg] at hno
    unfold ltM Mk.key at *
    simp only at *
    omega
  rw [← h3, h1]
@[go_sem] def order_r (l : List Ch) (w : List Wt) (n : Nat) : D := .tup [.sl (u64s (ordL l w n).1), .int .i64 (ordL l w n).2]
@[go_sem] abbrev n_order : FuncId := 48
@[go_sem] def order_T : Tab := [(102, sp_lcheck), (120, sp_croom), (121, sp_one), (122, sp_weigh), (123, sp_misnan), (124, sp_mnan)]
theorem order_T_ok : TabOk Tryz.prog order_T := (TabOk.cons sp_lcheck_ok (TabOk.cons sp_croom_ok (TabOk.cons sp_one_ok (TabOk.cons sp_weigh_ok (TabOk.cons sp_misnan_ok (TabOk.cons sp_mnan_ok TabOk.nil))))))
set_option maxRecDepth 8000 in
set_option maxHeartbeats 1000000 in
theorem order_ok (l : List Ch) (w : List Wt) (n : Nat)  : PureFn Tryz.prog 48 [.sl (chs l), .sl (wts w), .c (.int .u64 (n : Int))] (order_r l w n) := by
  refine .of (ac48 order_T_ok (Nat.le_of_ble_eq_true rfl) ?_)
  simp -implicitDefEqProofs only [cdA, go_sem, Go.Proofs.Tryz.f48, reduceIte, reduceCtorEq, Nat.reduceEqDiff, Nat.reduceAdd, Nat.reduceLeDiff, Nat.reduceSub, Nat.reduceMul, Nat.reduceLT, Nat.reduceShiftRight, Nat.reduceMod, Int.reduceLE, Int.reduceLT, Int.reduceToNat, cdB, List.cons.injEq, true_and, and_true]
  have hcz : chkL l = 0 ↔ okLd l := by unfold chkL; split <;> simp_all
  rw [hcz]
  refine ⟨fun hok hl => ?_, fun hno => by rw [ordL, chkL, if_neg hno, if_neg hno]; exact ⟨rfl, rfl⟩⟩
  have hl32 := hok.1
  refine SWp.nilvec 9 2 149 rfl (Nat.zero_le _) ?_
  refine SWp.loop (ι := { i : Nat // i ≤ l.length }) (fun i => ⟨[(1, .sl (wts w)), (2, .int .u64 n), (9, .vec 0 (mksOf (l.take i.1) w n).length), (23, .sl (chs l)), (24, .int .i64 l.length), (25, .int .i64 i.1)], [(0, .vec true 2 149 (mks (mksOf (l.take i.1) w n)))], 1⟩) (fun i => l.length - i.1) ⟨0, by omega⟩ ?_ ?_
  · simp [go_sem, mksOf, mks]
  · rintro ⟨i, hi⟩
    refine awp_sound order_T_ok.toS lv48 _ _ _ rfl ?_
    simp -implicitDefEqProofs only [cdA, go_sem, reduceIte, reduceCtorEq, Nat.reduceEqDiff, Nat.reduceAdd, Nat.reduceLeDiff, Nat.reduceSub, Nat.reduceMul, Nat.reduceLT, Nat.reduceShiftRight, Nat.reduceMod, Int.reduceLE, Int.reduceLT, Int.reduceToNat, cdB, List.cons.injEq, true_and, and_true]
    refine ⟨fun h => ⟨by omega, ?_⟩, fun h => ?_⟩
    · have hi' : i < l.length := by omega
      have hc0 : okCh (l.getD i default) := hok.2.1 _ (mem_getD.2 ⟨i, hi', rfl⟩)
      have hst := mksOf_succ (w := w) (n := n) hi'
      have hr0 := roomC_0.2 hc0
      have hone : (oneS (l.getD i default) (weighS w (l.getD i default).id) (fofi n)).2 = 0 := by rw [oneS, if_pos hc0]
      have hlen := mksOf_len (l := l.take i) (w := w) (n := n)
      rw [List.length_take] at hlen
      generalize hc : l.getD i default = c at *
      have hskip : elig n c ≠ true → mksOf (l.take (i + 1)) w n = mksOf (l.take i) w n := fun he => by rw [hst, if_neg he, List.append_nil]
      refine ⟨fun _ => ⟨fun hop => ⟨fun hr => ?_, fun hr => ?_⟩, fun hop => ?_⟩, fun hr => absurd hr0 hr⟩
      · exact ⟨⟨i + 1, hi'⟩, by dsimp only; omega, by dsimp only; rw [hskip (by rw [elig]; simp; intro _; omega)]; exact ⟨⟨rfl, i64_in _ (by omega)⟩, rfl⟩⟩
      · refine ADraw.run us48_10 order_T_ok follows_mixed (by kernel_rfl) (by kernel_rfl) ?_
        simp -implicitDefEqProofs only [cdA, go_sem, reduceIte, reduceCtorEq, Nat.reduceEqDiff, Nat.reduceAdd, Nat.reduceLeDiff, Nat.reduceSub, Nat.reduceMul, Nat.reduceLT, Nat.reduceShiftRight, Nat.reduceMod, Int.reduceLE, Int.reduceLT, Int.reduceToNat, cdB, List.cons.injEq, true_and, and_true]
        have hwm : ∀ a b, wts [⟨a, b⟩] = mks [⟨a, b⟩] := fun _ _ => rfl
        have hel : elig n c = true := by
          simp at hop
          rw [elig, hop]; simp; omega
        rw [if_pos hel] at hst
        have hfin : mks (mksOf (l.take i) w n) ++ wts [⟨c.id, (oneS c (weighS w c.id) (fofi n)).1⟩] = mks (mksOf (l.take (i + 1)) w n) := by rw [hwm, mks_app, hst]; rfl
        have hnext : ∀ s, s = (oneS c (weighS w c.id) (fofi n)).1 → ((mksOf (l.take i) w n).length + 1) * 16 ≤ 140737488355328 ∧ ∃ i_1 : { i : Nat // i ≤ l.length }, l.length - i_1.val < l.length - i ∧ (D.vec 0 ((mksOf (l.take i) w n).length + 1) = D.vec 0 (mksOf (l.take i_1.val) w n).length ∧ IntKind.i64.wrap ((i : Int) + 1) = i_1.val) ∧ Ob.vec true 2 149 (mks (mksOf (l.take i) w n) ++ wts [⟨c.id, s⟩]) = Ob.vec true 2 149 (mks (mksOf (l.take i_1.val) w n)) := fun s hs => by
          refine ⟨by omega, ⟨i + 1, hi'⟩, by dsimp only; omega, ⟨by dsimp only; rw [hst]; simp, i64_in _ (by omega)⟩, ?_⟩
          rw [hs, hfin]
        refine ⟨fun _ => ⟨fun hnan => hnext _ ?_, fun _ => hnext _ rfl⟩, fun h => absurd hone h⟩
        have e1 : (oneS c (weighS w c.id) (fofi n)).1 = far .mul (weighS w c.id) (far .quo (far .sub (fofi (roomC c).1) (fofi n)) (fofi (sumsC c).2.1)) := by rw [oneS, if_pos hc0]
        rw [e1] at hnan ⊢
        exact (far_canon hnan).symm
      · exact ⟨⟨i + 1, hi'⟩, by dsimp only; omega, by dsimp only; rw [hskip (by rw [elig]; simp at hop; simp [hop])]; exact ⟨⟨rfl, i64_in _ (by omega)⟩, rfl⟩⟩
    · have hi' : i = l.length := by omega
      subst hi'
      rw [List.take_length]
      have hlen := mksOf_len (l := l) (w := w) (n := n)
      have hdec : ∀ a : Mk, Mk.dec a.enc = a := Mk.dec_enc
      have hin : ∀ x ∈ mks (mksOf l w n), ∃ a : Mk, x = a.enc := fun x hx => by
        obtain ⟨a, _, rfl⟩ := List.mem_map.1 hx
        exact ⟨a, rfl⟩
      refine ACall.sort Tryz.sortMk (k := 2) (by decide) Tryz.isAgg149 Tryz.sizeOf149 rfl (cf := fun x y => mkO (Mk.dec x) (Mk.dec y)) rfl (by simp) (by omega) ?_ ?_ ?_ ?_ ?_
      · intro x hx y hy
        obtain ⟨a, rfl⟩ := hin x hx
        obtain ⟨b, rfl⟩ := hin y hy
        rw [hdec, hdec]
        exact mkcmp_ok a b
      · intro x hx
        rw [mkO_neg]; exact totM.irr _
      · intro x _ y _ z _
        rw [mkO_neg, mkO_neg, mkO_neg]; exact totM.tr
      · intro x _ y _ z _
        rw [mkO_neg, mkO_neg, mkO_neg]
        unfold ltM; omega
      · intro els' hp hs
        have he := sorted_ord (mksOf_ids hok) hp hs
        subst he
        have hol : (ordM (mksOf l w n)).length = (mksOf l w n).length := by
          have := hp.length_eq
          rwa [mks_length, mks_length] at this
        clear hp hs
        generalize hM : ordM (mksOf l w n) = M at *
        rw [← hol]
        have hml : M.length ≤ 32 := by omega
        simp -implicitDefEqProofs only [cdA, go_sem, reduceIte, reduceCtorEq, Nat.reduceEqDiff, Nat.reduceAdd, Nat.reduceLeDiff, Nat.reduceSub, Nat.reduceMul, Nat.reduceLT, Nat.reduceShiftRight, Nat.reduceMod, Int.reduceLE, Int.reduceLT, Int.reduceToNat, cdB, List.cons.injEq, true_and, and_true]
        refine fun _ => ⟨⟨by omega, by omega⟩, fun _ => ?_⟩
        have hz : List.replicate M.length [C.int .u64 0] = u64s (List.replicate M.length 0) := by simp [u64s]
        rw [hz]
        refine SWp.loop (ι := { x : Nat × List Nat // x.1 ≤ M.length ∧ x.2.length = M.length ∧ ∀ j, j < x.1 → x.2.getD j default = (M.getD j default).id }) (fun x => ⟨[(15, .vec 1 M.length), (77, .vec 0 M.length), (78, .int .i64 M.length), (79, .int .i64 x.1.1)],
          [(1, .vec true 1 26 (u64s x.1.2)), (0, .vec true 2 149 (mks M))], 2⟩) (fun x => M.length - x.1.1) ⟨(0, List.replicate M.length 0), by simp⟩ ?_ ?_
        · simp [go_sem]
        · rintro ⟨⟨j, X⟩, hj, hX, hall⟩
          dsimp only at hj hX hall
          refine awp_sound order_T_ok.toS lv48 _ _ _ rfl ?_
          simp -implicitDefEqProofs only [cdA, go_sem, reduceIte, reduceCtorEq, Nat.reduceEqDiff, Nat.reduceAdd, Nat.reduceLeDiff, Nat.reduceSub, Nat.reduceMul, Nat.reduceLT, Nat.reduceShiftRight, Nat.reduceMod, Int.reduceLE, Int.reduceLT, Int.reduceToNat, cdB, List.cons.injEq, true_and, and_true]
          refine ⟨fun h2 => ⟨by omega, by omega, by omega, ⟨hX.symm, by omega⟩, ⟨(j + 1, X.set j (M.getD j default).id), by dsimp only; omega, by dsimp only; rw [List.length_set]; exact hX, fun q hq => ?_⟩, by dsimp only; omega, i64_in _ (by omega), rfl⟩, fun h2 => ?_⟩
          · dsimp only at hq ⊢
            rw [Srt.set_getD (by omega)]
            by_cases hqj : q = j
            · rw [if_pos hqj, hqj]
            · rw [if_neg hqj]; exact hall q (by omega)
          · have hXm : X = M.map Mk.id := by
              apply List.ext_getElem (by simpa using hX)
              intro q h3 h4
              have := hall q (by omega)
              rw [getD_lt h3, getD_lt (by omega)] at this
              simpa using this
            rw [ordL, if_pos hok, hM, hXm]
            exact ⟨⟨by simp, _, _, _, rfl⟩, rfl⟩
def sp_order : List D → Option (Prop × D × Fr)
  | [.c (.sl z157), .c (.sl z158), .c (.int .u64 z159)] => some (z157 = chs (dchs z157) ∧ z158 = wts (dwts z158) ∧ z159 = (z159.toNat : Int), order_r (dchs z157) (dwts z158) z159.toNat, [])
  | _ => none
attribute [go_sem] sp_order
theorem sp_order_ok : ∀ rs p r fr, sp_order rs = some (p, r, fr) → p → FnOk Tryz.prog 48 rs r fr := by
  intro rs p r fr h hp
  unfold sp_order at h
  split at h <;> cases h
  obtain ⟨hc0, hc1, hc2⟩ := hp
  rename_i z157 z158 z159
  obtain ⟨z157, rfl⟩ : ∃ m, z157 = chs m := ⟨_, hc0⟩
  obtain ⟨z158, rfl⟩ : ∃ m, z158 = wts m := ⟨_, hc1⟩
  obtain ⟨z159, rfl⟩ : ∃ m : Nat, z159 = m := ⟨_, hc2⟩
  simp only [Int.toNat_natCast, dchs_chs, dwts_wts]
  exact order_ok z157 z158 z159
def firstL (l : List Ch) (w : List Wt) (n : Nat) : Nat × Int := if (ordL l w n).2 = 0 then (match (ordL l w n).1 with
  | [] => (0, 5)
  | x :: _ => (x, 0)) else (0, (ordL l w n).2)
@[go_sem] def first_r (l : List Ch) (w : List Wt) (n : Nat) : D := .tup [.int .u64 ((firstL l w n).1 : Int), .int .i64 (firstL l w n).2]
@[go_sem] abbrev n_first : FuncId := 12
@[go_sem] def first_T : Tab := [(48, sp_order)]
theorem first_T_ok : TabOk Tryz.prog first_T := (TabOk.cons sp_order_ok TabOk.nil)
set_option maxRecDepth 8000 in
set_option maxHeartbeats 1000000 in
theorem first_ok (l : List Ch) (w : List Wt) (n : Nat)  : PureFn Tryz.prog 12 [.sl (chs l), .sl (wts w), .c (.int .u64 (n : Int))] (first_r l w n) := by
  refine .of (ac12 first_T_ok (Nat.le_of_ble_eq_true rfl) ?_)
  simp -implicitDefEqProofs only [cdA, go_sem, Go.Proofs.Tryz.f12, reduceIte, reduceCtorEq, Nat.reduceEqDiff, Nat.reduceAdd, Nat.reduceLeDiff, Nat.reduceSub, Nat.reduceMul, Nat.reduceLT, Nat.reduceShiftRight, Nat.reduceMod, Int.reduceLE, Int.reduceLT, Int.reduceToNat, cdB, List.cons.injEq, true_and, and_true]
  unfold firstL
  refine ⟨fun h hl => ?_, fun h => by rw [if_neg h]; exact ⟨rfl, rfl⟩⟩
  rw [if_pos h]
  cases (ordL l w n).1 with
  | nil => exact ⟨fun _ => ⟨rfl, rfl⟩, fun h => absurd rfl h⟩
  | cons x t => exact ⟨fun h => absurd h (by rw [List.length_cons]; omega), fun _ => ⟨by rw [List.length_cons]; omega, rfl, rfl⟩⟩
def sp_first : List D → Option (Prop × D × Fr)
  | [.c (.sl z163), .c (.sl z164), .c (.int .u64 z165)] => some (z163 = chs (dchs z163) ∧ z164 = wts (dwts z164) ∧ z165 = (z165.toNat : Int), first_r (dchs z163) (dwts z164) z165.toNat, [])
  | _ => none
attribute [go_sem] sp_first
theorem sp_first_ok : ∀ rs p r fr, sp_first rs = some (p, r, fr) → p → FnOk Tryz.prog 12 rs r fr := by
  intro rs p r fr h hp
  unfold sp_first at h
  split at h <;> cases h
  obtain ⟨hc0, hc1, hc2⟩ := hp
  rename_i z163 z164 z165
  obtain ⟨z163, rfl⟩ : ∃ m, z163 = chs m := ⟨_, hc0⟩
  obtain ⟨z164, rfl⟩ : ∃ m, z164 = wts m := ⟨_, hc1⟩
  obtain ⟨z165, rfl⟩ : ∃ m : Nat, z165 = m := ⟨_, hc2⟩
  simp only [Int.toNat_natCast, dchs_chs, dwts_wts]
  exact first_ok z163 z164 z165
end Dm
namespace Dm
open Go Go.Proofs Go.IntWalk
structure Wl where
  c : List Ch
  w : List Wt
  i : List Iv
  p : List Py
  f : Fd
  next : Nat
  tick : Nat
deriving DecidableEq, Inhabited
@[go_sem] def Wl.enc (e : Wl) : List C := [.sl (chs e.c), .sl (wts e.w), .sl (ivs e.i), .sl (pys e.p), .int .u64 (e.f.next : Int), .sl (evs e.f.l), .int .u64 (e.next : Int), .int .u64 (e.tick : Int)]
def Wl.dec : List C → Wl
  | [.sl z282, .sl z283, .sl z284, .sl z285, .int .u64 z287, .sl z288, .int .u64 z289, .int .u64 z290] => (⟨(dchs z282), (dwts z283), (divs z284), (dpys z285), (⟨z287.toNat, (devs z288)⟩ : Fd), z289.toNat, z290.toNat⟩ : Wl)
  | _ => default
def wls (l : List Wl) : List (List C) := l.map Wl.enc
def dwls (l : List (List C)) : List Wl := l.map Wl.dec
@[simp, go_sem] theorem wls_length (l : List Wl) : (wls l).length = l.length := by simp [wls]
@[go_sem] theorem wls_get (l : List Wl) (i : Nat) : (wls l).getD i [.sl [], .sl [], .sl [], .sl [], .int .u64 0, .sl [], .int .u64 0, .int .u64 0] = (l.getD i default).enc := by
  simp only [wls, List.getD_eq_getElem?_getD, List.getElem?_map]
  cases l[i]? <;> rfl
@[go_sem] theorem wls_wide (l : List Wl) : Wide 8 (wls l) = True := by
  simp [Wide, wls, Wl.enc]
theorem Wl.dec_enc (e : Wl) : Wl.dec e.enc = e := by
  simp [Wl.enc, Wl.dec, dchs_chs, devs_evs, divs_ivs, dpys_pys, dwts_wts]
@[go_sem] theorem dwls_wls (l : List Wl) : dwls (wls l) = l := by
  simp only [dwls, wls, List.map_map]
  exact List.map_id'' (fun e => Wl.dec_enc e) l
@[go_sem] theorem wls_app (a b : List Wl) : wls a ++ wls b = wls (a ++ b) := by simp [wls]
@[go_sem] theorem wls_drop (l : List Wl) (k : Nat) : (wls l).drop k = wls (l.drop k) := by simp [wls]
@[go_sem] theorem wls_take (l : List Wl) (k : Nat) : (wls l).take k = wls (l.take k) := by simp [wls]
@[go_sem] theorem wls_one (z291 : List Ch) (z292 : List Wt) (z293 : List Iv) (z294 : List Py) (z295 : Int) (z296 : List Ev) (z297 : Int) (z298 : Int) (hz295 : 0 ≤ z295) (hz297 : 0 ≤ z297) (hz298 : 0 ≤ z298) : [[C.sl (chs z291), C.sl (wts z292), C.sl (ivs z293), C.sl (pys z294), C.int .u64 z295, C.sl (evs z296), C.int .u64 z297, C.int .u64 z298]] = wls [⟨z291, z292, z293, z294, ⟨z295.toNat, z296⟩, z297.toNat, z298.toNat⟩] := by simp [wls, Wl.enc, Int.toNat_of_nonneg hz295, Int.toNat_of_nonneg hz297, Int.toNat_of_nonneg hz298]
@[go_sem] theorem wls_set (l : List Wl) (i : Nat) (z291 : List Ch) (z292 : List Wt) (z293 : List Iv) (z294 : List Py) (z295 : Int) (z296 : List Ev) (z297 : Int) (z298 : Int) (hz295 : 0 ≤ z295) (hz297 : 0 ≤ z297) (hz298 : 0 ≤ z298) : (wls l).set i [C.sl (chs z291), C.sl (wts z292), C.sl (ivs z293), C.sl (pys z294), C.int .u64 z295, C.sl (evs z296), C.int .u64 z297, C.int .u64 z298] = wls (l.set i ⟨z291, z292, z293, z294, ⟨z295.toNat, z296⟩, z297.toNat, z298.toNat⟩) := by simp [wls, List.map_set, Wl.enc, Int.toNat_of_nonneg hz295, Int.toNat_of_nonneg hz297, Int.toNat_of_nonneg hz298]
@[go_sem] theorem wls_cons (l : List Wl) (z291 : List Ch) (z292 : List Wt) (z293 : List Iv) (z294 : List Py) (z295 : Int) (z296 : List Ev) (z297 : Int) (z298 : Int) (hz295 : 0 ≤ z295) (hz297 : 0 ≤ z297) (hz298 : 0 ≤ z298) : [C.sl (chs z291), C.sl (wts z292), C.sl (ivs z293), C.sl (pys z294), C.int .u64 z295, C.sl (evs z296), C.int .u64 z297, C.int .u64 z298] :: wls l = wls (⟨z291, z292, z293, z294, ⟨z295.toNat, z296⟩, z297.toNat, z298.toNat⟩ :: l) := by simp [wls, Wl.enc, Int.toNat_of_nonneg hz295, Int.toNat_of_nonneg hz297, Int.toNat_of_nonneg hz298]
@[go_sem] theorem Wl.eta {e : Wl} : (⟨e.c, e.w, e.i, e.p, e.f, e.next, e.tick⟩ : Wl) = e := rfl
def okW (w : Wl) : Prop := okLd w.c ∧ okIv w.i ∧ okFd w.f ∧ w.w.length ≤ 32 ∧ w.next ≠ 0 ∧ w.next ≤ MM ∧ (0 < w.p.length → (w.p.getD (w.p.length - 1) default).id < w.next) ∧ agrL w.p w.c = (true, 0)
instance (w : Wl) : Decidable (okW w) := by unfold okW; infer_instance
def chkW (w : Wl) : Int := if okW w then 0 else 1
theorem chkW_0 {w : Wl} : chkW w = 0 ↔ okW w := by unfold chkW; split <;> rename_i h <;> simp only [h] <;> decide
@[go_sem] def wnew_r  : D := .agg [.sl (chs []), .sl (wts []), .sl (ivs []), .sl (pys []), .int .u64 1, .sl (evs []), .int .u64 1, .int .u64 0]
@[go_sem] abbrev n_wnew : FuncId := 40
@[go_sem] def wnew_T : Tab := [(116, sp_fnew)]
theorem wnew_T_ok : TabOk Tryz.prog wnew_T := (TabOk.cons sp_fnew_ok TabOk.nil)
set_option maxRecDepth 8000 in
set_option maxHeartbeats 1000000 in
theorem wnew_ok   : PureFn Tryz.prog 40 [] (wnew_r ) := by
  refine .of (ac40 wnew_T_ok (Nat.le_of_ble_eq_true rfl) ?_)
  simp -implicitDefEqProofs only [cdA, go_sem, Go.Proofs.Tryz.f40, reduceIte, reduceCtorEq, Nat.reduceEqDiff, Nat.reduceAdd, Nat.reduceLeDiff, Nat.reduceSub, Nat.reduceMul, Nat.reduceLT, Nat.reduceShiftRight, Nat.reduceMod, Int.reduceLE, Int.reduceLT, Int.reduceToNat, cdB, List.cons.injEq, true_and, and_true]
  exact ⟨rfl, rfl, rfl, rfl⟩
def sp_wnew : List D → Option (Prop × D × Fr)
  | [] => some (True, wnew_r , [])
  | _ => none
attribute [go_sem] sp_wnew
theorem sp_wnew_ok : ∀ rs p r fr, sp_wnew rs = some (p, r, fr) → p → FnOk Tryz.prog 40 rs r fr := by
  intro rs p r fr h hp
  unfold sp_wnew at h
  split at h <;> cases h
  exact wnew_ok 
@[go_sem] def wcheck_r (w : Wl) : D := .int .i64 (chkW w)
@[go_sem] abbrev n_wcheck : FuncId := 37
@[go_sem] def wcheck_T : Tab := [(102, sp_lcheck), (103, sp_icheck), (104, sp_fcheck), (105, sp_pagree)]
theorem wcheck_T_ok : TabOk Tryz.prog wcheck_T := (TabOk.cons sp_lcheck_ok (TabOk.cons sp_icheck_ok (TabOk.cons sp_fcheck_ok (TabOk.cons sp_pagree_ok TabOk.nil))))
set_option maxRecDepth 8000 in
set_option maxHeartbeats 1000000 in
theorem wcheck_ok (w : Wl) (h : w.f.next ≤ 18446744073709551615) : PureFn Tryz.prog 37 [.agg [.sl (chs w.c), .sl (wts w.w), .sl (ivs w.i), .sl (pys w.p), .c (.int .u64 (w.f.next : Int)), .sl (evs w.f.l), .c (.int .u64 (w.next : Int)), .c (.int .u64 (w.tick : Int))]] (wcheck_r w) := by
  refine .of (ac37 wcheck_T_ok (Nat.le_of_ble_eq_true rfl) ?_)
  simp -implicitDefEqProofs only [cdA, go_sem, Go.Proofs.Tryz.f37, reduceIte, reduceCtorEq, Nat.reduceEqDiff, Nat.reduceAdd, Nat.reduceLeDiff, Nat.reduceSub, Nat.reduceMul, Nat.reduceLT, Nat.reduceShiftRight, Nat.reduceMod, Int.reduceLE, Int.reduceLT, Int.reduceToNat, cdB, List.cons.injEq, true_and, and_true]
  have hbad : ¬ okW w → 1 = chkW w := fun h => by rw [chkW, if_neg h]
  have hl0 : chkL w.c = 0 ↔ okLd w.c := by unfold chkL; split <;> rename_i h <;> simp only [h] <;> decide
  have hi0 : chkI w.i = 0 ↔ okIv w.i := by unfold chkI; split <;> rename_i h <;> simp only [h] <;> decide
  refine ⟨fun h1 => ⟨fun h2 => ⟨h, fun h3 _ => ⟨fun h4 => ⟨fun h5 => ⟨fun h6 => hbad fun ho => ?_, fun h6 _ => ?_⟩, fun h5 => hbad fun ho => ?_⟩, fun h4 => hbad fun ho => ?_⟩, fun h3 => hbad fun ho => h3 (chkF_0.2 ho.2.2.1)⟩, fun h2 => hbad fun ho => h2 (hi0.2 ho.2.1)⟩, fun h1 => hbad fun ho => h1 (hl0.2 ho.1)⟩
  rotate_left 1
  · refine ADraw.run us37_4 wcheck_T_ok follows_mixed (by kernel_rfl) (by kernel_rfl) ?_
    simp -implicitDefEqProofs only [cdA, go_sem, reduceIte, reduceCtorEq, Nat.reduceEqDiff, Nat.reduceAdd, Nat.reduceLeDiff, Nat.reduceSub, Nat.reduceMul, Nat.reduceLT, Nat.reduceShiftRight, Nat.reduceMod, Int.reduceLE, Int.reduceLT, Int.reduceToNat, cdB, List.cons.injEq, true_and, and_true]
    have hL := hl0.1 h1
    have hh : ∀ c ∈ w.c, c.holds.length ≤ 1000000 := fun c hc => by have := (hL.2.1 c hc).2.2.1; omega
    have hfin : (0 < w.p.length → (w.p.getD (w.p.length - 1) default).id < w.next) → ((agrL w.p w.c).2 = 0 → ((agrL w.p w.c).1 = true → 0 = chkW w) ∧ ((agrL w.p w.c).1 = false → 1 = chkW w)) ∧ (¬(agrL w.p w.c).2 = 0 → 1 = chkW w) := fun h7 =>
      ⟨fun h8 => ⟨fun h9 => by
        rw [chkW, if_pos (show okW w from ⟨hL, hi0.1 h2, chkF_0.1 h3, by omega, by omega, by unfold MM; omega, h7, Prod.ext h9 h8⟩)], fun h9 => hbad fun ho => by have := ho.2.2.2.2.2.2.2; rw [this] at h9; cases h9⟩,
        fun h8 => hbad fun ho => by have := ho.2.2.2.2.2.2.2; rw [this] at h8; exact h8 rfl⟩
    refine ⟨fun h7 => ?_, fun h7 => ⟨hh, hfin fun h => absurd h (by omega)⟩⟩
    rw [i64_in _ (by omega), show ((w.p.length : Int) - 1).toNat = w.p.length - 1 by omega]
    refine ⟨by omega, fun h8 => hbad fun ho => ?_, fun h8 => ⟨hh, hfin fun _ => by omega⟩⟩
    have := ho.2.2.2.2.2.2.1 (by omega); omega
  · have := ho.2.2.2.2.1; omega
  · have := ho.2.2.2.1; omega
  · have := ho.2.2.2.2.2.1; unfold MM at this; omega
@[go_sem] def wcheck_p (w : Wl) : Prop := (w.f.next ≤ 18446744073709551615)
def sp_wcheck : List D → Option (Prop × D × Fr)
  | [.agg [.c (.sl z300), .c (.sl z301), .c (.sl z302), .c (.sl z303), .c (.int .u64 z305), .c (.sl z306), .c (.int .u64 z307), .c (.int .u64 z308)]] => some (z300 = chs (dchs z300) ∧ z301 = wts (dwts z301) ∧ z302 = ivs (divs z302) ∧ z303 = pys (dpys z303) ∧ z305 = (z305.toNat : Int) ∧ z306 = evs (devs z306) ∧ z307 = (z307.toNat : Int) ∧ z308 = (z308.toNat : Int) ∧ wcheck_p (⟨(dchs z300), (dwts z301), (divs z302), (dpys z303), (⟨z305.toNat, (devs z306)⟩ : Fd), z307.toNat, z308.toNat⟩ : Wl), wcheck_r (⟨(dchs z300), (dwts z301), (divs z302), (dpys z303), (⟨z305.toNat, (devs z306)⟩ : Fd), z307.toNat, z308.toNat⟩ : Wl), [])
  | _ => none
attribute [go_sem] sp_wcheck
theorem sp_wcheck_ok : ∀ rs p r fr, sp_wcheck rs = some (p, r, fr) → p → FnOk Tryz.prog 37 rs r fr := by
  intro rs p r fr h hp
  unfold sp_wcheck at h
  split at h <;> cases h
  obtain ⟨hc0, hc1, hc2, hc3, hc4, hc5, hc6, hc7, hp⟩ := hp
  rename_i z300 z301 z302 z303 z305 z306 z307 z308
  obtain ⟨z300, rfl⟩ : ∃ m, z300 = chs m := ⟨_, hc0⟩
  obtain ⟨z301, rfl⟩ : ∃ m, z301 = wts m := ⟨_, hc1⟩
  obtain ⟨z302, rfl⟩ : ∃ m, z302 = ivs m := ⟨_, hc2⟩
  obtain ⟨z303, rfl⟩ : ∃ m, z303 = pys m := ⟨_, hc3⟩
  obtain ⟨z305, rfl⟩ : ∃ m : Nat, z305 = m := ⟨_, hc4⟩
  obtain ⟨z306, rfl⟩ : ∃ m, z306 = evs m := ⟨_, hc5⟩
  obtain ⟨z307, rfl⟩ : ∃ m : Nat, z307 = m := ⟨_, hc6⟩
  obtain ⟨z308, rfl⟩ : ∃ m : Nat, z308 = m := ⟨_, hc7⟩
  simp only [Int.toNat_natCast, dchs_chs, devs_evs, divs_ivs, dpys_pys, dwts_wts]
  simp only [Int.toNat_natCast, dchs_chs, devs_evs, divs_ivs, dpys_pys, dwts_wts, wcheck_p] at hp
  exact wcheck_ok ⟨z300, z301, z302, z303, ⟨z305, z306⟩, z307, z308⟩ hp
end Dm
namespace Dm
open Go Go.Proofs Go.IntWalk
@[go_sem] def hclone_r (l : List Hd) : D := .sl (hds l)
@[go_sem] abbrev n_hclone : FuncId := 153
@[go_sem] def hclone_T : Tab := []
theorem hclone_T_ok : TabOk Tryz.prog hclone_T := TabOk.nil
set_option maxRecDepth 8000 in
set_option maxHeartbeats 1000000 in
theorem hclone_ok (l : List Hd) (h : l.length ≤ 1000000) : PureFn Tryz.prog 153 [.sl (hds l)] (hclone_r l) := by
  refine .of (ac153 hclone_T_ok (Nat.le_of_ble_eq_true rfl) ?_)
  simp -implicitDefEqProofs only [cdA, go_sem, Go.Proofs.Tryz.f153, reduceIte, reduceCtorEq, Nat.reduceEqDiff, Nat.reduceAdd, Nat.reduceLeDiff, Nat.reduceSub, Nat.reduceMul, Nat.reduceLT, Nat.reduceShiftRight, Nat.reduceMod, Int.reduceLE, Int.reduceLT, Int.reduceToNat, cdB, List.cons.injEq, true_and, and_true]
  exact fun b hb => ⟨hb, fun _ => ⟨by omega, _, _, _, rfl⟩⟩
@[go_sem] def hclone_p (l : List Hd) : Prop := (l.length ≤ 1000000)
def sp_hclone : List D → Option (Prop × D × Fr)
  | [.c (.sl z169)] => some (z169 = hds (dhds z169) ∧ hclone_p (dhds z169), hclone_r (dhds z169), [])
  | _ => none
attribute [go_sem] sp_hclone
theorem sp_hclone_ok : ∀ rs p r fr, sp_hclone rs = some (p, r, fr) → p → FnOk Tryz.prog 153 rs r fr := by
  intro rs p r fr h hp
  unfold sp_hclone at h
  split at h <;> cases h
  obtain ⟨hc0, hp⟩ := hp
  rename_i z169
  obtain ⟨z169, rfl⟩ : ∃ m, z169 = hds m := ⟨_, hc0⟩
  simp only [dhds_hds]
  simp only [dhds_hds, hclone_p] at hp
  exact hclone_ok z169 hp
@[go_sem] def own_r (c : Ch) : D := .agg [.int .u64 c.id, .int .u64 c.loc, .int .u64 c.rem, .int .u64 c.res, .int .u64 c.most, .sl (hds c.holds), .bool c.op]
@[go_sem] abbrev n_own : FuncId := 64
@[go_sem] def own_T : Tab := [(153, sp_hclone)]
theorem own_T_ok : TabOk Tryz.prog own_T := (TabOk.cons sp_hclone_ok TabOk.nil)
set_option maxRecDepth 8000 in
set_option maxHeartbeats 1000000 in
theorem own_ok (c : Ch) (h : c.holds.length ≤ 1000000) : PureFn Tryz.prog 64 [.agg [.c (.int .u64 (c.id : Int)), .c (.int .u64 (c.loc : Int)), .c (.int .u64 (c.rem : Int)), .c (.int .u64 (c.res : Int)), .c (.int .u64 (c.most : Int)), .sl (hds c.holds), .c (.bool c.op)]] (own_r c) := by
  refine .of (ac64 own_T_ok (Nat.le_of_ble_eq_true rfl) ?_)
  simp -implicitDefEqProofs only [cdA, go_sem, Go.Proofs.Tryz.f64, reduceIte, reduceCtorEq, Nat.reduceEqDiff, Nat.reduceAdd, Nat.reduceLeDiff, Nat.reduceSub, Nat.reduceMul, Nat.reduceLT, Nat.reduceShiftRight, Nat.reduceMod, Int.reduceLE, Int.reduceLT, Int.reduceToNat, cdB, List.cons.injEq, true_and, and_true]
  exact h
@[go_sem] def own_p (c : Ch) : Prop := (c.holds.length ≤ 1000000)
def sp_own : List D → Option (Prop × D × Fr)
  | [.agg [.c (.int .u64 z171), .c (.int .u64 z172), .c (.int .u64 z173), .c (.int .u64 z174), .c (.int .u64 z175), .c (.sl z176), .c (.bool z177)]] => some (z171 = (z171.toNat : Int) ∧ z172 = (z172.toNat : Int) ∧ z173 = (z173.toNat : Int) ∧ z174 = (z174.toNat : Int) ∧ z175 = (z175.toNat : Int) ∧ z176 = hds (dhds z176) ∧ own_p (⟨z171.toNat, z172.toNat, z173.toNat, z174.toNat, z175.toNat, (dhds z176), z177⟩ : Ch), own_r (⟨z171.toNat, z172.toNat, z173.toNat, z174.toNat, z175.toNat, (dhds z176), z177⟩ : Ch), [])
  | _ => none
attribute [go_sem] sp_own
theorem sp_own_ok : ∀ rs p r fr, sp_own rs = some (p, r, fr) → p → FnOk Tryz.prog 64 rs r fr := by
  intro rs p r fr h hp
  unfold sp_own at h
  split at h <;> cases h
  obtain ⟨hc0, hc1, hc2, hc3, hc4, hc5, hp⟩ := hp
  rename_i z171 z172 z173 z174 z175 z176 z177
  obtain ⟨z171, rfl⟩ : ∃ m : Nat, z171 = m := ⟨_, hc0⟩
  obtain ⟨z172, rfl⟩ : ∃ m : Nat, z172 = m := ⟨_, hc1⟩
  obtain ⟨z173, rfl⟩ : ∃ m : Nat, z173 = m := ⟨_, hc2⟩
  obtain ⟨z174, rfl⟩ : ∃ m : Nat, z174 = m := ⟨_, hc3⟩
  obtain ⟨z175, rfl⟩ : ∃ m : Nat, z175 = m := ⟨_, hc4⟩
  obtain ⟨z176, rfl⟩ : ∃ m, z176 = hds m := ⟨_, hc5⟩
  simp only [Int.toNat_natCast, dhds_hds]
  simp only [Int.toNat_natCast, dhds_hds, own_p] at hp
  exact own_ok ⟨z171, z172, z173, z174, z175, z176, z177⟩ hp
def placeL (l : List Ch) (id : Nat) : Int × Int := if okLd l then (if Srt.thr Ch.id ltN l id = true then ((Srt.pos Ch.id ltN l id : Nat), 0) else (0, 5)) else (0, 1)
@[go_sem] def place_r (l : List Ch) (id : Nat) : D := .tup [.int .i64 (placeL l id).1, .int .i64 (placeL l id).2]
@[go_sem] abbrev n_place : FuncId := 63
@[go_sem] def place_T : Tab := [(102, sp_lcheck), (144, sp_lorder)]
theorem place_T_ok : TabOk Tryz.prog place_T := (TabOk.cons sp_lcheck_ok (TabOk.cons sp_lorder_ok TabOk.nil))
set_option maxRecDepth 8000 in
set_option maxHeartbeats 1000000 in
theorem place_ok (l : List Ch) (id : Nat)  : PureFn Tryz.prog 63 [.sl (chs l), .c (.int .u64 (id : Int))] (place_r l id) := by
  refine .of (ac63 place_T_ok (Nat.le_of_ble_eq_true rfl) ?_)
  simp -implicitDefEqProofs only [cdA, go_sem, Go.Proofs.Tryz.f63, reduceIte, reduceCtorEq, Nat.reduceEqDiff, Nat.reduceAdd, Nat.reduceLeDiff, Nat.reduceSub, Nat.reduceMul, Nat.reduceLT, Nat.reduceShiftRight, Nat.reduceMod, Int.reduceLE, Int.reduceLT, Int.reduceToNat, cdB, List.cons.injEq, true_and, and_true]
  have hcz : chkL l = 0 ↔ okLd l := by unfold chkL; split <;> simp_all
  refine ⟨fun hok0 => ?_, fun hno0 => by
    have hno : ¬ okLd l := fun h => hno0 (hcz.2 h)
    rw [placeL, chkL, if_neg hno, if_neg hno]; exact ⟨rfl, rfl⟩⟩
  have hok := hcz.1 hok0
  have hu : Srt.Up Ch.id ltN l := (Srt.chn_up (lt := ltN) Srt.totNat).1 hok.2.2.1
  have hl32 := hok.1
  refine ac152 place_T_ok (Nat.le_of_ble_eq_true rfl) ?_
  simp -implicitDefEqProofs only [cdA, go_sem, Go.Proofs.Tryz.f152, reduceIte, reduceCtorEq, Nat.reduceEqDiff, Nat.reduceAdd, Nat.reduceLeDiff, Nat.reduceSub, Nat.reduceMul, Nat.reduceLT, Nat.reduceShiftRight, Nat.reduceMod, Int.reduceLE, Int.reduceLT, Int.reduceToNat, cdB, List.cons.injEq, true_and, and_true]
  refine fun _ => SWp.loop (ι := { x : Nat × Nat // x.1 ≤ x.2 ∧ x.2 ≤ l.length ∧ (∀ k, k < x.1 → (l.getD k default).id < id) ∧ ∀ k, x.2 ≤ k → k < l.length → ¬ (l.getD k default).id < id }) (fun x => ⟨[(0, .sl (chs l)), (1, .int .u64 id), (2, .fn (.func 144) [] []), (8, .int .i64 l.length), (9, .int .i64 x.1.1), (10, .int .i64 x.1.2)], [], 0⟩) (fun x => x.1.2 - x.1.1) ⟨(0, l.length), by simp, by simp, fun k hk => absurd hk (by simp), fun k h1 h2 => absurd h1 (by simpa using h2)⟩ ?_ ?_
  · simp [go_sem]
  · rintro ⟨⟨i, j⟩, hij, hj, hlo, hup⟩
    dsimp only at hij hj hlo hup
    refine awp_sound place_T_ok.toS lv152 _ _ _ rfl ?_
    simp -implicitDefEqProofs only [cdA, go_sem, reduceIte, reduceCtorEq, Nat.reduceEqDiff, Nat.reduceAdd, Nat.reduceLeDiff, Nat.reduceSub, Nat.reduceMul, Nat.reduceLT, Nat.reduceShiftRight, Nat.reduceMod, Int.reduceLE, Int.reduceLT, Int.reduceToNat, cdB, List.cons.injEq, true_and, and_true]
    rw [mid_eq hij hj ‹_›]
    refine ⟨fun h4 => ?_, fun h4 => ?_⟩
    · have hm : (i + j) / 2 < l.length := by omega
      rw [cmpS_neg, Int.toNat_natCast]
      refine ⟨by omega, fun h5 => ⟨⟨((i + j) / 2 + 1, j), by dsimp only; omega, hj, fun k hk => ?_, hup⟩, by dsimp only; omega, i64_in _ (by omega), rfl⟩, fun h5 => ⟨⟨(i, (i + j) / 2), by dsimp only; omega, by dsimp only; omega, hlo, fun k hk1 hk2 => ?_⟩, by dsimp only; omega, rfl, rfl⟩⟩
      · dsimp only at hk
        by_cases hkm : k = (i + j) / 2
        · rw [hkm]; omega
        · have := Srt.up_get.1 hu k _ (by omega) hm
          simp only [ltN] at this; omega
      · dsimp only at hk1
        by_cases hkm : k = (i + j) / 2
        · rw [hkm]; omega
        · have := Srt.up_get.1 hu ((i + j) / 2) k (by omega) hk2
          simp only [ltN] at this; omega
    · have hp : Srt.pos Ch.id ltN l id = i := Srt.pos_eq (by omega) hlo (fun h => hup i (by omega) h)
      rw [placeL, if_pos hok, Srt.thr, hp, cmpS_0]
      refine ⟨fun h5 => ⟨by omega, fun h6 => ?_, fun h6 => ?_⟩, fun h5 => ?_⟩
      · rw [if_pos (decide_eq_true ⟨by omega, by omega⟩)]; exact ⟨rfl, rfl⟩
      · rw [if_neg (by rw [decide_eq_true_iff]; omega)]; exact ⟨rfl, rfl⟩
      · rw [if_neg (by rw [decide_eq_true_iff]; omega)]; exact ⟨rfl, rfl⟩
def sp_place : List D → Option (Prop × D × Fr)
  | [.c (.sl z178), .c (.int .u64 z179)] => some (z178 = chs (dchs z178) ∧ z179 = (z179.toNat : Int), place_r (dchs z178) z179.toNat, [])
  | _ => none
attribute [go_sem] sp_place
theorem sp_place_ok : ∀ rs p r fr, sp_place rs = some (p, r, fr) → p → FnOk Tryz.prog 63 rs r fr := by
  intro rs p r fr h hp
  unfold sp_place at h
  split at h <;> cases h
  obtain ⟨hc0, hc1⟩ := hp
  rename_i z178 z179
  obtain ⟨z178, rfl⟩ : ∃ m, z178 = chs m := ⟨_, hc0⟩
  obtain ⟨z179, rfl⟩ : ∃ m : Nat, z179 = m := ⟨_, hc1⟩
  simp only [Int.toNat_natCast, dchs_chs]
  exact place_ok z178 z179
end Dm
namespace Dm
open Go Go.Proofs Go.IntWalk
@[go_sem] def cclone_r (l : List Ch) : D := .vec 0 l.length
@[go_sem] def cclone_fr (l : List Ch) : Fr := [(7, 50, true, chs l)]
@[go_sem] abbrev n_cclone : FuncId := 204
@[go_sem] def cclone_T : Tab := []
theorem cclone_T_ok : TabOk Tryz.prog cclone_T := TabOk.nil
set_option maxRecDepth 8000 in
set_option maxHeartbeats 1000000 in
theorem cclone_ok (l : List Ch) (h : l.length ≤ 1000000) : FreshFn Tryz.prog 204 [.sl (chs l)] (cclone_r l) (cclone_fr l) := by
  refine .of (ac204 cclone_T_ok (Nat.le_of_ble_eq_true rfl) ?_)
  simp -implicitDefEqProofs only [cdA, go_sem, Go.Proofs.Tryz.f204, reduceIte, reduceCtorEq, Nat.reduceEqDiff, Nat.reduceAdd, Nat.reduceLeDiff, Nat.reduceSub, Nat.reduceMul, Nat.reduceLT, Nat.reduceShiftRight, Nat.reduceMod, Int.reduceLE, Int.reduceLT, Int.reduceToNat, cdB, List.cons.injEq, true_and, and_true]
  refine fun b hb => ⟨fun h => ?_, fun h => ?_⟩
  · exact ⟨[none], by simp [go_sem, hb h], by cases l <;> simp_all [go_sem, chs]⟩
  · exact ⟨by omega, [some 0], by simp [go_sem]⟩
@[go_sem] def cclone_p (l : List Ch) : Prop := (l.length ≤ 1000000)
def sp_cclone : List D → Option (Prop × D × Fr)
  | [.c (.sl z182)] => some (z182 = chs (dchs z182) ∧ cclone_p (dchs z182), cclone_r (dchs z182), cclone_fr (dchs z182))
  | _ => none
attribute [go_sem] sp_cclone
theorem sp_cclone_ok : ∀ rs p r fr, sp_cclone rs = some (p, r, fr) → p → FnOk Tryz.prog 204 rs r fr := by
  intro rs p r fr h hp
  unfold sp_cclone at h
  split at h <;> cases h
  obtain ⟨hc0, hp⟩ := hp
  rename_i z182
  obtain ⟨z182, rfl⟩ : ∃ m, z182 = chs m := ⟨_, hc0⟩
  simp only [dchs_chs]
  simp only [dchs_chs, cclone_p] at hp
  exact (show FnOk _ _ _ _ _ from And.intro rfl (cclone_ok z182 hp))
def whereI (l : List Ch) (h : Nat) : Nat × Int := if okLd l then (match nlk h (hm 0 l) with
  | some i => ((l.getD i.toNat default).id, 0)
  | none => (0, 5)) else (0, 1)
theorem hm_range : ∀ {l : List Ch} {s : Int} {k : Nat} {a : Int}, (k, a) ∈ hm s l → s ≤ a ∧ a < s + l.length
  | [], _, _, _, h => by cases h
  | c :: l, s, k, a, h => by
    rw [hm, List.mem_append] at h
    simp only [List.length_cons]
    rcases h with h | h
    · obtain ⟨x, _, hx⟩ := List.mem_map.1 h
      cases hx
      omega
    · have := hm_range h
      omega
@[go_sem] def lwhere_r (l : List Ch) (h : Nat) : D := .tup [.int .u64 ((whereI l h).1 : Int), .int .i64 (whereI l h).2]
@[go_sem] abbrev n_lwhere : FuncId := 14
@[go_sem] def lwhere_T : Tab := [(57, sp_lread)]
theorem lwhere_T_ok : TabOk Tryz.prog lwhere_T := (TabOk.cons sp_lread_ok TabOk.nil)
set_option maxRecDepth 8000 in
set_option maxHeartbeats 1000000 in
theorem lwhere_ok (l : List Ch) (h : Nat)  : PureFn Tryz.prog 14 [.sl (chs l), .c (.int .u64 (h : Int))] (lwhere_r l h) := by
  refine .of (ac14 lwhere_T_ok (Nat.le_of_ble_eq_true rfl) ?_)
  simp -implicitDefEqProofs only [cdA, go_sem, Go.Proofs.Tryz.f14, reduceIte, reduceCtorEq, Nat.reduceEqDiff, Nat.reduceAdd, Nat.reduceLeDiff, Nat.reduceSub, Nat.reduceMul, Nat.reduceLT, Nat.reduceShiftRight, Nat.reduceMod, Int.reduceLE, Int.reduceLT, Int.reduceToNat, cdB, List.cons.injEq, true_and, and_true]
  by_cases hok : okLd l
  · have e1 : readL l = (hm 0 l, 0) := by rw [readL, if_pos hok]
    rw [e1, whereI, if_pos hok]
    refine ⟨fun _ => ⟨fun a ha => ?_, fun hn => ?_⟩, fun h => absurd rfl h⟩
    · have hnd : ((hm 0 l).map (·.1)).Nodup := by rw [hm_keys]; exact hok.2.2.2.1
      have := hm_range ((nlk_some hnd).1 ha)
      rw [ha]
      exact ⟨⟨by omega, by omega⟩, rfl, rfl⟩
    · rw [hn]; exact ⟨rfl, rfl⟩
  · have e1 : readL l = ([], 1) := by rw [readL, if_neg hok]
    rw [e1, whereI, if_neg hok]
    exact ⟨fun h => absurd h (by decide), fun _ => ⟨rfl, rfl⟩⟩
def sp_lwhere : List D → Option (Prop × D × Fr)
  | [.c (.sl z183), .c (.int .u64 z184)] => some (z183 = chs (dchs z183) ∧ z184 = (z184.toNat : Int), lwhere_r (dchs z183) z184.toNat, [])
  | _ => none
attribute [go_sem] sp_lwhere
theorem sp_lwhere_ok : ∀ rs p r fr, sp_lwhere rs = some (p, r, fr) → p → FnOk Tryz.prog 14 rs r fr := by
  intro rs p r fr h hp
  unfold sp_lwhere at h
  split at h <;> cases h
  obtain ⟨hc0, hc1⟩ := hp
  rename_i z183 z184
  obtain ⟨z183, rfl⟩ : ∃ m, z183 = chs m := ⟨_, hc0⟩
  obtain ⟨z184, rfl⟩ : ∃ m : Nat, z184 = m := ⟨_, hc1⟩
  simp only [Int.toNat_natCast, dchs_chs]
  exact lwhere_ok z183 z184
@[go_sem] def owns_r (l : List Ch) : D := .vec 0 l.length
@[go_sem] def owns_fr (l : List Ch) : Fr := [(7, 50, true, chs l)]
@[go_sem] abbrev n_owns : FuncId := 185
@[go_sem] def owns_T : Tab := [(204, sp_cclone), (64, sp_own)]
theorem owns_T_ok : TabOk Tryz.prog owns_T := (TabOk.cons sp_cclone_ok (TabOk.cons sp_own_ok TabOk.nil))
set_option maxRecDepth 8000 in
set_option maxHeartbeats 1000000 in
theorem owns_ok (l : List Ch) (h : l.length ≤ 1000000 ∧ ∀ c ∈ l, c.holds.length ≤ 1000000) : FreshFn Tryz.prog 185 [.sl (chs l)] (owns_r l) (owns_fr l) := by
  refine .of (ac185 owns_T_ok (Nat.le_of_ble_eq_true rfl) ?_)
  simp -implicitDefEqProofs only [cdA, go_sem, Go.Proofs.Tryz.f185, reduceIte, reduceCtorEq, Nat.reduceEqDiff, Nat.reduceAdd, Nat.reduceLeDiff, Nat.reduceSub, Nat.reduceMul, Nat.reduceLT, Nat.reduceShiftRight, Nat.reduceMod, Int.reduceLE, Int.reduceLT, Int.reduceToNat, cdB, List.cons.injEq, true_and, and_true]
  refine ⟨h.1, fun _ => SWp.loop (ι := { i : Nat // i ≤ l.length }) (fun i => ⟨[(0, .vec 0 l.length), (7, .vec 0 l.length), (8, .int .i64 l.length), (9, .int .i64 i.1)], [(0, .vec true 7 50 (chs l))], 1⟩) (fun i => l.length - i.1) ⟨0, by omega⟩ ?_ ?_⟩
  · simp [go_sem]
  · rintro ⟨i, hi⟩
    refine awp_sound owns_T_ok.toS lv185 _ _ _ rfl ?_
    simp -implicitDefEqProofs only [cdA, go_sem, reduceIte, reduceCtorEq, Nat.reduceEqDiff, Nat.reduceAdd, Nat.reduceLeDiff, Nat.reduceSub, Nat.reduceMul, Nat.reduceLT, Nat.reduceShiftRight, Nat.reduceMod, Int.reduceLE, Int.reduceLT, Int.reduceToNat, cdB, List.cons.injEq, true_and, and_true]
    refine ⟨fun h1 => ?_, fun _ => ⟨[some 0], by simp [go_sem]⟩⟩
    have hi' : i < l.length := by omega
    have hself : l.set i (l.getD i default) = l := by
      rw [getD_lt hi']; exact List.set_getElem_self hi'
    exact ⟨by omega, hi', h.2 _ (mem_getD.2 ⟨i, hi', rfl⟩), by omega, hi', ⟨i + 1, hi'⟩, by dsimp only; omega, i64_in _ (by omega), by rw [hself]⟩
@[go_sem] def owns_p (l : List Ch) : Prop := (l.length ≤ 1000000 ∧ ∀ c ∈ l, c.holds.length ≤ 1000000)
def sp_owns : List D → Option (Prop × D × Fr)
  | [.c (.sl z185)] => some (z185 = chs (dchs z185) ∧ owns_p (dchs z185), owns_r (dchs z185), owns_fr (dchs z185))
  | _ => none
attribute [go_sem] sp_owns
theorem sp_owns_ok : ∀ rs p r fr, sp_owns rs = some (p, r, fr) → p → FnOk Tryz.prog 185 rs r fr := by
  intro rs p r fr h hp
  unfold sp_owns at h
  split at h <;> cases h
  obtain ⟨hc0, hp⟩ := hp
  rename_i z185
  obtain ⟨z185, rfl⟩ : ∃ m, z185 = chs m := ⟨_, hc0⟩
  simp only [dchs_chs]
  simp only [dchs_chs, owns_p] at hp
  exact (show FnOk _ _ _ _ _ from And.intro rfl (owns_ok z185 hp))
end Dm
