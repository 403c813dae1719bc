import Derived.Test.YthcioaapafehhaaGreatDoorP4
import Derived.Below
import Derived.ChangeOld
import Derived.LoopNIn
import Derived.Shelf.Abstract
set_option linter.unusedSimpArgs false
set_option linter.unusedVariables false
set_option linter.unusedSectionVars false
namespace Dm
open Go
end Dm
namespace Dm
open Go
theorem bvA {a b : Nat} (ha : a < 18446744073709551616) (hb : b < 18446744073709551616) : (BitVec.ofInt 64 (a : Int) &&& BitVec.ofInt 64 (b : Int)).toNat = a &&& b := by
  rw [BitVec.ofInt_natCast, BitVec.ofInt_natCast, BitVec.toNat_and, BitVec.toNat_ofNat, BitVec.toNat_ofNat, Nat.mod_eq_of_lt (by simpa using ha), Nat.mod_eq_of_lt (by simpa using hb)]
theorem wN {n : Nat} (h : n < 18446744073709551616) : IntKind.u64.wrap (n : Int) = n := by
  rw [IntKind.wrap_u64]; omega
theorem iandN {a b : Nat} (ha : a < 18446744073709551616) (hb : b < 18446744073709551616) : iand .u64 (a : Int) (b : Int) = ((a &&& b : Nat) : Int) := by
  have h : (BitVec.ofInt IntKind.u64.bits (a : Int) &&& BitVec.ofInt IntKind.u64.bits (b : Int)).toNat = a &&& b := bvA ha hb
  rw [iand, h]
  exact wN (Nat.lt_of_le_of_lt Nat.and_le_left ha)
end Dm
namespace Dm
open Go
def mrk (D : Nat) : Deferred := { target := .collected D, args := #[] }
section
variable {δ : List Deferred} {P : Program} {T : Tab} {g g' g'' : G} {s s' s'' : St} {a : Act} {w w' w'' : World} {n N : Nat}

def SWm (P : Program) (n N : Nat) (c : Code) (Q : Exit → St → Prop) (s : St) : Prop :=
  ∀ (δ : List Deferred) (g : G) (a : Act) (w : World), Rel δ g s a w → a.tmps.size = n →
    c.wp P (fun e a' w' => ∃ (Ds : List Nat) (g' : G) (s' : St), Q e s' ∧ Rel (Ds.map mrk ++ δ) g' s' a' w' ∧ (∀ D ∈ Ds, w.heap.size ≤ D ∧ w'.heap[D]? = some (.deferred (some []))) ∧ Ds.Nodup ∧ a'.tmps.size = n ∧ StepN N g s w g' s' w') a w

theorem SWm.of {c : Code} {Q : Exit → St → Prop} (h : SWp P n N c Q s) : SWm P n N c Q s := fun δ g a w hr hn =>
  wp_mono (h δ g a w hr hn) fun e a' w' ⟨g', s', h1, h2, h3, h4⟩ => ⟨[], g', s', h1, h2, fun D hD => (by cases hD), List.nodup_nil, h3, h4⟩

theorem StepN.other (h : StepN N g s w g' s' w') (ho : RelO g s w) {D : Nat} {o : Obj} (hD : w.heap[D]? = some o) (hc : plainOb o = false) : w'.heap[D]? = some o := by
  rw [h.same D (Array.getElem?_eq_some_iff.1 hD).1 fun hown => ?_, hD]
  obtain ⟨o', h1, h2⟩ := Own.cel ho hown
  rw [h1] at hD
  cases hD
  rw [hc] at h2
  cases h2

theorem SWm.seq {x y : Code} {Q : Exit → St → Prop} (h : SWm P n N x (sq (SWm P n N y Q) Q) s) : SWm P n N (.seq x y) Q s := fun δ g a w hr hn => by
  refine wp_seq (wp_mono (h δ g a w hr hn) fun e a' w' ⟨Ds, g', s', h1, h2, h3, h4, h5, h6⟩ => ?_)
  cases e with
  | normal =>
    refine wp_mono (h1 _ g' a' w' h2 h5) fun e a'' w'' ⟨Ds', g'', s'', h7, h8, h9, h10, h11, h12⟩ => ?_
    refine ⟨Ds' ++ Ds, g'', s'', h7, by simpa using h8, fun D hD => ?_, ?_, h11, h6.trans h12⟩
    · rcases List.mem_append.1 hD with hD | hD
      · exact ⟨Nat.le_trans h6.size (h9 D hD).1, (h9 D hD).2⟩
      · exact ⟨(h3 D hD).1, h12.other h2.o (h3 D hD).2 rfl⟩
    · refine List.nodup_append.2 ⟨h10, h4, fun D hD D' hD' e => ?_⟩
      subst e
      have := (h9 D hD).1
      have := (Array.getElem?_eq_some_iff.1 (h3 D hD').2).1
      omega
  | _ => exact ⟨Ds, g', s', h1, h2, h3, h4, h5, h6⟩

theorem SWm.block {id : Nat} {c : Code} {Q : Exit → St → Prop} (h : SWm P n N c (bl id Q) s) : SWm P n N (.block id c) Q s := fun δ g a w hr hn => by
  refine wp_block (wp_mono (h δ g a w hr hn) fun e a' w' ⟨Ds, g', s', h1, h2, h3, h4, h5, h6⟩ => ?_)
  cases e with
  | exit i =>
    simp only [bl] at h1
    simp only [Exit.inBlock]
    split
    · rename_i hi
      rw [if_pos hi] at h1
      exact ⟨Ds, g', s', h1, h2, h3, h4, h5, h6⟩
    · rename_i hi
      rw [if_neg hi] at h1
      exact ⟨Ds, g', s', h1, h2, h3, h4, h5, h6⟩
  | _ => exact ⟨Ds, g', s', h1, h2, h3, h4, h5, h6⟩

theorem SWm.mono {c : Code} {Q Q' : Exit → St → Prop} (h : SWm P n N c Q s) (hq : ∀ e s', Q e s' → Q' e s') : SWm P n N c Q' s :=
  fun δ g a w hr hn => wp_mono (h δ g a w hr hn) fun e a' w' ⟨Ds, g', s', h1, h2⟩ => ⟨Ds, g', s', hq e s' h1, h2⟩

theorem Ext.grown (h : Ext w w') : w.grownBy w' none := ⟨h.2.2.os, h.2.2.tape, h.2.2.out, h.1, fun k hk _ => h.2.1 k hk⟩

theorem RelO.grown {row : Option Nat} (ho : RelO g s w) (hg : w.grownBy w' row) (hrow : ∀ r, row = some r → ∃ o : Obj, w.heap[r]? = some o ∧ plainOb o = false) : RelO g s w' := by
  have hcel : ∀ b, Cel w b → w'.heap[b]? = w.heap[b]? := fun b hb => hg.block b hb.lt fun e => by
    obtain ⟨o, h1, h2⟩ := hrow b e.symm
    obtain ⟨o', h3, h4⟩ := hb
    rw [h3] at h1
    cases h1
    rw [h4] at h2
    cases h2
  have hk : Keeps g.I w w' := fun b hb => hcel b (ho.cel b hb)
  exact ⟨fun id o h => (ho.ok id o h).mono hk (.refl g) (fun b hb => hcel b (Own.cel ho ⟨id, o, h, hb⟩)) rfl, ho.apart, ho.fresh, fun b hb => ⟨Nat.lt_of_lt_of_le (ho.imm b hb).1 hg.size, (ho.imm b hb).2⟩, ho.cel.same fun b hb => hcel b (ho.cel b hb)⟩
theorem Rel.grown {row : Option Nat} (hr : Rel δ g s a w) (hg : w.grownBy w' row) (hrow : ∀ r, row = some r → ∃ o : Obj, w.heap[r]? = some o ∧ plainOb o = false) : Rel δ g s a w' := by
  have hk : Keeps g.I w w' := fun b hb => hg.block b (hr.o.cel b hb).lt fun e => by
    obtain ⟨o, h1, h2⟩ := hrow b e.symm
    obtain ⟨o', h3, h4⟩ := hr.o.cel b hb
    rw [h3] at h1
    cases h1
    rw [h4] at h2
    cases h2
  exact ⟨fun t d ht => let ⟨v, h1, h2⟩ := hr.tm t d ht; ⟨v, h1, h2.mono hk (.refl g)⟩, hr.defers, hr.o.grown hg hrow⟩
theorem StepN.grown {row : Option Nat} (h : StepN N g s w g' s' w') (hg : w'.grownBy w'' row) (hd : w'.drawn ≤ w''.drawn) (hrow : ∀ r, row = some r → w.heap.size ≤ r) : StepN N g s w g' s' w'' :=
  ⟨h.ρ, h.κ, h.I, Nat.le_trans h.size hg.size, fun b hb ho => (hg.block b (Nat.lt_of_lt_of_le hb h.size) fun e => by have := hrow b e.symm; omega).trans (h.same b hb ho), h.own, h.imm, h.env.trans ⟨hg.os, hg.output, hg.tape, hd⟩⟩

theorem StepN.less {M : Nat} (hNM : N ≤ M) (h : StepN M g s w g' s' w') : StepN N g s w g' s' w' :=
  ⟨fun id b hi => h.ρ id b (by omega), fun id a l c hi => h.κ id a l c (by omega), h.I, h.size, h.same, h.own, h.imm, h.env⟩
def SeqG (P : Program) (gf : FuncId) (lb : Array Value) (I : Nat → Prop) {m : Nat} (ys : Fin m → List D) (order : List (Fin m)) (w : World) : Prop :=
  ∀ (l : Nat) (J Jx : List (Fin m) → World → Prop) (W : World), RowKit.Below w.heap.size w W → (∀ pre A B, J pre A → Ext A B → J pre B) → (∀ pre A B, Jx pre A → Ext A B → Jx pre B) →
    (∀ pre x (vs : Array Value) W1, J pre W1 → pre.length < m → vs.size = (ys x).length → (∀ (j : Nat) (v : Value) (d : D), vs[j]? = some v → (ys x)[j]? = some d → VRel (G0 I) W1 v d) → YieldAt Fence.wide 3 P l vs W1 fun e W' =>
      (e = .returned (.bool true) ∧ J (pre ++ [x]) W' ∧ ∀ b, I b → Cel W1 b → W'.heap[b]? = W1.heap[b]?) ∨ (e = .returned (.bool false) ∧ Jx (pre ++ [x]) W' ∧ ∀ b, I b → Cel W1 b → W'.heap[b]? = W1.heap[b]?)) →
    J [] W → CallsIn Fence.wide 4 P gf (#[.func (.yield l) #[] #[]] ++ lb) W fun e W' => (∃ v, e = .returned v) ∧ ((∃ xs, xs = order ∧ J xs W') ∨ (∃ pre, pre <+: order ∧ Jx pre W'))
def IterOk (P : Program) (gf : FuncId) (caps : List D) {m : Nat} (ys : Fin m → List D) (order : List (Fin m)) : Prop :=
  (∀ (args : Array Value) (w : World), (callFunc gf args).run P w = .ok (.enter gf args) w) ∧ ∀ (I : Nat → Prop) (w : World) (lb : Array Value), Cels I w → lb.size = caps.length → (∀ (i : Nat) (v : Value) (d : D), lb[i]? = some v → caps[i]? = some d → VRel (G0 I) w v d) →
    SeqG P gf lb I ys order w

def setps : List Nat → List D → List (Nat × D) → List (Nat × D)
  | p :: l, d :: ds, tm => setps l ds ((p, d) :: tm)
  | _, _, tm => tm
def asg (A : St → Prop) : Exit → St → Prop
  | .normal, s => A s
  | _, _ => False
def rfp (Q : Exit → St → Prop) (s : St) (A : St → Prop) (pfx : Prop) : Exit → St → Prop
  | .normal, s' => A s'
  | .ret, s' => pfx → Q .ret ⟨s.tm, s'.os, s'.nx⟩
  | .exit i, s' => pfx → Q (.exit i) ⟨s.tm, s'.os, s'.nx⟩
  | _, _ => False

theorem setps_rel {δ' : List Deferred} {w : World} : ∀ (ps : List Nat) (ds : List D) (vs : List Value) {tm : List (Nat × D)} {os : List (Nat × Ob)} {nx : Nat} {a : Act}, Rel δ' g ⟨tm, os, nx⟩ a w → vs.length = ds.length → (∀ p ∈ ps, p < a.tmps.size) →
    (∀ (j : Nat) (v : Value) (d : D), vs[j]? = some v → ds[j]? = some d → VRel g w v d) →
    Rel δ' g ⟨setps ps ds tm, os, nx⟩ { tmps := (ps.zip vs).foldl (fun t (p, v) => t.setIfInBounds p v) a.tmps, defers := a.defers } w ∧ ((ps.zip vs).foldl (fun t (p, v) => t.setIfInBounds p v) a.tmps).size = a.tmps.size
  | [], ds, vs, tm, os, nx, a, hr, _, _, _ => ⟨by simpa [setps] using hr, rfl⟩
  | p :: ps, [], [], tm, os, nx, a, hr, _, _, _ => ⟨by simpa [setps] using hr, rfl⟩
  | p :: ps, d :: ds, v :: vs, tm, os, nx, a, hr, hl, hp, hv => by
    have h1 : Rel δ' g ⟨(p, d) :: tm, os, nx⟩ (a.put (some p) v) w := hr.put (some p) (hv 0 v d rfl rfl) (fun x hx => by cases hx; exact hp p (by simp))
    have h2 := setps_rel ps ds vs (a := a.put (some p) v) h1 (by simpa using hl) (fun q hq => by rw [put_size]; exact hp q (by simp [hq])) (fun j u e hu he => hv (j + 1) u e (by simpa using hu) (by simpa using he))
    refine ⟨?_, ?_⟩
    · have := h2.1
      simpa [setps, Act.put] using this
    · have := h2.2
      rw [put_size] at this
      simpa [Act.put] using this

def exOf : Code → Option Exit
  | .ret => some .ret
  | .exit i => some (.exit i)
  | _ => none

def D.pure1 : D → Bool
  | .c _ => true
  | .rp _ => true
  | _ => false
theorem VRel.toG0 {v : Value} {d : D} (hd : d.pure1 = true) (h : VRel g w v d) : VRel (G0 g.I) w v d := by
  cases d <;> simp only [D.pure1, Bool.false_eq_true] at hd
  case c x => cases h with | c _ _ h => exact .c _ _ h
  case rp cs => cases h with | rp b off _ vs hI hc => exact .rp b off cs vs hI hc

theorem SWm.rangeFunc (hT : TabS P T) (lv : Nat → Option (List Nat)) {gop : Operand} {ps : Array Tmp} {assign body : Code} {Q : Exit → St → Prop} {gf : FuncId} {caps : List D} (hev : s.ev gop = .fn (.func gf) [] caps) (hcaps : ∀ d ∈ caps, d.pure1 = true)
    {m : Nat} {ys : Fin m → List D} {order : List (Fin m)} (hit : IterOk P gf caps ys order) (O : List (Fin m) → List (Nat × Ob)) (ok : List (Fin m) → Prop)
    (hps : ∀ x, (ys x).length = ps.size) (hpn : ∀ p ∈ ps.toList, p < n) (hN : N ≤ s.nx)
    (ha1 : plainC assign = true) (ha2 : dstOk n assign = true) (hb1 : plainC body = true) (hb2 : dstOk n body = true)
    (h0 : ok [] ∧ Sub s.nx s ⟨s.tm, O [], s.nx⟩)
    (hround : ∀ pre x, ok pre → pre.length < m → awp P T n s.nx lv assign (asg fun s1 =>
      awp P T n s.nx lv body (rfp Q s (fun s' => ok (pre ++ [x]) ∧ Sub s.nx ⟨s.tm, s'.os, s'.nx⟩ ⟨s.tm, O (pre ++ [x]), s.nx⟩) (pre ++ [x] <+: order)) s1) ⟨setps ps.toList (ys x) s.tm, O pre, s.nx⟩)
    (hdone : ok order → Q .normal ⟨s.tm, O order, s.nx⟩) : SWm P n N (.rangeFunc gop ps assign body) Q s := by
  intro δ g a w hr hn
  have hg := hr.ev gop
  rw [hev] at hg
  generalize hgv : a.eval gop = gv at hg
  cases hg with
  | fn _ fiv lb _ _ h1 h2 h3 h4 =>
  have hfi : fiv = #[] := by
    apply Array.eq_empty_of_size_eq_zero
    simpa using h1
  subst hfi
  obtain ⟨hent, hit⟩ := hit
  have hseq := hit g.I w lb hr.o.cel h2 fun i v d hv hd => (h4 i v d hv hd).toG0 (hcaps d (List.mem_of_getElem? hd))
  have hst0 : ∃ g1, Rel δ g1 ⟨s.tm, O [], s.nx⟩ a w ∧ StepN s.nx g s w g1 ⟨s.tm, O [], s.nx⟩ w := ⟨_, hr.sub h0.2⟩
  refine wpIn_wide (n := 5).1 (wpIn_rangeFunc fun fn _ => ?_)
  obtain ⟨rec, hrec⟩ : ∃ rec : LoopState → Option Code → Loop, rec = fun st pe => { state := st, pending := pe, fn, tmps := a.tmps, params := ps, assign, body, defers := w.heap.size } := ⟨_, rfl⟩
  obtain ⟨W1, hW1⟩ : ∃ W1, (w.alloc (.deferred (some []))).alloc (.loop (rec .ready none)) = W1 := ⟨_, rfl⟩
  have hL1 : W1.heap[w.heap.size + 1]? = some (.loop (rec .ready none)) := by
    rw [← hW1]; have := World.alloc_heap_new (w.alloc (.deferred (some []))) (.loop (rec .ready none)); rwa [World.size_alloc] at this
  have hD1 : W1.heap[w.heap.size]? = some (.deferred (some [])) := by
    rw [← hW1]; exact (RowKit.Below.heap_alloc _ _ _ (by simp)).trans (World.alloc_heap_new w _)
  have hb1' : RowKit.Below w.heap.size w W1 := by
    rw [← hW1]; exact ((RowKit.Below.refl _ w).alloc (Nat.le_refl _) _).alloc (by simp) _
  -- what holds between two rounds
  obtain ⟨J, hJ⟩ : ∃ J : List (Fin m) → World → Prop, J = fun pre W => ok pre ∧ ∃ g1, Rel δ g1 ⟨s.tm, O pre, s.nx⟩ a W ∧ StepN s.nx g s w g1 ⟨s.tm, O pre, s.nx⟩ W := ⟨_, rfl⟩
  obtain ⟨Jx, hJx⟩ : ∃ Jx : Code → List (Fin m) → World → Prop, Jx = fun c pre W => ∃ (e : Exit) (s' : St) (g1 : G), exOf c = some e ∧ (pre <+: order → Q e ⟨s.tm, s'.os, s'.nx⟩) ∧ Rel δ g1 ⟨s.tm, s'.os, s'.nx⟩ a W ∧ StepN s.nx g s w g1 ⟨s.tm, s'.os, s'.nx⟩ W := ⟨_, rfl⟩
  have hJe : ∀ pre W W', J pre W → Ext W W' → J pre W' := by
    intro pre W W' h he
    rw [hJ] at h ⊢
    obtain ⟨h5, g1, h6, h7⟩ := h
    exact ⟨h5, g1, h6.grown he.grown fun r e => (by cases e), h7.grown he.grown he.2.2.drw fun r e => by cases e⟩
  have hJxe : ∀ c pre W W', Jx c pre W → Ext W W' → Jx c pre W' := by
    intro c pre W W' h he
    rw [hJx] at h ⊢
    obtain ⟨e, s', g1, h5, h8, h6, h7⟩ := h
    exact ⟨e, s', g1, h5, h8, h6.grown he.grown fun r e => (by cases e), h7.grown he.grown he.2.2.drw fun r e => by cases e⟩
  have hJg : ∀ pre W W' row, J pre W → W.grownBy W' row → W.drawn ≤ W'.drawn → (∀ r, row = some r → w.heap.size ≤ r ∧ ∃ o : Obj, W.heap[r]? = some o ∧ plainOb o = false) → J pre W' := by
    intro pre W W' row h hgr hdr hrow
    rw [hJ] at h ⊢
    obtain ⟨h5, g1, h6, h7⟩ := h
    exact ⟨h5, g1, h6.grown hgr fun r e => (hrow r e).2, h7.grown hgr hdr fun r e => (hrow r e).1⟩
  have hJxg : ∀ c pre W W' row, Jx c pre W → W.grownBy W' row → W.drawn ≤ W'.drawn → (∀ r, row = some r → w.heap.size ≤ r ∧ ∃ o : Obj, W.heap[r]? = some o ∧ plainOb o = false) → Jx c pre W' := by
    intro c pre W W' row h hgr hdr hrow
    rw [hJx] at h ⊢
    obtain ⟨e, s', g1, h5, h8, h6, h7⟩ := h
    exact ⟨e, s', g1, h5, h8, h6.grown hgr fun r e => (hrow r e).2, h7.grown hgr hdr fun r e => (hrow r e).1⟩
  have hput : ∀ (W : World) (o : Obj), W.heap[w.heap.size + 1]? = some o → plainOb o = false → ∀ r, some (w.heap.size + 1) = some r → w.heap.size ≤ r ∧ ∃ o : Obj, W.heap[r]? = some o ∧ plainOb o = false := fun W o h h' r e => by cases e; exact ⟨by omega, o, h, h'⟩
  have hW1g : ∀ pre, J pre w → J pre W1 := fun pre h => by
    rw [← hW1]
    exact hJg _ _ _ none (hJg _ _ _ none h (World.grownBy_alloc w _ none) (Nat.le_refl _) (fun r e => by cases e)) (World.grownBy_alloc _ _ none) (Nat.le_refl _) fun r e => by cases e
  refine ⟨w.heap.size + 1, [{ target := .collected w.heap.size, args := #[] }], W1, { target := .fn (.func gf) lb, args := #[.func (.yield (w.heap.size + 1)) #[] #[]] }, W1, gf,
    #[.func (.yield (w.heap.size + 1)) #[] #[]] ++ lb, W1, ?_, ?_, ?_, ?_, fun _ => by omega, ?_⟩
  · rw [← hW1, hrec]; exact run_enterLoop_outer _ _ _ _ _
  · simp only [resolve, hgv]
    simp [go_sem]
  · intro f' _; trivial
  · simp [invoke, go_sem, hent]
  · refine (hseq (w.heap.size + 1)
      (fun pre W => J pre W ∧ W.heap[w.heap.size + 1]? = some (.loop (rec .ready none)) ∧ W.heap[w.heap.size]? = some (.deferred (some [])))
      (fun pre W => ∃ c, Jx c pre W ∧ W.heap[w.heap.size + 1]? = some (.loop (rec .done (some c))) ∧ W.heap[w.heap.size]? = some (.deferred (some [])))
      W1 hb1'
      (fun pre A B hs he => ⟨hJe pre A B hs.1 he, (he.2.1 _ (Array.getElem?_eq_some_iff.1 hs.2.1).1).trans hs.2.1, (he.2.1 _ (Array.getElem?_eq_some_iff.1 hs.2.2).1).trans hs.2.2⟩)
      (fun pre A B hs he => by
        obtain ⟨c, hc, hl, hk⟩ := hs
        exact ⟨c, hJxe c pre A B hc he, (he.2.1 _ (Array.getElem?_eq_some_iff.1 hl).1).trans hl, (he.2.1 _ (Array.getElem?_eq_some_iff.1 hk).1).trans hk⟩)
      ?_ ⟨hW1g _ (by rw [hJ]; exact ⟨h0.1, hst0⟩), hL1, hD1⟩).mono ?_
    · -- one round
      rintro pre x vs W ⟨hj, hl, hk⟩ hlen hvs1 hvs2
      rw [hJ] at hj
      obtain ⟨hok, g1, hr1, hs1⟩ := hj
      have hy := run_yield (P := P) (args := vs) hl (by rw [hrec]; exact hvs1.trans (hps x))
      rw [hrec] at hy
      have henc : ∀ (j : Nat) (v : Value) (d : D), vs[j]? = some v → (ys x)[j]? = some d → VRel g1 W v d := fun j v d hv hd =>
        (hvs2 j v d hv hd).of0 (g := g1) fun b hb => hs1.I b hb
      have hset := setps_rel (δ' := []) ps.toList (ys x) vs.toList (a := { tmps := a.tmps, defers := [] }) (g := g1) (w := W) (tm := s.tm) (os := O pre) (nx := s.nx) ⟨hr1.tm, rfl, hr1.o⟩ (by simpa using hvs1) (fun p hp => by show p < a.tmps.size; rw [hn]; exact hpn p hp) (fun j v d hv hd => henc j v d (by simpa using hv) hd)
      have hzip : ((ps.zip vs).foldl (fun t (p, v) => t.setIfInBounds p v) a.tmps) = ((ps.toList.zip vs.toList).foldl (fun t (p, v) => t.setIfInBounds p v) a.tmps) := by
        rw [← Array.foldl_toList, Array.toList_zip]
      refine ⟨fn, _, assign, body, hy, roundIn_of_wpIn trivial ?_⟩
      rw [hzip]
      refine wpIn_mono (awp_in hT lv assign _ _ ha1 ha2 (hround pre x hok hlen) g1 _ W hset.1 (by show _ = n; rw [hset.2]; exact hn)) ?_
      rintro e a2 W2 ⟨g2, s2, h5, h6, h7, h8⟩
      cases e with
      | normal =>
        have h5 : awp P T n s.nx lv body _ s2 := h5
        have hl2 := h8.other hset.1.o hl rfl
        have hk2 := h8.other hset.1.o hk rfl
        refine ⟨_, run_beginRound hl2 (by rw [hrec]), ?_⟩
        obtain ⟨W3, hW3⟩ : ∃ W3, W2.putObj (w.heap.size + 1) (.loop { rec .ready none with state := .busy }) = W3 := ⟨_, rfl⟩
        rw [hW3]
        have hg3 : W2.grownBy W3 (some (w.heap.size + 1)) := by rw [← hW3]; exact grownBy_putObj' _ _ _
        have hlt2 : w.heap.size + 1 < W2.heap.size := (Array.getElem?_eq_some_iff.1 hl2).1
        have hl3 : W3.heap[w.heap.size + 1]? = some (.loop { rec .ready none with state := .busy }) := by rw [← hW3]; exact World.putObj_heap_same hlt2
        have hk3 : W3.heap[w.heap.size]? = some (.deferred (some [])) := by rw [← hW3]; exact (World.putObj_heap_other (by omega)).trans hk2
        have hr3 := h6.grown hg3 fun r e => (hput W2 _ hl2 rfl r e).2
        have hs3 : StepN s.nx g s w g2 ⟨s.tm, s2.os, s2.nx⟩ W3 := ((hs1.tm (tm := s.tm) (tm' := s.tm)).trans (h8.tm (tm := s.tm) (tm' := s.tm))).grown hg3 (by rw [← hW3]; exact Nat.le_refl _) fun r e => (hput W2 _ hl2 rfl r e).1
        refine wpIn_mono (awp_in hT lv body _ _ hb1 hb2 h5 g2 a2 W3 hr3 h7) ?_
        rintro e a4 W4 ⟨g4, s4, h9, h10, h11, h12⟩
        have hl4 := h12.other hr3.o hl3 rfl
        have hk4 := h12.other hr3.o hk3 rfl
        have hs4 : StepN s.nx g s w g4 ⟨s.tm, s4.os, s4.nx⟩ W4 := hs3.trans (h12.tm (tm := s.tm) (tm' := s.tm))
        have hst : Step g s w g4 ⟨s.tm, s4.os, s4.nx⟩ W4 := hs4.step hr.o (Nat.le_refl _)
        have hr4 : Rel δ g4 ⟨s.tm, s4.os, s4.nx⟩ a W4 := ⟨fun t d ht => let ⟨v, h13, h14⟩ := hr.tm t d ht; ⟨v, h13, hst.vrel hr.o h14⟩, hr.defers, h10.o.tm⟩
        have fin : ∀ (jump : Option Code), ∃ W5, (Instr.endRound (w.heap.size + 1) jump).run P W4 = .ok (.bool jump.isNone) W5 ∧ (W4.grownBy W5 (some (w.heap.size + 1)) ∧ W4.drawn ≤ W5.drawn) ∧ W5.heap[w.heap.size + 1]? = some (.loop (rec (if jump.isNone then .ready else .done) jump)) ∧ W5.heap[w.heap.size]? = some (.deferred (some [])) := fun jump => by
          have := run_endRound (P := P) jump hl4
          rw [hrec] at this ⊢
          exact ⟨_, this, ⟨grownBy_putObj' _ _ _, Nat.le_refl _⟩, World.putObj_heap_same (Array.getElem?_eq_some_iff.1 hl4).1, (World.putObj_heap_other (by omega)).trans hk4⟩
        have hkp : ∀ W5, W4.grownBy W5 (some (w.heap.size + 1)) → ∀ b, g.I b → Cel W b → W5.heap[b]? = W.heap[b]? := fun W5 hg5 b hb _ => by
          have h13 : W.heap[b]? = w.heap[b]? := hs1.same b (hr.o.imm b hb).1 (hr.o.imm b hb).2
          have h14 : W4.heap[b]? = w.heap[b]? := hst.same b (hr.o.imm b hb).1 (hr.o.imm b hb).2
          have hlt := (hr.o.imm b hb).1
          rw [h13, ← h14]
          exact hg5.block b (Nat.lt_of_lt_of_le hlt hst.size) fun e => by cases e; omega
        have leave : ∀ (c : Code) (e : Exit), exOf c = some e → (pre ++ [x] <+: order → Q e ⟨s.tm, s4.os, s4.nx⟩) → Jx c (pre ++ [x]) W4 := fun c e h13 h14 => by
          rw [hJx]
          exact ⟨e, s4, g4, h13, h14, hr4, hs4⟩
        cases e with
        | normal =>
          obtain ⟨h13, h14⟩ : ok (pre ++ [x]) ∧ Sub s.nx ⟨s.tm, s4.os, s4.nx⟩ ⟨s.tm, O (pre ++ [x]), s.nx⟩ := h9
          obtain ⟨h15, h16⟩ := hr4.sub h14
          obtain ⟨W5, h17, h18, h19, h20⟩ := fin none
          refine ⟨_, W5, h17, .inl ⟨rfl, ⟨hJg _ W4 W5 _ (by rw [hJ]; exact ⟨h13, _, h15, hs4.trans h16⟩) h18.1 h18.2 (hput W4 _ hl4 rfl), h19, h20⟩, hkp W5 h18.1⟩⟩
        | ret =>
          obtain ⟨W5, h17, h18, h19, h20⟩ := fin (some .ret)
          exact ⟨_, W5, h17, .inr ⟨rfl, ⟨.ret, hJxg _ _ W4 W5 _ (leave .ret .ret rfl h9) h18.1 h18.2 (hput W4 _ hl4 rfl), h19, h20⟩, hkp W5 h18.1⟩⟩
        | exit i =>
          obtain ⟨W5, h17, h18, h19, h20⟩ := fin (some (.exit i))
          exact ⟨_, W5, h17, .inr ⟨rfl, ⟨.exit i, hJxg _ _ W4 W5 _ (leave (.exit i) (.exit i) rfl h9) h18.1 h18.2 (hput W4 _ hl4 rfl), h19, h20⟩, hkp W5 h18.1⟩⟩
        | _ => exact h9.elim
      | _ => exact h5.elim
    · -- behind the iterator
      rintro e W2 ⟨⟨v, rfl⟩, (⟨xs, rfl, hi, hl, hk⟩ | ⟨pre, hSp, c, hi, hl, hk⟩)⟩
      · refine ⟨none, _, by have := run_endLoop (P := P) hl (by rw [hrec]; simp); rw [hrec] at this; exact this, ?_⟩
        have hg3 := grownBy_putObj' W2 (w.heap.size + 1) (.loop { rec .ready none with state := .exhausted })
        have hi3 := hJg _ W2 _ _ hi hg3 (Nat.le_refl _) (hput W2 _ hl rfl)
        have hk3 := (World.putObj_heap_other (w := W2) (r := w.heap.size + 1) (o := .loop { rec .ready none with state := .exhausted }) (k := w.heap.size) (by omega)).trans hk
        rw [hrec] at hi3 hk3
        rw [hJ] at hi3
        obtain ⟨h5, g1, h6, h7⟩ := hi3
        exact ⟨[w.heap.size], g1, _, hdone h5, ⟨h6.tm, by show _ :: a.defers = _; rw [hr.defers]; rfl, h6.o⟩, fun D hD => by simp at hD; subst hD; exact ⟨Nat.le_refl _, hk3⟩, by simp, hn, StepN.less hN h7⟩
      · refine ⟨some c, _, by have := run_endLoop (P := P) hl (by rw [hrec]; simp); rw [hrec] at this; exact this, ?_⟩
        have hg3 := grownBy_putObj' W2 (w.heap.size + 1) (.loop { rec .done (some c) with state := .exhausted })
        have hi3 := hJxg c _ W2 _ _ hi hg3 (Nat.le_refl _) (hput W2 _ hl rfl)
        have hk3 := (World.putObj_heap_other (w := W2) (r := w.heap.size + 1) (o := .loop { rec .done (some c) with state := .exhausted }) (k := w.heap.size) (by omega)).trans hk
        rw [hrec] at hi3 hk3
        rw [hJx] at hi3
        have hfin : ∀ Wf, (∃ (e : Exit) (s' : St) (g1 : G), exOf c = some e ∧ (pre <+: order → Q e ⟨s.tm, s'.os, s'.nx⟩) ∧ Rel δ g1 ⟨s.tm, s'.os, s'.nx⟩ a Wf ∧ StepN s.nx g s w g1 ⟨s.tm, s'.os, s'.nx⟩ Wf) → Wf.heap[w.heap.size]? = some (.deferred (some [])) →
            c.wpIn Fence.wide 5 P (fun e a' w' => ∃ (Ds : List Nat) (g' : G) (s' : St), Q e s' ∧ Rel (Ds.map mrk ++ δ) g' s' a' w' ∧ (∀ D ∈ Ds, w.heap.size ≤ D ∧ w'.heap[D]? = some (.deferred (some []))) ∧ Ds.Nodup ∧ a'.tmps.size = n ∧ StepN N g s w g' s' w') { a with defers := [{ target := .collected w.heap.size, args := #[] }] ++ a.defers } Wf := by
          rintro Wf ⟨e, s', g1, h5, h8, h6, h7⟩ hkf
          have key : ∃ (Ds : List Nat) (g' : G) (s' : St), Q e s' ∧ Rel (Ds.map mrk ++ δ) g' s' { a with defers := [{ target := .collected w.heap.size, args := #[] }] ++ a.defers } Wf ∧ (∀ D ∈ Ds, w.heap.size ≤ D ∧ Wf.heap[D]? = some (.deferred (some []))) ∧ Ds.Nodup ∧ a.tmps.size = n ∧ StepN N g s w g' s' Wf :=
            ⟨[w.heap.size], g1, _, h8 hSp, ⟨h6.tm, by show _ :: a.defers = _; rw [hr.defers]; rfl, h6.o⟩, fun D hD => by simp at hD; subst hD; exact ⟨Nat.le_refl _, hkf⟩, by simp, hn, StepN.less hN h7⟩
          cases c <;> simp only [exOf, reduceCtorEq, Option.some.injEq] at h5
          · subst h5; exact wpIn_exit key
          · subst h5; exact wpIn_ret key
        exact hfin _ hi3 hk3
end
end Dm
namespace Dm
open Go
section
variable {δ : List Deferred} {P : Program} {T : Tab} {g g' g'' : G} {s s' s'' : St} {a : Act} {w w' w'' : World} {n N : Nat}

theorem leaves_marks {m : Nat} {fn : Func} {tmps : Array Value} {R : Ending → World → Prop} (K : World → Prop) : ∀ (Ds : List Nat) (w : World), Ds.Nodup → (∀ D ∈ Ds, w.heap[D]? = some (.deferred (some []))) → K w →
    (∀ W D, D ∈ Ds → K W → W.heap[D]? = some (.deferred (some [])) → K (W.putObj D (.deferred none))) → (∀ W, K W → ∃ v, (results fn tmps).run P W = .ok v W ∧ R (.returned v) W) →
    LeavesInM Fence.wide m P fn tmps R (Ds.map mrk) .returning w
  | [], w, _, _, hK, _, h => h w hK
  | D :: Ds, w, hn, hD, hK, hs, h => by
    obtain ⟨hn1, hn2⟩ := List.nodup_cons.1 hn
    refine ⟨by simp, .inl ⟨D, _, rfl, run_takeDeferred (hD D (by simp)), ?_⟩⟩
    refine leaves_marks K Ds _ hn2 (fun D' hD' => ?_) (hs w D (by simp) hK (hD D (by simp))) (fun W D' hD' => hs W D' (by simp [hD'])) h
    have hne : D' ≠ D := fun e => hn1 (by rw [← e]; exact hD')
    exact (World.putObj_heap_other hne).trans (hD D' (by simp [hD']))

theorem acall_introM {f : FuncId} {fn : Func} {c : Code} {ds : List D} {os : List (Nat × Ob)} {nx : Nat} {Q : D → List (Nat × Ob) → Nat → Prop}
    (hf : P.funcs[f]? = some fn) (hname : (fn.name == "runtime.NumGoroutine") = false) (hb : fn.body = some c) (hn : fn.ntmps = n) (hl : ds.length ≤ n) {rs : List ResultVar} (hrs : fn.results.toList = rs)
    (h : SWm P n nx c (fin P rs Q) ⟨prm 0 ds, os, nx⟩) : ACall P f ds os nx Q := by
  refine ⟨⟨fn, hf, hname, by rw [hb]; rfl⟩, fun g w vs ho hsz hv => ?_⟩
  refine callsIn_wide (n := 5).1 (callsIn_of_wp_marks hf hb trivial (wpIn_wide.2 ?_))
  subst hn
  have hr : Rel [] g ⟨prm 0 ds, os, nx⟩ { tmps := vs ++ Array.replicate (fn.ntmps - vs.size) undef, defers := [] } w := by
    refine ⟨fun t d ht => ?_, rfl, ho.tm⟩
    obtain ⟨_, h2⟩ := lk_prm ds 0 t d ht
    rw [Nat.sub_zero] at h2
    have ht : t < vs.size := by
      rw [hsz]
      rcases Nat.lt_or_ge t ds.length with h | h
      · exact h
      · rw [List.getElem?_eq_none h] at h2; cases h2
    refine ⟨vs[t], ?_, hv t _ d (Array.getElem?_eq_getElem ht) h2⟩
    rw [Array.getElem?_append_left ht, Array.getElem?_eq_getElem ht]
  refine wp_mono (h [] g _ w hr (by simp; omega)) fun e a' w' ⟨Ds, g', s', h1, h2, h3, h4, h5, h6⟩ => ?_
  rw [List.append_nil] at h2
  have fin : ∀ (hq : rto (rdD P s' rs) s' Q), LeavesInM Fence.wide 5 P fn a'.tmps (fun e w' => ∃ v d g' os' nx', e = .returned v ∧ Q d os' nx' ∧ RelO g' ⟨[], os', nx'⟩ w' ∧ VRel g' w' v d ∧ Step g ⟨[], os, nx⟩ w g' ⟨[], os', nx'⟩ w') a'.defers .returning w' := by
    intro hq
    rw [h2.defers]
    refine leaves_marks (fun W => Rel (Ds.map mrk) g' s' a' W ∧ StepN nx g ⟨prm 0 ds, os, nx⟩ w g' s' W) Ds w' h4 (fun D hD => (h3 D hD).2) ⟨h2, h6⟩ (fun W D hD hK hd => ?_) (fun W hK => ?_)
    · have hg := grownBy_putObj' W D (.deferred none)
      exact ⟨hK.1.grown hg fun r e => by cases e; exact ⟨_, hd, rfl⟩, hK.2.grown hg (Nat.le_refl _) fun r e => by cases e; exact (h3 D hD).1⟩
    · unfold rto at hq
      split at hq
      · rename_i d hrd
        obtain ⟨v, h7, h8⟩ := rdD_sound hK.1 fn hrs hrd
        exact ⟨v, h7, v, d, g', s'.os, s'.nx, rfl, hq, hK.1.o.tm, h8, (hK.2.tm (tm := []) (tm' := [])).step ho (Nat.le_refl _)⟩
      · cases hq
  cases e with
  | normal => exact fin h1
  | ret => exact fin h1
  | _ => cases h1

theorem SWm.awp (hT : TabS P T) (lv : Nat → Option (List Nat)) {c : Code} {Q : Exit → St → Prop} (hd : dstOk n c = true) (h : awp P T n N lv c Q s) : SWm P n N c Q s := SWm.of (awp_sound hT lv c Q s hd h)
end
end Dm
namespace Dm
open Go
abbrev Sg (m : Nat) := List (Fin m) × Bool
section
variable {P : Program} {T : Tab} {g : G} {s s' : St} {a : Act} {w w' : World} {n l m : Nat}

structure YOk (P : Program) (l : Nat) (I : Nat → Prop) {m : Nat} (ys : Fin m → List D) (J Jx : List (Fin m) → World → Prop) : Prop where
  round : ∀ pre x (vs : Array Value) W1, J pre W1 → pre.length < m → vs.size = (ys x).length → (∀ (j : Nat) (v : Value) (d : D), vs[j]? = some v → (ys x)[j]? = some d → VRel (G0 I) W1 v d) → YieldAt Fence.wide 3 P l vs W1 fun e W' =>
      (e = .returned (.bool true) ∧ J (pre ++ [x]) W' ∧ ∀ b, I b → Cel W1 b → W'.heap[b]? = W1.heap[b]?) ∨ (e = .returned (.bool false) ∧ Jx (pre ++ [x]) W' ∧ ∀ b, I b → Cel W1 b → W'.heap[b]? = W1.heap[b]?)
  grow : ∀ pre W W', J pre W → Ext W W' → J pre W'
  growx : ∀ pre W W', Jx pre W → Ext W W' → Jx pre W'

def RelY (I : Nat → Prop) {m : Nat} (J Jx : List (Fin m) → World → Prop) (s : St) (σ : Sg m) (a : Act) (w : World) : Prop :=
  s.os = [] ∧ s.nx = 0 ∧ match σ.2 with
    | true => Rel [] (G0 I) s a w ∧ J σ.1 w
    | false => Rel [] (G0 I) s a w ∧ Jx σ.1 w

def SY (P : Program) (n : Nat) (I : Nat → Prop) {m : Nat} (J Jx : List (Fin m) → World → Prop) (c : Code) (Q : Exit → St → Sg m → Prop) (s : St) (σ : Sg m) : Prop :=
  ∀ a w, RelY I J Jx s σ a w → a.tmps.size = n → c.wpIn Fence.wide 4 P (fun e a' w' => ∃ s' σ', Q e s' σ' ∧ RelY I J Jx s' σ' a' w' ∧ a'.tmps.size = n) a w

def yargs (o : Oper) (s : St) (l : Nat) : Option (List D) := match o.op with
  | .call c => match c.callee with
    | .value f => match s.ev f with
      | .fn (.yield l') [] [] => if l' = l then some (c.args.toList.map s.ev) else none
      | _ => none
    | _ => none
  | _ => none
def numsL : List Nat → List (Nat × D) → List (Nat × D)
  | _, [] => []
  | seen, (t, d) :: l => if seen.contains t = true then numsL seen l else if d.scal = true then (t, d) :: numsL (t :: seen) l else numsL (t :: seen) l
def St.nums (s : St) : St := ⟨numsL [] s.tm, [], 0⟩
def aopsY (P : Program) (T : Tab) (l : Nat) {m : Nat} (ys : Fin m → List D) (K : St → Sg m → Prop) : List Oper → St → Sg m → Prop
  | [], s, σ => K s σ
  | o :: rest, s, σ => o.guard = none ∧ match yargs o s l with
    | some ds => σ.2 = true ∧ σ.1.length < m ∧ ∃ x, ds = ys x ∧ aopsY P T l ys K rest (s.put o.dst (.bool true)) (σ.1 ++ [x], true) ∧ aopsY P T l ys K rest (s.nums.put o.dst (.bool false)) (σ.1 ++ [x], false)
    | none => aopQ P T o s fun s' => aopsY P T l ys K rest s' σ

variable {I : Nat → Prop} {ys : Fin m → List D} {J Jx : List (Fin m) → World → Prop}

theorem Rel.ext0 {I : Nat → Prop} (hr : Rel [] (G0 I) s a w) (hext : Ext w w') : Rel [] (G0 I) s a w' := by
  obtain ⟨h1, h2⟩ := hr.o.grow hext (I := I) (fun b hb => hb) (fun b _ hb => hb) (hr.o.cel.same fun b hb => hext.2.1 b (hr.o.imm b hb).1)
  exact ⟨fun t d ht => let ⟨v, h3, h4⟩ := hr.tm t d ht; ⟨v, h3, h2.vrel hr.o h4⟩, hr.defers, h1⟩

theorem RelY.put {σ : Sg m} (h : RelY I J Jx s σ a w) (t : Option Tmp) {v : Value} {d : D} (hv : ∀ g, (σ.2 = true → g = G0 I) → (σ.2 = false → g = G0 I) → VRel g w v d) (ht : ∀ x, t = some x → x < a.tmps.size) : RelY I J Jx (s.put t d) σ (a.put t v) w := by
  obtain ⟨h1, h2, h3⟩ := h
  refine ⟨by cases t <;> exact h1, by cases t <;> exact h2, ?_⟩
  obtain ⟨pre, b⟩ := σ
  cases b
  · exact ⟨h3.1.put t (hv _ (fun h => by cases h) fun _ => rfl) ht, h3.2⟩
  · exact ⟨h3.1.put t (hv _ (fun _ => rfl) fun h => by cases h) ht, h3.2⟩

theorem RelY.ext {σ : Sg m} (hY : YOk P l I ys J Jx) (h : RelY I J Jx s σ a w) (hext : Ext w w') : RelY I J Jx s σ a w' := by
  obtain ⟨h1, h2, h3⟩ := h
  refine ⟨h1, h2, ?_⟩
  obtain ⟨pre, b⟩ := σ
  cases b
  · exact ⟨h3.1.ext0 hext, hY.growx _ _ _ h3.2 hext⟩
  · exact ⟨h3.1.ext0 hext, hY.grow _ _ _ h3.2 hext⟩

theorem opY (hT : TabOk P T) (hY : YOk P l I ys J Jx) {σ : Sg m} {o : Oper} {K : St → Prop} (h : aopQ P T o s K) (hr : RelY I J Jx s σ a w) (hn : a.tmps.size = n) (hd : ∀ x, o.dst = some x → x < n) {KK : Act → World → Prop} {Q : Exit → Act → World → Prop}
    (hK : ∀ s' a' w', K s' → RelY I J Jx s' σ a' w' → a'.tmps.size = n → KK a' w') : o.wpIn Fence.wide 4 P a w KK Q := by
  have main : ∃ (v : Value) (d : D), QVal P o a w v ∧ K (s.put o.dst d) ∧ ∀ w', Ext w w' → RelY I J Jx (s.put o.dst d) σ (a.put o.dst v) w' := by
    obtain ⟨h1, h2, h3⟩ := hr
    obtain ⟨pre, b⟩ := σ
    cases b
    · obtain ⟨v, d, h4, h5, h6⟩ := aopQ_sound hT o h h3.1
      refine ⟨v, d, h4, h6, fun w' hext => RelY.ext hY (σ := (pre, false)) (RelY.put (σ := (pre, false)) ⟨h1, h2, h3⟩ o.dst (fun g _ hg => by rw [hg rfl]; exact h5) (fun x hx => by rw [hn]; exact hd x hx)) hext⟩
    · obtain ⟨v, d, h4, h5, h6⟩ := aopQ_sound hT o h h3.1
      refine ⟨v, d, h4, h6, fun w' hext => RelY.ext hY (σ := (pre, true)) (RelY.put (σ := (pre, true)) ⟨h1, h2, h3⟩ o.dst (fun g hg _ => by rw [hg rfl]; exact h5) (fun x hx => by rw [hn]; exact hd x hx)) hext⟩
  obtain ⟨v, d, h4, h5, h6⟩ := main
  refine ⟨fun f _ => trivial, ?_⟩
  have hq := h4 w (.refl w)
  unfold Oper.quietAt at hq
  have hsem : Oper.semAt Fence.wide.round a.eval o = execOp a.eval o := rfl
  rw [hsem]
  generalize (execOp a.eval o).run P w = r at hq ⊢
  have fin : ∀ w', Ext w w' → KK (a.put o.dst v) w' := fun w' hext => hK _ _ _ h5 (h6 w' hext) (by rw [put_size, hn])
  cases r with
  | ok nx w1 =>
    cases nx with
    | value u => obtain ⟨rfl, rfl⟩ := hq; exact fin _ (.refl _)
    | skip => obtain ⟨rfl, rfl⟩ := hq; exact fin _ (.refl _)
    | enter f args =>
      obtain ⟨rfl, hc⟩ := hq
      refine ⟨fun hh => (by cases hh), callsIn_wide.2 (hc.mono ?_)⟩
      rintro e w2 ⟨rfl, hext⟩
      exact fin w2 hext
    | _ => exact hq.elim
  | halt x w1 => exact hq.elim

theorem nums_lk {t : Nat} {d : D} : ∀ (tm : List (Nat × D)) (seen : List Nat), lk t (numsL seen tm) = some d → seen.contains t = false ∧ lk t tm = some d ∧ d.scal = true
  | [], seen, h => by cases h
  | (u, e) :: l, seen, h => by
    simp only [numsL] at h
    split at h
    · rename_i hc
      obtain ⟨h1, h2, h3⟩ := nums_lk l seen h
      refine ⟨h1, ?_, h3⟩
      rw [lk_cons, if_neg (fun e => by subst e; rw [h1] at hc; cases hc)]
      exact h2
    · rename_i hc
      split at h
      · rename_i hs
        rw [lk_cons] at h
        split at h
        · rename_i e'
          cases h
          subst e'
          exact ⟨by simpa using hc, by rw [lk_cons, if_pos rfl], hs⟩
        · rename_i hne
          obtain ⟨h1, h2, h3⟩ := nums_lk l _ h
          exact ⟨by simp at h1 ⊢; exact h1.2, by rw [lk_cons, if_neg hne]; exact h2, h3⟩
      · obtain ⟨h1, h2, h3⟩ := nums_lk l _ h
        have hne : ¬ t = u := by simp at h1; exact h1.1
        exact ⟨by simp at h1 ⊢; exact h1.2, by rw [lk_cons, if_neg hne]; exact h2, h3⟩

theorem yieldY (hY : YOk P l I ys J Jx) {pre : List (Fin m)} {o : Oper} {ds : List D} (hy : yargs o s l = some ds) (hlen : pre.length < m) {x : Fin m} (hx : ds = ys x) (hr : RelY I J Jx s (pre, true) a w) (hn : a.tmps.size = n) (hd : ∀ t, o.dst = some t → t < n)
    {KK : Act → World → Prop} {Q : Exit → Act → World → Prop}
    (hK : ∀ w', RelY I J Jx (s.put o.dst (.bool true)) (pre ++ [x], true) (a.put o.dst (.bool true)) w' → KK (a.put o.dst (.bool true)) w')
    (hK' : ∀ w', RelY I J Jx (s.nums.put o.dst (.bool false)) (pre ++ [x], false) (a.put o.dst (.bool false)) w' → KK (a.put o.dst (.bool false)) w') : o.wpIn Fence.wide 4 P a w KK Q := by
  obtain ⟨h1, h2, h3, h4⟩ := hr
  unfold yargs at hy
  split at hy <;> try cases hy
  rename_i c ho
  split at hy <;> try cases hy
  rename_i f hc
  split at hy <;> try cases hy
  rename_i l' hf
  split at hy <;> cases hy
  rename_i hl
  subst hl
  have hff := h3.ev f
  rw [hf] at hff
  generalize hfv : a.eval f = fv at hff
  cases hff with
  | fn _ fiv cav _ _ h5 h6 h7 h8 =>
  have e1 : fiv = #[] := Array.eq_empty_of_size_eq_zero (by simpa using h5)
  have e2 : cav = #[] := Array.eq_empty_of_size_eq_zero (by simpa using h6)
  subst e1; subst e2
  obtain ⟨h9, h10⟩ := map_rel h3 c.args
  have hvs : ∀ (j : Nat) (v : Value) (d : D), (c.args.map a.eval)[j]? = some v → (ys x)[j]? = some d → VRel (G0 I) w v d := fun j v d hv hd => h10 j v d hv (by rw [hx]; exact hd)
  obtain ⟨fn, tmps, assign, body, hrun, hround⟩ := hY.round pre x (c.args.map a.eval) w h4 hlen (by rw [h9, hx]) hvs
  refine ⟨fun f _ => trivial, ?_⟩
  have hsem : Oper.semAt Fence.wide.round a.eval o = execOp a.eval o := rfl
  rw [hsem]
  have hex : (execOp a.eval o).run P w = .ok (.round l' fn tmps assign body) w := by
    unfold execOp
    simp [ho, resolve, hc, hfv, Deferred.ofValue, invoke, hrun]
  rw [hex]
  refine ⟨fun hh => (by cases hh), hround.mono ?_⟩
  rintro e w' (⟨rfl, hj, hkp⟩ | ⟨rfl, hj, hkp⟩)
  · refine hK w' (RelY.put (σ := (pre ++ [x], true)) ⟨h1, h2, ?_, hj⟩ o.dst (fun g _ _ => .c _ _ (.bool _)) fun t ht => by rw [hn]; exact hd t ht)
    have hk : Keeps I w w' := fun b hb => hkp b hb (h3.o.cel b hb)
    refine ⟨fun t d ht => let ⟨v, h11, h12⟩ := h3.tm t d ht; ⟨v, h11, h12.mono hk (.refl _)⟩, h3.defers, ⟨fun id o h => ?_, fun id o id' o' b h => ?_, fun id _ => ⟨rfl, rfl⟩, fun b hb => ⟨((h3.o.cel b hb).keep (hk b hb)).lt, (h3.o.imm b hb).2⟩, h3.o.cel.same fun b hb => hk b hb⟩⟩
    · rw [h1] at h; cases h
    · rw [h1] at h; cases h
  · have hk : Keeps I w w' := fun b hb => hkp b hb (h3.o.cel b hb)
    refine hK' w' (RelY.put (σ := (pre ++ [x], false)) ⟨rfl, rfl, ⟨fun t d ht => ?_, h3.defers, ⟨fun id o h => (by cases h), fun id o id' o' b h => (by cases h), fun id _ => ⟨rfl, rfl⟩, fun b hb => ⟨((h3.o.cel b hb).keep (hk b hb)).lt, fun ⟨_, _, h, _⟩ => by cases h⟩, h3.o.cel.same fun b hb => hk b hb⟩⟩, hj⟩ o.dst (fun g _ _ => .c _ _ (.bool _)) fun t ht => by rw [hn]; exact hd t ht)
    obtain ⟨_, h11, h12⟩ := nums_lk _ _ ht
    obtain ⟨v, h13, h14⟩ := h3.tm t d h11
    exact ⟨v, h13, h14.any h12⟩

theorem aopsY_sound (hT : TabOk P T) (hY : YOk P l I ys J Jx) (all : Array Oper) {K : St → Sg m → Prop} {Q : Exit → Act → World → Prop} : ∀ (ops : List Oper) {s : St} {σ : Sg m} {a : Act} {w : World}, (∀ o ∈ ops, dstOk1 n o = true) → aopsY P T l ys K ops s σ → RelY I J Jx s σ a w → a.tmps.size = n →
    (∀ s' σ' a' w', K s' σ' → RelY I J Jx s' σ' a' w' → a'.tmps.size = n → Q .normal a' w') → wpListIn Fence.wide 4 P all Q ops a w
  | [], s, σ, a, w, _, h, hr, hn, hQ => hQ _ _ _ _ h hr hn
  | o :: rest, s, σ, a, w, hd, h, hr, hn, hQ => by
    have hdo : ∀ x, o.dst = some x → x < n := fun x hx => by
      have := hd o (by simp)
      unfold dstOk1 at this
      rw [hx] at this
      simpa using this
    have hrest : ∀ o ∈ rest, dstOk1 n o = true := fun o ho => hd o (by simp [ho])
    obtain ⟨hg, h⟩ := h
    have hw : Region.wanted o (yielded all a.tmps) = true := by simp [Region.wanted, hg]
    simp only [wpListIn, hw, if_true]
    split at h
    · rename_i ds hds
      obtain ⟨hlive, hlen, x, hx, h1, h2⟩ := h
      obtain ⟨pre, b⟩ := σ
      have hb : b = true := hlive
      subst hb
      exact yieldY hY hds hlen hx hr hn hdo (fun w' hr' => aopsY_sound hT hY all rest hrest h1 hr' (by rw [put_size, hn]) hQ) (fun w' hr' => aopsY_sound hT hY all rest hrest h2 hr' (by rw [put_size, hn]) hQ)
    · exact opY hT hY h hr hn hdo fun s' a' w' hK hr' hn' => aopsY_sound hT hY all rest hrest hK hr' hn' hQ

theorem RelY.sub {σ : Sg m} (h : RelY I J Jx s σ a w) (hs : s'.os = [] ∧ s'.nx = 0 ∧ subT s.tm s'.tm) : RelY I J Jx s' σ a w := by
  obtain ⟨h1, h2, h3⟩ := h
  have key : ∀ {I : Nat → Prop}, Rel [] (G0 I) s a w → Rel [] (G0 I) s' a w := fun hr => ⟨fun t d ht => by
    obtain ⟨d', h4, h5⟩ := subT_get hs.2.2 ht
    obtain ⟨v, h6, h7⟩ := hr.tm t d' h4
    exact ⟨v, h6, h7.le h5⟩, hr.defers, ⟨fun id o h => (by rw [hs.1] at h; cases h), fun id o id' o' b h => (by rw [hs.1] at h; cases h), fun id _ => ⟨rfl, rfl⟩, fun b hb => ⟨(hr.o.imm b hb).1, fun ⟨id, o, h, _⟩ => by rw [hs.1] at h; cases h⟩, hr.o.cel⟩⟩
  refine ⟨hs.1, hs.2.1, ?_⟩
  obtain ⟨pre, b⟩ := σ
  cases b
  · exact ⟨key h3.1, h3.2⟩
  · exact ⟨key h3.1, h3.2⟩

theorem SY.region (hT : TabOk P T) (hY : YOk P l I ys J Jx) {i : Nat} {ops : Array Oper} {Q : Exit → St → Sg m → Prop} {σ : Sg m} (hd : ops.toList.all (dstOk1 n) = true) (h : aopsY P T l ys (Q .normal) ops.toList s σ) : SY P n I J Jx (.region i ops false) Q s σ := fun a w hr hn =>
  wpIn_region_list (aopsY_sound hT hY ops ops.toList (fun o ho => List.all_eq_true.1 hd o ho) h hr hn fun s' σ' a' w' h1 h2 h3 => ⟨s', σ', h1, h2, h3⟩)
theorem SY.seq {x y : Code} {Q : Exit → St → Sg m → Prop} {σ : Sg m} (h : SY P n I J Jx x (fun e s σ => match e with | .normal => SY P n I J Jx y Q s σ | e => Q e s σ) s σ) : SY P n I J Jx (.seq x y) Q s σ := fun a w hr hn => by
  refine wpIn_seq (wpIn_mono (h a w hr hn) fun e a' w' ⟨s', σ', h1, h2, h3⟩ => ?_)
  cases e with
  | normal => exact h1 a' w' h2 h3
  | _ => exact ⟨s', σ', h1, h2, h3⟩
theorem RelY.ev {σ : Sg m} (h : RelY I J Jx s σ a w) {c : Operand} {b : Bool} (hc : s.ev c = .bool b) : a.eval c = .bool b := by
  obtain ⟨h1, h2, h3⟩ := h
  obtain ⟨pre, b'⟩ := σ
  cases b'
  · have := h3.1.ev c; rw [hc] at this; exact this.bool_inv
  · have := h3.1.ev c; rw [hc] at this; exact this.bool_inv
theorem SY.cond {c : Operand} {x y : Code} {b : Bool} {Q : Exit → St → Sg m → Prop} {σ : Sg m} (hc : s.ev c = .bool b) (h1 : b = true → SY P n I J Jx x Q s σ) (h2 : b = false → SY P n I J Jx y Q s σ) : SY P n I J Jx (.cond c x y) Q s σ := fun a w hr hn => by
  refine wpIn_cond (hr.ev hc) ?_
  cases b with
  | true => exact h1 rfl a w hr hn
  | false => exact h2 rfl a w hr hn
theorem SY.skip {Q : Exit → St → Sg m → Prop} {σ : Sg m} (h : Q .normal s σ) : SY P n I J Jx .skip Q s σ := fun a w hr hn => wpIn_skip ⟨s, σ, h, hr, hn⟩
theorem SY.ret {Q : Exit → St → Sg m → Prop} {σ : Sg m} (h : Q .ret s σ) : SY P n I J Jx .ret Q s σ := fun a w hr hn => wpIn_ret ⟨s, σ, h, hr, hn⟩
theorem SY.exit {i : Nat} {Q : Exit → St → Sg m → Prop} {σ : Sg m} (h : Q (.exit i) s σ) : SY P n I J Jx (.exit i) Q s σ := fun a w hr hn => wpIn_exit ⟨s, σ, h, hr, hn⟩
theorem SY.block {i : Nat} {c : Code} {Q : Exit → St → Sg m → Prop} {σ : Sg m} (h : SY P n I J Jx c (fun e s σ => match e with | .exit j => if j = i then Q .normal s σ else Q (.exit j) s σ | e => Q e s σ) s σ) : SY P n I J Jx (.block i c) Q s σ := fun a w hr hn => by
  refine wpIn_block (wpIn_mono (h a w hr hn) fun e a' w' ⟨s', σ', h1, h2, h3⟩ => ?_)
  cases e with
  | exit j =>
    simp only [Exit.inBlock]
    dsimp only at h1
    split
    · rename_i hj; rw [if_pos hj] at h1; exact ⟨s', σ', h1, h2, h3⟩
    · rename_i hj; rw [if_neg hj] at h1; exact ⟨s', σ', h1, h2, h3⟩
  | _ => exact ⟨s', σ', h1, h2, h3⟩
theorem SY.loop {c : Code} {Q : Exit → St → Sg m → Prop} {σ : Sg m} (k : Nat) (S : Nat → St) (G' : Nat → Sg m) (i0 : Nat) (h0 : ∀ a w, RelY I J Jx s σ a w → RelY I J Jx (S i0) (G' i0) a w) (hi0 : i0 ≤ k)
    (hround : ∀ i, i ≤ k → SY P n I J Jx c (fun e s' σ' => match e with | .normal => i < k ∧ σ' = G' (i + 1) ∧ (S (i + 1)).os = [] ∧ (S (i + 1)).nx = 0 ∧ subT s'.tm (S (i + 1)).tm | e => Q e s' σ') (S i) (G' i)) : SY P n I J Jx (.loop c) Q s σ := by
  have key : ∀ (j i : Nat) (a : Act) (w : World), i ≤ k → k - i = j → RelY I J Jx (S i) (G' i) a w → a.tmps.size = n →
      Code.roundsIn Fence.wide 4 P c (fun e a' w' => ∃ s' σ', Q e s' σ' ∧ RelY I J Jx s' σ' a' w' ∧ a'.tmps.size = n) (j + 1) a w := by
    intro j
    induction j with
    | zero =>
      intro i a w hi hj hr hn
      refine wpIn_mono (hround i hi a w hr hn) fun e a' w' ⟨s', σ', h1, h2, h3⟩ => ?_
      cases e with
      | normal => have := h1.1; omega
      | _ => exact ⟨s', σ', h1, h2, h3⟩
    | succ j ih =>
      intro i a w hi hj hr hn
      refine wpIn_mono (hround i hi a w hr hn) fun e a' w' ⟨s', σ', h1, h2, h3⟩ => ?_
      cases e with
      | normal =>
        obtain ⟨h4, rfl, h5, h6, h7⟩ := h1
        exact ih (i + 1) a' w' h4 (by omega) (h2.sub ⟨h5, h6, h7⟩) h3
      | _ => exact ⟨s', σ', h1, h2, h3⟩
  exact fun a w hr hn => wpIn_loop_rounds (k - i0 + 1) (key (k - i0) i0 a w hi0 rfl (h0 a w hr) hn)
end
end Dm
namespace Dm
open Go
section
variable {P : Program} {T : Tab} {g : G} {s s' : St} {a : Act} {w w' : World} {n l m : Nat}

theorem IterOk.of {gf : FuncId} {fn : Func} {c : Code} {caps : List D} {ys : Fin m → List D} {order : List (Fin m)}
    (hf : P.funcs[gf]? = some fn) (hname : (fn.name == "runtime.NumGoroutine") = false) (hb : fn.body = some c) (hn : fn.ntmps = n) (hl : caps.length + 1 ≤ n) (hrs : fn.results.toList = [])
    (h : ∀ (l : Nat) (I : Nat → Prop) (J Jx : List (Fin m) → World → Prop), YOk P l I ys J Jx →
      SY P n I J Jx c (fun e _ σ => (e = .normal ∨ e = .ret) ∧ ((σ.2 = true ∧ σ.1 = order) ∨ (σ.2 = false ∧ σ.1 <+: order))) ⟨prm 0 (.fn (.yield l) [] [] :: caps), [], 0⟩ ([], true)) : IterOk P gf caps ys order := by
  refine ⟨Go.Proofs.enters_of hf hname hb, fun I w lb hI hsz hv => ?_⟩
  · intro l J Jx W hbel hJ hJx hround h0
    refine callsIn_of_wp hf hb trivial ?_
    subst hn
    have hY : YOk P l I ys J Jx :=
      ⟨hround, hJ, hJx⟩
    have hcel : Cels I W := hI.same fun b hb => hbel.block b (hI b hb).lt
    have hk : Keeps I w W := fun b hb => hbel.block b (hI b hb).lt
    have hr : Rel [] (G0 I) ⟨prm 0 (.fn (.yield l) [] [] :: caps), [], 0⟩ { tmps := (#[Value.func (.yield l) #[] #[]] ++ lb) ++ Array.replicate (fn.ntmps - (#[Value.func (.yield l) #[] #[]] ++ lb).size) undef, defers := [] } W := by
      refine ⟨fun t d ht => ?_, rfl, (RelO.none I W hcel).tm⟩
      obtain ⟨_, h2⟩ := lk_prm _ 0 t d ht
      rw [Nat.sub_zero] at h2
      have hs : (#[Value.func (.yield l) #[] #[]] ++ lb).size = caps.length + 1 := by simp [hsz]; omega
      have ht : t < (#[Value.func (.yield l) #[] #[]] ++ lb).size := by
        rw [hs]
        have := (List.getElem?_eq_some_iff.1 h2).1
        simpa using this
      refine ⟨(#[Value.func (.yield l) #[] #[]] ++ lb)[t], by rw [Array.getElem?_append_left ht, Array.getElem?_eq_getElem ht], ?_⟩
      cases t with
      | zero =>
        simp at h2
        subst h2
        simp
        exact .fn _ _ _ _ _ rfl rfl (fun i v d h => by simp at h) (fun i v d h => by simp at h)
      | succ t =>
        have h3 : caps[t]? = some d := by simpa using h2
        have h4 : lb[t]? = some (#[Value.func (.yield l) #[] #[]] ++ lb)[t + 1] := by
          rw [Array.getElem_append_right (by simp)]
          simp
        exact (hv t _ d h4 h3).mono hk (.refl _)
    refine wpIn_mono (h l I J Jx hY _ W ⟨rfl, rfl, hr, h0⟩ (by simp [hsz]; omega)) ?_
    rintro e a' w' ⟨s', σ', ⟨h1, h2⟩, h3, h4⟩
    have fin : a'.defers = [] ∧ ∃ v, (results fn a'.tmps).run P w' = .ok v w' ∧ ((∃ u, Ending.returned v = .returned u) ∧ ((∃ xs, xs = order ∧ J xs w') ∨ (∃ pre, pre <+: order ∧ Jx pre w'))) := by
      obtain ⟨h5, h6, h7⟩ := h3
      obtain ⟨pre, b⟩ := σ'
      cases b
      · obtain ⟨h8, h9⟩ := h7
        obtain ⟨v, h10, _⟩ := rdD_sound h8 fn hrs (d := .tup []) rfl
        refine ⟨h8.defers, v, h10, ⟨v, rfl⟩, .inr ⟨pre, ?_, h9⟩⟩
        rcases h2 with ⟨h, _⟩ | ⟨_, h⟩
        · cases h
        · exact h
      · obtain ⟨h8, h9⟩ := h7
        obtain ⟨v, h10, _⟩ := rdD_sound h8 fn hrs (d := .tup []) rfl
        refine ⟨h8.defers, v, h10, ⟨v, rfl⟩, .inl ⟨pre, ?_, h9⟩⟩
        rcases h2 with ⟨_, h⟩ | ⟨h, _⟩
        · exact h
        · cases h
    rcases h1 with rfl | rfl
    · exact fin
    · exact fin
end
end Dm
namespace Dm
open Go
section
variable {P : Program} {g g' : G} {w w' : World}
def Grown (z : Nat) (e : TypeId) (els : List (List C)) (d : D) (os : List (Nat × Ob)) : Prop := ∃ k, d = .vec k els.length ∧ lk k os = some (.vec true z e els)
theorem ACall.grow {f : FuncId} {i j nx m n : Nat} {os : List (Nat × Ob)} {z e : Nat} {h1 h2 : Bool} {A B E : List (List C)} {mid : List D} {Q : D → List (Nat × Ob) → Nat → Prop}
    (h : ACall P f (.vec 0 n :: mid ++ [.vec 1 m]) [(1, .vec h2 z e B), (0, .vec h1 z e A)] 2 fun d os' _ => Grown z e E d os')
    (hi : lk i os = some (.vec h1 z e A)) (hj : lk j os = some (.vec h2 z e B)) (hne : i ≠ j) (hn : A.length < E.length) (hmid : ∀ d ∈ mid, ∀ g g' w v, VRel g w v d → VRel g' w v d)
    (hQ : Q (.vec i E.length) ((i, .vec true z e E) :: rmv os [i, j]) nx) : ACall P f (.vec i n :: mid ++ [.vec j m]) os nx Q := by
  refine ⟨h.1, fun g w vs ho hsz hv => ?_⟩
  have hib := ho.lt hi
  have hjb := ho.lt hj
  let g0 : G := ⟨fun _ => none, fun k => if k = 0 then g.κ i else if k = 1 then g.κ j else none, g.I⟩
  have hoi := ho.ok i _ hi
  have hoj := ho.ok j _ hj
  have hk0 : g0.κ 0 = g.κ i := rfl
  have hk1 : g0.κ 1 = g.κ j := rfl
  have hlk0 : ∀ id o, lk id [(1, Ob.vec h2 z e B), (0, Ob.vec h1 z e A)] = some o → (id = 0 ∧ o = .vec h1 z e A) ∨ (id = 1 ∧ o = .vec h2 z e B) := fun id o h => by
    simp only [lk_cons] at h
    split at h
    · rename_i hid; cases h; exact .inr ⟨hid, rfl⟩
    · split at h
      · rename_i hid; cases h; exact .inl ⟨hid, rfl⟩
      · cases h
  have hb0 : ∀ o : Ob, (∃ hd z e els, o = .vec hd z e els) → g0.blk 0 o = g.blk i o := fun o ⟨hd, z, e, els, ho⟩ => by subst ho; rfl
  have hb1 : ∀ o : Ob, (∃ hd z e els, o = .vec hd z e els) → g0.blk 1 o = g.blk j o := fun o ⟨hd, z, e, els, ho⟩ => by subst ho; rfl
  have hown0 : ∀ b, Own g0 ⟨[], [(1, .vec h2 z e B), (0, .vec h1 z e A)], 2⟩ b → g.blk i (.vec h1 z e A) = some b ∨ g.blk j (.vec h2 z e B) = some b := fun b ⟨id, o, h3, h4⟩ => by
    rcases hlk0 id o h3 with ⟨rfl, rfl⟩ | ⟨rfl, rfl⟩
    · exact .inl h4
    · exact .inr h4
  have hownG : ∀ b, Own g0 ⟨[], [(1, .vec h2 z e B), (0, .vec h1 z e A)], 2⟩ b → Own g ⟨[], os, nx⟩ b := fun b h => (hown0 b h).elim (fun h => ⟨i, _, hi, h⟩) fun h => ⟨j, _, hj, h⟩
  have ho0 : RelO g0 ⟨[], [(1, .vec h2 z e B), (0, .vec h1 z e A)], 2⟩ w := by
    refine ⟨fun id o h => ?_, fun id o id' o' b h3 h4 h5 h6 => ?_, fun id hid => ?_, fun b hb => ⟨(ho.imm b hb).1, fun h => (ho.imm b hb).2 (hownG b h)⟩, ho.cel⟩
    · rcases hlk0 id o h with ⟨rfl, rfl⟩ | ⟨rfl, rfl⟩
      · exact hoi
      · exact hoj
    · rcases hlk0 id o h3 with ⟨rfl, rfl⟩ | ⟨rfl, rfl⟩ <;> rcases hlk0 id' o' h4 with ⟨rfl, rfl⟩ | ⟨rfl, rfl⟩
      · rfl
      · exact absurd (ho.apart i _ j _ b hi hj h5 h6) hne
      · exact absurd (ho.apart i _ j _ b hi hj h6 h5) hne
      · rfl
    · have hid' : 2 ≤ id := hid
      refine ⟨rfl, ?_⟩
      show (if id = 0 then g.κ i else if id = 1 then g.κ j else none) = none
      rw [if_neg (by omega), if_neg (by omega)]
  have hvec : ∀ {k k' m : Nat} {v : Value}, g0.κ k' = g.κ k → VRel g w v (.vec k m) → VRel g0 w v (.vec k' m) := fun {k k' m v} hk hv => by
    cases hv with
    | vec a' cap' _ _ a0 len cap hkk hle hm ha hvq => exact .vec _ _ _ _ a0 len cap (by rw [hk]; exact hkk) hle hm ha hvq
  have hv0 : ∀ (k : Nat) (v : Value) (d : D), vs[k]? = some v → (D.vec 0 n :: mid ++ [.vec 1 m])[k]? = some d → VRel g0 w v d := fun k v d hk hd => by
    have hlen : (D.vec i n :: mid ++ [D.vec j m]).length = mid.length + 2 := by simp
    rcases k with _ | k
    · simp at hd; subst hd
      exact hvec hk0 (hv 0 v _ hk (by simp))
    · simp only [List.cons_append, List.getElem?_cons_succ] at hd
      rw [List.getElem?_append] at hd
      split at hd
      · rename_i hlt
        have := hv (k + 1) v d hk (by simp only [List.cons_append, List.getElem?_cons_succ]; rw [List.getElem?_append_left hlt]; exact hd)
        exact hmid d (List.mem_of_getElem? hd) _ _ _ _ this
      · rename_i hlt
        have hk' : k = mid.length := by
          have := (List.getElem?_eq_some_iff.1 hd).1
          simp at this; omega
        subst hk'
        simp at hd; subst hd
        exact hvec hk1 (hv (mid.length + 1) v _ hk (by simp))
  refine (h.2 g0 w vs ho0 (by simpa using hsz) hv0).mono ?_
  rintro ex w' ⟨v, d, g', os', nx', rfl, ⟨k, rfl, hk⟩, hro, hvr, hst⟩
  have hok := hro.ok k _ hk
  obtain ⟨a2, cap2, h6, h7, h8, h9, h10⟩ := hok
  let g2 : G := ⟨g.ρ, fun id => if id = i then some (a2, E.length, cap2) else g.κ id, g'.I⟩
  have h2i : g2.κ i = g'.κ k := by show (if i = i then _ else _) = _; rw [if_pos rfl, h6]
  have h2o : ∀ id, id ≠ i → g2.κ id = g.κ id := fun id hid => if_neg hid
  obtain ⟨a1, cap1, hi1, hi2⟩ := hoi
  have hle : g.Le g2 := by
    refine ⟨fun _ _ h => h, fun id x l c hid => ?_, fun b hb => hst.le.I b hb⟩
    by_cases hii : id = i
    · subst hii
      rw [hi1] at hid
      cases hid
      exact ⟨a2, E.length, cap2, by rw [h2i, h6], by omega, fun e => by omega⟩
    · exact ⟨x, l, c, by rw [h2o id hii]; exact hid, Nat.le_refl _, fun _ => ⟨rfl, rfl⟩⟩
  have hin : ∀ id o, lk id ((i, Ob.vec true z e E) :: rmv os [i, j]) = some o → (id = i ∧ o = .vec true z e E) ∨ (id ≠ i ∧ id ≠ j ∧ lk id os = some o) := fun id o h => by
    simp only [lk_cons, lk_rmv] at h
    split at h
    · rename_i hid; cases h; exact .inl ⟨hid, rfl⟩
    · rename_i hid
      split at h
      · cases h
      · rename_i hid2
        simp at hid2
        exact .inr ⟨hid, hid2.2, h⟩
  have hblko : ∀ id o, id ≠ i → g2.blk id o = g.blk id o := fun id o hid => by
    cases o with
    | box cs => rfl
    | map _ _ => rfl
    | it _ _ => rfl
    | vec _ _ _ _ => simp only [G.blk, h2o id hid]
  have hblki : ∀ b, g2.blk i (.vec true z e E) = some b → g'.blk k (.vec true z e E) = some b := fun b hb => by
    simp only [G.blk, h2i] at hb ⊢
    exact hb
  -- a block of one of the others is not one of these two
  have hrest : ∀ id o b, id ≠ i → id ≠ j → lk id os = some o → g.blk id o = some b → b < w.heap.size ∧ ¬ Own g0 ⟨[], [(1, .vec h2 z e B), (0, .vec h1 z e A)], 2⟩ b := fun id o b h11 h12 h13 h14 => by
    refine ⟨(ho.ok id o h13).lt.1 b h14, fun h15 => ?_⟩
    rcases hown0 b h15 with h16 | h16
    · exact h11 (ho.apart id o i _ b h13 hi h14 h16)
    · exact h12 (ho.apart id o j _ b h13 hj h14 h16)
  have hnew : ∀ b, g'.blk k (.vec true z e E) = some b → Own g' ⟨[], os', nx'⟩ b := fun b hb => ⟨k, _, hk, hb⟩
  have hownN : ∀ b, Own g2 ⟨[], (i, .vec true z e E) :: rmv os [i, j], nx⟩ b → Own g' ⟨[], os', nx'⟩ b ∨ Own g ⟨[], os, nx⟩ b ∧ b < w.heap.size ∧ ¬ Own g0 ⟨[], [(1, .vec h2 z e B), (0, .vec h1 z e A)], 2⟩ b := fun b ⟨id, o, h11, h12⟩ => by
    rcases hin id o h11 with ⟨rfl, rfl⟩ | ⟨h13, h14, h15⟩
    · exact .inl (hnew b (hblki b h12))
    · rw [hblko id o h13] at h12
      exact .inr ⟨⟨id, o, h15, h12⟩, hrest id o b h13 h14 h15 h12⟩
  have hkeep : Keeps g.I w w' := fun b hb => hst.same b (ho.imm b hb).1 fun h => (ho.imm b hb).2 (hownG b h)
  have himm : ∀ b, b < w.heap.size → ¬ Own g ⟨[], os, nx⟩ b → g'.I b → g.I b := fun b hb hno hi' => hst.imm b hb (fun h => hno (hownG b h)) hi'
  refine ⟨v, _, g2, _, nx, rfl, hQ, ⟨fun id o h => ?_, fun id o id' o' b h11 h12 h13 h14 => ?_, fun id hid => ?_, fun b hb => ⟨(hro.imm b hb).1, fun h => ?_⟩, hro.cel⟩, ?_, ⟨hle, hst.size, fun b hb hno => hst.same b hb fun h => hno (hownG b h), fun b hb hno h => ?_, himm, hst.env⟩⟩
  · rcases hin id o h with ⟨rfl, rfl⟩ | ⟨h11, h12, h13⟩
    · exact ⟨a2, cap2, by rw [h2i, h6], h7, h8, h9, h10⟩
    · exact (ho.ok id o h13).mono hkeep hle (fun b hb => hst.same b (hrest id o b h11 h12 h13 hb).1 (hrest id o b h11 h12 h13 hb).2) (h2o id h11)
  · have key : ∀ id o b, id ≠ i → id ≠ j → lk id os = some o → g.blk id o = some b → g'.blk k (.vec true z e E) = some b → False := fun id o b h15 h16 h17 h18 h19 => by
      have := hrest id o b h15 h16 h17 h18
      exact hst.own b this.1 this.2 (hnew b h19)
    rcases hin id o h11 with ⟨rfl, rfl⟩ | ⟨h15, h16, h17⟩ <;> rcases hin id' o' h12 with ⟨rfl, rfl⟩ | ⟨h18, h19, h20⟩
    · rfl
    · rw [hblko id' o' h18] at h14
      exact (key id' o' b h18 h19 h20 h14 (hblki b h13)).elim
    · rw [hblko id o h15] at h13
      exact (key id o b h15 h16 h17 h13 (hblki b h14)).elim
    · rw [hblko id o h15] at h13
      rw [hblko id' o' h18] at h14
      exact ho.apart id o id' o' b h17 h20 h13 h14
  · have := ho.fresh id hid
    have h20 : nx ≤ id := hid
    have h21 : i < nx := hib
    have hne' : id ≠ i := by omega
    exact ⟨this.1, by rw [h2o id hne']; exact this.2⟩
  · rcases hownN b h with h11 | ⟨h11, h12, h13⟩
    · exact (hro.imm b hb).2 h11
    · exact (ho.imm b (hst.imm b h12 h13 hb)).2 h11
  · cases hvr with
    | vec a' cap' _ _ a0 len cap hkk hle' hm ha hvq => exact .vec _ _ _ _ a0 len cap (by rw [h2i]; exact hkk) hle' hm ha hvq
  · rcases hownN b h with h11 | ⟨h11, _⟩
    · exact hst.own b hb (fun h => hno (hownG b h)) h11
    · exact hno h11
end
end Dm
namespace Dm
open Go
def TypFs (T : TypeId → List C → Prop) : List Field → List C → Prop
  | [], xs => xs = []
  | f :: r, xs => ∃ ys zs, xs = ys ++ zs ∧ T f.type ys ∧ TypFs T r zs
def TypR (T : List C → Prop) : Nat → List C → Prop
  | 0, xs => xs = []
  | n + 1, xs => ∃ ys zs, xs = ys ++ zs ∧ T ys ∧ TypR T n zs
def Typ (P : Program) : Nat → TypeId → List C → Prop
  | 0, _, _ => False
  | k + 1, t, xs => match P.underlying t with
    | some .bool => ∃ b, xs = [.bool b]
    | some (.int kd) => ∃ n, xs = [.int kd n] ∧ (Lit.int kd n).wf = true
    | some (.float kd) => ∃ n, xs = [.flt kd (flo kd n)] ∧ (Lit.float kd n).wf = true
    | some .string => ∃ s, xs = [.str s] ∧ s.size ≤ maxLen
    | some (.slice e) => ∃ els, xs = [.sl els] ∧ els.length ≤ maxLen ∧ ∀ x ∈ els, Typ P k e x
    | some (.struct fs) => TypFs (Typ P k) fs.toList xs
    | some (.array n e) => TypR (Typ P k e) n xs
    | _ => False
def plainFs (P : Program) (ok : TypeId → Bool) : Nat → List Field → Option Nat
  | o, [] => some o
  | o, f :: r => if f.offset = o ∧ ok f.type = true then plainFs P ok (o + P.cellsOf f.type) r else none
def plain (P : Program) : Nat → TypeId → Bool
  | 0, _ => false
  | k + 1, t => match P.underlying t with
    | some .bool => true
    | some (.int _) => true
    | some (.float _) => true
    | some .string => true
    | some (.slice e) => plain P k e && P.cellsOf e != 0
    | some (.struct fs) => plainFs P (plain P k) 0 fs.toList == some (P.cellsOf t)
    | some (.array n e) => plain P k e && n * P.cellsOf e == P.cellsOf t
    | _ => false

section
variable {H : Type} {enc : TypeId × Value → H} {P : Program} {w : World} {spare : Nat → Bool} {held : Bool}

def below (w : World) (b : Nat) : Prop := Cel w b
def Reads (w : World) (cs : List Value) (xs : List C) : Prop := xs.length = cs.length ∧ ∀ (i : Nat) (v : Value) (y : C), cs[i]? = some v → xs[i]? = some y → CRel (below w) w v y

theorem Reads.one {v : Value} {y : C} (h : CRel (below w) w v y) : Reads w [v] [y] := ⟨rfl, fun i u z hu hz => by
  cases i with
  | zero => simp at hu hz; subst hu; subst hz; exact h
  | succ i => simp at hu⟩
theorem Reads.app {cs ds : List Value} {xs ys : List C} (h : Reads w cs xs) (h' : Reads w ds ys) : Reads w (cs ++ ds) (xs ++ ys) := by
  refine ⟨by simp [h.1, h'.1], fun i v y hv hy => ?_⟩
  rw [List.getElem?_append] at hv hy
  rw [h.1] at hy
  split at hv
  · rename_i hlt; rw [if_pos hlt] at hy; exact h.2 i v y hv hy
  · rename_i hlt; rw [if_neg hlt] at hy; exact h'.2 _ v y hv hy

theorem mapM_cons_some {α β : Type} {f : α → Option β} {a : α} {l : List α} {r : List β} (h : (a :: l).mapM f = some r) : ∃ b bs, f a = some b ∧ l.mapM f = some bs ∧ r = b :: bs := by
  rw [List.mapM_cons] at h
  cases hf : f a with
  | none => simp [hf] at h
  | some b =>
    cases hl : l.mapM f with
    | none => simp [hf, hl] at h
    | some bs => simp [hf, hl] at h; exact ⟨b, bs, rfl, rfl, h.symm⟩

theorem plainFs_le {ok : TypeId → Bool} : ∀ {fs : List Field} {o e : Nat}, plainFs P ok o fs = some e → o ≤ e
  | [], o, e, h => by simp only [plainFs, Option.some.injEq] at h; omega
  | f :: r, o, e, h => by
    simp only [plainFs] at h
    split at h
    · have := plainFs_le h; omega
    · cases h

theorem fields_conv {k fuel : Nat} {cs : List Value} (IH : ∀ (t : TypeId) (cs : List Value) (x : DataW H × List MemPlace), DataW.trod enc P w 0 spare held fuel t cs = some x → plain P k t = true → ∃ xs, Typ P k t xs ∧ Reads w cs xs) :
    ∀ (fs : List Field) (o : Nat) (ys : List (DataW H × List MemPlace)), plainFs P (plain P k) o fs = some cs.length → fs.mapM (fun f => DataW.trod enc P w 0 spare held fuel f.type ((cs.drop f.offset).take (P.cellsOf f.type))) = some ys →
      ∃ xs, TypFs (Typ P k) fs xs ∧ Reads w (cs.drop o) xs
  | [], o, ys, h, _ => by
    simp only [plainFs, Option.some.injEq] at h
    exact ⟨[], rfl, by simp [Reads, h]⟩
  | f :: r, o, ys, h, hm => by
    simp only [plainFs] at h
    split at h
    · rename_i hc
      obtain ⟨hc1, hc2⟩ := hc
      have hle := plainFs_le h
      obtain ⟨b, bs, h1, h2, _⟩ := mapM_cons_some hm
      obtain ⟨xs, h3, h4⟩ := IH _ _ _ h1 hc2
      obtain ⟨zs, h5, h6⟩ := fields_conv IH r _ bs h h2
      refine ⟨xs ++ zs, ⟨xs, zs, rfl, h3, h5⟩, ?_⟩
      have e : cs.drop o = (cs.drop f.offset).take (P.cellsOf f.type) ++ cs.drop (o + P.cellsOf f.type) := by
        rw [hc1, ← List.drop_drop, List.take_append_drop]
      rw [e]
      exact h4.app h6
    · cases h

theorem array_conv {k fuel n sz : Nat} {e : TypeId} {cs : List Value} (IH : ∀ (t : TypeId) (cs : List Value) (x : DataW H × List MemPlace), DataW.trod enc P w 0 spare held fuel t cs = some x → plain P k t = true → ∃ xs, Typ P k t xs ∧ Reads w cs xs) (he : plain P k e = true) :
    ∀ (m j : Nat), j + m = n → n * sz = cs.length → (∀ i, i < n → ∃ x, DataW.trod enc P w 0 spare held fuel e ((cs.drop (i * sz)).take sz) = some x) → ∃ xs, TypR (Typ P k e) m xs ∧ Reads w (cs.drop (j * sz)) xs
  | 0, j, hj, hn, _ => ⟨[], rfl, by
      have : j = n := by omega
      subst this
      simp [Reads, hn]⟩
  | m + 1, j, hj, hn, hall => by
    obtain ⟨x, hx⟩ := hall j (by omega)
    obtain ⟨xs, h3, h4⟩ := IH _ _ _ hx he
    obtain ⟨zs, h5, h6⟩ := array_conv IH he m (j + 1) (by omega) hn hall
    refine ⟨xs ++ zs, ⟨xs, zs, rfl, h3, h5⟩, ?_⟩
    have e : cs.drop (j * sz) = (cs.drop (j * sz)).take sz ++ cs.drop ((j + 1) * sz) := by
      rw [Nat.add_mul, Nat.one_mul, ← List.drop_drop, List.take_append_drop]
    rw [e]
    exact h4.app h6

theorem mapM_range_get {β : Type} {f : Nat → Option β} {n : Nat} {r : List β} (h : (List.range n).mapM f = some r) (i : Nat) (hi : i < n) : ∃ y, f i = some y ∧ r[i]? = some y := by
  have key : ∀ (l : List Nat) (r : List β), l.mapM f = some r → ∀ (i x : Nat), l[i]? = some x → ∃ y, f x = some y ∧ r[i]? = some y := by
    intro l
    induction l with
    | nil => intro r _ i x hx; simp at hx
    | cons a l ih =>
      intro r hr i x hx
      obtain ⟨b, bs, h1, h2, rfl⟩ := mapM_cons_some hr
      cases i with
      | zero => simp at hx; subst hx; exact ⟨b, h1, rfl⟩
      | succ i => exact ih bs h2 i x (by simpa using hx)
  exact key _ _ h i i (by simp [hi])

theorem mapM_len {α β : Type} {f : α → Option β} : ∀ {l : List α} {r : List β}, l.mapM f = some r → r.length = l.length
  | [], r, h => by simp at h; simp [h]
  | a :: l, r, h => by
    obtain ⟨b, bs, _, h2, rfl⟩ := mapM_cons_some h
    simp [mapM_len h2]

theorem trod_conv : ∀ (fuel k : Nat) (t : TypeId) (cs : List Value) (x : DataW H × List MemPlace), DataW.trod enc P w 0 spare held fuel t cs = some x → plain P k t = true → ∃ xs, Typ P k t xs ∧ Reads w cs xs
  | 0, k, t, cs, x, h, _ => by simp [DataW.trod] at h
  | fuel + 1, 0, t, cs, x, h, hp => by cases hp
  | fuel + 1, k + 1, t, cs, x, h, hp => by
    have IH := fun t cs x => trod_conv fuel k t cs x
    simp only [plain] at hp
    simp only [Typ]
    unfold DataW.trod at h
    split at h
    · rename_i b hu; rw [hu]; exact ⟨[.bool b], ⟨b, rfl⟩, .one (.bool b)⟩
    · rename_i kd k' n hu
      rw [hu]
      split at h
      · rename_i hc; obtain ⟨rfl, hc⟩ := hc
        exact ⟨[.int _ n], ⟨n, rfl, hc⟩, .one (.int _ n)⟩
      · cases h
    · rename_i kd k' n hu
      rw [hu]
      split at h
      · rename_i hc; obtain ⟨rfl, hc⟩ := hc
        exact ⟨[.flt _ (flo _ n)], ⟨n, rfl, hc⟩, .one (.flt _ n)⟩
      · cases h
    · rename_i s hu
      rw [hu]
      split at h
      · rename_i hc
        exact ⟨[.str s], ⟨s, rfl, hc⟩, .one (.str s)⟩
      · cases h
    · rename_i hu; rw [hu] at hp; cases hp
    · rename_i hu; rw [hu] at hp; cases hp
    · rename_i e hu
      rw [hu]
      exact ⟨[.sl []], ⟨[], rfl, by simp, by simp⟩, .one (.slnil _ _ (by simp [maxLen]))⟩
    · rename_i e a len cap hu
      rw [hu] at hp ⊢
      simp only [Bool.and_eq_true, bne_iff_ne, ne_eq] at hp
      obtain ⟨hp1, hp2⟩ := hp
      split at h
      · rename_i hc
        obtain ⟨_, hlc, hcm⟩ := hc
        cases hm : (List.range len).mapM (fun i => (w.cells? 0 (a.add (i * P.cellsOf e)) (P.cellsOf e)).bind (DataW.trod enc P w 0 spare held fuel e)) with
        | none => dsimp only at h; rw [hm] at h; cases h
        | some elems =>
          have hel : ∀ i, i < len → ∃ ci xi, w.cells? 0 (a.add (i * P.cellsOf e)) (P.cellsOf e) = some ci ∧ Typ P k e xi ∧ Reads w ci xi := by
            intro i hi
            obtain ⟨y, h1, _⟩ := mapM_range_get hm i hi
            cases hcs : w.cells? 0 (a.add (i * P.cellsOf e)) (P.cellsOf e) with
            | none => rw [hcs] at h1; cases h1
            | some ci =>
              rw [hcs] at h1
              obtain ⟨xi, h2, h3⟩ := IH e ci y h1 hp1
              exact ⟨ci, xi, rfl, h2, h3⟩
          have hch : ∃ (cf : Nat → List Value) (xf : Nat → List C), ∀ i, i < len → w.cells? 0 (a.add (i * P.cellsOf e)) (P.cellsOf e) = some (cf i) ∧ Typ P k e (xf i) ∧ Reads w (cf i) (xf i) := by
            refine ⟨fun i => if h : i < len then (hel i h).choose else [], fun i => if h : i < len then (hel i h).choose_spec.choose else [], fun i hi => ?_⟩
            simp only [dif_pos hi]
            exact (hel i hi).choose_spec.choose_spec
          obtain ⟨cf, xf, hf⟩ := hch
          have hlen : ∀ i, i < len → (cf i).length = P.cellsOf e ∧ ∀ j, j < P.cellsOf e → w.cell? ((a.add (i * P.cellsOf e)).add j) = (cf i)[j]? := by
            intro i hi
            have h1 := (hf i hi).1
            unfold World.cells? at h1
            rw [if_pos (Nat.zero_le _)] at h1
            refine ⟨by have := mapM_len h1; simpa using this, fun j hj => ?_⟩
            obtain ⟨y, h2, h3⟩ := mapM_range_get h1 j hj
            rw [h2, h3]
          refine ⟨[.sl ((List.range len).map xf)], ⟨_, rfl, by simp; omega, fun x hx => ?_⟩, .one ?_⟩
          · obtain ⟨i, hi, rfl⟩ := List.mem_map.1 hx
            exact (hf i (by simpa using hi)).2.1
          · by_cases h0 : len = 0
            · subst h0; exact .slnil _ _ hcm
            · have h00 := (hlen 0 (by omega))
              have hpos : 0 < P.cellsOf e := by omega
              have hc0 := h00.2 0 hpos
              have hs : ∃ v, w.cell? a = some v := by
                have : (cf 0)[0]? = some ((cf 0)[0]'(by omega)) := List.getElem?_eq_getElem _
                rw [this] at hc0
                simp only [Nat.zero_mul, Addr.add, Nat.add_zero] at hc0
                exact ⟨_, hc0⟩
              obtain ⟨v0, hv0⟩ := hs
              have hspot : a.spot = none ∧ Cel w a.block := by
                unfold World.cell? at hv0
                split at hv0
                · rename_i c _ _ hb
                  split at hv0
                  · cases hv0
                  · rename_i hsp
                    exact ⟨by simpa using hsp, .of hb⟩
                · cases hv0
              obtain ⟨ab, ao, asp⟩ := a
              simp only at hspot
              obtain ⟨rfl, hb⟩ := hspot
              have he : len = ((List.range len).map xf).length := by simp
              have hget : ∀ (i : Nat) (x : List C), ((List.range len).map xf)[i]? = some x → i < len ∧ x = xf i := fun i x hx => by
                simp only [List.getElem?_map, Option.map_eq_some_iff] at hx
                obtain ⟨j, hj, rfl⟩ := hx
                have := List.getElem?_eq_some_iff.1 hj
                obtain ⟨h1, h2⟩ := this
                simp at h1 h2
                subst h2
                exact ⟨h1, rfl⟩
              conv => arg 3; rw [he]
              refine .sl ab ao cap (P.cellsOf e) _ (fun i j => (cf i).getD j .nilFunc) hb (by simpa using hlc) hcm (fun x hx => ?_) (fun i j x y hx hy => ?_) (fun i j x y hx hy => ?_)
              · obtain ⟨i, hi, rfl⟩ := List.mem_map.1 hx
                have hi : i < len := by simpa using hi
                rw [(hf i hi).2.2.1, (hlen i hi).1]
              · obtain ⟨hi, rfl⟩ := hget i x hx
                have hj : j < (cf i).length := by
                  rw [← (hf i hi).2.2.1]
                  exact (List.getElem?_eq_some_iff.1 hy).1
                have h1 := (hlen i hi).2 j (by rw [← (hlen i hi).1]; exact hj)
                rw [addr_add, addr_add] at h1
                rw [h1, List.getD_eq_getElem?_getD, List.getElem?_eq_getElem hj]
                rfl
              · obtain ⟨hi, rfl⟩ := hget i x hx
                have hj : j < (cf i).length := by
                  rw [← (hf i hi).2.2.1]
                  exact (List.getElem?_eq_some_iff.1 hy).1
                refine (hf i hi).2.2.2 j _ y ?_ hy
                rw [List.getD_eq_getElem?_getD, List.getElem?_eq_getElem hj]
                rfl
      · cases h
    · rename_i cs0 _ _ fs hu
      rw [hu] at hp ⊢
      split at h
      · rename_i hc
        simp only [beq_iff_eq] at hp
        rw [← hc] at hp
        cases hm : fs.toList.mapM (fun f => DataW.trod enc P w 0 spare held fuel f.type ((cs0.drop f.offset).take (P.cellsOf f.type))) with
        | none => rw [hm] at h; simp at h
        | some ys =>
          obtain ⟨xs, h1, h2⟩ := fields_conv IH fs.toList 0 ys hp hm
          exact ⟨xs, h1, by simpa using h2⟩
      · cases h
    · rename_i cs0 _ _ n e hu
      rw [hu] at hp ⊢
      simp only [Bool.and_eq_true, beq_iff_eq] at hp
      split at h
      · rename_i hc
        cases hm : (List.range n).mapM (fun i => DataW.trod enc P w 0 spare held fuel e ((cs0.drop (i * P.cellsOf e)).take (P.cellsOf e))) with
        | none => rw [hm] at h; simp at h
        | some ys =>
          obtain ⟨xs, h1, h2⟩ := array_conv (n := n) (sz := P.cellsOf e) (cs := cs0) IH hp.1 n 0 (by omega) (by rw [hp.2, hc]) (fun i hi => by
            obtain ⟨y, h3, _⟩ := mapM_range_get hm i hi
            exact ⟨y, h3⟩)
          exact ⟨xs, h1, by simpa using h2⟩
      · cases h
    all_goals (rename_i hu; first | (rw [hu] at hp; cases hp; done) | (cases h; done) | skip)

def one1 : List C → D
  | [x] => .c x
  | _ => .undef
def argD (P : Program) (t : TypeId) (xs : List C) : D := match P.underlying t with
  | some (.struct _) => .agg (xs.map .c)
  | some (.array _ _) => .agg (xs.map .c)
  | _ => one1 xs
theorem Reads.agg {cs : Array Value} {xs : List C} (h : Reads w cs.toList xs) : VRel (G0 (below w)) w (.agg cs) (.agg (xs.map .c)) := by
  refine .agg cs _ (by simpa using h.1.symm) fun i v d hv hd => ?_
  simp only [List.getElem?_map, Option.map_eq_some_iff] at hd
  obtain ⟨y, hy, rfl⟩ := hd
  exact .c _ _ (h.2 i v y (by simpa using hv) hy)
theorem arg_conv {r : Reach} {base k : Nat} {t : TypeId} {v : Value} {d : DataW H} {ps : List MemPlace} (hv : Value.okWide P w r base t v) (h : DataW.Trod enc P w 0 spare held t v d ps) (hp : plain P k t = true) :
    ∃ xs, Typ P k t xs ∧ VRel (G0 (below w)) w v (argD P t xs) := by
  obtain ⟨fuel, h⟩ := h
  obtain ⟨xs, h1, h2⟩ := trod_conv fuel k t _ _ h hp
  refine ⟨xs, h1, ?_⟩
  have one : ∀ (hc : v.cells = #[v]), VRel (G0 (below w)) w v (one1 xs) := by
    intro hc
    rw [hc] at h2
    match xs, h2 with
    | [], _ => exact .undef _
    | [x], h2 => exact .c _ _ (h2.2 0 v x rfl rfl)
    | _ :: _ :: _, _ => exact .undef _
  unfold argD
  unfold Value.okWide at hv
  split
  · rename_i fs hu
    rw [hu] at hv
    obtain ⟨cs, rfl, _⟩ := hv
    exact h2.agg
  · rename_i n e hu
    rw [hu] at hv
    obtain ⟨cs, rfl, _⟩ := hv
    exact h2.agg
  · rename_i hn1 hn2
    refine one ?_
    cases v <;> try rfl
    rename_i cs
    exfalso
    cases k with
    | zero => cases hp
    | succ k =>
      simp only [plain] at hp
      split at hv
      · rename_i fs hu; exact hn1 fs hu
      · rename_i n e hu; exact hn2 n e hu
      · unfold Cell.okWide at hv
        split at hp <;> rename_i hu <;> first | (rw [hu] at hv; simp [Cell.ok, hu] at hv; done) | (exact absurd hu (hn1 _)) | (exact absurd hu (hn2 _ _)) | cases hp
theorem below_of (w w' : World) (h : Ext w w') : RowKit.Below w.heap.size w w' := ⟨h.2.2.os, h.2.2.tape, h.2.2.out, h.1, h.2.1⟩
end
end Dm
namespace Dm
open Go
section
variable {P : Program} {n N : Nat}
theorem lk_opn {id k c sz t : Nat} : ∀ {tm : List (Nat × D)}, lk t (tm.map fun x => (x.1, opnD id k c sz x.2)) = (lk t tm).map (opnD id k c sz)
  | [] => rfl
  | (u, d) :: tm => by
    rw [List.map_cons, lk_cons, lk_cons]
    split
    · rfl
    · exact lk_opn
theorem SWm.opn {code : Code} {Q : Exit → St → Prop} {s : St} (id : Nat) {hd : Bool} {sz : Nat} {e : TypeId} {els : List (List C)} (ho : lk id s.os = some (.vec hd sz e els))
    (h : ∀ c, els.length ≤ c → c ≤ 9223372036854775807 → SWm P n N code Q ⟨s.tm.map fun x => (x.1, opnD id els.length c sz x.2), upd id (.vec hd sz e (fit c sz els)) s.os, s.nx⟩) : SWm P n N code Q s := fun δ g a w hr hn => by
  obtain ⟨c, g', h1, h2, h3, h4, h5⟩ := opn_rel (nx := s.nx) hr.o.tm ho
  have hr' : Rel δ g' ⟨s.tm.map fun x => (x.1, opnD id els.length c sz x.2), upd id (.vec hd sz e (fit c sz els)) s.os, s.nx⟩ a w := by
    refine ⟨fun t d ht => ?_, hr.defers, h3.tm⟩
    rw [lk_opn, Option.map_eq_some_iff] at ht
    obtain ⟨d0, hd0, rfl⟩ := ht
    obtain ⟨v, hv1, hv2⟩ := hr.tm t d0 hd0
    exact ⟨v, hv1, h5 v d0 hv2⟩
  have h4' : StepN N g s w g' ⟨s.tm.map fun x => (x.1, opnD id els.length c sz x.2), upd id (.vec hd sz e (fit c sz els)) s.os, s.nx⟩ w := (h4.toN (N := N)).tm
  refine wp_mono (h c h1 h2 δ g' a w hr' hn) fun e a' w' ⟨Ds, g2, s', q1, q2, q3, q4, q5, q6⟩ => ⟨Ds, g2, s', q1, q2, q3, q4, q5, h4'.trans q6⟩
end
end Dm
namespace Dm
open Go
section
variable {P : Program} {T : Tab} {n N : Nat} {s : St}
def slD : D → D
  | .nil => .c (.sl [])
  | d => d
theorem slD_or (d : D) : slD d = d ∨ d = .nil := by cases d <;> simp [slD]
theorem slD_rel {g : G} {w : World} {v : Value} {d : D} (h : VRel g w v d) : VRel g w v (slD d) := by
  rcases slD_or d with e | e
  · rw [e]; exact h
  · subst e
    cases h
    exact .c _ _ (.slnil _ _ (by decide))
theorem SWp.nilbox {c : Code} {Q : Exit → St → Prop} (id : Nat) {cs : List D} (h0 : lk id s.os = some (.box cs)) (h : SWp P n N c Q ⟨s.tm, (id, .box (cs.map slD)) :: s.os, s.nx⟩) : SWp P n N c Q s := by
  intro δ g a w hr hn
  have hl : ∀ {j : Nat} {o : Ob}, lk j ((id, .box (cs.map slD)) :: s.os) = some o → ∃ o', lk j s.os = some o' ∧ g.blk j o = g.blk j o' ∧ (OK g w j o' → OK g w j o) := fun {j o} hj => by
    rw [lk_cons] at hj
    split at hj
    · rename_i e
      cases hj
      refine ⟨.box cs, by rw [e]; exact h0, rfl, ?_⟩
      rintro ⟨b, e, cells, h1, h2, h3, h4⟩
      refine ⟨b, e, cells, h1, h2, by rw [List.length_map]; exact h3, fun i v d hv hd => ?_⟩
      rw [List.getElem?_map, Option.map_eq_some_iff] at hd
      obtain ⟨d', hd', rfl⟩ := hd
      exact slD_rel (h4 i v d' hv hd')
    · exact ⟨o, hj, rfl, fun h => h⟩
  have hb : ∀ {j : Nat} {o : Ob}, lk j s.os = some o → ∃ o', lk j ((id, .box (cs.map slD)) :: s.os) = some o' ∧ g.blk j o' = g.blk j o := fun {j o} hj => by
    by_cases e : j = id
    · subst e
      rw [h0] at hj; cases hj
      exact ⟨.box (cs.map slD), by rw [lk_cons, if_pos rfl], rfl⟩
    · exact ⟨o, by rw [lk_cons, if_neg e]; exact hj, rfl⟩
  have hown : ∀ b, Own g ⟨s.tm, (id, .box (cs.map slD)) :: s.os, s.nx⟩ b ↔ Own g s b := fun b => by
    constructor
    · rintro ⟨j, o, h1, h2⟩
      obtain ⟨o', h3, h4, _⟩ := hl h1
      exact ⟨j, o', h3, by rw [← h4]; exact h2⟩
    · rintro ⟨j, o, h1, h2⟩
      obtain ⟨o', h3, h4⟩ := hb h1
      exact ⟨j, o', h3, by rw [h4]; exact h2⟩
  have hr2 : Rel δ g ⟨s.tm, (id, .box (cs.map slD)) :: s.os, s.nx⟩ a w := by
    refine ⟨hr.tm, hr.defers, ⟨fun j o hj => ?_, fun j o j' o' b h1 h2 h3 h4 => ?_, hr.o.fresh, fun b hI => ⟨(hr.o.imm b hI).1, fun ho => (hr.o.imm b hI).2 ((hown b).1 ho)⟩, hr.o.cel⟩⟩
    · obtain ⟨o', h1, _, h3⟩ := hl hj
      exact h3 (hr.o.ok j o' h1)
    · obtain ⟨p, k1, k2, _⟩ := hl h1
      obtain ⟨p', k3, k4, _⟩ := hl h2
      exact hr.o.apart j p j' p' b k1 k3 (by rw [← k2]; exact h3) (by rw [← k4]; exact h4)
  refine wp_mono (h δ g a w hr2 hn) fun e a' w' ⟨g2, s2, h1, h2, h3, h4⟩ => ⟨g2, s2, h1, h2, h3, ?_⟩
  exact ⟨h4.ρ, h4.κ, h4.I, h4.size, fun b hb ho => h4.same b hb fun h => ho ((hown b).1 h), fun b hb ho => h4.own b hb fun h => ho ((hown b).1 h), fun b hb ho => h4.imm b hb fun h => ho ((hown b).1 h), h4.env⟩
end
end Dm
namespace Dm
open Go
theorem Cd.mk {a b : Prop} (h : a) (h1 : b) : a ∧ b := ⟨h, h1⟩
theorem cdA : type_of% (Cd.mk @cd_t (Cd.mk @cd_f (Cd.mk @cd_dec (Cd.mk @cd_not (Cd.mk @cd_and (Cd.mk @cd_or (Cd.mk @grd_tt (Cd.mk @grd_ff (Cd.mk @grd_tf (Cd.mk @grd_ft (Cd.mk @grd_dt (Cd.mk @grd_df (Cd.mk @grd_nt @grd_nf))))))))))))) := Cd.mk @cd_t (Cd.mk @cd_f (Cd.mk @cd_dec (Cd.mk @cd_not (Cd.mk @cd_and (Cd.mk @cd_or (Cd.mk @grd_tt (Cd.mk @grd_ff (Cd.mk @grd_tf (Cd.mk @grd_ft (Cd.mk @grd_dt (Cd.mk @grd_df (Cd.mk @grd_nt @grd_nf))))))))))))
theorem cdB : type_of% (Cd.mk @decide_true (Cd.mk @Bool.and_self (Cd.mk @Bool.true_and (Cd.mk @Ob.map.injEq (Cd.mk @Ob.it.injEq (Cd.mk @true_and @and_true)))))) := Cd.mk @decide_true (Cd.mk @Bool.and_self (Cd.mk @Bool.true_and (Cd.mk @Ob.map.injEq (Cd.mk @Ob.it.injEq (Cd.mk @true_and @and_true)))))
theorem cdN : type_of% (Cd.mk @false_implies (Cd.mk @true_implies (Cd.mk @not_false_eq_true @not_true_eq_false))) := Cd.mk @false_implies (Cd.mk @true_implies (Cd.mk @not_false_eq_true @not_true_eq_false))
end Dm
namespace Dm
open Go Go.Proofs Go.IntWalk
theorem follows_mixed : Tryz.prog.follows .mixedOrders = true := by kernel_rfl
@[go_sem] def isnan_r (x : Nat) : D := .bool false
@[go_sem] abbrev n_isnan : FuncId := 253
@[go_sem] def isnan_T : Tab := []
theorem isnan_T_ok : TabOk Tryz.prog isnan_T := TabOk.nil
set_option maxRecDepth 8000 in
set_option maxHeartbeats 1000000 in
theorem isnan_ok (x : Nat)  : PureFn Tryz.prog 253 [.c (.int .u64 (x : Int))] (isnan_r x) := by
  refine .of (ac253 isnan_T_ok (Nat.le_of_ble_eq_true rfl) ?_)
  simp -implicitDefEqProofs only [cdA, go_sem, Go.Proofs.Tryz.f253, reduceIte, reduceCtorEq, Nat.reduceEqDiff, Nat.reduceAdd, Nat.reduceLeDiff, Nat.reduceSub, Nat.reduceMul, Nat.reduceLT, Nat.reduceShiftRight, Nat.reduceMod, Int.reduceLE, Int.reduceLT, Int.reduceToNat, List.cons.injEq, cdB]
def sp_isnan : List D → Option (Prop × D × Fr)
  | [.c (.int .u64 z1)] => some (z1 = (z1.toNat : Int), isnan_r z1.toNat, [])
  | _ => none
attribute [go_sem] sp_isnan
theorem sp_isnan_ok : ∀ rs p r fr, sp_isnan rs = some (p, r, fr) → p → FnOk Tryz.prog 253 rs r fr := by
  intro rs p r fr h hp
  unfold sp_isnan at h
  split at h <;> cases h
  have hc0 := hp
  rename_i z1
  obtain ⟨z1, rfl⟩ : ∃ m : Nat, z1 = m := ⟨_, hc0⟩
  simp only [Int.toNat_natCast]
  exact isnan_ok z1
@[go_sem] def cmp_r (x : Nat) (y : Nat) : D := .int .i64 (cmpS x y)
@[go_sem] abbrev n_cmp : FuncId := 225
@[go_sem] def cmp_T : Tab := [(253, sp_isnan)]
theorem cmp_T_ok : TabOk Tryz.prog cmp_T := (TabOk.cons sp_isnan_ok TabOk.nil)
set_option maxRecDepth 8000 in
set_option maxHeartbeats 1000000 in
theorem cmp_ok (x : Nat) (y : Nat)  : PureFn Tryz.prog 225 [.c (.int .u64 (x : Int)), .c (.int .u64 (y : Int))] (cmp_r x y) := by
  refine .of (ac225 cmp_T_ok (Nat.le_of_ble_eq_true rfl) ?_)
  simp -implicitDefEqProofs only [cdA, go_sem, Go.Proofs.Tryz.f225, reduceIte, reduceCtorEq, Nat.reduceEqDiff, Nat.reduceAdd, Nat.reduceLeDiff, Nat.reduceSub, Nat.reduceMul, Nat.reduceLT, Nat.reduceShiftRight, Nat.reduceMod, Int.reduceLE, Int.reduceLT, Int.reduceToNat, List.cons.injEq, cdB]
  refine ⟨fun h => ?_, fun h => ⟨fun h1 => ?_, fun h1 => ?_⟩⟩ <;> simp [cmpS] <;> omega
def sp_cmp : List D → Option (Prop × D × Fr)
  | [.c (.int .u64 z2), .c (.int .u64 z3)] => some (z2 = (z2.toNat : Int) ∧ z3 = (z3.toNat : Int), cmp_r z2.toNat z3.toNat, [])
  | _ => none
attribute [go_sem] sp_cmp
theorem sp_cmp_ok : ∀ rs p r fr, sp_cmp rs = some (p, r, fr) → p → FnOk Tryz.prog 225 rs r fr := by
  intro rs p r fr h hp
  unfold sp_cmp at h
  split at h <;> cases h
  obtain ⟨hc0, hc1⟩ := hp
  rename_i z2 z3
  obtain ⟨z2, rfl⟩ : ∃ m : Nat, z2 = m := ⟨_, hc0⟩
  obtain ⟨z3, rfl⟩ : ∃ m : Nat, z3 = m := ⟨_, hc1⟩
  simp only [Int.toNat_natCast]
  exact cmp_ok z2 z3
def orS (l : List Int) : Int := (l.find? fun x => decide (¬ x = 0)).getD 0
@[go_sem] def cmpor_r (l : List Int) : D := .int .i64 (orS l)
@[go_sem] abbrev n_cmpor : FuncId := 226
@[go_sem] def cmpor_T : Tab := []
theorem cmpor_T_ok : TabOk Tryz.prog cmpor_T := TabOk.nil
set_option maxRecDepth 8000 in
set_option maxHeartbeats 1000000 in
theorem cmpor_ok (l : List Int)  : PureFn Tryz.prog 226 [.sl (i64s l)] (cmpor_r l) := by
  refine .of (ac226 cmpor_T_ok (Nat.le_of_ble_eq_true rfl) ?_)
  simp -implicitDefEqProofs only [cdA, go_sem, Go.Proofs.Tryz.f226, reduceIte, reduceCtorEq, Nat.reduceEqDiff, Nat.reduceAdd, Nat.reduceLeDiff, Nat.reduceSub, Nat.reduceMul, Nat.reduceLT, Nat.reduceShiftRight, Nat.reduceMod, Int.reduceLE, Int.reduceLT, Int.reduceToNat, List.cons.injEq, cdB]
  refine fun hl => SWp.loop (ι := { i : Nat // i ≤ l.length ∧ ∀ j, j < i → l.getD j default = 0 }) (fun i => ⟨[(3, .int .i64 0), (6, .sl (i64s l)), (7, .int .i64 l.length), (8, .int .i64 i.1)], [], 0⟩) (fun i => l.length - i.1) ⟨0, by simp⟩ ?_ ?_
  · simp [go_sem]
  · rintro ⟨i, hi, hall⟩
    refine awp_sound cmpor_T_ok.toS lv226 _ _ _ rfl ?_
    simp -implicitDefEqProofs only [cdA, go_sem, reduceIte, reduceCtorEq, Nat.reduceEqDiff, Nat.reduceAdd, Nat.reduceLeDiff, Nat.reduceSub, Nat.reduceMul, Nat.reduceLT, Nat.reduceShiftRight, Nat.reduceMod, Int.reduceLE, Int.reduceLT, Int.reduceToNat, List.cons.injEq, cdB]
    refine ⟨fun h => ⟨by omega, fun h1 => ⟨⟨i + 1, by omega, fun j hj => ?_⟩, by dsimp only; omega, i64_in _ (by omega)⟩, fun h1 => ?_⟩, fun h => ?_⟩
    · by_cases hji : j = i
      · subst hji; exact h1
      · exact hall j (by omega)
    · have hi' : i < l.length := by omega
      have : l.find? (fun x => decide (¬ x = 0)) = some (l.getD i default) := by
        rw [List.find?_eq_some_iff_getElem]
        refine ⟨by simpa using h1, i, hi', (getD_lt hi').symm, fun j hj => ?_⟩
        have := hall j hj
        rw [getD_lt (by omega)] at this
        simpa using this
      rw [orS, this]; rfl
    · have : l.find? (fun x => decide (¬ x = 0)) = none := by
        rw [List.find?_eq_none]
        intro x hx
        obtain ⟨j, hj, rfl⟩ := mem_getD.1 hx
        simpa using hall j (by omega)
      rw [orS, this]; rfl
def sp_cmpor : List D → Option (Prop × D × Fr)
  | [.c (.sl z4)] => some (z4 = i64s (di64s z4), cmpor_r (di64s z4), [])
  | _ => none
attribute [go_sem] sp_cmpor
theorem sp_cmpor_ok : ∀ rs p r fr, sp_cmpor rs = some (p, r, fr) → p → FnOk Tryz.prog 226 rs r fr := by
  intro rs p r fr h hp
  unfold sp_cmpor at h
  split at h <;> cases h
  have hc0 := hp
  rename_i z4
  obtain ⟨z4, rfl⟩ : ∃ m, z4 = i64s m := ⟨_, hc0⟩
  simp only [di64s_i64s]
  exact cmpor_ok z4
def maxS (l : List Nat) : Nat := l.foldl max 0
theorem maxS_succ {l : List Nat} {i : Nat} (h : i < l.length) : maxS (l.take (i + 1)) = max (maxS (l.take i)) (l.getD i default) := by
  rw [take_succ h, maxS, List.foldl_append]; rfl
@[go_sem] def smax_r (l : List Nat) : D := .int .u64 (maxS l : Int)
@[go_sem] abbrev n_smax : FuncId := 206
@[go_sem] def smax_T : Tab := [(253, sp_isnan)]
theorem smax_T_ok : TabOk Tryz.prog smax_T := (TabOk.cons sp_isnan_ok TabOk.nil)
set_option maxRecDepth 8000 in
set_option maxHeartbeats 1000000 in
theorem smax_ok (l : List Nat) (h : 0 < l.length) : PureFn Tryz.prog 206 [.sl (u64s l)] (smax_r l) := by
  refine .of (ac206 smax_T_ok (Nat.le_of_ble_eq_true rfl) ?_)
  simp -implicitDefEqProofs only [cdA, go_sem, Go.Proofs.Tryz.f206, reduceIte, reduceCtorEq, Nat.reduceEqDiff, Nat.reduceAdd, Nat.reduceLeDiff, Nat.reduceSub, Nat.reduceMul, Nat.reduceLT, Nat.reduceShiftRight, Nat.reduceMod, Int.reduceLE, Int.reduceLT, Int.reduceToNat, List.cons.injEq, cdB]
  refine fun hl => ⟨fun h1 => by omega, fun h1 => ⟨by omega, ?_⟩⟩
  refine SWp.loop (ι := { i : Nat // 0 < i ∧ i ≤ l.length }) (fun i => ⟨[(0, .sl (u64s l)), (3, .int .u64 (maxS (l.take i.1) : Nat)), (4, .int .i64 i.1)], [], 0⟩) (fun i => l.length - i.1) ⟨1, by omega⟩ ?_ ?_
  · have : maxS (l.take 1) = l.getD 0 default := by rw [maxS_succ h]; simp [maxS]
    simp [go_sem, this]
  · rintro ⟨i, hi0, hi⟩
    refine awp_sound smax_T_ok.toS lv206 _ _ _ rfl ?_
    simp -implicitDefEqProofs only [cdA, go_sem, reduceIte, reduceCtorEq, Nat.reduceEqDiff, Nat.reduceAdd, Nat.reduceLeDiff, Nat.reduceSub, Nat.reduceMul, Nat.reduceLT, Nat.reduceShiftRight, Nat.reduceMod, Int.reduceLE, Int.reduceLT, Int.reduceToNat, List.cons.injEq, cdB]
    refine fun _ => ⟨fun h2 => ⟨by omega, ⟨i + 1, by omega, by omega⟩, by dsimp only; omega, ?_, i64_in _ (by omega)⟩, fun h2 => ?_⟩
    · rw [maxS_succ (by omega)]; omega
    · rw [List.take_of_length_le (by omega)]
@[go_sem] def smax_p (l : List Nat) : Prop := (0 < l.length)
def sp_smax : List D → Option (Prop × D × Fr)
  | [.c (.sl z5)] => some (z5 = u64s (du64s z5) ∧ smax_p (du64s z5), smax_r (du64s z5), [])
  | _ => none
attribute [go_sem] sp_smax
theorem sp_smax_ok : ∀ rs p r fr, sp_smax rs = some (p, r, fr) → p → FnOk Tryz.prog 206 rs r fr := by
  intro rs p r fr h hp
  unfold sp_smax at h
  split at h <;> cases h
  obtain ⟨hc0, hp⟩ := hp
  rename_i z5
  obtain ⟨z5, rfl⟩ : ∃ m, z5 = u64s m := ⟨_, hc0⟩
  simp only [du64s_u64s]
  simp only [du64s_u64s, smax_p] at hp
  exact smax_ok z5 hp
def monS (l : List Nat) : Int := if l.all (fun n => decide (n ≤ 4611686018427387904)) = true then 0 else 1
theorem max_all {l : List Nat} {m : Nat} : l.foldl max m ≤ 4611686018427387904 ↔ m ≤ 4611686018427387904 ∧ l.all (fun n => decide (n ≤ 4611686018427387904)) = true := by
  induction l generalizing m with
  | nil => simp
  | cons x l ih =>
    rw [List.foldl_cons, ih, List.all_cons]
    simp only [Bool.and_eq_true, decide_eq_true_eq, ← and_assoc]
    refine and_congr_left fun _ => ?_
    omega
@[go_sem] def moncheck_r (l : List Nat) : D := .int .i64 (monS l)
@[go_sem] abbrev n_moncheck : FuncId := 122
@[go_sem] def moncheck_T : Tab := [(206, sp_smax)]
theorem moncheck_T_ok : TabOk Tryz.prog moncheck_T := (TabOk.cons sp_smax_ok TabOk.nil)
set_option maxRecDepth 8000 in
set_option maxHeartbeats 1000000 in
theorem moncheck_ok (l : List Nat)  : PureFn Tryz.prog 122 [.sl (u64s l)] (moncheck_r l) := by
  refine .of (ac122 moncheck_T_ok (Nat.le_of_ble_eq_true rfl) ?_)
  simp -implicitDefEqProofs only [cdA, go_sem, Go.Proofs.Tryz.f122, reduceIte, reduceCtorEq, Nat.reduceEqDiff, Nat.reduceAdd, Nat.reduceLeDiff, Nat.reduceSub, Nat.reduceMul, Nat.reduceLT, Nat.reduceShiftRight, Nat.reduceMod, Int.reduceLE, Int.reduceLT, Int.reduceToNat, List.cons.injEq, cdB]
  have hm := max_all (l := l) (m := 0)
  refine fun h => ⟨fun h1 => ⟨by omega, fun h2 => ?_, fun h2 => ?_⟩, fun h1 => ?_⟩
  · rw [monS, if_neg]; intro h3; have := hm.2 ⟨by omega, h3⟩; unfold maxS at h2; omega
  · rw [monS, if_pos]; unfold maxS at h2; exact (hm.1 (by omega)).2
  · have : l = [] := List.eq_nil_of_length_eq_zero (by omega)
    subst this; rfl
def sp_moncheck : List D → Option (Prop × D × Fr)
  | [.c (.sl z6)] => some (z6 = u64s (du64s z6), moncheck_r (du64s z6), [])
  | _ => none
attribute [go_sem] sp_moncheck
theorem sp_moncheck_ok : ∀ rs p r fr, sp_moncheck rs = some (p, r, fr) → p → FnOk Tryz.prog 122 rs r fr := by
  intro rs p r fr h hp
  unfold sp_moncheck at h
  split at h <;> cases h
  have hc0 := hp
  rename_i z6
  obtain ⟨z6, rfl⟩ : ∃ m, z6 = u64s m := ⟨_, hc0⟩
  simp only [du64s_u64s]
  exact moncheck_ok z6
def addM (l : List Nat) : Nat × Int := if monS l = 0 then (if l.sum ≤ 4611686018427387904 then (l.sum, 0) else (0, 8)) else (0, 1)
theorem sum_take {l : List Nat} {i : Nat} (h : i < l.length) : (l.take (i + 1)).sum = (l.take i).sum + l.getD i default := by
  rw [take_succ h]; simp
theorem sum_le {l : List Nat} {i : Nat} : (l.take i).sum ≤ l.sum := by
  conv => rhs; rw [← List.take_append_drop i l]
  rw [List.sum_append]
  omega
theorem monS_get {l : List Nat} (h : monS l = 0) {i : Nat} (hi : i < l.length) : l.getD i default ≤ 4611686018427387904 := by
  unfold monS at h
  split at h
  · rename_i h1
    have := List.all_eq_true.1 h1 _ (mem_getD.2 ⟨i, hi, rfl⟩)
    simpa using this
  · cases h
theorem monS_1 {l : List Nat} (h : ¬ monS l = 0) : monS l = 1 := by
  unfold monS at *; split <;> simp_all
@[go_sem] def monadd_r (l : List Nat) : D := .tup [.int .u64 ((addM l).1 : Int), .int .i64 (addM l).2]
@[go_sem] abbrev n_monadd : FuncId := 198
@[go_sem] def monadd_T : Tab := [(122, sp_moncheck)]
theorem monadd_T_ok : TabOk Tryz.prog monadd_T := (TabOk.cons sp_moncheck_ok TabOk.nil)
set_option maxRecDepth 8000 in
set_option maxHeartbeats 1000000 in
theorem monadd_ok (l : List Nat)  : PureFn Tryz.prog 198 [.sl (u64s l)] (monadd_r l) := by
  refine .of (ac198 monadd_T_ok (Nat.le_of_ble_eq_true rfl) ?_)
  simp -implicitDefEqProofs only [cdA, go_sem, Go.Proofs.Tryz.f198, reduceIte, reduceCtorEq, Nat.reduceEqDiff, Nat.reduceAdd, Nat.reduceLeDiff, Nat.reduceSub, Nat.reduceMul, Nat.reduceLT, Nat.reduceShiftRight, Nat.reduceMod, Int.reduceLE, Int.reduceLT, Int.reduceToNat, List.cons.injEq, cdB]
  refine ⟨fun h hl => ?_, fun h => ?_⟩
  · refine SWp.loop (ι := { i : Nat // i ≤ l.length ∧ (l.take i).sum ≤ 4611686018427387904 }) (fun i => ⟨[(2, .int .u64 ((l.take i.1).sum : Nat)), (11, .sl (u64s l)), (12, .int .i64 l.length), (13, .int .i64 i.1)], [], 0⟩) (fun i => l.length - i.1) ⟨0, by simp⟩ ?_ ?_
    · simp [go_sem]
    · rintro ⟨i, hi, hs⟩
      refine awp_sound monadd_T_ok.toS lv198 _ _ _ rfl ?_
      simp -implicitDefEqProofs only [cdA, go_sem, reduceIte, reduceCtorEq, Nat.reduceEqDiff, Nat.reduceAdd, Nat.reduceLeDiff, Nat.reduceSub, Nat.reduceMul, Nat.reduceLT, Nat.reduceShiftRight, Nat.reduceMod, Int.reduceLE, Int.reduceLT, Int.reduceToNat, List.cons.injEq, cdB]
      refine ⟨fun h1 => ?_, fun h1 => ?_⟩
      · have hi' : i < l.length := by omega
        have hg := monS_get h hi'
        have hst := sum_take hi'
        have hle := sum_le (l := l) (i := i + 1)
        rw [u64_in _ (by omega)]
        refine ⟨by omega, fun h2 => ?_, fun h2 => ⟨⟨i + 1, by omega, by omega⟩, by dsimp only; omega, by dsimp only; omega, i64_in _ (by omega)⟩⟩
        rw [addM, if_pos h, if_neg (by omega)]; exact ⟨rfl, rfl⟩
      · rw [List.take_of_length_le (by omega)] at hs ⊢
        rw [addM, if_pos h, if_pos hs]; exact ⟨rfl, rfl⟩
  · rw [addM, if_neg h]
    exact ⟨rfl, monS_1 h⟩
def sp_monadd : List D → Option (Prop × D × Fr)
  | [.c (.sl z7)] => some (z7 = u64s (du64s z7), monadd_r (du64s z7), [])
  | _ => none
attribute [go_sem] sp_monadd
theorem sp_monadd_ok : ∀ rs p r fr, sp_monadd rs = some (p, r, fr) → p → FnOk Tryz.prog 198 rs r fr := by
  intro rs p r fr h hp
  unfold sp_monadd at h
  split at h <;> cases h
  have hc0 := hp
  rename_i z7
  obtain ⟨z7, rfl⟩ : ∃ m, z7 = u64s m := ⟨_, hc0⟩
  simp only [du64s_u64s]
  exact monadd_ok z7
theorem mon1 (n : Nat) : monS [n] = if n ≤ 4611686018427387904 then 0 else 1 := by simp [monS]
theorem mon1_0 {n : Nat} : monS [n] = 0 ↔ n ≤ 4611686018427387904 := by rw [mon1]; split <;> simp_all
theorem mon2 (a b : Nat) : monS [a, b] = if a ≤ 4611686018427387904 ∧ b ≤ 4611686018427387904 then 0 else 1 := by simp [monS]
theorem addM_0 {l : List Nat} : (addM l).2 = 0 ↔ (∀ x ∈ l, x ≤ 4611686018427387904) ∧ l.sum ≤ 4611686018427387904 := by
  unfold addM monS
  simp only [List.all_eq_true, decide_eq_true_eq]
  by_cases h : ∀ x ∈ l, x ≤ 4611686018427387904
  · rw [if_pos h]
    by_cases h2 : l.sum ≤ 4611686018427387904
    · simp [h2]; exact h
    · simp [h2]
  · rw [if_neg h]; simp [h]
theorem addM_1 {l : List Nat} (h : (addM l).2 = 0) : (addM l).1 = l.sum := by
  have h1 := addM_0.1 h
  unfold addM monS
  simp only [List.all_eq_true, decide_eq_true_eq]
  rw [if_pos h1.1, if_pos rfl, if_pos h1.2]
end Dm
namespace Dm
open Go Go.Proofs Go.IntWalk
structure Cv where
  kind : Int
  a : Nat
  b : Nat
deriving DecidableEq, Inhabited
@[go_sem] def Cv.enc (e : Cv) : List C := [.int .i64 e.kind, .int .u64 (e.a : Int), .int .u64 (e.b : Int)]
def Cv.dec : List C → Cv
  | [.int .i64 z2, .int .u64 z3, .int .u64 z4] => (⟨z2, z3.toNat, z4.toNat⟩ : Cv)
  | _ => default
def cvs (l : List Cv) : List (List C) := l.map Cv.enc
def dcvs (l : List (List C)) : List Cv := l.map Cv.dec
@[simp, go_sem] theorem cvs_length (l : List Cv) : (cvs l).length = l.length := by simp [cvs]
@[go_sem] theorem cvs_get (l : List Cv) (i : Nat) : (cvs l).getD i [.int .i64 0, .int .u64 0, .int .u64 0] = (l.getD i default).enc := by
  simp only [cvs, List.getD_eq_getElem?_getD, List.getElem?_map]
  cases l[i]? <;> rfl
@[go_sem] theorem cvs_wide (l : List Cv) : Wide 3 (cvs l) = True := by
  simp [Wide, cvs, Cv.enc]
theorem Cv.dec_enc (e : Cv) : Cv.dec e.enc = e := by
  simp [Cv.enc, Cv.dec]
@[go_sem] theorem dcvs_cvs (l : List Cv) : dcvs (cvs l) = l := by
  simp only [dcvs, cvs, List.map_map]
  exact List.map_id'' (fun e => Cv.dec_enc e) l
@[go_sem] theorem cvs_app (a b : List Cv) : cvs a ++ cvs b = cvs (a ++ b) := by simp [cvs]
@[go_sem] theorem cvs_drop (l : List Cv) (k : Nat) : (cvs l).drop k = cvs (l.drop k) := by simp [cvs]
@[go_sem] theorem cvs_take (l : List Cv) (k : Nat) : (cvs l).take k = cvs (l.take k) := by simp [cvs]
@[go_sem] theorem cvs_one (z5 : Int) (z6 : Int) (z7 : Int) (hz6 : 0 ≤ z6) (hz7 : 0 ≤ z7) : [[C.int .i64 z5, C.int .u64 z6, C.int .u64 z7]] = cvs [⟨z5, z6.toNat, z7.toNat⟩] := by simp [cvs, Cv.enc, Int.toNat_of_nonneg hz6, Int.toNat_of_nonneg hz7]
@[go_sem] theorem cvs_set (l : List Cv) (i : Nat) (z5 : Int) (z6 : Int) (z7 : Int) (hz6 : 0 ≤ z6) (hz7 : 0 ≤ z7) : (cvs l).set i [C.int .i64 z5, C.int .u64 z6, C.int .u64 z7] = cvs (l.set i ⟨z5, z6.toNat, z7.toNat⟩) := by simp [cvs, List.map_set, Cv.enc, Int.toNat_of_nonneg hz6, Int.toNat_of_nonneg hz7]
@[go_sem] theorem cvs_cons (l : List Cv) (z5 : Int) (z6 : Int) (z7 : Int) (hz6 : 0 ≤ z6) (hz7 : 0 ≤ z7) : [C.int .i64 z5, C.int .u64 z6, C.int .u64 z7] :: cvs l = cvs (⟨z5, z6.toNat, z7.toNat⟩ :: l) := by simp [cvs, Cv.enc, Int.toNat_of_nonneg hz6, Int.toNat_of_nonneg hz7]
@[go_sem] theorem cvs_flat (l : List Cv) : flatE (cvs l) = True := eq_true fun x hx c hc => by
  obtain ⟨e, _, rfl⟩ := List.mem_map.1 hx
  simp only [Cv.enc, List.mem_cons, List.not_mem_nil, or_false] at hc
  rcases hc with rfl | rfl | rfl <;> rfl
@[go_sem] theorem Cv.eta {e : Cv} : (⟨e.kind, e.a, e.b⟩ : Cv) = e := rfl
structure Ct where
  root : Nat
  b : Nat
  n : Nat
deriving DecidableEq, Inhabited
@[go_sem] def Ct.enc (e : Ct) : List C := [.int .u64 (e.root : Int), .int .u64 (e.b : Int), .int .u64 (e.n : Int)]
def Ct.dec : List C → Ct
  | [.int .u64 z9, .int .u64 z10, .int .u64 z11] => (⟨z9.toNat, z10.toNat, z11.toNat⟩ : Ct)
  | _ => default
def cts (l : List Ct) : List (List C) := l.map Ct.enc
def dcts (l : List (List C)) : List Ct := l.map Ct.dec
@[simp, go_sem] theorem cts_length (l : List Ct) : (cts l).length = l.length := by simp [cts]
@[go_sem] theorem cts_get (l : List Ct) (i : Nat) : (cts l).getD i [.int .u64 0, .int .u64 0, .int .u64 0] = (l.getD i default).enc := by
  simp only [cts, List.getD_eq_getElem?_getD, List.getElem?_map]
  cases l[i]? <;> rfl
@[go_sem] theorem cts_wide (l : List Ct) : Wide 3 (cts l) = True := by
  simp [Wide, cts, Ct.enc]
theorem Ct.dec_enc (e : Ct) : Ct.dec e.enc = e := by
  simp [Ct.enc, Ct.dec]
@[go_sem] theorem dcts_cts (l : List Ct) : dcts (cts l) = l := by
  simp only [dcts, cts, List.map_map]
  exact List.map_id'' (fun e => Ct.dec_enc e) l
@[go_sem] theorem cts_app (a b : List Ct) : cts a ++ cts b = cts (a ++ b) := by simp [cts]
@[go_sem] theorem cts_drop (l : List Ct) (k : Nat) : (cts l).drop k = cts (l.drop k) := by simp [cts]
@[go_sem] theorem cts_take (l : List Ct) (k : Nat) : (cts l).take k = cts (l.take k) := by simp [cts]
@[go_sem] theorem cts_one (z12 : Int) (z13 : Int) (z14 : Int) (hz12 : 0 ≤ z12) (hz13 : 0 ≤ z13) (hz14 : 0 ≤ z14) : [[C.int .u64 z12, C.int .u64 z13, C.int .u64 z14]] = cts [⟨z12.toNat, z13.toNat, z14.toNat⟩] := by simp [cts, Ct.enc, Int.toNat_of_nonneg hz12, Int.toNat_of_nonneg hz13, Int.toNat_of_nonneg hz14]
@[go_sem] theorem cts_set (l : List Ct) (i : Nat) (z12 : Int) (z13 : Int) (z14 : Int) (hz12 : 0 ≤ z12) (hz13 : 0 ≤ z13) (hz14 : 0 ≤ z14) : (cts l).set i [C.int .u64 z12, C.int .u64 z13, C.int .u64 z14] = cts (l.set i ⟨z12.toNat, z13.toNat, z14.toNat⟩) := by simp [cts, List.map_set, Ct.enc, Int.toNat_of_nonneg hz12, Int.toNat_of_nonneg hz13, Int.toNat_of_nonneg hz14]
@[go_sem] theorem cts_cons (l : List Ct) (z12 : Int) (z13 : Int) (z14 : Int) (hz12 : 0 ≤ z12) (hz13 : 0 ≤ z13) (hz14 : 0 ≤ z14) : [C.int .u64 z12, C.int .u64 z13, C.int .u64 z14] :: cts l = cts (⟨z12.toNat, z13.toNat, z14.toNat⟩ :: l) := by simp [cts, Ct.enc, Int.toNat_of_nonneg hz12, Int.toNat_of_nonneg hz13, Int.toNat_of_nonneg hz14]
@[go_sem] theorem cts_flat (l : List Ct) : flatE (cts l) = True := eq_true fun x hx c hc => by
  obtain ⟨e, _, rfl⟩ := List.mem_map.1 hx
  simp only [Ct.enc, List.mem_cons, List.not_mem_nil, or_false] at hc
  rcases hc with rfl | rfl | rfl <;> rfl
@[go_sem] theorem Ct.eta {e : Ct} : (⟨e.root, e.b, e.n⟩ : Ct) = e := rfl
@[go_sem] theorem Ct.eqD {a b : Ct} : eqD Tryz.prog 160 [D.c (.int .u64 (a.root : Int)), D.c (.int .u64 (a.b : Int)), D.c (.int .u64 (a.n : Int))] [D.c (.int .u64 (b.root : Int)), D.c (.int .u64 (b.b : Int)), D.c (.int .u64 (b.n : Int))] = some (decide (a = b)) := by
  cases a; cases b
  simp only [Dm.eqD, eqOf_160, eqCells, eqC, List.getElem?_cons_zero, List.getElem?_cons_succ, if_true, Option.some.injEq, Ct.mk.injEq]
  rw [Bool.eq_iff_iff]
  simp [Int.ofNat_inj]
def cavS (c : Cv) : Int := if (c.kind = 4 ∧ c.a ≤ 4611686018427387904) ∨ (c.b = 0 ∧ ((c.kind = 3 ∧ c.a ≤ 4611686018427387904) ∨ (c.kind = 2 ∧ c.a < 65536) ∨ c.kind = 1 ∨ c.kind = 5)) then 0 else 1
@[go_sem] def cavcheck_r (c : Cv) : D := .int .i64 (cavS c)
@[go_sem] abbrev n_cavcheck : FuncId := 58
@[go_sem] def cavcheck_T : Tab := [(122, sp_moncheck)]
theorem cavcheck_T_ok : TabOk Tryz.prog cavcheck_T := (TabOk.cons sp_moncheck_ok TabOk.nil)
set_option maxRecDepth 8000 in
set_option maxHeartbeats 1000000 in
theorem cavcheck_ok (c : Cv)  : PureFn Tryz.prog 58 [.agg [.c (.int .i64 c.kind), .c (.int .u64 (c.a : Int)), .c (.int .u64 (c.b : Int))]] (cavcheck_r c) := by
  refine .of (ac58 cavcheck_T_ok (Nat.le_of_ble_eq_true rfl) ?_)
  simp -implicitDefEqProofs only [cdA, go_sem, Go.Proofs.Tryz.f58, reduceIte, reduceCtorEq, Nat.reduceEqDiff, Nat.reduceAdd, Nat.reduceLeDiff, Nat.reduceSub, Nat.reduceMul, Nat.reduceLT, Nat.reduceShiftRight, Nat.reduceMod, Int.reduceLE, Int.reduceLT, Int.reduceToNat, List.cons.injEq, cdB]
  have e0 : (2 ^ min 16 64 : Int) = 65536 := rfl
  have e1 : 0 < (c.a : Int).fdiv (2 ^ min 16 64) ↔ 65536 ≤ c.a := by
    rw [e0, Int.fdiv_eq_ediv_of_nonneg _ (by decide)]; omega
  rw [e1, mon1]
  unfold cavS
  split <;> split <;> simp <;> omega
def sp_cavcheck : List D → Option (Prop × D × Fr)
  | [.agg [.c (.int .i64 z16), .c (.int .u64 z17), .c (.int .u64 z18)]] => some (z17 = (z17.toNat : Int) ∧ z18 = (z18.toNat : Int), cavcheck_r (⟨z16, z17.toNat, z18.toNat⟩ : Cv), [])
  | _ => none
attribute [go_sem] sp_cavcheck
theorem sp_cavcheck_ok : ∀ rs p r fr, sp_cavcheck rs = some (p, r, fr) → p → FnOk Tryz.prog 58 rs r fr := by
  intro rs p r fr h hp
  unfold sp_cavcheck at h
  split at h <;> cases h
  obtain ⟨hc0, hc1⟩ := hp
  rename_i z16 z17 z18
  obtain ⟨z17, rfl⟩ : ∃ m : Nat, z17 = m := ⟨_, hc0⟩
  obtain ⟨z18, rfl⟩ : ∃ m : Nat, z18 = m := ⟨_, hc1⟩
  simp only [Int.toNat_natCast]
  exact cavcheck_ok ⟨z16, z17, z18⟩
end Dm
namespace Dm
open Go Go.Proofs Go.IntWalk
def widN (c : Nat) : Nat := if c < 253 then 0 else 2 * 2 ^ (c - 253)
@[go_sem] def wide_r (c : Nat) : D := .int .i64 (widN c : Nat)
@[go_sem] abbrev n_wide : FuncId := 124
@[go_sem] def wide_T : Tab := []
theorem wide_T_ok : TabOk Tryz.prog wide_T := TabOk.nil
set_option maxRecDepth 8000 in
set_option maxHeartbeats 1000000 in
theorem wide_ok (c : Nat) (h : c ≤ 255) : PureFn Tryz.prog 124 [.c (.int .u8 (c : Int))] (wide_r c) := by
  refine .of (ac124 wide_T_ok (Nat.le_of_ble_eq_true rfl) ?_)
  simp -implicitDefEqProofs only [cdA, go_sem, Go.Proofs.Tryz.f124, reduceIte, reduceCtorEq, Nat.reduceEqDiff, Nat.reduceAdd, Nat.reduceLeDiff, Nat.reduceSub, Nat.reduceMul, Nat.reduceLT, Nat.reduceShiftRight, Nat.reduceMod, Int.reduceLE, Int.reduceLT, Int.reduceToNat, List.cons.injEq, cdB]
  unfold widN
  refine ⟨fun h1 => by rw [if_pos (by omega)]; rfl, fun h1 => ?_⟩
  rw [if_neg (by omega)]
  have h2 : c = 253 ∨ c = 254 ∨ c = 255 := by omega
  rcases h2 with rfl | rfl | rfl <;> rfl
@[go_sem] def wide_p (c : Nat) : Prop := (c ≤ 255)
def sp_wide : List D → Option (Prop × D × Fr)
  | [.c (.int .u8 z1)] => some (z1 = (z1.toNat : Int) ∧ wide_p z1.toNat, wide_r z1.toNat, [])
  | _ => none
attribute [go_sem] sp_wide
theorem sp_wide_ok : ∀ rs p r fr, sp_wide rs = some (p, r, fr) → p → FnOk Tryz.prog 124 rs r fr := by
  intro rs p r fr h hp
  unfold sp_wide at h
  split at h <;> cases h
  obtain ⟨hc0, hp⟩ := hp
  rename_i z1
  obtain ⟨z1, rfl⟩ : ∃ m : Nat, z1 = m := ⟨_, hc0⟩
  simp only [Int.toNat_natCast]
  simp only [Int.toNat_natCast, wide_p] at hp
  exact wide_ok z1 hp
def firN (n : Nat) : Nat := if n < 253 then n else if n < 65536 then 253 else if n < 4294967296 then 254 else 255
def firB (n : Nat) : UInt8 := UInt8.ofNat (firN n)
theorem firB_nat (n : Nat) : (firB n).toNat = firN n := by
  rw [firB, UInt8.toNat_ofNat']
  unfold firN
  split
  · omega
  · split
    · rfl
    · split <;> rfl
@[go_sem] def first_r (n : Nat) : D := .int .u8 ((firB n).toNat : Int)
@[go_sem] abbrev n_first : FuncId := 123
@[go_sem] def first_T : Tab := []
theorem first_T_ok : TabOk Tryz.prog first_T := TabOk.nil
set_option maxRecDepth 8000 in
set_option maxHeartbeats 1000000 in
theorem first_ok (n : Nat)  : PureFn Tryz.prog 123 [.c (.int .u64 (n : Int))] (first_r n) := by
  refine .of (ac123 first_T_ok (Nat.le_of_ble_eq_true rfl) ?_)
  simp -implicitDefEqProofs only [cdA, go_sem, Go.Proofs.Tryz.f123, reduceIte, reduceCtorEq, Nat.reduceEqDiff, Nat.reduceAdd, Nat.reduceLeDiff, Nat.reduceSub, Nat.reduceMul, Nat.reduceLT, Nat.reduceShiftRight, Nat.reduceMod, Int.reduceLE, Int.reduceLT, Int.reduceToNat, List.cons.injEq, cdB]
  rw [firB_nat]
  unfold firN
  refine ⟨fun h1 => ?_, fun h1 => ⟨fun h2 => ?_, fun h2 => ⟨fun h3 => ?_, fun h3 => ?_⟩⟩⟩
  · rw [if_pos (by omega), w8_wrap, w8, UInt8.toNat_ofNat']; omega
  · rw [if_neg (by omega), if_pos (by omega)]; rfl
  · rw [if_neg (by omega), if_neg (by omega), if_pos (by omega)]; rfl
  · rw [if_neg (by omega), if_neg (by omega), if_neg (by omega)]; rfl
def sp_first : List D → Option (Prop × D × Fr)
  | [.c (.int .u64 z2)] => some (z2 = (z2.toNat : Int), first_r z2.toNat, [])
  | _ => none
attribute [go_sem] sp_first
theorem sp_first_ok : ∀ rs p r fr, sp_first rs = some (p, r, fr) → p → FnOk Tryz.prog 123 rs r fr := by
  intro rs p r fr h hp
  unfold sp_first at h
  split at h <;> cases h
  have hc0 := hp
  rename_i z2
  obtain ⟨z2, rfl⟩ : ∃ m : Nat, z2 = m := ⟨_, hc0⟩
  simp only [Int.toNat_natCast]
  exact first_ok z2
def bigT (n : Nat) : List UInt8 := (List.range (widN (firN n))).map fun k => w8 ((n : Int) / 2 ^ (8 * (widN (firN n) - 1 - k)))
def bigB (n : Nat) : List UInt8 := firB n :: bigT n
def putB (l : List Nat) : List UInt8 := l.flatMap bigB
theorem putB_succ {l : List Nat} {i : Nat} (h : i < l.length) : putB (l.take (i + 1)) = putB (l.take i) ++ (firB (l.getD i default) :: bigT (l.getD i default)) := by
  rw [take_succ h, putB, List.flatMap_append]; simp [putB, bigB]
theorem bigT_len (n : Nat) : (bigT n).length = widN (firN n) := by simp [bigT]
theorem widN_le (n : Nat) : widN (firN n) ≤ 8 := by
  unfold firN
  split
  · rename_i h; rw [widN, if_pos h]; omega
  · split
    · decide
    · split <;> decide
theorem putB_len {l : List Nat} {i : Nat} : (putB (l.take i)).length ≤ i * 9 := by
  induction i generalizing l with
  | zero => simp [putB]
  | succ i ih =>
    cases l with
    | nil => simp [putB]
    | cons a l =>
      have h1 : putB ((a :: l).take (i + 1)) = bigB a ++ putB (l.take i) := by simp [putB]
      have h2 : (bigB a).length = widN (firN a) + 1 := by simp [bigB, bigT_len]
      rw [h1, List.length_append, h2]
      have := ih (l := l)
      have := widN_le a
      omega
@[go_sem] def bput_r (l : List Nat) : D := .sl (u8s (putB l))
@[go_sem] abbrev n_bput : FuncId := 61
@[go_sem] def bput_T : Tab := [(124, sp_wide), (123, sp_first)]
theorem bput_T_ok : TabOk Tryz.prog bput_T := (TabOk.cons sp_wide_ok (TabOk.cons sp_first_ok TabOk.nil))
set_option maxRecDepth 8000 in
set_option maxHeartbeats 1000000 in
theorem bput_ok (l : List Nat) (hl : l.length ≤ 1000000) : PureFn Tryz.prog 61 [.sl (u64s l)] (bput_r l) := by
  refine .of (ac61 bput_T_ok (Nat.le_of_ble_eq_true rfl) ?_)
  simp -implicitDefEqProofs only [cdA, go_sem, Go.Proofs.Tryz.f61, reduceIte, reduceCtorEq, Nat.reduceEqDiff, Nat.reduceAdd, Nat.reduceLeDiff, Nat.reduceSub, Nat.reduceMul, Nat.reduceLT, Nat.reduceShiftRight, Nat.reduceMod, Int.reduceLE, Int.reduceLT, Int.reduceToNat, List.cons.injEq, cdB]
  refine fun _ => SWp.nilvec 3 1 5 rfl (Nat.zero_le _) ?_
  refine SWp.loop (ι := { i : Nat // i ≤ l.length }) (fun i => ⟨[(3, .vec 0 (putB (l.take i.1)).length), (8, .sl (u64s l)), (9, .int .i64 l.length), (10, .int .i64 i.1)], [(0, .vec true 1 5 (u8s (putB (l.take i.1))))], 1⟩) (fun i => l.length - i.1) ⟨0, by simp⟩ ?_ ?_
  · simp [go_sem, putB, u8s]
  · rintro ⟨i, hi⟩
    refine awp_sound bput_T_ok.toS lv61 _ _ _ rfl ?_
    simp -implicitDefEqProofs only [cdA, go_sem, reduceIte, reduceCtorEq, Nat.reduceEqDiff, Nat.reduceAdd, Nat.reduceLeDiff, Nat.reduceSub, Nat.reduceMul, Nat.reduceLT, Nat.reduceShiftRight, Nat.reduceMod, Int.reduceLE, Int.reduceLT, Int.reduceToNat, List.cons.injEq, cdB]
    have hpl := putB_len (l := l) (i := i)
    refine ⟨fun h1 => ⟨h1, by omega, by have := (firB (l.getD i default)).toNat_lt; omega, ?_⟩, fun h1 => ?_⟩
    rotate_left 1
    · have : i = l.length := by omega
      subst this
      rw [List.take_length]
      exact ⟨rfl, _, _, _, rfl⟩
    have hi' : i < l.length := by omega
    rw [firB_nat]
    generalize hn : l.getD i default = n at *
    refine SWp.loop (ι := { k : Nat // k ≤ widN (firN n) }) (fun k => ⟨[(3, .vec 0 ((putB (l.take i)) ++ (firB n :: (bigT n).take k.1)).length), (5, .c (.int .u64 n)), (6, .int .u8 (firN n : Nat)), (8, .sl (u64s l)), (9, .int .i64 l.length), (10, .int .i64 i), (21, .int .i64 (widN (firN n) : Nat)), (22, .int .i64 k.1)],
      [(0, .vec true 1 5 (u8s (putB (l.take i) ++ (firB n :: (bigT n).take k.1))))], 2⟩) (fun k => widN (firN n) - k.1) ⟨0, by simp⟩ ?_ ?_
    · simp [go_sem]
    · rintro ⟨k, hk⟩
      refine awp_sound bput_T_ok.toS lv61 _ _ _ rfl ?_
      simp -implicitDefEqProofs only [cdA, go_sem, reduceIte, reduceCtorEq, Nat.reduceEqDiff, Nat.reduceAdd, Nat.reduceLeDiff, Nat.reduceSub, Nat.reduceMul, Nat.reduceLT, Nat.reduceShiftRight, Nat.reduceMod, Int.reduceLE, Int.reduceLT, Int.reduceToNat, List.cons.injEq, cdB]
      have hw := widN_le n
      have htl : ((bigT n).take k).length = k := by rw [List.length_take, bigT_len]; omega
      have hfn : firN n ≤ 255 := by rw [← firB_nat]; have := (firB n).toNat_lt; omega
      refine ⟨fun h2 => ?_, fun h2 => ?_⟩
      · have hk' : k < widN (firN n) := by omega
        have e1 : IntKind.i64.wrap (8 * IntKind.i64.wrap (IntKind.i64.wrap ((widN (firN n) : Nat) - (1 : Int)) - k)) = ((8 * (widN (firN n) - 1 - k) : Nat) : Int) := by
          have a1 : IntKind.i64.wrap ((widN (firN n) : Nat) - (1 : Int)) = ((widN (firN n) - 1 : Nat) : Int) := by rw [i64_in _ (by omega)]; omega
          have a2 : IntKind.i64.wrap (((widN (firN n) - 1 : Nat) : Int) - k) = ((widN (firN n) - 1 - k : Nat) : Int) := by rw [i64_in _ (by omega)]; omega
          rw [a1, a2, i64_in _ (by omega)]; omega
        have e2 : (bigT n).take (k + 1) = (bigT n).take k ++ [w8 ((n : Int) / 2 ^ (8 * (widN (firN n) - 1 - k)))] := by
          rw [List.take_succ_eq_append_getElem (by rw [bigT_len]; exact hk')]
          simp [bigT]
        have e3 : min (8 * (widN (firN n) - 1 - k)) 64 = 8 * (widN (firN n) - 1 - k) := by omega
        rw [e1, htl, Int.toNat_natCast, e3, Int.fdiv_eq_ediv_of_nonneg _ (Int.le_of_lt (Int.pow_pos (by decide)))]
        refine ⟨hfn, by omega, by omega, ⟨k + 1, hk'⟩, by dsimp only; omega, ⟨?_, i64_in _ (by omega)⟩, by rw [e2]⟩
        rw [e2, List.length_append, htl]; rfl
      · have hk' : k = widN (firN n) := by omega
        have e2 : (bigT n).take k = bigT n := List.take_of_length_le (by rw [bigT_len]; omega)
        have e3 := putB_succ hi'
        rw [hn] at e3
        refine ⟨⟨i + 1, hi'⟩, by dsimp only; omega, ⟨?_, i64_in _ (by omega)⟩, by rw [e2, e3]⟩
        dsimp only
        rw [e3, List.length_append, List.length_cons, e2]
@[go_sem] def bput_p (l : List Nat) : Prop := (l.length ≤ 1000000)
def sp_bput : List D → Option (Prop × D × Fr)
  | [.c (.sl z3)] => some (z3 = u64s (du64s z3) ∧ bput_p (du64s z3), bput_r (du64s z3), [])
  | _ => none
attribute [go_sem] sp_bput
theorem sp_bput_ok : ∀ rs p r fr, sp_bput rs = some (p, r, fr) → p → FnOk Tryz.prog 61 rs r fr := by
  intro rs p r fr h hp
  unfold sp_bput at h
  split at h <;> cases h
  obtain ⟨hc0, hp⟩ := hp
  rename_i z3
  obtain ⟨z3, rfl⟩ : ∃ m, z3 = u64s m := ⟨_, hc0⟩
  simp only [du64s_u64s]
  simp only [du64s_u64s, bput_p] at hp
  exact bput_ok z3 hp
end Dm
namespace Dm
open Go Go.Proofs Go.IntWalk
structure Tm where
  key : Nat
  up : Int
  text : List UInt8
deriving DecidableEq, Inhabited
@[go_sem] def Tm.enc (e : Tm) : List C := [.int .u64 (e.key : Int), .int .i64 e.up, .sl (u8s e.text)]
def Tm.dec : List C → Tm
  | [.int .u64 z2, .int .i64 z3, .sl z4] => (⟨z2.toNat, z3, (du8s z4)⟩ : Tm)
  | _ => default
def tms (l : List Tm) : List (List C) := l.map Tm.enc
def dtms (l : List (List C)) : List Tm := l.map Tm.dec
@[simp, go_sem] theorem tms_length (l : List Tm) : (tms l).length = l.length := by simp [tms]
@[go_sem] theorem tms_get (l : List Tm) (i : Nat) : (tms l).getD i [.int .u64 0, .int .i64 0, .sl []] = (l.getD i default).enc := by
  simp only [tms, List.getD_eq_getElem?_getD, List.getElem?_map]
  cases l[i]? <;> rfl
@[go_sem] theorem tms_wide (l : List Tm) : Wide 3 (tms l) = True := by
  simp [Wide, tms, Tm.enc]
theorem Tm.dec_enc (e : Tm) : Tm.dec e.enc = e := by
  simp [Tm.enc, Tm.dec, du8s_u8s]
@[go_sem] theorem dtms_tms (l : List Tm) : dtms (tms l) = l := by
  simp only [dtms, tms, List.map_map]
  exact List.map_id'' (fun e => Tm.dec_enc e) l
@[go_sem] theorem tms_app (a b : List Tm) : tms a ++ tms b = tms (a ++ b) := by simp [tms]
@[go_sem] theorem tms_drop (l : List Tm) (k : Nat) : (tms l).drop k = tms (l.drop k) := by simp [tms]
@[go_sem] theorem tms_take (l : List Tm) (k : Nat) : (tms l).take k = tms (l.take k) := by simp [tms]
@[go_sem] theorem tms_one (z5 : Int) (z6 : Int) (z7 : List UInt8) (hz5 : 0 ≤ z5) : [[C.int .u64 z5, C.int .i64 z6, C.sl (u8s z7)]] = tms [⟨z5.toNat, z6, z7⟩] := by simp [tms, Tm.enc, Int.toNat_of_nonneg hz5]
@[go_sem] theorem tms_set (l : List Tm) (i : Nat) (z5 : Int) (z6 : Int) (z7 : List UInt8) (hz5 : 0 ≤ z5) : (tms l).set i [C.int .u64 z5, C.int .i64 z6, C.sl (u8s z7)] = tms (l.set i ⟨z5.toNat, z6, z7⟩) := by simp [tms, List.map_set, Tm.enc, Int.toNat_of_nonneg hz5]
@[go_sem] theorem tms_cons (l : List Tm) (z5 : Int) (z6 : Int) (z7 : List UInt8) (hz5 : 0 ≤ z5) : [C.int .u64 z5, C.int .i64 z6, C.sl (u8s z7)] :: tms l = tms (⟨z5.toNat, z6, z7⟩ :: l) := by simp [tms, Tm.enc, Int.toNat_of_nonneg hz5]
@[go_sem] theorem Tm.eta {e : Tm} : (⟨e.key, e.up, e.text⟩ : Tm) = e := rfl
structure Ar where
  l : List Tm
deriving DecidableEq, Inhabited
@[go_sem] def Ar.enc (e : Ar) : List C := [.sl (tms e.l)]
def Ar.dec : List C → Ar
  | [.sl z9] => (⟨(dtms z9)⟩ : Ar)
  | _ => default
def ars (l : List Ar) : List (List C) := l.map Ar.enc
def dars (l : List (List C)) : List Ar := l.map Ar.dec
@[simp, go_sem] theorem ars_length (l : List Ar) : (ars l).length = l.length := by simp [ars]
@[go_sem] theorem ars_get (l : List Ar) (i : Nat) : (ars l).getD i [.sl []] = (l.getD i default).enc := by
  simp only [ars, List.getD_eq_getElem?_getD, List.getElem?_map]
  cases l[i]? <;> rfl
@[go_sem] theorem ars_wide (l : List Ar) : Wide 1 (ars l) = True := by
  simp [Wide, ars, Ar.enc]
theorem Ar.dec_enc (e : Ar) : Ar.dec e.enc = e := by
  simp [Ar.enc, Ar.dec, dtms_tms]
@[go_sem] theorem dars_ars (l : List Ar) : dars (ars l) = l := by
  simp only [dars, ars, List.map_map]
  exact List.map_id'' (fun e => Ar.dec_enc e) l
@[go_sem] theorem ars_app (a b : List Ar) : ars a ++ ars b = ars (a ++ b) := by simp [ars]
@[go_sem] theorem ars_drop (l : List Ar) (k : Nat) : (ars l).drop k = ars (l.drop k) := by simp [ars]
@[go_sem] theorem ars_take (l : List Ar) (k : Nat) : (ars l).take k = ars (l.take k) := by simp [ars]
@[go_sem] theorem ars_one (z10 : List Tm) : [[C.sl (tms z10)]] = ars [⟨z10⟩] := by simp [ars, Ar.enc]
@[go_sem] theorem ars_set (l : List Ar) (i : Nat) (z10 : List Tm) : (ars l).set i [C.sl (tms z10)] = ars (l.set i ⟨z10⟩) := by simp [ars, List.map_set, Ar.enc]
@[go_sem] theorem ars_cons (l : List Ar) (z10 : List Tm) : [C.sl (tms z10)] :: ars l = ars (⟨z10⟩ :: l) := by simp [ars, Ar.enc]
@[go_sem] theorem Ar.eta {e : Ar} : (⟨e.l⟩ : Ar) = e := rfl
def nmT (t : Tm) : NK := (t.key, t.up, t.text)
@[go_sem] def aof_r (t : Tm) : D := .agg [.int .u64 t.key, .int .i64 t.up, .c (.str (bstr t.text))]
@[go_sem] abbrev n_aof : FuncId := 200
@[go_sem] def aof_T : Tab := []
theorem aof_T_ok : TabOk Tryz.prog aof_T := TabOk.nil
set_option maxRecDepth 8000 in
set_option maxHeartbeats 1000000 in
theorem aof_ok (t : Tm)  : PureFn Tryz.prog 200 [.agg [.c (.int .u64 (t.key : Int)), .c (.int .i64 t.up), .sl (u8s t.text)]] (aof_r t) := by
  refine .of (ac200 aof_T_ok (Nat.le_of_ble_eq_true rfl) ?_)
  simp -implicitDefEqProofs only [cdA, go_sem, Go.Proofs.Tryz.f200, reduceIte, reduceCtorEq, Nat.reduceEqDiff, Nat.reduceAdd, Nat.reduceLeDiff, Nat.reduceSub, Nat.reduceMul, Nat.reduceLT, Nat.reduceShiftRight, Nat.reduceMod, Int.reduceLE, Int.reduceLT, Int.reduceToNat, List.cons.injEq, cdB]
def sp_aof : List D → Option (Prop × D × Fr)
  | [.agg [.c (.int .u64 z14), .c (.int .i64 z15), .c (.sl z16)]] => some (z14 = (z14.toNat : Int) ∧ z16 = u8s (du8s z16), aof_r (⟨z14.toNat, z15, (du8s z16)⟩ : Tm), [])
  | _ => none
attribute [go_sem] sp_aof
theorem sp_aof_ok : ∀ rs p r fr, sp_aof rs = some (p, r, fr) → p → FnOk Tryz.prog 200 rs r fr := by
  intro rs p r fr h hp
  unfold sp_aof at h
  split at h <;> cases h
  obtain ⟨hc0, hc1⟩ := hp
  rename_i z14 z15 z16
  obtain ⟨z14, rfl⟩ : ∃ m : Nat, z14 = m := ⟨_, hc0⟩
  obtain ⟨z16, rfl⟩ : ∃ m, z16 = u8s m := ⟨_, hc1⟩
  simp only [Int.toNat_natCast, du8s_u8s]
  exact aof_ok ⟨z14, z15, z16⟩
def bkO : Nat → List Tm → List (NK × Int)
  | _, [] => []
  | o, t :: l => (nmT t, (o : Int)) :: bkO (o + 1) l
def bkA (l : List Tm) : List (NK × Int) := bkO 0 l
theorem bkO_app : ∀ {l : List Tm} {o : Nat} {t : Tm}, bkO o (l ++ [t]) = bkO o l ++ [(nmT t, ((o + l.length : Nat) : Int))]
  | [], o, t => rfl
  | x :: l, o, t => by
    rw [List.cons_append, bkO, bkO, bkO_app, List.length_cons, List.cons_append, show o + 1 + l.length = o + (l.length + 1) by omega]
theorem bkO_no : ∀ {l : List Tm} {o : Nat} {k : NK}, alk k (bkO o l) = none ↔ k ∉ l.map nmT
  | [], o, k => by simp [bkO, alk]
  | x :: l, o, k => by
    rw [bkO, alk, List.map_cons, List.mem_cons]
    by_cases h : nmT x = k
    · rw [if_pos h]; simp [h]
    · rw [if_neg h, bkO_no]
      constructor
      · rintro h1 (h2 | h2)
        · exact h h2.symm
        · exact h1 h2
      · exact fun h1 h2 => h1 (.inr h2)
theorem bkO_set : ∀ {l : List Tm} {o : Nat} {k : NK} {v : Int}, k ∉ l.map nmT → aset k v (bkO o l) = bkO o l ++ [(k, v)]
  | [], o, k, v, _ => rfl
  | x :: l, o, k, v, h => by
    rw [List.map_cons, List.mem_cons, not_or] at h
    rw [bkO, aset, if_neg (fun e => h.1 e.symm), bkO_set h.2]; rfl
def okTm (i : Nat) (t : Tm) : Prop := -1 ≤ t.up ∧ t.up < i ∧ (-1 < t.up → t.key = 0) ∧ t.text.length ≤ 4096
instance (i : Nat) (t : Tm) : Decidable (okTm i t) := by unfold okTm; infer_instance
def okAr (l : List Tm) : Prop := l.length ≤ 1048576 ∧ (l.map nmT).Nodup ∧ ∀ i ∈ List.range l.length, okTm i (l.getD i default)
instance (l : List Tm) : Decidable (okAr l) := by unfold okAr; infer_instance
def readA (l : List Tm) : List (NK × Int) × Int := if okAr l then (bkA l, 0) else ([], 1)
@[go_sem] def aread_r (a : Ar) : D := .tup [.c (.map nkt (kvMF (readA a.l).1)), .int .i64 (readA a.l).2]
@[go_sem] abbrev n_aread : FuncId := 118
@[go_sem] def aread_T : Tab := [(200, sp_aof)]
theorem aread_T_ok : TabOk Tryz.prog aread_T := (TabOk.cons sp_aof_ok TabOk.nil)
set_option maxRecDepth 8000 in
set_option maxHeartbeats 1000000 in
theorem aread_ok (a : Ar)  : PureFn Tryz.prog 118 [.agg [.sl (tms a.l)]] (aread_r a) := by
  refine .of (ac118 aread_T_ok (Nat.le_of_ble_eq_true rfl) ?_)
  simp -implicitDefEqProofs only [cdA, go_sem, Go.Proofs.Tryz.f118, reduceIte, reduceCtorEq, Nat.reduceEqDiff, Nat.reduceAdd, Nat.reduceLeDiff, Nat.reduceSub, Nat.reduceMul, Nat.reduceLT, Nat.reduceShiftRight, Nat.reduceMod, Int.reduceLE, Int.reduceLT, Int.reduceToNat, List.cons.injEq, cdB]
  have hbad : ¬ okAr a.l → kvMF (readA a.l).1 = [] ∧ 1 = (readA a.l).2 := fun h => by rw [readA, if_neg h]; exact ⟨rfl, rfl⟩
  generalize ha : a.l = l at *
  refine fun _ => ⟨fun h1 => hbad fun h => by have := h.1; omega, fun h1 _ => ?_⟩
  refine SWp.loop (ι := { i : Nat // i ≤ l.length ∧ ((l.take i).map nmT).Nodup ∧ ∀ j, j < i → okTm j (l.getD j default) }) (fun i => ⟨[(4, .mp 1), (15, .sl (tms l)), (16, .int .i64 l.length), (17, .int .i64 i.1)], [(1, .map [.int .u64, .int .i64, .str] (kvM (bkA (l.take i.1)))), (0, .box [.sl (tms l)])], 2⟩) (fun i => l.length - i.1) ⟨0, by simp, by simp, by simp⟩ ?_ ?_
  · simp [go_sem, bkA, bkO, kvM]
  · rintro ⟨i, hi, hnd, hall⟩
    refine awp_sound aread_T_ok.toS lv118 _ _ _ rfl ?_
    simp -implicitDefEqProofs only [cdA, go_sem, reduceIte, reduceCtorEq, Nat.reduceEqDiff, Nat.reduceAdd, Nat.reduceLeDiff, Nat.reduceSub, Nat.reduceMul, Nat.reduceLT, Nat.reduceShiftRight, Nat.reduceMod, Int.reduceLE, Int.reduceLT, Int.reduceToNat, List.cons.injEq, cdB]
    refine ⟨fun h2 => ?_, fun h2 => ?_⟩
    rotate_left 1
    · have hi' : i = l.length := by omega
      subst hi'
      rw [List.take_length] at hnd ⊢
      have hr : readA l = (bkA l, 0) := by rw [readA, if_pos ⟨by omega, hnd, fun j hj => hall j (List.mem_range.1 hj)⟩]
      rw [hr]
      exact ⟨⟨_, _, rfl, kvC_kvM, List.Perm.refl _⟩, rfl⟩
    have hi' : i < l.length := by omega
    have htk := take_succ hi'
    have hin : okAr l → okTm i (l.getD i default) := fun h => h.2.2 i (List.mem_range.2 hi')
    have hstep : nmT (l.getD i default) ∉ (l.take i).map nmT → okTm i (l.getD i default) → ∃ i_1 : { i : Nat // i ≤ l.length ∧ ((l.take i).map nmT).Nodup ∧ ∀ j, j < i → okTm j (l.getD j default) }, l.length - i_1.1 < l.length - i ∧ IntKind.i64.wrap ((i : Int) + 1) = i_1.1 ∧ kvM (aset (nmT (l.getD i default)) (i : Int) (bkA (l.take i))) = kvM (bkA (l.take i_1.1)) := fun hnot hok => by
      refine ⟨⟨i + 1, hi', ?_, fun j hj => ?_⟩, by dsimp only; omega, i64_in _ (by omega), ?_⟩
      · rw [htk, List.map_append, List.nodup_append]
        refine ⟨hnd, by simp, fun x hx y hy => ?_⟩
        simp at hy
        rintro rfl
        exact hnot (hy ▸ hx)
      · by_cases hji : j = i
        · subst hji; exact hok
        · exact hall j (by omega)
      · dsimp only
        rw [htk, bkA, bkA, bkO_app, bkO_set hnot, List.length_take, Nat.min_eq_left hi, Nat.zero_add]
    have hdup : ∀ a : Int, alk (nmT (l.getD i default)) (bkA (l.take i)) = some a → ¬ okAr l := fun a ha ho => by
      have h3 : nmT (l.getD i default) ∈ (l.take i).map nmT := by
        refine Classical.byContradiction fun h => ?_
        rw [bkA, bkO_no.2 h] at ha; cases ha
      have h4 : ((l.take (i + 1)).map nmT).Nodup := ((List.take_prefix _ _).map _).sublist.nodup ho.2.1
      rw [htk, List.map_append, List.nodup_append] at h4
      exact h4.2.2 _ h3 _ (by simp) rfl
    have hnon : alk (nmT (l.getD i default)) (bkA (l.take i)) = none → nmT (l.getD i default) ∉ (l.take i).map nmT := fun h => bkO_no.1 h
    change ∀ a : Int, alk ((l.getD i default).key, (l.getD i default).up, (l.getD i default).text) (bkA (l.take i)) = some a → ¬ okAr l at hdup
    change alk ((l.getD i default).key, (l.getD i default).up, (l.getD i default).text) (bkA (l.take i)) = none → nmT (l.getD i default) ∉ (l.take i).map nmT at hnon
    change _ → _ → ∃ i_1 : { i : Nat // i ≤ l.length ∧ ((l.take i).map nmT).Nodup ∧ ∀ j, j < i → okTm j (l.getD j default) }, l.length - i_1.1 < l.length - i ∧ IntKind.i64.wrap ((i : Int) + 1) = i_1.1 ∧ kvM (aset ((l.getD i default).key, (l.getD i default).up, (l.getD i default).text) (i : Int) (bkA (l.take i))) = kvM (bkA (l.take i_1.1)) at hstep
    generalize l.getD i default = t at *
    refine ⟨h2, fun a ha => hbad (hdup a ha), fun hno => ⟨fun h3 => ⟨fun h4 => ⟨fun h5 => ⟨fun h6 _ => ⟨fun h7 => hbad fun ho => ?_, fun h7 => hstep (hnon hno) ⟨by omega, by omega, fun _ => by omega, by omega⟩⟩, fun h6 => hbad fun ho => ?_⟩, fun h5 _ => ⟨fun h7 => hbad fun ho => ?_, fun h7 => hstep (hnon hno) ⟨by omega, by omega, fun h => absurd h h5, by omega⟩⟩⟩, fun h4 => hbad fun ho => ?_⟩, fun h3 => hbad fun ho => ?_⟩⟩
    · have := (hin ho).2.2.2; omega
    · have := (hin ho).2.2.1 h5; omega
    · have := (hin ho).2.2.2; omega
    · have := (hin ho).2.1; omega
    · have := (hin ho).1; omega
def sp_aread : List D → Option (Prop × D × Fr)
  | [.agg [.c (.sl z18)]] => some (z18 = tms (dtms z18), aread_r (⟨(dtms z18)⟩ : Ar), [])
  | _ => none
attribute [go_sem] sp_aread
theorem sp_aread_ok : ∀ rs p r fr, sp_aread rs = some (p, r, fr) → p → FnOk Tryz.prog 118 rs r fr := by
  intro rs p r fr h hp
  unfold sp_aread at h
  split at h <;> cases h
  have hc0 := hp
  rename_i z18
  obtain ⟨z18, rfl⟩ : ∃ m, z18 = tms m := ⟨_, hc0⟩
  simp only [dtms_tms]
  exact aread_ok ⟨z18⟩
def chkAr (l : List Tm) : Int := (readA l).2
@[go_sem] def archeck_r (a : Ar) : D := .int .i64 (chkAr a.l)
@[go_sem] abbrev n_archeck : FuncId := 54
@[go_sem] def archeck_T : Tab := [(118, sp_aread)]
theorem archeck_T_ok : TabOk Tryz.prog archeck_T := (TabOk.cons sp_aread_ok TabOk.nil)
set_option maxRecDepth 8000 in
set_option maxHeartbeats 1000000 in
theorem archeck_ok (a : Ar)  : PureFn Tryz.prog 54 [.agg [.sl (tms a.l)]] (archeck_r a) := by
  refine .of (ac54 archeck_T_ok (Nat.le_of_ble_eq_true rfl) ?_)
  simp -implicitDefEqProofs only [cdA, go_sem, Go.Proofs.Tryz.f54, reduceIte, reduceCtorEq, Nat.reduceEqDiff, Nat.reduceAdd, Nat.reduceLeDiff, Nat.reduceSub, Nat.reduceMul, Nat.reduceLT, Nat.reduceShiftRight, Nat.reduceMod, Int.reduceLE, Int.reduceLT, Int.reduceToNat, List.cons.injEq, cdB]
  rfl
def sp_archeck : List D → Option (Prop × D × Fr)
  | [.agg [.c (.sl z20)]] => some (z20 = tms (dtms z20), archeck_r (⟨(dtms z20)⟩ : Ar), [])
  | _ => none
attribute [go_sem] sp_archeck
theorem sp_archeck_ok : ∀ rs p r fr, sp_archeck rs = some (p, r, fr) → p → FnOk Tryz.prog 54 rs r fr := by
  intro rs p r fr h hp
  unfold sp_archeck at h
  split at h <;> cases h
  have hc0 := hp
  rename_i z20
  obtain ⟨z20, rfl⟩ : ∃ m, z20 = tms m := ⟨_, hc0⟩
  simp only [dtms_tms]
  exact archeck_ok ⟨z20⟩
end Dm
namespace Dm
open Go Go.Proofs Go.IntWalk
@[go_sem] def u8clone_r (l : List UInt8) : D := .sl (u8s l)
@[go_sem] abbrev n_u8clone : FuncId := 137
@[go_sem] def u8clone_T : Tab := []
theorem u8clone_T_ok : TabOk Tryz.prog u8clone_T := TabOk.nil
set_option maxRecDepth 8000 in
set_option maxHeartbeats 1000000 in
theorem u8clone_ok (l : List UInt8) (h : l.length ≤ 1000000) : PureFn Tryz.prog 137 [.sl (u8s l)] (u8clone_r l) := by
  refine .of (ac137 u8clone_T_ok (Nat.le_of_ble_eq_true rfl) ?_)
  simp -implicitDefEqProofs only [cdA, go_sem, Go.Proofs.Tryz.f137, reduceIte, reduceCtorEq, Nat.reduceEqDiff, Nat.reduceAdd, Nat.reduceLeDiff, Nat.reduceSub, Nat.reduceMul, Nat.reduceLT, Nat.reduceShiftRight, Nat.reduceMod, Int.reduceLE, Int.reduceLT, Int.reduceToNat, List.cons.injEq, cdB]
  exact fun b hb => ⟨hb, fun _ => ⟨by omega, _, _, _, rfl⟩⟩
@[go_sem] def u8clone_p (l : List UInt8) : Prop := (l.length ≤ 1000000)
def sp_u8clone : List D → Option (Prop × D × Fr)
  | [.c (.sl z1)] => some (z1 = u8s (du8s z1) ∧ u8clone_p (du8s z1), u8clone_r (du8s z1), [])
  | _ => none
attribute [go_sem] sp_u8clone
theorem sp_u8clone_ok : ∀ rs p r fr, sp_u8clone rs = some (p, r, fr) → p → FnOk Tryz.prog 137 rs r fr := by
  intro rs p r fr h hp
  unfold sp_u8clone at h
  split at h <;> cases h
  obtain ⟨hc0, hp⟩ := hp
  rename_i z1
  obtain ⟨z1, rfl⟩ : ∃ m, z1 = u8s m := ⟨_, hc0⟩
  simp only [du8s_u8s]
  simp only [du8s_u8s, u8clone_p] at hp
  exact u8clone_ok z1 hp
@[go_sem] def tmclone_r (l : List Tm) : D := .vec 0 l.length
@[go_sem] def tmclone_fr (l : List Tm) : Fr := [(3, 83, true, tms l)]
@[go_sem] abbrev n_tmclone : FuncId := 133
@[go_sem] def tmclone_T : Tab := []
theorem tmclone_T_ok : TabOk Tryz.prog tmclone_T := TabOk.nil
set_option maxRecDepth 8000 in
set_option maxHeartbeats 1000000 in
theorem tmclone_ok (l : List Tm) (hl : l.length ≤ 2000000) : FreshFn Tryz.prog 133 [.sl (tms l)] (tmclone_r l) (tmclone_fr l) := by
  refine .of (ac133 tmclone_T_ok (Nat.le_of_ble_eq_true rfl) ?_)
  simp -implicitDefEqProofs only [cdA, go_sem, Go.Proofs.Tryz.f133, reduceIte, reduceCtorEq, Nat.reduceEqDiff, Nat.reduceAdd, Nat.reduceLeDiff, Nat.reduceSub, Nat.reduceMul, Nat.reduceLT, Nat.reduceShiftRight, Nat.reduceMod, Int.reduceLE, Int.reduceLT, Int.reduceToNat, List.cons.injEq, cdB]
  refine fun b hb => ⟨fun h => ?_, fun h => ?_⟩
  · exact ⟨[none], by simp [go_sem, hb h], by cases l <;> simp_all [go_sem, tms]⟩
  · exact ⟨by omega, [some 0], by simp [go_sem]⟩
@[go_sem] def tmclone_p (l : List Tm) : Prop := (l.length ≤ 2000000)
def sp_tmclone : List D → Option (Prop × D × Fr)
  | [.c (.sl z2)] => some (z2 = tms (dtms z2) ∧ tmclone_p (dtms z2), tmclone_r (dtms z2), tmclone_fr (dtms z2))
  | _ => none
attribute [go_sem] sp_tmclone
theorem sp_tmclone_ok : ∀ rs p r fr, sp_tmclone rs = some (p, r, fr) → p → FnOk Tryz.prog 133 rs r fr := by
  intro rs p r fr h hp
  unfold sp_tmclone at h
  split at h <;> cases h
  obtain ⟨hc0, hp⟩ := hp
  rename_i z2
  obtain ⟨z2, rfl⟩ : ∃ m, z2 = tms m := ⟨_, hc0⟩
  simp only [dtms_tms]
  simp only [dtms_tms, tmclone_p] at hp
  exact (show FnOk _ _ _ _ _ from And.intro rfl (tmclone_ok z2 hp))
@[go_sem] def tmclip_r (l : List Tm) : D := .csl (tms l)
@[go_sem] abbrev n_tmclip : FuncId := 201
@[go_sem] def tmclip_T : Tab := []
theorem tmclip_T_ok : TabOk Tryz.prog tmclip_T := TabOk.nil
set_option maxRecDepth 8000 in
set_option maxHeartbeats 1000000 in
theorem tmclip_ok (l : List Tm)  : PureFn Tryz.prog 201 [.sl (tms l)] (tmclip_r l) := by
  refine .of (ac201 tmclip_T_ok (Nat.le_of_ble_eq_true rfl) ?_)
  simp -implicitDefEqProofs only [cdA, go_sem, Go.Proofs.Tryz.f201, reduceIte, reduceCtorEq, Nat.reduceEqDiff, Nat.reduceAdd, Nat.reduceLeDiff, Nat.reduceSub, Nat.reduceMul, Nat.reduceLT, Nat.reduceShiftRight, Nat.reduceMod, Int.reduceLE, Int.reduceLT, Int.reduceToNat, List.cons.injEq, cdB]
  exact fun _ _ => ⟨Int.le_refl _, by rw [List.take_length]⟩
def sp_tmclip : List D → Option (Prop × D × Fr)
  | [.c (.sl z3)] => some (z3 = tms (dtms z3), tmclip_r (dtms z3), [])
  | _ => none
attribute [go_sem] sp_tmclip
theorem sp_tmclip_ok : ∀ rs p r fr, sp_tmclip rs = some (p, r, fr) → p → FnOk Tryz.prog 201 rs r fr := by
  intro rs p r fr h hp
  unfold sp_tmclip at h
  split at h <;> cases h
  have hc0 := hp
  rename_i z3
  obtain ⟨z3, rfl⟩ : ∃ m, z3 = tms m := ⟨_, hc0⟩
  simp only [dtms_tms]
  exact tmclip_ok z3
def putA (l : List Tm) (t : Tm) : List Tm × Int × Int :=
  if ¬ okAr l ∨ (l.length : Int) ≤ t.up then ([], 0, 1) else if 4096 < t.text.length then ([], 0, 4) else
  match alk (nmT t) (bkA l) with
  | some i => (l, i, 0)
  | none => if l.length = 1048576 then ([], 0, 7) else (l ++ [t], l.length, 0)
@[go_sem] def aput_r (a : Ar) (t : Tm) : D := .tup [.agg [.sl (tms (putA a.l t).1)], .int .i64 (putA a.l t).2.1, .int .i64 (putA a.l t).2.2]
@[go_sem] abbrev n_aput : FuncId := 119
@[go_sem] def aput_T : Tab := [(118, sp_aread), (200, sp_aof), (137, sp_u8clone), (133, sp_tmclone), (201, sp_tmclip)]
theorem aput_T_ok : TabOk Tryz.prog aput_T := (TabOk.cons sp_aread_ok (TabOk.cons sp_aof_ok (TabOk.cons sp_u8clone_ok (TabOk.cons sp_tmclone_ok (TabOk.cons sp_tmclip_ok TabOk.nil)))))
set_option maxRecDepth 8000 in
set_option maxHeartbeats 1000000 in
theorem aput_ok (a : Ar) (t : Tm)  : PureFn Tryz.prog 119 [.agg [.sl (tms a.l)], .agg [.c (.int .u64 (t.key : Int)), .c (.int .i64 t.up), .sl (u8s t.text)]] (aput_r a t) := by
  refine .of (ac119 aput_T_ok (Nat.le_of_ble_eq_true rfl) ?_)
  simp -implicitDefEqProofs only [cdA, go_sem, Go.Proofs.Tryz.f119, reduceIte, reduceCtorEq, Nat.reduceEqDiff, Nat.reduceAdd, Nat.reduceLeDiff, Nat.reduceSub, Nat.reduceMul, Nat.reduceLT, Nat.reduceShiftRight, Nat.reduceMod, Int.reduceLE, Int.reduceLT, Int.reduceToNat, List.cons.injEq, cdB]
  have hbad : ∀ e : Int, putA a.l t = ([], 0, e) → tms (putA a.l t).1 = [] ∧ 0 = (putA a.l t).2.1 ∧ e = (putA a.l t).2.2 := fun e h => by rw [h]; exact ⟨rfl, rfl, rfl⟩
  have hrz : (readA a.l).2 = 0 ↔ okAr a.l := by unfold readA; split <;> rename_i h <;> simp only [h] <;> decide
  refine ⟨fun h0 _ => ?_, fun h0 => hbad 1 (by rw [putA, if_pos (.inl fun h => h0 (hrz.2 h))])⟩
  have hok := hrz.1 h0
  have hra : (readA a.l).1 = bkA a.l := by rw [readA, if_pos hok]
  rw [hra]
  have hl := hok.1
  have htx : ∀ x ∈ a.l, x.text.length ≤ 4096 := fun x hx => by
    obtain ⟨j, hj, rfl⟩ := mem_getD.1 hx
    exact (hok.2.2 j (List.mem_range.2 hj)).2.2.2
  refine ⟨fun h1 => hbad 1 (by rw [putA, if_pos (.inr h1)]), fun h1 _ => ⟨fun h2 => hbad 4 (by rw [putA, if_neg (by rintro (h | h); exact h hok; exact h1 h), if_pos (by omega)]), fun h2 => ?_⟩⟩
  have hput : putA a.l t = match alk (nmT t) (bkA a.l) with | some i => (a.l, i, 0) | none => if a.l.length = 1048576 then ([], 0, 7) else (a.l ++ [t], a.l.length, 0) := by
    rw [putA, if_neg (by rintro (h | h); exact h hok; exact h1 h), if_neg (by omega)]
  refine ⟨fun i hi => ⟨by omega, fun _ => ?_⟩, fun hi _ => ⟨fun h3 => hbad 7 ?_, fun h3 => ?_⟩⟩
  rotate_left 1
  · rw [hput, show alk (nmT t) (bkA a.l) = none from hi]; exact if_pos (by omega)
  · refine ADraw.run us119_11 aput_T_ok follows_mixed (by kernel_rfl) (by kernel_rfl) ?_
    simp -implicitDefEqProofs only [cdA, go_sem, reduceIte, reduceCtorEq, Nat.reduceEqDiff, Nat.reduceAdd, Nat.reduceLeDiff, Nat.reduceSub, Nat.reduceMul, Nat.reduceLT, Nat.reduceShiftRight, Nat.reduceMod, Int.reduceLE, Int.reduceLT, Int.reduceToNat, List.cons.injEq, cdB]
    refine ⟨⟨by simp [tms], by omega⟩, by omega, fun _ => ?_⟩
    have hm : ∀ x ∈ a.l ++ [t], x.text.length ≤ 4096 := fun x hx => by
      rcases List.mem_append.1 hx with hx | hx
      · exact htx x hx
      · simp at hx; subst hx; omega
    have hfin : putA a.l t = (a.l ++ [t], (a.l.length : Int), 0) := by rw [hput, show alk (nmT t) (bkA a.l) = none from hi]; exact if_neg (by omega)
    rw [hfin]
    have hlen : (a.l ++ [t]).length = a.l.length + 1 := by simp
    generalize a.l ++ [t] = m at *
    refine SWp.loop (ι := { k : Nat // k ≤ m.length }) (fun k => ⟨[(2, .ref 0 0), (4, .ref 2 0), (9, .int .i64 (a.l.length : Int)), (63, .vec 5 m.length), (64, .int .i64 m.length), (65, .int .i64 k.1)], [(5, .vec true 3 83 (tms m)), (0, .box [.vec 5 m.length]), (2, .box [.nil])], 6⟩) (fun k => m.length - k.1) ⟨0, by simp⟩ ?_ ?_
    · simp [go_sem, hlen]
    · rintro ⟨k, hk⟩
      refine awp_sound aput_T_ok.toS lv119 _ _ _ rfl ?_
      simp -implicitDefEqProofs only [cdA, go_sem, reduceIte, reduceCtorEq, Nat.reduceEqDiff, Nat.reduceAdd, Nat.reduceLeDiff, Nat.reduceSub, Nat.reduceMul, Nat.reduceLT, Nat.reduceShiftRight, Nat.reduceMod, Int.reduceLE, Int.reduceLT, Int.reduceToNat, List.cons.injEq, cdB]
      refine ⟨fun h5 => ⟨h5, by omega, ?_⟩, fun h5 => ?_⟩
      · refine ADraw.run us119_16 aput_T_ok follows_mixed (by kernel_rfl) (by kernel_rfl) ?_
        simp -implicitDefEqProofs only [cdA, go_sem, reduceIte, reduceCtorEq, Nat.reduceEqDiff, Nat.reduceAdd, Nat.reduceLeDiff, Nat.reduceSub, Nat.reduceMul, Nat.reduceLT, Nat.reduceShiftRight, Nat.reduceMod, Int.reduceLE, Int.reduceLT, Int.reduceToNat, List.cons.injEq, cdB]
        have hk' : k < m.length := by omega
        have hself : m.set k (m.getD k default) = m := by rw [getD_lt hk']; exact List.set_getElem_self hk'
        exact ⟨Nat.le_trans (hm _ (mem_getD.2 ⟨k, hk', rfl⟩)) (by decide), h5, hk', ⟨k + 1, hk'⟩, by dsimp only; omega, i64_in _ (by omega), by rw [hself]⟩
      · exact ⟨_, _, _, rfl⟩
  · have hfin : putA a.l t = (a.l, i, 0) := by rw [hput, show alk (nmT t) (bkA a.l) = some i from hi]
    rw [hfin]
    refine SWp.loop (ι := { k : Nat // k ≤ a.l.length }) (fun k => ⟨[(2, .ref 0 0), (4, .ref 2 0), (9, .int .i64 i), (63, .vec 3 a.l.length), (64, .int .i64 a.l.length), (65, .int .i64 k.1)], [(3, .vec true 3 83 (tms a.l)), (0, .box [.vec 3 a.l.length]), (2, .box [.nil])], 4⟩) (fun k => a.l.length - k.1) ⟨0, by simp⟩ ?_ ?_
    · simp [go_sem]
    · rintro ⟨k, hk⟩
      refine awp_sound aput_T_ok.toS lv119 _ _ _ rfl ?_
      simp -implicitDefEqProofs only [cdA, go_sem, reduceIte, reduceCtorEq, Nat.reduceEqDiff, Nat.reduceAdd, Nat.reduceLeDiff, Nat.reduceSub, Nat.reduceMul, Nat.reduceLT, Nat.reduceShiftRight, Nat.reduceMod, Int.reduceLE, Int.reduceLT, Int.reduceToNat, List.cons.injEq, cdB]
      refine ⟨fun h5 => ⟨h5, by omega, ?_⟩, fun h5 => ?_⟩
      · refine ADraw.run us119_16 aput_T_ok follows_mixed (by kernel_rfl) (by kernel_rfl) ?_
        simp -implicitDefEqProofs only [cdA, go_sem, reduceIte, reduceCtorEq, Nat.reduceEqDiff, Nat.reduceAdd, Nat.reduceLeDiff, Nat.reduceSub, Nat.reduceMul, Nat.reduceLT, Nat.reduceShiftRight, Nat.reduceMod, Int.reduceLE, Int.reduceLT, Int.reduceToNat, List.cons.injEq, cdB]
        have hk' : k < a.l.length := by omega
        have hself : a.l.set k (a.l.getD k default) = a.l := by rw [getD_lt hk']; exact List.set_getElem_self hk'
        exact ⟨Nat.le_trans (htx _ (mem_getD.2 ⟨k, hk', rfl⟩)) (by decide), h5, hk', ⟨k + 1, hk'⟩, by dsimp only; omega, i64_in _ (by omega), by rw [hself]⟩
      · exact ⟨_, _, _, rfl⟩
def sp_aput : List D → Option (Prop × D × Fr)
  | [.agg [.c (.sl z5)], .agg [.c (.int .u64 z7), .c (.int .i64 z8), .c (.sl z9)]] => some (z5 = tms (dtms z5) ∧ z7 = (z7.toNat : Int) ∧ z9 = u8s (du8s z9), aput_r (⟨(dtms z5)⟩ : Ar) (⟨z7.toNat, z8, (du8s z9)⟩ : Tm), [])
  | _ => none
attribute [go_sem] sp_aput
theorem sp_aput_ok : ∀ rs p r fr, sp_aput rs = some (p, r, fr) → p → FnOk Tryz.prog 119 rs r fr := by
  intro rs p r fr h hp
  unfold sp_aput at h
  split at h <;> cases h
  obtain ⟨hc0, hc1, hc2⟩ := hp
  rename_i z5 z7 z8 z9
  obtain ⟨z5, rfl⟩ : ∃ m, z5 = tms m := ⟨_, hc0⟩
  obtain ⟨z7, rfl⟩ : ∃ m : Nat, z7 = m := ⟨_, hc1⟩
  obtain ⟨z9, rfl⟩ : ∃ m, z9 = u8s m := ⟨_, hc2⟩
  simp only [Int.toNat_natCast, dtms_tms, du8s_u8s]
  exact aput_ok ⟨z5⟩ ⟨z7, z8, z9⟩
def nextA (l : List Tm) (tag : Int) (text : List UInt8) : List Tm × Int × Int := if tag < 0 then ([], 0, 1) else putA l ⟨0, tag, text⟩
@[go_sem] def aroot_r (a : Ar) (key : Nat) (text : List UInt8) : D := .tup [.agg [.sl (tms (putA a.l ⟨key, -1, text⟩).1)], .int .i64 (putA a.l ⟨key, -1, text⟩).2.1, .int .i64 (putA a.l ⟨key, -1, text⟩).2.2]
@[go_sem] abbrev n_aroot : FuncId := 60
@[go_sem] def aroot_T : Tab := [(119, sp_aput)]
theorem aroot_T_ok : TabOk Tryz.prog aroot_T := (TabOk.cons sp_aput_ok TabOk.nil)
set_option maxRecDepth 8000 in
set_option maxHeartbeats 1000000 in
theorem aroot_ok (a : Ar) (key : Nat) (text : List UInt8)  : PureFn Tryz.prog 60 [.agg [.sl (tms a.l)], .c (.int .u64 (key : Int)), .sl (u8s text)] (aroot_r a key text) := by
  refine .of (ac60 aroot_T_ok (Nat.le_of_ble_eq_true rfl) ?_)
  simp -implicitDefEqProofs only [cdA, go_sem, Go.Proofs.Tryz.f60, reduceIte, reduceCtorEq, Nat.reduceEqDiff, Nat.reduceAdd, Nat.reduceLeDiff, Nat.reduceSub, Nat.reduceMul, Nat.reduceLT, Nat.reduceShiftRight, Nat.reduceMod, Int.reduceLE, Int.reduceLT, Int.reduceToNat, List.cons.injEq, cdB]
def sp_aroot : List D → Option (Prop × D × Fr)
  | [.agg [.c (.sl z11)], .c (.int .u64 z12), .c (.sl z13)] => some (z11 = tms (dtms z11) ∧ z12 = (z12.toNat : Int) ∧ z13 = u8s (du8s z13), aroot_r (⟨(dtms z11)⟩ : Ar) z12.toNat (du8s z13), [])
  | _ => none
attribute [go_sem] sp_aroot
theorem sp_aroot_ok : ∀ rs p r fr, sp_aroot rs = some (p, r, fr) → p → FnOk Tryz.prog 60 rs r fr := by
  intro rs p r fr h hp
  unfold sp_aroot at h
  split at h <;> cases h
  obtain ⟨hc0, hc1, hc2⟩ := hp
  rename_i z11 z12 z13
  obtain ⟨z11, rfl⟩ : ∃ m, z11 = tms m := ⟨_, hc0⟩
  obtain ⟨z12, rfl⟩ : ∃ m : Nat, z12 = m := ⟨_, hc1⟩
  obtain ⟨z13, rfl⟩ : ∃ m, z13 = u8s m := ⟨_, hc2⟩
  simp only [Int.toNat_natCast, dtms_tms, du8s_u8s]
  exact aroot_ok ⟨z11⟩ z12 z13
@[go_sem] def anext_r (a : Ar) (tag : Int) (text : List UInt8) : D := .tup [.agg [.sl (tms (nextA a.l tag text).1)], .int .i64 (nextA a.l tag text).2.1, .int .i64 (nextA a.l tag text).2.2]
@[go_sem] abbrev n_anext : FuncId := 55
@[go_sem] def anext_T : Tab := [(119, sp_aput)]
theorem anext_T_ok : TabOk Tryz.prog anext_T := (TabOk.cons sp_aput_ok TabOk.nil)
set_option maxRecDepth 8000 in
set_option maxHeartbeats 1000000 in
theorem anext_ok (a : Ar) (tag : Int) (text : List UInt8)  : PureFn Tryz.prog 55 [.agg [.sl (tms a.l)], .c (.int .i64 tag), .sl (u8s text)] (anext_r a tag text) := by
  refine .of (ac55 anext_T_ok (Nat.le_of_ble_eq_true rfl) ?_)
  simp -implicitDefEqProofs only [cdA, go_sem, Go.Proofs.Tryz.f55, reduceIte, reduceCtorEq, Nat.reduceEqDiff, Nat.reduceAdd, Nat.reduceLeDiff, Nat.reduceSub, Nat.reduceMul, Nat.reduceLT, Nat.reduceShiftRight, Nat.reduceMod, Int.reduceLE, Int.reduceLT, Int.reduceToNat, List.cons.injEq, cdB]
  unfold nextA
  refine ⟨fun h => ?_, fun h => ?_⟩
  · rw [if_pos h]; exact ⟨rfl, rfl, rfl⟩
  · rw [if_neg h]; exact ⟨rfl, rfl, rfl⟩
def sp_anext : List D → Option (Prop × D × Fr)
  | [.agg [.c (.sl z15)], .c (.int .i64 z16), .c (.sl z17)] => some (z15 = tms (dtms z15) ∧ z17 = u8s (du8s z17), anext_r (⟨(dtms z15)⟩ : Ar) z16 (du8s z17), [])
  | _ => none
attribute [go_sem] sp_anext
theorem sp_anext_ok : ∀ rs p r fr, sp_anext rs = some (p, r, fr) → p → FnOk Tryz.prog 55 rs r fr := by
  intro rs p r fr h hp
  unfold sp_anext at h
  split at h <;> cases h
  obtain ⟨hc0, hc1⟩ := hp
  rename_i z15 z16 z17
  obtain ⟨z15, rfl⟩ : ∃ m, z15 = tms m := ⟨_, hc0⟩
  obtain ⟨z17, rfl⟩ : ∃ m, z17 = u8s m := ⟨_, hc1⟩
  simp only [dtms_tms, du8s_u8s]
  exact anext_ok ⟨z15⟩ z16 z17
end Dm
namespace Dm
open Go Go.Proofs Go.IntWalk
def goA (bk : List (NK × Int)) : Option Int → List (List UInt8) → Option Int
  | none, _ => none
  | some at0, [] => some at0
  | some at0, x :: l => goA bk (alk (0, at0, x) bk) l
theorem goA_none {bk : List (NK × Int)} {l : List (List UInt8)} : goA bk none l = none := by cases l <;> rfl
theorem goA_app {bk : List (NK × Int)} : ∀ {l : List (List UInt8)} {o : Option Int} {m : List (List UInt8)}, goA bk o (l ++ m) = goA bk (goA bk o l) m
  | l, none, m => by rw [goA_none, goA_none, goA_none]
  | [], some a, m => rfl
  | x :: l, some a, m => by rw [List.cons_append, goA, goA, goA_app]
def findA (l : List Tm) (key : Nat) (text : List UInt8) (ts : List (List UInt8)) : Int × Int :=
  if ¬ okAr l then (0, 1) else if 4096 < text.length ∨ ∃ x ∈ ts, 4096 < x.length then (0, 4) else
  match goA (bkA l) (alk (key, -1, text) (bkA l)) ts with
  | some i => (i, 0)
  | none => (0, 5)
@[go_sem] def afind_r (a : Ar) (key : Nat) (text : List UInt8) (ts : List (List UInt8)) : D := .tup [.int .i64 (findA a.l key text ts).1, .int .i64 (findA a.l key text ts).2]
@[go_sem] abbrev n_afind : FuncId := 112
@[go_sem] def afind_T : Tab := [(118, sp_aread)]
theorem afind_T_ok : TabOk Tryz.prog afind_T := (TabOk.cons sp_aread_ok TabOk.nil)
set_option maxRecDepth 8000 in
set_option maxHeartbeats 1000000 in
theorem afind_ok (a : Ar) (key : Nat) (text : List UInt8) (ts : List (List UInt8))  : PureFn Tryz.prog 112 [.agg [.sl (tms a.l)], .c (.int .u64 (key : Int)), .sl (u8s text), .sl (ls_u8s ts)] (afind_r a key text ts) := by
  refine .of (ac112 afind_T_ok (Nat.le_of_ble_eq_true rfl) ?_)
  simp -implicitDefEqProofs only [cdA, go_sem, Go.Proofs.Tryz.f112, reduceIte, reduceCtorEq, Nat.reduceEqDiff, Nat.reduceAdd, Nat.reduceLeDiff, Nat.reduceSub, Nat.reduceMul, Nat.reduceLT, Nat.reduceShiftRight, Nat.reduceMod, Int.reduceLE, Int.reduceLT, Int.reduceToNat, List.cons.injEq, cdB]
  have hrz : (readA a.l).2 = 0 ↔ okAr a.l := by unfold readA; split <;> rename_i h <;> simp only [h] <;> decide
  refine ⟨fun h0 => ?_, fun h0 => by
    have hno : ¬ okAr a.l := fun h => h0 (hrz.2 h)
    rw [findA, readA, if_neg hno, if_pos hno]; exact ⟨rfl, rfl⟩⟩
  have hok := hrz.1 h0
  have hra : (readA a.l).1 = bkA a.l := by rw [readA, if_pos hok]
  rw [hra]
  refine ac194 afind_T_ok (Nat.le_of_ble_eq_true rfl) ?_
  simp -implicitDefEqProofs only [cdA, go_sem, Go.Proofs.Tryz.f194, reduceIte, reduceCtorEq, Nat.reduceEqDiff, Nat.reduceAdd, Nat.reduceLeDiff, Nat.reduceSub, Nat.reduceMul, Nat.reduceLT, Nat.reduceShiftRight, Nat.reduceMod, Int.reduceLE, Int.reduceLT, Int.reduceToNat, List.cons.injEq, cdB]
  refine fun _ => ⟨fun h1 => ?_, fun h1 => by rw [findA, if_neg (fun h => h hok), if_pos (.inl (by omega))]; exact ⟨rfl, rfl⟩⟩
  refine ac195 afind_T_ok (Nat.le_of_ble_eq_true rfl) ?_
  simp -implicitDefEqProofs only [cdA, go_sem, Go.Proofs.Tryz.f195, reduceIte, reduceCtorEq, Nat.reduceEqDiff, Nat.reduceAdd, Nat.reduceLeDiff, Nat.reduceSub, Nat.reduceMul, Nat.reduceLT, Nat.reduceShiftRight, Nat.reduceMod, Int.reduceLE, Int.reduceLT, Int.reduceToNat, List.cons.injEq, cdB]
  refine ac241 afind_T_ok (Nat.le_of_ble_eq_true rfl) ?_
  simp -implicitDefEqProofs only [cdA, go_sem, Go.Proofs.Tryz.f241, reduceIte, reduceCtorEq, Nat.reduceEqDiff, Nat.reduceAdd, Nat.reduceLeDiff, Nat.reduceSub, Nat.reduceMul, Nat.reduceLT, Nat.reduceShiftRight, Nat.reduceMod, Int.reduceLE, Int.reduceLT, Int.reduceToNat, List.cons.injEq, cdB]
  refine fun _ => SWp.loop (ι := { i : Nat // i ≤ ts.length ∧ ∀ j, j < i → (ts.getD j default).length ≤ 4096 }) (fun i => ⟨[(0, .sl (ls_u8s ts)), (1, .fn (.func 194) [] []), (7, .int .i64 ts.length), (8, .int .i64 i.1)], [], 1⟩) (fun i => ts.length - i.1) ⟨0, by simp⟩ ?_ ?_
  · simp [go_sem]
  · rintro ⟨i, hi, hall⟩
    refine awp_sound afind_T_ok.toS lv241 _ _ _ rfl ?_
    simp -implicitDefEqProofs only [cdA, go_sem, reduceIte, reduceCtorEq, Nat.reduceEqDiff, Nat.reduceAdd, Nat.reduceLeDiff, Nat.reduceSub, Nat.reduceMul, Nat.reduceLT, Nat.reduceShiftRight, Nat.reduceMod, Int.reduceLE, Int.reduceLT, Int.reduceToNat, List.cons.injEq, cdB]
    refine ⟨fun h4 => ⟨h4, ?_⟩, fun h4 => ?_⟩
    · skip
      refine ac194 afind_T_ok (Nat.le_of_ble_eq_true rfl) ?_
      simp -implicitDefEqProofs only [cdA, go_sem, Go.Proofs.Tryz.f194, reduceIte, reduceCtorEq, Nat.reduceEqDiff, Nat.reduceAdd, Nat.reduceLeDiff, Nat.reduceSub, Nat.reduceMul, Nat.reduceLT, Nat.reduceShiftRight, Nat.reduceMod, Int.reduceLE, Int.reduceLT, Int.reduceToNat, List.cons.injEq, cdB]
      have hi' : i < ts.length := by omega
      refine fun _ => ⟨fun h5 => ?_, fun h5 => ?_⟩
      · rw [findA, if_neg (fun h => h hok), if_pos (.inr ⟨_, mem_getD.2 ⟨i, hi', rfl⟩, by omega⟩)]; exact ⟨rfl, rfl⟩
      · refine ⟨⟨i + 1, hi', fun j hj => ?_⟩, by dsimp only; omega, i64_in _ (by omega)⟩
        by_cases hji : j = i
        · subst hji; omega
        · exact hall j (by omega)
    · have hi' : i = ts.length := by omega
      subst hi'
      have hok2 : ¬ ∃ x ∈ ts, 4096 < x.length := by
        rintro ⟨x, hx, hlt⟩
        obtain ⟨j, hj, rfl⟩ := mem_getD.1 hx
        have := hall j hj; omega
      have hfind : findA a.l key text ts = match goA (bkA a.l) (alk (key, -1, text) (bkA a.l)) ts with | some i => (i, 0) | none => (0, 5) := by
        rw [findA, if_neg (fun h => h hok), if_neg (by rintro (h | h); omega; exact hok2 h)]
      refine ⟨fun h => h.elim, fun at0 hat _ => ?_, fun hat _ => ?_⟩
      · rw [hat] at hfind
        refine SWp.loop (ι := { i : Nat // i ≤ ts.length }) (fun i => ⟨[(10, .c (.map nkt (kvMF (bkA a.l)))), (13, .int .i64 ((goA (bkA a.l) (some at0) (ts.take i.1)).getD 0)), (14, .bool (goA (bkA a.l) (some at0) (ts.take i.1)).isSome), (42, .sl (ls_u8s ts)), (43, .int .i64 ts.length), (44, .int .i64 i.1)], [], 1⟩) (fun i => ts.length - i.1) ⟨0, by simp⟩ ?_ ?_
        · simp [go_sem, goA]
        · rintro ⟨i, hi⟩
          have hstep : i < ts.length → goA (bkA a.l) (some at0) (ts.take (i + 1)) = goA (bkA a.l) (goA (bkA a.l) (some at0) (ts.take i)) [ts.getD i default] := fun h => by rw [take_succ h, goA_app]
          have hwhole : goA (bkA a.l) (some at0) ts = goA (bkA a.l) (goA (bkA a.l) (some at0) (ts.take i)) (ts.drop i) := by rw [← goA_app, List.take_append_drop]
          dsimp only
          cases ho : goA (bkA a.l) (some at0) (ts.take i)
          · rw [ho] at hstep hwhole
            rw [goA_none] at hwhole
            refine awp_sound afind_T_ok.toS lv112 _ _ _ rfl ?_
            simp -implicitDefEqProofs only [cdA, go_sem, Option.isSome_none, Option.getD_none, false_implies, true_implies, reduceIte, reduceCtorEq, Nat.reduceEqDiff, Nat.reduceAdd, Nat.reduceLeDiff, Nat.reduceSub, Nat.reduceMul, Nat.reduceLT, Nat.reduceShiftRight, Nat.reduceMod, Int.reduceLE, Int.reduceLT, Int.reduceToNat, List.cons.injEq, cdB]
            rw [hfind, hwhole]
            exact ⟨fun h => ⟨h, rfl, rfl⟩, fun _ => ⟨rfl, rfl⟩⟩
          · rename_i at1
            rw [ho] at hstep hwhole
            refine awp_sound afind_T_ok.toS lv112 _ _ _ rfl ?_
            simp -implicitDefEqProofs only [cdA, go_sem, Option.isSome_some, Option.getD_some, false_implies, true_implies, reduceIte, reduceCtorEq, Nat.reduceEqDiff, Nat.reduceAdd, Nat.reduceLeDiff, Nat.reduceSub, Nat.reduceMul, Nat.reduceLT, Nat.reduceShiftRight, Nat.reduceMod, Int.reduceLE, Int.reduceLT, Int.reduceToNat, List.cons.injEq, cdB]
            refine ⟨fun h => ⟨h, fun b hb => ⟨⟨i + 1, by omega⟩, by dsimp only; omega, ?_, ?_, i64_in _ (by omega)⟩, fun hb => ⟨⟨i + 1, by omega⟩, by dsimp only; omega, ?_, ?_, i64_in _ (by omega)⟩⟩, fun h => ?_⟩
            rotate_left 4
            · have : i = ts.length := by omega
              subst this
              rw [List.drop_length, goA] at hwhole
              rw [hfind, hwhole]; exact ⟨rfl, rfl⟩
            all_goals (dsimp only; rw [hstep (by omega), goA, hb]; rfl)
      · rw [hat, goA_none] at hfind
        refine SWp.loop (ι := { i : Nat // i ≤ ts.length }) (fun i => ⟨[(10, .c (.map nkt (kvMF (bkA a.l)))), (13, .int .i64 ((goA (bkA a.l) none (ts.take i.1)).getD 0)), (14, .bool (goA (bkA a.l) none (ts.take i.1)).isSome), (42, .sl (ls_u8s ts)), (43, .int .i64 ts.length), (44, .int .i64 i.1)], [], 1⟩) (fun i => ts.length - i.1) ⟨0, by simp⟩ ?_ ?_
        · simp [go_sem, goA]
        · rintro ⟨i, hi⟩
          have hstep : i < ts.length → goA (bkA a.l) none (ts.take (i + 1)) = goA (bkA a.l) (goA (bkA a.l) none (ts.take i)) [ts.getD i default] := fun h => by rw [take_succ h, goA_app]
          have hwhole : goA (bkA a.l) none ts = goA (bkA a.l) (goA (bkA a.l) none (ts.take i)) (ts.drop i) := by rw [← goA_app, List.take_append_drop]
          dsimp only
          cases ho : goA (bkA a.l) none (ts.take i)
          · rw [ho] at hstep hwhole
            rw [goA_none] at hwhole
            refine awp_sound afind_T_ok.toS lv112 _ _ _ rfl ?_
            simp -implicitDefEqProofs only [cdA, go_sem, Option.isSome_none, Option.getD_none, false_implies, true_implies, reduceIte, reduceCtorEq, Nat.reduceEqDiff, Nat.reduceAdd, Nat.reduceLeDiff, Nat.reduceSub, Nat.reduceMul, Nat.reduceLT, Nat.reduceShiftRight, Nat.reduceMod, Int.reduceLE, Int.reduceLT, Int.reduceToNat, List.cons.injEq, cdB]
            rw [hfind]
            exact ⟨fun h => ⟨h, rfl, rfl⟩, fun _ => ⟨rfl, rfl⟩⟩
          · rename_i at1
            rw [ho] at hstep hwhole
            refine awp_sound afind_T_ok.toS lv112 _ _ _ rfl ?_
            simp -implicitDefEqProofs only [cdA, go_sem, Option.isSome_some, Option.getD_some, false_implies, true_implies, reduceIte, reduceCtorEq, Nat.reduceEqDiff, Nat.reduceAdd, Nat.reduceLeDiff, Nat.reduceSub, Nat.reduceMul, Nat.reduceLT, Nat.reduceShiftRight, Nat.reduceMod, Int.reduceLE, Int.reduceLT, Int.reduceToNat, List.cons.injEq, cdB]
            exact absurd ho (by rw [goA_none]; exact fun h => by cases h)
def sp_afind : List D → Option (Prop × D × Fr)
  | [.agg [.c (.sl z2)], .c (.int .u64 z3), .c (.sl z4), .c (.sl z5)] => some (z2 = tms (dtms z2) ∧ z3 = (z3.toNat : Int) ∧ z4 = u8s (du8s z4) ∧ z5 = ls_u8s (dls_u8s z5), afind_r (⟨(dtms z2)⟩ : Ar) z3.toNat (du8s z4) (dls_u8s z5), [])
  | _ => none
attribute [go_sem] sp_afind
theorem sp_afind_ok : ∀ rs p r fr, sp_afind rs = some (p, r, fr) → p → FnOk Tryz.prog 112 rs r fr := by
  intro rs p r fr h hp
  unfold sp_afind at h
  split at h <;> cases h
  obtain ⟨hc0, hc1, hc2, hc3⟩ := hp
  rename_i z2 z3 z4 z5
  obtain ⟨z2, rfl⟩ : ∃ m, z2 = tms m := ⟨_, hc0⟩
  obtain ⟨z3, rfl⟩ : ∃ m : Nat, z3 = m := ⟨_, hc1⟩
  obtain ⟨z4, rfl⟩ : ∃ m, z4 = u8s m := ⟨_, hc2⟩
  obtain ⟨z5, rfl⟩ : ∃ m, z5 = ls_u8s m := ⟨_, hc3⟩
  simp only [Int.toNat_natCast, dls_u8s_ls_u8s, dtms_tms, du8s_u8s]
  exact afind_ok ⟨z2⟩ z3 z4 z5
end Dm
