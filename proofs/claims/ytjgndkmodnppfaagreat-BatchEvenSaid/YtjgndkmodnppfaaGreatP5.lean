import Derived.Test.YtjgndkmodnppfaaGreatP4
import Derived.Below
import Derived.ChangeOld
import Derived.LoopNIn
import Derived.Shelf.SlSortCmp.NoneTotal
import Derived.StillTail
set_option linter.unusedSimpArgs false
set_option linter.unusedVariables false
set_option linter.unusedSectionVars false
namespace Dm
open Go
section
variable {δ : List Deferred} {P : Program} {T : Tab} {g g' g'' : G} {s s' s'' : St} {a : Act} {w w' w'' : World} {n N : Nat}

theorem leaves_marks {m : Nat} {fn : Func} {tmps : Array Value} {R : Ending → World → Prop} (K : World → Prop) : ∀ (Ds : List Nat) (w : World), Ds.Nodup → (∀ D ∈ Ds, w.heap[D]? = some (.deferred (some []))) → K w →
    (∀ W D, D ∈ Ds → K W → W.heap[D]? = some (.deferred (some [])) → K (W.putObj D (.deferred none))) → (∀ W, K W → ∃ v, (results fn tmps).run P W = .ok v W ∧ R (.returned v) W) →
    LeavesInM Fence.wide m P fn tmps R (Ds.map mrk) .returning w
  | [], w, _, _, hK, _, h => h w hK
  | D :: Ds, w, hn, hD, hK, hs, h => by
    obtain ⟨hn1, hn2⟩ := List.nodup_cons.1 hn
    refine ⟨by simp, .inl ⟨D, _, rfl, run_takeDeferred (hD D (by simp)), ?_⟩⟩
    refine leaves_marks K Ds _ hn2 (fun D' hD' => ?_) (hs w D (by simp) hK (hD D (by simp))) (fun W D' hD' => hs W D' (by simp [hD'])) h
    have hne : D' ≠ D := fun e => hn1 (by rw [← e]; exact hD')
    exact (World.putObj_heap_other hne).trans (hD D' (by simp [hD']))

theorem acall_introM {f : FuncId} {fn : Func} {c : Code} {ds : List D} {os : List (Nat × Ob)} {nx : Nat} {Q : D → List (Nat × Ob) → Nat → Prop}
    (hf : P.funcs[f]? = some fn) (hname : (fn.name == "runtime.NumGoroutine") = false) (hb : fn.body = some c) (hn : fn.ntmps = n) (hl : ds.length ≤ n) {rs : List ResultVar} (hrs : fn.results.toList = rs)
    (h : SWm P n nx c (fin P rs Q) ⟨prm 0 ds, os, nx⟩) : ACall P f ds os nx Q := by
  refine ⟨⟨fn, hf, hname, by rw [hb]; rfl⟩, fun g w vs ho hsz hv => ?_⟩
  refine callsIn_wide (n := 5).1 (callsIn_of_wp_marks hf hb trivial (wpIn_wide.2 ?_))
  subst hn
  have hr : Rel [] g ⟨prm 0 ds, os, nx⟩ { tmps := vs ++ Array.replicate (fn.ntmps - vs.size) undef, defers := [] } w := by
    refine ⟨fun t d ht => ?_, rfl, ho.tm⟩
    obtain ⟨_, h2⟩ := lk_prm ds 0 t d ht
    rw [Nat.sub_zero] at h2
    have ht : t < vs.size := by
      rw [hsz]
      rcases Nat.lt_or_ge t ds.length with h | h
      · exact h
      · rw [List.getElem?_eq_none h] at h2; cases h2
    refine ⟨vs[t], ?_, hv t _ d (Array.getElem?_eq_getElem ht) h2⟩
    rw [Array.getElem?_append_left ht, Array.getElem?_eq_getElem ht]
  refine wp_mono (h [] g _ w hr (by simp; omega)) fun e a' w' ⟨Ds, g', s', h1, h2, h3, h4, h5, h6⟩ => ?_
  rw [List.append_nil] at h2
  have fin : ∀ (hq : rto (rdD P s' rs) s' Q), LeavesInM Fence.wide 5 P fn a'.tmps (fun e w' => ∃ v d g' os' nx', e = .returned v ∧ Q d os' nx' ∧ RelO g' ⟨[], os', nx'⟩ w' ∧ VRel g' w' v d ∧ Step g ⟨[], os, nx⟩ w g' ⟨[], os', nx'⟩ w') a'.defers .returning w' := by
    intro hq
    rw [h2.defers]
    refine leaves_marks (fun W => Rel (Ds.map mrk) g' s' a' W ∧ StepN nx g ⟨prm 0 ds, os, nx⟩ w g' s' W) Ds w' h4 (fun D hD => (h3 D hD).2) ⟨h2, h6⟩ (fun W D hD hK hd => ?_) (fun W hK => ?_)
    · have hg := grownBy_putObj' W D (.deferred none)
      exact ⟨hK.1.grown hg fun r e => by cases e; exact ⟨_, hd, rfl⟩, hK.2.grown hg (Nat.le_refl _) fun r e => by cases e; exact (h3 D hD).1⟩
    · unfold rto at hq
      split at hq
      · rename_i d hrd
        obtain ⟨v, h7, h8⟩ := rdD_sound hK.1 fn hrs hrd
        exact ⟨v, h7, v, d, g', s'.os, s'.nx, rfl, hq, hK.1.o.tm, h8, (hK.2.tm (tm := []) (tm' := [])).step ho (Nat.le_refl _)⟩
      · cases hq
  cases e with
  | normal => exact fin h1
  | ret => exact fin h1
  | _ => cases h1

theorem SWm.awp (hT : TabS P T) (lv : Nat → Option (List Nat)) {c : Code} {Q : Exit → St → Prop} (hd : dstOk n c = true) (h : awp P T n N lv c Q s) : SWm P n N c Q s := SWm.of (awp_sound hT lv c Q s hd h)
end
end Dm
namespace Dm
open Go
abbrev Sg (m : Nat) := List (Fin m) × Bool
section
variable {P : Program} {T : Tab} {g : G} {s s' : St} {a : Act} {w w' : World} {n l m : Nat}

structure YOk (P : Program) (l : Nat) (I : Nat → Prop) {m : Nat} (ys : Fin m → List D) (J Jx : List (Fin m) → World → Prop) : Prop where
  round : ∀ pre x (vs : Array Value) W1, J pre W1 → pre.length < m → vs.size = (ys x).length → (∀ (j : Nat) (v : Value) (d : D), vs[j]? = some v → (ys x)[j]? = some d → VRel (G0 I) W1 v d) → YieldAt Fence.wide 3 P l vs W1 fun e W' =>
      (e = .returned (.bool true) ∧ J (pre ++ [x]) W' ∧ ∀ b, I b → Cel W1 b → W'.heap[b]? = W1.heap[b]?) ∨ (e = .returned (.bool false) ∧ Jx (pre ++ [x]) W' ∧ ∀ b, I b → Cel W1 b → W'.heap[b]? = W1.heap[b]?)
  grow : ∀ pre W W', J pre W → Ext W W' → J pre W'
  growx : ∀ pre W W', Jx pre W → Ext W W' → Jx pre W'

def RelY (I : Nat → Prop) {m : Nat} (J Jx : List (Fin m) → World → Prop) (s : St) (σ : Sg m) (a : Act) (w : World) : Prop :=
  s.os = [] ∧ s.nx = 0 ∧ match σ.2 with
    | true => Rel [] (G0 I) s a w ∧ J σ.1 w
    | false => Rel [] (G0 I) s a w ∧ Jx σ.1 w

def SY (P : Program) (n : Nat) (I : Nat → Prop) {m : Nat} (J Jx : List (Fin m) → World → Prop) (c : Code) (Q : Exit → St → Sg m → Prop) (s : St) (σ : Sg m) : Prop :=
  ∀ a w, RelY I J Jx s σ a w → a.tmps.size = n → c.wpIn Fence.wide 4 P (fun e a' w' => ∃ s' σ', Q e s' σ' ∧ RelY I J Jx s' σ' a' w' ∧ a'.tmps.size = n) a w

def yargs (o : Oper) (s : St) (l : Nat) : Option (List D) := match o.op with
  | .call c => match c.callee with
    | .value f => match s.ev f with
      | .fn (.yield l') [] [] => if l' = l then some (c.args.toList.map s.ev) else none
      | _ => none
    | _ => none
  | _ => none
def numsL : List Nat → List (Nat × D) → List (Nat × D)
  | _, [] => []
  | seen, (t, d) :: l => if seen.contains t = true then numsL seen l else if d.scal = true then (t, d) :: numsL (t :: seen) l else numsL (t :: seen) l
def St.nums (s : St) : St := ⟨numsL [] s.tm, [], 0⟩
def aopsY (P : Program) (T : Tab) (l : Nat) {m : Nat} (ys : Fin m → List D) (K : St → Sg m → Prop) : List Oper → St → Sg m → Prop
  | [], s, σ => K s σ
  | o :: rest, s, σ => o.guard = none ∧ match yargs o s l with
    | some ds => σ.2 = true ∧ σ.1.length < m ∧ ∃ x, ds = ys x ∧ aopsY P T l ys K rest (s.put o.dst (.bool true)) (σ.1 ++ [x], true) ∧ aopsY P T l ys K rest (s.nums.put o.dst (.bool false)) (σ.1 ++ [x], false)
    | none => aopQ P T o s fun s' => aopsY P T l ys K rest s' σ

variable {I : Nat → Prop} {ys : Fin m → List D} {J Jx : List (Fin m) → World → Prop}

theorem Rel.ext0 {I : Nat → Prop} (hr : Rel [] (G0 I) s a w) (hext : Ext w w') : Rel [] (G0 I) s a w' := by
  obtain ⟨h1, h2⟩ := hr.o.grow hext (I := I) (fun b hb => hb) (fun b _ hb => hb) (hr.o.cel.same fun b hb => hext.2.1 b (hr.o.imm b hb).1)
  exact ⟨fun t d ht => let ⟨v, h3, h4⟩ := hr.tm t d ht; ⟨v, h3, h2.vrel hr.o h4⟩, hr.defers, h1⟩

theorem RelY.put {σ : Sg m} (h : RelY I J Jx s σ a w) (t : Option Tmp) {v : Value} {d : D} (hv : ∀ g, (σ.2 = true → g = G0 I) → (σ.2 = false → g = G0 I) → VRel g w v d) (ht : ∀ x, t = some x → x < a.tmps.size) : RelY I J Jx (s.put t d) σ (a.put t v) w := by
  obtain ⟨h1, h2, h3⟩ := h
  refine ⟨by cases t <;> exact h1, by cases t <;> exact h2, ?_⟩
  obtain ⟨pre, b⟩ := σ
  cases b
  · exact ⟨h3.1.put t (hv _ (fun h => by cases h) fun _ => rfl) ht, h3.2⟩
  · exact ⟨h3.1.put t (hv _ (fun _ => rfl) fun h => by cases h) ht, h3.2⟩

theorem RelY.ext {σ : Sg m} (hY : YOk P l I ys J Jx) (h : RelY I J Jx s σ a w) (hext : Ext w w') : RelY I J Jx s σ a w' := by
  obtain ⟨h1, h2, h3⟩ := h
  refine ⟨h1, h2, ?_⟩
  obtain ⟨pre, b⟩ := σ
  cases b
  · exact ⟨h3.1.ext0 hext, hY.growx _ _ _ h3.2 hext⟩
  · exact ⟨h3.1.ext0 hext, hY.grow _ _ _ h3.2 hext⟩

theorem opY (hT : TabOk P T) (hY : YOk P l I ys J Jx) {σ : Sg m} {o : Oper} {K : St → Prop} (h : aopQ P T o s K) (hr : RelY I J Jx s σ a w) (hn : a.tmps.size = n) (hd : ∀ x, o.dst = some x → x < n) {KK : Act → World → Prop} {Q : Exit → Act → World → Prop}
    (hK : ∀ s' a' w', K s' → RelY I J Jx s' σ a' w' → a'.tmps.size = n → KK a' w') : o.wpIn Fence.wide 4 P a w KK Q := by
  have main : ∃ (v : Value) (d : D), QVal P o a w v ∧ K (s.put o.dst d) ∧ ∀ w', Ext w w' → RelY I J Jx (s.put o.dst d) σ (a.put o.dst v) w' := by
    obtain ⟨h1, h2, h3⟩ := hr
    obtain ⟨pre, b⟩ := σ
    cases b
    · obtain ⟨v, d, h4, h5, h6⟩ := aopQ_sound hT o h h3.1
      refine ⟨v, d, h4, h6, fun w' hext => RelY.ext hY (σ := (pre, false)) (RelY.put (σ := (pre, false)) ⟨h1, h2, h3⟩ o.dst (fun g _ hg => by rw [hg rfl]; exact h5) (fun x hx => by rw [hn]; exact hd x hx)) hext⟩
    · obtain ⟨v, d, h4, h5, h6⟩ := aopQ_sound hT o h h3.1
      refine ⟨v, d, h4, h6, fun w' hext => RelY.ext hY (σ := (pre, true)) (RelY.put (σ := (pre, true)) ⟨h1, h2, h3⟩ o.dst (fun g hg _ => by rw [hg rfl]; exact h5) (fun x hx => by rw [hn]; exact hd x hx)) hext⟩
  obtain ⟨v, d, h4, h5, h6⟩ := main
  refine ⟨fun f _ => trivial, ?_⟩
  have hq := h4 w (.refl w)
  unfold Oper.quietAt at hq
  have hsem : Oper.semAt Fence.wide.round a.eval o = execOp a.eval o := rfl
  rw [hsem]
  generalize (execOp a.eval o).run P w = r at hq ⊢
  have fin : ∀ w', Ext w w' → KK (a.put o.dst v) w' := fun w' hext => hK _ _ _ h5 (h6 w' hext) (by rw [put_size, hn])
  cases r with
  | ok nx w1 =>
    cases nx with
    | value u => obtain ⟨rfl, rfl⟩ := hq; exact fin _ (.refl _)
    | skip => obtain ⟨rfl, rfl⟩ := hq; exact fin _ (.refl _)
    | enter f args =>
      obtain ⟨rfl, hc⟩ := hq
      refine ⟨fun hh => (by cases hh), callsIn_wide.2 (hc.mono ?_)⟩
      rintro e w2 ⟨rfl, hext⟩
      exact fin w2 hext
    | _ => exact hq.elim
  | halt x w1 => exact hq.elim

theorem nums_lk {t : Nat} {d : D} : ∀ (tm : List (Nat × D)) (seen : List Nat), lk t (numsL seen tm) = some d → seen.contains t = false ∧ lk t tm = some d ∧ d.scal = true
  | [], seen, h => by cases h
  | (u, e) :: l, seen, h => by
    simp only [numsL] at h
    split at h
    · rename_i hc
      obtain ⟨h1, h2, h3⟩ := nums_lk l seen h
      refine ⟨h1, ?_, h3⟩
      rw [lk_cons, if_neg (fun e => by subst e; rw [h1] at hc; cases hc)]
      exact h2
    · rename_i hc
      split at h
      · rename_i hs
        rw [lk_cons] at h
        split at h
        · rename_i e'
          cases h
          subst e'
          exact ⟨by simpa using hc, by rw [lk_cons, if_pos rfl], hs⟩
        · rename_i hne
          obtain ⟨h1, h2, h3⟩ := nums_lk l _ h
          exact ⟨by simp at h1 ⊢; exact h1.2, by rw [lk_cons, if_neg hne]; exact h2, h3⟩
      · obtain ⟨h1, h2, h3⟩ := nums_lk l _ h
        have hne : ¬ t = u := by simp at h1; exact h1.1
        exact ⟨by simp at h1 ⊢; exact h1.2, by rw [lk_cons, if_neg hne]; exact h2, h3⟩

theorem yieldY (hY : YOk P l I ys J Jx) {pre : List (Fin m)} {o : Oper} {ds : List D} (hy : yargs o s l = some ds) (hlen : pre.length < m) {x : Fin m} (hx : ds = ys x) (hr : RelY I J Jx s (pre, true) a w) (hn : a.tmps.size = n) (hd : ∀ t, o.dst = some t → t < n)
    {KK : Act → World → Prop} {Q : Exit → Act → World → Prop}
    (hK : ∀ w', RelY I J Jx (s.put o.dst (.bool true)) (pre ++ [x], true) (a.put o.dst (.bool true)) w' → KK (a.put o.dst (.bool true)) w')
    (hK' : ∀ w', RelY I J Jx (s.nums.put o.dst (.bool false)) (pre ++ [x], false) (a.put o.dst (.bool false)) w' → KK (a.put o.dst (.bool false)) w') : o.wpIn Fence.wide 4 P a w KK Q := by
  obtain ⟨h1, h2, h3, h4⟩ := hr
  unfold yargs at hy
  split at hy <;> try cases hy
  rename_i c ho
  split at hy <;> try cases hy
  rename_i f hc
  split at hy <;> try cases hy
  rename_i l' hf
  split at hy <;> cases hy
  rename_i hl
  subst hl
  have hff := h3.ev f
  rw [hf] at hff
  generalize hfv : a.eval f = fv at hff
  cases hff with
  | fn _ fiv cav _ _ h5 h6 h7 h8 =>
  have e1 : fiv = #[] := Array.eq_empty_of_size_eq_zero (by simpa using h5)
  have e2 : cav = #[] := Array.eq_empty_of_size_eq_zero (by simpa using h6)
  subst e1; subst e2
  obtain ⟨h9, h10⟩ := map_rel h3 c.args
  have hvs : ∀ (j : Nat) (v : Value) (d : D), (c.args.map a.eval)[j]? = some v → (ys x)[j]? = some d → VRel (G0 I) w v d := fun j v d hv hd => h10 j v d hv (by rw [hx]; exact hd)
  obtain ⟨fn, tmps, assign, body, hrun, hround⟩ := hY.round pre x (c.args.map a.eval) w h4 hlen (by rw [h9, hx]) hvs
  refine ⟨fun f _ => trivial, ?_⟩
  have hsem : Oper.semAt Fence.wide.round a.eval o = execOp a.eval o := rfl
  rw [hsem]
  have hex : (execOp a.eval o).run P w = .ok (.round l' fn tmps assign body) w := by
    unfold execOp
    simp [ho, resolve, hc, hfv, Deferred.ofValue, invoke, hrun]
  rw [hex]
  refine ⟨fun hh => (by cases hh), hround.mono ?_⟩
  rintro e w' (⟨rfl, hj, hkp⟩ | ⟨rfl, hj, hkp⟩)
  · refine hK w' (RelY.put (σ := (pre ++ [x], true)) ⟨h1, h2, ?_, hj⟩ o.dst (fun g _ _ => .c _ _ (.bool _)) fun t ht => by rw [hn]; exact hd t ht)
    have hk : Keeps I w w' := fun b hb => hkp b hb (h3.o.cel b hb)
    refine ⟨fun t d ht => let ⟨v, h11, h12⟩ := h3.tm t d ht; ⟨v, h11, h12.mono hk (.refl _)⟩, h3.defers, ⟨fun id o h => ?_, fun id o id' o' b h => ?_, fun id _ => ⟨rfl, rfl⟩, fun b hb => ⟨((h3.o.cel b hb).keep (hk b hb)).lt, (h3.o.imm b hb).2⟩, h3.o.cel.same fun b hb => hk b hb⟩⟩
    · rw [h1] at h; cases h
    · rw [h1] at h; cases h
  · have hk : Keeps I w w' := fun b hb => hkp b hb (h3.o.cel b hb)
    refine hK' w' (RelY.put (σ := (pre ++ [x], false)) ⟨rfl, rfl, ⟨fun t d ht => ?_, h3.defers, ⟨fun id o h => (by cases h), fun id o id' o' b h => (by cases h), fun id _ => ⟨rfl, rfl⟩, fun b hb => ⟨((h3.o.cel b hb).keep (hk b hb)).lt, fun ⟨_, _, h, _⟩ => by cases h⟩, h3.o.cel.same fun b hb => hk b hb⟩⟩, hj⟩ o.dst (fun g _ _ => .c _ _ (.bool _)) fun t ht => by rw [hn]; exact hd t ht)
    obtain ⟨_, h11, h12⟩ := nums_lk _ _ ht
    obtain ⟨v, h13, h14⟩ := h3.tm t d h11
    exact ⟨v, h13, h14.any h12⟩

theorem aopsY_sound (hT : TabOk P T) (hY : YOk P l I ys J Jx) (all : Array Oper) {K : St → Sg m → Prop} {Q : Exit → Act → World → Prop} : ∀ (ops : List Oper) {s : St} {σ : Sg m} {a : Act} {w : World}, (∀ o ∈ ops, dstOk1 n o = true) → aopsY P T l ys K ops s σ → RelY I J Jx s σ a w → a.tmps.size = n →
    (∀ s' σ' a' w', K s' σ' → RelY I J Jx s' σ' a' w' → a'.tmps.size = n → Q .normal a' w') → wpListIn Fence.wide 4 P all Q ops a w
  | [], s, σ, a, w, _, h, hr, hn, hQ => hQ _ _ _ _ h hr hn
  | o :: rest, s, σ, a, w, hd, h, hr, hn, hQ => by
    have hdo : ∀ x, o.dst = some x → x < n := fun x hx => by
      have := hd o (by simp)
      unfold dstOk1 at this
      rw [hx] at this
      simpa using this
    have hrest : ∀ o ∈ rest, dstOk1 n o = true := fun o ho => hd o (by simp [ho])
    obtain ⟨hg, h⟩ := h
    have hw : Region.wanted o (yielded all a.tmps) = true := by simp [Region.wanted, hg]
    simp only [wpListIn, hw, if_true]
    split at h
    · rename_i ds hds
      obtain ⟨hlive, hlen, x, hx, h1, h2⟩ := h
      obtain ⟨pre, b⟩ := σ
      have hb : b = true := hlive
      subst hb
      exact yieldY hY hds hlen hx hr hn hdo (fun w' hr' => aopsY_sound hT hY all rest hrest h1 hr' (by rw [put_size, hn]) hQ) (fun w' hr' => aopsY_sound hT hY all rest hrest h2 hr' (by rw [put_size, hn]) hQ)
    · exact opY hT hY h hr hn hdo fun s' a' w' hK hr' hn' => aopsY_sound hT hY all rest hrest hK hr' hn' hQ

theorem RelY.sub {σ : Sg m} (h : RelY I J Jx s σ a w) (hs : s'.os = [] ∧ s'.nx = 0 ∧ subT s.tm s'.tm) : RelY I J Jx s' σ a w := by
  obtain ⟨h1, h2, h3⟩ := h
  have key : ∀ {I : Nat → Prop}, Rel [] (G0 I) s a w → Rel [] (G0 I) s' a w := fun hr => ⟨fun t d ht => by
    obtain ⟨d', h4, h5⟩ := subT_get hs.2.2 ht
    obtain ⟨v, h6, h7⟩ := hr.tm t d' h4
    exact ⟨v, h6, h7.le h5⟩, hr.defers, ⟨fun id o h => (by rw [hs.1] at h; cases h), fun id o id' o' b h => (by rw [hs.1] at h; cases h), fun id _ => ⟨rfl, rfl⟩, fun b hb => ⟨(hr.o.imm b hb).1, fun ⟨id, o, h, _⟩ => by rw [hs.1] at h; cases h⟩, hr.o.cel⟩⟩
  refine ⟨hs.1, hs.2.1, ?_⟩
  obtain ⟨pre, b⟩ := σ
  cases b
  · exact ⟨key h3.1, h3.2⟩
  · exact ⟨key h3.1, h3.2⟩

theorem SY.region (hT : TabOk P T) (hY : YOk P l I ys J Jx) {i : Nat} {ops : Array Oper} {Q : Exit → St → Sg m → Prop} {σ : Sg m} (hd : ops.toList.all (dstOk1 n) = true) (h : aopsY P T l ys (Q .normal) ops.toList s σ) : SY P n I J Jx (.region i ops false) Q s σ := fun a w hr hn =>
  wpIn_region_list (aopsY_sound hT hY ops ops.toList (fun o ho => List.all_eq_true.1 hd o ho) h hr hn fun s' σ' a' w' h1 h2 h3 => ⟨s', σ', h1, h2, h3⟩)
theorem SY.seq {x y : Code} {Q : Exit → St → Sg m → Prop} {σ : Sg m} (h : SY P n I J Jx x (fun e s σ => match e with | .normal => SY P n I J Jx y Q s σ | e => Q e s σ) s σ) : SY P n I J Jx (.seq x y) Q s σ := fun a w hr hn => by
  refine wpIn_seq (wpIn_mono (h a w hr hn) fun e a' w' ⟨s', σ', h1, h2, h3⟩ => ?_)
  cases e with
  | normal => exact h1 a' w' h2 h3
  | _ => exact ⟨s', σ', h1, h2, h3⟩
theorem RelY.ev {σ : Sg m} (h : RelY I J Jx s σ a w) {c : Operand} {b : Bool} (hc : s.ev c = .bool b) : a.eval c = .bool b := by
  obtain ⟨h1, h2, h3⟩ := h
  obtain ⟨pre, b'⟩ := σ
  cases b'
  · have := h3.1.ev c; rw [hc] at this; exact this.bool_inv
  · have := h3.1.ev c; rw [hc] at this; exact this.bool_inv
theorem SY.cond {c : Operand} {x y : Code} {b : Bool} {Q : Exit → St → Sg m → Prop} {σ : Sg m} (hc : s.ev c = .bool b) (h1 : b = true → SY P n I J Jx x Q s σ) (h2 : b = false → SY P n I J Jx y Q s σ) : SY P n I J Jx (.cond c x y) Q s σ := fun a w hr hn => by
  refine wpIn_cond (hr.ev hc) ?_
  cases b with
  | true => exact h1 rfl a w hr hn
  | false => exact h2 rfl a w hr hn
theorem SY.skip {Q : Exit → St → Sg m → Prop} {σ : Sg m} (h : Q .normal s σ) : SY P n I J Jx .skip Q s σ := fun a w hr hn => wpIn_skip ⟨s, σ, h, hr, hn⟩
theorem SY.ret {Q : Exit → St → Sg m → Prop} {σ : Sg m} (h : Q .ret s σ) : SY P n I J Jx .ret Q s σ := fun a w hr hn => wpIn_ret ⟨s, σ, h, hr, hn⟩
theorem SY.exit {i : Nat} {Q : Exit → St → Sg m → Prop} {σ : Sg m} (h : Q (.exit i) s σ) : SY P n I J Jx (.exit i) Q s σ := fun a w hr hn => wpIn_exit ⟨s, σ, h, hr, hn⟩
theorem SY.block {i : Nat} {c : Code} {Q : Exit → St → Sg m → Prop} {σ : Sg m} (h : SY P n I J Jx c (fun e s σ => match e with | .exit j => if j = i then Q .normal s σ else Q (.exit j) s σ | e => Q e s σ) s σ) : SY P n I J Jx (.block i c) Q s σ := fun a w hr hn => by
  refine wpIn_block (wpIn_mono (h a w hr hn) fun e a' w' ⟨s', σ', h1, h2, h3⟩ => ?_)
  cases e with
  | exit j =>
    simp only [Exit.inBlock]
    dsimp only at h1
    split
    · rename_i hj; rw [if_pos hj] at h1; exact ⟨s', σ', h1, h2, h3⟩
    · rename_i hj; rw [if_neg hj] at h1; exact ⟨s', σ', h1, h2, h3⟩
  | _ => exact ⟨s', σ', h1, h2, h3⟩
theorem SY.loop {c : Code} {Q : Exit → St → Sg m → Prop} {σ : Sg m} (k : Nat) (S : Nat → St) (G' : Nat → Sg m) (i0 : Nat) (h0 : ∀ a w, RelY I J Jx s σ a w → RelY I J Jx (S i0) (G' i0) a w) (hi0 : i0 ≤ k)
    (hround : ∀ i, i ≤ k → SY P n I J Jx c (fun e s' σ' => match e with | .normal => i < k ∧ σ' = G' (i + 1) ∧ (S (i + 1)).os = [] ∧ (S (i + 1)).nx = 0 ∧ subT s'.tm (S (i + 1)).tm | e => Q e s' σ') (S i) (G' i)) : SY P n I J Jx (.loop c) Q s σ := by
  have key : ∀ (j i : Nat) (a : Act) (w : World), i ≤ k → k - i = j → RelY I J Jx (S i) (G' i) a w → a.tmps.size = n →
      Code.roundsIn Fence.wide 4 P c (fun e a' w' => ∃ s' σ', Q e s' σ' ∧ RelY I J Jx s' σ' a' w' ∧ a'.tmps.size = n) (j + 1) a w := by
    intro j
    induction j with
    | zero =>
      intro i a w hi hj hr hn
      refine wpIn_mono (hround i hi a w hr hn) fun e a' w' ⟨s', σ', h1, h2, h3⟩ => ?_
      cases e with
      | normal => have := h1.1; omega
      | _ => exact ⟨s', σ', h1, h2, h3⟩
    | succ j ih =>
      intro i a w hi hj hr hn
      refine wpIn_mono (hround i hi a w hr hn) fun e a' w' ⟨s', σ', h1, h2, h3⟩ => ?_
      cases e with
      | normal =>
        obtain ⟨h4, rfl, h5, h6, h7⟩ := h1
        exact ih (i + 1) a' w' h4 (by omega) (h2.sub ⟨h5, h6, h7⟩) h3
      | _ => exact ⟨s', σ', h1, h2, h3⟩
  exact fun a w hr hn => wpIn_loop_rounds (k - i0 + 1) (key (k - i0) i0 a w hi0 rfl (h0 a w hr) hn)
end
end Dm
namespace Dm
open Go
section
variable {P : Program} {T : Tab} {g : G} {s s' : St} {a : Act} {w w' : World} {n l m : Nat}

theorem IterOk.of {gf : FuncId} {fn : Func} {c : Code} {caps : List D} {ys : Fin m → List D} {order : List (Fin m)}
    (hf : P.funcs[gf]? = some fn) (hname : (fn.name == "runtime.NumGoroutine") = false) (hb : fn.body = some c) (hn : fn.ntmps = n) (hl : caps.length + 1 ≤ n) (hrs : fn.results.toList = [])
    (h : ∀ (l : Nat) (I : Nat → Prop) (J Jx : List (Fin m) → World → Prop), YOk P l I ys J Jx →
      SY P n I J Jx c (fun e _ σ => (e = .normal ∨ e = .ret) ∧ ((σ.2 = true ∧ σ.1 = order) ∨ (σ.2 = false ∧ σ.1 <+: order))) ⟨prm 0 (.fn (.yield l) [] [] :: caps), [], 0⟩ ([], true)) : IterOk P gf caps ys order := by
  refine ⟨Go.Proofs.enters_of hf hname hb, fun I w lb hI hsz hv => ?_⟩
  · intro l J Jx W hbel hJ hJx hround h0
    refine callsIn_of_wp hf hb trivial ?_
    subst hn
    have hY : YOk P l I ys J Jx :=
      ⟨hround, hJ, hJx⟩
    have hcel : Cels I W := hI.same fun b hb => hbel.block b (hI b hb).lt
    have hk : Keeps I w W := fun b hb => hbel.block b (hI b hb).lt
    have hr : Rel [] (G0 I) ⟨prm 0 (.fn (.yield l) [] [] :: caps), [], 0⟩ { tmps := (#[Value.func (.yield l) #[] #[]] ++ lb) ++ Array.replicate (fn.ntmps - (#[Value.func (.yield l) #[] #[]] ++ lb).size) undef, defers := [] } W := by
      refine ⟨fun t d ht => ?_, rfl, (RelO.none I W hcel).tm⟩
      obtain ⟨_, h2⟩ := lk_prm _ 0 t d ht
      rw [Nat.sub_zero] at h2
      have hs : (#[Value.func (.yield l) #[] #[]] ++ lb).size = caps.length + 1 := by simp [hsz]; omega
      have ht : t < (#[Value.func (.yield l) #[] #[]] ++ lb).size := by
        rw [hs]
        have := (List.getElem?_eq_some_iff.1 h2).1
        simpa using this
      refine ⟨(#[Value.func (.yield l) #[] #[]] ++ lb)[t], by rw [Array.getElem?_append_left ht, Array.getElem?_eq_getElem ht], ?_⟩
      cases t with
      | zero =>
        simp at h2
        subst h2
        simp
        exact .fn _ _ _ _ _ rfl rfl (fun i v d h => by simp at h) (fun i v d h => by simp at h)
      | succ t =>
        have h3 : caps[t]? = some d := by simpa using h2
        have h4 : lb[t]? = some (#[Value.func (.yield l) #[] #[]] ++ lb)[t + 1] := by
          rw [Array.getElem_append_right (by simp)]
          simp
        exact (hv t _ d h4 h3).mono hk (.refl _)
    refine wpIn_mono (h l I J Jx hY _ W ⟨rfl, rfl, hr, h0⟩ (by simp [hsz]; omega)) ?_
    rintro e a' w' ⟨s', σ', ⟨h1, h2⟩, h3, h4⟩
    have fin : a'.defers = [] ∧ ∃ v, (results fn a'.tmps).run P w' = .ok v w' ∧ ((∃ u, Ending.returned v = .returned u) ∧ ((∃ xs, xs = order ∧ J xs w') ∨ (∃ pre, pre <+: order ∧ Jx pre w'))) := by
      obtain ⟨h5, h6, h7⟩ := h3
      obtain ⟨pre, b⟩ := σ'
      cases b
      · obtain ⟨h8, h9⟩ := h7
        obtain ⟨v, h10, _⟩ := rdD_sound h8 fn hrs (d := .tup []) rfl
        refine ⟨h8.defers, v, h10, ⟨v, rfl⟩, .inr ⟨pre, ?_, h9⟩⟩
        rcases h2 with ⟨h, _⟩ | ⟨_, h⟩
        · cases h
        · exact h
      · obtain ⟨h8, h9⟩ := h7
        obtain ⟨v, h10, _⟩ := rdD_sound h8 fn hrs (d := .tup []) rfl
        refine ⟨h8.defers, v, h10, ⟨v, rfl⟩, .inl ⟨pre, ?_, h9⟩⟩
        rcases h2 with ⟨_, h⟩ | ⟨h, _⟩
        · exact h
        · cases h
    rcases h1 with rfl | rfl
    · exact fin
    · exact fin
end
end Dm
namespace Dm
open Go Go.Proofs Go.Shelf Go.RowKit Go.Lib Go.Sort
section
variable {P : Program} {ρ : Ren} {w w' : World}
theorem ext_grow (h : Ext w w') : ∃ q os', w' = Sort.grow (w.drewN q) os' := by
  refine ⟨w'.drawn - w.drawn, w'.heap.extract w.heap.size w'.heap.size, ?_⟩
  obtain ⟨h1, h2, h3⟩ := h
  have e1 : w'.heap = w.heap ++ w'.heap.extract w.heap.size w'.heap.size := by
    apply Array.ext_getElem?
    intro i
    rw [Array.getElem?_append]
    split
    · rename_i hi; exact h2 i hi
    · rename_i hi
      rw [Array.getElem?_extract]
      by_cases hi2 : i < w'.heap.size
      · rw [if_pos (by omega), show w.heap.size + (i - w.heap.size) = i by omega]
      · rw [if_neg (by omega), Array.getElem?_eq_none (by omega)]
  have e2 : w'.drawn = w.drawn + (w'.drawn - w.drawn) := by have := h3.drw; omega
  obtain ⟨a1, a2, a3, a4, a5⟩ := w'
  obtain ⟨b1, b2, b3, b4, b5⟩ := w
  have h31 := h3.os
  have h32 := h3.out
  have h33 := h3.tape
  simp only at e1 e2 h31 h32 h33
  subst h31; subst h32; subst h33
  simp only [Sort.grow, World.drewN, World.mk.injEq, and_self, and_true, true_and]
  exact ⟨e1, e2⟩
theorem putCells_get {off : Nat} {F cells : Array Value} {t : Nat} (ht : t < cells.size) : (putCells id off F cells)[t]? = if off ≤ t ∧ t < off + F.size then some F[t - off]! else cells[t]? := by
  unfold putCells
  rw [Array.getElem?_mapIdx, Array.getElem?_eq_getElem ht]
  simp only [Option.map_some, id]
  split <;> rfl
theorem sw_heap {enc : Nat → List Value} {k blk off m : Nat} {dk : Array Nat} {os : Array Obj} {cells : Array Value} {e : TypeId} {fz : Nat × Nat} (hb : w.heap[blk]? = some (.cells cells e fz)) {j : Nat} (hj : j < w.heap.size) :
    (sortWorldK enc k w blk off m dk os).heap[j]? = if j = blk then some (.cells (putCells id off (flatK enc k dk) cells) e fz) else w.heap[j]? := by
  unfold sortWorldK putRowK putRow mapBlock Sort.grow Sort.ahead
  have hs : (w.heap.modify blk (onCells (putCells id off (flatK enc k dk)))).size = w.heap.size := by simp
  simp only
  rw [Array.getElem?_append_left (by rw [hs]; exact hj), Array.getElem?_modify]
  by_cases h : j = blk
  · subst h
    rw [if_pos rfl, if_pos rfl, hb]; rfl
  · rw [if_neg (fun e => h e.symm), if_neg h]
theorem sw_size {enc : Nat → List Value} {k blk off m : Nat} {dk : Array Nat} {os : Array Obj} : w.heap.size ≤ (sortWorldK enc k w blk off m dk os).heap.size := by
  unfold sortWorldK putRowK putRow mapBlock Sort.grow Sort.ahead
  simp
theorem sw_env {enc : Nat → List Value} {k blk off m : Nat} {dk : Array Nat} {os : Array Obj} : Env w (sortWorldK enc k w blk off m dk os) := ⟨rfl, rfl, rfl, Nat.le_add_right _ _⟩
theorem ACall.sort (L : SlLaysF0.n6 P ρ) {k : Nat} (hk0 : 0 < k) (aE : ∀ w, (isAgg (ρ.t 24)).run P w = .ok true w) (zE : ∀ w, (Go.sizeOf (ρ.t 24)).run P w = .ok k w)
    {f g : FuncId} (hf : ρ.f 6 = f) {cf : List C → List C → Int} {id e nx n : Nat} {h0 : Bool} {els : List (List C)} {os : List (Nat × Ob)} {Q : D → List (Nat × Ob) → Nat → Prop}
    (hi : lk id os = some (.vec h0 k e els)) (hn : n = els.length) (hsz : n < 4611686018427387904)
    (hcmp : ∀ x ∈ els, ∀ y ∈ els, PureFn P g [.agg (x.map .c), .agg (y.map .c)] (.int .i64 (cf x y)))

    (h1 : ∀ x ∈ els, ¬ cf x x < 0) (h2 : ∀ x ∈ els, ∀ y ∈ els, ∀ z ∈ els, cf x y < 0 → cf y z < 0 → cf x z < 0) (h3 : ∀ x ∈ els, ∀ y ∈ els, ∀ z ∈ els, ¬ cf x y < 0 → ¬ cf y z < 0 → ¬ cf x z < 0)
    (hQ : ∀ els' : List (List C), List.Perm els' els → els'.Pairwise (fun x y => ¬ cf y x < 0) → Q (.tup []) (upd id (.vec h0 k e els') os) nx) : ACall P f [.vec id n, .fn (.func g) [] []] os nx Q := by
  subst hf
  refine ⟨?_, fun g0 w vs ho hsv hv => ?_⟩
  · obtain ⟨nm, hnm, hfn⟩ := L.f6
    exact ⟨_, hfn, hnm, rfl⟩
  have hlen : vs.size = 2 := hsv
  have hv0 := hv 0 vs[0] _ (Array.getElem?_eq_getElem (by omega)) rfl
  have hv1 := hv 1 vs[1] _ (Array.getElem?_eq_getElem (by omega)) rfl
  have hvs : vs = #[vs[0], vs[1]] := by
    apply Array.ext
    · simpa using hlen
    · intro i hi1 hi2
      have : i = 0 ∨ i = 1 := by omega
      rcases this with rfl | rfl <;> rfl
  have hfn : vs[1] = .func (.func g) #[] #[] := by
    generalize vs[1] = u at hv1
    cases hv1 with
    | fn _ fi ca _ _ hs1 hs2 =>
      have e1 : fi = #[] := Array.eq_empty_of_size_eq_zero (by simpa using hs1)
      have e2 : ca = #[] := Array.eq_empty_of_size_eq_zero (by simpa using hs2)
      rw [e1, e2]
  rw [hfn] at hvs
  obtain ⟨a, cap, hκ, hle, hcm, hw, hob⟩ := ho.ok id _ hi
  obtain ⟨a', cap', hva, hcase⟩ : ∃ a' cap', vs[0] = .slice a' n cap' ∧ (a' = a ∧ cap' = cap) := by
    generalize vs[0] = u at hv0
    cases hv0 with
    | vec a' cap' _ _ a0 len cap0 hk hle' hm ha hvq =>
      rw [hκ] at hk
      cases hk
      exact ⟨a', cap', rfl, hvq hn⟩
  obtain ⟨rfl, rfl⟩ := hcase
  rw [hva] at hvs
  clear hv0 hv1 hv hva hfn
  subst hvs
  have hrt : ∀ g' w', VRel g' w' (.tuple #[]) (.tup []) := fun g' w' => .tup #[] [] rfl (fun i v d hv => by simp at hv)
  by_cases hn0 : n = 0
  · have hels : els = [] := List.eq_nil_of_length_eq_zero (by omega)
    have hcon := AnyF.slices_SortFunc_none L a' cap' (.func (.func g) #[] #[]) w
    subst hn0
    refine hcon.mono ?_
    rintro ex w' ⟨rfl, rfl⟩
    subst hels
    have hq := hQ [] (.refl _) .nil
    obtain ⟨hr1, hr2⟩ := ho.replace hi (.vec h0 k e []) [] (.refl g0) (fun _ h => h) (fun _ _ => rfl) (fun _ _ => rfl) (Nat.le_refl _) (fun _ _ _ => rfl) (ho.ok id _ hi) (fun b hb => .inl hb)
    exact ⟨_, _, g0, _, nx, rfl, hq, hr1, hrt _ _, hr2⟩
  rcases hob with ⟨_, hc0⟩ | ⟨b, off, cells, vals, rfl, hblk, hsz2, ⟨hhd, hone⟩, hcell⟩
  · omega
  have hlt : b < w.heap.size := (Array.getElem?_eq_some_iff.1 hblk).1
  let ix : Nat → Nat := fun i => if i < n then i else 0
  have hix : ∀ i, ix i < n := fun i => by show (if i < n then i else 0) < n; split <;> omega
  let E : Nat → List C := fun i => els.getD (ix i) []
  have hE : ∀ i, E i ∈ els := fun i => by
    have h4 : ix i < els.length := by rw [← hn]; exact hix i
    show els.getD (ix i) [] ∈ els
    rw [List.getD_eq_getElem?_getD, List.getElem?_eq_getElem h4]
    exact List.getElem_mem h4
  have hE2 : ∀ i, els[ix i]? = some (E i) := fun i => by
    have h4 : ix i < els.length := by rw [← hn]; exact hix i
    show els[ix i]? = some (els.getD (ix i) [])
    rw [List.getD_eq_getElem?_getD, List.getElem?_eq_getElem h4]; rfl
  let enc : Nat → List Value := fun i => (List.range k).map (vals (ix i))
  have henc : ∀ x, (enc x).length = k := fun x => by simp [enc]
  have hcl : ∀ i j, j < k → ∃ y, (E i)[j]? = some y ∧ cells[off + ix i * k + j]? = some (vals (ix i) j) ∧ CRel g0.I w (vals (ix i) j) y := fun i j hj => by
    have hwd : (E i).length = k := hw _ (hE i)
    have h4 : (E i)[j]? = some ((E i)[j]'(by omega)) := List.getElem?_eq_getElem (by omega)
    exact ⟨_, h4, hcell (ix i) j _ _ (hE2 i) h4⟩
  have hO : SWO (ltOf fun i j => cf (E i) (E j)) := by
    refine ⟨fun x => ?_, fun x y z hx hy => ?_, fun x y z hx hy => ?_⟩
    · unfold ltOf; exact decide_eq_false (h1 _ (hE x))
    · unfold ltOf at *
      exact decide_eq_true (h2 _ (hE x) _ (hE y) _ (hE z) (of_decide_eq_true hx) (of_decide_eq_true hy))
    · unfold ltOf at *
      exact decide_eq_false (h3 _ (hE x) _ (hE y) _ (hE z) (of_decide_eq_false hx) (of_decide_eq_false hy))
  have hmem0 : E 0 ∈ els := hE 0
  have eg : ∀ args w, (callFunc g args).run P w = .ok (.enter g args) w := by
    obtain ⟨⟨fn, h4, h5, h6⟩, _⟩ := hcmp _ hmem0 _ hmem0
    cases hb : fn.body with
    | none => rw [hb] at h6; cases h6
    | some c => exact enters_of h4 h5 hb
  have hIb : ∀ b', g0.I b' → b' < w.heap.size ∧ b' ≠ b := fun b' hb' => ⟨(ho.imm b' hb').1, fun e => (ho.imm b' hb').2 ⟨id, _, hi, by rw [e]; simp [G.blk, hκ]⟩⟩
  have hkeep : ∀ (m : Nat) (dk : Array Nat) (os' : Array Obj), Keeps g0.I w (sortWorldK enc k w b off m dk os') := fun m dk os' b' hb' => by
    rw [sw_heap hblk (hIb b' hb').1, if_neg (hIb b' hb').2]
  have hcl2 : CmpLays P g #[] enc k (fun i j => cf (E i) (E j)) b off n w := by
    intro m os' dk hdk x y
    have harg : ∀ (i : Nat) (v : Value) (d : D), (#[Value.agg (enc x).toArray, .agg (enc y).toArray] : Array Value)[i]? = some v → [D.agg ((E x).map .c), .agg ((E y).map .c)][i]? = some d → VRel (G0 g0.I) (sortWorldK enc k w b off m dk os') v d := by
      have one : ∀ x, VRel (G0 g0.I) (sortWorldK enc k w b off m dk os') (.agg (enc x).toArray) (.agg ((E x).map .c)) := fun x => by
        have hwd : (E x).length = k := hw _ (hE x)
        refine .agg _ _ (by simp [henc, hwd]) fun i v d hv hd => ?_
        simp only [List.getElem?_toArray, enc, List.getElem?_map] at hv
        have hik : i < k := by
          rcases Nat.lt_or_ge i k with h | h
          · exact h
          · rw [List.getElem?_eq_none (by simpa using h)] at hv; cases hv
        rw [List.getElem?_range hik] at hv
        simp only [Option.map_some, Option.some.injEq] at hv
        obtain ⟨z, h4, h5, h6⟩ := hcl x i hik
        rw [List.getElem?_map, h4] at hd
        simp only [Option.map_some, Option.some.injEq] at hd
        subst hv; subst hd
        exact .c _ _ (h6.mono (hkeep m dk os') fun b hb => hb)
      intro i v d hv hd
      have : i = 0 ∨ i = 1 ∨ 2 ≤ i := by omega
      rcases this with rfl | rfl | h
      · simp at hv hd; subst hv; subst hd; exact one x
      · simp at hv hd; subst hv; subst hd; exact one y
      · rw [List.getElem?_eq_none (by simpa using h)] at hd; cases hd
    have hc := (hcmp _ (hE x) _ (hE y)).2 g0.I (sortWorldK enc k w b off m dk os') #[.agg (enc x).toArray, .agg (enc y).toArray] (ho.cel.same fun b' hb' => hkeep m dk os' b' hb') rfl harg
    refine hc.mono ?_
    rintro ex w' ⟨v, I', rfl, hvr, hext, _⟩
    have := hvr.int_inv
    subst this
    exact ⟨rfl, ext_grow hext⟩
  have hflat : ∀ (d : Array Nat) (t : Nat), t < d.size * k → (flatK enc k d)[t]! = vals (ix d[t / k]!) (t % k) := fun d t ht => by
    rw [get_flatK _ _ _ _ ht]
    have : t % k < k := Nat.mod_lt _ hk0
    simp [enc, this]
  have hH : HoldsK enc k w b off (Array.range n) := by
    intro t ht
    simp only [size_flatK, Array.size_range] at ht
    have h4 : t / k < n := (Nat.div_lt_iff_lt_mul hk0).2 ht
    rw [hflat _ _ (by simpa using ht)]
    have h5 : (Array.range n)[t / k]! = t / k := by simp [h4]
    rw [h5]
    have h6 : ix (t / k) = t / k := by show (if t / k < n then t / k else 0) = t / k; rw [if_pos h4]
    obtain ⟨y, h7, h8, h9⟩ := hcl (t / k) (t % k) (Nat.mod_lt _ hk0)
    rw [h6, show off + t / k * k + t % k = off + t by rw [Nat.add_assoc, Nat.div_add_mod']] at h8
    rw [h6]
    refine ⟨by simp only [World.cell?, hblk]; simpa using h8, by simp [World.frozen?, hblk]⟩
  have hcon := AnyQ.slices_SortFunc L k aE zE enc henc (fun x v hv => by
    simp only [enc, List.mem_map, List.mem_range] at hv
    obtain ⟨j, hj, rfl⟩ := hv
    obtain ⟨y, h7, h8, h9⟩ := hcl x j hj
    exact hone _ (Array.mem_toList_iff.2 (Array.mem_of_getElem? h8))) (fun i j => cf (E i) (E j)) hO g #[] b off cap' (Array.range n) w eg (by simpa using hcl2) hH hlt (by simpa using hsz)
  rw [Array.size_range] at hcon
  refine hcon.mono ?_
  rintro ex w' ⟨rfl, d', m, os', ⟨hp1, _, hp2⟩, hso, rfl⟩
  rw [Array.size_range] at hp1
  have hperm : d'.toList.Perm (List.range n) := by
    have e1 : d'.extract 0 n = d' := by rw [← hp1, Array.extract_size]
    have e2 : (Array.range n).extract 0 n = Array.range n := by
      have : (Array.range n).size = n := Array.size_range
      conv => lhs; arg 3; rw [← this]
      exact Array.extract_size
    rw [e1, e2, Array.toList_range] at hp2
    exact hp2
  have hEr : (List.range n).map E = els := by
    apply List.ext_getElem?
    intro i
    rw [List.getElem?_map]
    by_cases hin : i < n
    · rw [List.getElem?_range hin, Option.map_some, ← hE2 i]
      show els[ix i]? = _
      have : ix i = i := by show (if i < n then i else 0) = i; rw [if_pos hin]
      rw [this]
    · rw [List.getElem?_eq_none (by simpa using hin), List.getElem?_eq_none (by omega)]; rfl
  have hpe : (d'.toList.map E).Perm els := by
    have := hperm.map E
    rwa [hEr] at this
  have hlen' : (d'.toList.map E).length = n := by rw [hpe.length_eq]; exact hn.symm
  have hpw : (d'.toList.map E).Pairwise (fun x y => ¬ cf y x < 0) := by
    rw [List.pairwise_map, List.pairwise_iff_getElem]
    intro i j hi hj hij
    have hi' : i < d'.size := by simpa using hi
    have hj' : j < d'.size := by simpa using hj
    have := hso i j (Nat.zero_le _) hij (by omega)
    rw [getElem!_pos d' i hi', getElem!_pos d' j hj'] at this
    have := of_decide_eq_false this
    simpa using this
  have hq := hQ _ hpe hpw
  have hdn : ∀ i, i < n → d'[i]! < n := fun i hi => by
    have hi' : i < d'.size := by omega
    rw [getElem!_pos d' i hi']
    exact List.mem_range.1 (hperm.mem_iff.1 (by simp))
  have hok : OK g0 (sortWorldK enc k w b off m d' os') id (.vec h0 k e (d'.toList.map E)) := by
    refine ⟨some ⟨b, off, none⟩, cap', by rw [hlen', hn]; exact hκ, by omega, hcm, fun x hx => hw x (hpe.mem_iff.1 hx), .inr ⟨b, off, putCells _root_.id off (flatK enc k d') cells, fun i j => vals (ix d'[i]!) j, rfl, by rw [sw_heap hblk hlt, if_pos rfl], ?_, ⟨?_, ?_⟩, ?_⟩⟩
    · simpa [putCells] using hsz2
    · intro h
      have := hhd h
      simpa [putCells] using this
    · intro v hv
      rw [Array.mem_toList_iff] at hv
      obtain ⟨t, ht, htv⟩ := Array.mem_iff_getElem.1 hv
      have ht' : t < cells.size := by simpa [putCells] using ht
      have h4 := putCells_get (off := off) (F := flatK enc k d') ht'
      rw [Array.getElem?_eq_getElem ht, htv] at h4
      split at h4
      · rename_i h5
        simp only [Option.some.injEq] at h4
        rw [size_flatK] at h5
        rw [h4, hflat _ _ (by omega)]
        obtain ⟨y, h7, h8, h9⟩ := hcl (d'[(t - off) / k]!) ((t - off) % k) (Nat.mod_lt _ hk0)
        exact hone _ (Array.mem_toList_iff.2 (Array.mem_of_getElem? h8))
      · exact hone _ (Array.mem_toList_iff.2 (Array.mem_of_getElem? h4.symm))
    · intro i j x y hx hy
      rw [List.getElem?_map] at hx
      have hin : i < n := by
        rcases Nat.lt_or_ge i n with h | h
        · exact h
        · rw [List.getElem?_eq_none (by simp; omega)] at hx; cases hx
      have hi' : i < d'.size := by omega
      have h4 : d'.toList[i]? = some d'[i]! := by rw [getElem!_pos d' i hi', Array.getElem?_toList, Array.getElem?_eq_getElem hi']
      rw [h4] at hx
      simp only [Option.map_some, Option.some.injEq] at hx
      subst hx
      have hjk : j < k := by
        have hwd := hw _ (hE d'[i]!)
        have := (List.getElem?_eq_some_iff.1 hy).1
        omega
      obtain ⟨z, h7, h8, h9⟩ := hcl d'[i]! j hjk
      rw [h7] at hy
      cases hy
      have hb1 : i * k + j < n * k := by
        have := Nat.mul_le_mul_right k (show i + 1 ≤ n from hin)
        rw [Nat.add_mul, Nat.one_mul] at this; omega
      have hb2 : n * k ≤ cap' * k := Nat.mul_le_mul_right k (by omega)
      have h10 : off + i * k + j < cells.size := by omega
      rw [putCells_get h10, if_pos ⟨by omega, by rw [size_flatK, hp1]; omega⟩, show off + i * k + j - off = i * k + j by omega, hflat _ _ (by rw [hp1]; exact hb1)]
      have e1 : (i * k + j) / k = i := by rw [Nat.add_comm, Nat.add_mul_div_right _ _ hk0, Nat.div_eq_of_lt hjk, Nat.zero_add]
      have e2 : (i * k + j) % k = j := by rw [Nat.add_comm, Nat.add_mul_mod_self_right, Nat.mod_eq_of_lt hjk]
      rw [e1, e2]
      exact ⟨rfl, h9.mono (hkeep m d' os') fun b hb => hb⟩
  obtain ⟨hr1, hr2⟩ := ho.replace hi (.vec h0 k e (d'.toList.map E)) [] (.refl g0) (fun _ h => h) (fun _ _ => rfl) (fun _ _ => rfl) sw_size (fun b' hb' hne => by
    rw [sw_heap hblk hb', if_neg fun e => hne (by rw [e]; simp [G.blk, hκ])]) hok (fun b' hb' => .inl (by simpa [G.blk, hκ] using hb')) sw_env
  exact ⟨_, _, g0, _, nx, rfl, hq, hr1, hrt _ _, hr2⟩
end
end Dm
namespace Dm
open Go
def fzB (o : Option Ob) (id n t : Nat) (s : St) (K : St → Prop) : Prop := match o with
  | some (.vec _ _ _ els) => n = els.length ∧ K ⟨upd t (.c (.sl els)) s.tm, rmv s.os [id], s.nx⟩
  | _ => False
def fzA (x : Option D) (t : Nat) (s : St) (K : St → Prop) : Prop := match x with
  | some (.vec id n) => fzB (lk id s.os) id n t s K
  | some _ => K s
  | none => False
def fzK : List Nat → St → (St → Prop) → Prop
  | [], s, K => K s
  | t :: l, s, K => fzA (lk t s.tm) t s (fun s => fzK l s K)
section
variable {δ : List Deferred} {P : Program} {g g' : G} {s s' : St} {a : Act} {w w' : World} {n N : Nat} {K : St → Prop}
@[congr] theorem fzA_congr {x x' : Option D} {t : Nat} (h : x = x') : fzA x t s K = fzA x' t s K := by rw [h]
@[congr] theorem fzB_congr {x x' : Option Ob} {id n t : Nat} (h : x = x') : fzB x id n t s K = fzB x' id n t s K := by rw [h]
@[congr] theorem fzK_congr {l : List Nat} (h : s = s') : fzK l s K = fzK l s' K := by rw [h]
@[go_sem] theorem fzK_nil : fzK [] s K = K s := rfl
@[go_sem] theorem fzK_cons {t : Nat} {l : List Nat} : fzK (t :: l) s K = fzA (lk t s.tm) t s (fun s => fzK l s K) := rfl
@[go_sem] theorem fzA_vec {id m t : Nat} : fzA (some (.vec id m)) t s K = fzB (lk id s.os) id m t s K := rfl
@[go_sem] theorem fzA_c {x : C} {t : Nat} : fzA (some (.c x)) t s K = K s := rfl
@[go_sem] theorem fzA_nil {t : Nat} : fzA (some .nil) t s K = K s := rfl
@[go_sem] theorem fzB_vec {id m t : Nat} {hd : Bool} {z : Nat} {e : TypeId} {els : List (List C)} : fzB (some (.vec hd z e els)) id m t s K = (m = els.length ∧ K ⟨upd t (.c (.sl els)) s.tm, rmv s.os [id], s.nx⟩) := rfl
def lpF {ι : Type} (fz : List Nat) (N : Nat) (S : ι → St) (μ : ι → Nat) (m : Nat) (Q : Exit → St → Prop) : Exit → St → Prop
  | .normal, s => fzK fz s fun s => ∃ i, μ i < m ∧ Sub N s (S i)
  | e, s => Q e s
variable {Q : Exit → St → Prop}
@[congr] theorem lpF_congr {ι : Type} {fz : List Nat} {S : ι → St} {μ : ι → Nat} {m : Nat} {e : Exit} (h' : s = s') : lpF fz N S μ m Q e s = lpF fz N S μ m Q e s' := by rw [h']
@[go_sem] theorem lpF_n {ι : Type} {fz : List Nat} {S : ι → St} {μ : ι → Nat} {m : Nat} : lpF fz N S μ m Q .normal s = fzK fz s fun s => ∃ i, μ i < m ∧ Sub N s (S i) := rfl
@[go_sem] theorem lpF_r {ι : Type} {fz : List Nat} {S : ι → St} {μ : ι → Nat} {m : Nat} : lpF fz N S μ m Q .ret s = Q .ret s := rfl
@[go_sem] theorem lpF_e {ι : Type} {fz : List Nat} {S : ι → St} {μ : ι → Nat} {m i : Nat} : lpF fz N S μ m Q (.exit i) s = Q (.exit i) s := rfl
end
end Dm
namespace Dm
open Go
section
variable {δ : List Deferred} {P : Program} {T : Tab} {g g' : G} {s s' r e : St} {a : Act} {w : World} {n N : Nat} {F F' : Nat → Prop} {all : Array Oper}
theorem drawn_soundK {k : Nat} (hk : k < all.size) (hanc : ∀ j, j < k → Anc all j k) (hch : ∀ t, k < t → t < all.size → ∃ o ed, all[t]? = some o ∧ ed ∈ o.after ∧ Region.binds .any ed = true ∧ ed.on = t - 1) (hT : TabS P T) (hd : all.toList.all (dstOk1 n) = true) (hE : ∀ (i : Nat) o, all[i]? = some o → ∀ ed ∈ o.after, Region.binds .any ed = true → ed.on < i) {Q : Exit → Act → World → Prop} : ∀ (fuel : Nat) (listed : Array Bool) (l : List Ent) (g : G) (s : St) (a : Act) (w : World),
    l.length = fuel → listed.size = all.size → Down all listed → (∀ i, i < k → (listed.getD i true = false ↔ ∃ x ∈ l, x.i = i)) → (∀ i, k ≤ i → i < all.size → listed.getD i true = false) → (∀ x ∈ l, x.i < k ∧ all[x.i]? = some x.o) → l.Pairwise (Two all) → (∀ x ∈ l, x.r.nx ≤ e.nx ∧ x.B ≤ x.r.nx) →
    Tr P T all l s e → RelP (Free l e) δ g s a w → a.tmps.size = n → (∀ g' (listed' : Array Bool) a' w', listed'.size = all.size → (∀ i, i < all.size → listed'.getD i true = decide (i < k)) → RelP (fun id => e.nx ≤ id) δ g' e a' w' → a'.tmps.size = n → Step g s w g' e w' → wpAny P .any all Q (all.size - k) listed' a' w') →
    wpAny P .any all Q (fuel + (all.size - k)) listed a w
  | 0, listed, l, g, s, a, w, hl, hsz, hdn, hli, hlk, ho, hp, hnx, htr, hr, hn, hQ => by
    have : l = [] := List.eq_nil_of_length_eq_zero hl
    subst this
    rw [Nat.zero_add]
    refine hQ g listed a w hsz (fun i hi => ?_) ((hr.eqv htr).less fun id hid => .inr hid) hn (Step.eqv htr.2)
    by_cases hik : i < k
    · have : listed.getD i true ≠ false := fun h => by
        obtain ⟨x, hx, _⟩ := (hli i hik).1 h
        cases hx
      rw [decide_eq_true hik]
      simpa using this
    · rw [decide_eq_false hik]; exact hlk i (by omega) hi
  | fuel + 1, listed, l, g, s, a, w, hl, hsz, hdn, hli, hlk, ho0, hp, hnx, htr, hr, hn, hQ => by
    have ho : ∀ x ∈ l, all[x.i]? = some x.o := fun x hx => (ho0 x hx).2
    have hlk' : ∀ x ∈ l, x.i < k := fun x hx => (ho0 x hx).1
    have hlt : ∀ x ∈ l, x.i < all.size := fun x hx => (Array.getElem?_eq_some_iff.1 (ho x hx)).1
    rw [show fuel + 1 + (all.size - k) = fuel + (all.size - k) + 1 by omega]
    refine ⟨fun h0 => ?_, fun i hi => ?_⟩
    · -- there is always one that may come up
      cases l with
      | nil => simp at hl
      | cons y l =>
        exfalso
        have hy := ho y (by simp)
        have hyl := hlt y (by simp)
        have : y.i ∈ Region.ready .any all listed := by
          rw [Region.ready, List.mem_filter]
          refine ⟨List.mem_range.2 hyl, ?_⟩
          have h1 : listed.getD y.i true = false := (hli y.i (hlk' y (by simp))).2 ⟨y, by simp, rfl⟩
          rw [h1, hy]
          simp only [Bool.not_false, Option.map_some, Option.getD_some, Bool.true_and, Array.all_eq_true_iff_forall_mem]
          intro ed hed
          by_cases hb : Region.binds .any ed = true
          · have h2 := hE y.i y.o hy ed hed hb
            have h3 : listed.getD ed.on true ≠ false := fun h => by
              obtain ⟨z, hz, hzi⟩ := (hli ed.on (by have := hlk' y (by simp); omega)).1 h
              rcases List.mem_cons.1 hz with rfl | hz
              · omega
              · have := (List.rel_of_pairwise_cons hp hz).1
                omega
            have h4 : ed.on < listed.size := by omega
            have h5 : listed.getD ed.on true = true := by simpa using h3
            have h6 : listed.getD ed.on false = true := by
              simp only [Array.getD, h4, dif_pos] at h5 ⊢
              exact h5
            simp [hb, h6]
          · simp [hb]
        rw [h0] at this
        cases this
    · rw [Region.ready, List.mem_filter] at hi
      obtain ⟨hi1, hi2⟩ := hi
      have hi1' := List.mem_range.1 hi1
      simp only [Bool.and_eq_true, Bool.not_eq_true'] at hi2
      obtain ⟨hi3, hi4⟩ := hi2
      have hik : i < k := by
        rcases Nat.lt_or_ge i k with h | h
        · exact h
        exfalso
        have hgo : ∀ o ed, all[i]? = some o → ed ∈ o.after → Region.binds .any ed = true → listed.getD ed.on false = true := fun o ed ho' hed hb => by
          rw [ho'] at hi4
          simp only [Option.map_some, Option.getD_some, Array.all_eq_true_iff_forall_mem] at hi4
          have := hi4 ed hed
          rw [hb] at this
          simpa using this
        rcases Nat.eq_or_lt_of_le h with h5 | h5
        · subst h5
          cases l with
          | nil => simp at hl
          | cons y l =>
            have h6 := hanc y.i (hlk' y (by simp))
            have h7 : listed.getD y.i false = true := by
              obtain ⟨o, ed, ho', he', hb, h⟩ := h6.inv
              rcases h with h | h
              · rw [← h]; exact hgo _ _ ho' he' hb
              · exact h.listed hdn (hgo _ _ ho' he' hb)
            have h8 : listed.getD y.i true = false := (hli y.i (hlk' y (by simp))).2 ⟨y, by simp, rfl⟩
            have h9 : y.i < listed.size := by rw [hsz]; exact hlt y (by simp)
            simp only [Array.getD, h9, dif_pos] at h7 h8
            rw [h7] at h8
            cases h8
        · obtain ⟨o, ed, ho', hed, hb, hon⟩ := hch i h5 hi1'
          have h6 := hgo o ed ho' hed hb
          rw [hon] at h6
          have h8 := hlk (i - 1) (by omega) (by omega)
          have h9 : i - 1 < listed.size := by omega
          simp only [Array.getD, h9, dif_pos] at h6 h8
          rw [h6] at h8
          cases h8
      obtain ⟨x, hx, rfl⟩ := (hli i hik).1 hi3
      have hxo := ho x hx
      rw [hxo] at hi4
      simp only [Option.map_some, Option.getD_some, Array.all_eq_true_iff_forall_mem] at hi4
      obtain ⟨pre, post, rfl⟩ := List.append_of_mem hx
      have hpp := List.pairwise_append.1 hp
      have hind : ∀ y ∈ pre, Ind all y x ∨ (cmB all y.o x.o = true ∧ y.r.nx = y.B) := fun y hy => by
        obtain ⟨h1, _, _, h2⟩ := hpp.2.2 y hy x (by simp)
        refine h2.resolve_left fun he => ?_
        have hgo : ∀ ed ∈ x.o.after, Region.binds .any ed = true → listed.getD ed.on false = true := fun ed hed hb => by
          have := hi4 ed hed
          rw [hb] at this
          simpa using this
        have h5 : listed.getD y.i false = true := by
          obtain ⟨o, ed, ho', he', hb, h⟩ := he.inv
          rw [hxo] at ho'; cases ho'
          rcases h with h | h
          · rw [← h]; exact hgo _ he' hb
          · exact h.listed hdn (hgo _ he' hb)
        have h6 : listed.getD y.i true = false := (hli y.i (hlk' y (by simp [hy]))).2 ⟨y, by simp [hy], rfl⟩
        have h7 : y.i < listed.size := by rw [hsz]; exact hlt y (by simp [hy])
        simp only [Array.getD, h7, dif_pos] at h5 h6
        rw [h5] at h6
        cases h6
      obtain ⟨hgx, pre', hsim, htr'⟩ := Tr.front (fun y hy => (hind y hy).imp_right (·.1)) htr
      have hn1 : ∀ y ∈ pre, ∀ id ∈ x.T, ¬ (y.B ≤ id ∧ id < y.r.nx) := fun y hy id hid => by
        rcases hind y hy with h | h
        · exact h.n1 id hid
        · omega
      have hsim2 : (pre' ++ post).map Ent.sh = (pre ++ post).map Ent.sh := by rw [List.map_append, List.map_append, hsim]
      have hback : ∀ y' ∈ pre' ++ post, ∃ y ∈ pre ++ post, y'.sh = y.sh := fun y' hy' => mem_sim hsim2 hy'
      have hpost : ∀ y ∈ post, x.r.nx ≤ y.B := fun y hy => (List.rel_of_pairwise_cons hpp.2.1 hy).2.1
      have hpre : ∀ y ∈ pre, y.r.nx ≤ x.B := fun y hy => (hpp.2.2 y hy x (by simp)).2.1
      have hxnx := hnx x (by simp)
      have hlow := hgx.facts.2.2
      unfold wpOp
      rw [hxo]
      refine ent_sound (F' := Free (pre' ++ post) e) hT hgx (List.all_eq_true.1 hd x.o (by simpa using Array.mem_of_getElem? hxo)) hr hn (fun id h1 h2 => .inl ⟨x, by simp, h1, h2⟩) (fun id hid => ?_) fun g' a' w' hr' hn' hst => ?_
      · rcases hid with ⟨y', hy', h1, h2⟩ | h1
        · obtain ⟨y, hy, hyy⟩ := hback y' hy'
          obtain ⟨_, _, _, _, a5, a6⟩ := sh_eq hyy
          rw [a5] at h1
          rw [a6] at h2
          rcases List.mem_append.1 hy with hy | hy
          · have h3 := hpre y hy
            exact ⟨.inl ⟨y, by simp [hy], h1, h2⟩, .inl (by omega), fun hm => hn1 y hy id hm ⟨h1, h2⟩⟩
          · have h3 := hpost y hy
            exact ⟨.inl ⟨y, by simp [hy], h1, h2⟩, .inr (by omega), fun hm => by have := hlow id hm; omega⟩
        · exact ⟨.inr h1, .inr (by omega), fun hm => by have := hlow id hm; omega⟩
      · have hlen' : pre'.length = pre.length := by simpa using congrArg List.length hsim
        refine drawn_soundK hk hanc hch hT hd hE fuel _ (pre' ++ post) g' _ a' w' (by simp at hl ⊢; omega) (by simpa using hsz) ?_ (fun i hi => ?_) (fun i h1 h2 => by rw [getD_set_ne true (by omega)]; exact hlk i h1 h2) (fun y' hy' => ?_) ?_ (fun y' hy' => ?_) htr' hr' hn'
          (fun g'' l'' a'' w'' h0 h0' h1 h2 h3 => hQ g'' l'' a'' w'' h0 h0' h1 h2 (hst.trans h3))
        · intro i o hi ho' ed hed hb
          have hset : ∀ k : Nat, listed.getD k false = true → (listed.setIfInBounds x.i true).getD k false = true := fun k hk => by
            by_cases hkx : k = x.i
            · subst hkx
              simp [Array.getD, hsz, hi1']
            · rw [getD_set_ne false (fun h => hkx h.symm)]; exact hk
          refine hset _ ?_
          by_cases hix : i = x.i
          · subst hix
            rw [hxo] at ho'; cases ho'
            have := hi4 ed hed
            rw [hb] at this
            simpa using this
          · rw [getD_set_ne false (fun h => hix h.symm)] at hi
            exact hdn i o hi ho' ed hed hb
        · have hne : ∀ y ∈ pre ++ post, y.i ≠ x.i := fun y hy => by
            rcases List.mem_append.1 hy with hy | hy
            · have := (hpp.2.2 y hy x (by simp)).1; omega
            · have := (List.rel_of_pairwise_cons hpp.2.1 hy).1; omega
          by_cases hix : i = x.i
          · subst hix
            have h7 : x.i < listed.size := by omega
            constructor
            · intro h
              simp [Array.getD, h7] at h
            · rintro ⟨y', hy', hyi⟩
              obtain ⟨y, hy, hyy⟩ := hback y' hy'
              exact absurd ((sh_eq hyy).1.symm.trans hyi) (hne y hy)
          · have : (listed.setIfInBounds x.i true).getD i true = listed.getD i true := by
              have hix' : x.i ≠ i := fun h => hix h.symm
              simp only [Array.getD, Array.size_setIfInBounds]
              split
              · simp only [Array.getInternal_eq_getElem]
                exact Array.getElem_setIfInBounds_ne _ hix'
              · rfl
            rw [this, hli i hi]
            constructor
            · rintro ⟨y, hy, hyi⟩
              have hy2 : y ∈ pre ++ post := by
                simp at hy ⊢
                rcases hy with h | h | h
                · exact .inl h
                · subst h; exact absurd hyi.symm hix
                · exact .inr h
              obtain ⟨y', hy', hyy⟩ := mem_sim hsim2.symm hy2
              exact ⟨y', hy', (sh_eq hyy).1.symm.trans hyi⟩
            · rintro ⟨y', hy', hyi⟩
              obtain ⟨y, hy, hyy⟩ := hback y' hy'
              exact ⟨y, by simp at hy ⊢; rcases hy with h | h <;> simp [h], (sh_eq hyy).1.symm.trans hyi⟩
        · obtain ⟨y, hy, hyy⟩ := hback y' hy'
          obtain ⟨a1, a2, _⟩ := sh_eq hyy
          rw [a1, a2]
          exact ho0 y (by simp at hy ⊢; rcases hy with h | h <;> simp [h])
        · exact pw_sim (fun _ _ _ _ h1 h2 h3 => h3.sim h1 h2) hsim2 (hp.sublist (by simp))
        · obtain ⟨y, hy, hyy⟩ := hback y' hy'
          obtain ⟨_, _, _, _, a5, a6⟩ := sh_eq hyy
          rw [a5, a6]
          exact hnx y (by simp at hy ⊢; rcases hy with h | h <;> simp [h])
def tailB (all : Array Oper) (us : List Nat) (k : Nat) : Bool := decide (k < all.size) && ((List.range k).all fun j => bitN (us.getD k 0) j) && (List.range all.size).all fun t => decide (t ≤ k) || Region.waitsFor .any all t (t - 1)
def lstK (k m : Nat) : Array Bool := (Array.range m).map fun i => decide (i < k)
theorem lstK_eq {k : Nat} {listed : Array Bool} (h : ∀ i, i < listed.size → listed.getD i true = decide (i < k)) : listed = lstK k listed.size := by
  apply Array.ext
  · simp [lstK]
  · intro i h1 h2
    have := h i h1
    simp only [Array.getD, h1, dif_pos] at this
    simp [lstK]
    simpa using this
theorem ADraw.tail (k : Nat) (us : List Nat) (hT : TabOk P T) {i : Nat} {ops : Array Oper} {Q : Exit → St → Prop} (hm : P.follows .mixedOrders = true) (hB : prsB ops 0 [] [] ops.toList us = true) (hd : ops.toList.all (dstOk1 n) = true)
    (hk : tailB ops us k = true) (hq : Region.seqB .any ops (ops.size - k) k (lstK k ops.size) = true)
    (h : dx P T ops (ops.toList.take k) us 0 [] (fun e => aops P T ops (ops.toList.drop k) e (Q .normal)) s) : ADraw P n N i ops Q s := by
  intro δ g a w hr hn
  obtain ⟨l, e, hK, ho⟩ := dx_out _ _ _ _ _ h
  obtain ⟨hp1, _, hp3, hp4⟩ := prsB_spec hB rfl (fun j p h => by simp [bitN_zero] at h) (fun j => by simp)
  simp only [tailB, Bool.and_eq_true, decide_eq_true_eq] at hk
  obtain ⟨⟨hk1, hk2⟩, hk3⟩ := hk
  have htk : ∀ j o, (ops.toList.take k)[j]? = some o → j < k ∧ ops[j]? = some o := fun j o hj => by
    rw [List.getElem?_take] at hj
    split at hj
    · rename_i hjk; exact ⟨hjk, by simpa using hj⟩
    · cases hj
  have hof : ∀ x ∈ l, x.i < k ∧ ops[x.i]? = some x.o := fun x hx => by
    obtain ⟨j, h1, h2⟩ := ho.of x hx
    have : x.i = j := by omega
    rw [this]
    exact htk j _ h2
  have hC : Ext w { w with drawn := w.drawn + 1 } := ⟨Nat.le_refl _, fun _ _ => rfl, rfl, rfl, rfl, Nat.le_succ _⟩
  obtain ⟨h6, h7⟩ := hr.o.grow hC (I := g.I) (fun b hb => hb) (fun b _ hb => hb) (hr.o.cel.same fun b hb => hC.2.1 b (hr.o.imm b hb).1)
  have hr' : Rel δ (g.imm g.I) s a { w with drawn := w.drawn + 1 } := hr.of h6 h7.tm rfl
  have hlen : l.length = k := by
    have hnd : (l.map (·.i)).Pairwise (· < ·) := (List.pairwise_map).2 (ho.two.imp fun h => h.1)
    have h1 : l.map (·.i) = List.range k := by
      refine List.Perm.eq_of_pairwise (le := (· < ·)) (fun a b _ _ h h' => by omega) hnd List.pairwise_lt_range ?_
      refine (List.perm_ext_iff_of_nodup (hnd.imp fun h => Nat.ne_of_lt h) List.nodup_range).2 fun q => ?_
      rw [List.mem_map, List.mem_range]
      constructor
      · rintro ⟨x, hx, rfl⟩
        exact (hof x hx).1
      · intro hq
        obtain ⟨x, hx, hxi⟩ := ho.nums q ops[q] (by rw [List.getElem?_take_of_lt hq]; simp [show q < ops.size by omega])
        exact ⟨x, hx, by omega⟩
    have h2 := congrArg List.length h1
    simpa using h2
  have hanc : ∀ j, j < k → Anc ops j k := fun j hj => by
    have hb := List.all_eq_true.1 hk2 j (List.mem_range.2 hj)
    have := hp4 k ops[k] (by simp [hk1]) j hb
    rwa [Nat.zero_add] at this
  have hch : ∀ t, k < t → t < ops.size → ∃ o ed, ops[t]? = some o ∧ ed ∈ o.after ∧ Region.binds .any ed = true ∧ ed.on = t - 1 := fun t h1 h2 => by
    have hb := List.all_eq_true.1 hk3 t (List.mem_range.2 h2)
    rw [decide_eq_false (by omega), Bool.false_or] at hb
    obtain ⟨o, h3, ed, h4, h5, h6⟩ := Region.waitsFor_spec hb
    exact ⟨o, ed, h3, h4, h5, h6⟩
  have hfuel : ops.size = l.length + (ops.size - k) := by omega
  refine wp_region_any hm ?_
  have key := drawn_soundK (e := e) (Q := fun x a' w' => ∃ g' s', Q x s' ∧ Rel δ g' s' a' w' ∧ a'.tmps.size = n ∧ StepN N g s w g' s' w') hk1 hanc hch hT.toS hd (fun i o hi ed hed hb => by
    have := hp1 i o (by simpa using hi) ed hed hb
    omega) l.length (Array.replicate ops.size false) l (g.imm g.I) s a { w with drawn := w.drawn + 1 } rfl (by simp) (fun i o hi => by by_cases hsz : i < ops.size <;> simp [Array.getD, hsz] at hi) (fun i hi => ?_) (fun i h1 h2 => by simp [Array.getD, h2]) hof ?_ (fun x hx => ⟨(ho.lo x hx).2.2, (ho.lo x hx).2.1⟩) ho.tr (hr'.toP.less fun id hid => ?_) hn (fun g' listed' a' w' hsz hls h1 h2 h3 => ?_)
  · rw [← hfuel] at key; exact key
  · constructor
    · intro _
      obtain ⟨x, hx, hxi⟩ := ho.nums i ops[i] (by rw [List.getElem?_take_of_lt hi]; simp [show i < ops.size by omega])
      exact ⟨x, hx, by omega⟩
    · intro _
      simp [Array.getD, show i < ops.size by omega]
  · refine ho.two.imp_of_mem fun {y x} hy hx h => ⟨h.1, h.2.1, h.2.2.1, ?_⟩
    rw [Nat.sub_zero] at h
    by_cases hed : bitN (us.getD x.i 0) y.i = true
    · left
      have := hp4 x.i x.o (by simpa using (hof x hx).2) y.i hed
      rwa [Nat.zero_add] at this
    · right; left
      have h8 := indF_spec (h.2.2.2.resolve_right hed)
      have h9 := hp3 y.i x.i y.o x.o h.1 (by simpa using (hof y hy).2) (by simpa using (hof x hx).2)
      rw [Nat.zero_add] at h9
      exact ⟨h9.resolve_left hed, h8.1, h8.2.1, h8.2.2, h.2.1, h.2.2.1⟩
  · rcases hid with ⟨x, hx, h1, h2⟩ | h1
    · have := ho.lo x hx; omega
    · have := ho.nx; omega
  · have hle : listed' = lstK k ops.size := by rw [← hsz]; exact lstK_eq fun i hi => hls i (by omega)
    have hrel : Rel δ g' e a' w' := h1.toR fun id hid => hid
    have h10 : Step g s w (g.imm g.I) s { w with drawn := w.drawn + 1 } := h7.tm
    have hdl : (ops.toList.drop k).length = ops.size - k := by simp
    have := wpAny_of_seq (P := P) (md := .any) (ops := ops) (Q' := fun x a' w' => ∃ g' s', Q x s' ∧ Rel δ g' s' a' w' ∧ a'.tmps.size = n ∧ StepN N g s w g' s' w') (ops.toList.drop k) k listed' a' w' (fun j => by simp) (by rw [hdl, hle]; exact hq)
      (aops_sound hT.toS ops _ (fun o ho => List.all_eq_true.1 hd o (List.mem_of_mem_drop ho)) hK hrel h2 fun a'' w'' ⟨g'', s'', q1, q2, q3, q4⟩ => ⟨g'', s'', q1, q2, q3, ((h10.trans h3).trans q4).toN⟩)
    rwa [hdl] at this
end
end Dm
namespace Dm
open Go
def TypFs (T : TypeId → List C → Prop) : List Field → List C → Prop
  | [], xs => xs = []
  | f :: r, xs => ∃ ys zs, xs = ys ++ zs ∧ T f.type ys ∧ TypFs T r zs
def TypR (T : List C → Prop) : Nat → List C → Prop
  | 0, xs => xs = []
  | n + 1, xs => ∃ ys zs, xs = ys ++ zs ∧ T ys ∧ TypR T n zs
def Typ (P : Program) : Nat → TypeId → List C → Prop
  | 0, _, _ => False
  | k + 1, t, xs => match P.underlying t with
    | some .bool => ∃ b, xs = [.bool b]
    | some (.int kd) => ∃ n, xs = [.int kd n] ∧ (Lit.int kd n).wf = true
    | some (.float kd) => ∃ n, xs = [.flt kd (flo kd n)] ∧ (Lit.float kd n).wf = true
    | some .string => ∃ s, xs = [.str s] ∧ s.size ≤ maxLen
    | some (.slice e) => ∃ els, xs = [.sl els] ∧ els.length ≤ maxLen ∧ ∀ x ∈ els, Typ P k e x
    | some (.struct fs) => TypFs (Typ P k) fs.toList xs
    | some (.array n e) => TypR (Typ P k e) n xs
    | _ => False
def plainFs (P : Program) (ok : TypeId → Bool) : Nat → List Field → Option Nat
  | o, [] => some o
  | o, f :: r => if f.offset = o ∧ ok f.type = true then plainFs P ok (o + P.cellsOf f.type) r else none
def plain (P : Program) : Nat → TypeId → Bool
  | 0, _ => false
  | k + 1, t => match P.underlying t with
    | some .bool => true
    | some (.int _) => true
    | some (.float _) => true
    | some .string => true
    | some (.slice e) => plain P k e && P.cellsOf e != 0
    | some (.struct fs) => plainFs P (plain P k) 0 fs.toList == some (P.cellsOf t)
    | some (.array n e) => plain P k e && n * P.cellsOf e == P.cellsOf t
    | _ => false

section
variable {H : Type} {enc : TypeId × Value → H} {P : Program} {w : World} {spare : Nat → Bool} {held : Bool}

def below (w : World) (b : Nat) : Prop := Cel w b
def Reads (w : World) (cs : List Value) (xs : List C) : Prop := xs.length = cs.length ∧ ∀ (i : Nat) (v : Value) (y : C), cs[i]? = some v → xs[i]? = some y → CRel (below w) w v y

theorem Reads.one {v : Value} {y : C} (h : CRel (below w) w v y) : Reads w [v] [y] := ⟨rfl, fun i u z hu hz => by
  cases i with
  | zero => simp at hu hz; subst hu; subst hz; exact h
  | succ i => simp at hu⟩
theorem Reads.app {cs ds : List Value} {xs ys : List C} (h : Reads w cs xs) (h' : Reads w ds ys) : Reads w (cs ++ ds) (xs ++ ys) := by
  refine ⟨by simp [h.1, h'.1], fun i v y hv hy => ?_⟩
  rw [List.getElem?_append] at hv hy
  rw [h.1] at hy
  split at hv
  · rename_i hlt; rw [if_pos hlt] at hy; exact h.2 i v y hv hy
  · rename_i hlt; rw [if_neg hlt] at hy; exact h'.2 _ v y hv hy

theorem mapM_cons_some {α β : Type} {f : α → Option β} {a : α} {l : List α} {r : List β} (h : (a :: l).mapM f = some r) : ∃ b bs, f a = some b ∧ l.mapM f = some bs ∧ r = b :: bs := by
  rw [List.mapM_cons] at h
  cases hf : f a with
  | none => simp [hf] at h
  | some b =>
    cases hl : l.mapM f with
    | none => simp [hf, hl] at h
    | some bs => simp [hf, hl] at h; exact ⟨b, bs, rfl, rfl, h.symm⟩

theorem plainFs_le {ok : TypeId → Bool} : ∀ {fs : List Field} {o e : Nat}, plainFs P ok o fs = some e → o ≤ e
  | [], o, e, h => by simp only [plainFs, Option.some.injEq] at h; omega
  | f :: r, o, e, h => by
    simp only [plainFs] at h
    split at h
    · have := plainFs_le h; omega
    · cases h

theorem fields_conv {k fuel : Nat} {cs : List Value} (IH : ∀ (t : TypeId) (cs : List Value) (x : DataW H × List MemPlace), DataW.trod enc P w 0 spare held fuel t cs = some x → plain P k t = true → ∃ xs, Typ P k t xs ∧ Reads w cs xs) :
    ∀ (fs : List Field) (o : Nat) (ys : List (DataW H × List MemPlace)), plainFs P (plain P k) o fs = some cs.length → fs.mapM (fun f => DataW.trod enc P w 0 spare held fuel f.type ((cs.drop f.offset).take (P.cellsOf f.type))) = some ys →
      ∃ xs, TypFs (Typ P k) fs xs ∧ Reads w (cs.drop o) xs
  | [], o, ys, h, _ => by
    simp only [plainFs, Option.some.injEq] at h
    exact ⟨[], rfl, by simp [Reads, h]⟩
  | f :: r, o, ys, h, hm => by
    simp only [plainFs] at h
    split at h
    · rename_i hc
      obtain ⟨hc1, hc2⟩ := hc
      have hle := plainFs_le h
      obtain ⟨b, bs, h1, h2, _⟩ := mapM_cons_some hm
      obtain ⟨xs, h3, h4⟩ := IH _ _ _ h1 hc2
      obtain ⟨zs, h5, h6⟩ := fields_conv IH r _ bs h h2
      refine ⟨xs ++ zs, ⟨xs, zs, rfl, h3, h5⟩, ?_⟩
      have e : cs.drop o = (cs.drop f.offset).take (P.cellsOf f.type) ++ cs.drop (o + P.cellsOf f.type) := by
        rw [hc1, ← List.drop_drop, List.take_append_drop]
      rw [e]
      exact h4.app h6
    · cases h

theorem array_conv {k fuel n sz : Nat} {e : TypeId} {cs : List Value} (IH : ∀ (t : TypeId) (cs : List Value) (x : DataW H × List MemPlace), DataW.trod enc P w 0 spare held fuel t cs = some x → plain P k t = true → ∃ xs, Typ P k t xs ∧ Reads w cs xs) (he : plain P k e = true) :
    ∀ (m j : Nat), j + m = n → n * sz = cs.length → (∀ i, i < n → ∃ x, DataW.trod enc P w 0 spare held fuel e ((cs.drop (i * sz)).take sz) = some x) → ∃ xs, TypR (Typ P k e) m xs ∧ Reads w (cs.drop (j * sz)) xs
  | 0, j, hj, hn, _ => ⟨[], rfl, by
      have : j = n := by omega
      subst this
      simp [Reads, hn]⟩
  | m + 1, j, hj, hn, hall => by
    obtain ⟨x, hx⟩ := hall j (by omega)
    obtain ⟨xs, h3, h4⟩ := IH _ _ _ hx he
    obtain ⟨zs, h5, h6⟩ := array_conv IH he m (j + 1) (by omega) hn hall
    refine ⟨xs ++ zs, ⟨xs, zs, rfl, h3, h5⟩, ?_⟩
    have e : cs.drop (j * sz) = (cs.drop (j * sz)).take sz ++ cs.drop ((j + 1) * sz) := by
      rw [Nat.add_mul, Nat.one_mul, ← List.drop_drop, List.take_append_drop]
    rw [e]
    exact h4.app h6

theorem mapM_range_get {β : Type} {f : Nat → Option β} {n : Nat} {r : List β} (h : (List.range n).mapM f = some r) (i : Nat) (hi : i < n) : ∃ y, f i = some y ∧ r[i]? = some y := by
  have key : ∀ (l : List Nat) (r : List β), l.mapM f = some r → ∀ (i x : Nat), l[i]? = some x → ∃ y, f x = some y ∧ r[i]? = some y := by
    intro l
    induction l with
    | nil => intro r _ i x hx; simp at hx
    | cons a l ih =>
      intro r hr i x hx
      obtain ⟨b, bs, h1, h2, rfl⟩ := mapM_cons_some hr
      cases i with
      | zero => simp at hx; subst hx; exact ⟨b, h1, rfl⟩
      | succ i => exact ih bs h2 i x (by simpa using hx)
  exact key _ _ h i i (by simp [hi])

theorem mapM_len {α β : Type} {f : α → Option β} : ∀ {l : List α} {r : List β}, l.mapM f = some r → r.length = l.length
  | [], r, h => by simp at h; simp [h]
  | a :: l, r, h => by
    obtain ⟨b, bs, _, h2, rfl⟩ := mapM_cons_some h
    simp [mapM_len h2]

theorem trod_conv : ∀ (fuel k : Nat) (t : TypeId) (cs : List Value) (x : DataW H × List MemPlace), DataW.trod enc P w 0 spare held fuel t cs = some x → plain P k t = true → ∃ xs, Typ P k t xs ∧ Reads w cs xs
  | 0, k, t, cs, x, h, _ => by simp [DataW.trod] at h
  | fuel + 1, 0, t, cs, x, h, hp => by cases hp
  | fuel + 1, k + 1, t, cs, x, h, hp => by
    have IH := fun t cs x => trod_conv fuel k t cs x
    simp only [plain] at hp
    simp only [Typ]
    unfold DataW.trod at h
    split at h
    · rename_i b hu; rw [hu]; exact ⟨[.bool b], ⟨b, rfl⟩, .one (.bool b)⟩
    · rename_i kd k' n hu
      rw [hu]
      split at h
      · rename_i hc; obtain ⟨rfl, hc⟩ := hc
        exact ⟨[.int _ n], ⟨n, rfl, hc⟩, .one (.int _ n)⟩
      · cases h
    · rename_i kd k' n hu
      rw [hu]
      split at h
      · rename_i hc; obtain ⟨rfl, hc⟩ := hc
        exact ⟨[.flt _ (flo _ n)], ⟨n, rfl, hc⟩, .one (.flt _ n)⟩
      · cases h
    · rename_i s hu
      rw [hu]
      split at h
      · rename_i hc
        exact ⟨[.str s], ⟨s, rfl, hc⟩, .one (.str s)⟩
      · cases h
    · rename_i hu; rw [hu] at hp; cases hp
    · rename_i hu; rw [hu] at hp; cases hp
    · rename_i e hu
      rw [hu]
      exact ⟨[.sl []], ⟨[], rfl, by simp, by simp⟩, .one (.slnil _ _ (by simp [maxLen]))⟩
    · rename_i e a len cap hu
      rw [hu] at hp ⊢
      simp only [Bool.and_eq_true, bne_iff_ne, ne_eq] at hp
      obtain ⟨hp1, hp2⟩ := hp
      split at h
      · rename_i hc
        obtain ⟨_, hlc, hcm⟩ := hc
        cases hm : (List.range len).mapM (fun i => (w.cells? 0 (a.add (i * P.cellsOf e)) (P.cellsOf e)).bind (DataW.trod enc P w 0 spare held fuel e)) with
        | none => dsimp only at h; rw [hm] at h; cases h
        | some elems =>
          have hel : ∀ i, i < len → ∃ ci xi, w.cells? 0 (a.add (i * P.cellsOf e)) (P.cellsOf e) = some ci ∧ Typ P k e xi ∧ Reads w ci xi := by
            intro i hi
            obtain ⟨y, h1, _⟩ := mapM_range_get hm i hi
            cases hcs : w.cells? 0 (a.add (i * P.cellsOf e)) (P.cellsOf e) with
            | none => rw [hcs] at h1; cases h1
            | some ci =>
              rw [hcs] at h1
              obtain ⟨xi, h2, h3⟩ := IH e ci y h1 hp1
              exact ⟨ci, xi, rfl, h2, h3⟩
          have hch : ∃ (cf : Nat → List Value) (xf : Nat → List C), ∀ i, i < len → w.cells? 0 (a.add (i * P.cellsOf e)) (P.cellsOf e) = some (cf i) ∧ Typ P k e (xf i) ∧ Reads w (cf i) (xf i) := by
            refine ⟨fun i => if h : i < len then (hel i h).choose else [], fun i => if h : i < len then (hel i h).choose_spec.choose else [], fun i hi => ?_⟩
            simp only [dif_pos hi]
            exact (hel i hi).choose_spec.choose_spec
          obtain ⟨cf, xf, hf⟩ := hch
          have hlen : ∀ i, i < len → (cf i).length = P.cellsOf e ∧ ∀ j, j < P.cellsOf e → w.cell? ((a.add (i * P.cellsOf e)).add j) = (cf i)[j]? := by
            intro i hi
            have h1 := (hf i hi).1
            unfold World.cells? at h1
            rw [if_pos (Nat.zero_le _)] at h1
            refine ⟨by have := mapM_len h1; simpa using this, fun j hj => ?_⟩
            obtain ⟨y, h2, h3⟩ := mapM_range_get h1 j hj
            rw [h2, h3]
          refine ⟨[.sl ((List.range len).map xf)], ⟨_, rfl, by simp; omega, fun x hx => ?_⟩, .one ?_⟩
          · obtain ⟨i, hi, rfl⟩ := List.mem_map.1 hx
            exact (hf i (by simpa using hi)).2.1
          · by_cases h0 : len = 0
            · subst h0; exact .slnil _ _ hcm
            · have h00 := (hlen 0 (by omega))
              have hpos : 0 < P.cellsOf e := by omega
              have hc0 := h00.2 0 hpos
              have hs : ∃ v, w.cell? a = some v := by
                have : (cf 0)[0]? = some ((cf 0)[0]'(by omega)) := List.getElem?_eq_getElem _
                rw [this] at hc0
                simp only [Nat.zero_mul, Addr.add, Nat.add_zero] at hc0
                exact ⟨_, hc0⟩
              obtain ⟨v0, hv0⟩ := hs
              have hspot : a.spot = none ∧ Cel w a.block := by
                unfold World.cell? at hv0
                split at hv0
                · rename_i c _ _ hb
                  split at hv0
                  · cases hv0
                  · rename_i hsp
                    exact ⟨by simpa using hsp, .of hb⟩
                · cases hv0
              obtain ⟨ab, ao, asp⟩ := a
              simp only at hspot
              obtain ⟨rfl, hb⟩ := hspot
              have he : len = ((List.range len).map xf).length := by simp
              have hget : ∀ (i : Nat) (x : List C), ((List.range len).map xf)[i]? = some x → i < len ∧ x = xf i := fun i x hx => by
                simp only [List.getElem?_map, Option.map_eq_some_iff] at hx
                obtain ⟨j, hj, rfl⟩ := hx
                have := List.getElem?_eq_some_iff.1 hj
                obtain ⟨h1, h2⟩ := this
                simp at h1 h2
                subst h2
                exact ⟨h1, rfl⟩
              conv => arg 3; rw [he]
              refine .sl ab ao cap (P.cellsOf e) _ (fun i j => (cf i).getD j .nilFunc) hb (by simpa using hlc) hcm (fun x hx => ?_) (fun i j x y hx hy => ?_) (fun i j x y hx hy => ?_)
              · obtain ⟨i, hi, rfl⟩ := List.mem_map.1 hx
                have hi : i < len := by simpa using hi
                rw [(hf i hi).2.2.1, (hlen i hi).1]
              · obtain ⟨hi, rfl⟩ := hget i x hx
                have hj : j < (cf i).length := by
                  rw [← (hf i hi).2.2.1]
                  exact (List.getElem?_eq_some_iff.1 hy).1
                have h1 := (hlen i hi).2 j (by rw [← (hlen i hi).1]; exact hj)
                rw [addr_add, addr_add] at h1
                rw [h1, List.getD_eq_getElem?_getD, List.getElem?_eq_getElem hj]
                rfl
              · obtain ⟨hi, rfl⟩ := hget i x hx
                have hj : j < (cf i).length := by
                  rw [← (hf i hi).2.2.1]
                  exact (List.getElem?_eq_some_iff.1 hy).1
                refine (hf i hi).2.2.2 j _ y ?_ hy
                rw [List.getD_eq_getElem?_getD, List.getElem?_eq_getElem hj]
                rfl
      · cases h
    · rename_i cs0 _ _ fs hu
      rw [hu] at hp ⊢
      split at h
      · rename_i hc
        simp only [beq_iff_eq] at hp
        rw [← hc] at hp
        cases hm : fs.toList.mapM (fun f => DataW.trod enc P w 0 spare held fuel f.type ((cs0.drop f.offset).take (P.cellsOf f.type))) with
        | none => rw [hm] at h; simp at h
        | some ys =>
          obtain ⟨xs, h1, h2⟩ := fields_conv IH fs.toList 0 ys hp hm
          exact ⟨xs, h1, by simpa using h2⟩
      · cases h
    · rename_i cs0 _ _ n e hu
      rw [hu] at hp ⊢
      simp only [Bool.and_eq_true, beq_iff_eq] at hp
      split at h
      · rename_i hc
        cases hm : (List.range n).mapM (fun i => DataW.trod enc P w 0 spare held fuel e ((cs0.drop (i * P.cellsOf e)).take (P.cellsOf e))) with
        | none => rw [hm] at h; simp at h
        | some ys =>
          obtain ⟨xs, h1, h2⟩ := array_conv (n := n) (sz := P.cellsOf e) (cs := cs0) IH hp.1 n 0 (by omega) (by rw [hp.2, hc]) (fun i hi => by
            obtain ⟨y, h3, _⟩ := mapM_range_get hm i hi
            exact ⟨y, h3⟩)
          exact ⟨xs, h1, by simpa using h2⟩
      · cases h
    all_goals (rename_i hu; first | (rw [hu] at hp; cases hp; done) | (cases h; done) | skip)

def one1 : List C → D
  | [x] => .c x
  | _ => .undef
def argD (P : Program) (t : TypeId) (xs : List C) : D := match P.underlying t with
  | some (.struct _) => .agg (xs.map .c)
  | some (.array _ _) => .agg (xs.map .c)
  | _ => one1 xs
theorem Reads.agg {cs : Array Value} {xs : List C} (h : Reads w cs.toList xs) : VRel (G0 (below w)) w (.agg cs) (.agg (xs.map .c)) := by
  refine .agg cs _ (by simpa using h.1.symm) fun i v d hv hd => ?_
  simp only [List.getElem?_map, Option.map_eq_some_iff] at hd
  obtain ⟨y, hy, rfl⟩ := hd
  exact .c _ _ (h.2 i v y (by simpa using hv) hy)
theorem arg_conv {r : Reach} {base k : Nat} {t : TypeId} {v : Value} {d : DataW H} {ps : List MemPlace} (hv : Value.okWide P w r base t v) (h : DataW.Trod enc P w 0 spare held t v d ps) (hp : plain P k t = true) :
    ∃ xs, Typ P k t xs ∧ VRel (G0 (below w)) w v (argD P t xs) := by
  obtain ⟨fuel, h⟩ := h
  obtain ⟨xs, h1, h2⟩ := trod_conv fuel k t _ _ h hp
  refine ⟨xs, h1, ?_⟩
  have one : ∀ (hc : v.cells = #[v]), VRel (G0 (below w)) w v (one1 xs) := by
    intro hc
    rw [hc] at h2
    match xs, h2 with
    | [], _ => exact .undef _
    | [x], h2 => exact .c _ _ (h2.2 0 v x rfl rfl)
    | _ :: _ :: _, _ => exact .undef _
  unfold argD
  unfold Value.okWide at hv
  split
  · rename_i fs hu
    rw [hu] at hv
    obtain ⟨cs, rfl, _⟩ := hv
    exact h2.agg
  · rename_i n e hu
    rw [hu] at hv
    obtain ⟨cs, rfl, _⟩ := hv
    exact h2.agg
  · rename_i hn1 hn2
    refine one ?_
    cases v <;> try rfl
    rename_i cs
    exfalso
    cases k with
    | zero => cases hp
    | succ k =>
      simp only [plain] at hp
      split at hv
      · rename_i fs hu; exact hn1 fs hu
      · rename_i n e hu; exact hn2 n e hu
      · unfold Cell.okWide at hv
        split at hp <;> rename_i hu <;> first | (rw [hu] at hv; simp [Cell.ok, hu] at hv; done) | (exact absurd hu (hn1 _)) | (exact absurd hu (hn2 _ _)) | cases hp
theorem below_of (w w' : World) (h : Ext w w') : RowKit.Below w.heap.size w w' := ⟨h.2.2.os, h.2.2.tape, h.2.2.out, h.1, h.2.1⟩
end
end Dm
namespace Dm
open Go
theorem PureFn.of_calls {P : Program} {f : FuncId} {rs : List D} {r : D} {vals : Array Value} {v : Value}
    (hf : ∃ fn, P.funcs[f]? = some fn ∧ (fn.name == "runtime.NumGoroutine") = false ∧ fn.body.isNone = false)
    (ha : ∀ (I : Nat → Prop) (w : World) (vs : Array Value), vs.size = rs.length → (∀ (i : Nat) (v : Value) (d : D), vs[i]? = some v → rs[i]? = some d → VRel (G0 I) w v d) → vs = vals)
    (h : ∀ w, Calls P f vals w fun e w' => e = .returned v ∧ w' = w) (hv : ∀ (I : Nat → Prop) w, VRel (G0 I) w v r) : PureFn P f rs r := by
  refine ⟨hf, fun I w vs hI hsz hvs => ?_⟩
  rw [ha I w vs hsz hvs]
  refine (h w).mono ?_
  rintro e w' ⟨rfl, rfl⟩
  exact ⟨v, I, rfl, hv I _, .refl _, fun _ h => h, fun _ _ h => h, hI⟩
theorem args_u64 {I : Nat → Prop} {w : World} {vs : Array Value} {x : Int} (hsz : vs.size = 1) (h : ∀ (i : Nat) (v : Value) (d : D), vs[i]? = some v → [D.int .u64 x][i]? = some d → VRel (G0 I) w v d) : vs = #[.int .u64 x] := by
  have h0 := h 0 vs[0] _ (Array.getElem?_eq_getElem (by omega)) rfl
  have e : vs[0] = .int .u64 x := by
    generalize vs[0] = u at h0
    cases h0 with
    | c _ _ h => cases h; rfl
  apply Array.ext
  · simpa using hsz
  · intro i h1 h2
    have : i = 0 := by omega
    subst this
    exact e
theorem args_u64s {I : Nat → Prop} {w : World} {vs : Array Value} {x y : Int} (hsz : vs.size = 2) (h : ∀ (i : Nat) (v : Value) (d : D), vs[i]? = some v → [D.int .u64 x, D.int .u64 y][i]? = some d → VRel (G0 I) w v d) : vs = #[.int .u64 x, .int .u64 y] := by
  have h0 := h 0 vs[0] _ (Array.getElem?_eq_getElem (by omega)) rfl
  have h1 := h 1 vs[1] _ (Array.getElem?_eq_getElem (by omega)) rfl
  have e : vs[0] = .int .u64 x := by
    generalize vs[0] = u at h0
    cases h0 with
    | c _ _ h => cases h; rfl
  have e1 : vs[1] = .int .u64 y := by
    generalize vs[1] = u at h1
    cases h1 with
    | c _ _ h => cases h; rfl
  apply Array.ext
  · simpa using hsz
  · intro i h2 h3
    have : i = 0 ∨ i = 1 := by simp at h3; omega
    rcases this with rfl | rfl
    · exact e
    · exact e1
end Dm
namespace Dm
open Go
theorem bvA {a b : Nat} (ha : a < 18446744073709551616) (hb : b < 18446744073709551616) : (BitVec.ofInt 64 (a : Int) &&& BitVec.ofInt 64 (b : Int)).toNat = a &&& b := by
  rw [BitVec.ofInt_natCast, BitVec.ofInt_natCast, BitVec.toNat_and, BitVec.toNat_ofNat, BitVec.toNat_ofNat, Nat.mod_eq_of_lt (by simpa using ha), Nat.mod_eq_of_lt (by simpa using hb)]
theorem bvO {a b : Nat} (ha : a < 18446744073709551616) (hb : b < 18446744073709551616) : (BitVec.ofInt 64 (a : Int) ||| BitVec.ofInt 64 (b : Int)).toNat = a ||| b := by
  rw [BitVec.ofInt_natCast, BitVec.ofInt_natCast, BitVec.toNat_or, BitVec.toNat_ofNat, BitVec.toNat_ofNat, Nat.mod_eq_of_lt (by simpa using ha), Nat.mod_eq_of_lt (by simpa using hb)]
theorem fdN (a b : Nat) : (a : Int).fdiv (b : Int) = ((a / b : Nat) : Int) := by
  rw [Int.fdiv_eq_ediv_of_nonneg _ (Int.natCast_nonneg b)]; rfl
theorem tdN (a b : Nat) : (a : Int).tdiv (b : Int) = ((a / b : Nat) : Int) := Int.ofNat_tdiv a b |>.symm ▸ rfl
theorem wN {n : Nat} (h : n < 18446744073709551616) : IntKind.u64.wrap (n : Int) = n := by
  rw [IntKind.wrap_u64]; omega
theorem iandN {a b : Nat} (ha : a < 18446744073709551616) (hb : b < 18446744073709551616) : iand .u64 (a : Int) (b : Int) = ((a &&& b : Nat) : Int) := by
  have h : (BitVec.ofInt IntKind.u64.bits (a : Int) &&& BitVec.ofInt IntKind.u64.bits (b : Int)).toNat = a &&& b := bvA ha hb
  rw [iand, h]
  exact wN (Nat.lt_of_le_of_lt Nat.and_le_left ha)
theorem iorN {a b : Nat} (ha : a < 18446744073709551616) (hb : b < 18446744073709551616) : ior .u64 (a : Int) (b : Int) = ((a ||| b : Nat) : Int) := by
  have h : (BitVec.ofInt IntKind.u64.bits (a : Int) ||| BitVec.ofInt IntKind.u64.bits (b : Int)).toNat = a ||| b := bvO ha hb
  rw [ior, h]
  exact wN (Nat.or_lt_two_pow (n := 64) ha hb)
theorem mskN {a : Nat} (ha : a < 18446744073709551616) : iand .u64 (a : Int) 4294967295 = ((a % 4294967296 : Nat) : Int) := by
  have := iandN (b := 4294967295) ha (by decide)
  rw [show ((4294967295 : Nat) : Int) = 4294967295 from rfl] at this
  rw [this]; exact congrArg _ (Nat.and_two_pow_sub_one_eq_mod a 32)
theorem div64_core {hi lo y C T B : Nat} (hB : C * T = B) (hT : 0 < T) (hC : 0 < C) (hy : y ≠ 0) (hh : hi < y) (hlo : lo < B * B) :
    hi * (T * B) + lo / C < y * T * B ∧ (hi * (B * B) + lo) / y = (hi * (T * B) + lo / C) / (y * T) * B + ((hi * (T * B) + lo / C) % (y * T) * B + lo * (T * B) % (B * B) / B) / (y * T) ∧
      lo * (T * B) % (B * B) % B = 0 ∧ (hi * (B * B) + lo) * (T * B) = ((hi * (T * B) + lo / C) * B + lo * (T * B) % (B * B) / B) * B := by
  have hBp : 0 < B := by rw [← hB]; exact Nat.mul_pos hC hT
  have hb : lo / C < T * B := by
    rw [Nat.div_lt_iff_lt_mul hC]
    exact Nat.lt_of_lt_of_eq hlo (by rw [← hB]; simp only [Nat.mul_comm, Nat.mul_left_comm, Nat.mul_assoc])
  have hun : hi * (T * B) + lo / C < y * T * B := by
    have : (hi + 1) * (T * B) ≤ y * (T * B) := Nat.mul_le_mul_right _ hh
    rw [Nat.add_mul, Nat.one_mul] at this
    rw [Nat.mul_assoc]; omega
  refine ⟨hun, ?_⟩
  have h5 := Nat.div_add_mod lo C
  have hV0 : lo * (T * B) % (B * B) = lo % C * T * B := by
    have e4 : lo * (T * B) = lo / C * (B * B) + lo % C * T * B := by
      have h6 : lo * (T * B) = (C * (lo / C) + lo % C) * (T * B) := by rw [h5]
      rw [h6, Nat.add_mul]
      congr 1
      · rw [← hB]; simp only [Nat.mul_comm, Nat.mul_left_comm, Nat.mul_assoc]
      · rw [Nat.mul_assoc]
    have h7 : lo % C * T * B < B * B := Nat.mul_lt_mul_of_pos_right (Nat.lt_of_lt_of_eq (Nat.mul_lt_mul_of_pos_right (Nat.mod_lt _ hC) hT) hB) hBp
    rw [e4, Nat.add_comm, Nat.add_mul_mod_self_right, Nat.mod_eq_of_lt h7]
  have hV : lo * (T * B) % (B * B) / B = lo % C * T := by rw [hV0, Nat.mul_div_cancel _ hBp]
  rw [hV, hV0, Nat.mul_mod_left]
  generalize hU : hi * (T * B) + lo / C = U at *
  have hN : (hi * (B * B) + lo) * T = U * B + lo % C * T := by
    rw [← hU, Nat.add_mul, Nat.add_mul, Nat.add_assoc]
    congr 1
    · simp only [Nat.mul_comm, Nat.mul_left_comm, Nat.mul_assoc]
    · have h6 : lo * T = (C * (lo / C) + lo % C) * T := by rw [h5]
      rw [h6, Nat.add_mul]
      congr 1
      rw [← hB]; simp only [Nat.mul_comm, Nat.mul_left_comm, Nat.mul_assoc]
  have hq : (hi * (B * B) + lo) / y = (U * B + lo % C * T) / (y * T) := by rw [← hN, Nat.mul_div_mul_right _ _ hT]
  refine ⟨?_, rfl, by rw [← hN, Nat.mul_assoc]⟩
  rw [hq]
  have hY : 0 < y * T := Nat.mul_pos (by omega) hT
  generalize y * T = Y at *
  have h8 := Nat.div_add_mod U Y
  have h9 : U * B + lo % C * T = (U % Y * B + lo % C * T) + Y * (U / Y * B) := by
    have : U * B = (Y * (U / Y) + U % Y) * B := by rw [h8]
    rw [this, Nat.add_mul, Nat.mul_assoc]; omega
  rw [h9, Nat.add_mul_div_left _ _ hY, Nat.add_comm]
theorem or_add {a b s : Nat} (h : b < 2 ^ s) : (a * 2 ^ s) ||| b = a * 2 ^ s + b := by
  have := Nat.shiftLeft_add_eq_or_of_lt h a
  rw [Nat.shiftLeft_eq] at this
  exact this.symm
theorem div64_small {hi lo y s : Nat} (hy : y ≠ 0) (hh : hi < y) (hlo : lo < 18446744073709551616) (h32 : 32 ≤ s) (h64 : s < 64) (hub : y * 2 ^ s < 18446744073709551616) :
    ∃ yn1, y * 2 ^ s = yn1 * 4294967296 ∧ yn1 ≠ 0 ∧ yn1 < 4294967296 ∧ hi * 2 ^ s + lo / 2 ^ (64 - s) < yn1 * 4294967296 ∧
      (hi * 18446744073709551616 + lo) / y = (hi * 2 ^ s + lo / 2 ^ (64 - s)) / yn1 * 4294967296 + ((hi * 2 ^ s + lo / 2 ^ (64 - s)) % yn1 * 4294967296 + lo * 2 ^ s % 18446744073709551616 / 4294967296) / yn1 ∧
      lo * 2 ^ s % 18446744073709551616 % 4294967296 = 0 ∧ (hi * 18446744073709551616 + lo) * 2 ^ s = ((hi * 2 ^ s + lo / 2 ^ (64 - s)) * 4294967296 + lo * 2 ^ s % 18446744073709551616 / 4294967296) * 4294967296 := by
  obtain ⟨r, rfl⟩ : ∃ r, s = r + 32 := ⟨s - 32, by omega⟩
  have e2 : (64 - (r + 32)) = 32 - r := by omega
  have e3 : 2 ^ (32 - r) * 2 ^ r = 4294967296 := by rw [← Nat.pow_add, show 32 - r + r = 32 by omega]
  have h := div64_core (hi := hi) (lo := lo) (y := y) e3 (Nat.two_pow_pos r) (Nat.two_pow_pos _) hy hh (by simpa using hlo)
  have e5 : (2 : Nat) ^ (r + 32) = 2 ^ r * 4294967296 := by rw [Nat.pow_add]
  simp only [Nat.reduceMul] at h
  rw [e2, e5]
  refine ⟨y * 2 ^ r, by rw [Nat.mul_assoc], ?_, ?_, h.1, h.2.1, h.2.2.1, h.2.2.2⟩
  · have := Nat.mul_pos (Nat.pos_of_ne_zero hy) (Nat.two_pow_pos r); omega
  · rw [e5, ← Nat.mul_assoc] at hub; omega
def evP (n k i : Nat) : Nat := n * (i + 1) / k - n * i / k
def evN (n k : Nat) : List Nat := (List.range k).map (evP n k)
theorem evP_le {n k i : Nat} : n * i / k ≤ n * (i + 1) / k := Nat.div_le_div_right (Nat.mul_le_mul_left _ (Nat.le_succ _))
theorem evP_near {n k i : Nat} (hk : 0 < k) : n / k ≤ evP n k i ∧ evP n k i ≤ n / k + 1 := by
  have h := Nat.div_add_mod n k
  have hr := Nat.mod_lt n hk
  have h1 : n * (i + 1) = (n * i + n % k) + k * (n / k) := by rw [Nat.mul_add, Nat.mul_one]; omega
  have h2 : n * (i + 1) / k = (n * i + n % k) / k + n / k := by rw [h1, Nat.add_mul_div_left _ _ hk]
  have h3 : n * i / k ≤ (n * i + n % k) / k := Nat.div_le_div_right (Nat.le_add_right _ _)
  have h4 : (n * i + n % k) / k ≤ (n * i + k) / k := Nat.div_le_div_right (by omega)
  rw [Nat.add_div_right _ hk] at h4
  unfold evP
  rw [h2]
  generalize (n * i + n % k) / k = a at *
  generalize n * i / k = b at *
  generalize n / k = c at *
  constructor <;> omega
theorem evN_take {n k j : Nat} (hj : j ≤ k) : ((evN n k).take j).sum = n * j / k := by
  induction j with
  | zero => simp
  | succ j ih =>
    have hl : j < (evN n k).length := by simp [evN]; omega
    rw [List.take_succ_eq_append_getElem hl, List.sum_append, ih (by omega)]
    have := evP_le (n := n) (k := k) (i := j)
    simp only [evN, List.getElem_map, List.getElem_range, List.sum_cons, List.sum_nil, evP]
    omega
theorem evN_sum {n k : Nat} (hk : 0 < k) : (evN n k).sum = n := by
  have h := evN_take (n := n) (k := k) (j := k) (Nat.le_refl _)
  rw [List.take_of_length_le (by simp [evN]), Nat.mul_div_cancel _ hk] at h
  exact h
theorem evN_zero {n k : Nat} (h : 0 ∈ evN n k) : n < k := by
  obtain ⟨i, hi, h1⟩ := List.mem_map.1 h
  have hk : 0 < k := Nat.lt_of_le_of_lt (Nat.zero_le _) (List.mem_range.1 hi)
  have h2 := (evP_near (n := n) (i := i) hk).1
  rcases Nat.lt_or_ge n k with h3 | h3
  · exact h3
  · have := Nat.div_pos h3 hk
    omega
theorem lt_b {V y : Nat} (h : V < y * 4294967296) (hy : y < 4294967296) : V < 18446744073709551616 := by omega
theorem qrem {U y : Nat} (hU : U < 18446744073709551616) : IntKind.u64.wrap (U : Nat) = (U : Int) ∧ IntKind.u64.wrap ((U / y : Nat) : Int) = ((U / y : Nat) : Int) ∧ IntKind.u64.wrap ((U / y * y : Nat) : Int) = ((U / y * y : Nat) : Int) ∧ IntKind.u64.wrap ((U : Int) - ((U / y * y : Nat) : Int)) = ((U % y : Nat) : Int) := by
  have h1 := Nat.div_mul_le_self U y
  have h2 := Nat.div_le_self U y
  have h3 := Nat.mod_le U y
  refine ⟨wN hU, wN (by omega), wN (by omega), ?_⟩
  have h4 : (U : Int) - ((U / y * y : Nat) : Int) = ((U % y : Nat) : Int) := by
    have h5 := Nat.div_add_mod U y
    rw [Nat.mul_comm] at h5
    omega
  rw [h4]; exact wN (by omega)
theorem un21 {U y a : Nat} (hy : 0 < y) (hyl : y < 4294967296) (ha : a < 4294967296) : IntKind.u64.wrap (IntKind.u64.wrap (IntKind.u64.wrap ((U : Int) * 4294967296) + (a : Int)) - IntKind.u64.wrap (((U / y : Nat) : Int) * ((y * 4294967296 : Nat) : Int))) = ((U % y * 4294967296 + a : Nat) : Int) := by
  have hZ : (((U / y : Nat) : Int)) * ((y * 4294967296 : Nat) : Int) = ((U / y * y : Nat) : Int) * 4294967296 := by
    rw [← Int.natCast_mul, ← Nat.mul_assoc, Int.natCast_mul (U / y * y)]; rfl
  rw [hZ]
  simp only [IntKind.wrap_u64]
  rw [← Int.sub_emod, Int.sub_eq_add_neg, Int.add_assoc, Int.emod_add_emod]
  have h5 := Nat.div_add_mod U y
  have h6 := Nat.mod_lt U hy
  rw [Nat.mul_comm] at h5
  have hU2 : (U : Int) * 4294967296 + ((a : Int) + -(((U / y * y : Nat) : Int) * 4294967296)) = ((U % y * 4294967296 + a : Nat) : Int) := by
    generalize U / y * y = Z at *
    generalize U % y = r at *
    omega
  rw [hU2]
  refine Int.emod_eq_of_lt (Int.natCast_nonneg _) ?_
  generalize U % y = r at *
  omega
theorem div64_rem {N y s yn1 U V l : Nat} (hs : y * 2 ^ s = yn1 * 4294967296) (hq : N / y = U / yn1 * 4294967296 + V / yn1) (hV : U % yn1 * 4294967296 + l = V) (hN : N * 2 ^ s = (U * 4294967296 + l) * 4294967296) : (V % yn1 * 4294967296) / 2 ^ s = N % y := by
  have h1 := Nat.div_add_mod N y
  have h2 := Nat.div_add_mod U yn1
  have h3 := Nat.div_add_mod V yn1
  have h4 : N * 2 ^ s = y * 2 ^ s * (N / y) + N % y * 2 ^ s := by
    have : N * 2 ^ s = (y * (N / y) + N % y) * 2 ^ s := by rw [h1]
    rw [this, Nat.add_mul, Nat.mul_right_comm]
  have h5 : U * 4294967296 + l = yn1 * (N / y) + V % yn1 := by
    have h6 : U * 4294967296 = yn1 * (U / yn1 * 4294967296) + U % yn1 * 4294967296 := by
      have : U * 4294967296 = (yn1 * (U / yn1) + U % yn1) * 4294967296 := by rw [h2]
      rw [this, Nat.add_mul, Nat.mul_assoc]
    rw [hq, Nat.mul_add, h6]
    generalize yn1 * (U / yn1 * 4294967296) = A
    generalize yn1 * (V / yn1) = B at *
    omega
  rw [hN, h5, hs, Nat.add_mul, Nat.mul_right_comm] at h4
  have h7 : V % yn1 * 4294967296 = N % y * 2 ^ s := Nat.add_left_cancel h4
  rw [h7, Nat.mul_div_cancel _ (Nat.two_pow_pos s)]
end Dm
namespace Dm
open Go
section
variable {P : Program} {n N : Nat}
theorem lk_opn {id k c sz t : Nat} : ∀ {tm : List (Nat × D)}, lk t (tm.map fun x => (x.1, opnD id k c sz x.2)) = (lk t tm).map (opnD id k c sz)
  | [] => rfl
  | (u, d) :: tm => by
    rw [List.map_cons, lk_cons, lk_cons]
    split
    · rfl
    · exact lk_opn
theorem SWm.opn {code : Code} {Q : Exit → St → Prop} {s : St} (id : Nat) {hd : Bool} {sz : Nat} {e : TypeId} {els : List (List C)} (ho : lk id s.os = some (.vec hd sz e els))
    (h : ∀ c, els.length ≤ c → c ≤ 9223372036854775807 → SWm P n N code Q ⟨s.tm.map fun x => (x.1, opnD id els.length c sz x.2), upd id (.vec hd sz e (fit c sz els)) s.os, s.nx⟩) : SWm P n N code Q s := fun δ g a w hr hn => by
  obtain ⟨c, g', h1, h2, h3, h4, h5⟩ := opn_rel (nx := s.nx) hr.o.tm ho
  have hr' : Rel δ g' ⟨s.tm.map fun x => (x.1, opnD id els.length c sz x.2), upd id (.vec hd sz e (fit c sz els)) s.os, s.nx⟩ a w := by
    refine ⟨fun t d ht => ?_, hr.defers, h3.tm⟩
    rw [lk_opn, Option.map_eq_some_iff] at ht
    obtain ⟨d0, hd0, rfl⟩ := ht
    obtain ⟨v, hv1, hv2⟩ := hr.tm t d0 hd0
    exact ⟨v, hv1, h5 v d0 hv2⟩
  have h4' : StepN N g s w g' ⟨s.tm.map fun x => (x.1, opnD id els.length c sz x.2), upd id (.vec hd sz e (fit c sz els)) s.os, s.nx⟩ w := (h4.toN (N := N)).tm
  refine wp_mono (h c h1 h2 δ g' a w hr' hn) fun e a' w' ⟨Ds, g2, s', q1, q2, q3, q4, q5, q6⟩ => ⟨Ds, g2, s', q1, q2, q3, q4, q5, h4'.trans q6⟩
end
end Dm
namespace Dm
open Go
theorem Cd.mk {a b : Prop} (h : a) (h1 : b) : a ∧ b := ⟨h, h1⟩
theorem cdA : type_of% (Cd.mk @cd_t (Cd.mk @cd_f (Cd.mk @cd_dec (Cd.mk @cd_not (Cd.mk @cd_and (Cd.mk @cd_or (Cd.mk @grd_tt (Cd.mk @grd_ff (Cd.mk @grd_tf (Cd.mk @grd_ft (Cd.mk @grd_dt (Cd.mk @grd_df (Cd.mk @grd_nt @grd_nf))))))))))))) := Cd.mk @cd_t (Cd.mk @cd_f (Cd.mk @cd_dec (Cd.mk @cd_not (Cd.mk @cd_and (Cd.mk @cd_or (Cd.mk @grd_tt (Cd.mk @grd_ff (Cd.mk @grd_tf (Cd.mk @grd_ft (Cd.mk @grd_dt (Cd.mk @grd_df (Cd.mk @grd_nt @grd_nf))))))))))))
theorem cdB : type_of% (Cd.mk @decide_true (Cd.mk @Bool.and_self (Cd.mk @Bool.true_and (Cd.mk @Ob.map.injEq (Cd.mk @Ob.it.injEq (Cd.mk @true_and @and_true)))))) := Cd.mk @decide_true (Cd.mk @Bool.and_self (Cd.mk @Bool.true_and (Cd.mk @Ob.map.injEq (Cd.mk @Ob.it.injEq (Cd.mk @true_and @and_true)))))
theorem cdN : type_of% (Cd.mk @false_implies (Cd.mk @true_implies (Cd.mk @not_false_eq_true @not_true_eq_false))) := Cd.mk @false_implies (Cd.mk @true_implies (Cd.mk @not_false_eq_true @not_true_eq_false))
end Dm
namespace Dm
open Go Go.Proofs Go.IntWalk
theorem follows_mixed : Tryz.prog.follows .mixedOrders = true := by kernel_rfl
@[go_sem] def isnan_r (x : Nat) : D := .bool false
@[go_sem] abbrev n_isnan : FuncId := 176
@[go_sem] def isnan_T : Tab := []
theorem isnan_T_ok : TabOk Tryz.prog isnan_T := TabOk.nil
set_option maxRecDepth 8000 in
set_option maxHeartbeats 1000000 in
theorem isnan_ok (x : Nat)  : PureFn Tryz.prog 176 [.c (.int .u64 (x : Int))] (isnan_r x) := by
  refine .of (ac176 isnan_T_ok (Nat.le_of_ble_eq_true rfl) ?_)
  simp -implicitDefEqProofs only [cdA, go_sem, Go.Proofs.Tryz.f176, reduceIte, reduceCtorEq, Nat.reduceEqDiff, Nat.reduceAdd, Nat.reduceLeDiff, Nat.reduceSub, Nat.reduceMul, Nat.reduceLT, Nat.reduceShiftRight, Nat.reduceMod, Int.reduceLE, Int.reduceLT, Int.reduceToNat, List.cons.injEq, cdB]
def sp_isnan : List D → Option (Prop × D × Fr)
  | [.c (.int .u64 z1)] => some (z1 = (z1.toNat : Int), isnan_r z1.toNat, [])
  | _ => none
attribute [go_sem] sp_isnan
theorem sp_isnan_ok : ∀ rs p r fr, sp_isnan rs = some (p, r, fr) → p → FnOk Tryz.prog 176 rs r fr := by
  intro rs p r fr h hp
  unfold sp_isnan at h
  split at h <;> cases h
  have hc0 := hp
  rename_i z1
  obtain ⟨z1, rfl⟩ : ∃ m : Nat, z1 = m := ⟨_, hc0⟩
  simp only [Int.toNat_natCast]
  exact isnan_ok z1
@[go_sem] def cmp_r (x : Nat) (y : Nat) : D := .int .i64 (cmpS x y)
@[go_sem] abbrev n_cmp : FuncId := 133
@[go_sem] def cmp_T : Tab := [(176, sp_isnan)]
theorem cmp_T_ok : TabOk Tryz.prog cmp_T := (TabOk.cons sp_isnan_ok TabOk.nil)
set_option maxRecDepth 8000 in
set_option maxHeartbeats 1000000 in
theorem cmp_ok (x : Nat) (y : Nat)  : PureFn Tryz.prog 133 [.c (.int .u64 (x : Int)), .c (.int .u64 (y : Int))] (cmp_r x y) := by
  refine .of (ac133 cmp_T_ok (Nat.le_of_ble_eq_true rfl) ?_)
  simp -implicitDefEqProofs only [cdA, go_sem, Go.Proofs.Tryz.f133, reduceIte, reduceCtorEq, Nat.reduceEqDiff, Nat.reduceAdd, Nat.reduceLeDiff, Nat.reduceSub, Nat.reduceMul, Nat.reduceLT, Nat.reduceShiftRight, Nat.reduceMod, Int.reduceLE, Int.reduceLT, Int.reduceToNat, List.cons.injEq, cdB]
  refine ⟨fun h => ?_, fun h => ⟨fun h1 => ?_, fun h1 => ?_⟩⟩ <;> simp [cmpS] <;> omega
def sp_cmp : List D → Option (Prop × D × Fr)
  | [.c (.int .u64 z2), .c (.int .u64 z3)] => some (z2 = (z2.toNat : Int) ∧ z3 = (z3.toNat : Int), cmp_r z2.toNat z3.toNat, [])
  | _ => none
attribute [go_sem] sp_cmp
theorem sp_cmp_ok : ∀ rs p r fr, sp_cmp rs = some (p, r, fr) → p → FnOk Tryz.prog 133 rs r fr := by
  intro rs p r fr h hp
  unfold sp_cmp at h
  split at h <;> cases h
  obtain ⟨hc0, hc1⟩ := hp
  rename_i z2 z3
  obtain ⟨z2, rfl⟩ : ∃ m : Nat, z2 = m := ⟨_, hc0⟩
  obtain ⟨z3, rfl⟩ : ∃ m : Nat, z3 = m := ⟨_, hc1⟩
  simp only [Int.toNat_natCast]
  exact cmp_ok z2 z3
def orS (l : List Int) : Int := (l.find? fun x => decide (¬ x = 0)).getD 0
@[go_sem] def cmpor_r (l : List Int) : D := .int .i64 (orS l)
@[go_sem] abbrev n_cmpor : FuncId := 132
@[go_sem] def cmpor_T : Tab := []
theorem cmpor_T_ok : TabOk Tryz.prog cmpor_T := TabOk.nil
set_option maxRecDepth 8000 in
set_option maxHeartbeats 1000000 in
theorem cmpor_ok (l : List Int)  : PureFn Tryz.prog 132 [.sl (i64s l)] (cmpor_r l) := by
  refine .of (ac132 cmpor_T_ok (Nat.le_of_ble_eq_true rfl) ?_)
  simp -implicitDefEqProofs only [cdA, go_sem, Go.Proofs.Tryz.f132, reduceIte, reduceCtorEq, Nat.reduceEqDiff, Nat.reduceAdd, Nat.reduceLeDiff, Nat.reduceSub, Nat.reduceMul, Nat.reduceLT, Nat.reduceShiftRight, Nat.reduceMod, Int.reduceLE, Int.reduceLT, Int.reduceToNat, List.cons.injEq, cdB]
  refine fun hl => SWp.loop (ι := { i : Nat // i ≤ l.length ∧ ∀ j, j < i → l.getD j default = 0 }) (fun i => ⟨[(3, .int .i64 0), (6, .sl (i64s l)), (7, .int .i64 l.length), (8, .int .i64 i.1)], [], 0⟩) (fun i => l.length - i.1) ⟨0, by simp⟩ ?_ ?_
  · simp [go_sem]
  · rintro ⟨i, hi, hall⟩
    refine awp_sound cmpor_T_ok.toS lv132 _ _ _ rfl ?_
    simp -implicitDefEqProofs only [cdA, go_sem, reduceIte, reduceCtorEq, Nat.reduceEqDiff, Nat.reduceAdd, Nat.reduceLeDiff, Nat.reduceSub, Nat.reduceMul, Nat.reduceLT, Nat.reduceShiftRight, Nat.reduceMod, Int.reduceLE, Int.reduceLT, Int.reduceToNat, List.cons.injEq, cdB]
    refine ⟨fun h => ⟨by omega, fun h1 => ⟨⟨i + 1, by omega, fun j hj => ?_⟩, by dsimp only; omega, i64_in _ (by omega)⟩, fun h1 => ?_⟩, fun h => ?_⟩
    · by_cases hji : j = i
      · subst hji; exact h1
      · exact hall j (by omega)
    · have hi' : i < l.length := by omega
      have : l.find? (fun x => decide (¬ x = 0)) = some (l.getD i default) := by
        rw [List.find?_eq_some_iff_getElem]
        refine ⟨by simpa using h1, i, hi', (getD_lt hi').symm, fun j hj => ?_⟩
        have := hall j hj
        rw [getD_lt (by omega)] at this
        simpa using this
      rw [orS, this]; rfl
    · have : l.find? (fun x => decide (¬ x = 0)) = none := by
        rw [List.find?_eq_none]
        intro x hx
        obtain ⟨j, hj, rfl⟩ := mem_getD.1 hx
        simpa using hall j (by omega)
      rw [orS, this]; rfl
def sp_cmpor : List D → Option (Prop × D × Fr)
  | [.c (.sl z4)] => some (z4 = i64s (di64s z4), cmpor_r (di64s z4), [])
  | _ => none
attribute [go_sem] sp_cmpor
theorem sp_cmpor_ok : ∀ rs p r fr, sp_cmpor rs = some (p, r, fr) → p → FnOk Tryz.prog 132 rs r fr := by
  intro rs p r fr h hp
  unfold sp_cmpor at h
  split at h <;> cases h
  have hc0 := hp
  rename_i z4
  obtain ⟨z4, rfl⟩ : ∃ m, z4 = i64s m := ⟨_, hc0⟩
  simp only [di64s_i64s]
  exact cmpor_ok z4
def maxS (l : List Nat) : Nat := l.foldl max 0
theorem maxS_succ {l : List Nat} {i : Nat} (h : i < l.length) : maxS (l.take (i + 1)) = max (maxS (l.take i)) (l.getD i default) := by
  rw [take_succ h, maxS, List.foldl_append]; rfl
@[go_sem] def smax_r (l : List Nat) : D := .int .u64 (maxS l : Int)
@[go_sem] abbrev n_smax : FuncId := 70
@[go_sem] def smax_T : Tab := [(176, sp_isnan)]
theorem smax_T_ok : TabOk Tryz.prog smax_T := (TabOk.cons sp_isnan_ok TabOk.nil)
set_option maxRecDepth 8000 in
set_option maxHeartbeats 1000000 in
theorem smax_ok (l : List Nat) (h : 0 < l.length) : PureFn Tryz.prog 70 [.sl (u64s l)] (smax_r l) := by
  refine .of (ac70 smax_T_ok (Nat.le_of_ble_eq_true rfl) ?_)
  simp -implicitDefEqProofs only [cdA, go_sem, Go.Proofs.Tryz.f70, reduceIte, reduceCtorEq, Nat.reduceEqDiff, Nat.reduceAdd, Nat.reduceLeDiff, Nat.reduceSub, Nat.reduceMul, Nat.reduceLT, Nat.reduceShiftRight, Nat.reduceMod, Int.reduceLE, Int.reduceLT, Int.reduceToNat, List.cons.injEq, cdB]
  refine fun hl => ⟨fun h1 => by omega, fun h1 => ⟨by omega, ?_⟩⟩
  refine SWp.loop (ι := { i : Nat // 0 < i ∧ i ≤ l.length }) (fun i => ⟨[(0, .sl (u64s l)), (3, .int .u64 (maxS (l.take i.1) : Nat)), (4, .int .i64 i.1)], [], 0⟩) (fun i => l.length - i.1) ⟨1, by omega⟩ ?_ ?_
  · have : maxS (l.take 1) = l.getD 0 default := by rw [maxS_succ h]; simp [maxS]
    simp [go_sem, this]
  · rintro ⟨i, hi0, hi⟩
    refine awp_sound smax_T_ok.toS lv70 _ _ _ rfl ?_
    simp -implicitDefEqProofs only [cdA, go_sem, reduceIte, reduceCtorEq, Nat.reduceEqDiff, Nat.reduceAdd, Nat.reduceLeDiff, Nat.reduceSub, Nat.reduceMul, Nat.reduceLT, Nat.reduceShiftRight, Nat.reduceMod, Int.reduceLE, Int.reduceLT, Int.reduceToNat, List.cons.injEq, cdB]
    refine fun _ => ⟨fun h2 => ⟨by omega, ⟨i + 1, by omega, by omega⟩, by dsimp only; omega, ?_, i64_in _ (by omega)⟩, fun h2 => ?_⟩
    · rw [maxS_succ (by omega)]; omega
    · rw [List.take_of_length_le (by omega)]
@[go_sem] def smax_p (l : List Nat) : Prop := (0 < l.length)
def sp_smax : List D → Option (Prop × D × Fr)
  | [.c (.sl z5)] => some (z5 = u64s (du64s z5) ∧ smax_p (du64s z5), smax_r (du64s z5), [])
  | _ => none
attribute [go_sem] sp_smax
theorem sp_smax_ok : ∀ rs p r fr, sp_smax rs = some (p, r, fr) → p → FnOk Tryz.prog 70 rs r fr := by
  intro rs p r fr h hp
  unfold sp_smax at h
  split at h <;> cases h
  obtain ⟨hc0, hp⟩ := hp
  rename_i z5
  obtain ⟨z5, rfl⟩ : ∃ m, z5 = u64s m := ⟨_, hc0⟩
  simp only [du64s_u64s]
  simp only [du64s_u64s, smax_p] at hp
  exact smax_ok z5 hp
def monS (l : List Nat) : Int := if l.all (fun n => decide (n ≤ 4611686018427387904)) = true then 0 else 1
theorem max_all {l : List Nat} {m : Nat} : l.foldl max m ≤ 4611686018427387904 ↔ m ≤ 4611686018427387904 ∧ l.all (fun n => decide (n ≤ 4611686018427387904)) = true := by
  induction l generalizing m with
  | nil => simp
  | cons x l ih =>
    rw [List.foldl_cons, ih, List.all_cons]
    simp only [Bool.and_eq_true, decide_eq_true_eq, ← and_assoc]
    refine and_congr_left fun _ => ?_
    omega
@[go_sem] def moncheck_r (l : List Nat) : D := .int .i64 (monS l)
@[go_sem] abbrev n_moncheck : FuncId := 29
@[go_sem] def moncheck_T : Tab := [(70, sp_smax)]
theorem moncheck_T_ok : TabOk Tryz.prog moncheck_T := (TabOk.cons sp_smax_ok TabOk.nil)
set_option maxRecDepth 8000 in
set_option maxHeartbeats 1000000 in
theorem moncheck_ok (l : List Nat)  : PureFn Tryz.prog 29 [.sl (u64s l)] (moncheck_r l) := by
  refine .of (ac29 moncheck_T_ok (Nat.le_of_ble_eq_true rfl) ?_)
  simp -implicitDefEqProofs only [cdA, go_sem, Go.Proofs.Tryz.f29, reduceIte, reduceCtorEq, Nat.reduceEqDiff, Nat.reduceAdd, Nat.reduceLeDiff, Nat.reduceSub, Nat.reduceMul, Nat.reduceLT, Nat.reduceShiftRight, Nat.reduceMod, Int.reduceLE, Int.reduceLT, Int.reduceToNat, List.cons.injEq, cdB]
  have hm := max_all (l := l) (m := 0)
  refine fun h => ⟨fun h1 => ⟨by omega, fun h2 => ?_, fun h2 => ?_⟩, fun h1 => ?_⟩
  · rw [monS, if_neg]; intro h3; have := hm.2 ⟨by omega, h3⟩; unfold maxS at h2; omega
  · rw [monS, if_pos]; unfold maxS at h2; exact (hm.1 (by omega)).2
  · have : l = [] := List.eq_nil_of_length_eq_zero (by omega)
    subst this; rfl
def sp_moncheck : List D → Option (Prop × D × Fr)
  | [.c (.sl z6)] => some (z6 = u64s (du64s z6), moncheck_r (du64s z6), [])
  | _ => none
attribute [go_sem] sp_moncheck
theorem sp_moncheck_ok : ∀ rs p r fr, sp_moncheck rs = some (p, r, fr) → p → FnOk Tryz.prog 29 rs r fr := by
  intro rs p r fr h hp
  unfold sp_moncheck at h
  split at h <;> cases h
  have hc0 := hp
  rename_i z6
  obtain ⟨z6, rfl⟩ : ∃ m, z6 = u64s m := ⟨_, hc0⟩
  simp only [du64s_u64s]
  exact moncheck_ok z6
def addM (l : List Nat) : Nat × Int := if monS l = 0 then (if l.sum ≤ 4611686018427387904 then (l.sum, 0) else (0, 8)) else (0, 1)
theorem sum_take {l : List Nat} {i : Nat} (h : i < l.length) : (l.take (i + 1)).sum = (l.take i).sum + l.getD i default := by
  rw [take_succ h]; simp
theorem sum_le {l : List Nat} {i : Nat} : (l.take i).sum ≤ l.sum := by
  conv => rhs; rw [← List.take_append_drop i l]
  rw [List.sum_append]
  omega
theorem monS_get {l : List Nat} (h : monS l = 0) {i : Nat} (hi : i < l.length) : l.getD i default ≤ 4611686018427387904 := by
  unfold monS at h
  split at h
  · rename_i h1
    have := List.all_eq_true.1 h1 _ (mem_getD.2 ⟨i, hi, rfl⟩)
    simpa using this
  · cases h
theorem monS_1 {l : List Nat} (h : ¬ monS l = 0) : monS l = 1 := by
  unfold monS at *; split <;> simp_all
@[go_sem] def monadd_r (l : List Nat) : D := .tup [.int .u64 ((addM l).1 : Int), .int .i64 (addM l).2]
@[go_sem] abbrev n_monadd : FuncId := 31
@[go_sem] def monadd_T : Tab := [(29, sp_moncheck)]
theorem monadd_T_ok : TabOk Tryz.prog monadd_T := (TabOk.cons sp_moncheck_ok TabOk.nil)
set_option maxRecDepth 8000 in
set_option maxHeartbeats 1000000 in
theorem monadd_ok (l : List Nat)  : PureFn Tryz.prog 31 [.sl (u64s l)] (monadd_r l) := by
  refine .of (ac31 monadd_T_ok (Nat.le_of_ble_eq_true rfl) ?_)
  simp -implicitDefEqProofs only [cdA, go_sem, Go.Proofs.Tryz.f31, reduceIte, reduceCtorEq, Nat.reduceEqDiff, Nat.reduceAdd, Nat.reduceLeDiff, Nat.reduceSub, Nat.reduceMul, Nat.reduceLT, Nat.reduceShiftRight, Nat.reduceMod, Int.reduceLE, Int.reduceLT, Int.reduceToNat, List.cons.injEq, cdB]
  refine ⟨fun h hl => ?_, fun h => ?_⟩
  · refine SWp.loop (ι := { i : Nat // i ≤ l.length ∧ (l.take i).sum ≤ 4611686018427387904 }) (fun i => ⟨[(2, .int .u64 ((l.take i.1).sum : Nat)), (11, .sl (u64s l)), (12, .int .i64 l.length), (13, .int .i64 i.1)], [], 0⟩) (fun i => l.length - i.1) ⟨0, by simp⟩ ?_ ?_
    · simp [go_sem]
    · rintro ⟨i, hi, hs⟩
      refine awp_sound monadd_T_ok.toS lv31 _ _ _ rfl ?_
      simp -implicitDefEqProofs only [cdA, go_sem, reduceIte, reduceCtorEq, Nat.reduceEqDiff, Nat.reduceAdd, Nat.reduceLeDiff, Nat.reduceSub, Nat.reduceMul, Nat.reduceLT, Nat.reduceShiftRight, Nat.reduceMod, Int.reduceLE, Int.reduceLT, Int.reduceToNat, List.cons.injEq, cdB]
      refine ⟨fun h1 => ?_, fun h1 => ?_⟩
      · have hi' : i < l.length := by omega
        have hg := monS_get h hi'
        have hst := sum_take hi'
        have hle := sum_le (l := l) (i := i + 1)
        rw [u64_in _ (by omega)]
        refine ⟨by omega, fun h2 => ?_, fun h2 => ⟨⟨i + 1, by omega, by omega⟩, by dsimp only; omega, by dsimp only; omega, i64_in _ (by omega)⟩⟩
        rw [addM, if_pos h, if_neg (by omega)]; exact ⟨rfl, rfl⟩
      · rw [List.take_of_length_le (by omega)] at hs ⊢
        rw [addM, if_pos h, if_pos hs]; exact ⟨rfl, rfl⟩
  · rw [addM, if_neg h]
    exact ⟨rfl, monS_1 h⟩
def sp_monadd : List D → Option (Prop × D × Fr)
  | [.c (.sl z7)] => some (z7 = u64s (du64s z7), monadd_r (du64s z7), [])
  | _ => none
attribute [go_sem] sp_monadd
theorem sp_monadd_ok : ∀ rs p r fr, sp_monadd rs = some (p, r, fr) → p → FnOk Tryz.prog 31 rs r fr := by
  intro rs p r fr h hp
  unfold sp_monadd at h
  split at h <;> cases h
  have hc0 := hp
  rename_i z7
  obtain ⟨z7, rfl⟩ : ∃ m, z7 = u64s m := ⟨_, hc0⟩
  simp only [du64s_u64s]
  exact monadd_ok z7
theorem mon1 (n : Nat) : monS [n] = if n ≤ 4611686018427387904 then 0 else 1 := by simp [monS]
theorem mon1_0 {n : Nat} : monS [n] = 0 ↔ n ≤ 4611686018427387904 := by rw [mon1]; split <;> simp_all
theorem mon2 (a b : Nat) : monS [a, b] = if a ≤ 4611686018427387904 ∧ b ≤ 4611686018427387904 then 0 else 1 := by simp [monS]
theorem addM_0 {l : List Nat} : (addM l).2 = 0 ↔ (∀ x ∈ l, x ≤ 4611686018427387904) ∧ l.sum ≤ 4611686018427387904 := by
  unfold addM monS
  simp only [List.all_eq_true, decide_eq_true_eq]
  by_cases h : ∀ x ∈ l, x ≤ 4611686018427387904
  · rw [if_pos h]
    by_cases h2 : l.sum ≤ 4611686018427387904
    · simp [h2]; exact h
    · simp [h2]
  · rw [if_neg h]; simp [h]
theorem addM_1 {l : List Nat} (h : (addM l).2 = 0) : (addM l).1 = l.sum := by
  have h1 := addM_0.1 h
  unfold addM monS
  simp only [List.all_eq_true, decide_eq_true_eq]
  rw [if_pos h1.1, if_pos rfl, if_pos h1.2]
def subM (a b : Nat) : Nat × Int := if a ≤ 4611686018427387904 ∧ b ≤ 4611686018427387904 then (if b ≤ a then (a - b, 0) else (0, 9)) else (0, 1)
@[go_sem] def monsub_r (a : Nat) (b : Nat) : D := .tup [.int .u64 ((subM a b).1 : Int), .int .i64 (subM a b).2]
@[go_sem] abbrev n_monsub : FuncId := 170
@[go_sem] def monsub_T : Tab := [ovk 191, (29, sp_moncheck)]
theorem monsub_T_ok : TabOk Tryz.prog monsub_T := (TabOk.cons (ov_ok 191) (TabOk.cons sp_moncheck_ok TabOk.nil))
set_option maxRecDepth 8000 in
set_option maxHeartbeats 1000000 in
theorem monsub_ok (a : Nat) (b : Nat)  : PureFn Tryz.prog 170 [.c (.int .u64 (a : Int)), .c (.int .u64 (b : Int))] (monsub_r a b) := by
  refine .of (ac170 monsub_T_ok (Nat.le_of_ble_eq_true rfl) ?_)
  simp -implicitDefEqProofs only [cdA, go_sem, Go.Proofs.Tryz.f170, reduceIte, reduceCtorEq, Nat.reduceEqDiff, Nat.reduceAdd, Nat.reduceLeDiff, Nat.reduceSub, Nat.reduceMul, Nat.reduceLT, Nat.reduceShiftRight, Nat.reduceMod, Int.reduceLE, Int.reduceLT, Int.reduceToNat, List.cons.injEq, cdB]
  refine ⟨⟨_, rfl, rfl, rfl, rfl, by kernel_rfl⟩, ?_⟩
  rw [mon2, subM]
  by_cases h : a ≤ 4611686018427387904 ∧ b ≤ 4611686018427387904
  · simp only [if_pos h]
    refine ⟨fun _ => ⟨fun h1 => ?_, fun h1 => ?_⟩, fun h1 => absurd trivial h1⟩
    · have : ¬ b ≤ a := fun h2 => by rw [if_neg (by omega)] at h1; omega
      rw [if_neg this]; exact ⟨rfl, rfl⟩
    · have : b ≤ a := by
        refine Classical.byContradiction fun h2 => ?_
        rw [if_pos (by omega)] at h1; omega
      rw [if_pos this]; exact ⟨by dsimp only; omega, rfl⟩
  · simp only [if_neg h]
    refine ⟨fun h => ?_, fun _ => by simp⟩
    first | exact absurd h (by decide) | cases h
def sp_monsub : List D → Option (Prop × D × Fr)
  | [.c (.int .u64 z8), .c (.int .u64 z9)] => some (z8 = (z8.toNat : Int) ∧ z9 = (z9.toNat : Int), monsub_r z8.toNat z9.toNat, [])
  | _ => none
attribute [go_sem] sp_monsub
theorem sp_monsub_ok : ∀ rs p r fr, sp_monsub rs = some (p, r, fr) → p → FnOk Tryz.prog 170 rs r fr := by
  intro rs p r fr h hp
  unfold sp_monsub at h
  split at h <;> cases h
  obtain ⟨hc0, hc1⟩ := hp
  rename_i z8 z9
  obtain ⟨z8, rfl⟩ : ∃ m : Nat, z8 = m := ⟨_, hc0⟩
  obtain ⟨z9, rfl⟩ : ∃ m : Nat, z9 = m := ⟨_, hc1⟩
  simp only [Int.toNat_natCast]
  exact monsub_ok z8 z9
end Dm
namespace Dm
open Go Go.Proofs Go.IntWalk
structure Hd where
  id : Nat
  n : Nat
deriving DecidableEq, Inhabited
@[go_sem] def Hd.enc (e : Hd) : List C := [.int .u64 (e.id : Int), .int .u64 (e.n : Int)]
def Hd.dec : List C → Hd
  | [.int .u64 z11, .int .u64 z12] => (⟨z11.toNat, z12.toNat⟩ : Hd)
  | _ => default
def hds (l : List Hd) : List (List C) := l.map Hd.enc
def dhds (l : List (List C)) : List Hd := l.map Hd.dec
@[simp, go_sem] theorem hds_length (l : List Hd) : (hds l).length = l.length := by simp [hds]
@[go_sem] theorem hds_get (l : List Hd) (i : Nat) : (hds l).getD i [.int .u64 0, .int .u64 0] = (l.getD i default).enc := by
  simp only [hds, List.getD_eq_getElem?_getD, List.getElem?_map]
  cases l[i]? <;> rfl
@[go_sem] theorem hds_wide (l : List Hd) : Wide 2 (hds l) = True := by
  simp [Wide, hds, Hd.enc]
theorem Hd.dec_enc (e : Hd) : Hd.dec e.enc = e := by
  simp [Hd.enc, Hd.dec]
@[go_sem] theorem dhds_hds (l : List Hd) : dhds (hds l) = l := by
  simp only [dhds, hds, List.map_map]
  exact List.map_id'' (fun e => Hd.dec_enc e) l
@[go_sem] theorem hds_app (a b : List Hd) : hds a ++ hds b = hds (a ++ b) := by simp [hds]
@[go_sem] theorem hds_drop (l : List Hd) (k : Nat) : (hds l).drop k = hds (l.drop k) := by simp [hds]
@[go_sem] theorem hds_take (l : List Hd) (k : Nat) : (hds l).take k = hds (l.take k) := by simp [hds]
@[go_sem] theorem hds_one (z13 : Int) (z14 : Int) (hz13 : 0 ≤ z13) (hz14 : 0 ≤ z14) : [[C.int .u64 z13, C.int .u64 z14]] = hds [⟨z13.toNat, z14.toNat⟩] := by simp [hds, Hd.enc, Int.toNat_of_nonneg hz13, Int.toNat_of_nonneg hz14]
@[go_sem] theorem hds_set (l : List Hd) (i : Nat) (z13 : Int) (z14 : Int) (hz13 : 0 ≤ z13) (hz14 : 0 ≤ z14) : (hds l).set i [C.int .u64 z13, C.int .u64 z14] = hds (l.set i ⟨z13.toNat, z14.toNat⟩) := by simp [hds, List.map_set, Hd.enc, Int.toNat_of_nonneg hz13, Int.toNat_of_nonneg hz14]
@[go_sem] theorem hds_cons (l : List Hd) (z13 : Int) (z14 : Int) (hz13 : 0 ≤ z13) (hz14 : 0 ≤ z14) : [C.int .u64 z13, C.int .u64 z14] :: hds l = hds (⟨z13.toNat, z14.toNat⟩ :: l) := by simp [hds, Hd.enc, Int.toNat_of_nonneg hz13, Int.toNat_of_nonneg hz14]
@[go_sem] theorem hds_flat (l : List Hd) : flatE (hds l) = True := eq_true fun x hx c hc => by
  obtain ⟨e, _, rfl⟩ := List.mem_map.1 hx
  simp only [Hd.enc, List.mem_cons, List.not_mem_nil, or_false] at hc
  rcases hc with rfl | rfl <;> rfl
@[go_sem] theorem Hd.eta {e : Hd} : (⟨e.id, e.n⟩ : Hd) = e := rfl
structure Ch where
  id : Nat
  loc : Nat
  rem : Nat
  res : Nat
  most : Nat
  holds : List Hd
  op : Bool
deriving DecidableEq, Inhabited
@[go_sem] def Ch.enc (e : Ch) : List C := [.int .u64 (e.id : Int), .int .u64 (e.loc : Int), .int .u64 (e.rem : Int), .int .u64 (e.res : Int), .int .u64 (e.most : Int), .sl (hds e.holds), .bool e.op]
def Ch.dec : List C → Ch
  | [.int .u64 z16, .int .u64 z17, .int .u64 z18, .int .u64 z19, .int .u64 z20, .sl z21, .bool z22] => (⟨z16.toNat, z17.toNat, z18.toNat, z19.toNat, z20.toNat, (dhds z21), z22⟩ : Ch)
  | _ => default
def chs (l : List Ch) : List (List C) := l.map Ch.enc
def dchs (l : List (List C)) : List Ch := l.map Ch.dec
@[simp, go_sem] theorem chs_length (l : List Ch) : (chs l).length = l.length := by simp [chs]
@[go_sem] theorem chs_get (l : List Ch) (i : Nat) : (chs l).getD i [.int .u64 0, .int .u64 0, .int .u64 0, .int .u64 0, .int .u64 0, .sl [], .bool false] = (l.getD i default).enc := by
  simp only [chs, List.getD_eq_getElem?_getD, List.getElem?_map]
  cases l[i]? <;> rfl
@[go_sem] theorem chs_wide (l : List Ch) : Wide 7 (chs l) = True := by
  simp [Wide, chs, Ch.enc]
theorem Ch.dec_enc (e : Ch) : Ch.dec e.enc = e := by
  simp [Ch.enc, Ch.dec, dhds_hds]
@[go_sem] theorem dchs_chs (l : List Ch) : dchs (chs l) = l := by
  simp only [dchs, chs, List.map_map]
  exact List.map_id'' (fun e => Ch.dec_enc e) l
@[go_sem] theorem chs_app (a b : List Ch) : chs a ++ chs b = chs (a ++ b) := by simp [chs]
@[go_sem] theorem chs_drop (l : List Ch) (k : Nat) : (chs l).drop k = chs (l.drop k) := by simp [chs]
@[go_sem] theorem chs_take (l : List Ch) (k : Nat) : (chs l).take k = chs (l.take k) := by simp [chs]
@[go_sem] theorem chs_one (z23 : Int) (z24 : Int) (z25 : Int) (z26 : Int) (z27 : Int) (z28 : List Hd) (z29 : Bool) (hz23 : 0 ≤ z23) (hz24 : 0 ≤ z24) (hz25 : 0 ≤ z25) (hz26 : 0 ≤ z26) (hz27 : 0 ≤ z27) : [[C.int .u64 z23, C.int .u64 z24, C.int .u64 z25, C.int .u64 z26, C.int .u64 z27, C.sl (hds z28), C.bool z29]] = chs [⟨z23.toNat, z24.toNat, z25.toNat, z26.toNat, z27.toNat, z28, z29⟩] := by simp [chs, Ch.enc, Int.toNat_of_nonneg hz23, Int.toNat_of_nonneg hz24, Int.toNat_of_nonneg hz25, Int.toNat_of_nonneg hz26, Int.toNat_of_nonneg hz27]
@[go_sem] theorem chs_set (l : List Ch) (i : Nat) (z23 : Int) (z24 : Int) (z25 : Int) (z26 : Int) (z27 : Int) (z28 : List Hd) (z29 : Bool) (hz23 : 0 ≤ z23) (hz24 : 0 ≤ z24) (hz25 : 0 ≤ z25) (hz26 : 0 ≤ z26) (hz27 : 0 ≤ z27) : (chs l).set i [C.int .u64 z23, C.int .u64 z24, C.int .u64 z25, C.int .u64 z26, C.int .u64 z27, C.sl (hds z28), C.bool z29] = chs (l.set i ⟨z23.toNat, z24.toNat, z25.toNat, z26.toNat, z27.toNat, z28, z29⟩) := by simp [chs, List.map_set, Ch.enc, Int.toNat_of_nonneg hz23, Int.toNat_of_nonneg hz24, Int.toNat_of_nonneg hz25, Int.toNat_of_nonneg hz26, Int.toNat_of_nonneg hz27]
@[go_sem] theorem chs_cons (l : List Ch) (z23 : Int) (z24 : Int) (z25 : Int) (z26 : Int) (z27 : Int) (z28 : List Hd) (z29 : Bool) (hz23 : 0 ≤ z23) (hz24 : 0 ≤ z24) (hz25 : 0 ≤ z25) (hz26 : 0 ≤ z26) (hz27 : 0 ≤ z27) : [C.int .u64 z23, C.int .u64 z24, C.int .u64 z25, C.int .u64 z26, C.int .u64 z27, C.sl (hds z28), C.bool z29] :: chs l = chs (⟨z23.toNat, z24.toNat, z25.toNat, z26.toNat, z27.toNat, z28, z29⟩ :: l) := by simp [chs, Ch.enc, Int.toNat_of_nonneg hz23, Int.toNat_of_nonneg hz24, Int.toNat_of_nonneg hz25, Int.toNat_of_nonneg hz26, Int.toNat_of_nonneg hz27]
@[go_sem] theorem Ch.eta {e : Ch} : (⟨e.id, e.loc, e.rem, e.res, e.most, e.holds, e.op⟩ : Ch) = e := rfl
def Hd.key (h : Hd) : Nat := h.id
def held (l : List Hd) : Nat := (l.map Hd.n).sum
abbrev ltN (a b : Nat) : Prop := a < b
abbrev MM : Nat := 4611686018427387904
def okCh (c : Ch) : Prop := c.res ≤ MM ∧ c.most ≤ MM ∧ c.holds.length ≤ 64 ∧ (c.op = false → c.holds = []) ∧ (∀ h ∈ c.holds, h.n ≠ 0) ∧ Srt.Chn Hd.key ltN c.holds ∧ held c.holds ≤ c.most ∧ c.loc ≤ MM ∧ c.rem ≤ MM ∧ held c.holds + c.loc + c.rem ≤ MM
instance (l : List Hd) : Decidable (Srt.Chn Hd.key ltN l) := by unfold Srt.Chn; infer_instance
instance (c : Ch) : Decidable (okCh c) := by unfold okCh; infer_instance
def sumsC (c : Ch) : Nat × Nat × Int := if okCh c then (held c.holds, held c.holds + c.loc + c.rem, 0) else (0, 0, 1)
@[go_sem] def horder_r (h : Hd) (id : Nat) : D := .int .i64 (cmpS h.id id)
@[go_sem] abbrev n_horder : FuncId := 138
@[go_sem] def horder_T : Tab := [(133, sp_cmp)]
theorem horder_T_ok : TabOk Tryz.prog horder_T := (TabOk.cons sp_cmp_ok TabOk.nil)
set_option maxRecDepth 8000 in
set_option maxHeartbeats 1000000 in
theorem horder_ok (h : Hd) (id : Nat)  : PureFn Tryz.prog 138 [.agg [.c (.int .u64 (h.id : Int)), .c (.int .u64 (h.n : Int))], .c (.int .u64 (id : Int))] (horder_r h id) := by
  refine .of (ac138 horder_T_ok (Nat.le_of_ble_eq_true rfl) ?_)
  simp -implicitDefEqProofs only [cdA, go_sem, Go.Proofs.Tryz.f138, reduceIte, reduceCtorEq, Nat.reduceEqDiff, Nat.reduceAdd, Nat.reduceLeDiff, Nat.reduceSub, Nat.reduceMul, Nat.reduceLT, Nat.reduceShiftRight, Nat.reduceMod, Int.reduceLE, Int.reduceLT, Int.reduceToNat, List.cons.injEq, cdB]
def sp_horder : List D → Option (Prop × D × Fr)
  | [.agg [.c (.int .u64 z31), .c (.int .u64 z32)], .c (.int .u64 z33)] => some (z31 = (z31.toNat : Int) ∧ z32 = (z32.toNat : Int) ∧ z33 = (z33.toNat : Int), horder_r (⟨z31.toNat, z32.toNat⟩ : Hd) z33.toNat, [])
  | _ => none
attribute [go_sem] sp_horder
theorem sp_horder_ok : ∀ rs p r fr, sp_horder rs = some (p, r, fr) → p → FnOk Tryz.prog 138 rs r fr := by
  intro rs p r fr h hp
  unfold sp_horder at h
  split at h <;> cases h
  obtain ⟨hc0, hc1, hc2⟩ := hp
  rename_i z31 z32 z33
  obtain ⟨z31, rfl⟩ : ∃ m : Nat, z31 = m := ⟨_, hc0⟩
  obtain ⟨z32, rfl⟩ : ∃ m : Nat, z32 = m := ⟨_, hc1⟩
  obtain ⟨z33, rfl⟩ : ∃ m : Nat, z33 = m := ⟨_, hc2⟩
  simp only [Int.toNat_natCast]
  exact horder_ok ⟨z31, z32⟩ z33
@[go_sem] def csums_r (c : Ch) : D := .tup [.int .u64 ((sumsC c).1 : Int), .int .u64 ((sumsC c).2.1 : Int), .int .i64 (sumsC c).2.2]
@[go_sem] abbrev n_csums : FuncId := 88
@[go_sem] def csums_T : Tab := [(29, sp_moncheck), (31, sp_monadd), (138, sp_horder)]
theorem csums_T_ok : TabOk Tryz.prog csums_T := (TabOk.cons sp_moncheck_ok (TabOk.cons sp_monadd_ok (TabOk.cons sp_horder_ok TabOk.nil)))
set_option maxRecDepth 8000 in
set_option maxHeartbeats 1000000 in
theorem csums_ok (c : Ch)  : PureFn Tryz.prog 88 [.agg [.c (.int .u64 (c.id : Int)), .c (.int .u64 (c.loc : Int)), .c (.int .u64 (c.rem : Int)), .c (.int .u64 (c.res : Int)), .c (.int .u64 (c.most : Int)), .sl (hds c.holds), .c (.bool c.op)]] (csums_r c) := by
  refine .of (ac88 csums_T_ok (Nat.le_of_ble_eq_true rfl) ?_)
  simp -implicitDefEqProofs only [cdA, go_sem, Go.Proofs.Tryz.f88, reduceIte, reduceCtorEq, Nat.reduceEqDiff, Nat.reduceAdd, Nat.reduceLeDiff, Nat.reduceSub, Nat.reduceMul, Nat.reduceLT, Nat.reduceShiftRight, Nat.reduceMod, Int.reduceLE, Int.reduceLT, Int.reduceToNat, List.cons.injEq, cdB]
  have hbad : ¬ okCh c → 0 = ((sumsC c).1 : Int) ∧ 0 = ((sumsC c).2.1 : Int) ∧ 1 = (sumsC c).2.2 := fun h => by simp [sumsC, if_neg h]
  have hmon : monS [c.res, c.most] = 0 ↔ c.res ≤ MM ∧ c.most ≤ MM := by rw [mon2]; split <;> simp_all
  rw [hmon]
  refine ⟨fun h1 hl => ⟨fun h2 => ⟨fun h3 _ => ⟨fun h4 => hbad fun h => ?_, fun h4 _ => ?_⟩, fun h3 _ => ?_⟩, fun h2 => hbad fun h => ?_⟩, fun h1 => hbad fun h => h1 ⟨h.1, h.2.1⟩⟩
  · have := h.2.2.2.1 (by simpa using h3)
    rw [this] at h4; simp at h4
  rotate_left 2
  · have := h.2.2.1; omega
  all_goals
    have hop : c.op = false → c.holds = [] := fun h => by first | (rw [h] at h3; cases h3; done) | exact List.eq_nil_of_length_eq_zero (by omega)
    refine SWp.loop (ι := { i : Nat // i ≤ c.holds.length ∧ held (c.holds.take i) ≤ c.most ∧ (∀ j, j < i → (c.holds.getD j default).n ≠ 0 ∧ (0 < j → (c.holds.getD (j - 1) default).id < (c.holds.getD j default).id)) }) (fun i => ⟨[(1, .ref 0 0), (2, .int .u64 (held (c.holds.take i.1) : Nat)), (32, .sl (hds c.holds)), (33, .int .i64 c.holds.length), (34, .int .i64 i.1)],
      [(0, .box [.int .u64 c.id, .int .u64 c.loc, .int .u64 c.rem, .int .u64 c.res, .int .u64 c.most, .sl (hds c.holds), .bool c.op])], 2⟩) (fun i => c.holds.length - i.1) ⟨0, by simp [held]⟩ ?_ ?_
    · simp [go_sem, held]
    · rintro ⟨i, hi, hs, hall⟩
      refine awp_sound csums_T_ok.toS lv88 _ _ _ rfl ?_
      simp -implicitDefEqProofs only [cdA, go_sem, reduceIte, reduceCtorEq, Nat.reduceEqDiff, Nat.reduceAdd, Nat.reduceLeDiff, Nat.reduceSub, Nat.reduceMul, Nat.reduceLT, Nat.reduceShiftRight, Nat.reduceMod, Int.reduceLE, Int.reduceLT, Int.reduceToNat, List.cons.injEq, cdB]
      have hst : i < c.holds.length → held (c.holds.take (i + 1)) = held (c.holds.take i) + (c.holds.getD i default).n := fun h => by rw [take_succ h, held, List.map_append, List.sum_append]; simp [held]
      have hle : held (c.holds.take (i + 1)) ≤ held c.holds := by
        conv => rhs; rw [← List.take_append_drop (i + 1) c.holds, held, List.map_append, List.sum_append]
        exact Nat.le_add_right _ _
      refine ⟨fun h5 => ⟨by omega, ?_⟩, fun h5 => ?_⟩
      · refine ADraw.run us88_6 csums_T_ok follows_mixed (by kernel_rfl) (by kernel_rfl) ?_
        simp -implicitDefEqProofs only [cdA, go_sem, reduceIte, reduceCtorEq, Nat.reduceEqDiff, Nat.reduceAdd, Nat.reduceLeDiff, Nat.reduceSub, Nat.reduceMul, Nat.reduceLT, Nat.reduceShiftRight, Nat.reduceMod, Int.reduceLE, Int.reduceLT, Int.reduceToNat, List.cons.injEq, cdB]
        have hi' : i < c.holds.length := by omega
        have hst := hst hi'
        have hnext : (0 < i → (c.holds.getD (i - 1) default).id < (c.holds.getD i default).id) → (c.holds.getD i default).n ≠ 0 →
            ((addM [held (c.holds.take i), (c.holds.getD i default).n]).2 = 0 →
              ((c.most : Int) < ((addM [held (c.holds.take i), (c.holds.getD i default).n]).1 : Int) → 0 = ((sumsC c).1 : Int) ∧ 0 = ((sumsC c).2.1 : Int) ∧ 1 = (sumsC c).2.2) ∧
              (¬ (c.most : Int) < ((addM [held (c.holds.take i), (c.holds.getD i default).n]).1 : Int) → ∃ i_1 : { i : Nat // i ≤ c.holds.length ∧ held (c.holds.take i) ≤ c.most ∧ (∀ j, j < i → (c.holds.getD j default).n ≠ 0 ∧ (0 < j → (c.holds.getD (j - 1) default).id < (c.holds.getD j default).id)) },
                c.holds.length - i_1.val < c.holds.length - i ∧ ((addM [held (c.holds.take i), (c.holds.getD i default).n]).1 : Int) = (held (c.holds.take i_1.val) : Nat) ∧ IntKind.i64.wrap ((i : Int) + 1) = i_1.val)) ∧
            (¬ (addM [held (c.holds.take i), (c.holds.getD i default).n]).2 = 0 → 0 = ((sumsC c).1 : Int) ∧ 0 = ((sumsC c).2.1 : Int) ∧ 1 = (sumsC c).2.2) := fun ho hn => by
          refine ⟨fun h6 => ?_, fun h6 => hbad fun h => h6 (addM_0.2 ?_)⟩
          · have h7 := addM_1 h6
            simp only [List.sum_cons, List.sum_nil, Nat.add_zero] at h7
            rw [h7]
            refine ⟨fun h8 => hbad fun h => ?_, fun h8 => ⟨⟨i + 1, hi', by omega, fun j hj => ?_⟩, by dsimp only; omega, by dsimp only; omega, i64_in _ (by omega)⟩⟩
            · have := h.2.2.2.2.2.2.1; omega
            · by_cases hji : j = i
              · subst hji; exact ⟨hn, ho⟩
              · exact hall j (by omega)
          · have := h.2.2.2.2.2.2.1
            have := h.2.1
            simp only [List.mem_cons, List.not_mem_nil, or_false, forall_eq_or_imp, forall_eq, List.sum_cons, List.sum_nil]
            unfold MM at *
            omega
        refine ⟨fun h6 => ⟨fun h7 => ?_, fun h7 => hnext (fun h => absurd h (by omega)) (by omega)⟩, fun h6 => hbad fun h => h.2.2.2.2.1 _ (mem_getD.2 ⟨i, hi', rfl⟩) (by omega)⟩
        rw [i64_in _ (by omega), show ((i : Int) - 1).toNat = i - 1 by omega]
        have hc : ∀ a b : Nat, 0 ≤ cmpS a b ↔ ¬ a < b := fun a b => by
          have := cmpS_neg (x := a) (y := b); omega
        rw [hc]
        refine ⟨by omega, fun h8 => hbad fun h => h8 (h.2.2.2.2.2.1 i hi' (by omega)), fun h8 => hnext (fun _ => by omega) (by omega)⟩
      · have hi' : i = c.holds.length := by omega
        subst hi'
        rw [List.take_length] at hs ⊢
        refine ⟨fun h6 => ?_, fun h6 => hbad fun h => h6 (addM_0.2 ?_)⟩
        · have h7 := addM_1 h6
          have h8 := addM_0.1 h6
          simp only [List.mem_cons, List.not_mem_nil, or_false, forall_eq_or_imp, forall_eq, List.sum_cons, List.sum_nil] at h7 h8
          have hok : okCh c := ⟨h1.1, h1.2, by omega, hop, fun x hx => by obtain ⟨j, hj, rfl⟩ := mem_getD.1 hx; exact (hall j hj).1, fun j hj h0 => (hall j hj).2 h0, hs, h8.1.2.1, h8.1.2.2, by unfold MM; omega⟩
          rw [sumsC, if_pos hok, h7]
          exact ⟨rfl, by dsimp only; omega, rfl⟩
        · have := h.2.2.2.2.2.2
          have := h.2.1
          simp only [List.mem_cons, List.not_mem_nil, or_false, forall_eq_or_imp, forall_eq, List.sum_cons, List.sum_nil]
          unfold MM at *
          omega
def sp_csums : List D → Option (Prop × D × Fr)
  | [.agg [.c (.int .u64 z35), .c (.int .u64 z36), .c (.int .u64 z37), .c (.int .u64 z38), .c (.int .u64 z39), .c (.sl z40), .c (.bool z41)]] => some (z35 = (z35.toNat : Int) ∧ z36 = (z36.toNat : Int) ∧ z37 = (z37.toNat : Int) ∧ z38 = (z38.toNat : Int) ∧ z39 = (z39.toNat : Int) ∧ z40 = hds (dhds z40), csums_r (⟨z35.toNat, z36.toNat, z37.toNat, z38.toNat, z39.toNat, (dhds z40), z41⟩ : Ch), [])
  | _ => none
attribute [go_sem] sp_csums
theorem sp_csums_ok : ∀ rs p r fr, sp_csums rs = some (p, r, fr) → p → FnOk Tryz.prog 88 rs r fr := by
  intro rs p r fr h hp
  unfold sp_csums at h
  split at h <;> cases h
  obtain ⟨hc0, hc1, hc2, hc3, hc4, hc5⟩ := hp
  rename_i z35 z36 z37 z38 z39 z40 z41
  obtain ⟨z35, rfl⟩ : ∃ m : Nat, z35 = m := ⟨_, hc0⟩
  obtain ⟨z36, rfl⟩ : ∃ m : Nat, z36 = m := ⟨_, hc1⟩
  obtain ⟨z37, rfl⟩ : ∃ m : Nat, z37 = m := ⟨_, hc2⟩
  obtain ⟨z38, rfl⟩ : ∃ m : Nat, z38 = m := ⟨_, hc3⟩
  obtain ⟨z39, rfl⟩ : ∃ m : Nat, z39 = m := ⟨_, hc4⟩
  obtain ⟨z40, rfl⟩ : ∃ m, z40 = hds m := ⟨_, hc5⟩
  simp only [Int.toNat_natCast, dhds_hds]
  exact csums_ok ⟨z35, z36, z37, z38, z39, z40, z41⟩
theorem sumsC_0 {c : Ch} : (sumsC c).2.2 = 0 ↔ okCh c := by unfold sumsC; split <;> simp_all
@[go_sem] def call_r (c : Ch) : D := .tup [.int .u64 ((sumsC c).2.1 : Int), .int .i64 (sumsC c).2.2]
@[go_sem] abbrev n_call : FuncId := 145
@[go_sem] def call_T : Tab := [(88, sp_csums)]
theorem call_T_ok : TabOk Tryz.prog call_T := (TabOk.cons sp_csums_ok TabOk.nil)
set_option maxRecDepth 8000 in
set_option maxHeartbeats 1000000 in
theorem call_ok (c : Ch)  : PureFn Tryz.prog 145 [.agg [.c (.int .u64 (c.id : Int)), .c (.int .u64 (c.loc : Int)), .c (.int .u64 (c.rem : Int)), .c (.int .u64 (c.res : Int)), .c (.int .u64 (c.most : Int)), .sl (hds c.holds), .c (.bool c.op)]] (call_r c) := by
  refine .of (ac145 call_T_ok (Nat.le_of_ble_eq_true rfl) ?_)
  simp -implicitDefEqProofs only [cdA, go_sem, Go.Proofs.Tryz.f145, reduceIte, reduceCtorEq, Nat.reduceEqDiff, Nat.reduceAdd, Nat.reduceLeDiff, Nat.reduceSub, Nat.reduceMul, Nat.reduceLT, Nat.reduceShiftRight, Nat.reduceMod, Int.reduceLE, Int.reduceLT, Int.reduceToNat, List.cons.injEq, cdB]
def sp_call : List D → Option (Prop × D × Fr)
  | [.agg [.c (.int .u64 z43), .c (.int .u64 z44), .c (.int .u64 z45), .c (.int .u64 z46), .c (.int .u64 z47), .c (.sl z48), .c (.bool z49)]] => some (z43 = (z43.toNat : Int) ∧ z44 = (z44.toNat : Int) ∧ z45 = (z45.toNat : Int) ∧ z46 = (z46.toNat : Int) ∧ z47 = (z47.toNat : Int) ∧ z48 = hds (dhds z48), call_r (⟨z43.toNat, z44.toNat, z45.toNat, z46.toNat, z47.toNat, (dhds z48), z49⟩ : Ch), [])
  | _ => none
attribute [go_sem] sp_call
theorem sp_call_ok : ∀ rs p r fr, sp_call rs = some (p, r, fr) → p → FnOk Tryz.prog 145 rs r fr := by
  intro rs p r fr h hp
  unfold sp_call at h
  split at h <;> cases h
  obtain ⟨hc0, hc1, hc2, hc3, hc4, hc5⟩ := hp
  rename_i z43 z44 z45 z46 z47 z48 z49
  obtain ⟨z43, rfl⟩ : ∃ m : Nat, z43 = m := ⟨_, hc0⟩
  obtain ⟨z44, rfl⟩ : ∃ m : Nat, z44 = m := ⟨_, hc1⟩
  obtain ⟨z45, rfl⟩ : ∃ m : Nat, z45 = m := ⟨_, hc2⟩
  obtain ⟨z46, rfl⟩ : ∃ m : Nat, z46 = m := ⟨_, hc3⟩
  obtain ⟨z47, rfl⟩ : ∃ m : Nat, z47 = m := ⟨_, hc4⟩
  obtain ⟨z48, rfl⟩ : ∃ m, z48 = hds m := ⟨_, hc5⟩
  simp only [Int.toNat_natCast, dhds_hds]
  exact call_ok ⟨z43, z44, z45, z46, z47, z48, z49⟩
def roomC (c : Ch) : Nat × Int := if okCh c then (if c.op = true ∧ c.holds.length ≠ 64 ∧ c.res ≤ c.loc then (min (c.loc - c.res) (c.most - held c.holds), 0) else (0, 0)) else (0, 1)
@[go_sem] def croom_r (c : Ch) : D := .tup [.int .u64 ((roomC c).1 : Int), .int .i64 (roomC c).2]
@[go_sem] abbrev n_croom : FuncId := 125
@[go_sem] def croom_T : Tab := [(88, sp_csums), (170, sp_monsub)]
theorem croom_T_ok : TabOk Tryz.prog croom_T := (TabOk.cons sp_csums_ok (TabOk.cons sp_monsub_ok TabOk.nil))
set_option maxRecDepth 8000 in
set_option maxHeartbeats 1000000 in
theorem croom_ok (c : Ch)  : PureFn Tryz.prog 125 [.agg [.c (.int .u64 (c.id : Int)), .c (.int .u64 (c.loc : Int)), .c (.int .u64 (c.rem : Int)), .c (.int .u64 (c.res : Int)), .c (.int .u64 (c.most : Int)), .sl (hds c.holds), .c (.bool c.op)]] (croom_r c) := by
  refine .of (ac125 croom_T_ok (Nat.le_of_ble_eq_true rfl) ?_)
  simp -implicitDefEqProofs only [cdA, go_sem, Go.Proofs.Tryz.f125, reduceIte, reduceCtorEq, Nat.reduceEqDiff, Nat.reduceAdd, Nat.reduceLeDiff, Nat.reduceSub, Nat.reduceMul, Nat.reduceLT, Nat.reduceShiftRight, Nat.reduceMod, Int.reduceLE, Int.reduceLT, Int.reduceToNat, List.cons.injEq, cdB]
  rw [sumsC_0]
  by_cases h : okCh c
  · have h1 : c.loc ≤ MM := h.2.2.2.2.2.2.2.1
    have h2 := h.1
    have h3 := h.2.1
    have h4 := h.2.2.2.2.2.2.1
    have e : (sumsC c).2.2 = 0 := sumsC_0.2 h
    have e1 : (sumsC c).1 = held c.holds := by rw [sumsC, if_pos h]
    unfold MM at *
    rw [u64_in _ (by omega), e, e1, roomC, if_pos h]
    refine ⟨fun _ => ⟨fun h5 _ => ⟨fun h6 => ?_, fun h6 => ?_⟩, fun h5 => ?_⟩, fun h' => absurd h h'⟩
    · rw [if_neg (by omega)]; exact ⟨rfl, rfl⟩
    · have h5' : c.op = true := by simpa using h5
      rw [subM, if_pos ⟨h1, h2⟩]
      by_cases h7 : c.res ≤ c.loc
      · rw [if_pos h7, if_pos ⟨h5', by omega, h7⟩]
        refine ⟨fun h => absurd (show (0 : Int) = 9 from h) (by decide), fun _ => ⟨by dsimp only; omega, rfl⟩⟩
      · rw [if_neg h7, if_neg (fun h => h7 h.2.2)]
        exact ⟨fun _ => ⟨rfl, rfl⟩, fun h => absurd rfl h⟩
    · have h5' : c.op = false := by simpa using h5
      rw [if_neg (fun h => by rw [h5'] at h; exact absurd h.1 (by decide))]; exact ⟨rfl, rfl⟩
  · have e : sumsC c = (0, 0, 1) := by rw [sumsC, if_neg h]
    rw [e, roomC, if_neg h]
    exact ⟨fun h' => absurd h' h, fun _ => ⟨rfl, rfl⟩⟩
def sp_croom : List D → Option (Prop × D × Fr)
  | [.agg [.c (.int .u64 z51), .c (.int .u64 z52), .c (.int .u64 z53), .c (.int .u64 z54), .c (.int .u64 z55), .c (.sl z56), .c (.bool z57)]] => some (z51 = (z51.toNat : Int) ∧ z52 = (z52.toNat : Int) ∧ z53 = (z53.toNat : Int) ∧ z54 = (z54.toNat : Int) ∧ z55 = (z55.toNat : Int) ∧ z56 = hds (dhds z56), croom_r (⟨z51.toNat, z52.toNat, z53.toNat, z54.toNat, z55.toNat, (dhds z56), z57⟩ : Ch), [])
  | _ => none
attribute [go_sem] sp_croom
theorem sp_croom_ok : ∀ rs p r fr, sp_croom rs = some (p, r, fr) → p → FnOk Tryz.prog 125 rs r fr := by
  intro rs p r fr h hp
  unfold sp_croom at h
  split at h <;> cases h
  obtain ⟨hc0, hc1, hc2, hc3, hc4, hc5⟩ := hp
  rename_i z51 z52 z53 z54 z55 z56 z57
  obtain ⟨z51, rfl⟩ : ∃ m : Nat, z51 = m := ⟨_, hc0⟩
  obtain ⟨z52, rfl⟩ : ∃ m : Nat, z52 = m := ⟨_, hc1⟩
  obtain ⟨z53, rfl⟩ : ∃ m : Nat, z53 = m := ⟨_, hc2⟩
  obtain ⟨z54, rfl⟩ : ∃ m : Nat, z54 = m := ⟨_, hc3⟩
  obtain ⟨z55, rfl⟩ : ∃ m : Nat, z55 = m := ⟨_, hc4⟩
  obtain ⟨z56, rfl⟩ : ∃ m, z56 = hds m := ⟨_, hc5⟩
  simp only [Int.toNat_natCast, dhds_hds]
  exact croom_ok ⟨z51, z52, z53, z54, z55, z56, z57⟩
end Dm
