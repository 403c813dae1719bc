import Derived.Test.YtpaojpjhppgoeaaS10
set_option linter.unusedSimpArgs false
set_option linter.unusedVariables false
/-! A function: from its code to its contract. -/
namespace Dm
open Go
section
variable {δ : List Deferred} {P : Program} {T : Tab} {g g' g'' : G} {s s' s'' : St} {a : Act} {w w' w'' : World} {n N : Nat}

/-- One result. -/
def resOf (tmps : Array Value) : ResultVar → Sem Value
  | .tmp t => pure (tmps.getD t Go.undef)
  | .cell x t => do loadVar t (← asAddr (tmps.getD x Go.undef))
theorem results_eq (fn : Func) (tmps : Array Value) : results fn tmps = (fn.results.mapM (resOf tmps)) >>= fun vs => (pure (if h : vs.size = 1 then vs[0] else .tuple vs) : Sem Value) := rfl

theorem rd1_sound (hr : Rel δ g s a w) {r : ResultVar} {d : D} (h : rd1 P s r = some d) : ∃ v, (resOf a.tmps r).run P w = .ok v w ∧ VRel g w v d := by
  cases r with
  | tmp t =>
    simp only [rd1, Option.some.injEq] at h
    subst h
    exact ⟨_, rfl, hr.ev (.tmp t)⟩
  | cell x t =>
    simp only [rd1] at h
    have hx : VRel g w (a.tmps.getD x Go.undef) (s.get x) := hr.ev (.tmp x)
    obtain ⟨v, h1, h2⟩ := hr.load hx h
    have h1 := h1.here
    refine ⟨v, ?_, h2⟩
    show (asAddr (a.tmps.getD x Go.undef) >>= fun p => loadVar t p).run P w = _
    generalize a.tmps.getD x Go.undef = xv at hx h1 ⊢
    generalize s.get x = xd at hx h
    cases xd <;> simp only [ldD, reduceCtorEq] at h <;> cases hx <;> simpa [Instr.loadAt, Instr.sureAddr, asAddr] using h1

theorem rds_sound (hr : Rel δ g s a w) : ∀ (rs : List ResultVar) (ds : List D), rds P s rs = some ds →
    ∃ vs : List Value, (rs.mapM (resOf a.tmps)).run P w = .ok vs w ∧ vs.length = ds.length ∧ ∀ (i : Nat) (v : Value) (d : D), vs[i]? = some v → ds[i]? = some d → VRel g w v d
  | [], ds, h => by
    simp only [rds, Option.some.injEq] at h
    subst h
    exact ⟨[], by simp, rfl, fun i v d h => by simp at h⟩
  | r :: l, ds, h => by
    simp only [rds] at h
    split at h
    · rename_i d ds' h1 h2
      cases h
      obtain ⟨v, h3, h4⟩ := rd1_sound hr h1
      obtain ⟨vs, h5, h6, h7⟩ := rds_sound hr l ds' h2
      refine ⟨v :: vs, ?_, by simp [h6], fun i u e hu he => ?_⟩
      · rw [List.mapM_cons, Sem.run_bind, h3]
        simp only [Result.andThen, Sem.run_bind, h5, Sem.run_pure]
      · cases i with
        | zero => simp at hu he; subst hu; subst he; exact h4
        | succ i => exact h7 i u e (by simpa using hu) (by simpa using he)
    · cases h

theorem rdD_sound (hr : Rel δ g s a w) (fn : Func) {rs : List ResultVar} (hrs : fn.results.toList = rs) {d : D} (h : rdD P s rs = some d) :
    ∃ v, (results fn a.tmps).run P w = .ok v w ∧ VRel g w v d := by
  unfold rdD at h
  have key : ∀ ds, rds P s rs = some ds → ∃ vs : List Value, (results fn a.tmps).run P w = .ok (if h : vs.toArray.size = 1 then vs.toArray[0] else .tuple vs.toArray) w ∧ vs.length = ds.length ∧ ∀ (i : Nat) (v : Value) (d : D), vs[i]? = some v → ds[i]? = some d → VRel g w v d := by
    intro ds hds
    obtain ⟨vs, h1, h2, h3⟩ := rds_sound hr rs ds hds
    refine ⟨vs, ?_, h2, h3⟩
    rw [results_eq, Array.mapM_eq_mapM_toList, hrs, Sem.run_bind]
    simp only [Sem.run_map, h1]
    rfl
  split at h
  · rename_i d' hds
    cases h
    obtain ⟨vs, h1, h2, h3⟩ := key _ hds
    match vs, h2 with
    | [v], _ => exact ⟨v, by rw [h1]; rfl, h3 0 v d rfl rfl⟩
  · rename_i ds hne hds
    cases h
    obtain ⟨vs, h1, h2, h3⟩ := key _ hds
    refine ⟨.tuple vs.toArray, ?_, .tup _ _ (by simpa using h2) (by simpa using h3)⟩
    rw [h1, dif_neg]
    simp only [List.size_toArray]
    intro he
    rw [he] at h2
    match ds, h2, hne with
    | [d], _, hne => exact hne d rfl
  · cases h

theorem lk_prm : ∀ (ds : List D) (k t : Nat) (d : D), lk t (prm k ds) = some d → k ≤ t ∧ ds[t - k]? = some d
  | [], k, t, d, h => by cases h
  | x :: l, k, t, d, h => by
    simp only [prm, lk_cons] at h
    split at h
    · rename_i e; subst e; cases h; exact ⟨Nat.le_refl _, by simp⟩
    · rename_i hne
      obtain ⟨h1, h2⟩ := lk_prm l (k + 1) t d h
      refine ⟨by omega, ?_⟩
      rw [show t - k = (t - (k + 1)) + 1 by omega, List.getElem?_cons_succ]
      exact h2

/-- A call, out of the function's code. -/
theorem acall_intro (hT : TabS P T) {f : FuncId} {fn : Func} {c : Code} {ds : List D} {os : List (Nat × Ob)} {nx : Nat} {Q : D → List (Nat × Ob) → Nat → Prop} (lv : Nat → Option (List Nat))
    (hf : P.funcs[f]? = some fn) (hname : (fn.name == "runtime.NumGoroutine") = false) (hb : fn.body = some c) (hd : dstOk n c = true) (hn : fn.ntmps = n) (hl : ds.length ≤ n) {rs : List ResultVar} (hrs : fn.results.toList = rs)
    (h : awp P T n nx lv c (fin P rs Q) ⟨prm 0 ds, os, nx⟩) : ACall P f ds os nx Q := by
  refine ⟨⟨fn, hf, hname, by rw [hb]; rfl⟩, fun g w vs ho hsz hv => ?_⟩
  refine calls_of_wp hf hb ?_
  subst hn
  have hr : Rel [] g ⟨prm 0 ds, os, nx⟩ { tmps := vs ++ Array.replicate (fn.ntmps - vs.size) undef, defers := [] } w := by
    refine ⟨fun t d ht => ?_, rfl, ho.tm⟩
    obtain ⟨_, h2⟩ := lk_prm ds 0 t d ht
    rw [Nat.sub_zero] at h2
    have ht : t < vs.size := by
      rw [hsz]
      rcases Nat.lt_or_ge t ds.length with h | h
      · exact h
      · rw [List.getElem?_eq_none h] at h2; cases h2
    refine ⟨vs[t], ?_, hv t _ d (Array.getElem?_eq_getElem ht) h2⟩
    rw [Array.getElem?_append_left ht, Array.getElem?_eq_getElem ht]
  refine wp_mono (awp_sound hT lv c _ _ hd h [] g _ w hr (by simp; omega)) fun e a' w' ⟨g', s', h1, h2, h3, h4⟩ => ?_
  have fin : ∀ (hq : rto (rdD P s' rs) s' Q), a'.defers = [] ∧ ∃ v, (results fn a'.tmps).run P w' = .ok v w' ∧ (∃ u d g' os' nx', Ending.returned v = .returned u ∧ Q d os' nx' ∧ RelO g' ⟨[], os', nx'⟩ w' ∧ VRel g' w' u d ∧ Step g ⟨[], os, nx⟩ w g' ⟨[], os', nx'⟩ w') := by
    intro hq
    unfold rto at hq
    split at hq
    · rename_i d hrd
      obtain ⟨v, h5, h6⟩ := rdD_sound h2 fn hrs hrd
      exact ⟨h2.defers, v, h5, v, d, g', s'.os, s'.nx, rfl, hq, h2.o.tm, h6, (h4.tm (tm := []) (tm' := [])).step ho (Nat.le_refl _)⟩
    · cases hq
  cases e with
  | normal => exact fin h1
  | ret => exact fin h1
  | _ => cases h1
end
end Dm
