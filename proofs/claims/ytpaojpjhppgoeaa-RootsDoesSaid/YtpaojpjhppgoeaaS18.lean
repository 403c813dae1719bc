import Derived.Test.YtpaojpjhppgoeaaS17
set_option linter.unusedSimpArgs false
set_option linter.unusedVariables false
/-! A function whose code holds ranges over functions. -/
namespace Dm
open Go
section
variable {δ : List Deferred} {P : Program} {T : Tab} {g g' g'' : G} {s s' s'' : St} {a : Act} {w w' w'' : World} {n N : Nat}

theorem leaves_marks {m : Nat} {fn : Func} {tmps : Array Value} {R : Ending → World → Prop} (K : World → Prop) : ∀ (Ds : List Nat) (w : World), Ds.Nodup → (∀ D ∈ Ds, w.heap[D]? = some (.deferred (some []))) → K w →
    (∀ W D, D ∈ Ds → K W → W.heap[D]? = some (.deferred (some [])) → K (W.putObj D (.deferred none))) → (∀ W, K W → ∃ v, (results fn tmps).run P W = .ok v W ∧ R (.returned v) W) →
    LeavesInM Fence.wide m P fn tmps R (Ds.map mrk) .returning w
  | [], w, _, _, hK, _, h => h w hK
  | D :: Ds, w, hn, hD, hK, hs, h => by
    obtain ⟨hn1, hn2⟩ := List.nodup_cons.1 hn
    refine ⟨by simp, .inl ⟨D, _, rfl, run_takeDeferred (hD D (by simp)), ?_⟩⟩
    refine leaves_marks K Ds _ hn2 (fun D' hD' => ?_) (hs w D (by simp) hK (hD D (by simp))) (fun W D' hD' => hs W D' (by simp [hD'])) h
    have hne : D' ≠ D := fun e => hn1 (by rw [← e]; exact hD')
    exact (World.putObj_heap_other hne).trans (hD D' (by simp [hD']))

theorem acall_introM {f : FuncId} {fn : Func} {c : Code} {ds : List D} {os : List (Nat × Ob)} {nx : Nat} {Q : D → List (Nat × Ob) → Nat → Prop}
    (hf : P.funcs[f]? = some fn) (hname : (fn.name == "runtime.NumGoroutine") = false) (hb : fn.body = some c) (hn : fn.ntmps = n) (hl : ds.length ≤ n) {rs : List ResultVar} (hrs : fn.results.toList = rs)
    (h : SWm P n nx c (fin P rs Q) ⟨prm 0 ds, os, nx⟩) : ACall P f ds os nx Q := by
  refine ⟨⟨fn, hf, hname, by rw [hb]; rfl⟩, fun g w vs ho hsz hv => ?_⟩
  refine callsIn_wide (n := 5).1 (callsIn_of_wp_marks hf hb trivial (wpIn_wide.2 ?_))
  subst hn
  have hr : Rel [] g ⟨prm 0 ds, os, nx⟩ { tmps := vs ++ Array.replicate (fn.ntmps - vs.size) undef, defers := [] } w := by
    refine ⟨fun t d ht => ?_, rfl, ho.tm⟩
    obtain ⟨_, h2⟩ := lk_prm ds 0 t d ht
    rw [Nat.sub_zero] at h2
    have ht : t < vs.size := by
      rw [hsz]
      rcases Nat.lt_or_ge t ds.length with h | h
      · exact h
      · rw [List.getElem?_eq_none h] at h2; cases h2
    refine ⟨vs[t], ?_, hv t _ d (Array.getElem?_eq_getElem ht) h2⟩
    rw [Array.getElem?_append_left ht, Array.getElem?_eq_getElem ht]
  refine wp_mono (h [] g _ w hr (by simp; omega)) fun e a' w' ⟨Ds, g', s', h1, h2, h3, h4, h5, h6⟩ => ?_
  rw [List.append_nil] at h2
  have fin : ∀ (hq : rto (rdD P s' rs) s' Q), LeavesInM Fence.wide 5 P fn a'.tmps (fun e w' => ∃ v d g' os' nx', e = .returned v ∧ Q d os' nx' ∧ RelO g' ⟨[], os', nx'⟩ w' ∧ VRel g' w' v d ∧ Step g ⟨[], os, nx⟩ w g' ⟨[], os', nx'⟩ w') a'.defers .returning w' := by
    intro hq
    rw [h2.defers]
    refine leaves_marks (fun W => Rel (Ds.map mrk) g' s' a' W ∧ StepN nx g ⟨prm 0 ds, os, nx⟩ w g' s' W) Ds w' h4 (fun D hD => (h3 D hD).2) ⟨h2, h6⟩ (fun W D hD hK hd => ?_) (fun W hK => ?_)
    · have hg := grownBy_putObj' W D (.deferred none)
      exact ⟨hK.1.grown hg fun r e => by cases e; exact ⟨_, hd, rfl⟩, hK.2.grown hg fun r e => by cases e; exact (h3 D hD).1⟩
    · unfold rto at hq
      split at hq
      · rename_i d hrd
        obtain ⟨v, h7, h8⟩ := rdD_sound hK.1 fn hrs hrd
        exact ⟨v, h7, v, d, g', s'.os, s'.nx, rfl, hq, hK.1.o.tm, h8, (hK.2.tm (tm := []) (tm' := [])).step ho (Nat.le_refl _)⟩
      · cases hq
  cases e with
  | normal => exact fin h1
  | ret => exact fin h1
  | _ => cases h1

/-- The start of such code: up to the range. -/
theorem SWm.awp (hT : TabS P T) (lv : Nat → Option (List Nat)) {c : Code} {Q : Exit → St → Prop} (hd : dstOk n c = true) (h : awp P T n N lv c Q s) : SWm P n N c Q s := SWm.of (awp_sound hT lv c Q s hd h)
end
end Dm
