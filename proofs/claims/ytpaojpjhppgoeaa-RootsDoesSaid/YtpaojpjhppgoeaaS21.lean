import Derived.Test.YtpaojpjhppgoeaaS20
set_option linter.unusedSimpArgs false
set_option linter.unusedVariables false
/-! A slice of one's own that is from now on only read. -/
namespace Dm
open Go
section
variable {δ : List Deferred} {P : Program} {g g' : G} {s s' : St} {a : Act} {w w' : World} {n N : Nat}
theorem SWp.frz {c : Code} {Q : Exit → St → Prop} (t : Nat) {d d' : D} (ht : lk t s.tm = some d) (hf : Dm.frz s d = (d', s')) (h : SWp P n N c Q (s'.rep (some t) d')) : SWp P n N c Q s := by
  intro δ g a w hr hn
  obtain ⟨v, hv, hvr⟩ := hr.tm t d ht
  obtain ⟨g1, hr1, hv1, hst, htm⟩ := frz_sound hr hvr hf
  have hr2 : Rel δ g1 (s'.rep (some t) d') a w := by
    refine ⟨fun u d hu => ?_, hr1.defers, hr1.o.tm⟩
    simp only [St.rep, lk_upd] at hu
    split at hu
    · rename_i hc
      cases hu
      rw [hc.1]
      exact ⟨_, hv, hv1⟩
    · exact hr1.tm u d hu
  refine wp_mono (h δ g1 a w hr2 hn) fun e a' w' ⟨g2, s2, h1, h2, h3, h4⟩ => ⟨g2, s2, h1, h2, h3, ?_⟩
  have hst' : StepN N g s w g1 (s'.rep (some t) d') w := (hst.toN).tm (tm := s.tm)
  exact hst'.trans h4
theorem ADraw.frz {i : Nat} {ops : Array Oper} {Q : Exit → St → Prop} (t : Nat) {d d' : D} (ht : lk t s.tm = some d) (hf : Dm.frz s d = (d', s')) (h : ADraw P n N i ops Q (s'.rep (some t) d')) : ADraw P n N i ops Q s :=
  SWp.frz t ht hf h
end
end Dm
