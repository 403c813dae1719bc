import Derived.Test.YtpaojpjhppgoeaaD6
import Derived.Scope
set_option linter.unusedSimpArgs false
set_option linter.unusedVariables false
/-! A function's own scope of labels, out of which no 'goto' leads. -/
namespace Dm
open Go
attribute [go_sem] Bool.false_and Bool.and_false Bool.true_and Bool.and_true Bool.or_false Bool.false_or Bool.true_or Bool.or_true Bool.not_true Bool.not_false
section
variable {P : Program} {T : Tab} {n N : Nat} {lv : Nat → Option (List Nat)} {s s' : St} {Q : Exit → St → Prop}
def ng (Q : Exit → St → Prop) : Exit → St → Prop
  | .goto _, _ => False
  | e, s => Q e s
theorem SWp.scope {c : Code} (h : SWp P n N c (ng Q) s) : SWp P n N (.scope c) Q s := by
  intro δ g a w hr hn
  refine wp_scope_straight (wp_mono (h δ g a w hr hn) fun e a' w' ⟨g', s', h1, h2⟩ => ?_)
  cases e with
  | goto l => exact h1.elim
  | _ => exact ⟨g', s', h1, h2⟩
/-- nil is a slice without elements. -/
theorem SWp.nilsl {c : Code} {Q : Exit → St → Prop} (t : Nat) (ht : lk t s.tm = some .nil) (h : SWp P n N c Q (s.rep (some t) (.c (.sl [])))) : SWp P n N c Q s := by
  intro δ g a w hr hn
  obtain ⟨v, hv, hvr⟩ := hr.tm t _ ht
  have hr2 : Rel δ g (s.rep (some t) (.c (.sl []))) a w := by
    refine ⟨fun u d hu => ?_, hr.defers, hr.o.tm⟩
    simp only [St.rep, lk_upd] at hu
    split at hu
    · rename_i hc
      cases hu
      rw [hc.1]
      refine ⟨_, hv, ?_⟩
      cases hvr
      exact .c _ _ (.slnil _ _ (by decide))
    · exact hr.tm u d hu
  refine wp_mono (h δ g a w hr2 hn) fun e a' w' ⟨g2, s2, h1, h2, h3, h4⟩ => ⟨g2, s2, h1, h2, h3, ?_⟩
  exact ⟨h4.ρ, h4.κ, h4.I, h4.size, h4.same, h4.own, h4.imm, h4.env⟩
@[congr] theorem ng_congr {e : Exit} (h' : s = s') : ng Q e s = ng Q e s' := by rw [h']
@[go_sem] theorem ng_n : ng Q .normal s = Q .normal s := rfl
@[go_sem] theorem ng_r : ng Q .ret s = Q .ret s := rfl
@[go_sem] theorem ng_e {i : Nat} : ng Q (.exit i) s = Q (.exit i) s := rfl
@[go_sem] theorem okD_ite {p : Prop} [Decidable p] {v : D} {d : Option Nat} {K : St → Prop} : okD (if p then some v else none) d s K = (p ∧ K (s.put d v)) := by
  by_cases h : p <;> simp [h, okD]
@[go_sem] theorem okS_ite {p : Prop} [Decidable p] {K : St → Prop} : okS (if p then some s else none) K = (p ∧ K s) := by
  by_cases h : p <;> simp [h, okS]
end
end Dm
