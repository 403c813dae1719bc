import Derived.Test.YtpaojpjhppgoeaaS19
set_option linter.unusedSimpArgs false
set_option linter.unusedVariables false
/-! An iterator's contract, out of its code. -/
namespace Dm
open Go
section
variable {P : Program} {T : Tab} {g : G} {s s' : St} {a : Act} {w w' : World} {n l m : Nat}

theorem Ext.grown (h : Ext w w') : w.grownBy w' none := ⟨h.2.2.os, h.2.2.tape, h.2.2.out, h.1, fun k hk _ => h.2.1 k hk⟩

theorem IterOk.of {gf : FuncId} {fn : Func} {c : Code} {caps : List D} {ys : Fin m → List D} {order : List (Fin m)}
    (hf : P.funcs[gf]? = some fn) (hname : (fn.name == "runtime.NumGoroutine") = false) (hb : fn.body = some c) (hn : fn.ntmps = n) (hl : caps.length + 1 ≤ n) (hrs : fn.results.toList = []) (hys : ∀ x, ∀ d ∈ ys x, d.scal = true)
    (h : ∀ (l : Nat) (I : Nat → Prop) (J Jx : List (Fin m) → World → Prop) (enc : Fin m → Array Value), YOk P l I ys enc J Jx →
      SY P n I J Jx c (fun e _ σ => (e = .normal ∨ e = .ret) ∧ ((σ.2 = true ∧ σ.1 = order) ∨ (σ.2 = false ∧ σ.1 <+: order))) ⟨prm 0 (.fn (.yield l) [] [] :: caps), [], 0⟩ ([], true)) : IterOk P gf caps ys order := by
  refine ⟨Go.Proofs.enters_of hf hname hb, fun I w lb hI hsz hv => ?_⟩
  have hval : ∀ x, ∀ (g : G) (W : World) (vs : Array Value), vs.size = (ys x).length → (∀ (i : Nat) (v : Value) (d : D), vs[i]? = some v → (ys x)[i]? = some d → VRel g W v d) → vs = ((ys x).map D.val).toArray := by
    intro x g W vs h1 h2
    apply Array.ext
    · simpa using h1
    · intro i h3 h4
      have hd := List.getElem?_eq_getElem (l := ys x) (i := i) (by omega)
      have := (h2 i _ _ (Array.getElem?_eq_getElem h3) hd).val (hys x _ (List.mem_of_getElem? hd))
      rw [this]
      simp
  refine ⟨fun x => ((ys x).map D.val).toArray, fun x => ⟨by simp, fun j v d hj hd => ?_⟩, ?_⟩
  · simp only [List.getElem?_toArray, List.getElem?_map, hd, Option.map_some, Option.some.injEq] at hj
    subst hj
    exact val_rel (hys x d (List.mem_of_getElem? hd))
  · intro l J Jx W hbel hJ hJx hround h0
    refine callsIn_of_wp hf hb trivial ?_
    subst hn
    have hY : YOk P l I ys (fun x => ((ys x).map D.val).toArray) J Jx :=
      ⟨hround, fun pre A B hj he => hJ pre A B none hj he.grown (fun r e => by cases e), fun pre A B hj he => hJx pre A B none hj he.grown (fun r e => by cases e), hval⟩
    have hcel : ∀ b, I b → Cel W b := fun b hb => (hI b hb).keep (hbel.block b (hI b hb).lt)
    have hk : Keeps I w W := fun b hb => hbel.block b (hI b hb).lt
    have hr : Rel [] (G0 I) ⟨prm 0 (.fn (.yield l) [] [] :: caps), [], 0⟩ { tmps := (#[Value.func (.yield l) #[] #[]] ++ lb) ++ Array.replicate (fn.ntmps - (#[Value.func (.yield l) #[] #[]] ++ lb).size) undef, defers := [] } W := by
      refine ⟨fun t d ht => ?_, rfl, (RelO.none I W hcel).tm⟩
      obtain ⟨_, h2⟩ := lk_prm _ 0 t d ht
      rw [Nat.sub_zero] at h2
      have hs : (#[Value.func (.yield l) #[] #[]] ++ lb).size = caps.length + 1 := by simp [hsz]; omega
      have ht : t < (#[Value.func (.yield l) #[] #[]] ++ lb).size := by
        rw [hs]
        have := (List.getElem?_eq_some_iff.1 h2).1
        simpa using this
      refine ⟨(#[Value.func (.yield l) #[] #[]] ++ lb)[t], by rw [Array.getElem?_append_left ht, Array.getElem?_eq_getElem ht], ?_⟩
      cases t with
      | zero =>
        simp at h2
        subst h2
        simp
        exact .fn _ _ _ _ _ rfl rfl (fun i v d h => by simp at h) (fun i v d h => by simp at h)
      | succ t =>
        have h3 : caps[t]? = some d := by simpa using h2
        have h4 : lb[t]? = some (#[Value.func (.yield l) #[] #[]] ++ lb)[t + 1] := by
          rw [Array.getElem_append_right (by simp)]
          simp
        exact (hv t _ d h4 h3).mono hk (.refl _)
    refine wpIn_mono (h l I J Jx _ hY _ W ⟨rfl, rfl, hr, h0⟩ (by simp [hsz]; omega)) ?_
    rintro e a' w' ⟨s', σ', ⟨h1, h2⟩, h3, h4⟩
    have fin : a'.defers = [] ∧ ∃ v, (results fn a'.tmps).run P w' = .ok v w' ∧ ((∃ u, Ending.returned v = .returned u) ∧ ((∃ xs, xs = order ∧ J xs w') ∨ (∃ pre, pre <+: order ∧ Jx pre w'))) := by
      obtain ⟨h5, h6, h7⟩ := h3
      obtain ⟨pre, b⟩ := σ'
      cases b
      · obtain ⟨h8, h9⟩ := h7
        obtain ⟨v, h10, _⟩ := rdD_sound h8 fn hrs (d := .tup []) rfl
        refine ⟨h8.defers, v, h10, ⟨v, rfl⟩, .inr ⟨pre, ?_, h9⟩⟩
        rcases h2 with ⟨h, _⟩ | ⟨_, h⟩
        · cases h
        · exact h
      · obtain ⟨h8, h9⟩ := h7
        obtain ⟨v, h10, _⟩ := rdD_sound h8 fn hrs (d := .tup []) rfl
        refine ⟨h8.defers, v, h10, ⟨v, rfl⟩, .inl ⟨pre, ?_, h9⟩⟩
        rcases h2 with ⟨_, h⟩ | ⟨h, _⟩
        · exact h
        · cases h
    rcases h1 with rfl | rfl
    · exact fin
    · exact fin
end
end Dm
