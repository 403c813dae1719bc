import Derived.Test.YtpaojpjhppgoeaaK3
set_option linter.unusedSimpArgs false
set_option linter.unusedVariables false
namespace Dm
open Go Go.Proofs Go.IntWalk
def insS (l : List Rk) (i : Nat) (x : Rk) : List Rk := l.take i ++ x :: l.drop i
abbrev ovk (f : Nat) : Nat × (List D → Option (Prop × D × Fr)) := (2000000000 + f, fun _ => none)
def tabI2 : Tab := [ovk 37]
attribute [go_sem] tabI2
theorem tabI2_ok : TabOk Try.prog tabI2 := by
  refine .cons (fun rs p r fr h hp => ?_) .nil
  cases h
def tabI3 : Tab := [fg 12]
attribute [go_sem] tabI3
theorem tabI3_ok : TabOk Try.prog tabI3 := by
  refine .cons (fun rs p r fr h hp => ?_) .nil
  cases h
theorem wideRk (l : List Rk) : Wide 3 (rks l) := of_eq_true (rks_wide l)
theorem insert_ok (l : List Rk) (x : Rk) (i : Nat) (hi : i ≤ l.length) (hl : l.length ≤ 1000000) {Q : D → List (Nat × Ob) → Nat → Prop}
    (hQ : ∀ j os nx, lk j os = some (.vec true 3 39 (rks (insS l i x))) → Q (.vec j (insS l i x).length) os nx) :
    ACall Try.prog 23 [.vec 0 l.length, .int .i64 i, .vec 1 1] [(1, .vec true 3 39 (rks [x])), (0, .vec true 3 39 (rks l))] 2 Q := by
  have hil : (insS l i x).length = l.length + 1 := by simp only [insS, List.length_append, List.length_cons, List.length_take, List.length_drop]; omega
  have hq : ∀ j os nx, lk j os = some (.vec true 3 39 (rks (insS l i x))) → Q (.vec j (l.length + 1)) os nx := by rw [← hil]; exact hQ
  by_cases hin : i = l.length
  · refine ac23 tabI3_ok (Nat.le_of_ble_eq_true rfl) ?_
    have e4 : ((1 : Int) = 0) = False := eq_false (by decide)
    subst hin
    simp -implicitDefEqProofs only [cd_t, cd_f, cd_dec, cd_not, cd_and, cd_or, grd_tt, grd_ff, grd_tf, grd_ft, grd_dt, grd_df, grd_nt, grd_nf, go_sem, Go.Proofs.Try.f23, e4, decide_true, reduceIte, reduceCtorEq, Nat.reduceEqDiff, Nat.reduceAdd, Nat.reduceLeDiff, Nat.reduceSub, Nat.reduceMul, Nat.reduceLT, Nat.reduceShiftRight, Nat.reduceMod]
    refine ⟨Int.le_refl _, fun _ => ⟨fun h => h.elim, fun _ => ⟨by omega, hq _ _ _ ?_⟩⟩⟩
    rw [lk_cons, if_neg (by decide), lk_hd]
    simp [insS]
  · have hlt : i < l.length := by omega
    refine ACall.opn 0 rfl (by rw [rks_length]; omega) fun c hc hcm => ?_
    refine ACall.sld ?_
    rw [rks_length] at hc
    refine ac23 tabI2_ok (Nat.le_of_ble_eq_true rfl) ?_
    have e1 : IntKind.i64.wrap ((l.length : Int) + 1) = ((l.length + 1 : Nat) : Int) := by rw [i64_in _ (by omega)]; omega
    have e2 : IntKind.i64.wrap ((i : Int) + 1) = ((i + 1 : Nat) : Int) := by rw [i64_in _ (by omega)]; omega
    have e3 : ((i : Int) = (l.length : Int)) = False := eq_false (by omega)
    have e4 : ((1 : Int) = 0) = False := eq_false (by decide)
    have e5 : IntKind.i64.wrap ((l.length : Int) + 1 - (i : Int)) = ((l.length + 1 - i : Nat) : Int) := by rw [i64_in _ (by omega)]; omega
    have e6 : ((l.length : Int) + 1).toNat = l.length + 1 := by omega
    have e7 : ((i : Int) + 1).toNat = i + 1 := by omega
    have e8 : i + (l.length + 1 - i) = l.length + 1 := by omega
    simp -implicitDefEqProofs only [cd_t, cd_f, cd_dec, cd_not, cd_and, cd_or, grd_tt, grd_ff, grd_tf, grd_ft, grd_dt, grd_df, grd_nt, grd_nf, go_sem, Go.Proofs.Try.f23, e3, e4, e1, e2, e5, e6, e7, e8, decide_false, reduceIte, reduceCtorEq, Nat.reduceEqDiff, Nat.reduceAdd, Nat.reduceLeDiff, Nat.reduceSub, Nat.reduceMul, Nat.reduceLT, Nat.reduceShiftRight, Nat.reduceMod]
    refine ⟨by omega, fun _ _ => ⟨fun h1 => ⟨by omega, by omega, fun c1 h2 h3 => ⟨by omega, ?_⟩⟩, fun h1 => ⟨by omega, by omega, ?_, ?_⟩⟩⟩
    · refine ADraw.run us23_11 tabI2_ok follows_mixed (by kernel_rfl) (by kernel_rfl) ?_
      simp -implicitDefEqProofs only [cd_t, cd_f, cd_dec, cd_not, cd_and, cd_or, grd_tt, grd_ff, grd_tf, grd_ft, grd_dt, grd_df, grd_nt, grd_nf, go_sem, e1, e2, e5, e6, e7, e8, reduceIte, reduceCtorEq, Nat.reduceEqDiff, Nat.reduceAdd, Nat.reduceLeDiff, Nat.reduceSub, Nat.reduceMul, Nat.reduceLT, Nat.reduceShiftRight, Nat.reduceMod]
      refine ⟨by omega, by omega, fun y hy => fit_wide (wideRk l) y (List.mem_of_mem_take (List.mem_of_mem_drop hy)), ?_⟩
      have := ins_new (sz := 3) (c := c) (c1 := c1) (i := i) (E := rks l) (x := x.enc) (z := [C.int IntKind.u64 0, C.int IntKind.u64 0, C.bool false]) (by rw [rks_length]; exact hlt) (by rw [rks_length]; exact hc) (by rw [rks_length]; exact h2)
      rw [rks_length] at this
      refine hq _ _ _ ?_
      rw [lk_hd]
      congr 2
      rw [show rks (List.take (l.length + 1 - i) [x]) = List.take (l.length + 1 - i) [x.enc] by simp [rks], this]
      simp [rks, insS]
    · exact ⟨_, 24, 4, _, rfl, rfl, rfl, rfl, by kernel_rfl, elOf_24⟩
    · refine ADraw.run us23_15 tabI2_ok follows_mixed (by kernel_rfl) (by kernel_rfl) ?_
      simp -implicitDefEqProofs only [cd_t, cd_f, cd_dec, cd_not, cd_and, cd_or, grd_tt, grd_ff, grd_tf, grd_ft, grd_dt, grd_df, grd_nt, grd_nf, go_sem, e1, e2, e5, e6, e7, e8, reduceIte, reduceCtorEq, Nat.reduceEqDiff, Nat.reduceAdd, Nat.reduceLeDiff, Nat.reduceSub, Nat.reduceMul, Nat.reduceLT, Nat.reduceShiftRight, Nat.reduceMod]
      refine ⟨by omega, by omega, fun y hy => fit_wide (wideRk l) y (List.mem_of_mem_take (List.mem_of_mem_drop hy)), by omega, ?_⟩
      have := ins_old (sz := 3) (c := c) (i := i) (E := rks l) (x := x.enc) (by rw [rks_length]; exact hlt) (by rw [rks_length]; omega)
      rw [rks_length] at this
      refine hq _ _ _ ?_
      rw [lk_hd]
      congr 2
      rw [show rks (List.take (l.length + 1 - i) [x]) = List.take (l.length + 1 - i) [x.enc] by simp [rks], this]
      simp [rks, insS]
end Dm
