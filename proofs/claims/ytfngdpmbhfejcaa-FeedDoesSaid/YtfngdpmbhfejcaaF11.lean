import Derived.Test.YtfngdpmbhfejcaaR1
set_option linter.unusedSimpArgs false
set_option linter.unusedVariables false
namespace Dm
open Go Go.Proofs Go.IntWalk
theorem TabOk.append {P : Program} {T T' : Tab} (h : TabOk P T) (h' : TabOk P T') : TabOk P (T ++ T') := by
  intro f sp rs p r fr hl hs hp
  rw [lk_app] at hl
  cases hk : lk f T with
  | none => rw [hk] at hl; exact h' f sp rs p r fr hl hs hp
  | some x => rw [hk] at hl; exact h f sp rs p r fr (by rw [hk]; exact hl) hs hp
def tabD : Tab := ((22, sp22) :: tabR4) ++ tab5
attribute [go_sem] tabD
theorem tabD_ok : TabOk Try.prog tabD := by
  refine .append (.cons (fun rs p r fr h hp => ?_) tabR4_ok) tab5_ok
  unfold sp22 at h
  split at h <;> cases h
  rw [hp.1, hp.2, devs_evs, devs_evs]
  exact fsame_ok _ _ _ _
set_option maxRecDepth 4000 in
theorem does_ok (n : Int) (l : List Ev) (n' : Int) (l' : List Ev) (k a b m q most : Int) (hn : 0 ≤ n ∧ n ≤ 18446744073709551615) (hn' : 0 ≤ n' ∧ n' ≤ 18446744073709551615) (hm : 0 ≤ m ∧ m ≤ 18446744073709551615) (hq : 0 ≤ q ∧ q ≤ 18446744073709551615) :
    PureFn Try.prog 8 [.agg [.int .u64 n, .sl (evs l)], .agg [.int .u64 n', .sl (evs l')], .int .i64 k, .int .u64 a, .int .u64 b, .agg [.int .u64 m, .int .u64 q], .int .i64 most] (.bool true) := by
  refine .of (ac8 tabD_ok (Nat.le_of_ble_eq_true rfl) ?_)
  simp -implicitDefEqProofs only [cd_t, cd_f, cd_dec, cd_not, cd_and, cd_or, grd_tt, grd_ff, grd_tf, grd_ft, grd_dt, grd_df, grd_nt, grd_nf, go_sem, Go.Proofs.Try.f8, reduceIte, reduceCtorEq, Nat.reduceEqDiff, Nat.reduceAdd, Nat.reduceLeDiff, Nat.reduceSub, Nat.reduceMul, Nat.reduceLT, Nat.reduceShiftRight, Nat.reduceMod]
  refine fun h1 => ⟨fun h2 h3 => ⟨fun _ => trivial, fun h4 => ⟨by omega, by omega, by omega, by omega, by omega, by omega, by omega, ?_⟩⟩, fun _ => trivial⟩
  refine ADraw.run us8_12 tabD_ok follows_mixed (by kernel_rfl) (by kernel_rfl) ?_
  simp -implicitDefEqProofs only [cd_t, cd_f, cd_dec, cd_not, cd_and, cd_or, grd_tt, grd_ff, grd_tf, grd_ft, grd_dt, grd_df, grd_nt, grd_nf, go_sem, reduceIte, reduceCtorEq, Nat.reduceEqDiff, Nat.reduceAdd, Nat.reduceLeDiff, Nat.reduceSub, Nat.reduceMul, Nat.reduceLT, Nat.reduceShiftRight, Nat.reduceMod]
  have hb : ∀ x : Bool, (x == x) = true := fun x => by cases x <;> rfl
  have hev : ([] : List (List C)) = evs (devs []) := rfl
  simp -implicitDefEqProofs only [hb, ← hev, hn.1, hn.2, hn'.1, hn'.2, hm.1, hm.2, hq.1, hq.2, and_self, true_and, and_true, reduceCtorEq, false_implies, true_implies, not_true_eq_false, implies_true, decide_true]
  generalize addS n l k a b = A
  generalize tellS n l m q most = B
  refine fun h5 => SWp.loop (ι := { x : Nat × List Ev // x.1 ≤ A.2.1.length ∧ x.2.length = A.2.1.length }) (fun x => ⟨[(7, .ref 0 0), (15, .vec 3 l.length), (16, .ref 5 0), (22, .vec 7 B.1.length), (32, .bool true), (164, .int .i64 A.2.1.length), (165, .int .i64 x.1.1)],
    [(0, .box [.int .u64 n, .sl (evs l)]), (7, .vec true 4 33 (evs B.1)), (4, .vec false 4 33 (evs x.1.2)), (5, .box [.int .u64 A.1, .vec 4 A.2.1.length]), (3, .vec true 4 33 (evs l))], 10⟩) (fun x => A.2.1.length - x.1.1) ⟨(0, A.2.1), by simp⟩ ?_ ?_
  · simp [go_sem]
  · rintro ⟨⟨j, X⟩, hj, hX⟩
    dsimp only at hj hX
    refine awp_sound tabD_ok.toS lv8 _ _ _ rfl ?_
    simp -implicitDefEqProofs only [cd_t, cd_f, cd_dec, cd_not, cd_and, cd_or, grd_tt, grd_ff, grd_tf, grd_ft, grd_dt, grd_df, grd_nt, grd_nf, go_sem, reduceIte, reduceCtorEq, Nat.reduceEqDiff, Nat.reduceAdd, Nat.reduceLeDiff, Nat.reduceSub, Nat.reduceMul, Nat.reduceLT, Nat.reduceShiftRight, Nat.reduceMod]
    refine ⟨fun h6 => ⟨by omega, by omega, by omega, by omega, ⟨(j + 1, X.set j ⟨(X.getD j default).seq, (X.getD j default).kind, (X.getD j default).a, IntKind.u64.wrap ((X.getD j default).n + 1)⟩), by dsimp only; omega, by simpa using hX⟩, by dsimp only; omega, ?_⟩, fun h6 h7 => ?_⟩
    · rw [i64_in _ (by omega)]
      simp [go_sem]
    · refine SWp.loop (ι := { x : Nat × List Ev // x.1 ≤ B.1.length ∧ x.2.length = B.1.length }) (fun x => ⟨[(7, .ref 0 0), (15, .vec 3 l.length), (22, .vec 7 B.1.length), (32, .bool true), (179, .int .i64 B.1.length), (180, .int .i64 x.1.1)],
        [(0, .box [.int .u64 n, .sl (evs l)]), (7, .vec true 4 33 (evs x.1.2)), (3, .vec true 4 33 (evs l))], 10⟩) (fun x => B.1.length - x.1.1) ⟨(0, B.1), by simp⟩ ?_ ?_
      · simp [go_sem]
      · rintro ⟨⟨i, Y⟩, hi, hY⟩
        dsimp only at hi hY
        refine awp_sound tabD_ok.toS lv8 _ _ _ rfl ?_
        simp -implicitDefEqProofs only [cd_t, cd_f, cd_dec, cd_not, cd_and, cd_or, grd_tt, grd_ff, grd_tf, grd_ft, grd_dt, grd_df, grd_nt, grd_nf, go_sem, reduceIte, reduceCtorEq, Nat.reduceEqDiff, Nat.reduceAdd, Nat.reduceLeDiff, Nat.reduceSub, Nat.reduceMul, Nat.reduceLT, Nat.reduceShiftRight, Nat.reduceMod]
        refine ⟨fun h8 => ⟨by omega, by omega, by omega, by omega, ⟨(i + 1, Y.set i ⟨(Y.getD i default).seq, (Y.getD i default).kind, (Y.getD i default).a, IntKind.u64.wrap ((Y.getD i default).n + 1)⟩), by dsimp only; omega, by simpa using hY⟩, by dsimp only; omega, ?_⟩, fun _ => by rfl⟩
        rw [i64_in _ (by omega)]
        simp [go_sem]
end Dm
