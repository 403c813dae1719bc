import Derived.Test.YtpaojpjhppgoeaaK5
set_option linter.unusedSimpArgs false
set_option linter.unusedVariables false
namespace Dm
open Go Go.Proofs Go.IntWalk
theorem TabOk.append {P : Program} {T T' : Tab} (h : TabOk P T) (h' : TabOk P T') : TabOk P (T ++ T') := by
  intro f sp rs p r fr hl hs hp
  rw [lk_app] at hl
  cases hk : lk f T with
  | none => rw [hk] at hl; exact h' f sp rs p r fr hl hs hp
  | some x => rw [hk] at hl; exact h f sp rs p r fr (by rw [hk]; exact hl) hs hp
set_option maxRecDepth 4000 in
theorem addF_ok (l : List Rk) (id key : Int) : FreshFn Try.prog 9 [.sl (rks l), .int .u64 id, .int .u64 key] (.tup [.vec 0 (addS l id key).1.length, .int .i64 (addS l id key).2]) [(3, 39, true, rks (addS l id key).1)] := by
  refine .of (ac9 tab7_ok (Nat.le_of_ble_eq_true rfl) ?_)
  simp -implicitDefEqProofs only [cd_t, cd_f, cd_dec, cd_not, cd_and, cd_or, grd_tt, grd_ff, grd_tf, grd_ft, grd_dt, grd_df, grd_nt, grd_nf, go_sem, Go.Proofs.Try.f9, reduceIte, reduceCtorEq, Nat.reduceEqDiff, Nat.reduceAdd, Nat.reduceLeDiff, Nat.reduceSub, Nat.reduceMul, Nat.reduceLT, Nat.reduceShiftRight, Nat.reduceMod]
  by_cases h1 : checkR l = 0
  · have hf : findS l id = ((posS l id : Int), thereS l id, 0) := by rw [findS, if_pos h1]
    have hl := (checkR_0 h1).1
    rw [hf]
    refine ⟨fun _ => ⟨fun h2 => ⟨fun h3 => ?_, fun h3 _ => ⟨fun h4 => ?_, fun h4 => ⟨by omega, ?_⟩⟩⟩, fun h2 => ?_⟩, fun h => absurd rfl h⟩
    · rw [addS, if_pos h1, if_pos (.inr h3)]; exact ⟨[none], by simp [go_sem, rks], ⟨rfl, rfl⟩, rfl⟩
    · rw [addS, if_pos h1, if_neg (by dsimp only at h2; rw [h2, h3]; decide), if_pos (by omega)]; exact ⟨[none], by simp [go_sem, rks], ⟨rfl, rfl⟩, rfl⟩
    · have ha : addS l id key = (insS l (posS l id) ⟨id, key, false⟩, 0) := by rw [addS, if_pos h1, if_neg (by dsimp only at h2; rw [h2, h3]; decide), if_neg (by omega)]
      refine insert_ok l _ _ pos_le (by omega) fun j os nx hj => ?_
      simp -implicitDefEqProofs only [cd_t, cd_f, cd_dec, cd_not, cd_and, cd_or, grd_tt, grd_ff, grd_tf, grd_ft, grd_dt, grd_df, grd_nt, grd_nf, go_sem, reduceIte, reduceCtorEq, Nat.reduceEqDiff, Nat.reduceAdd, Nat.reduceLeDiff, Nat.reduceSub, Nat.reduceMul, Nat.reduceLT, Nat.reduceShiftRight, Nat.reduceMod]
      rw [ha]
      exact ⟨[some j], by simp [go_sem, hj], ⟨rfl, rfl⟩, rfl⟩
    · rw [addS, if_pos h1, if_pos (.inl h2)]; exact ⟨[none], by simp [go_sem, rks], ⟨rfl, rfl⟩, rfl⟩
  · have hf : findS l id = (0, false, checkR l) := by rw [findS, if_neg h1]
    rw [hf, addS, if_neg h1]
    exact ⟨fun h => absurd h h1, fun _ => ⟨[none], by simp [go_sem, rks], ⟨rfl, rfl⟩, rfl⟩⟩
set_option maxRecDepth 4000 in
theorem revF_ok (l : List Rk) (id : Int) : FreshFn Try.prog 10 [.sl (rks l), .int .u64 id] (.tup [.vec 0 (revS l id).1.length, .int .i64 (revS l id).2]) [(3, 39, true, rks (revS l id).1)] := by
  refine .of (ac10 tab6_ok (Nat.le_of_ble_eq_true rfl) ?_)
  simp -implicitDefEqProofs only [cd_t, cd_f, cd_dec, cd_not, cd_and, cd_or, grd_tt, grd_ff, grd_tf, grd_ft, grd_dt, grd_df, grd_nt, grd_nf, go_sem, Go.Proofs.Try.f10, reduceIte, reduceCtorEq, Nat.reduceEqDiff, Nat.reduceAdd, Nat.reduceLeDiff, Nat.reduceSub, Nat.reduceMul, Nat.reduceLT, Nat.reduceShiftRight, Nat.reduceMod]
  refine ac25 tab6_ok (Nat.le_of_ble_eq_true rfl) ?_
  simp -implicitDefEqProofs only [cd_t, cd_f, cd_dec, cd_not, cd_and, cd_or, grd_tt, grd_ff, grd_tf, grd_ft, grd_dt, grd_df, grd_nt, grd_nf, go_sem, Go.Proofs.Try.f25, reduceIte, reduceCtorEq, Nat.reduceEqDiff, Nat.reduceAdd, Nat.reduceLeDiff, Nat.reduceSub, Nat.reduceMul, Nat.reduceLT, Nat.reduceShiftRight, Nat.reduceMod]
  refine ⟨fun h1 => ?_, fun h1 => ?_⟩
  · obtain ⟨h2, h3, h4, h5⟩ := goodS_0 h1
    obtain ⟨h6, h7⟩ := good_len h1
    rw [h2, Int.toNat_natCast]
    refine ⟨by omega, by omega, ?_⟩
    refine ac26 tab6_ok (Nat.le_of_ble_eq_true rfl) ?_
    simp -implicitDefEqProofs only [cd_t, cd_f, cd_dec, cd_not, cd_and, cd_or, grd_tt, grd_ff, grd_tf, grd_ft, grd_dt, grd_df, grd_nt, grd_nf, go_sem, Go.Proofs.Try.f26, reduceIte, reduceCtorEq, Nat.reduceEqDiff, Nat.reduceAdd, Nat.reduceLeDiff, Nat.reduceSub, Nat.reduceMul, Nat.reduceLT, Nat.reduceShiftRight, Nat.reduceMod]
    have ht : revS l id = (l.set (posS l id) ⟨(l.getD (posS l id) default).id, (l.getD (posS l id) default).key, true⟩, 0) := by rw [revS, if_pos h1]
    rw [ht]
    exact ⟨h3, ⟨[some 0], by simp [go_sem], ⟨rfl, by simp⟩, rfl⟩, fun h => h.elim⟩
  · have ht : revS l id = ([], (goodS l id).2) := by rw [revS, if_neg h1]
    rw [ht]
    exact ⟨[none], by simp [go_sem, rks], ⟨rfl, rfl⟩, rfl⟩
def sp9f : List D → Option (Prop × D × Fr)
  | [.c (.sl els), .c (.int .u64 id), .c (.int .u64 key)] => some (els = rks (drks els), .tup [.vec 0 (addS (drks els) id key).1.length, .int .i64 (addS (drks els) id key).2], [(3, 39, true, rks (addS (drks els) id key).1)])
  | _ => none
def sp10f : List D → Option (Prop × D × Fr)
  | [.c (.sl els), .c (.int .u64 id)] => some (els = rks (drks els), .tup [.vec 0 (revS (drks els) id).1.length, .int .i64 (revS (drks els) id).2], [(3, 39, true, rks (revS (drks els) id).1)])
  | _ => none
def spR19 : List D → Option (Prop × D × Fr)
  | [.c (.sl a), .c (.sl b)] => some (a = rks (drks a) ∧ b = rks (drks b), .bool (decide (drks a = drks b)), [])
  | _ => none
def spR15 : List D → Option (Prop × D × Fr)
  | [.c (.sl els), .c (.int .u64 id), .c (.int .u64 key)] => some (els = rks (drks els), .tup [.sl (rks (addS (drks els) id key).1), .int .i64 (addS (drks els) id key).2], [])
  | _ => none
def spR16 : List D → Option (Prop × D × Fr)
  | [.c (.sl els), .c (.int .u64 id), .c (.int .u64 key)] => some (els = rks (drks els), .tup [.sl (rks (turnS (drks els) id key).1), .int .i64 (turnS (drks els) id key).2], [])
  | _ => none
def spR17 : List D → Option (Prop × D × Fr)
  | [.c (.sl els), .c (.int .u64 id)] => some (els = rks (drks els), .tup [.sl (rks (revS (drks els) id).1), .int .i64 (revS (drks els) id).2], [])
  | _ => none
attribute [go_sem] sp9f sp10f spR19 spR15 spR16 spR17
def tabZ : Tab := (8, sp8) :: (9, sp9f) :: (10, sp10f) :: (19, spR19) :: (15, spR15) :: (16, spR16) :: (17, spR17) :: (14, sp14) :: (18, spR18) :: (20, spR20) :: tab7
attribute [go_sem] tabZ
theorem tabZ_ok : TabOk Try.prog tabZ := by
  refine .cons (fun rs p r fr h hp => ?_) (.cons (fun rs p r fr h hp => ?_) (.cons (fun rs p r fr h hp => ?_) (.cons (fun rs p r fr h hp => ?_) (.cons (fun rs p r fr h hp => ?_) (.cons (fun rs p r fr h hp => ?_) (.cons (fun rs p r fr h hp => ?_) (.cons (fun rs p r fr h hp => ?_) (.cons (fun rs p r fr h hp => ?_) (.cons (fun rs p r fr h hp => ?_) tab7_ok)))))))))
  · unfold sp8 at h; split at h <;> cases h; exact live_ok
  · unfold sp9f at h; split at h <;> cases h; rw [hp, drks_rks]; exact ⟨rfl, addF_ok _ _ _⟩
  · unfold sp10f at h; split at h <;> cases h; rw [hp, drks_rks]; exact ⟨rfl, revF_ok _ _⟩
  · unfold spR19 at h; split at h <;> cases h; rw [hp.1, hp.2, drks_rks, drks_rks]; exact refsame_ok _ _
  · unfold spR15 at h; split at h <;> cases h; rw [hp, drks_rks]; exact refadd_ok _ _ _
  · unfold spR16 at h; split at h <;> cases h; rw [hp, drks_rks]; exact refturn_ok _ _ _
  · unfold spR17 at h; split at h <;> cases h; rw [hp, drks_rks]; exact refrev_ok _ _
  · unfold sp14 at h; split at h <;> cases h; rw [hp.1, hp.2, drks_rks, drks_rks]; exact same_ok _ _
  · unfold spR18 at h; split at h <;> cases h; rw [hp, drks_rks]; exact refkey_ok _ _
  · unfold spR20 at h; split at h <;> cases h; rw [hp, drks_rks]; exact refcheck_ok _
set_option maxRecDepth 4000 in
theorem does_law (l o : List Rk) (id key : Int) : PureFn Try.prog 6 [.sl (rks l), .sl (rks o), .int .u64 id, .int .u64 key] (.bool true) := by
  refine .of (ac6 tabZ_ok (Nat.le_of_ble_eq_true rfl) ?_)
  simp -implicitDefEqProofs only [cd_t, cd_f, cd_dec, cd_not, cd_and, cd_or, grd_tt, grd_ff, grd_tf, grd_ft, grd_dt, grd_df, grd_nt, grd_nf, go_sem, Go.Proofs.Try.f6, reduceIte, reduceCtorEq, Nat.reduceEqDiff, Nat.reduceAdd, Nat.reduceLeDiff, Nat.reduceSub, Nat.reduceMul, Nat.reduceLT, Nat.reduceShiftRight, Nat.reduceMod]
  have hb : ∀ x : Bool, (x == x) = true := fun x => by cases x <;> rfl
  refine fun h1 => ⟨fun h2 h3 => ⟨fun _ => trivial, fun h4 => ⟨by omega, ?_⟩⟩, fun _ => trivial⟩
  simp -implicitDefEqProofs only [hb, false_implies, and_true, true_and, true_implies, reduceCtorEq, decide_true, forall_const]
  generalize addS l id key = A
  generalize revS l id = B
  refine fun h5 => SWp.loop (ι := { x : Nat × List Rk // x.1 ≤ A.1.length ∧ x.2.length = A.1.length }) (fun x => ⟨[(0, .sl (rks l)), (9, .vec 0 l.length), (10, .vec 1 A.1.length), (18, .vec 2 B.1.length), (26, .bool true), (148, .int .i64 A.1.length), (149, .int .i64 x.1.1)],
    [(2, .vec true 3 39 (rks B.1)), (1, .vec true 3 39 (rks x.1.2)), (0, .vec true 3 39 (rks l))], 3⟩) (fun x => A.1.length - x.1.1) ⟨(0, A.1), by simp⟩ ?_ ?_
  · simp [go_sem]
  · rintro ⟨⟨j, X⟩, hj, hX⟩
    dsimp only at hj hX
    refine awp_sound tabZ_ok.toS lv6 _ _ _ rfl ?_
    simp -implicitDefEqProofs only [cd_t, cd_f, cd_dec, cd_not, cd_and, cd_or, grd_tt, grd_ff, grd_tf, grd_ft, grd_dt, grd_df, grd_nt, grd_nf, go_sem, reduceIte, reduceCtorEq, Nat.reduceEqDiff, Nat.reduceAdd, Nat.reduceLeDiff, Nat.reduceSub, Nat.reduceMul, Nat.reduceLT, Nat.reduceShiftRight, Nat.reduceMod]
    refine ⟨fun h6 => ⟨by omega, by omega, by omega, by omega, ⟨(j + 1, X.set j ⟨(X.getD j default).id, IntKind.u64.wrap ((X.getD j default).key + 1), (X.getD j default).gone⟩), by dsimp only; omega, by simpa using hX⟩, by dsimp only; omega, ?_⟩, fun h6 h7 => ?_⟩
    · rw [i64_in _ (by omega)]
      simp [go_sem]
    · refine SWp.loop (ι := { x : Nat × List Rk // x.1 ≤ B.1.length ∧ x.2.length = B.1.length }) (fun x => ⟨[(0, .sl (rks l)), (9, .vec 0 l.length), (18, .vec 2 B.1.length), (26, .bool true), (162, .int .i64 B.1.length), (163, .int .i64 x.1.1)],
        [(2, .vec true 3 39 (rks x.1.2)), (0, .vec true 3 39 (rks l))], 3⟩) (fun x => B.1.length - x.1.1) ⟨(0, B.1), by simp⟩ ?_ ?_
      · simp [go_sem]
      · rintro ⟨⟨i, Y⟩, hi, hY⟩
        dsimp only at hi hY
        refine awp_sound tabZ_ok.toS lv6 _ _ _ rfl ?_
        simp -implicitDefEqProofs only [cd_t, cd_f, cd_dec, cd_not, cd_and, cd_or, grd_tt, grd_ff, grd_tf, grd_ft, grd_dt, grd_df, grd_nt, grd_nf, go_sem, reduceIte, reduceCtorEq, Nat.reduceEqDiff, Nat.reduceAdd, Nat.reduceLeDiff, Nat.reduceSub, Nat.reduceMul, Nat.reduceLT, Nat.reduceShiftRight, Nat.reduceMod]
        refine ⟨fun h8 => ⟨by omega, by omega, by omega, by omega, ⟨(i + 1, Y.set i ⟨(Y.getD i default).id, IntKind.u64.wrap ((Y.getD i default).key + 1), (Y.getD i default).gone⟩), by dsimp only; omega, by simpa using hY⟩, by dsimp only; omega, ?_⟩, fun _ => by rfl⟩
        rw [i64_in _ (by omega)]
        simp [go_sem]
end Dm
