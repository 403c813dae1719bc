import Derived.Test.YtpaojpjhppgoeaaK1
set_option linter.unusedSimpArgs false
set_option linter.unusedVariables false
namespace Dm
open Go Go.Proofs Go.IntWalk
theorem take_succ_iff {α : Type} [DecidableEq α] [Inhabited α] {a b : List α} {i : Nat} (h1 : i < a.length) (h2 : i < b.length) (h : a.take i = b.take i) :
    a.take (i + 1) = b.take (i + 1) ↔ a.getD i default = b.getD i default := by
  have e1 : a.take (i + 1) = a.take i ++ [a[i]] := by simp
  have e2 : b.take (i + 1) = b.take i ++ [b[i]] := by simp
  rw [e1, e2, h, List.append_cancel_left_eq]
  simp [List.getD, List.getElem?_eq_getElem h1, List.getElem?_eq_getElem h2]
set_option maxRecDepth 4000 in
theorem equal_ok (a b : List Rk) : PureFn Try.prog 30 [.sl (rks a), .sl (rks b)] (.bool (decide (a = b))) := by
  refine .of (ac30 .nil (Nat.le_of_ble_eq_true rfl) ?_)
  simp -implicitDefEqProofs only [cd_t, cd_f, cd_dec, cd_not, cd_and, cd_or, grd_tt, grd_ff, grd_tf, grd_ft, grd_dt, grd_df, grd_nt, grd_nf, go_sem, Go.Proofs.Try.f30, reduceIte, reduceCtorEq, Nat.reduceEqDiff, Nat.reduceAdd, Nat.reduceLeDiff, Nat.reduceSub, Nat.reduceMul, Nat.reduceLT, Nat.reduceShiftRight, Nat.reduceMod]
  refine fun ha hb => ⟨fun hl _ => ?_, fun h => ?_⟩
  · refine SWp.loop (ι := { i : Nat // i ≤ a.length ∧ a.take i = b.take i }) (fun i => ⟨[(0, .sl (rks a)), (1, .sl (rks b)), (12, .int .i64 a.length), (13, .int .i64 i.1)], [], 0⟩) (fun i => a.length - i.1) ⟨0, by simp⟩ ?_ ?_
    · simp [go_sem]
    · rintro ⟨i, hi, hab⟩
      refine awp_sound TabOk.nil.toS lv30 _ _ _ rfl ?_
      simp -implicitDefEqProofs only [cd_t, cd_f, cd_dec, cd_not, cd_and, cd_or, grd_tt, grd_ff, grd_tf, grd_ft, grd_dt, grd_df, grd_nt, grd_nf, go_sem, reduceIte, reduceCtorEq, Nat.reduceEqDiff, Nat.reduceAdd, Nat.reduceLeDiff, Nat.reduceSub, Nat.reduceMul, Nat.reduceLT, Nat.reduceShiftRight, Nat.reduceMod]
      refine ⟨fun h => ?_, fun h => ?_⟩
      · refine ADraw.quiet .nil follows_mixed (by kernel_rfl) (by kernel_rfl) ?_
        simp -implicitDefEqProofs only [cd_t, cd_f, cd_dec, cd_not, cd_and, cd_or, grd_tt, grd_ff, grd_tf, grd_ft, grd_dt, grd_df, grd_nt, grd_nf, go_sem, reduceIte, reduceCtorEq, Nat.reduceEqDiff, Nat.reduceAdd, Nat.reduceLeDiff, Nat.reduceSub, Nat.reduceMul, Nat.reduceLT, Nat.reduceShiftRight, Nat.reduceMod]
        have h1 : i < a.length := by omega
        have h2 : i < b.length := by omega
        have ht := take_succ_iff h1 h2 hab
        refine ⟨by omega, by omega, fun he => ⟨⟨i + 1, h1, ht.2 he⟩, by show _ < _; dsimp only; omega, ?_⟩, fun he => ?_⟩
        · rw [i64_in _ (by omega)]
          simp
        · simp only [eq_comm (a := false), decide_eq_false_iff_not]
          rintro rfl
          exact he rfl
      · have e : i = a.length := by omega
        have : a = b := by
          rw [e, List.take_length] at hab
          rw [hab, List.take_of_length_le (by omega)]
        simp [this]
  · have : a ≠ b := by rintro rfl; exact h rfl
    simp [this]
def sp30 : List D → Option (Prop × D × Fr)
  | [.c (.sl els), .c (.sl els')] => some (els = rks (drks els) ∧ els' = rks (drks els'), .bool (decide (drks els = drks els')), [])
  | _ => none
def sp12 : List D → Option (Prop × D × Fr)
  | [.c (.sl els), .c (.int .u64 id)] => some (els = rks (drks els), .tup [.int .u64 (keyS (drks els) id).1, .int .i64 (keyS (drks els) id).2], [])
  | _ => none
def sp11 : List D → Option (Prop × D × Fr)
  | [.c (.sl els), .c (.int .u64 id), .c (.int .u64 key)] => some (els = rks (drks els), .tup [.sl (rks (turnS (drks els) id key).1), .int .i64 (turnS (drks els) id key).2], [])
  | _ => none
def sp10 : List D → Option (Prop × D × Fr)
  | [.c (.sl els), .c (.int .u64 id)] => some (els = rks (drks els), .tup [.sl (rks (revS (drks els) id).1), .int .i64 (revS (drks els) id).2], [])
  | _ => none
attribute [go_sem] sp30 sp12 sp11 sp10
def tab7 : Tab := (30, sp30) :: (12, sp12) :: (11, sp11) :: (10, sp10) :: tab6
attribute [go_sem] tab7
theorem tab7_ok : TabOk Try.prog tab7 := by
  refine .cons (fun rs p r fr h hp => ?_) (.cons (fun rs p r fr h hp => ?_) (.cons (fun rs p r fr h hp => ?_) (.cons (fun rs p r fr h hp => ?_) tab6_ok)))
  · unfold sp30 at h
    split at h <;> cases h
    rw [hp.1, hp.2, drks_rks, drks_rks]
    exact equal_ok _ _
  · unfold sp12 at h
    split at h <;> cases h
    rw [hp, drks_rks]
    exact key_ok _ _
  · unfold sp11 at h
    split at h <;> cases h
    rw [hp, drks_rks]
    exact turn_ok _ _ _
  · unfold sp10 at h
    split at h <;> cases h
    rw [hp, drks_rks]
    exact rev_ok _ _
theorem same_ok (a b : List Rk) : PureFn Try.prog 14 [.sl (rks a), .sl (rks b)] (.bool (decide (a = b))) := by
  refine .of (ac14 tab7_ok (Nat.le_of_ble_eq_true rfl) ?_)
  simp -implicitDefEqProofs only [cd_t, cd_f, cd_dec, cd_not, cd_and, cd_or, grd_tt, grd_ff, grd_tf, grd_ft, grd_dt, grd_df, grd_nt, grd_nf, go_sem, Go.Proofs.Try.f14, reduceIte, reduceCtorEq, Nat.reduceEqDiff, Nat.reduceAdd, Nat.reduceLeDiff, Nat.reduceSub, Nat.reduceMul, Nat.reduceLT, Nat.reduceShiftRight, Nat.reduceMod]
def sp14 : List D → Option (Prop × D × Fr)
  | [.c (.sl els), .c (.sl els')] => some (els = rks (drks els) ∧ els' = rks (drks els'), .bool (decide (drks els = drks els')), [])
  | _ => none
attribute [go_sem] sp14
end Dm
