import Derived.Test.YtpaojpjhppgoeaaK4
set_option linter.unusedSimpArgs false
set_option linter.unusedVariables false
namespace Dm
open Go Go.Proofs Go.IntWalk
set_option maxRecDepth 4000 in
theorem refsame_ok (a b : List Rk) : PureFn Try.prog 19 [.sl (rks a), .sl (rks b)] (.bool (decide (a = b))) := by
  refine .of (ac19 .nil (Nat.le_of_ble_eq_true rfl) ?_)
  simp -implicitDefEqProofs only [cd_t, cd_f, cd_dec, cd_not, cd_and, cd_or, grd_tt, grd_ff, grd_tf, grd_ft, grd_dt, grd_df, grd_nt, grd_nf, go_sem, Go.Proofs.Try.f19, reduceIte, reduceCtorEq, Nat.reduceEqDiff, Nat.reduceAdd, Nat.reduceLeDiff, Nat.reduceSub, Nat.reduceMul, Nat.reduceLT, Nat.reduceShiftRight, Nat.reduceMod]
  refine fun ha hb => ⟨fun hl _ => ?_, fun h => ?_⟩
  · refine SWp.loop (ι := { i : Nat // i ≤ a.length ∧ a.take i = b.take i }) (fun i => ⟨[(0, .sl (rks a)), (1, .sl (rks b)), (12, .int .i64 a.length), (13, .int .i64 i.1)], [], 0⟩) (fun i => a.length - i.1) ⟨0, by simp⟩ ?_ ?_
    · simp [go_sem]
    · rintro ⟨i, hi, hab⟩
      refine awp_sound TabOk.nil.toS lv19 _ _ _ rfl ?_
      simp -implicitDefEqProofs only [cd_t, cd_f, cd_dec, cd_not, cd_and, cd_or, grd_tt, grd_ff, grd_tf, grd_ft, grd_dt, grd_df, grd_nt, grd_nf, go_sem, reduceIte, reduceCtorEq, Nat.reduceEqDiff, Nat.reduceAdd, Nat.reduceLeDiff, Nat.reduceSub, Nat.reduceMul, Nat.reduceLT, Nat.reduceShiftRight, Nat.reduceMod]
      refine ⟨fun h => ?_, fun h => ?_⟩
      · refine ADraw.quiet .nil follows_mixed (by kernel_rfl) (by kernel_rfl) ?_
        simp -implicitDefEqProofs only [cd_t, cd_f, cd_dec, cd_not, cd_and, cd_or, grd_tt, grd_ff, grd_tf, grd_ft, grd_dt, grd_df, grd_nt, grd_nf, go_sem, reduceIte, reduceCtorEq, Nat.reduceEqDiff, Nat.reduceAdd, Nat.reduceLeDiff, Nat.reduceSub, Nat.reduceMul, Nat.reduceLT, Nat.reduceShiftRight, Nat.reduceMod]
        have h1 : i < a.length := by omega
        have h2 : i < b.length := by omega
        have ht := take_succ_iff h1 h2 hab
        refine ⟨by omega, by omega, fun he => ⟨⟨i + 1, h1, ht.2 he⟩, by show _ < _; dsimp only; omega, ?_⟩, fun he => ?_⟩
        · rw [i64_in _ (by omega)]
          simp
        · simp only [eq_comm (a := false), decide_eq_false_iff_not]
          rintro rfl
          exact he rfl
      · have e : i = a.length := by omega
        have : a = b := by
          rw [e, List.take_length] at hab
          rw [hab, List.take_of_length_le (by omega)]
        simp [this]
  · have : a ≠ b := by rintro rfl; exact h rfl
    simp [this]
theorem refhas_ok (l : List Rk) (key : Int) : PureFn Try.prog 32 [.sl (rks l), .int .u64 key] (.bool (hasS l key)) := by
  refine .of (ac32 .nil (Nat.le_of_ble_eq_true rfl) ?_)
  simp -implicitDefEqProofs only [cd_t, cd_f, cd_dec, cd_not, cd_and, cd_or, grd_tt, grd_ff, grd_tf, grd_ft, grd_dt, grd_df, grd_nt, grd_nf, go_sem, Go.Proofs.Try.f32, reduceIte, reduceCtorEq, Nat.reduceEqDiff, Nat.reduceAdd, Nat.reduceLeDiff, Nat.reduceSub, Nat.reduceMul, Nat.reduceLT, Nat.reduceShiftRight, Nat.reduceMod]
  refine fun _ => SWp.loop (ι := { i : Nat // i ≤ l.length ∧ ∀ j, j < i → ¬ (l.getD j default).key = key }) (fun i => ⟨[(1, .int .u64 key), (7, .sl (rks l)), (8, .int .i64 l.length), (9, .int .i64 i.1)], [], 0⟩) (fun i => l.length - i.1) ⟨0, by simp⟩ ?_ ?_
  · simp [go_sem]
  · rintro ⟨i, hi, hall⟩
    refine awp_sound TabOk.nil.toS lv32 _ _ _ rfl ?_
    simp -implicitDefEqProofs only [cd_t, cd_f, cd_dec, cd_not, cd_and, cd_or, grd_tt, grd_ff, grd_tf, grd_ft, grd_dt, grd_df, grd_nt, grd_nf, go_sem, reduceIte, reduceCtorEq, Nat.reduceEqDiff, Nat.reduceAdd, Nat.reduceLeDiff, Nat.reduceSub, Nat.reduceMul, Nat.reduceLT, Nat.reduceShiftRight, Nat.reduceMod]
    refine ⟨fun h => ⟨by omega, fun h1 => ?_, fun h1 => ⟨⟨i + 1, by omega, fun j hj => ?_⟩, by dsimp only; omega, ?_⟩⟩, fun h => ?_⟩
    · rw [has_true (by omega) h1]
    · by_cases hji : j = i
      · subst hji; exact h1
      · exact hall j (by omega)
    · rw [i64_in _ (by omega)]; rfl
    · rw [has_false fun j hj => hall j (by omega)]
def frS (l : List Rk) (id : Int) : Rk × Bool := match l.find? (fun r => decide (r.id = id)) with
  | some e => (e, true)
  | none => (⟨0, 0, false⟩, false)
theorem frS_at {l : List Rk} {id : Int} {i : Nat} (hi : i < l.length) (h : (l.getD i default).id = id) (hall : ∀ j, j < i → ¬ (l.getD j default).id = id) : frS l id = (l.getD i default, true) := by
  have : l.find? (fun r => decide (r.id = id)) = some (l.getD i default) := by
    rw [List.find?_eq_some_iff_getElem]
    refine ⟨by simpa using h, i, hi, (getD_lt hi).symm, fun j hj => ?_⟩
    have := hall j hj
    rw [getD_lt (by omega)] at this
    simpa using this
  rw [frS, this]
theorem frS_none {l : List Rk} {id : Int} (hall : ∀ j, j < l.length → ¬ (l.getD j default).id = id) : frS l id = (⟨0, 0, false⟩, false) := by
  have : l.find? (fun r => decide (r.id = id)) = none := by
    rw [List.find?_eq_none]
    intro x hx
    obtain ⟨i, hi, rfl⟩ := mem_getD.1 hx
    simpa using hall i hi
  rw [frS, this]
theorem reffind_ok (l : List Rk) (id : Int) : PureFn Try.prog 31 [.sl (rks l), .int .u64 id] (.tup [.agg [.int .u64 (frS l id).1.id, .int .u64 (frS l id).1.key, .bool (frS l id).1.gone], .bool (frS l id).2]) := by
  refine .of (ac31 .nil (Nat.le_of_ble_eq_true rfl) ?_)
  simp -implicitDefEqProofs only [cd_t, cd_f, cd_dec, cd_not, cd_and, cd_or, grd_tt, grd_ff, grd_tf, grd_ft, grd_dt, grd_df, grd_nt, grd_nf, go_sem, Go.Proofs.Try.f31, reduceIte, reduceCtorEq, Nat.reduceEqDiff, Nat.reduceAdd, Nat.reduceLeDiff, Nat.reduceSub, Nat.reduceMul, Nat.reduceLT, Nat.reduceShiftRight, Nat.reduceMod]
  refine fun _ => SWp.loop (ι := { i : Nat // i ≤ l.length ∧ ∀ j, j < i → ¬ (l.getD j default).id = id }) (fun i => ⟨[(1, .int .u64 id), (4, .ref 0 0), (8, .sl (rks l)), (9, .int .i64 l.length), (10, .int .i64 i.1)], [(0, .box [.int .u64 0, .int .u64 0, .bool false])], 1⟩) (fun i => l.length - i.1) ⟨0, by simp⟩ ?_ ?_
  · simp [go_sem]
  · rintro ⟨i, hi, hall⟩
    refine awp_sound TabOk.nil.toS lv31 _ _ _ rfl ?_
    simp -implicitDefEqProofs only [cd_t, cd_f, cd_dec, cd_not, cd_and, cd_or, grd_tt, grd_ff, grd_tf, grd_ft, grd_dt, grd_df, grd_nt, grd_nf, go_sem, reduceIte, reduceCtorEq, Nat.reduceEqDiff, Nat.reduceAdd, Nat.reduceLeDiff, Nat.reduceSub, Nat.reduceMul, Nat.reduceLT, Nat.reduceShiftRight, Nat.reduceMod]
    refine ⟨fun h => ⟨by omega, fun h1 => ?_, fun h1 => ⟨⟨i + 1, by omega, fun j hj => ?_⟩, by dsimp only; omega, ?_⟩⟩, fun h => ?_⟩
    · rw [frS_at (by omega) h1 hall]
      exact ⟨⟨rfl, rfl, rfl⟩, rfl⟩
    · by_cases hji : j = i
      · subst hji; exact h1
      · exact hall j (by omega)
    · rw [i64_in _ (by omega)]
      simp [go_sem]
    · rw [frS_none fun j hj => hall j (by omega)]
      exact ⟨⟨rfl, rfl, rfl⟩, rfl⟩
theorem filt_succ {p : Rk → Bool} {B : List Rk} {i : Nat} (hi : i < B.length) : (B.take (i + 1)).filter p = (B.take i).filter p ++ (if p (B.getD i default) = true then [B.getD i default] else []) := by
  have e1 : B.take (i + 1) = B.take i ++ [B[i]] := by simp
  rw [e1, List.filter_append]
  simp only [List.getD, List.getElem?_eq_getElem hi, Option.getD_some]
  congr 1
  by_cases h : p B[i] = true <;> simp [h]
def withS (l : List Rk) (r : Rk) : List Rk := l.filter (fun x => decide (x.id < r.id)) ++ r :: l.filter fun x => decide (r.id < x.id)
set_option maxRecDepth 4000 in
theorem refwith_ok (l : List Rk) (r : Rk) (hl : l.length ≤ 1000000) : PureFn Try.prog 33 [.sl (rks l), .agg [.int .u64 r.id, .int .u64 r.key, .bool r.gone]] (.sl (rks (withS l r))) := by
  refine .of (ac33 .nil (Nat.le_of_ble_eq_true rfl) ?_)
  simp -implicitDefEqProofs only [cd_t, cd_f, cd_dec, cd_not, cd_and, cd_or, grd_tt, grd_ff, grd_tf, grd_ft, grd_dt, grd_df, grd_nt, grd_nf, go_sem, Go.Proofs.Try.f33, reduceIte, reduceCtorEq, Nat.reduceEqDiff, Nat.reduceAdd, Nat.reduceLeDiff, Nat.reduceSub, Nat.reduceMul, Nat.reduceLT, Nat.reduceShiftRight, Nat.reduceMod]
  refine fun _ => SWp.nilvec 5 3 39 rfl (Nat.zero_le _) ?_
  refine SWp.loop (ι := { i : Nat // i ≤ l.length }) (fun i => ⟨[(0, .sl (rks l)), (3, .ref 0 0), (5, .vec 1 ((l.take i.1).filter fun x => decide (x.id < r.id)).length), (10, .sl (rks l)), (11, .int .i64 l.length), (12, .int .i64 i.1)],
    [(1, .vec true 3 39 (rks ((l.take i.1).filter fun x => decide (x.id < r.id)))), (0, .box [.int .u64 r.id, .int .u64 r.key, .bool r.gone])], 2⟩) (fun i => l.length - i.1) ⟨0, by omega⟩ ?_ ?_
  · simp [go_sem, rks]
  · rintro ⟨i, hi⟩
    refine awp_sound TabOk.nil.toS lv33 _ _ _ rfl ?_
    simp -implicitDefEqProofs only [cd_t, cd_f, cd_dec, cd_not, cd_and, cd_or, grd_tt, grd_ff, grd_tf, grd_ft, grd_dt, grd_df, grd_nt, grd_nf, go_sem, reduceIte, reduceCtorEq, Nat.reduceEqDiff, Nat.reduceAdd, Nat.reduceLeDiff, Nat.reduceSub, Nat.reduceMul, Nat.reduceLT, Nat.reduceShiftRight, Nat.reduceMod]
    have hfl := List.length_filter_le (fun x : Rk => decide (x.id < r.id)) (l.take i)
    rw [List.length_take] at hfl
    refine ⟨fun h => ?_, fun h => ⟨by omega, fun _ => ?_⟩⟩
    · have hi' : i < l.length := by omega
      have hs := filt_succ (p := fun x => decide (x.id < r.id)) hi'
      have ei := i64_in ((i : Int) + 1) (by omega)
      refine ⟨by omega, fun h1 => ⟨by omega, ⟨i + 1, hi'⟩, by dsimp only; omega, ?_⟩, fun h1 => ⟨⟨i + 1, hi'⟩, by dsimp only; omega, ?_⟩⟩
      · rw [if_pos (by simpa using h1)] at hs
        simp [go_sem, hs, ei]
      · rw [if_neg (by simpa using h1), List.append_nil] at hs
        simp [go_sem, hs, ei]
    · have hi' : i = l.length := by omega
      subst hi'
      rw [List.take_length] at hfl ⊢
      refine SWp.loop (ι := { i : Nat // i ≤ l.length }) (fun i => ⟨[(3, .ref 0 0), (5, .vec 1 (l.filter (fun x => decide (x.id < r.id)) ++ r :: (l.take i.1).filter fun x => decide (r.id < x.id)).length), (30, .sl (rks l)), (31, .int .i64 l.length), (32, .int .i64 i.1)],
        [(1, .vec true 3 39 (rks (l.filter (fun x => decide (x.id < r.id)) ++ r :: (l.take i.1).filter fun x => decide (r.id < x.id)))), (0, .box [.int .u64 r.id, .int .u64 r.key, .bool r.gone])], 3⟩) (fun i => l.length - i.1) ⟨0, by omega⟩ ?_ ?_
      · simp [go_sem]
      · rintro ⟨j, hj⟩
        refine awp_sound TabOk.nil.toS lv33 _ _ _ rfl ?_
        simp -implicitDefEqProofs only [cd_t, cd_f, cd_dec, cd_not, cd_and, cd_or, grd_tt, grd_ff, grd_tf, grd_ft, grd_dt, grd_df, grd_nt, grd_nf, go_sem, reduceIte, reduceCtorEq, Nat.reduceEqDiff, Nat.reduceAdd, Nat.reduceLeDiff, Nat.reduceSub, Nat.reduceMul, Nat.reduceLT, Nat.reduceShiftRight, Nat.reduceMod]
        have hfl2 := List.length_filter_le (fun x : Rk => decide (r.id < x.id)) (l.take j)
        rw [List.length_take] at hfl2
        refine ⟨fun h2 => ?_, fun h2 => ?_⟩
        · have hj' : j < l.length := by omega
          have hs := filt_succ (p := fun x => decide (r.id < x.id)) hj'
          have ej := i64_in ((j : Int) + 1) (by omega)
          refine ⟨by omega, fun h3 => ⟨by omega, ⟨j + 1, hj'⟩, by dsimp only; omega, ?_⟩, fun h3 => ⟨⟨j + 1, hj'⟩, by dsimp only; omega, ?_⟩⟩
          · rw [if_pos (by simpa using h3)] at hs
            simp [go_sem, hs, ej]
            omega
          · rw [if_neg (by simpa using h3), List.append_nil] at hs
            simp [go_sem, hs, ej]
        · have hj' : j = l.length := by omega
          subst hj'
          rw [List.take_length]
          exact ⟨by simp [withS], _, _, _, rfl⟩
def spR32 : List D → Option (Prop × D × Fr)
  | [.c (.sl els), .c (.int .u64 key)] => some (els = rks (drks els), .bool (hasS (drks els) key), [])
  | _ => none
def spR31 : List D → Option (Prop × D × Fr)
  | [.c (.sl els), .c (.int .u64 id)] => some (els = rks (drks els), .tup [.agg [.int .u64 (frS (drks els) id).1.id, .int .u64 (frS (drks els) id).1.key, .bool (frS (drks els) id).1.gone], .bool (frS (drks els) id).2], [])
  | _ => none
def spR33 : List D → Option (Prop × D × Fr)
  | [.c (.sl els), .agg [.c (.int .u64 a), .c (.int .u64 b), .c (.bool c)]] => some (els = rks (drks els) ∧ els.length ≤ 1000000, .sl (rks (withS (drks els) ⟨a, b, c⟩)), [])
  | _ => none
attribute [go_sem] spR32 spR31 spR33
def tabR1 : Tab := [(32, spR32), (31, spR31), (33, spR33)]
attribute [go_sem] tabR1
theorem tabR1_ok : TabOk Try.prog tabR1 := by
  refine .cons (fun rs p r fr h hp => ?_) (.cons (fun rs p r fr h hp => ?_) (.cons (fun rs p r fr h hp => ?_) .nil))
  · unfold spR32 at h
    split at h <;> cases h
    rw [hp, drks_rks]
    exact refhas_ok _ _
  · unfold spR31 at h
    split at h <;> cases h
    rw [hp, drks_rks]
    exact reffind_ok _ _
  · unfold spR33 at h
    split at h <;> cases h
    rw [hp.1, drks_rks]
    exact refwith_ok _ ⟨_, _, _⟩ (by have := hp.2; rw [hp.1] at this; simpa using this)
set_option maxRecDepth 4000 in
theorem refcheck_ok (l : List Rk) : PureFn Try.prog 20 [.sl (rks l)] (.int .i64 (checkR l)) := by
  refine .of (ac20 tabR1_ok (Nat.le_of_ble_eq_true rfl) ?_)
  simp -implicitDefEqProofs only [cd_t, cd_f, cd_dec, cd_not, cd_and, cd_or, grd_tt, grd_ff, grd_tf, grd_ft, grd_dt, grd_df, grd_nt, grd_nf, go_sem, Go.Proofs.Try.f20, reduceIte, reduceCtorEq, Nat.reduceEqDiff, Nat.reduceAdd, Nat.reduceLeDiff, Nat.reduceSub, Nat.reduceMul, Nat.reduceLT, Nat.reduceShiftRight, Nat.reduceMod]
  refine fun h1 => ⟨fun h2 => ?_, fun h2 _ => ?_⟩
  · rw [checkR, if_neg]
    rintro ⟨h, _⟩
    omega
  · refine SWp.loop (ι := { i : Nat // i ≤ l.length ∧ ∀ j, j < i → (0 < j → (l.getD (j - 1) default).id < (l.getD j default).id) ∧ hasS (l.take j) (l.getD j default).key = false }) (fun i => ⟨[(0, .sl (rks l)), (8, .sl (rks l)), (9, .int .i64 l.length), (10, .int .i64 i.1)], [], 0⟩) (fun i => l.length - i.1) ⟨0, by simp⟩ ?_ ?_
    · simp [go_sem]
    · rintro ⟨i, hi, hall⟩
      refine awp_sound tabR1_ok.toS lv20 _ _ _ rfl ?_
      simp -implicitDefEqProofs only [cd_t, cd_f, cd_dec, cd_not, cd_and, cd_or, grd_tt, grd_ff, grd_tf, grd_ft, grd_dt, grd_df, grd_nt, grd_nf, go_sem, reduceIte, reduceCtorEq, Nat.reduceEqDiff, Nat.reduceAdd, Nat.reduceLeDiff, Nat.reduceSub, Nat.reduceMul, Nat.reduceLT, Nat.reduceShiftRight, Nat.reduceMod]
      refine ⟨fun h => ⟨by omega, ?_⟩, fun h => ?_⟩
      · have hi' : i < l.length := by omega
        refine ADraw.run us20_6 tabR1_ok follows_mixed (by kernel_rfl) (by kernel_rfl) ?_
        simp -implicitDefEqProofs only [cd_t, cd_f, cd_dec, cd_not, cd_and, cd_or, grd_tt, grd_ff, grd_tf, grd_ft, grd_dt, grd_df, grd_nt, grd_nf, go_sem, reduceIte, reduceCtorEq, Nat.reduceEqDiff, Nat.reduceAdd, Nat.reduceLeDiff, Nat.reduceSub, Nat.reduceMul, Nat.reduceLT, Nat.reduceShiftRight, Nat.reduceMod]
        have hbad : ¬ ((0 < i → (l.getD (i - 1) default).id < (l.getD i default).id) ∧ hasS (l.take i) (l.getD i default).key = false) → 1 = checkR l := fun hb => by
          rw [checkR, if_neg]
          rintro ⟨_, h⟩
          exact hb (h i hi')
        have hnext : (0 < i → (l.getD (i - 1) default).id < (l.getD i default).id) → hasS (l.take i) (l.getD i default).key = false → ∃ i_1 : { i : Nat // i ≤ l.length ∧ ∀ j, j < i → (0 < j → (l.getD (j - 1) default).id < (l.getD j default).id) ∧ hasS (l.take j) (l.getD j default).key = false }, l.length - i_1.val < l.length - i ∧ IntKind.i64.wrap (↑i + 1) = ↑i_1.val := fun ha hb =>
          ⟨⟨i + 1, hi', fun j hj => by
            by_cases hji : j = i
            · subst hji; exact ⟨ha, hb⟩
            · exact hall j (by omega)⟩, by dsimp only; omega, i64_in _ (by omega)⟩
        refine ⟨fun h3 => ?_, fun h3 => ⟨by omega, fun h4 => hbad fun h => ?_, fun h4 => hnext (fun h => absurd h (by omega)) h4⟩⟩
        · rw [i64_in _ (by omega), show ((i : Int) - 1).toNat = i - 1 by omega]
          refine ⟨by omega, fun h4 => ⟨by omega, fun h5 => hbad fun h => ?_, fun h5 => hnext (fun _ => by omega) h5⟩, fun h4 => hbad fun h => ?_⟩
          · rw [h5] at h; exact absurd h.2 (by decide)
          · have := h.1 (by omega); omega
        · rw [h4] at h; exact absurd h.2 (by decide)
      · rw [checkR, if_pos ⟨by omega, fun j hj => hall j (by omega)⟩]
def spR20 : List D → Option (Prop × D × Fr)
  | [.c (.sl els)] => some (els = rks (drks els), .int .i64 (checkR (drks els)), [])
  | _ => none
attribute [go_sem] spR20
def tabR2 : Tab := (20, spR20) :: tabR1
attribute [go_sem] tabR2
theorem tabR2_ok : TabOk Try.prog tabR2 := by
  refine .cons (fun rs p r fr h hp => ?_) tabR1_ok
  unfold spR20 at h
  split at h <;> cases h
  rw [hp, drks_rks]
  exact refcheck_ok _
theorem frS_eq {l : List Rk} {id : Int} (ho : OkR l) : (thereS l id = true → frS l id = (l.getD (posS l id) default, true)) ∧ (¬ thereS l id = true → frS l id = (⟨0, 0, false⟩, false)) := by
  refine ⟨fun h => ?_, fun h => ?_⟩
  · simp only [thereS, decide_eq_true_eq] at h
    exact frS_at h.1 h.2 fun j hj => by have := pos_lo hj; omega
  · exact frS_none fun j hj he => h ((there_mem ho).2 ⟨_, mem_getD.2 ⟨j, hj, rfl⟩, he⟩)
theorem goodS_ok {l : List Rk} {id : Int} (h : checkR l = 0) : goodS l id = if thereS l id = true then (if (l.getD (posS l id) default).gone = true then ((0 : Int), (13 : Int)) else ((posS l id : Int), 0)) else (0, 5) := by
  unfold goodS; rw [if_pos h]
theorem refkey_ok (l : List Rk) (id : Int) : PureFn Try.prog 18 [.sl (rks l), .int .u64 id] (.tup [.int .u64 (keyS l id).1, .int .i64 (keyS l id).2]) := by
  refine .of (ac18 tabR2_ok (Nat.le_of_ble_eq_true rfl) ?_)
  simp -implicitDefEqProofs only [cd_t, cd_f, cd_dec, cd_not, cd_and, cd_or, grd_tt, grd_ff, grd_tf, grd_ft, grd_dt, grd_df, grd_nt, grd_nf, go_sem, Go.Proofs.Try.f18, reduceIte, reduceCtorEq, Nat.reduceEqDiff, Nat.reduceAdd, Nat.reduceLeDiff, Nat.reduceSub, Nat.reduceMul, Nat.reduceLT, Nat.reduceShiftRight, Nat.reduceMod]
  refine ⟨fun hc => ?_, fun hc => ?_⟩
  · obtain ⟨ht, hn⟩ := frS_eq (id := id) (checkR_0 hc).2
    rw [keyS, goodS_ok hc]
    by_cases h : thereS l id = true
    · rw [ht h, if_pos h]
      refine ⟨fun _ => ⟨fun hg => ?_, fun hg => ?_⟩, fun h => by cases h⟩
      · dsimp only at hg
        rw [if_pos hg]; exact ⟨rfl, rfl⟩
      · dsimp only at hg
        rw [hg]; exact ⟨rfl, rfl⟩
    · rw [hn h, if_neg h]
      exact ⟨fun h => (by cases h), fun _ => ⟨rfl, rfl⟩⟩
  · have hg : goodS l id = (0, checkR l) := by rw [goodS, if_neg hc]
    have h1 : checkR l = 1 := by unfold checkR at hc ⊢; split at hc <;> simp_all
    rw [keyS, hg, if_neg hc, h1]
    exact ⟨rfl, rfl⟩
def spR18 : List D → Option (Prop × D × Fr)
  | [.c (.sl els), .c (.int .u64 id)] => some (els = rks (drks els), .tup [.int .u64 (keyS (drks els) id).1, .int .i64 (keyS (drks els) id).2], [])
  | _ => none
attribute [go_sem] spR18
def tabR3 : Tab := (18, spR18) :: tabR2
attribute [go_sem] tabR3
theorem tabR3_ok : TabOk Try.prog tabR3 := by
  refine .cons (fun rs p r fr h hp => ?_) tabR2_ok
  unfold spR18 at h
  split at h <;> cases h
  rw [hp, drks_rks]
  exact refkey_ok _ _
theorem with_split {l : List Rk} {x : Int} {k : Nat} (ho : OkR l) (hk : k = if thereS l x = true then posS l x + 1 else posS l x) :
    l.filter (fun e => decide (e.id < x)) = l.take (posS l x) ∧ l.filter (fun e => decide (x < e.id)) = l.drop k := by
  have hp := pos_le (l := l) (id := x)
  have hkl : k ≤ l.length := by
    subst hk; split
    · rename_i h; simp only [thereS, decide_eq_true_eq] at h; omega
    · omega
  have hpk : posS l x ≤ k := by subst hk; split <;> omega
  have lo : ∀ e ∈ l.take (posS l x), e.id < x := fun e he => by
    obtain ⟨i, hi, rfl⟩ := List.getElem_of_mem he
    rw [List.length_take] at hi
    have := pos_lo (l := l) (id := x) (k := i) (by omega)
    rw [getD_lt (by omega)] at this
    simpa using this
  have hi : ∀ e ∈ l.drop (posS l x), x ≤ e.id := fun e he => by
    obtain ⟨i, hi, rfl⟩ := List.getElem_of_mem he
    rw [List.length_drop] at hi
    have h3 := pos_hi ho (id := x) (k := posS l x + i) (by omega) (by omega)
    rw [getD_lt (by omega)] at h3
    simpa using h3
  have hi2 : ∀ e ∈ l.drop k, x < e.id := fun e he => by
    obtain ⟨i, hi, rfl⟩ := List.getElem_of_mem he
    rw [List.length_drop] at hi
    have h3 := pos_hi ho (id := x) (k := k + i) (by omega) (by omega)
    rw [getD_lt (by omega)] at h3
    simp only [List.getElem_drop]
    rcases Int.lt_or_le x (l[k + i].id) with h | h
    · exact h
    · exfalso
      have e1 : l[k + i].id = x := by omega
      have h5 : thereS l x = true := (there_mem ho).2 ⟨_, List.getElem_mem (by omega), e1⟩
      rw [if_pos h5] at hk
      have h6 := ho.mono (a := posS l x) (b := k + i) (by omega) (by omega)
      simp only [thereS, decide_eq_true_eq] at h5
      rw [h5.2, getD_lt (by omega)] at h6
      omega
  have mid : ∀ e ∈ l.take k, ¬ x < e.id := fun e he => by
    obtain ⟨i, hi, rfl⟩ := List.getElem_of_mem he
    rw [List.length_take] at hi
    simp only [List.getElem_take]
    rcases Nat.lt_or_ge i (posS l x) with h | h
    · have := pos_lo (l := l) (id := x) (k := i) h
      rw [getD_lt (by omega)] at this
      omega
    · have h5 : thereS l x = true := by
        by_cases h5 : thereS l x = true
        · exact h5
        · rw [if_neg h5] at hk; omega
      rw [if_pos h5] at hk
      have e : i = posS l x := by omega
      subst e
      simp only [thereS, decide_eq_true_eq] at h5
      have h6 := h5.2
      rw [getD_lt h5.1] at h6
      omega
  constructor
  · conv => lhs; rw [← List.take_append_drop (posS l x) l]
    rw [List.filter_append, List.filter_eq_self.2 (by simpa using lo), List.filter_eq_nil_iff.2 (by intro e he; have := hi e he; simpa using this), List.append_nil]
  · conv => lhs; rw [← List.take_append_drop k l]
    have e1 : (l.drop k).filter (fun e => decide (x < e.id)) = l.drop k := List.filter_eq_self.2 (by simpa using hi2)
    have e2 : (l.take k).filter (fun e => decide (x < e.id)) = [] := List.filter_eq_nil_iff.2 (by intro e he; have := mid e he; simpa using this)
    rw [List.filter_append, e1, e2, List.nil_append]
theorem with_ins {l : List Rk} {r : Rk} (ho : OkR l) (ht : ¬ thereS l r.id = true) : withS l r = insS l (posS l r.id) r := by
  obtain ⟨h1, h2⟩ := with_split (x := r.id) ho rfl
  rw [if_neg ht] at h2
  rw [withS, h1, h2, insS]
theorem with_set {l : List Rk} {r : Rk} (ho : OkR l) (ht : thereS l r.id = true) : withS l r = l.set (posS l r.id) r := by
  obtain ⟨h1, h2⟩ := with_split (x := r.id) ho rfl
  rw [if_pos ht] at h2
  simp only [thereS, decide_eq_true_eq] at ht
  rw [withS, h1, h2, List.set_eq_take_append_cons_drop, if_pos ht.1]
set_option maxRecDepth 4000 in
theorem refadd_ok (l : List Rk) (id key : Int) : PureFn Try.prog 15 [.sl (rks l), .int .u64 id, .int .u64 key] (.tup [.sl (rks (addS l id key).1), .int .i64 (addS l id key).2]) := by
  refine .of (ac15 tabR3_ok (Nat.le_of_ble_eq_true rfl) ?_)
  simp -implicitDefEqProofs only [cd_t, cd_f, cd_dec, cd_not, cd_and, cd_or, grd_tt, grd_ff, grd_tf, grd_ft, grd_dt, grd_df, grd_nt, grd_nf, go_sem, Go.Proofs.Try.f15, reduceIte, reduceCtorEq, Nat.reduceEqDiff, Nat.reduceAdd, Nat.reduceLeDiff, Nat.reduceSub, Nat.reduceMul, Nat.reduceLT, Nat.reduceShiftRight, Nat.reduceMod]
  refine ⟨fun hc => ?_, fun hc => ?_⟩
  · obtain ⟨hl, ho⟩ := checkR_0 hc
    obtain ⟨ht, hn⟩ := frS_eq (id := id) ho
    rw [addS, if_pos hc]
    refine ⟨fun h => ?_, fun h => ?_⟩
    · have h1 : ¬ thereS l id = true := fun h1 => by rw [ht h1] at h; cases h
      refine ⟨fun h2 => ?_, fun h2 _ => ⟨fun h3 => ?_, fun h3 => ⟨by omega, ?_⟩⟩⟩
      · rw [if_pos (.inr h2)]; exact ⟨rfl, rfl⟩
      · rw [if_neg (by rw [h2]; simpa using h1), if_pos (by omega)]; exact ⟨rfl, rfl⟩
      · rw [if_neg (by rw [h2]; simpa using h1), if_neg (by omega), with_ins ho h1]; exact ⟨rfl, rfl⟩
    · have h1 : thereS l id = true := by
        by_cases h1 : thereS l id = true
        · exact h1
        · rw [hn h1] at h; cases h
      rw [if_pos (.inl h1)]; exact ⟨rfl, rfl⟩
  · have h1 : checkR l = 1 := by unfold checkR at hc ⊢; split at hc <;> simp_all
    rw [addS, if_neg hc, h1]; exact ⟨rfl, rfl⟩
theorem keyS_2 (l : List Rk) (id : Int) : (keyS l id).2 = (goodS l id).2 := by unfold keyS; split <;> simp_all
theorem refturn_ok (l : List Rk) (id key : Int) : PureFn Try.prog 16 [.sl (rks l), .int .u64 id, .int .u64 key] (.tup [.sl (rks (turnS l id key).1), .int .i64 (turnS l id key).2]) := by
  refine .of (ac16 tabR3_ok (Nat.le_of_ble_eq_true rfl) ?_)
  simp -implicitDefEqProofs only [cd_t, cd_f, cd_dec, cd_not, cd_and, cd_or, grd_tt, grd_ff, grd_tf, grd_ft, grd_dt, grd_df, grd_nt, grd_nf, go_sem, Go.Proofs.Try.f16, reduceIte, reduceCtorEq, Nat.reduceEqDiff, Nat.reduceAdd, Nat.reduceLeDiff, Nat.reduceSub, Nat.reduceMul, Nat.reduceLT, Nat.reduceShiftRight, Nat.reduceMod]
  rw [keyS_2]
  refine ⟨fun h => ?_, fun h => ?_⟩
  · obtain ⟨h2, h3, h4, h5⟩ := goodS_0 h
    obtain ⟨h6, h7⟩ := good_len h
    have ht : thereS l id = true := by simp only [thereS, decide_eq_true_eq]; exact ⟨h3, h4⟩
    rw [turnS, if_pos h]
    refine ⟨fun h8 => ?_, fun h8 => ⟨by omega, ?_⟩⟩
    · rw [if_pos h8]; exact ⟨rfl, rfl⟩
    · rw [if_neg (by rw [h8]; decide), with_set h7 ht, h4, h5]; exact ⟨rfl, rfl⟩
  · rw [turnS, if_neg h]; exact ⟨rfl, rfl⟩
theorem refrev_ok (l : List Rk) (id : Int) : PureFn Try.prog 17 [.sl (rks l), .int .u64 id] (.tup [.sl (rks (revS l id).1), .int .i64 (revS l id).2]) := by
  refine .of (ac17 tabR3_ok (Nat.le_of_ble_eq_true rfl) ?_)
  simp -implicitDefEqProofs only [cd_t, cd_f, cd_dec, cd_not, cd_and, cd_or, grd_tt, grd_ff, grd_tf, grd_ft, grd_dt, grd_df, grd_nt, grd_nf, go_sem, Go.Proofs.Try.f17, reduceIte, reduceCtorEq, Nat.reduceEqDiff, Nat.reduceAdd, Nat.reduceLeDiff, Nat.reduceSub, Nat.reduceMul, Nat.reduceLT, Nat.reduceShiftRight, Nat.reduceMod]
  rw [keyS_2]
  refine ⟨fun h => ?_, fun h => ?_⟩
  · obtain ⟨h2, h3, h4, h5⟩ := goodS_0 h
    obtain ⟨h6, h7⟩ := good_len h
    have ht : thereS l id = true := by simp only [thereS, decide_eq_true_eq]; exact ⟨h3, h4⟩
    rw [revS, if_pos h, keyS, if_pos h, with_set h7 ht, h4]; exact ⟨by omega, rfl, rfl⟩
  · rw [revS, if_neg h]; exact ⟨rfl, rfl⟩
end Dm
