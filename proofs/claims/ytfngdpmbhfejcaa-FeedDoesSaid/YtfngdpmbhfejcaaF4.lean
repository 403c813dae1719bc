import Derived.Test.YtfngdpmbhfejcaaCheck
set_option linter.unusedSimpArgs false
set_option linter.unusedVariables false
namespace Dm
open Go Go.Proofs Go.IntWalk
def sp27 : List D → Option (Prop × D × Fr)
  | [.c (.sl els)] => some (els = evs (devs els) ∧ els.length ≤ 1000000, .vec 0 els.length, [(4, 33, true, els)])
  | _ => none
def sp10 : List D → Option (Prop × D × Fr)
  | [.agg [.c (.int .u64 n), .c (.sl els)]] => some (els = evs (devs els) ∧ 0 ≤ n ∧ n ≤ 18446744073709551615, .int .i64 (checkS n (devs els)), [])
  | _ => none
attribute [go_sem] sp27 sp10
def tab1 : Tab := [(26, sp26), (27, sp27), (10, sp10)]
attribute [go_sem] tab1
theorem tab1_ok : TabOk Try.prog tab1 := by
  refine .cons (fun rs p r fr h hp => ?_) (.cons (fun rs p r fr h hp => ?_) (.cons (fun rs p r fr h hp => ?_) .nil))
  · unfold sp26 at h
    split at h <;> cases h
    exact kind_ok _
  · unfold sp27 at h
    split at h <;> cases h
    obtain ⟨h1, h2⟩ := hp
    rw [h1]
    have := clone_ok (devs _) (by rw [h1] at h2; simpa using h2)
    simpa using ⟨rfl, this⟩
  · unfold sp10 at h
    split at h <;> cases h
    rw [hp.1, devs_evs]
    exact check_ok _ _ hp.2

/-- The oldest event's number. -/
def oldestS (n : Int) (l : List Ev) : Int × Int := if checkS n l = 0 then (n - l.length, 0) else (0, 1)
theorem checkS_01 (n : Int) (l : List Ev) : checkS n l = 0 ∨ checkS n l = 1 := by unfold checkS; split <;> simp
theorem checkS_0 {n : Int} {l : List Ev} (h : checkS n l = 0) : 1 ≤ n ∧ n ≤ 4611686018427387904 ∧ (l.length : Int) = min (n - 1) 64 ∧ okE n l = true := by
  unfold checkS at h
  split at h
  · assumption
  · cases h
set_option maxRecDepth 4000 in
theorem oldest_ok (n : Int) (l : List Ev) (h : 0 ≤ n ∧ n ≤ 18446744073709551615) : PureFn Try.prog 12 [.agg [.int .u64 n, .sl (evs l)]] (.tup [.int .u64 (oldestS n l).1, .int .i64 (oldestS n l).2]) := by
  refine .of (ac12 tab1_ok (Nat.le_of_ble_eq_true rfl) ?_)
  simp -implicitDefEqProofs only [cd_t, cd_f, cd_dec, cd_not, cd_and, cd_or, grd_tt, grd_ff, grd_tf, grd_ft, grd_dt, grd_df, grd_nt, grd_nf, go_sem, Go.Proofs.Try.f12, reduceIte, reduceCtorEq, Nat.reduceEqDiff, Nat.reduceAdd, Nat.reduceLeDiff, Nat.reduceSub, Nat.reduceMul, Nat.reduceLT, Nat.reduceShiftRight, Nat.reduceMod]
  refine ⟨h, fun h1 _ => ?_, fun h1 => ?_⟩
  · obtain ⟨h2, h3, h4, _⟩ := checkS_0 h1
    rw [u64_in l.length (by omega), u64_in _ (by omega)]
    simp [oldestS, h1]
  · have := checkS_01 n l
    simp [oldestS, h1]
    omega
/-- An event put behind a feed. -/
def addS (n : Int) (l : List Ev) (k a b : Int) : Int × List Ev × Int × Int :=
  if checkS n l = 0 ∧ kindS k = true then
    if n = 4611686018427387904 then (0, [], 0, 7)
    else (n + 1, (l ++ [(⟨n, k, a, b⟩ : Ev)]).drop (l.length + 1 - 64), n, 0)
  else (0, [], 0, 1)
set_option maxRecDepth 4000 in
theorem add_ok (n : Int) (l : List Ev) (k a b : Int) (h : 0 ≤ n ∧ n ≤ 18446744073709551615) (hl : l.length ≤ 1000000) : PureFn Try.prog 11 [.agg [.int .u64 n, .sl (evs l)], .int .i64 k, .int .u64 a, .int .u64 b]
    (.tup [.agg [.int .u64 (addS n l k a b).1, .sl (evs (addS n l k a b).2.1)], .int .u64 (addS n l k a b).2.2.1, .int .i64 (addS n l k a b).2.2.2]) := by
  refine .of (ac11 tab1_ok (Nat.le_of_ble_eq_true rfl) ?_)
  simp -implicitDefEqProofs only [cd_t, cd_f, cd_dec, cd_not, cd_and, cd_or, grd_tt, grd_ff, grd_tf, grd_ft, grd_dt, grd_df, grd_nt, grd_nf, go_sem, Go.Proofs.Try.f11, reduceIte, reduceCtorEq, Nat.reduceEqDiff, Nat.reduceAdd, Nat.reduceLeDiff, Nat.reduceSub, Nat.reduceMul, Nat.reduceLT, Nat.reduceShiftRight, Nat.reduceMod]

  refine ⟨h, fun h1 => ⟨fun h2 => ⟨fun h3 => ?_, fun h3 => ⟨hl, by omega, fun _ => ?_⟩⟩, fun h2 => ?_⟩, fun h1 => ?_⟩
  · subst h3
    simp [addS, h1, h2, evs]
  · obtain ⟨h4, h5, h6, _⟩ := checkS_0 h1
    have hcut : (max ((l.length : Int) + 1 - 64) 0).toNat = l.length + 1 - 64 := by omega
    rw [i64_in _ (by omega), u64_in _ (by omega), hcut]
    refine ⟨by omega, ?_⟩
    simp only [addS, h1, h2, h3, and_self, if_true, if_false, true_and, and_true]
    exact ⟨_, _, _, rfl⟩
  · simp [addS, h1, h2, evs]
  · simp [addS, h1, evs]
set_option maxRecDepth 4000 in
theorem addF_ok (n : Int) (l : List Ev) (k a b : Int) (h : 0 ≤ n ∧ n ≤ 18446744073709551615) (hl : l.length ≤ 1000000) : FreshFn Try.prog 11 [.agg [.int .u64 n, .sl (evs l)], .int .i64 k, .int .u64 a, .int .u64 b]
    (.tup [.agg [.int .u64 (addS n l k a b).1, .vec 0 (addS n l k a b).2.1.length], .int .u64 (addS n l k a b).2.2.1, .int .i64 (addS n l k a b).2.2.2]) [(4, 33, false, evs (addS n l k a b).2.1)] := by
  refine .of (ac11 tab1_ok (Nat.le_of_ble_eq_true rfl) ?_)
  simp -implicitDefEqProofs only [cd_t, cd_f, cd_dec, cd_not, cd_and, cd_or, grd_tt, grd_ff, grd_tf, grd_ft, grd_dt, grd_df, grd_nt, grd_nf, go_sem, Go.Proofs.Try.f11, reduceIte, reduceCtorEq, Nat.reduceEqDiff, Nat.reduceAdd, Nat.reduceLeDiff, Nat.reduceSub, Nat.reduceMul, Nat.reduceLT, Nat.reduceShiftRight, Nat.reduceMod]

  refine ⟨h, fun h1 => ⟨fun h2 => ⟨fun h3 => ?_, fun h3 => ⟨hl, by omega, fun _ => ?_⟩⟩, fun h2 => ?_⟩, fun h1 => ?_⟩
  · subst h3
    simp [addS, h1, h2, evs]
    exact ⟨[none], by simp [go_sem], rfl⟩
  · obtain ⟨h4, h5, h6, _⟩ := checkS_0 h1
    have hcut : (max ((l.length : Int) + 1 - 64) 0).toNat = l.length + 1 - 64 := by omega
    rw [i64_in _ (by omega), u64_in _ (by omega), hcut]
    refine ⟨by omega, ?_⟩
    simp only [addS, h1, h2, h3, and_self, if_true, if_false, true_and, and_true]
    exact ⟨[some 4], by simp [go_sem], rfl⟩
  · simp [addS, h1, h2, evs]
    exact ⟨[none], by simp [go_sem], rfl⟩
  · simp [addS, h1, evs]
    exact ⟨[none], by simp [go_sem], rfl⟩
end Dm
