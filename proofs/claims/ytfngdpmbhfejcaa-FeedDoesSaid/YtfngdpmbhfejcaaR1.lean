import Derived.Test.YtfngdpmbhfejcaaF9
set_option linter.unusedSimpArgs false
set_option linter.unusedVariables false
namespace Dm
open Go Go.Proofs Go.IntWalk
theorem refnew_ok : PureFn Try.prog 24 [] (.agg [.int .u64 1, .sl []]) := by
  refine .of (ac24 .nil (Nat.le_of_ble_eq_true rfl) ?_)
  simp -implicitDefEqProofs only [cd_t, cd_f, cd_dec, cd_not, cd_and, cd_or, grd_tt, grd_ff, grd_tf, grd_ft, grd_dt, grd_df, grd_nt, grd_nf, go_sem, Go.Proofs.Try.f24, reduceIte, reduceCtorEq, Nat.reduceEqDiff, Nat.reduceAdd, Nat.reduceLeDiff, Nat.reduceSub, Nat.reduceMul, Nat.reduceLT, Nat.reduceShiftRight, Nat.reduceMod]
set_option maxRecDepth 4000 in
theorem equal_ok (a b : List Ev) : PureFn Try.prog 29 [.sl (evs a), .sl (evs b)] (.bool (decide (a = b))) := by
  refine .of (ac29 .nil (Nat.le_of_ble_eq_true rfl) ?_)
  simp -implicitDefEqProofs only [cd_t, cd_f, cd_dec, cd_not, cd_and, cd_or, grd_tt, grd_ff, grd_tf, grd_ft, grd_dt, grd_df, grd_nt, grd_nf, go_sem, Go.Proofs.Try.f29, reduceIte, reduceCtorEq, Nat.reduceEqDiff, Nat.reduceAdd, Nat.reduceLeDiff, Nat.reduceSub, Nat.reduceMul, Nat.reduceLT, Nat.reduceShiftRight, Nat.reduceMod]
  refine fun ha hb => ⟨fun hl _ => ?_, fun h => ?_⟩
  · refine SWp.loop (ι := { i : Nat // i ≤ a.length ∧ a.take i = b.take i }) (fun i => ⟨[(0, .sl (evs a)), (1, .sl (evs b)), (12, .int .i64 a.length), (13, .int .i64 i.1)], [], 0⟩) (fun i => a.length - i.1) ⟨0, by simp⟩ ?_ ?_
    · simp [go_sem]
    · rintro ⟨i, hi, hab⟩
      refine awp_sound TabOk.nil.toS lv29 _ _ _ rfl ?_
      simp -implicitDefEqProofs only [cd_t, cd_f, cd_dec, cd_not, cd_and, cd_or, grd_tt, grd_ff, grd_tf, grd_ft, grd_dt, grd_df, grd_nt, grd_nf, go_sem, reduceIte, reduceCtorEq, Nat.reduceEqDiff, Nat.reduceAdd, Nat.reduceLeDiff, Nat.reduceSub, Nat.reduceMul, Nat.reduceLT, Nat.reduceShiftRight, Nat.reduceMod]
      refine ⟨fun h => ?_, fun h => ?_⟩
      · refine ADraw.quiet .nil follows_mixed (by kernel_rfl) (by kernel_rfl) ?_
        simp -implicitDefEqProofs only [cd_t, cd_f, cd_dec, cd_not, cd_and, cd_or, grd_tt, grd_ff, grd_tf, grd_ft, grd_dt, grd_df, grd_nt, grd_nf, go_sem, reduceIte, reduceCtorEq, Nat.reduceEqDiff, Nat.reduceAdd, Nat.reduceLeDiff, Nat.reduceSub, Nat.reduceMul, Nat.reduceLT, Nat.reduceShiftRight, Nat.reduceMod]
        have h1 : i < a.length := by omega
        have h2 : i < b.length := by omega
        have ht := take_succ_iff h1 h2 hab
        refine ⟨by omega, by omega, fun he => ⟨⟨i + 1, h1, ht.2 he⟩, by show _ < _; dsimp only; omega, ?_⟩, fun he => ?_⟩
        · rw [i64_in _ (by omega)]
          simp
        · simp only [eq_comm (a := false), decide_eq_false_iff_not]
          rintro rfl
          exact he rfl
      · have e : i = a.length := by omega
        have : a = b := by
          rw [e, List.take_length] at hab
          rw [hab, List.take_of_length_le (by omega)]
        simp [this]
  · have : a ≠ b := by rintro rfl; exact h rfl
    simp [this]
theorem wants_ok (mask k : Int) (hm : 0 ≤ mask ∧ mask ≤ 18446744073709551615) (hk : k ≤ 9223372036854775807) : PureFn Try.prog 28 [.int .u64 mask, .int .i64 k] (.bool (decide (mask / 2 ^ k.toNat % 2 = 1))) := by
  refine .of (ac28 .nil (Nat.le_of_ble_eq_true rfl) ?_)
  simp -implicitDefEqProofs only [cd_t, cd_f, cd_dec, cd_not, cd_and, cd_or, grd_tt, grd_ff, grd_tf, grd_ft, grd_dt, grd_df, grd_nt, grd_nf, go_sem, Go.Proofs.Try.f28, reduceIte, reduceCtorEq, Nat.reduceEqDiff, Nat.reduceAdd, Nat.reduceLeDiff, Nat.reduceSub, Nat.reduceMul, Nat.reduceLT, Nat.reduceShiftRight, Nat.reduceMod]
  refine SWp.loop (ι := { i : Nat // i ≤ k.toNat }) (fun i => ⟨[(0, .int .u64 (mask / 2 ^ i.1)), (5, .int .i64 k), (6, .int .i64 i.1)], [], 0⟩) (fun i => k.toNat - i.1) ⟨0, by simp⟩ ?_ ?_
  · simp [go_sem]
  · rintro ⟨i, hi⟩
    refine awp_sound TabOk.nil.toS lv28 _ _ _ rfl ?_
    simp -implicitDefEqProofs only [cd_t, cd_f, cd_dec, cd_not, cd_and, cd_or, grd_tt, grd_ff, grd_tf, grd_ft, grd_dt, grd_df, grd_nt, grd_nf, go_sem, reduceIte, reduceCtorEq, Nat.reduceEqDiff, Nat.reduceAdd, Nat.reduceLeDiff, Nat.reduceSub, Nat.reduceMul, Nat.reduceLT, Nat.reduceShiftRight, Nat.reduceMod]
    have hX : 0 ≤ mask / 2 ^ i := Int.ediv_nonneg hm.1 (Int.le_of_lt (Int.pow_pos (by decide)))
    have hX2 : mask / 2 ^ i ≤ mask := Int.ediv_le_self _ hm.1
    have hX3 : mask / 2 ^ i / 2 = mask / 2 ^ (i + 1) := by
      rw [Int.ediv_ediv_of_nonneg (Int.le_of_lt (Int.pow_pos (by decide))), Int.pow_succ]
    refine ⟨fun h1 => ⟨by decide, ⟨i + 1, by omega⟩, by dsimp only; omega, ?_, i64_in _ (by omega)⟩, fun h1 => ⟨by decide, ?_⟩⟩
    · rw [Int.tdiv_eq_ediv_of_nonneg hX, hX3, u64_in _ (by omega)]
    · have : i = k.toNat := by omega
      rw [Int.tmod_eq_emod_of_nonneg hX, this]
theorem refcheck_ok (n : Int) (l : List Ev) (h : 0 ≤ n ∧ n ≤ 18446744073709551615) : PureFn Try.prog 21 [.agg [.int .u64 n, .sl (evs l)]] (.int .i64 (checkS n l)) := by
  refine .of (ac21 .nil (Nat.le_of_ble_eq_true rfl) ?_)
  simp -implicitDefEqProofs only [cd_t, cd_f, cd_dec, cd_not, cd_and, cd_or, grd_tt, grd_ff, grd_tf, grd_ft, grd_dt, grd_df, grd_nt, grd_nf, go_sem, Go.Proofs.Try.f21, reduceIte, reduceCtorEq, Nat.reduceEqDiff, Nat.reduceAdd, Nat.reduceLeDiff, Nat.reduceSub, Nat.reduceMul, Nat.reduceLT, Nat.reduceShiftRight, Nat.reduceMod]
  have hno : ¬ (1 ≤ n ∧ n ≤ 4611686018427387904 ∧ (l.length : Int) = min (n - 1) 64 ∧ okE n l = true) → 1 = checkS n l := fun h => by rw [checkS, if_neg h]
  refine ⟨fun h1 => ⟨fun h2 h3 => ⟨fun h4 _ => ?_, fun h4 => ?_⟩, fun h2 => hno (by omega)⟩, fun h1 => hno (by omega)⟩
  · rw [u64_in l.length (by omega), u64_in (n - 1) (by omega)] at h4
    refine SWp.loop (ι := { i : Nat // i ≤ l.length ∧ ∀ j : Nat, j < i → (l.getD j default).seq = n - (l.length - j : Int) ∧ kindS (l.getD j default).kind = true }) (fun i => ⟨[(1, .ref 0 0), (25, .sl (evs l)), (26, .int .i64 l.length), (27, .int .i64 i.1)], [(0, .box [.int .u64 n, .sl (evs l)])], 1⟩) (fun i => l.length - i.1) ⟨0, by simp⟩ ?_ ?_
    · simp [go_sem]
    · rintro ⟨i, hi, hall⟩
      refine awp_sound TabOk.nil.toS lv21 _ _ _ rfl ?_
      simp -implicitDefEqProofs only [cd_t, cd_f, cd_dec, cd_not, cd_and, cd_or, grd_tt, grd_ff, grd_tf, grd_ft, grd_dt, grd_df, grd_nt, grd_nf, go_sem, reduceIte, reduceCtorEq, Nat.reduceEqDiff, Nat.reduceAdd, Nat.reduceLeDiff, Nat.reduceSub, Nat.reduceMul, Nat.reduceLT, Nat.reduceShiftRight, Nat.reduceMod]
      have hbad : i < l.length → ¬ ((l.getD i default).seq = n - (l.length - i : Int) ∧ kindS (l.getD i default).kind = true) → 1 = checkS n l := fun hi' hb => hno fun h => hb ((okE_get n l).1 h.2.2.2 i hi')
      refine ⟨fun h5 => ⟨by omega, fun _ => ?_⟩, fun h5 => ?_⟩
      · rw [i64_in _ (by omega), u64_in (l.length - i) (by omega), u64_in _ (by omega)]
        have hi' : i < l.length := by omega
        refine ⟨fun h6 => ⟨fun h7 => ⟨fun h8 => hbad hi' fun h => ?_, fun h8 => ⟨⟨i + 1, hi', fun j hj => ?_⟩, by dsimp only; omega, ?_⟩⟩, fun h7 => hbad hi' fun h => ?_⟩, fun h6 => hbad hi' fun h => h6 h.1⟩
        · have := h.2
          simp only [kindS, Bool.and_eq_true, decide_eq_true_eq] at this
          omega
        · by_cases hji : j = i
          · subst hji
            refine ⟨h6, ?_⟩
            simp only [kindS, Bool.and_eq_true, decide_eq_true_eq]
            omega
          · exact hall j (by omega)
        · rw [i64_in _ (by omega)]
          simp [go_sem]
        · have := h.2
          simp only [kindS, Bool.and_eq_true, decide_eq_true_eq] at this
          omega
      · rw [checkS, if_pos ⟨by omega, by omega, h4, (okE_get n l).2 fun j hj => hall j (by omega)⟩]
  · rw [u64_in l.length (by omega), u64_in (n - 1) (by omega)] at h4
    exact hno (fun h => h4 h.2.2.1)
def spR28 : List D → Option (Prop × D × Fr)
  | [.c (.int .u64 m), .c (.int .i64 k)] => some ((0 ≤ m ∧ m ≤ 18446744073709551615) ∧ k ≤ 9223372036854775807, .bool (decide (m / 2 ^ k.toNat % 2 = 1)), [])
  | _ => none
def spR21 : List D → Option (Prop × D × Fr)
  | [.agg [.c (.int .u64 n), .c (.sl els)]] => some (els = evs (devs els) ∧ 0 ≤ n ∧ n ≤ 18446744073709551615, .int .i64 (checkS n (devs els)), [])
  | _ => none
attribute [go_sem] spR28 spR21
def tabR1 : Tab := [(28, spR28), (21, spR21), (13, sp13)]
attribute [go_sem] tabR1
theorem tabR1_ok : TabOk Try.prog tabR1 := by
  refine .cons (fun rs p r fr h hp => ?_) (.cons (fun rs p r fr h hp => ?_) (.cons (fun rs p r fr h hp => ?_) .nil))
  · unfold spR28 at h
    split at h <;> cases h
    exact wants_ok _ _ hp.1 hp.2
  · unfold spR21 at h
    split at h <;> cases h
    rw [hp.1, devs_evs]
    exact refcheck_ok _ _ hp.2
  · unfold sp13 at h
    split at h <;> cases h
    rw [hp.1, hp.2, devs_evs, devs_evs]
    exact same_ok _ _
theorem refoldest_ok (n : Int) (l : List Ev) (h : 0 ≤ n ∧ n ≤ 18446744073709551615) : PureFn Try.prog 18 [.agg [.int .u64 n, .sl (evs l)]] (.tup [.int .u64 (oldestS n l).1, .int .i64 (oldestS n l).2]) := by
  refine .of (ac18 tabR1_ok (Nat.le_of_ble_eq_true rfl) ?_)
  simp -implicitDefEqProofs only [cd_t, cd_f, cd_dec, cd_not, cd_and, cd_or, grd_tt, grd_ff, grd_tf, grd_ft, grd_dt, grd_df, grd_nt, grd_nf, go_sem, Go.Proofs.Try.f18, reduceIte, reduceCtorEq, Nat.reduceEqDiff, Nat.reduceAdd, Nat.reduceLeDiff, Nat.reduceSub, Nat.reduceMul, Nat.reduceLT, Nat.reduceShiftRight, Nat.reduceMod]
  refine ⟨h, fun h1 _ => ?_, fun h1 => ?_⟩
  · obtain ⟨h2, h3, h4, _⟩ := checkS_0 h1
    rw [u64_in l.length (by omega), u64_in _ (by omega), oldestS, if_pos h1]
    exact ⟨rfl, rfl⟩
  · rw [oldestS, if_neg h1]
    exact ⟨rfl, rfl⟩
theorem refsame_ok (n : Int) (l : List Ev) (n' : Int) (l' : List Ev) : PureFn Try.prog 19 [.agg [.int .u64 n, .sl (evs l)], .agg [.int .u64 n', .sl (evs l')]] (.bool (decide (n = n' ∧ l = l'))) := by
  refine .of (ac19 tabR1_ok (Nat.le_of_ble_eq_true rfl) ?_)
  simp -implicitDefEqProofs only [cd_t, cd_f, cd_dec, cd_not, cd_and, cd_or, grd_tt, grd_ff, grd_tf, grd_ft, grd_dt, grd_df, grd_nt, grd_nf, go_sem, Go.Proofs.Try.f19, reduceIte, reduceCtorEq, Nat.reduceEqDiff, Nat.reduceAdd, Nat.reduceLeDiff, Nat.reduceSub, Nat.reduceMul, Nat.reduceLT, Nat.reduceShiftRight, Nat.reduceMod]
  exact ⟨fun h => by simp [h], fun h => by simp [h]⟩
set_option maxRecDepth 4000 in
theorem refadd_ok (n : Int) (l : List Ev) (k a b : Int) (h : 0 ≤ n ∧ n ≤ 18446744073709551615) (hl : l.length ≤ 1000000) : PureFn Try.prog 16 [.agg [.int .u64 n, .sl (evs l)], .int .i64 k, .int .u64 a, .int .u64 b]
    (.tup [.agg [.int .u64 (addS n l k a b).1, .sl (evs (addS n l k a b).2.1)], .int .u64 (addS n l k a b).2.2.1, .int .i64 (addS n l k a b).2.2.2]) := by
  refine .of (ac16 tabR1_ok (Nat.le_of_ble_eq_true rfl) ?_)
  simp -implicitDefEqProofs only [cd_t, cd_f, cd_dec, cd_not, cd_and, cd_or, grd_tt, grd_ff, grd_tf, grd_ft, grd_dt, grd_df, grd_nt, grd_nf, go_sem, Go.Proofs.Try.f16, reduceIte, reduceCtorEq, Nat.reduceEqDiff, Nat.reduceAdd, Nat.reduceLeDiff, Nat.reduceSub, Nat.reduceMul, Nat.reduceLT, Nat.reduceShiftRight, Nat.reduceMod]
  have hk : kindS k = (decide (0 ≤ k) && decide (k < 16)) := rfl
  have e1 : ¬ (checkS n l = 0 ∧ kindS k = true) → addS n l k a b = (0, [], 0, 1) := fun h => by rw [addS, if_neg h]
  refine ⟨h, fun h1 => ⟨fun h2 => ⟨fun h3 => ?_, fun h3 => ⟨fun h4 => ?_, fun h4 => ?_⟩⟩, fun h2 => ?_⟩, fun h1 => ?_⟩
  · rw [e1 (fun h => by rw [hk] at h; simp at h; omega)]
    simp [evs]
  · have hk1 : kindS k = true := by rw [hk]; simp; omega
    rw [addS, if_pos ⟨h1, hk1⟩, if_pos h4]
    simp [evs]
  · have hk1 : kindS k = true := by rw [hk]; simp; omega
    obtain ⟨h5, h6, h7, _⟩ := checkS_0 h1
    have e2 : addS n l k a b = (n + 1, (l ++ [(⟨n, k, a, b⟩ : Ev)]).drop (l.length + 1 - 64), n, 0) := by rw [addS, if_pos ⟨h1, hk1⟩, if_neg h4]
    refine ADraw.run us16_5 tabR1_ok follows_mixed (by kernel_rfl) (by kernel_rfl) ?_
    simp -implicitDefEqProofs only [cd_t, cd_f, cd_dec, cd_not, cd_and, cd_or, grd_tt, grd_ff, grd_tf, grd_ft, grd_dt, grd_df, grd_nt, grd_nf, go_sem, reduceIte, reduceCtorEq, Nat.reduceEqDiff, Nat.reduceAdd, Nat.reduceLeDiff, Nat.reduceSub, Nat.reduceMul, Nat.reduceLT, Nat.reduceShiftRight, Nat.reduceMod]
    refine ⟨by omega, by omega, fun _ => ⟨fun h8 => ⟨by omega, ?_⟩, fun h8 => ?_⟩⟩
    · refine ADraw.run us16_8 tabR1_ok follows_mixed (by kernel_rfl) (by kernel_rfl) ?_
      simp -implicitDefEqProofs only [cd_t, cd_f, cd_dec, cd_not, cd_and, cd_or, grd_tt, grd_ff, grd_tf, grd_ft, grd_dt, grd_df, grd_nt, grd_nf, go_sem, reduceIte, reduceCtorEq, Nat.reduceEqDiff, Nat.reduceAdd, Nat.reduceLeDiff, Nat.reduceSub, Nat.reduceMul, Nat.reduceLT, Nat.reduceShiftRight, Nat.reduceMod]
      have h9 : l.length + 1 - 64 = 1 := by omega
      rw [e2, u64_in (n + 1) (by omega), h9]
      simp [go_sem]
    · refine ADraw.run us16_8 tabR1_ok follows_mixed (by kernel_rfl) (by kernel_rfl) ?_
      simp -implicitDefEqProofs only [cd_t, cd_f, cd_dec, cd_not, cd_and, cd_or, grd_tt, grd_ff, grd_tf, grd_ft, grd_dt, grd_df, grd_nt, grd_nf, go_sem, reduceIte, reduceCtorEq, Nat.reduceEqDiff, Nat.reduceAdd, Nat.reduceLeDiff, Nat.reduceSub, Nat.reduceMul, Nat.reduceLT, Nat.reduceShiftRight, Nat.reduceMod]
      have h9 : l.length + 1 - 64 = 0 := by omega
      rw [e2, u64_in (n + 1) (by omega), h9]
      simp [go_sem]
  · rw [e1 (fun h => by rw [hk] at h; simp at h; omega)]
    simp [evs]
  · rw [e1 (fun h => h1 h.1)]
    simp [evs]
def spR18 : List D → Option (Prop × D × Fr)
  | [.agg [.c (.int .u64 n), .c (.sl els)]] => some (els = evs (devs els) ∧ 0 ≤ n ∧ n ≤ 18446744073709551615, .tup [.int .u64 (oldestS n (devs els)).1, .int .i64 (oldestS n (devs els)).2], [])
  | _ => none
attribute [go_sem] spR18
def tabR2 : Tab := (18, spR18) :: tabR1
attribute [go_sem] tabR2
theorem tabR2_ok : TabOk Try.prog tabR2 := by
  refine .cons (fun rs p r fr h hp => ?_) tabR1_ok
  unfold spR18 at h
  split at h <;> cases h
  rw [hp.1, devs_evs]
  exact refoldest_ok _ _ hp.2
theorem refmay_ok (n : Int) (l : List Ev) (mask at_ : Int) (h : 0 ≤ n ∧ n ≤ 18446744073709551615) (ha : 0 ≤ at_) : PureFn Try.prog 20 [.agg [.int .u64 n, .sl (evs l)], .agg [.int .u64 mask, .int .u64 at_]] (.int .i64 (mayS n l mask at_)) := by
  refine .of (ac20 tabR2_ok (Nat.le_of_ble_eq_true rfl) ?_)
  simp -implicitDefEqProofs only [cd_t, cd_f, cd_dec, cd_not, cd_and, cd_or, grd_tt, grd_ff, grd_tf, grd_ft, grd_dt, grd_df, grd_nt, grd_nf, go_sem, Go.Proofs.Try.f20, reduceIte, reduceCtorEq, Nat.reduceEqDiff, Nat.reduceAdd, Nat.reduceLeDiff, Nat.reduceSub, Nat.reduceMul, Nat.reduceLT, Nat.reduceShiftRight, Nat.reduceMod]
  refine ⟨h, fun h1 => ⟨fun h2 => ⟨fun h3 => ?_, fun h3 => ?_⟩, fun h2 => ?_⟩, fun h1 => ?_⟩
  · rw [mayS, if_pos h1, if_neg h2, if_pos h3]
  · have h4 := oldestS_0 h1
    obtain ⟨h5, h6, h7, _⟩ := checkS_0 h4
    have ho : oldestS n l = (n - l.length, 0) := by rw [oldestS, if_pos h4]
    rw [mayS, if_pos h1, if_neg h2, if_neg h3, ho, u64_in (n - l.length - 1) (by omega)]
    refine ⟨fun h8 => ?_, fun h8 => ?_⟩
    · rw [if_pos (by dsimp only; omega)]
    · rw [if_neg (by dsimp only; omega)]
  · rw [mayS, if_pos h1, if_pos h2]
  · rw [mayS, if_neg h1]
def spR20 : List D → Option (Prop × D × Fr)
  | [.agg [.c (.int .u64 n), .c (.sl els)], .agg [.c (.int .u64 mask), .c (.int .u64 at_)]] =>
    some (els = evs (devs els) ∧ 0 ≤ n ∧ n ≤ 18446744073709551615 ∧ 0 ≤ at_, .int .i64 (mayS n (devs els) mask at_), [])
  | _ => none
attribute [go_sem] spR20
def tabR3 : Tab := (20, spR20) :: tabR2
attribute [go_sem] tabR3
theorem tabR3_ok : TabOk Try.prog tabR3 := by
  refine .cons (fun rs p r fr h hp => ?_) tabR2_ok
  unfold spR20 at h
  split at h <;> cases h
  rw [hp.1, devs_evs]
  exact refmay_ok _ _ _ _ ⟨hp.2.1, hp.2.2.1⟩ hp.2.2.2
theorem absS_succ' {mask at_ : Int} {l : List Ev} {j : Nat} (hj : j < l.length) : absS mask at_ (l.take (j + 1)) = absS mask at_ (l.take j) ++ (if wantS mask (l.getD j default) = true ∧ at_ < (l.getD j default).seq then [l.getD j default] else []) := by
  have e1 : l.take (j + 1) = l.take j ++ [l[j]] := by simp
  unfold absS
  rw [e1, List.filter_append]
  simp only [List.getD, List.getElem?_eq_getElem hj, Option.getD_some]
  congr 1
  by_cases h1 : wantS mask l[j] = true <;> by_cases h2 : at_ < l[j].seq <;> simp [h1, h2]
theorem take_push {α : Type} {A : List α} {x : α} {M : Nat} (h : (A.take M).length < M) : (A ++ [x]).take M = A.take M ++ [x] := by
  rw [List.length_take] at h
  rw [List.take_of_length_le (by simp; omega), List.take_of_length_le (by omega)]
theorem take_full {α : Type} {A B : List α} {M : Nat} (h : ¬ (A.take M).length < M) : (A ++ B).take M = A.take M := by
  rw [List.length_take] at h
  exact List.take_append_of_le_length (by omega)
set_option maxRecDepth 4000 in
theorem reftell_ok (n : Int) (l : List Ev) (mask at_ most : Int) (hn : 0 ≤ n ∧ n ≤ 18446744073709551615) (hm : 0 ≤ mask ∧ mask ≤ 18446744073709551615) (ha : 0 ≤ at_ ∧ at_ ≤ 18446744073709551615) : PureFn Try.prog 17 [.agg [.int .u64 n, .sl (evs l)], .agg [.int .u64 mask, .int .u64 at_], .int .i64 most]
    (.tup [.sl (evs (tellS n l mask at_ most).1), .agg [.int .u64 (tellS n l mask at_ most).2.1, .int .u64 (tellS n l mask at_ most).2.2.1], .int .i64 (tellS n l mask at_ most).2.2.2]) := by
  refine .of (ac17 tabR3_ok (Nat.le_of_ble_eq_true rfl) ?_)
  simp -implicitDefEqProofs only [cd_t, cd_f, cd_dec, cd_not, cd_and, cd_or, grd_tt, grd_ff, grd_tf, grd_ft, grd_dt, grd_df, grd_nt, grd_nf, go_sem, Go.Proofs.Try.f17, reduceIte, reduceCtorEq, Nat.reduceEqDiff, Nat.reduceAdd, Nat.reduceLeDiff, Nat.reduceSub, Nat.reduceMul, Nat.reduceLT, Nat.reduceShiftRight, Nat.reduceMod]
  refine ⟨⟨hn.1, hn.2, ha.1⟩, fun h1 => ⟨fun h2 => ?_, fun h2 h3 => ?_⟩, fun h1 => ?_⟩
  · have : tellS n l mask at_ most = ([], 0, 0, 1) := by rw [tellS, if_pos h1, if_pos h2]
    rw [this]
    exact ⟨rfl, ⟨rfl, rfl⟩, rfl⟩
  · obtain ⟨h4, h5, h6, h7⟩ := mayS_0 h1
    obtain ⟨h8, h9, h10, h11⟩ := checkS_0 h4
    have ht := tell_eq (most := most) h1 (by omega)
    have hO := outS_eq (mask := mask) (most := most) h11 h6
    refine SWp.nilvec 10 4 33 rfl (Nat.zero_le _) ?_
    refine SWp.loop (ι := {i // i ≤ l.length})
      (fun i => ⟨[(2, .int .i64 most), (3, .ref 0 0), (4, .ref 1 0), (7, .ref 2 0), (10, .vec 3 ((absS mask at_ (l.take i.1)).take most.toNat).length), (24, .sl (evs l)), (25, .int .i64 l.length), (26, .int .i64 i.1)],
        [(3, .vec true 4 33 (evs ((absS mask at_ (l.take i.1)).take most.toNat))), (2, .box [.int .u64 0, .int .u64 0]), (1, .box [.int .u64 mask, .int .u64 at_]), (0, .box [.int .u64 n, .sl (evs l)])], 4⟩)
      (fun i => l.length - i.1) ⟨0, by omega⟩ ?_ ?_
    · simp [go_sem, evs, absS]
    · rintro ⟨i, hi⟩
      refine awp_sound tabR3_ok.toS lv17 _ _ _ rfl ?_
      simp -implicitDefEqProofs only [cd_t, cd_f, cd_dec, cd_not, cd_and, cd_or, grd_tt, grd_ff, grd_tf, grd_ft, grd_dt, grd_df, grd_nt, grd_nf, go_sem, reduceIte, reduceCtorEq, Nat.reduceEqDiff, Nat.reduceAdd, Nat.reduceLeDiff, Nat.reduceSub, Nat.reduceMul, Nat.reduceLT, Nat.reduceShiftRight, Nat.reduceMod]
      have hle : (absS mask at_ (l.take i)).length ≤ i := Nat.le_trans (List.length_filter_le _ _) (by rw [List.length_take]; omega)
      have hlt := List.length_take (i := most.toNat) (l := absS mask at_ (l.take i))
      refine ⟨fun h12 => ⟨by omega, fun _ => ?_⟩, fun h12 => ?_⟩
      · have hi' : i < l.length := by omega
        have hs := absS_succ' (mask := mask) (at_ := at_) hi'
        have ei := i64_in ((i : Int) + 1) (by omega)
        have hkd : kindS (l.getD i default).kind = true := okE_kind h11 _ (by
          rw [List.getD_eq_getElem?_getD, List.getElem?_eq_getElem hi']
          exact List.getElem_mem _)
        have hkd2 := kindS_nat hkd
        have hw : (mask / 2 ^ (l.getD i default).kind.toNat % 2 = 1) = (wantS mask (l.getD i default) = true) := by rw [wantS, decide_eq_true_eq]
        rw [hw]
        refine ⟨fun h13 => ⟨fun h14 => ⟨⟨hm, by omega⟩, fun h15 => ⟨by omega, ⟨i + 1, hi'⟩, by dsimp only; omega, ?_⟩, fun h15 => ⟨⟨i + 1, hi'⟩, by dsimp only; omega, ?_⟩⟩, fun h14 => ⟨⟨i + 1, hi'⟩, by dsimp only; omega, ?_⟩⟩, fun h13 => ⟨⟨i + 1, hi'⟩, by dsimp only; omega, ?_⟩⟩
        · rw [if_pos ⟨h15, h14⟩] at hs
          have := take_push (x := l.getD i default) (A := absS mask at_ (l.take i)) (M := most.toNat) (by omega)
          rw [← hs] at this
          simp [go_sem, this, ei]
        · rw [if_neg (fun h => h15 h.1), List.append_nil] at hs
          simp [go_sem, hs, ei]
        · rw [if_neg (fun h => h14 h.2), List.append_nil] at hs
          simp [go_sem, hs, ei]
        · have := take_full (A := absS mask at_ (l.take i)) (B := if wantS mask (l.getD i default) = true ∧ at_ < (l.getD i default).seq then [l.getD i default] else []) (M := most.toNat) (by omega)
          rw [← hs] at this
          simp [go_sem, this, ei]
      · have hi' : i = l.length := by omega
        subst hi'
        rw [List.take_length] at hlt hle ⊢
        rw [← hO] at hlt ⊢
        refine fun _ => ⟨fun h13 => ?_, fun h13 => ?_⟩
        · refine ADraw.run us17_14 tabR3_ok follows_mixed (by kernel_rfl) (by kernel_rfl) ?_
          simp -implicitDefEqProofs only [cd_t, cd_f, cd_dec, cd_not, cd_and, cd_or, grd_tt, grd_ff, grd_tf, grd_ft, grd_dt, grd_df, grd_nt, grd_nf, go_sem, reduceIte, reduceCtorEq, Nat.reduceEqDiff, Nat.reduceAdd, Nat.reduceLeDiff, Nat.reduceSub, Nat.reduceMul, Nat.reduceLT, Nat.reduceShiftRight, Nat.reduceMod]
          have hat : atS n l mask at_ most = n - 1 := by rw [atS, if_pos h13]
          rw [ht, hat, u64_in (n - 1) (by omega)]
          simp
        · refine ⟨fun h14 => ?_, fun h14 => ?_⟩
          · refine ADraw.run us17_16 tabR3_ok follows_mixed (by kernel_rfl) (by kernel_rfl) ?_
            simp -implicitDefEqProofs only [cd_t, cd_f, cd_dec, cd_not, cd_and, cd_or, grd_tt, grd_ff, grd_tf, grd_ft, grd_dt, grd_df, grd_nt, grd_nf, go_sem, reduceIte, reduceCtorEq, Nat.reduceEqDiff, Nat.reduceAdd, Nat.reduceLeDiff, Nat.reduceSub, Nat.reduceMul, Nat.reduceLT, Nat.reduceShiftRight, Nat.reduceMod]
            have hat : atS n l mask at_ most = at_ := by rw [atS, if_neg h13, if_neg (by omega)]
            have ho0 : outS n l mask at_ most = [] := by rw [hO, h14]; rfl
            rw [ht, hat, ho0]
            exact ⟨rfl, ⟨rfl, rfl⟩, rfl⟩
          · refine ADraw.run us17_17 tabR3_ok follows_mixed (by kernel_rfl) (by kernel_rfl) ?_
            simp -implicitDefEqProofs only [cd_t, cd_f, cd_dec, cd_not, cd_and, cd_or, grd_tt, grd_ff, grd_tf, grd_ft, grd_dt, grd_df, grd_nt, grd_nf, go_sem, reduceIte, reduceCtorEq, Nat.reduceEqDiff, Nat.reduceAdd, Nat.reduceLeDiff, Nat.reduceSub, Nat.reduceMul, Nat.reduceLT, Nat.reduceShiftRight, Nat.reduceMod]
            have hat := atS_full h13 (by omega)
            rw [ht, hat, i64_in (most - 1) (by omega), show (most - 1).toNat = most.toNat - 1 by omega]
            simp
            omega
  · have : tellS n l mask at_ most = ([], 0, 0, mayS n l mask at_) := by rw [tellS, if_neg h1]
    rw [this]
    exact ⟨rfl, ⟨rfl, rfl⟩, rfl⟩
def spR17 : List D → Option (Prop × D × Fr)
  | [.agg [.c (.int .u64 n), .c (.sl els)], .agg [.c (.int .u64 mask), .c (.int .u64 at_)], .c (.int .i64 most)] =>
    some (els = evs (devs els) ∧ (0 ≤ n ∧ n ≤ 18446744073709551615) ∧ (0 ≤ mask ∧ mask ≤ 18446744073709551615) ∧ 0 ≤ at_ ∧ at_ ≤ 18446744073709551615,
      .tup [.sl (evs (tellS n (devs els) mask at_ most).1), .agg [.int .u64 (tellS n (devs els) mask at_ most).2.1, .int .u64 (tellS n (devs els) mask at_ most).2.2.1], .int .i64 (tellS n (devs els) mask at_ most).2.2.2], [])
  | _ => none
def spR16 : List D → Option (Prop × D × Fr)
  | [.agg [.c (.int .u64 n), .c (.sl els)], .c (.int .i64 k), .c (.int .u64 a), .c (.int .u64 b)] => some (els = evs (devs els) ∧ (0 ≤ n ∧ n ≤ 18446744073709551615) ∧ els.length ≤ 1000000,
      .tup [.agg [.int .u64 (addS n (devs els) k a b).1, .sl (evs (addS n (devs els) k a b).2.1)], .int .u64 (addS n (devs els) k a b).2.2.1, .int .i64 (addS n (devs els) k a b).2.2.2], [])
  | _ => none
def spR19 : List D → Option (Prop × D × Fr)
  | [.agg [.c (.int .u64 n), .c (.sl els)], .agg [.c (.int .u64 n'), .c (.sl els')]] => some (els = evs (devs els) ∧ els' = evs (devs els'), .bool (decide (n = n' ∧ devs els = devs els')), [])
  | _ => none
def spR24 : List D → Option (Prop × D × Fr)
  | [] => some (True, .agg [.int .u64 1, .sl []], [])
  | _ => none
def sp29 : List D → Option (Prop × D × Fr)
  | [.c (.sl els), .c (.sl els')] => some (els = evs (devs els) ∧ els' = evs (devs els'), .bool (decide (devs els = devs els')), [])
  | _ => none
def sp11F : List D → Option (Prop × D × Fr)
  | [.agg [.c (.int .u64 n), .c (.sl els)], .c (.int .i64 k), .c (.int .u64 a), .c (.int .u64 b)] => some (els = evs (devs els) ∧ (0 ≤ n ∧ n ≤ 18446744073709551615) ∧ els.length ≤ 1000000,
      .tup [.agg [.int .u64 (addS n (devs els) k a b).1, .vec 0 (addS n (devs els) k a b).2.1.length], .int .u64 (addS n (devs els) k a b).2.2.1, .int .i64 (addS n (devs els) k a b).2.2.2], [(4, 33, false, evs (addS n (devs els) k a b).2.1)])
  | _ => none
attribute [go_sem] spR17 spR16 spR19 spR24 sp29 sp11F
def tabR4 : Tab := [(11, sp11F), (17, spR17), (16, spR16), (19, spR19), (24, spR24), (29, sp29)] ++ tabR3
attribute [go_sem] tabR4
theorem tabR4_ok : TabOk Try.prog tabR4 := by
  refine .cons (fun rs p r fr h hp => ?_) (.cons (fun rs p r fr h hp => ?_) (.cons (fun rs p r fr h hp => ?_) (.cons (fun rs p r fr h hp => ?_) (.cons (fun rs p r fr h hp => ?_) (.cons (fun rs p r fr h hp => ?_) tabR3_ok)))))
  · unfold sp11F at h
    split at h <;> cases h
    rw [hp.1, devs_evs]
    exact ⟨rfl, addF_ok _ _ _ _ _ hp.2.1 (by have := hp.2.2; rw [hp.1] at this; simpa using this)⟩
  · unfold spR17 at h
    split at h <;> cases h
    rw [hp.1, devs_evs]
    exact reftell_ok _ _ _ _ _ hp.2.1 hp.2.2.1 hp.2.2.2
  · unfold spR16 at h
    split at h <;> cases h
    rw [hp.1, devs_evs]
    exact refadd_ok _ _ _ _ _ hp.2.1 (by have := hp.2.2; rw [hp.1] at this; simpa using this)
  · unfold spR19 at h
    split at h <;> cases h
    rw [hp.1, hp.2, devs_evs, devs_evs]
    exact refsame_ok _ _ _ _
  · unfold spR24 at h
    split at h <;> cases h
    exact refnew_ok
  · unfold sp29 at h
    split at h <;> cases h
    rw [hp.1, hp.2, devs_evs, devs_evs]
    exact equal_ok _ _
theorem fsame_ok (n : Int) (l : List Ev) (n' : Int) (l' : List Ev) : PureFn Try.prog 22 [.agg [.int .u64 n, .sl (evs l)], .agg [.int .u64 n', .sl (evs l')]] (.bool (decide (n = n' ∧ l = l'))) := by
  refine .of (ac22 tabR4_ok (Nat.le_of_ble_eq_true rfl) ?_)
  simp -implicitDefEqProofs only [cd_t, cd_f, cd_dec, cd_not, cd_and, cd_or, grd_tt, grd_ff, grd_tf, grd_ft, grd_dt, grd_df, grd_nt, grd_nf, go_sem, Go.Proofs.Try.f22, reduceIte, reduceCtorEq, Nat.reduceEqDiff, Nat.reduceAdd, Nat.reduceLeDiff, Nat.reduceSub, Nat.reduceMul, Nat.reduceLT, Nat.reduceShiftRight, Nat.reduceMod]
  exact ⟨fun h => by simp [h], fun h => by simp [h]⟩
def sp22 : List D → Option (Prop × D × Fr)
  | [.agg [.c (.int .u64 n), .c (.sl els)], .agg [.c (.int .u64 n'), .c (.sl els')]] => some (els = evs (devs els) ∧ els' = evs (devs els'), .bool (decide (n = n' ∧ devs els = devs els')), [])
  | _ => none
attribute [go_sem] sp22
end Dm
