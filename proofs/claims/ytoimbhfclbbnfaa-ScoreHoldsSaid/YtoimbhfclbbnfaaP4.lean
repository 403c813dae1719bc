import Derived.Test.YtoimbhfclbbnfaaP3
import Derived.Shelf.SlSortCmp.NoneTotal
set_option linter.unusedSimpArgs false
set_option linter.unusedVariables false
set_option linter.unusedSectionVars false
namespace Dm
open Go Go.Proofs Go.IntWalk
theorem follows_mixed : Try.prog.follows .mixedOrders = true := by kernel_rfl
@[go_sem] def isnan_r (x : Nat) : D := .bool false
@[go_sem] abbrev n_isnan : FuncId := 53
@[go_sem] def isnan_T : Tab := []
theorem isnan_T_ok : TabOk Try.prog isnan_T := TabOk.nil
set_option maxRecDepth 8000 in
set_option maxHeartbeats 1000000 in
theorem isnan_ok (x : Nat)  : PureFn Try.prog 53 [.c (.int .u64 (x : Int))] (isnan_r x) := by
  refine .of (ac53 isnan_T_ok (Nat.le_of_ble_eq_true rfl) ?_)
  simp -implicitDefEqProofs only [cd_t, cd_f, cd_dec, cd_not, cd_and, cd_or, grd_tt, grd_ff, grd_tf, grd_ft, grd_dt, grd_df, grd_nt, grd_nf, go_sem, Go.Proofs.Try.f53, reduceIte, reduceCtorEq, Nat.reduceEqDiff, Nat.reduceAdd, Nat.reduceLeDiff, Nat.reduceSub, Nat.reduceMul, Nat.reduceLT, Nat.reduceShiftRight, Nat.reduceMod, Int.reduceLE, Int.reduceLT, Int.reduceToNat, decide_true, Bool.and_self, Bool.true_and, Ob.map.injEq, Ob.it.injEq, List.cons.injEq, true_and, and_true]
def sp_isnan : List D → Option (Prop × D × Fr)
  | [.c (.int .u64 z1)] => some (z1 = (z1.toNat : Int), isnan_r z1.toNat, [])
  | _ => none
attribute [go_sem] sp_isnan
theorem sp_isnan_ok : ∀ rs p r fr, sp_isnan rs = some (p, r, fr) → p → FnOk Try.prog 53 rs r fr := by
  intro rs p r fr h hp
  unfold sp_isnan at h
  split at h <;> cases h
  have hc0 := hp
  rename_i z1
  obtain ⟨z1, rfl⟩ : ∃ m : Nat, z1 = m := ⟨_, hc0⟩
  simp only [Int.toNat_natCast]
  exact isnan_ok z1
@[go_sem] def cmp_r (x : Nat) (y : Nat) : D := .int .i64 (cmpS x y)
@[go_sem] abbrev n_cmp : FuncId := 34
@[go_sem] def cmp_T : Tab := [(53, sp_isnan)]
theorem cmp_T_ok : TabOk Try.prog cmp_T := (TabOk.cons sp_isnan_ok TabOk.nil)
set_option maxRecDepth 8000 in
set_option maxHeartbeats 1000000 in
theorem cmp_ok (x : Nat) (y : Nat)  : PureFn Try.prog 34 [.c (.int .u64 (x : Int)), .c (.int .u64 (y : Int))] (cmp_r x y) := by
  refine .of (ac34 cmp_T_ok (Nat.le_of_ble_eq_true rfl) ?_)
  simp -implicitDefEqProofs only [cd_t, cd_f, cd_dec, cd_not, cd_and, cd_or, grd_tt, grd_ff, grd_tf, grd_ft, grd_dt, grd_df, grd_nt, grd_nf, go_sem, Go.Proofs.Try.f34, reduceIte, reduceCtorEq, Nat.reduceEqDiff, Nat.reduceAdd, Nat.reduceLeDiff, Nat.reduceSub, Nat.reduceMul, Nat.reduceLT, Nat.reduceShiftRight, Nat.reduceMod, Int.reduceLE, Int.reduceLT, Int.reduceToNat, decide_true, Bool.and_self, Bool.true_and, Ob.map.injEq, Ob.it.injEq, List.cons.injEq, true_and, and_true]
  refine ⟨fun h => ?_, fun h => ⟨fun h1 => ?_, fun h1 => ?_⟩⟩ <;> simp [cmpS] <;> omega
def sp_cmp : List D → Option (Prop × D × Fr)
  | [.c (.int .u64 z2), .c (.int .u64 z3)] => some (z2 = (z2.toNat : Int) ∧ z3 = (z3.toNat : Int), cmp_r z2.toNat z3.toNat, [])
  | _ => none
attribute [go_sem] sp_cmp
theorem sp_cmp_ok : ∀ rs p r fr, sp_cmp rs = some (p, r, fr) → p → FnOk Try.prog 34 rs r fr := by
  intro rs p r fr h hp
  unfold sp_cmp at h
  split at h <;> cases h
  obtain ⟨hc0, hc1⟩ := hp
  rename_i z2 z3
  obtain ⟨z2, rfl⟩ : ∃ m : Nat, z2 = m := ⟨_, hc0⟩
  obtain ⟨z3, rfl⟩ : ∃ m : Nat, z3 = m := ⟨_, hc1⟩
  simp only [Int.toNat_natCast]
  exact cmp_ok z2 z3
/-- The first that is not 0. -/
def orS (l : List Int) : Int := (l.find? fun x => decide (¬ x = 0)).getD 0
@[go_sem] def cmpor_r (l : List Int) : D := .int .i64 (orS l)
@[go_sem] abbrev n_cmpor : FuncId := 32
@[go_sem] def cmpor_T : Tab := []
theorem cmpor_T_ok : TabOk Try.prog cmpor_T := TabOk.nil
set_option maxRecDepth 8000 in
set_option maxHeartbeats 1000000 in
theorem cmpor_ok (l : List Int)  : PureFn Try.prog 32 [.sl (i64s l)] (cmpor_r l) := by
  refine .of (ac32 cmpor_T_ok (Nat.le_of_ble_eq_true rfl) ?_)
  simp -implicitDefEqProofs only [cd_t, cd_f, cd_dec, cd_not, cd_and, cd_or, grd_tt, grd_ff, grd_tf, grd_ft, grd_dt, grd_df, grd_nt, grd_nf, go_sem, Go.Proofs.Try.f32, reduceIte, reduceCtorEq, Nat.reduceEqDiff, Nat.reduceAdd, Nat.reduceLeDiff, Nat.reduceSub, Nat.reduceMul, Nat.reduceLT, Nat.reduceShiftRight, Nat.reduceMod, Int.reduceLE, Int.reduceLT, Int.reduceToNat, decide_true, Bool.and_self, Bool.true_and, Ob.map.injEq, Ob.it.injEq, List.cons.injEq, true_and, and_true]
  refine fun hl => SWp.loop (ι := { i : Nat // i ≤ l.length ∧ ∀ j, j < i → l.getD j default = 0 }) (fun i => ⟨[(3, .int .i64 0), (6, .sl (i64s l)), (7, .int .i64 l.length), (8, .int .i64 i.1)], [], 0⟩) (fun i => l.length - i.1) ⟨0, by simp⟩ ?_ ?_
  · simp [go_sem]
  · rintro ⟨i, hi, hall⟩
    refine awp_sound cmpor_T_ok.toS lv32 _ _ _ rfl ?_
    simp -implicitDefEqProofs only [cd_t, cd_f, cd_dec, cd_not, cd_and, cd_or, grd_tt, grd_ff, grd_tf, grd_ft, grd_dt, grd_df, grd_nt, grd_nf, go_sem, reduceIte, reduceCtorEq, Nat.reduceEqDiff, Nat.reduceAdd, Nat.reduceLeDiff, Nat.reduceSub, Nat.reduceMul, Nat.reduceLT, Nat.reduceShiftRight, Nat.reduceMod, Int.reduceLE, Int.reduceLT, Int.reduceToNat, decide_true, Bool.and_self, Bool.true_and, Ob.map.injEq, Ob.it.injEq, List.cons.injEq, true_and, and_true]
    refine ⟨fun h => ⟨by omega, fun h1 => ⟨⟨i + 1, by omega, fun j hj => ?_⟩, by dsimp only; omega, i64_in _ (by omega)⟩, fun h1 => ?_⟩, fun h => ?_⟩
    · by_cases hji : j = i
      · subst hji; exact h1
      · exact hall j (by omega)
    · have hi' : i < l.length := by omega
      have : l.find? (fun x => decide (¬ x = 0)) = some (l.getD i default) := by
        rw [List.find?_eq_some_iff_getElem]
        refine ⟨by simpa using h1, i, hi', (getD_lt hi').symm, fun j hj => ?_⟩
        have := hall j hj
        rw [getD_lt (by omega)] at this
        simpa using this
      rw [orS, this]; rfl
    · have : l.find? (fun x => decide (¬ x = 0)) = none := by
        rw [List.find?_eq_none]
        intro x hx
        obtain ⟨j, hj, rfl⟩ := mem_getD.1 hx
        simpa using hall j (by omega)
      rw [orS, this]; rfl
def sp_cmpor : List D → Option (Prop × D × Fr)
  | [.c (.sl z4)] => some (z4 = i64s (di64s z4), cmpor_r (di64s z4), [])
  | _ => none
attribute [go_sem] sp_cmpor
theorem sp_cmpor_ok : ∀ rs p r fr, sp_cmpor rs = some (p, r, fr) → p → FnOk Try.prog 32 rs r fr := by
  intro rs p r fr h hp
  unfold sp_cmpor at h
  split at h <;> cases h
  have hc0 := hp
  rename_i z4
  obtain ⟨z4, rfl⟩ : ∃ m, z4 = i64s m := ⟨_, hc0⟩
  simp only [di64s_i64s]
  exact cmpor_ok z4
def maxS (l : List Nat) : Nat := l.foldl max 0
theorem maxS_succ {l : List Nat} {i : Nat} (h : i < l.length) : maxS (l.take (i + 1)) = max (maxS (l.take i)) (l.getD i default) := by
  rw [take_succ h, maxS, List.foldl_append]; rfl
@[go_sem] def smax_r (l : List Nat) : D := .int .u64 (maxS l : Int)
@[go_sem] abbrev n_smax : FuncId := 79
@[go_sem] def smax_T : Tab := [(53, sp_isnan)]
theorem smax_T_ok : TabOk Try.prog smax_T := (TabOk.cons sp_isnan_ok TabOk.nil)
set_option maxRecDepth 8000 in
set_option maxHeartbeats 1000000 in
theorem smax_ok (l : List Nat) (h : 0 < l.length) : PureFn Try.prog 79 [.sl (u64s l)] (smax_r l) := by
  refine .of (ac79 smax_T_ok (Nat.le_of_ble_eq_true rfl) ?_)
  simp -implicitDefEqProofs only [cd_t, cd_f, cd_dec, cd_not, cd_and, cd_or, grd_tt, grd_ff, grd_tf, grd_ft, grd_dt, grd_df, grd_nt, grd_nf, go_sem, Go.Proofs.Try.f79, reduceIte, reduceCtorEq, Nat.reduceEqDiff, Nat.reduceAdd, Nat.reduceLeDiff, Nat.reduceSub, Nat.reduceMul, Nat.reduceLT, Nat.reduceShiftRight, Nat.reduceMod, Int.reduceLE, Int.reduceLT, Int.reduceToNat, decide_true, Bool.and_self, Bool.true_and, Ob.map.injEq, Ob.it.injEq, List.cons.injEq, true_and, and_true]
  refine fun hl => ⟨fun h1 => by omega, fun h1 => ⟨by omega, ?_⟩⟩
  refine SWp.loop (ι := { i : Nat // 0 < i ∧ i ≤ l.length }) (fun i => ⟨[(0, .sl (u64s l)), (3, .int .u64 (maxS (l.take i.1) : Nat)), (4, .int .i64 i.1)], [], 0⟩) (fun i => l.length - i.1) ⟨1, by omega⟩ ?_ ?_
  · have : maxS (l.take 1) = l.getD 0 default := by rw [maxS_succ h]; simp [maxS]
    simp [go_sem, this]
  · rintro ⟨i, hi0, hi⟩
    refine awp_sound smax_T_ok.toS lv79 _ _ _ rfl ?_
    simp -implicitDefEqProofs only [cd_t, cd_f, cd_dec, cd_not, cd_and, cd_or, grd_tt, grd_ff, grd_tf, grd_ft, grd_dt, grd_df, grd_nt, grd_nf, go_sem, reduceIte, reduceCtorEq, Nat.reduceEqDiff, Nat.reduceAdd, Nat.reduceLeDiff, Nat.reduceSub, Nat.reduceMul, Nat.reduceLT, Nat.reduceShiftRight, Nat.reduceMod, Int.reduceLE, Int.reduceLT, Int.reduceToNat, decide_true, Bool.and_self, Bool.true_and, Ob.map.injEq, Ob.it.injEq, List.cons.injEq, true_and, and_true]
    refine fun _ => ⟨fun h2 => ⟨by omega, ⟨i + 1, by omega, by omega⟩, by dsimp only; omega, ?_, i64_in _ (by omega)⟩, fun h2 => ?_⟩
    · rw [maxS_succ (by omega)]; omega
    · rw [List.take_of_length_le (by omega)]
@[go_sem] def smax_p (l : List Nat) : Prop := (0 < l.length)
def sp_smax : List D → Option (Prop × D × Fr)
  | [.c (.sl z5)] => some (z5 = u64s (du64s z5) ∧ smax_p (du64s z5), smax_r (du64s z5), [])
  | _ => none
attribute [go_sem] sp_smax
theorem sp_smax_ok : ∀ rs p r fr, sp_smax rs = some (p, r, fr) → p → FnOk Try.prog 79 rs r fr := by
  intro rs p r fr h hp
  unfold sp_smax at h
  split at h <;> cases h
  obtain ⟨hc0, hp⟩ := hp
  rename_i z5
  obtain ⟨z5, rfl⟩ : ∃ m, z5 = u64s m := ⟨_, hc0⟩
  simp only [du64s_u64s]
  simp only [du64s_u64s, smax_p] at hp
  exact smax_ok z5 hp
def monS (l : List Nat) : Int := if l.all (fun n => decide (n ≤ 4611686018427387904)) = true then 0 else 1
theorem max_all {l : List Nat} {m : Nat} : l.foldl max m ≤ 4611686018427387904 ↔ m ≤ 4611686018427387904 ∧ l.all (fun n => decide (n ≤ 4611686018427387904)) = true := by
  induction l generalizing m with
  | nil => simp
  | cons x l ih =>
    rw [List.foldl_cons, ih, List.all_cons]
    simp only [Bool.and_eq_true, decide_eq_true_eq, ← and_assoc]
    refine and_congr_left fun _ => ?_
    omega
@[go_sem] def moncheck_r (l : List Nat) : D := .int .i64 (monS l)
@[go_sem] abbrev n_moncheck : FuncId := 54
@[go_sem] def moncheck_T : Tab := [(79, sp_smax)]
theorem moncheck_T_ok : TabOk Try.prog moncheck_T := (TabOk.cons sp_smax_ok TabOk.nil)
set_option maxRecDepth 8000 in
set_option maxHeartbeats 1000000 in
theorem moncheck_ok (l : List Nat)  : PureFn Try.prog 54 [.sl (u64s l)] (moncheck_r l) := by
  refine .of (ac54 moncheck_T_ok (Nat.le_of_ble_eq_true rfl) ?_)
  simp -implicitDefEqProofs only [cd_t, cd_f, cd_dec, cd_not, cd_and, cd_or, grd_tt, grd_ff, grd_tf, grd_ft, grd_dt, grd_df, grd_nt, grd_nf, go_sem, Go.Proofs.Try.f54, reduceIte, reduceCtorEq, Nat.reduceEqDiff, Nat.reduceAdd, Nat.reduceLeDiff, Nat.reduceSub, Nat.reduceMul, Nat.reduceLT, Nat.reduceShiftRight, Nat.reduceMod, Int.reduceLE, Int.reduceLT, Int.reduceToNat, decide_true, Bool.and_self, Bool.true_and, Ob.map.injEq, Ob.it.injEq, List.cons.injEq, true_and, and_true]
  have hm := max_all (l := l) (m := 0)
  refine fun h => ⟨fun h1 => ⟨by omega, fun h2 => ?_, fun h2 => ?_⟩, fun h1 => ?_⟩
  · rw [monS, if_neg]; intro h3; have := hm.2 ⟨by omega, h3⟩; unfold maxS at h2; omega
  · rw [monS, if_pos]; unfold maxS at h2; exact (hm.1 (by omega)).2
  · have : l = [] := List.eq_nil_of_length_eq_zero (by omega)
    subst this; rfl
def sp_moncheck : List D → Option (Prop × D × Fr)
  | [.c (.sl z6)] => some (z6 = u64s (du64s z6), moncheck_r (du64s z6), [])
  | _ => none
attribute [go_sem] sp_moncheck
theorem sp_moncheck_ok : ∀ rs p r fr, sp_moncheck rs = some (p, r, fr) → p → FnOk Try.prog 54 rs r fr := by
  intro rs p r fr h hp
  unfold sp_moncheck at h
  split at h <;> cases h
  have hc0 := hp
  rename_i z6
  obtain ⟨z6, rfl⟩ : ∃ m, z6 = u64s m := ⟨_, hc0⟩
  simp only [du64s_u64s]
  exact moncheck_ok z6
/-- Together, or too much. -/
def addM (l : List Nat) : Nat × Int := if monS l = 0 then (if l.sum ≤ 4611686018427387904 then (l.sum, 0) else (0, 8)) else (0, 1)
theorem sum_take {l : List Nat} {i : Nat} (h : i < l.length) : (l.take (i + 1)).sum = (l.take i).sum + l.getD i default := by
  rw [take_succ h]; simp
theorem sum_le {l : List Nat} {i : Nat} : (l.take i).sum ≤ l.sum := by
  conv => rhs; rw [← List.take_append_drop i l]
  rw [List.sum_append]
  omega
theorem monS_get {l : List Nat} (h : monS l = 0) {i : Nat} (hi : i < l.length) : l.getD i default ≤ 4611686018427387904 := by
  unfold monS at h
  split at h
  · rename_i h1
    have := List.all_eq_true.1 h1 _ (mem_getD.2 ⟨i, hi, rfl⟩)
    simpa using this
  · cases h
theorem monS_1 {l : List Nat} (h : ¬ monS l = 0) : monS l = 1 := by
  unfold monS at *; split <;> simp_all
@[go_sem] def monadd_r (l : List Nat) : D := .tup [.int .u64 ((addM l).1 : Int), .int .i64 (addM l).2]
@[go_sem] abbrev n_monadd : FuncId := 56
@[go_sem] def monadd_T : Tab := [(54, sp_moncheck)]
theorem monadd_T_ok : TabOk Try.prog monadd_T := (TabOk.cons sp_moncheck_ok TabOk.nil)
set_option maxRecDepth 8000 in
set_option maxHeartbeats 1000000 in
theorem monadd_ok (l : List Nat)  : PureFn Try.prog 56 [.sl (u64s l)] (monadd_r l) := by
  refine .of (ac56 monadd_T_ok (Nat.le_of_ble_eq_true rfl) ?_)
  simp -implicitDefEqProofs only [cd_t, cd_f, cd_dec, cd_not, cd_and, cd_or, grd_tt, grd_ff, grd_tf, grd_ft, grd_dt, grd_df, grd_nt, grd_nf, go_sem, Go.Proofs.Try.f56, reduceIte, reduceCtorEq, Nat.reduceEqDiff, Nat.reduceAdd, Nat.reduceLeDiff, Nat.reduceSub, Nat.reduceMul, Nat.reduceLT, Nat.reduceShiftRight, Nat.reduceMod, Int.reduceLE, Int.reduceLT, Int.reduceToNat, decide_true, Bool.and_self, Bool.true_and, Ob.map.injEq, Ob.it.injEq, List.cons.injEq, true_and, and_true]
  refine ⟨fun h hl => ?_, fun h => ?_⟩
  · refine SWp.loop (ι := { i : Nat // i ≤ l.length ∧ (l.take i).sum ≤ 4611686018427387904 }) (fun i => ⟨[(2, .int .u64 ((l.take i.1).sum : Nat)), (11, .sl (u64s l)), (12, .int .i64 l.length), (13, .int .i64 i.1)], [], 0⟩) (fun i => l.length - i.1) ⟨0, by simp⟩ ?_ ?_
    · simp [go_sem]
    · rintro ⟨i, hi, hs⟩
      refine awp_sound monadd_T_ok.toS lv56 _ _ _ rfl ?_
      simp -implicitDefEqProofs only [cd_t, cd_f, cd_dec, cd_not, cd_and, cd_or, grd_tt, grd_ff, grd_tf, grd_ft, grd_dt, grd_df, grd_nt, grd_nf, go_sem, reduceIte, reduceCtorEq, Nat.reduceEqDiff, Nat.reduceAdd, Nat.reduceLeDiff, Nat.reduceSub, Nat.reduceMul, Nat.reduceLT, Nat.reduceShiftRight, Nat.reduceMod, Int.reduceLE, Int.reduceLT, Int.reduceToNat, decide_true, Bool.and_self, Bool.true_and, Ob.map.injEq, Ob.it.injEq, List.cons.injEq, true_and, and_true]
      refine ⟨fun h1 => ?_, fun h1 => ?_⟩
      · have hi' : i < l.length := by omega
        have hg := monS_get h hi'
        have hst := sum_take hi'
        have hle := sum_le (l := l) (i := i + 1)
        rw [u64_in _ (by omega)]
        refine ⟨by omega, fun h2 => ?_, fun h2 => ⟨⟨i + 1, by omega, by omega⟩, by dsimp only; omega, by dsimp only; omega, i64_in _ (by omega)⟩⟩
        rw [addM, if_pos h, if_neg (by omega)]; exact ⟨rfl, rfl⟩
      · rw [List.take_of_length_le (by omega)] at hs ⊢
        rw [addM, if_pos h, if_pos hs]; exact ⟨rfl, rfl⟩
  · rw [addM, if_neg h]
    exact ⟨rfl, monS_1 h⟩
def sp_monadd : List D → Option (Prop × D × Fr)
  | [.c (.sl z7)] => some (z7 = u64s (du64s z7), monadd_r (du64s z7), [])
  | _ => none
attribute [go_sem] sp_monadd
theorem sp_monadd_ok : ∀ rs p r fr, sp_monadd rs = some (p, r, fr) → p → FnOk Try.prog 56 rs r fr := by
  intro rs p r fr h hp
  unfold sp_monadd at h
  split at h <;> cases h
  have hc0 := hp
  rename_i z7
  obtain ⟨z7, rfl⟩ : ∃ m, z7 = u64s m := ⟨_, hc0⟩
  simp only [du64s_u64s]
  exact monadd_ok z7
theorem mon1 (n : Nat) : monS [n] = if n ≤ 4611686018427387904 then 0 else 1 := by simp [monS]
theorem mon1_0 {n : Nat} : monS [n] = 0 ↔ n ≤ 4611686018427387904 := by rw [mon1]; split <;> simp_all
theorem mon2 (a b : Nat) : monS [a, b] = if a ≤ 4611686018427387904 ∧ b ≤ 4611686018427387904 then 0 else 1 := by simp [monS]
theorem addM_0 {l : List Nat} : (addM l).2 = 0 ↔ (∀ x ∈ l, x ≤ 4611686018427387904) ∧ l.sum ≤ 4611686018427387904 := by
  unfold addM monS
  simp only [List.all_eq_true, decide_eq_true_eq]
  by_cases h : ∀ x ∈ l, x ≤ 4611686018427387904
  · rw [if_pos h]
    by_cases h2 : l.sum ≤ 4611686018427387904
    · simp [h2]; exact h
    · simp [h2]
  · rw [if_neg h]; simp [h]
theorem addM_1 {l : List Nat} (h : (addM l).2 = 0) : (addM l).1 = l.sum := by
  have h1 := addM_0.1 h
  unfold addM monS
  simp only [List.all_eq_true, decide_eq_true_eq]
  rw [if_pos h1.1, if_pos rfl, if_pos h1.2]
/-- One less another, or there is not as much. -/
def subM (a b : Nat) : Nat × Int := if a ≤ 4611686018427387904 ∧ b ≤ 4611686018427387904 then (if b ≤ a then (a - b, 0) else (0, 9)) else (0, 1)
@[go_sem] def monsub_r (a : Nat) (b : Nat) : D := .tup [.int .u64 ((subM a b).1 : Int), .int .i64 (subM a b).2]
@[go_sem] abbrev n_monsub : FuncId := 36
@[go_sem] def monsub_T : Tab := [ovk 57, (54, sp_moncheck)]
theorem monsub_T_ok : TabOk Try.prog monsub_T := (TabOk.cons (ov_ok 57) (TabOk.cons sp_moncheck_ok TabOk.nil))
set_option maxRecDepth 8000 in
set_option maxHeartbeats 1000000 in
theorem monsub_ok (a : Nat) (b : Nat)  : PureFn Try.prog 36 [.c (.int .u64 (a : Int)), .c (.int .u64 (b : Int))] (monsub_r a b) := by
  refine .of (ac36 monsub_T_ok (Nat.le_of_ble_eq_true rfl) ?_)
  simp -implicitDefEqProofs only [cd_t, cd_f, cd_dec, cd_not, cd_and, cd_or, grd_tt, grd_ff, grd_tf, grd_ft, grd_dt, grd_df, grd_nt, grd_nf, go_sem, Go.Proofs.Try.f36, reduceIte, reduceCtorEq, Nat.reduceEqDiff, Nat.reduceAdd, Nat.reduceLeDiff, Nat.reduceSub, Nat.reduceMul, Nat.reduceLT, Nat.reduceShiftRight, Nat.reduceMod, Int.reduceLE, Int.reduceLT, Int.reduceToNat, decide_true, Bool.and_self, Bool.true_and, Ob.map.injEq, Ob.it.injEq, List.cons.injEq, true_and, and_true]
  refine ⟨⟨_, rfl, rfl, rfl, rfl, by kernel_rfl⟩, ?_⟩
  rw [mon2, subM]
  by_cases h : a ≤ 4611686018427387904 ∧ b ≤ 4611686018427387904
  · simp only [if_pos h]
    refine ⟨fun _ => ⟨fun h1 => ?_, fun h1 => ?_⟩, fun h1 => absurd trivial h1⟩
    · have : ¬ b ≤ a := fun h2 => by rw [if_neg (by omega)] at h1; omega
      rw [if_neg this]; exact ⟨rfl, rfl⟩
    · have : b ≤ a := by
        refine Classical.byContradiction fun h2 => ?_
        rw [if_pos (by omega)] at h1; omega
      rw [if_pos this]; exact ⟨by dsimp only; omega, rfl⟩
  · simp only [if_neg h]
    refine ⟨fun h => ?_, fun _ => by simp⟩
    first | exact absurd h (by decide) | cases h
def sp_monsub : List D → Option (Prop × D × Fr)
  | [.c (.int .u64 z8), .c (.int .u64 z9)] => some (z8 = (z8.toNat : Int) ∧ z9 = (z9.toNat : Int), monsub_r z8.toNat z9.toNat, [])
  | _ => none
attribute [go_sem] sp_monsub
theorem sp_monsub_ok : ∀ rs p r fr, sp_monsub rs = some (p, r, fr) → p → FnOk Try.prog 36 rs r fr := by
  intro rs p r fr h hp
  unfold sp_monsub at h
  split at h <;> cases h
  obtain ⟨hc0, hc1⟩ := hp
  rename_i z8 z9
  obtain ⟨z8, rfl⟩ : ∃ m : Nat, z8 = m := ⟨_, hc0⟩
  obtain ⟨z9, rfl⟩ : ∃ m : Nat, z9 = m := ⟨_, hc1⟩
  simp only [Int.toNat_natCast]
  exact monsub_ok z8 z9
end Dm
namespace Dm
open Go Go.Proofs Go.IntWalk
/-- api.Hold -/
structure Hd where
  id : Nat
  n : Nat
deriving DecidableEq, Inhabited
@[go_sem] def Hd.enc (e : Hd) : List C := [.int .u64 (e.id : Int), .int .u64 (e.n : Int)]
def Hd.dec : List C → Hd
  | [.int .u64 z11, .int .u64 z12] => (⟨z11.toNat, z12.toNat⟩ : Hd)
  | _ => default
def hds (l : List Hd) : List (List C) := l.map Hd.enc
def dhds (l : List (List C)) : List Hd := l.map Hd.dec
@[simp, go_sem] theorem hds_length (l : List Hd) : (hds l).length = l.length := by simp [hds]
@[go_sem] theorem hds_get (l : List Hd) (i : Nat) : (hds l).getD i [.int .u64 0, .int .u64 0] = (l.getD i default).enc := by
  simp only [hds, List.getD_eq_getElem?_getD, List.getElem?_map]
  cases l[i]? <;> rfl
@[go_sem] theorem hds_wide (l : List Hd) : Wide 2 (hds l) = True := by
  simp [Wide, hds, Hd.enc]
theorem Hd.dec_enc (e : Hd) : Hd.dec e.enc = e := by
  simp [Hd.enc, Hd.dec]
@[go_sem] theorem dhds_hds (l : List Hd) : dhds (hds l) = l := by
  simp only [dhds, hds, List.map_map]
  exact List.map_id'' (fun e => Hd.dec_enc e) l
@[go_sem] theorem hds_app (a b : List Hd) : hds a ++ hds b = hds (a ++ b) := by simp [hds]
@[go_sem] theorem hds_drop (l : List Hd) (k : Nat) : (hds l).drop k = hds (l.drop k) := by simp [hds]
@[go_sem] theorem hds_take (l : List Hd) (k : Nat) : (hds l).take k = hds (l.take k) := by simp [hds]
@[go_sem] theorem hds_one (z13 : Int) (z14 : Int) (hz13 : 0 ≤ z13) (hz14 : 0 ≤ z14) : [[C.int .u64 z13, C.int .u64 z14]] = hds [⟨z13.toNat, z14.toNat⟩] := by simp [hds, Hd.enc, Int.toNat_of_nonneg hz13, Int.toNat_of_nonneg hz14]
@[go_sem] theorem hds_set (l : List Hd) (i : Nat) (z13 : Int) (z14 : Int) (hz13 : 0 ≤ z13) (hz14 : 0 ≤ z14) : (hds l).set i [C.int .u64 z13, C.int .u64 z14] = hds (l.set i ⟨z13.toNat, z14.toNat⟩) := by simp [hds, List.map_set, Hd.enc, Int.toNat_of_nonneg hz13, Int.toNat_of_nonneg hz14]
@[go_sem] theorem hds_cons (l : List Hd) (z13 : Int) (z14 : Int) (hz13 : 0 ≤ z13) (hz14 : 0 ≤ z14) : [C.int .u64 z13, C.int .u64 z14] :: hds l = hds (⟨z13.toNat, z14.toNat⟩ :: l) := by simp [hds, Hd.enc, Int.toNat_of_nonneg hz13, Int.toNat_of_nonneg hz14]
@[go_sem] theorem hds_flat (l : List Hd) : flatE (hds l) = True := eq_true fun x hx c hc => by
  obtain ⟨e, _, rfl⟩ := List.mem_map.1 hx
  simp only [Hd.enc, List.mem_cons, List.not_mem_nil, or_false] at hc
  rcases hc with rfl | rfl <;> rfl
@[go_sem] theorem Hd.eta {e : Hd} : (⟨e.id, e.n⟩ : Hd) = e := rfl
/-- api.Channel -/
structure Ch where
  id : Nat
  loc : Nat
  rem : Nat
  res : Nat
  most : Nat
  holds : List Hd
  op : Bool
deriving DecidableEq, Inhabited
@[go_sem] def Ch.enc (e : Ch) : List C := [.int .u64 (e.id : Int), .int .u64 (e.loc : Int), .int .u64 (e.rem : Int), .int .u64 (e.res : Int), .int .u64 (e.most : Int), .sl (hds e.holds), .bool e.op]
def Ch.dec : List C → Ch
  | [.int .u64 z16, .int .u64 z17, .int .u64 z18, .int .u64 z19, .int .u64 z20, .sl z21, .bool z22] => (⟨z16.toNat, z17.toNat, z18.toNat, z19.toNat, z20.toNat, (dhds z21), z22⟩ : Ch)
  | _ => default
def chs (l : List Ch) : List (List C) := l.map Ch.enc
def dchs (l : List (List C)) : List Ch := l.map Ch.dec
@[simp, go_sem] theorem chs_length (l : List Ch) : (chs l).length = l.length := by simp [chs]
@[go_sem] theorem chs_get (l : List Ch) (i : Nat) : (chs l).getD i [.int .u64 0, .int .u64 0, .int .u64 0, .int .u64 0, .int .u64 0, .sl [], .bool false] = (l.getD i default).enc := by
  simp only [chs, List.getD_eq_getElem?_getD, List.getElem?_map]
  cases l[i]? <;> rfl
@[go_sem] theorem chs_wide (l : List Ch) : Wide 7 (chs l) = True := by
  simp [Wide, chs, Ch.enc]
theorem Ch.dec_enc (e : Ch) : Ch.dec e.enc = e := by
  simp [Ch.enc, Ch.dec, dhds_hds]
@[go_sem] theorem dchs_chs (l : List Ch) : dchs (chs l) = l := by
  simp only [dchs, chs, List.map_map]
  exact List.map_id'' (fun e => Ch.dec_enc e) l
@[go_sem] theorem chs_app (a b : List Ch) : chs a ++ chs b = chs (a ++ b) := by simp [chs]
@[go_sem] theorem chs_drop (l : List Ch) (k : Nat) : (chs l).drop k = chs (l.drop k) := by simp [chs]
@[go_sem] theorem chs_take (l : List Ch) (k : Nat) : (chs l).take k = chs (l.take k) := by simp [chs]
@[go_sem] theorem chs_one (z23 : Int) (z24 : Int) (z25 : Int) (z26 : Int) (z27 : Int) (z28 : List Hd) (z29 : Bool) (hz23 : 0 ≤ z23) (hz24 : 0 ≤ z24) (hz25 : 0 ≤ z25) (hz26 : 0 ≤ z26) (hz27 : 0 ≤ z27) : [[C.int .u64 z23, C.int .u64 z24, C.int .u64 z25, C.int .u64 z26, C.int .u64 z27, C.sl (hds z28), C.bool z29]] = chs [⟨z23.toNat, z24.toNat, z25.toNat, z26.toNat, z27.toNat, z28, z29⟩] := by simp [chs, Ch.enc, Int.toNat_of_nonneg hz23, Int.toNat_of_nonneg hz24, Int.toNat_of_nonneg hz25, Int.toNat_of_nonneg hz26, Int.toNat_of_nonneg hz27]
@[go_sem] theorem chs_set (l : List Ch) (i : Nat) (z23 : Int) (z24 : Int) (z25 : Int) (z26 : Int) (z27 : Int) (z28 : List Hd) (z29 : Bool) (hz23 : 0 ≤ z23) (hz24 : 0 ≤ z24) (hz25 : 0 ≤ z25) (hz26 : 0 ≤ z26) (hz27 : 0 ≤ z27) : (chs l).set i [C.int .u64 z23, C.int .u64 z24, C.int .u64 z25, C.int .u64 z26, C.int .u64 z27, C.sl (hds z28), C.bool z29] = chs (l.set i ⟨z23.toNat, z24.toNat, z25.toNat, z26.toNat, z27.toNat, z28, z29⟩) := by simp [chs, List.map_set, Ch.enc, Int.toNat_of_nonneg hz23, Int.toNat_of_nonneg hz24, Int.toNat_of_nonneg hz25, Int.toNat_of_nonneg hz26, Int.toNat_of_nonneg hz27]
@[go_sem] theorem chs_cons (l : List Ch) (z23 : Int) (z24 : Int) (z25 : Int) (z26 : Int) (z27 : Int) (z28 : List Hd) (z29 : Bool) (hz23 : 0 ≤ z23) (hz24 : 0 ≤ z24) (hz25 : 0 ≤ z25) (hz26 : 0 ≤ z26) (hz27 : 0 ≤ z27) : [C.int .u64 z23, C.int .u64 z24, C.int .u64 z25, C.int .u64 z26, C.int .u64 z27, C.sl (hds z28), C.bool z29] :: chs l = chs (⟨z23.toNat, z24.toNat, z25.toNat, z26.toNat, z27.toNat, z28, z29⟩ :: l) := by simp [chs, Ch.enc, Int.toNat_of_nonneg hz23, Int.toNat_of_nonneg hz24, Int.toNat_of_nonneg hz25, Int.toNat_of_nonneg hz26, Int.toNat_of_nonneg hz27]
@[go_sem] theorem Ch.eta {e : Ch} : (⟨e.id, e.loc, e.rem, e.res, e.most, e.holds, e.op⟩ : Ch) = e := rfl
def Hd.key (h : Hd) : Nat := h.id
/-- What is held. -/
def held (l : List Hd) : Nat := (l.map Hd.n).sum
abbrev ltN (a b : Nat) : Prop := a < b
abbrev MM : Nat := 4611686018427387904
/-- May a channel be? -/
def okCh (c : Ch) : Prop := c.res ≤ MM ∧ c.most ≤ MM ∧ c.holds.length ≤ 64 ∧ (c.op = false → c.holds = []) ∧ (∀ h ∈ c.holds, h.n ≠ 0) ∧ Srt.Chn Hd.key ltN c.holds ∧ held c.holds ≤ c.most ∧ c.loc ≤ MM ∧ c.rem ≤ MM ∧ held c.holds + c.loc + c.rem ≤ MM
instance (l : List Hd) : Decidable (Srt.Chn Hd.key ltN l) := by unfold Srt.Chn; infer_instance
instance (c : Ch) : Decidable (okCh c) := by unfold okCh; infer_instance
def sumsC (c : Ch) : Nat × Nat × Int := if okCh c then (held c.holds, held c.holds + c.loc + c.rem, 0) else (0, 0, 1)
@[go_sem] def horder_r (h : Hd) (id : Nat) : D := .int .i64 (cmpS h.id id)
@[go_sem] abbrev n_horder : FuncId := 55
@[go_sem] def horder_T : Tab := [(34, sp_cmp)]
theorem horder_T_ok : TabOk Try.prog horder_T := (TabOk.cons sp_cmp_ok TabOk.nil)
set_option maxRecDepth 8000 in
set_option maxHeartbeats 1000000 in
theorem horder_ok (h : Hd) (id : Nat)  : PureFn Try.prog 55 [.agg [.c (.int .u64 (h.id : Int)), .c (.int .u64 (h.n : Int))], .c (.int .u64 (id : Int))] (horder_r h id) := by
  refine .of (ac55 horder_T_ok (Nat.le_of_ble_eq_true rfl) ?_)
  simp -implicitDefEqProofs only [cd_t, cd_f, cd_dec, cd_not, cd_and, cd_or, grd_tt, grd_ff, grd_tf, grd_ft, grd_dt, grd_df, grd_nt, grd_nf, go_sem, Go.Proofs.Try.f55, reduceIte, reduceCtorEq, Nat.reduceEqDiff, Nat.reduceAdd, Nat.reduceLeDiff, Nat.reduceSub, Nat.reduceMul, Nat.reduceLT, Nat.reduceShiftRight, Nat.reduceMod, Int.reduceLE, Int.reduceLT, Int.reduceToNat, decide_true, Bool.and_self, Bool.true_and, Ob.map.injEq, Ob.it.injEq, List.cons.injEq, true_and, and_true]
def sp_horder : List D → Option (Prop × D × Fr)
  | [.agg [.c (.int .u64 z31), .c (.int .u64 z32)], .c (.int .u64 z33)] => some (z31 = (z31.toNat : Int) ∧ z32 = (z32.toNat : Int) ∧ z33 = (z33.toNat : Int), horder_r (⟨z31.toNat, z32.toNat⟩ : Hd) z33.toNat, [])
  | _ => none
attribute [go_sem] sp_horder
theorem sp_horder_ok : ∀ rs p r fr, sp_horder rs = some (p, r, fr) → p → FnOk Try.prog 55 rs r fr := by
  intro rs p r fr h hp
  unfold sp_horder at h
  split at h <;> cases h
  obtain ⟨hc0, hc1, hc2⟩ := hp
  rename_i z31 z32 z33
  obtain ⟨z31, rfl⟩ : ∃ m : Nat, z31 = m := ⟨_, hc0⟩
  obtain ⟨z32, rfl⟩ : ∃ m : Nat, z32 = m := ⟨_, hc1⟩
  obtain ⟨z33, rfl⟩ : ∃ m : Nat, z33 = m := ⟨_, hc2⟩
  simp only [Int.toNat_natCast]
  exact horder_ok ⟨z31, z32⟩ z33
@[go_sem] def csums_r (c : Ch) : D := .tup [.int .u64 ((sumsC c).1 : Int), .int .u64 ((sumsC c).2.1 : Int), .int .i64 (sumsC c).2.2]
@[go_sem] abbrev n_csums : FuncId := 35
@[go_sem] def csums_T : Tab := [(54, sp_moncheck), (56, sp_monadd), (55, sp_horder)]
theorem csums_T_ok : TabOk Try.prog csums_T := (TabOk.cons sp_moncheck_ok (TabOk.cons sp_monadd_ok (TabOk.cons sp_horder_ok TabOk.nil)))
set_option maxRecDepth 8000 in
set_option maxHeartbeats 1000000 in
theorem csums_ok (c : Ch)  : PureFn Try.prog 35 [.agg [.c (.int .u64 (c.id : Int)), .c (.int .u64 (c.loc : Int)), .c (.int .u64 (c.rem : Int)), .c (.int .u64 (c.res : Int)), .c (.int .u64 (c.most : Int)), .sl (hds c.holds), .c (.bool c.op)]] (csums_r c) := by
  refine .of (ac35 csums_T_ok (Nat.le_of_ble_eq_true rfl) ?_)
  simp -implicitDefEqProofs only [cd_t, cd_f, cd_dec, cd_not, cd_and, cd_or, grd_tt, grd_ff, grd_tf, grd_ft, grd_dt, grd_df, grd_nt, grd_nf, go_sem, Go.Proofs.Try.f35, reduceIte, reduceCtorEq, Nat.reduceEqDiff, Nat.reduceAdd, Nat.reduceLeDiff, Nat.reduceSub, Nat.reduceMul, Nat.reduceLT, Nat.reduceShiftRight, Nat.reduceMod, Int.reduceLE, Int.reduceLT, Int.reduceToNat, decide_true, Bool.and_self, Bool.true_and, Ob.map.injEq, Ob.it.injEq, List.cons.injEq, true_and, and_true]
  have hbad : ¬ okCh c → 0 = ((sumsC c).1 : Int) ∧ 0 = ((sumsC c).2.1 : Int) ∧ 1 = (sumsC c).2.2 := fun h => by simp [sumsC, if_neg h]
  have hmon : monS [c.res, c.most] = 0 ↔ c.res ≤ MM ∧ c.most ≤ MM := by rw [mon2]; split <;> simp_all
  rw [hmon]
  refine ⟨fun h1 hl => ⟨fun h2 => ⟨fun h3 _ => ⟨fun h4 => hbad fun h => ?_, fun h4 _ => ?_⟩, fun h3 _ => ?_⟩, fun h2 => hbad fun h => ?_⟩, fun h1 => hbad fun h => h1 ⟨h.1, h.2.1⟩⟩
  · have := h.2.2.2.1 (by simpa using h3)
    rw [this] at h4; simp at h4
  rotate_left 2
  · have := h.2.2.1; omega
  all_goals
    have hop : c.op = false → c.holds = [] := fun h => by first | (rw [h] at h3; cases h3; done) | exact List.eq_nil_of_length_eq_zero (by omega)
    refine SWp.loop (ι := { i : Nat // i ≤ c.holds.length ∧ held (c.holds.take i) ≤ c.most ∧ (∀ j, j < i → (c.holds.getD j default).n ≠ 0 ∧ (0 < j → (c.holds.getD (j - 1) default).id < (c.holds.getD j default).id)) }) (fun i => ⟨[(1, .ref 0 0), (2, .int .u64 (held (c.holds.take i.1) : Nat)), (32, .sl (hds c.holds)), (33, .int .i64 c.holds.length), (34, .int .i64 i.1)],
      [(0, .box [.int .u64 c.id, .int .u64 c.loc, .int .u64 c.rem, .int .u64 c.res, .int .u64 c.most, .sl (hds c.holds), .bool c.op])], 2⟩) (fun i => c.holds.length - i.1) ⟨0, by simp [held]⟩ ?_ ?_
    · simp [go_sem, held]
    · rintro ⟨i, hi, hs, hall⟩
      refine awp_sound csums_T_ok.toS lv35 _ _ _ rfl ?_
      simp -implicitDefEqProofs only [cd_t, cd_f, cd_dec, cd_not, cd_and, cd_or, grd_tt, grd_ff, grd_tf, grd_ft, grd_dt, grd_df, grd_nt, grd_nf, go_sem, reduceIte, reduceCtorEq, Nat.reduceEqDiff, Nat.reduceAdd, Nat.reduceLeDiff, Nat.reduceSub, Nat.reduceMul, Nat.reduceLT, Nat.reduceShiftRight, Nat.reduceMod, Int.reduceLE, Int.reduceLT, Int.reduceToNat, decide_true, Bool.and_self, Bool.true_and, Ob.map.injEq, Ob.it.injEq, List.cons.injEq, true_and, and_true]
      have hst : i < c.holds.length → held (c.holds.take (i + 1)) = held (c.holds.take i) + (c.holds.getD i default).n := fun h => by rw [take_succ h, held, List.map_append, List.sum_append]; simp [held]
      have hle : held (c.holds.take (i + 1)) ≤ held c.holds := by
        conv => rhs; rw [← List.take_append_drop (i + 1) c.holds, held, List.map_append, List.sum_append]
        exact Nat.le_add_right _ _
      refine ⟨fun h5 => ⟨by omega, ?_⟩, fun h5 => ?_⟩
      · refine ADraw.run us35_6 csums_T_ok follows_mixed (by kernel_rfl) (by kernel_rfl) ?_
        simp -implicitDefEqProofs only [cd_t, cd_f, cd_dec, cd_not, cd_and, cd_or, grd_tt, grd_ff, grd_tf, grd_ft, grd_dt, grd_df, grd_nt, grd_nf, go_sem, reduceIte, reduceCtorEq, Nat.reduceEqDiff, Nat.reduceAdd, Nat.reduceLeDiff, Nat.reduceSub, Nat.reduceMul, Nat.reduceLT, Nat.reduceShiftRight, Nat.reduceMod, Int.reduceLE, Int.reduceLT, Int.reduceToNat, decide_true, Bool.and_self, Bool.true_and, Ob.map.injEq, Ob.it.injEq, List.cons.injEq, true_and, and_true]
        have hi' : i < c.holds.length := by omega
        have hst := hst hi'
        have hnext : (0 < i → (c.holds.getD (i - 1) default).id < (c.holds.getD i default).id) → (c.holds.getD i default).n ≠ 0 →
            ((addM [held (c.holds.take i), (c.holds.getD i default).n]).2 = 0 →
              ((c.most : Int) < ((addM [held (c.holds.take i), (c.holds.getD i default).n]).1 : Int) → 0 = ((sumsC c).1 : Int) ∧ 0 = ((sumsC c).2.1 : Int) ∧ 1 = (sumsC c).2.2) ∧
              (¬ (c.most : Int) < ((addM [held (c.holds.take i), (c.holds.getD i default).n]).1 : Int) → ∃ i_1 : { i : Nat // i ≤ c.holds.length ∧ held (c.holds.take i) ≤ c.most ∧ (∀ j, j < i → (c.holds.getD j default).n ≠ 0 ∧ (0 < j → (c.holds.getD (j - 1) default).id < (c.holds.getD j default).id)) },
                c.holds.length - i_1.val < c.holds.length - i ∧ ((addM [held (c.holds.take i), (c.holds.getD i default).n]).1 : Int) = (held (c.holds.take i_1.val) : Nat) ∧ IntKind.i64.wrap ((i : Int) + 1) = i_1.val)) ∧
            (¬ (addM [held (c.holds.take i), (c.holds.getD i default).n]).2 = 0 → 0 = ((sumsC c).1 : Int) ∧ 0 = ((sumsC c).2.1 : Int) ∧ 1 = (sumsC c).2.2) := fun ho hn => by
          refine ⟨fun h6 => ?_, fun h6 => hbad fun h => h6 (addM_0.2 ?_)⟩
          · have h7 := addM_1 h6
            simp only [List.sum_cons, List.sum_nil, Nat.add_zero] at h7
            rw [h7]
            refine ⟨fun h8 => hbad fun h => ?_, fun h8 => ⟨⟨i + 1, hi', by omega, fun j hj => ?_⟩, by dsimp only; omega, by dsimp only; omega, i64_in _ (by omega)⟩⟩
            · have := h.2.2.2.2.2.2.1; omega
            · by_cases hji : j = i
              · subst hji; exact ⟨hn, ho⟩
              · exact hall j (by omega)
          · have := h.2.2.2.2.2.2.1
            have := h.2.1
            simp only [List.mem_cons, List.not_mem_nil, or_false, forall_eq_or_imp, forall_eq, List.sum_cons, List.sum_nil]
            unfold MM at *
            omega
        refine ⟨fun h6 => ⟨fun h7 => ?_, fun h7 => hnext (fun h => absurd h (by omega)) (by omega)⟩, fun h6 => hbad fun h => h.2.2.2.2.1 _ (mem_getD.2 ⟨i, hi', rfl⟩) (by omega)⟩
        rw [i64_in _ (by omega), show ((i : Int) - 1).toNat = i - 1 by omega]
        have hc : ∀ a b : Nat, 0 ≤ cmpS a b ↔ ¬ a < b := fun a b => by
          have := cmpS_neg (x := a) (y := b); omega
        rw [hc]
        refine ⟨by omega, fun h8 => hbad fun h => h8 (h.2.2.2.2.2.1 i hi' (by omega)), fun h8 => hnext (fun _ => by omega) (by omega)⟩
      · have hi' : i = c.holds.length := by omega
        subst hi'
        rw [List.take_length] at hs ⊢
        refine ⟨fun h6 => ?_, fun h6 => hbad fun h => h6 (addM_0.2 ?_)⟩
        · have h7 := addM_1 h6
          have h8 := addM_0.1 h6
          simp only [List.mem_cons, List.not_mem_nil, or_false, forall_eq_or_imp, forall_eq, List.sum_cons, List.sum_nil] at h7 h8
          have hok : okCh c := ⟨h1.1, h1.2, by omega, hop, fun x hx => by obtain ⟨j, hj, rfl⟩ := mem_getD.1 hx; exact (hall j hj).1, fun j hj h0 => (hall j hj).2 h0, hs, h8.1.2.1, h8.1.2.2, by unfold MM; omega⟩
          rw [sumsC, if_pos hok, h7]
          exact ⟨rfl, by dsimp only; omega, rfl⟩
        · have := h.2.2.2.2.2.2
          have := h.2.1
          simp only [List.mem_cons, List.not_mem_nil, or_false, forall_eq_or_imp, forall_eq, List.sum_cons, List.sum_nil]
          unfold MM at *
          omega
def sp_csums : List D → Option (Prop × D × Fr)
  | [.agg [.c (.int .u64 z35), .c (.int .u64 z36), .c (.int .u64 z37), .c (.int .u64 z38), .c (.int .u64 z39), .c (.sl z40), .c (.bool z41)]] => some (z35 = (z35.toNat : Int) ∧ z36 = (z36.toNat : Int) ∧ z37 = (z37.toNat : Int) ∧ z38 = (z38.toNat : Int) ∧ z39 = (z39.toNat : Int) ∧ z40 = hds (dhds z40), csums_r (⟨z35.toNat, z36.toNat, z37.toNat, z38.toNat, z39.toNat, (dhds z40), z41⟩ : Ch), [])
  | _ => none
attribute [go_sem] sp_csums
theorem sp_csums_ok : ∀ rs p r fr, sp_csums rs = some (p, r, fr) → p → FnOk Try.prog 35 rs r fr := by
  intro rs p r fr h hp
  unfold sp_csums at h
  split at h <;> cases h
  obtain ⟨hc0, hc1, hc2, hc3, hc4, hc5⟩ := hp
  rename_i z35 z36 z37 z38 z39 z40 z41
  obtain ⟨z35, rfl⟩ : ∃ m : Nat, z35 = m := ⟨_, hc0⟩
  obtain ⟨z36, rfl⟩ : ∃ m : Nat, z36 = m := ⟨_, hc1⟩
  obtain ⟨z37, rfl⟩ : ∃ m : Nat, z37 = m := ⟨_, hc2⟩
  obtain ⟨z38, rfl⟩ : ∃ m : Nat, z38 = m := ⟨_, hc3⟩
  obtain ⟨z39, rfl⟩ : ∃ m : Nat, z39 = m := ⟨_, hc4⟩
  obtain ⟨z40, rfl⟩ : ∃ m, z40 = hds m := ⟨_, hc5⟩
  simp only [Int.toNat_natCast, dhds_hds]
  exact csums_ok ⟨z35, z36, z37, z38, z39, z40, z41⟩
theorem sumsC_0 {c : Ch} : (sumsC c).2.2 = 0 ↔ okCh c := by unfold sumsC; split <;> simp_all
@[go_sem] def call_r (c : Ch) : D := .tup [.int .u64 ((sumsC c).2.1 : Int), .int .i64 (sumsC c).2.2]
@[go_sem] abbrev n_call : FuncId := 37
@[go_sem] def call_T : Tab := [(35, sp_csums)]
theorem call_T_ok : TabOk Try.prog call_T := (TabOk.cons sp_csums_ok TabOk.nil)
set_option maxRecDepth 8000 in
set_option maxHeartbeats 1000000 in
theorem call_ok (c : Ch)  : PureFn Try.prog 37 [.agg [.c (.int .u64 (c.id : Int)), .c (.int .u64 (c.loc : Int)), .c (.int .u64 (c.rem : Int)), .c (.int .u64 (c.res : Int)), .c (.int .u64 (c.most : Int)), .sl (hds c.holds), .c (.bool c.op)]] (call_r c) := by
  refine .of (ac37 call_T_ok (Nat.le_of_ble_eq_true rfl) ?_)
  simp -implicitDefEqProofs only [cd_t, cd_f, cd_dec, cd_not, cd_and, cd_or, grd_tt, grd_ff, grd_tf, grd_ft, grd_dt, grd_df, grd_nt, grd_nf, go_sem, Go.Proofs.Try.f37, reduceIte, reduceCtorEq, Nat.reduceEqDiff, Nat.reduceAdd, Nat.reduceLeDiff, Nat.reduceSub, Nat.reduceMul, Nat.reduceLT, Nat.reduceShiftRight, Nat.reduceMod, Int.reduceLE, Int.reduceLT, Int.reduceToNat, decide_true, Bool.and_self, Bool.true_and, Ob.map.injEq, Ob.it.injEq, List.cons.injEq, true_and, and_true]
def sp_call : List D → Option (Prop × D × Fr)
  | [.agg [.c (.int .u64 z43), .c (.int .u64 z44), .c (.int .u64 z45), .c (.int .u64 z46), .c (.int .u64 z47), .c (.sl z48), .c (.bool z49)]] => some (z43 = (z43.toNat : Int) ∧ z44 = (z44.toNat : Int) ∧ z45 = (z45.toNat : Int) ∧ z46 = (z46.toNat : Int) ∧ z47 = (z47.toNat : Int) ∧ z48 = hds (dhds z48), call_r (⟨z43.toNat, z44.toNat, z45.toNat, z46.toNat, z47.toNat, (dhds z48), z49⟩ : Ch), [])
  | _ => none
attribute [go_sem] sp_call
theorem sp_call_ok : ∀ rs p r fr, sp_call rs = some (p, r, fr) → p → FnOk Try.prog 37 rs r fr := by
  intro rs p r fr h hp
  unfold sp_call at h
  split at h <;> cases h
  obtain ⟨hc0, hc1, hc2, hc3, hc4, hc5⟩ := hp
  rename_i z43 z44 z45 z46 z47 z48 z49
  obtain ⟨z43, rfl⟩ : ∃ m : Nat, z43 = m := ⟨_, hc0⟩
  obtain ⟨z44, rfl⟩ : ∃ m : Nat, z44 = m := ⟨_, hc1⟩
  obtain ⟨z45, rfl⟩ : ∃ m : Nat, z45 = m := ⟨_, hc2⟩
  obtain ⟨z46, rfl⟩ : ∃ m : Nat, z46 = m := ⟨_, hc3⟩
  obtain ⟨z47, rfl⟩ : ∃ m : Nat, z47 = m := ⟨_, hc4⟩
  obtain ⟨z48, rfl⟩ : ∃ m, z48 = hds m := ⟨_, hc5⟩
  simp only [Int.toNat_natCast, dhds_hds]
  exact call_ok ⟨z43, z44, z45, z46, z47, z48, z49⟩
def roomC (c : Ch) : Nat × Int := if okCh c then (if c.op = true ∧ c.holds.length ≠ 64 ∧ c.res ≤ c.loc then (min (c.loc - c.res) (c.most - held c.holds), 0) else (0, 0)) else (0, 1)
@[go_sem] def croom_r (c : Ch) : D := .tup [.int .u64 ((roomC c).1 : Int), .int .i64 (roomC c).2]
@[go_sem] abbrev n_croom : FuncId := 12
@[go_sem] def croom_T : Tab := [(35, sp_csums), (36, sp_monsub)]
theorem croom_T_ok : TabOk Try.prog croom_T := (TabOk.cons sp_csums_ok (TabOk.cons sp_monsub_ok TabOk.nil))
set_option maxRecDepth 8000 in
set_option maxHeartbeats 1000000 in
theorem croom_ok (c : Ch)  : PureFn Try.prog 12 [.agg [.c (.int .u64 (c.id : Int)), .c (.int .u64 (c.loc : Int)), .c (.int .u64 (c.rem : Int)), .c (.int .u64 (c.res : Int)), .c (.int .u64 (c.most : Int)), .sl (hds c.holds), .c (.bool c.op)]] (croom_r c) := by
  refine .of (ac12 croom_T_ok (Nat.le_of_ble_eq_true rfl) ?_)
  simp -implicitDefEqProofs only [cd_t, cd_f, cd_dec, cd_not, cd_and, cd_or, grd_tt, grd_ff, grd_tf, grd_ft, grd_dt, grd_df, grd_nt, grd_nf, go_sem, Go.Proofs.Try.f12, reduceIte, reduceCtorEq, Nat.reduceEqDiff, Nat.reduceAdd, Nat.reduceLeDiff, Nat.reduceSub, Nat.reduceMul, Nat.reduceLT, Nat.reduceShiftRight, Nat.reduceMod, Int.reduceLE, Int.reduceLT, Int.reduceToNat, decide_true, Bool.and_self, Bool.true_and, Ob.map.injEq, Ob.it.injEq, List.cons.injEq, true_and, and_true]
  rw [sumsC_0]
  by_cases h : okCh c
  · have h1 : c.loc ≤ MM := h.2.2.2.2.2.2.2.1
    have h2 := h.1
    have h3 := h.2.1
    have h4 := h.2.2.2.2.2.2.1
    have e : (sumsC c).2.2 = 0 := sumsC_0.2 h
    have e1 : (sumsC c).1 = held c.holds := by rw [sumsC, if_pos h]
    unfold MM at *
    rw [u64_in _ (by omega), e, e1, roomC, if_pos h]
    refine ⟨fun _ => ⟨fun h5 _ => ⟨fun h6 => ?_, fun h6 => ?_⟩, fun h5 => ?_⟩, fun h' => absurd h h'⟩
    · rw [if_neg (by omega)]; exact ⟨rfl, rfl⟩
    · have h5' : c.op = true := by simpa using h5
      rw [subM, if_pos ⟨h1, h2⟩]
      by_cases h7 : c.res ≤ c.loc
      · rw [if_pos h7, if_pos ⟨h5', by omega, h7⟩]
        refine ⟨fun h => absurd (show (0 : Int) = 9 from h) (by decide), fun _ => ⟨by dsimp only; omega, rfl⟩⟩
      · rw [if_neg h7, if_neg (fun h => h7 h.2.2)]
        exact ⟨fun _ => ⟨rfl, rfl⟩, fun h => absurd rfl h⟩
    · have h5' : c.op = false := by simpa using h5
      rw [if_neg (fun h => by rw [h5'] at h; exact absurd h.1 (by decide))]; exact ⟨rfl, rfl⟩
  · have e : sumsC c = (0, 0, 1) := by rw [sumsC, if_neg h]
    rw [e, roomC, if_neg h]
    exact ⟨fun h' => absurd h' h, fun _ => ⟨rfl, rfl⟩⟩
def sp_croom : List D → Option (Prop × D × Fr)
  | [.agg [.c (.int .u64 z51), .c (.int .u64 z52), .c (.int .u64 z53), .c (.int .u64 z54), .c (.int .u64 z55), .c (.sl z56), .c (.bool z57)]] => some (z51 = (z51.toNat : Int) ∧ z52 = (z52.toNat : Int) ∧ z53 = (z53.toNat : Int) ∧ z54 = (z54.toNat : Int) ∧ z55 = (z55.toNat : Int) ∧ z56 = hds (dhds z56), croom_r (⟨z51.toNat, z52.toNat, z53.toNat, z54.toNat, z55.toNat, (dhds z56), z57⟩ : Ch), [])
  | _ => none
attribute [go_sem] sp_croom
theorem sp_croom_ok : ∀ rs p r fr, sp_croom rs = some (p, r, fr) → p → FnOk Try.prog 12 rs r fr := by
  intro rs p r fr h hp
  unfold sp_croom at h
  split at h <;> cases h
  obtain ⟨hc0, hc1, hc2, hc3, hc4, hc5⟩ := hp
  rename_i z51 z52 z53 z54 z55 z56 z57
  obtain ⟨z51, rfl⟩ : ∃ m : Nat, z51 = m := ⟨_, hc0⟩
  obtain ⟨z52, rfl⟩ : ∃ m : Nat, z52 = m := ⟨_, hc1⟩
  obtain ⟨z53, rfl⟩ : ∃ m : Nat, z53 = m := ⟨_, hc2⟩
  obtain ⟨z54, rfl⟩ : ∃ m : Nat, z54 = m := ⟨_, hc3⟩
  obtain ⟨z55, rfl⟩ : ∃ m : Nat, z55 = m := ⟨_, hc4⟩
  obtain ⟨z56, rfl⟩ : ∃ m, z56 = hds m := ⟨_, hc5⟩
  simp only [Int.toNat_natCast, dhds_hds]
  exact croom_ok ⟨z51, z52, z53, z54, z55, z56, z57⟩
@[go_sem] def r4check_r (l : List Nat) : D := .int .i64 (monS l)
@[go_sem] abbrev n_r4check : FuncId := 81
@[go_sem] def r4check_T : Tab := []
theorem r4check_T_ok : TabOk Try.prog r4check_T := TabOk.nil
set_option maxRecDepth 8000 in
set_option maxHeartbeats 1000000 in
theorem r4check_ok (l : List Nat)  : PureFn Try.prog 81 [.sl (u64s l)] (r4check_r l) := by
  refine .of (ac81 r4check_T_ok (Nat.le_of_ble_eq_true rfl) ?_)
  simp -implicitDefEqProofs only [cd_t, cd_f, cd_dec, cd_not, cd_and, cd_or, grd_tt, grd_ff, grd_tf, grd_ft, grd_dt, grd_df, grd_nt, grd_nf, go_sem, Go.Proofs.Try.f81, reduceIte, reduceCtorEq, Nat.reduceEqDiff, Nat.reduceAdd, Nat.reduceLeDiff, Nat.reduceSub, Nat.reduceMul, Nat.reduceLT, Nat.reduceShiftRight, Nat.reduceMod, Int.reduceLE, Int.reduceLT, Int.reduceToNat, decide_true, Bool.and_self, Bool.true_and, Ob.map.injEq, Ob.it.injEq, List.cons.injEq, true_and, and_true]
  refine fun hl => SWp.loop (ι := { i : Nat // i ≤ l.length ∧ ∀ j, j < i → l.getD j default ≤ MM }) (fun i => ⟨[(5, .sl (u64s l)), (6, .int .i64 l.length), (7, .int .i64 i.1)], [], 0⟩) (fun i => l.length - i.1) ⟨0, by simp⟩ ?_ ?_
  · simp [go_sem]
  · rintro ⟨i, hi, hall⟩
    refine awp_sound r4check_T_ok.toS lv81 _ _ _ rfl ?_
    simp -implicitDefEqProofs only [cd_t, cd_f, cd_dec, cd_not, cd_and, cd_or, grd_tt, grd_ff, grd_tf, grd_ft, grd_dt, grd_df, grd_nt, grd_nf, go_sem, reduceIte, reduceCtorEq, Nat.reduceEqDiff, Nat.reduceAdd, Nat.reduceLeDiff, Nat.reduceSub, Nat.reduceMul, Nat.reduceLT, Nat.reduceShiftRight, Nat.reduceMod, Int.reduceLE, Int.reduceLT, Int.reduceToNat, decide_true, Bool.and_self, Bool.true_and, Ob.map.injEq, Ob.it.injEq, List.cons.injEq, true_and, and_true]
    unfold MM at hall
    refine ⟨fun h => ⟨by omega, fun h1 => ?_, fun h1 => ⟨⟨i + 1, by omega, fun j hj => ?_⟩, by dsimp only; omega, i64_in _ (by omega)⟩⟩, fun h => ?_⟩
    · rw [monS, if_neg]
      intro h2
      have := decide_eq_true_iff.1 (List.all_eq_true.1 h2 _ (mem_getD.2 ⟨i, by omega, rfl⟩))
      omega
    · unfold MM
      by_cases hji : j = i
      · subst hji; omega
      · exact hall j (by omega)
    · rw [monS, if_pos]
      refine List.all_eq_true.2 fun x hx => ?_
      obtain ⟨j, hj, rfl⟩ := mem_getD.1 hx
      simpa using hall j (by omega)
def sp_r4check : List D → Option (Prop × D × Fr)
  | [.c (.sl z58)] => some (z58 = u64s (du64s z58), r4check_r (du64s z58), [])
  | _ => none
attribute [go_sem] sp_r4check
theorem sp_r4check_ok : ∀ rs p r fr, sp_r4check rs = some (p, r, fr) → p → FnOk Try.prog 81 rs r fr := by
  intro rs p r fr h hp
  unfold sp_r4check at h
  split at h <;> cases h
  have hc0 := hp
  rename_i z58
  obtain ⟨z58, rfl⟩ : ∃ m, z58 = u64s m := ⟨_, hc0⟩
  simp only [du64s_u64s]
  exact r4check_ok z58
@[go_sem] def r4add_r (l : List Nat) : D := .tup [.int .u64 ((addM l).1 : Int), .int .i64 (addM l).2]
@[go_sem] abbrev n_r4add : FuncId := 59
@[go_sem] def r4add_T : Tab := [(81, sp_r4check)]
theorem r4add_T_ok : TabOk Try.prog r4add_T := (TabOk.cons sp_r4check_ok TabOk.nil)
set_option maxRecDepth 8000 in
set_option maxHeartbeats 1000000 in
theorem r4add_ok (l : List Nat)  : PureFn Try.prog 59 [.sl (u64s l)] (r4add_r l) := by
  refine .of (ac59 r4add_T_ok (Nat.le_of_ble_eq_true rfl) ?_)
  simp -implicitDefEqProofs only [cd_t, cd_f, cd_dec, cd_not, cd_and, cd_or, grd_tt, grd_ff, grd_tf, grd_ft, grd_dt, grd_df, grd_nt, grd_nf, go_sem, Go.Proofs.Try.f59, reduceIte, reduceCtorEq, Nat.reduceEqDiff, Nat.reduceAdd, Nat.reduceLeDiff, Nat.reduceSub, Nat.reduceMul, Nat.reduceLT, Nat.reduceShiftRight, Nat.reduceMod, Int.reduceLE, Int.reduceLT, Int.reduceToNat, decide_true, Bool.and_self, Bool.true_and, Ob.map.injEq, Ob.it.injEq, List.cons.injEq, true_and, and_true]
  refine ⟨fun h hl => ?_, fun h => ?_⟩
  · refine SWp.loop (ι := { i : Nat // i ≤ l.length ∧ (l.take i).sum ≤ MM }) (fun i => ⟨[(4, .int .u64 ((l.take i.1).sum : Nat)), (10, .sl (u64s l)), (11, .int .i64 l.length), (12, .int .i64 i.1)], [], 0⟩) (fun i => l.length - i.1) ⟨0, by simp⟩ ?_ ?_
    · simp [go_sem]
    · rintro ⟨i, hi, hs⟩
      refine awp_sound r4add_T_ok.toS lv59 _ _ _ rfl ?_
      simp -implicitDefEqProofs only [cd_t, cd_f, cd_dec, cd_not, cd_and, cd_or, grd_tt, grd_ff, grd_tf, grd_ft, grd_dt, grd_df, grd_nt, grd_nf, go_sem, reduceIte, reduceCtorEq, Nat.reduceEqDiff, Nat.reduceAdd, Nat.reduceLeDiff, Nat.reduceSub, Nat.reduceMul, Nat.reduceLT, Nat.reduceShiftRight, Nat.reduceMod, Int.reduceLE, Int.reduceLT, Int.reduceToNat, decide_true, Bool.and_self, Bool.true_and, Ob.map.injEq, Ob.it.injEq, List.cons.injEq, true_and, and_true]
      refine ⟨fun h1 => ?_, fun h1 => ?_⟩
      · have hi' : i < l.length := by omega
        have hg := monS_get h hi'
        have hst := sum_take hi'
        have hle := sum_le (l := l) (i := i + 1)
        unfold MM at hs
        rw [u64_in (4611686018427387904 - _) (by omega)]
        refine ⟨by omega, fun h2 => ?_, fun h2 => ⟨⟨i + 1, by omega, by unfold MM; omega⟩, by dsimp only; omega, ?_, i64_in _ (by omega)⟩⟩
        · rw [addM, if_pos h, if_neg (by omega)]; exact ⟨rfl, rfl⟩
        · rw [u64_in _ (by omega)]; dsimp only; omega
      · rw [List.take_of_length_le (by omega)] at hs ⊢
        unfold MM at hs
        rw [addM, if_pos h, if_pos hs]; exact ⟨rfl, rfl⟩
  · rw [addM, if_neg h]
    exact ⟨rfl, rfl⟩
def sp_r4add : List D → Option (Prop × D × Fr)
  | [.c (.sl z59)] => some (z59 = u64s (du64s z59), r4add_r (du64s z59), [])
  | _ => none
attribute [go_sem] sp_r4add
theorem sp_r4add_ok : ∀ rs p r fr, sp_r4add rs = some (p, r, fr) → p → FnOk Try.prog 59 rs r fr := by
  intro rs p r fr h hp
  unfold sp_r4add at h
  split at h <;> cases h
  have hc0 := hp
  rename_i z59
  obtain ⟨z59, rfl⟩ : ∃ m, z59 = u64s m := ⟨_, hc0⟩
  simp only [du64s_u64s]
  exact r4add_ok z59
@[go_sem] def r9amounts_r (l : List Hd) : D := .sl (u64s (l.map Hd.n))
@[go_sem] abbrev n_r9amounts : FuncId := 80
@[go_sem] def r9amounts_T : Tab := []
theorem r9amounts_T_ok : TabOk Try.prog r9amounts_T := TabOk.nil
set_option maxRecDepth 8000 in
set_option maxHeartbeats 1000000 in
theorem r9amounts_ok (l : List Hd) (h : l.length ≤ 1000000) : PureFn Try.prog 80 [.sl (hds l)] (r9amounts_r l) := by
  refine .of (ac80 r9amounts_T_ok (Nat.le_of_ble_eq_true rfl) ?_)
  simp -implicitDefEqProofs only [cd_t, cd_f, cd_dec, cd_not, cd_and, cd_or, grd_tt, grd_ff, grd_tf, grd_ft, grd_dt, grd_df, grd_nt, grd_nf, go_sem, Go.Proofs.Try.f80, reduceIte, reduceCtorEq, Nat.reduceEqDiff, Nat.reduceAdd, Nat.reduceLeDiff, Nat.reduceSub, Nat.reduceMul, Nat.reduceLT, Nat.reduceShiftRight, Nat.reduceMod, Int.reduceLE, Int.reduceLT, Int.reduceToNat, decide_true, Bool.and_self, Bool.true_and, Ob.map.injEq, Ob.it.injEq, List.cons.injEq, true_and, and_true]
  refine fun hl => SWp.nilvec 3 1 24 rfl (Nat.zero_le _) ?_
  refine SWp.loop (ι := { i : Nat // i ≤ l.length }) (fun i => ⟨[(3, .vec 0 (l.take i.1).length), (6, .sl (hds l)), (7, .int .i64 l.length), (8, .int .i64 i.1)], [(0, .vec true 1 24 (u64s ((l.take i.1).map Hd.n)))], 1⟩) (fun i => l.length - i.1) ⟨0, by omega⟩ ?_ ?_
  · simp [go_sem, u64s]
  · rintro ⟨i, hi⟩
    refine awp_sound r9amounts_T_ok.toS lv80 _ _ _ rfl ?_
    simp -implicitDefEqProofs only [cd_t, cd_f, cd_dec, cd_not, cd_and, cd_or, grd_tt, grd_ff, grd_tf, grd_ft, grd_dt, grd_df, grd_nt, grd_nf, go_sem, reduceIte, reduceCtorEq, Nat.reduceEqDiff, Nat.reduceAdd, Nat.reduceLeDiff, Nat.reduceSub, Nat.reduceMul, Nat.reduceLT, Nat.reduceShiftRight, Nat.reduceMod, Int.reduceLE, Int.reduceLT, Int.reduceToNat, decide_true, Bool.and_self, Bool.true_and, Ob.map.injEq, Ob.it.injEq, List.cons.injEq, true_and, and_true]
    refine ⟨fun h1 => ?_, fun h1 => ?_⟩
    · have hi' : i < l.length := by omega
      have ht := take_succ hi'
      have hlen : (l.take i).length = i := by simp; omega
      refine ⟨by omega, ⟨by simp, by simp; omega⟩, ⟨i + 1, by omega⟩, by dsimp only; omega, ⟨?_, i64_in _ (by omega)⟩, ?_⟩
      · dsimp only; rw [ht, List.length_append]; rfl
      · dsimp only; rw [ht, List.map_append]; rfl
    · have hi' : i = l.length := by omega
      subst hi'
      rw [List.take_length]
      exact ⟨by simp, _, _, _, rfl⟩
@[go_sem] def r9amounts_p (l : List Hd) : Prop := (l.length ≤ 1000000)
def sp_r9amounts : List D → Option (Prop × D × Fr)
  | [.c (.sl z60)] => some (z60 = hds (dhds z60) ∧ r9amounts_p (dhds z60), r9amounts_r (dhds z60), [])
  | _ => none
attribute [go_sem] sp_r9amounts
theorem sp_r9amounts_ok : ∀ rs p r fr, sp_r9amounts rs = some (p, r, fr) → p → FnOk Try.prog 80 rs r fr := by
  intro rs p r fr h hp
  unfold sp_r9amounts at h
  split at h <;> cases h
  obtain ⟨hc0, hp⟩ := hp
  rename_i z60
  obtain ⟨z60, rfl⟩ : ∃ m, z60 = hds m := ⟨_, hc0⟩
  simp only [dhds_hds]
  simp only [dhds_hds, r9amounts_p] at hp
  exact r9amounts_ok z60 hp
theorem mem_sum {l : List Nat} {x : Nat} (h : x ∈ l) : x ≤ l.sum := by
  induction l with
  | nil => cases h
  | cons y l ih =>
    rw [List.sum_cons]
    rcases List.mem_cons.1 h with rfl | h
    · omega
    · have := ih h; omega
theorem held_ok {c : Ch} (h : okCh c) : (addM (c.holds.map Hd.n)).2 = 0 := addM_0.2 ⟨fun x hx => by
    have h3 := h.2.2.2.2.2.2.1
    have h4 := h.2.1
    have h5 := mem_sum hx
    unfold MM held at *
    omega, by
    have h3 := h.2.2.2.2.2.2.1
    have h4 := h.2.1
    unfold MM held at *
    omega⟩
def chkCh (c : Ch) : Int := if okCh c then 0 else 1
@[go_sem] def r9check_r (c : Ch) : D := .int .i64 (chkCh c)
@[go_sem] abbrev n_r9check : FuncId := 60
@[go_sem] def r9check_T : Tab := [(81, sp_r4check), (59, sp_r4add), (80, sp_r9amounts)]
theorem r9check_T_ok : TabOk Try.prog r9check_T := (TabOk.cons sp_r4check_ok (TabOk.cons sp_r4add_ok (TabOk.cons sp_r9amounts_ok TabOk.nil)))
set_option maxRecDepth 8000 in
set_option maxHeartbeats 1000000 in
theorem r9check_ok (c : Ch)  : PureFn Try.prog 60 [.agg [.c (.int .u64 (c.id : Int)), .c (.int .u64 (c.loc : Int)), .c (.int .u64 (c.rem : Int)), .c (.int .u64 (c.res : Int)), .c (.int .u64 (c.most : Int)), .sl (hds c.holds), .c (.bool c.op)]] (r9check_r c) := by
  refine .of (ac60 r9check_T_ok (Nat.le_of_ble_eq_true rfl) ?_)
  simp -implicitDefEqProofs only [cd_t, cd_f, cd_dec, cd_not, cd_and, cd_or, grd_tt, grd_ff, grd_tf, grd_ft, grd_dt, grd_df, grd_nt, grd_nf, go_sem, Go.Proofs.Try.f60, reduceIte, reduceCtorEq, Nat.reduceEqDiff, Nat.reduceAdd, Nat.reduceLeDiff, Nat.reduceSub, Nat.reduceMul, Nat.reduceLT, Nat.reduceShiftRight, Nat.reduceMod, Int.reduceLE, Int.reduceLT, Int.reduceToNat, decide_true, Bool.and_self, Bool.true_and, Ob.map.injEq, Ob.it.injEq, List.cons.injEq, true_and, and_true]
  have hbad : ¬ okCh c → 1 = chkCh c := fun h => by simp [chkCh, if_neg h]
  have hmon : monS [c.res, c.most] = 0 ↔ c.res ≤ MM ∧ c.most ≤ MM := by rw [mon2]; split <;> simp_all
  rw [hmon]
  refine ⟨fun h1 hl => ⟨fun h2 => ⟨fun h3 _ => ⟨fun h4 => hbad fun h => ?_, fun h4 _ => ?_⟩, fun h3 _ => ?_⟩, fun h2 => hbad fun h => ?_⟩, fun h1 => hbad fun h => h1 ⟨h.1, h.2.1⟩⟩
  · have := h.2.2.2.1 (by simpa using h3)
    rw [this] at h4; simp at h4
  rotate_left 2
  · have := h.2.2.1; omega
  all_goals
    have hop : c.op = false → c.holds = [] := fun h => by first | (rw [h] at h3; cases h3; done) | exact List.eq_nil_of_length_eq_zero (by omega)
    refine SWp.loop (ι := { i : Nat // i ≤ c.holds.length ∧ (∀ j, j < i → (c.holds.getD j default).n ≠ 0 ∧ (0 < j → (c.holds.getD (j - 1) default).id < (c.holds.getD j default).id)) }) (fun i => ⟨[(1, .ref 0 0), (34, .sl (hds c.holds)), (35, .int .i64 c.holds.length), (36, .int .i64 i.1)],
      [(0, .box [.int .u64 c.id, .int .u64 c.loc, .int .u64 c.rem, .int .u64 c.res, .int .u64 c.most, .sl (hds c.holds), .bool c.op])], 2⟩) (fun i => c.holds.length - i.1) ⟨0, by simp⟩ ?_ ?_
    · simp [go_sem]
    · rintro ⟨i, hi, hall⟩
      refine awp_sound r9check_T_ok.toS lv60 _ _ _ rfl ?_
      simp -implicitDefEqProofs only [cd_t, cd_f, cd_dec, cd_not, cd_and, cd_or, grd_tt, grd_ff, grd_tf, grd_ft, grd_dt, grd_df, grd_nt, grd_nf, go_sem, reduceIte, reduceCtorEq, Nat.reduceEqDiff, Nat.reduceAdd, Nat.reduceLeDiff, Nat.reduceSub, Nat.reduceMul, Nat.reduceLT, Nat.reduceShiftRight, Nat.reduceMod, Int.reduceLE, Int.reduceLT, Int.reduceToNat, decide_true, Bool.and_self, Bool.true_and, Ob.map.injEq, Ob.it.injEq, List.cons.injEq, true_and, and_true]
      refine ⟨fun h5 => ⟨by omega, ?_⟩, fun h5 => ?_⟩
      · refine ADraw.run us60_6 r9check_T_ok follows_mixed (by kernel_rfl) (by kernel_rfl) ?_
        simp -implicitDefEqProofs only [cd_t, cd_f, cd_dec, cd_not, cd_and, cd_or, grd_tt, grd_ff, grd_tf, grd_ft, grd_dt, grd_df, grd_nt, grd_nf, go_sem, reduceIte, reduceCtorEq, Nat.reduceEqDiff, Nat.reduceAdd, Nat.reduceLeDiff, Nat.reduceSub, Nat.reduceMul, Nat.reduceLT, Nat.reduceShiftRight, Nat.reduceMod, Int.reduceLE, Int.reduceLT, Int.reduceToNat, decide_true, Bool.and_self, Bool.true_and, Ob.map.injEq, Ob.it.injEq, List.cons.injEq, true_and, and_true]
        have hi' : i < c.holds.length := by omega
        have hnext : (0 < i → (c.holds.getD (i - 1) default).id < (c.holds.getD i default).id) → (c.holds.getD i default).n ≠ 0 → ∃ i_1 : { i : Nat // i ≤ c.holds.length ∧ (∀ j, j < i → (c.holds.getD j default).n ≠ 0 ∧ (0 < j → (c.holds.getD (j - 1) default).id < (c.holds.getD j default).id)) }, c.holds.length - i_1.val < c.holds.length - i ∧ IntKind.i64.wrap ((i : Int) + 1) = i_1.val := fun ho hn =>
          ⟨⟨i + 1, hi', fun j hj => by
            by_cases hji : j = i
            · subst hji; exact ⟨hn, ho⟩
            · exact hall j (by omega)⟩, by dsimp only; omega, i64_in _ (by omega)⟩
        refine ⟨fun h6 => ⟨fun h7 => ?_, fun h7 => hnext (fun h => absurd h (by omega)) (by omega)⟩, fun h6 => hbad fun h => h.2.2.2.2.1 _ (mem_getD.2 ⟨i, hi', rfl⟩) (by omega)⟩
        rw [i64_in _ (by omega), show ((i : Int) - 1).toNat = i - 1 by omega]
        refine ⟨by omega, fun h8 => hbad fun h => ?_, fun h8 => hnext (fun _ => by omega) (by omega)⟩
        have := h.2.2.2.2.2.1 i hi' (by omega)
        change (c.holds.getD (i - 1) default).id < (c.holds.getD i default).id at this
        omega
      · have hi' : i = c.holds.length := by omega
        subst hi'
        refine ⟨by omega, fun h6 => ?_, fun h6 => hbad fun h => h6 (held_ok h)⟩
        have h7 := addM_1 h6
        have e1 : (c.holds.map Hd.n).sum = held c.holds := rfl
        rw [h7, e1]
        refine ⟨fun h8 => hbad fun h => ?_, fun h8 => ⟨fun h9 => ?_, fun h9 => hbad fun h => h9 (addM_0.2 ?_)⟩⟩
        · have := h.2.2.2.2.2.2.1; omega
        · have h10 := addM_0.1 h9
          simp only [List.mem_cons, List.not_mem_nil, or_false, forall_eq_or_imp, forall_eq, List.sum_cons, List.sum_nil] at h10
          have hok : okCh c := ⟨h1.1, h1.2, by omega, hop, fun x hx => by obtain ⟨j, hj, rfl⟩ := mem_getD.1 hx; exact (hall j hj).1, fun j hj h0 => (hall j hj).2 h0, by omega, h10.1.1, h10.1.2.1, by unfold MM; omega⟩
          rw [chkCh, if_pos hok]
        · have := h.2.2.2.2.2.2
          have := h.2.1
          simp only [List.mem_cons, List.not_mem_nil, or_false, forall_eq_or_imp, forall_eq, List.sum_cons, List.sum_nil]
          unfold MM at *
          omega
def sp_r9check : List D → Option (Prop × D × Fr)
  | [.agg [.c (.int .u64 z62), .c (.int .u64 z63), .c (.int .u64 z64), .c (.int .u64 z65), .c (.int .u64 z66), .c (.sl z67), .c (.bool z68)]] => some (z62 = (z62.toNat : Int) ∧ z63 = (z63.toNat : Int) ∧ z64 = (z64.toNat : Int) ∧ z65 = (z65.toNat : Int) ∧ z66 = (z66.toNat : Int) ∧ z67 = hds (dhds z67), r9check_r (⟨z62.toNat, z63.toNat, z64.toNat, z65.toNat, z66.toNat, (dhds z67), z68⟩ : Ch), [])
  | _ => none
attribute [go_sem] sp_r9check
theorem sp_r9check_ok : ∀ rs p r fr, sp_r9check rs = some (p, r, fr) → p → FnOk Try.prog 60 rs r fr := by
  intro rs p r fr h hp
  unfold sp_r9check at h
  split at h <;> cases h
  obtain ⟨hc0, hc1, hc2, hc3, hc4, hc5⟩ := hp
  rename_i z62 z63 z64 z65 z66 z67 z68
  obtain ⟨z62, rfl⟩ : ∃ m : Nat, z62 = m := ⟨_, hc0⟩
  obtain ⟨z63, rfl⟩ : ∃ m : Nat, z63 = m := ⟨_, hc1⟩
  obtain ⟨z64, rfl⟩ : ∃ m : Nat, z64 = m := ⟨_, hc2⟩
  obtain ⟨z65, rfl⟩ : ∃ m : Nat, z65 = m := ⟨_, hc3⟩
  obtain ⟨z66, rfl⟩ : ∃ m : Nat, z66 = m := ⟨_, hc4⟩
  obtain ⟨z67, rfl⟩ : ∃ m, z67 = hds m := ⟨_, hc5⟩
  simp only [Int.toNat_natCast, dhds_hds]
  exact r9check_ok ⟨z62, z63, z64, z65, z66, z67, z68⟩
@[go_sem] def r9held_r (c : Ch) : D := .tup [.int .u64 ((sumsC c).1 : Int), .int .i64 (sumsC c).2.2]
@[go_sem] abbrev n_r9held : FuncId := 58
@[go_sem] def r9held_T : Tab := [(60, sp_r9check), (59, sp_r4add), (80, sp_r9amounts)]
theorem r9held_T_ok : TabOk Try.prog r9held_T := (TabOk.cons sp_r9check_ok (TabOk.cons sp_r4add_ok (TabOk.cons sp_r9amounts_ok TabOk.nil)))
set_option maxRecDepth 8000 in
set_option maxHeartbeats 1000000 in
theorem r9held_ok (c : Ch)  : PureFn Try.prog 58 [.agg [.c (.int .u64 (c.id : Int)), .c (.int .u64 (c.loc : Int)), .c (.int .u64 (c.rem : Int)), .c (.int .u64 (c.res : Int)), .c (.int .u64 (c.most : Int)), .sl (hds c.holds), .c (.bool c.op)]] (r9held_r c) := by
  refine .of (ac58 r9held_T_ok (Nat.le_of_ble_eq_true rfl) ?_)
  simp -implicitDefEqProofs only [cd_t, cd_f, cd_dec, cd_not, cd_and, cd_or, grd_tt, grd_ff, grd_tf, grd_ft, grd_dt, grd_df, grd_nt, grd_nf, go_sem, Go.Proofs.Try.f58, reduceIte, reduceCtorEq, Nat.reduceEqDiff, Nat.reduceAdd, Nat.reduceLeDiff, Nat.reduceSub, Nat.reduceMul, Nat.reduceLT, Nat.reduceShiftRight, Nat.reduceMod, Int.reduceLE, Int.reduceLT, Int.reduceToNat, decide_true, Bool.and_self, Bool.true_and, Ob.map.injEq, Ob.it.injEq, List.cons.injEq, true_and, and_true]
  by_cases h : okCh c
  · have h1 := held_ok h
    have h2 := addM_1 h1
    rw [chkCh, if_pos h, sumsC, if_pos h, h1, h2]
    exact ⟨fun _ => ⟨by have := h.2.2.1; omega, rfl, rfl⟩, fun h => absurd rfl h⟩
  · rw [chkCh, if_neg h, sumsC, if_neg h]
    exact ⟨fun h => absurd h (by decide), fun _ => ⟨rfl, rfl⟩⟩
def sp_r9held : List D → Option (Prop × D × Fr)
  | [.agg [.c (.int .u64 z70), .c (.int .u64 z71), .c (.int .u64 z72), .c (.int .u64 z73), .c (.int .u64 z74), .c (.sl z75), .c (.bool z76)]] => some (z70 = (z70.toNat : Int) ∧ z71 = (z71.toNat : Int) ∧ z72 = (z72.toNat : Int) ∧ z73 = (z73.toNat : Int) ∧ z74 = (z74.toNat : Int) ∧ z75 = hds (dhds z75), r9held_r (⟨z70.toNat, z71.toNat, z72.toNat, z73.toNat, z74.toNat, (dhds z75), z76⟩ : Ch), [])
  | _ => none
attribute [go_sem] sp_r9held
theorem sp_r9held_ok : ∀ rs p r fr, sp_r9held rs = some (p, r, fr) → p → FnOk Try.prog 58 rs r fr := by
  intro rs p r fr h hp
  unfold sp_r9held at h
  split at h <;> cases h
  obtain ⟨hc0, hc1, hc2, hc3, hc4, hc5⟩ := hp
  rename_i z70 z71 z72 z73 z74 z75 z76
  obtain ⟨z70, rfl⟩ : ∃ m : Nat, z70 = m := ⟨_, hc0⟩
  obtain ⟨z71, rfl⟩ : ∃ m : Nat, z71 = m := ⟨_, hc1⟩
  obtain ⟨z72, rfl⟩ : ∃ m : Nat, z72 = m := ⟨_, hc2⟩
  obtain ⟨z73, rfl⟩ : ∃ m : Nat, z73 = m := ⟨_, hc3⟩
  obtain ⟨z74, rfl⟩ : ∃ m : Nat, z74 = m := ⟨_, hc4⟩
  obtain ⟨z75, rfl⟩ : ∃ m, z75 = hds m := ⟨_, hc5⟩
  simp only [Int.toNat_natCast, dhds_hds]
  exact r9held_ok ⟨z70, z71, z72, z73, z74, z75, z76⟩
@[go_sem] def r9all_r (c : Ch) : D := .tup [.int .u64 ((sumsC c).2.1 : Int), .int .i64 (sumsC c).2.2]
@[go_sem] abbrev n_r9all : FuncId := 39
@[go_sem] def r9all_T : Tab := [(58, sp_r9held), (59, sp_r4add)]
theorem r9all_T_ok : TabOk Try.prog r9all_T := (TabOk.cons sp_r9held_ok (TabOk.cons sp_r4add_ok TabOk.nil))
set_option maxRecDepth 8000 in
set_option maxHeartbeats 1000000 in
theorem r9all_ok (c : Ch)  : PureFn Try.prog 39 [.agg [.c (.int .u64 (c.id : Int)), .c (.int .u64 (c.loc : Int)), .c (.int .u64 (c.rem : Int)), .c (.int .u64 (c.res : Int)), .c (.int .u64 (c.most : Int)), .sl (hds c.holds), .c (.bool c.op)]] (r9all_r c) := by
  refine .of (ac39 r9all_T_ok (Nat.le_of_ble_eq_true rfl) ?_)
  simp -implicitDefEqProofs only [cd_t, cd_f, cd_dec, cd_not, cd_and, cd_or, grd_tt, grd_ff, grd_tf, grd_ft, grd_dt, grd_df, grd_nt, grd_nf, go_sem, Go.Proofs.Try.f39, reduceIte, reduceCtorEq, Nat.reduceEqDiff, Nat.reduceAdd, Nat.reduceLeDiff, Nat.reduceSub, Nat.reduceMul, Nat.reduceLT, Nat.reduceShiftRight, Nat.reduceMod, Int.reduceLE, Int.reduceLT, Int.reduceToNat, decide_true, Bool.and_self, Bool.true_and, Ob.map.injEq, Ob.it.injEq, List.cons.injEq, true_and, and_true]
  rw [sumsC_0]
  refine ⟨fun h => ?_, fun h => ?_⟩
  · have h2 := h.2.2.2.2.2.2
    have h3 := h.2.1
    have e1 : (sumsC c).1 = held c.holds := by rw [sumsC, if_pos h]
    have h1 : (addM [c.loc, c.rem, held c.holds]).2 = 0 := addM_0.2 (by
      simp only [List.mem_cons, List.not_mem_nil, or_false, forall_eq_or_imp, forall_eq, List.sum_cons, List.sum_nil]
      unfold MM at *
      omega)
    rw [e1, h1, addM_1 h1, sumsC, if_pos h]
    simp only [List.sum_cons, List.sum_nil]
    exact ⟨by omega, trivial⟩
  · rw [sumsC, if_neg h]; simp
def sp_r9all : List D → Option (Prop × D × Fr)
  | [.agg [.c (.int .u64 z78), .c (.int .u64 z79), .c (.int .u64 z80), .c (.int .u64 z81), .c (.int .u64 z82), .c (.sl z83), .c (.bool z84)]] => some (z78 = (z78.toNat : Int) ∧ z79 = (z79.toNat : Int) ∧ z80 = (z80.toNat : Int) ∧ z81 = (z81.toNat : Int) ∧ z82 = (z82.toNat : Int) ∧ z83 = hds (dhds z83), r9all_r (⟨z78.toNat, z79.toNat, z80.toNat, z81.toNat, z82.toNat, (dhds z83), z84⟩ : Ch), [])
  | _ => none
attribute [go_sem] sp_r9all
theorem sp_r9all_ok : ∀ rs p r fr, sp_r9all rs = some (p, r, fr) → p → FnOk Try.prog 39 rs r fr := by
  intro rs p r fr h hp
  unfold sp_r9all at h
  split at h <;> cases h
  obtain ⟨hc0, hc1, hc2, hc3, hc4, hc5⟩ := hp
  rename_i z78 z79 z80 z81 z82 z83 z84
  obtain ⟨z78, rfl⟩ : ∃ m : Nat, z78 = m := ⟨_, hc0⟩
  obtain ⟨z79, rfl⟩ : ∃ m : Nat, z79 = m := ⟨_, hc1⟩
  obtain ⟨z80, rfl⟩ : ∃ m : Nat, z80 = m := ⟨_, hc2⟩
  obtain ⟨z81, rfl⟩ : ∃ m : Nat, z81 = m := ⟨_, hc3⟩
  obtain ⟨z82, rfl⟩ : ∃ m : Nat, z82 = m := ⟨_, hc4⟩
  obtain ⟨z83, rfl⟩ : ∃ m, z83 = hds m := ⟨_, hc5⟩
  simp only [Int.toNat_natCast, dhds_hds]
  exact r9all_ok ⟨z78, z79, z80, z81, z82, z83, z84⟩
@[go_sem] def r9room_r (c : Ch) : D := .tup [.int .u64 ((roomC c).1 : Int), .int .i64 (roomC c).2]
@[go_sem] abbrev n_r9room : FuncId := 38
@[go_sem] def r9room_T : Tab := [(58, sp_r9held)]
theorem r9room_T_ok : TabOk Try.prog r9room_T := (TabOk.cons sp_r9held_ok TabOk.nil)
set_option maxRecDepth 8000 in
set_option maxHeartbeats 1000000 in
theorem r9room_ok (c : Ch)  : PureFn Try.prog 38 [.agg [.c (.int .u64 (c.id : Int)), .c (.int .u64 (c.loc : Int)), .c (.int .u64 (c.rem : Int)), .c (.int .u64 (c.res : Int)), .c (.int .u64 (c.most : Int)), .sl (hds c.holds), .c (.bool c.op)]] (r9room_r c) := by
  refine .of (ac38 r9room_T_ok (Nat.le_of_ble_eq_true rfl) ?_)
  simp -implicitDefEqProofs only [cd_t, cd_f, cd_dec, cd_not, cd_and, cd_or, grd_tt, grd_ff, grd_tf, grd_ft, grd_dt, grd_df, grd_nt, grd_nf, go_sem, Go.Proofs.Try.f38, reduceIte, reduceCtorEq, Nat.reduceEqDiff, Nat.reduceAdd, Nat.reduceLeDiff, Nat.reduceSub, Nat.reduceMul, Nat.reduceLT, Nat.reduceShiftRight, Nat.reduceMod, Int.reduceLE, Int.reduceLT, Int.reduceToNat, decide_true, Bool.and_self, Bool.true_and, Ob.map.injEq, Ob.it.injEq, List.cons.injEq, true_and, and_true]
  rw [sumsC_0]
  by_cases h : okCh c
  · have h1 : c.loc ≤ MM := h.2.2.2.2.2.2.2.1
    have h2 := h.1
    have h3 := h.2.1
    have h4 := h.2.2.2.2.2.2.1
    have e1 : (sumsC c).1 = held c.holds := by rw [sumsC, if_pos h]
    unfold MM at *
    rw [u64_in ((c.most : Int) - _) (by omega), e1, roomC, if_pos h]
    refine ⟨fun _ => ⟨fun h5 _ => ⟨fun h6 => ⟨fun h7 => ?_, fun h7 => ?_⟩, fun h6 => ?_⟩, fun h5 => ?_⟩, fun h' => absurd h h'⟩
    · rw [if_neg (by omega)]; exact ⟨rfl, rfl⟩
    · have h5' : c.op = true := by simpa using h5
      rw [if_pos ⟨h5', by omega, by omega⟩, u64_in _ (by omega)]; exact ⟨by dsimp only; omega, rfl⟩
    · rw [if_neg (by omega)]; exact ⟨rfl, rfl⟩
    · have h5' : c.op = false := by simpa using h5
      rw [if_neg (fun h => by rw [h5'] at h; exact absurd h.1 (by decide))]; exact ⟨rfl, rfl⟩
  · have e : sumsC c = (0, 0, 1) := by rw [sumsC, if_neg h]
    rw [e, roomC, if_neg h]
    exact ⟨fun h' => absurd h' h, fun _ => ⟨rfl, rfl⟩⟩
def sp_r9room : List D → Option (Prop × D × Fr)
  | [.agg [.c (.int .u64 z86), .c (.int .u64 z87), .c (.int .u64 z88), .c (.int .u64 z89), .c (.int .u64 z90), .c (.sl z91), .c (.bool z92)]] => some (z86 = (z86.toNat : Int) ∧ z87 = (z87.toNat : Int) ∧ z88 = (z88.toNat : Int) ∧ z89 = (z89.toNat : Int) ∧ z90 = (z90.toNat : Int) ∧ z91 = hds (dhds z91), r9room_r (⟨z86.toNat, z87.toNat, z88.toNat, z89.toNat, z90.toNat, (dhds z91), z92⟩ : Ch), [])
  | _ => none
attribute [go_sem] sp_r9room
theorem sp_r9room_ok : ∀ rs p r fr, sp_r9room rs = some (p, r, fr) → p → FnOk Try.prog 38 rs r fr := by
  intro rs p r fr h hp
  unfold sp_r9room at h
  split at h <;> cases h
  obtain ⟨hc0, hc1, hc2, hc3, hc4, hc5⟩ := hp
  rename_i z86 z87 z88 z89 z90 z91 z92
  obtain ⟨z86, rfl⟩ : ∃ m : Nat, z86 = m := ⟨_, hc0⟩
  obtain ⟨z87, rfl⟩ : ∃ m : Nat, z87 = m := ⟨_, hc1⟩
  obtain ⟨z88, rfl⟩ : ∃ m : Nat, z88 = m := ⟨_, hc2⟩
  obtain ⟨z89, rfl⟩ : ∃ m : Nat, z89 = m := ⟨_, hc3⟩
  obtain ⟨z90, rfl⟩ : ∃ m : Nat, z90 = m := ⟨_, hc4⟩
  obtain ⟨z91, rfl⟩ : ∃ m, z91 = hds m := ⟨_, hc5⟩
  simp only [Int.toNat_natCast, dhds_hds]
  exact r9room_ok ⟨z86, z87, z88, z89, z90, z91, z92⟩
end Dm
namespace Dm
open Go Go.Proofs Go.IntWalk
abbrev allC (c : Ch) : Nat := (sumsC c).2.1
def totL (l : List Ch) : Nat := (l.map allC).sum
theorem allC_le (c : Ch) : allC c ≤ MM := by
  unfold allC sumsC
  split
  · rename_i h; exact h.2.2.2.2.2.2.2.2.2
  · exact Nat.zero_le _
theorem totL_succ {l : List Ch} {i : Nat} (h : i < l.length) : totL (l.take (i + 1)) = totL (l.take i) + allC (l.getD i default) := by
  rw [take_succ h, totL, List.map_append, List.sum_append]; simp [totL]
theorem totL_le {l : List Ch} {i : Nat} : totL (l.take i) ≤ totL l := by
  conv => rhs; rw [← List.take_append_drop i l, totL, List.map_append, List.sum_append]
  exact Nat.le_add_right _ _
def hidL (l : List Ch) : List Nat := l.flatMap fun c => c.holds.map Hd.id
/-- May channels be? -/
def okLd (l : List Ch) : Prop := l.length ≤ 32 ∧ (∀ c ∈ l, okCh c) ∧ Srt.Chn Ch.id ltN l ∧ (hidL l).Nodup ∧ totL l ≤ MM
instance (l : List Ch) : Decidable (Srt.Chn Ch.id ltN l) := by unfold Srt.Chn; infer_instance
instance (l : List Ch) : Decidable (okLd l) := by unfold okLd; infer_instance
def chkL (l : List Ch) : Int := if okLd l then 0 else 1
/-- Which channel has which hold. -/
def hm : Int → List Ch → List (Nat × Int)
  | _, [] => []
  | i, c :: l => c.holds.map (fun h => (h.id, i)) ++ hm (i + 1) l
def readL (l : List Ch) : List (Nat × Int) × Int := if okLd l then (hm 0 l, 0) else ([], 1)
@[go_sem] def lorder_r (c : Ch) (id : Nat) : D := .int .i64 (cmpS c.id id)
@[go_sem] abbrev n_lorder : FuncId := 63
@[go_sem] def lorder_T : Tab := [(34, sp_cmp)]
theorem lorder_T_ok : TabOk Try.prog lorder_T := (TabOk.cons sp_cmp_ok TabOk.nil)
set_option maxRecDepth 8000 in
set_option maxHeartbeats 1000000 in
theorem lorder_ok (c : Ch) (id : Nat)  : PureFn Try.prog 63 [.agg [.c (.int .u64 (c.id : Int)), .c (.int .u64 (c.loc : Int)), .c (.int .u64 (c.rem : Int)), .c (.int .u64 (c.res : Int)), .c (.int .u64 (c.most : Int)), .sl (hds c.holds), .c (.bool c.op)], .c (.int .u64 (id : Int))] (lorder_r c id) := by
  refine .of (ac63 lorder_T_ok (Nat.le_of_ble_eq_true rfl) ?_)
  simp -implicitDefEqProofs only [cd_t, cd_f, cd_dec, cd_not, cd_and, cd_or, grd_tt, grd_ff, grd_tf, grd_ft, grd_dt, grd_df, grd_nt, grd_nf, go_sem, Go.Proofs.Try.f63, reduceIte, reduceCtorEq, Nat.reduceEqDiff, Nat.reduceAdd, Nat.reduceLeDiff, Nat.reduceSub, Nat.reduceMul, Nat.reduceLT, Nat.reduceShiftRight, Nat.reduceMod, Int.reduceLE, Int.reduceLT, Int.reduceToNat, decide_true, Bool.and_self, Bool.true_and, Ob.map.injEq, Ob.it.injEq, List.cons.injEq, true_and, and_true]
def sp_lorder : List D → Option (Prop × D × Fr)
  | [.agg [.c (.int .u64 z94), .c (.int .u64 z95), .c (.int .u64 z96), .c (.int .u64 z97), .c (.int .u64 z98), .c (.sl z99), .c (.bool z100)], .c (.int .u64 z101)] => some (z94 = (z94.toNat : Int) ∧ z95 = (z95.toNat : Int) ∧ z96 = (z96.toNat : Int) ∧ z97 = (z97.toNat : Int) ∧ z98 = (z98.toNat : Int) ∧ z99 = hds (dhds z99) ∧ z101 = (z101.toNat : Int), lorder_r (⟨z94.toNat, z95.toNat, z96.toNat, z97.toNat, z98.toNat, (dhds z99), z100⟩ : Ch) z101.toNat, [])
  | _ => none
attribute [go_sem] sp_lorder
theorem sp_lorder_ok : ∀ rs p r fr, sp_lorder rs = some (p, r, fr) → p → FnOk Try.prog 63 rs r fr := by
  intro rs p r fr h hp
  unfold sp_lorder at h
  split at h <;> cases h
  obtain ⟨hc0, hc1, hc2, hc3, hc4, hc5, hc6⟩ := hp
  rename_i z94 z95 z96 z97 z98 z99 z100 z101
  obtain ⟨z94, rfl⟩ : ∃ m : Nat, z94 = m := ⟨_, hc0⟩
  obtain ⟨z95, rfl⟩ : ∃ m : Nat, z95 = m := ⟨_, hc1⟩
  obtain ⟨z96, rfl⟩ : ∃ m : Nat, z96 = m := ⟨_, hc2⟩
  obtain ⟨z97, rfl⟩ : ∃ m : Nat, z97 = m := ⟨_, hc3⟩
  obtain ⟨z98, rfl⟩ : ∃ m : Nat, z98 = m := ⟨_, hc4⟩
  obtain ⟨z99, rfl⟩ : ∃ m, z99 = hds m := ⟨_, hc5⟩
  obtain ⟨z101, rfl⟩ : ∃ m : Nat, z101 = m := ⟨_, hc6⟩
  simp only [Int.toNat_natCast, dhds_hds]
  exact lorder_ok ⟨z94, z95, z96, z97, z98, z99, z100⟩ z101
@[go_sem] def few_r (l : List Ch) : D := .bool (decide ((∀ c ∈ l, c.holds.length ≤ 20) ∧ l.length ≤ 34))
@[go_sem] abbrev n_few : FuncId := 10
@[go_sem] def few_T : Tab := []
theorem few_T_ok : TabOk Try.prog few_T := TabOk.nil
set_option maxRecDepth 8000 in
set_option maxHeartbeats 1000000 in
theorem few_ok (l : List Ch)  : PureFn Try.prog 10 [.sl (chs l)] (few_r l) := by
  refine .of (ac10 few_T_ok (Nat.le_of_ble_eq_true rfl) ?_)
  simp -implicitDefEqProofs only [cd_t, cd_f, cd_dec, cd_not, cd_and, cd_or, grd_tt, grd_ff, grd_tf, grd_ft, grd_dt, grd_df, grd_nt, grd_nf, go_sem, Go.Proofs.Try.f10, reduceIte, reduceCtorEq, Nat.reduceEqDiff, Nat.reduceAdd, Nat.reduceLeDiff, Nat.reduceSub, Nat.reduceMul, Nat.reduceLT, Nat.reduceShiftRight, Nat.reduceMod, Int.reduceLE, Int.reduceLT, Int.reduceToNat, decide_true, Bool.and_self, Bool.true_and, Ob.map.injEq, Ob.it.injEq, List.cons.injEq, true_and, and_true]
  refine fun hl => SWp.loop (ι := { i : Nat // i ≤ l.length ∧ ∀ j, j < i → (l.getD j default).holds.length ≤ 20 }) (fun i => ⟨[(0, .sl (chs l)), (5, .sl (chs l)), (6, .int .i64 l.length), (7, .int .i64 i.1)], [], 0⟩) (fun i => l.length - i.1) ⟨0, by simp⟩ ?_ ?_
  · simp [go_sem]
  · rintro ⟨i, hi, hall⟩
    refine awp_sound few_T_ok.toS lv10 _ _ _ rfl ?_
    simp -implicitDefEqProofs only [cd_t, cd_f, cd_dec, cd_not, cd_and, cd_or, grd_tt, grd_ff, grd_tf, grd_ft, grd_dt, grd_df, grd_nt, grd_nf, go_sem, reduceIte, reduceCtorEq, Nat.reduceEqDiff, Nat.reduceAdd, Nat.reduceLeDiff, Nat.reduceSub, Nat.reduceMul, Nat.reduceLT, Nat.reduceShiftRight, Nat.reduceMod, Int.reduceLE, Int.reduceLT, Int.reduceToNat, decide_true, Bool.and_self, Bool.true_and, Ob.map.injEq, Ob.it.injEq, List.cons.injEq, true_and, and_true]
    refine ⟨fun h => ⟨by omega, fun _ => ⟨fun h1 => ?_, fun h1 => ⟨⟨i + 1, by omega, fun j hj => ?_⟩, by dsimp only; omega, i64_in _ (by omega)⟩⟩⟩, fun h => ?_⟩
    · rw [eq_comm, decide_eq_false_iff_not]
      intro h2
      have := h2.1 _ (mem_getD.2 ⟨i, by omega, rfl⟩)
      omega
    · by_cases hji : j = i
      · subst hji; omega
      · exact hall j (by omega)
    · intro _
      have : (∀ c ∈ l, c.holds.length ≤ 20) := fun c hc => by obtain ⟨j, hj, rfl⟩ := mem_getD.1 hc; exact hall j (by omega)
      rw [decide_eq_decide]
      exact ⟨fun h => ⟨this, by omega⟩, fun h => by omega⟩
def sp_few : List D → Option (Prop × D × Fr)
  | [.c (.sl z102)] => some (z102 = chs (dchs z102), few_r (dchs z102), [])
  | _ => none
attribute [go_sem] sp_few
theorem sp_few_ok : ∀ rs p r fr, sp_few rs = some (p, r, fr) → p → FnOk Try.prog 10 rs r fr := by
  intro rs p r fr h hp
  unfold sp_few at h
  split at h <;> cases h
  have hc0 := hp
  rename_i z102
  obtain ⟨z102, rfl⟩ : ∃ m, z102 = chs m := ⟨_, hc0⟩
  simp only [dchs_chs]
  exact few_ok z102
theorem hidL_succ {l : List Ch} {i : Nat} (h : i < l.length) : hidL (l.take (i + 1)) = hidL (l.take i) ++ (l.getD i default).holds.map Hd.id := by
  rw [take_succ h, hidL, List.flatMap_append]; simp [hidL]
theorem hidL_nd {l : List Ch} {i : Nat} (h : (hidL l).Nodup) : (hidL (l.take i)).Nodup := by
  rw [← List.take_append_drop i l, hidL, List.flatMap_append] at h
  exact (List.nodup_append.1 h).1
/-- The holds of one channel are distinct. -/
theorem okCh_nd {c : Ch} (h : okCh c) : (c.holds.map Hd.id).Nodup := by
  have h1 := (Srt.chn_up (lt := ltN) Srt.totNat).1 h.2.2.2.2.2.1
  unfold Srt.Up at h1
  rw [List.Nodup, List.pairwise_map]
  exact h1.imp fun hlt he => by
    simp only [Hd.key, ltN] at hlt
    omega
def whereL (l : List Ch) (h : Nat) : Int := match l.findIdx? (fun c => c.holds.any fun x => decide (x.id = h)) with
  | some i => i
  | none => -1
theorem where_iff {l : List Ch} {h : Nat} : 0 ≤ whereL l h ↔ h ∈ hidL l := by
  unfold whereL hidL
  rw [List.mem_flatMap]
  cases hf : l.findIdx? (fun c => c.holds.any fun x => decide (x.id = h)) with
  | none =>
    rw [List.findIdx?_eq_none_iff] at hf
    refine ⟨fun h => absurd h (by decide), fun ⟨c, hc, hm⟩ => ?_⟩
    obtain ⟨x, hx, rfl⟩ := List.mem_map.1 hm
    have := List.any_eq_false.1 (hf c hc) x hx
    simp at this
  | some i =>
    refine ⟨fun _ => ?_, fun _ => Int.natCast_nonneg _⟩
    obtain ⟨hi, h2, _⟩ := List.findIdx?_eq_some_iff_getElem.1 hf
    obtain ⟨x, hx, h3⟩ := List.any_eq_true.1 h2
    exact ⟨_, List.getElem_mem hi, List.mem_map.2 ⟨x, hx, by simpa using h3⟩⟩
theorem hm_keys : ∀ {l : List Ch} {s : Int}, (hm s l).map (·.1) = hidL l
  | [], _ => rfl
  | c :: l, s => by
    have e : hidL (c :: l) = c.holds.map Hd.id ++ hidL l := by simp [hidL]
    rw [hm, List.map_append, hm_keys, List.map_map, e]; rfl
theorem hm_succ {l : List Ch} {i : Nat} (h : i < l.length) : hm 0 (l.take (i + 1)) = hm 0 (l.take i) ++ (l.getD i default).holds.map fun x => (x.id, (i : Int)) := by
  have key : ∀ (l : List Ch) (s : Int) (c : Ch), hm s (l ++ [c]) = hm s l ++ c.holds.map fun x => (x.id, s + l.length) := by
    intro l
    induction l with
    | nil => intro s c; simp [hm]
    | cons d l ih =>
      intro s c
      rw [List.cons_append, hm, ih, hm, List.append_assoc]
      simp only [List.length_cons]
      rw [show s + ((l.length + 1 : Nat) : Int) = s + 1 + l.length by omega]
  rw [take_succ h, key]
  simp only [Int.zero_add, List.length_take]
  rw [show min i l.length = i by omega]
@[go_sem] def r10where_r (l : List Ch) (h : Nat) : D := .int .i64 (whereL l h)
@[go_sem] abbrev n_r10where : FuncId := 61
@[go_sem] def r10where_T : Tab := []
theorem r10where_T_ok : TabOk Try.prog r10where_T := TabOk.nil
set_option maxRecDepth 8000 in
set_option maxHeartbeats 1000000 in
theorem r10where_ok (l : List Ch) (h : Nat)  : PureFn Try.prog 61 [.sl (chs l), .c (.int .u64 (h : Int))] (r10where_r l h) := by
  refine .of (ac61 r10where_T_ok (Nat.le_of_ble_eq_true rfl) ?_)
  simp -implicitDefEqProofs only [cd_t, cd_f, cd_dec, cd_not, cd_and, cd_or, grd_tt, grd_ff, grd_tf, grd_ft, grd_dt, grd_df, grd_nt, grd_nf, go_sem, Go.Proofs.Try.f61, reduceIte, reduceCtorEq, Nat.reduceEqDiff, Nat.reduceAdd, Nat.reduceLeDiff, Nat.reduceSub, Nat.reduceMul, Nat.reduceLT, Nat.reduceShiftRight, Nat.reduceMod, Int.reduceLE, Int.reduceLT, Int.reduceToNat, decide_true, Bool.and_self, Bool.true_and, Ob.map.injEq, Ob.it.injEq, List.cons.injEq, true_and, and_true]
  refine fun hl => SWp.loop (ι := { i : Nat // i ≤ l.length ∧ ∀ j, j < i → ∀ x ∈ (l.getD j default).holds, x.id ≠ h }) (fun i => ⟨[(1, .int .u64 h), (9, .sl (chs l)), (10, .int .i64 l.length), (11, .int .i64 i.1)], [], 0⟩) (fun i => l.length - i.1) ⟨0, by simp⟩ ?_ ?_
  · simp [go_sem]
  · rintro ⟨i, hi, hall⟩
    refine awp_sound r10where_T_ok.toS lv61 _ _ _ rfl ?_
    simp -implicitDefEqProofs only [cd_t, cd_f, cd_dec, cd_not, cd_and, cd_or, grd_tt, grd_ff, grd_tf, grd_ft, grd_dt, grd_df, grd_nt, grd_nf, go_sem, reduceIte, reduceCtorEq, Nat.reduceEqDiff, Nat.reduceAdd, Nat.reduceLeDiff, Nat.reduceSub, Nat.reduceMul, Nat.reduceLT, Nat.reduceShiftRight, Nat.reduceMod, Int.reduceLE, Int.reduceLT, Int.reduceToNat, decide_true, Bool.and_self, Bool.true_and, Ob.map.injEq, Ob.it.injEq, List.cons.injEq, true_and, and_true]
    refine ⟨fun h1 => ⟨by omega, fun _ => ?_⟩, fun h1 => ?_⟩
    · have hi' : i < l.length := by omega
      generalize hc : l.getD i default = c at *
      refine SWp.loop (ι := { k : Nat // k ≤ c.holds.length ∧ ∀ j, j < k → (c.holds.getD j default).id ≠ h }) (fun k => ⟨[(1, .int .u64 h), (5, .int .i64 i), (9, .sl (chs l)), (10, .int .i64 l.length), (11, .int .i64 i), (17, .sl (hds c.holds)), (18, .int .i64 c.holds.length), (19, .int .i64 k.1)], [], 1⟩) (fun k => c.holds.length - k.1) ⟨0, by simp⟩ ?_ ?_
      · simp [go_sem]
      · rintro ⟨k, hk, hin⟩
        refine awp_sound r10where_T_ok.toS lv61 _ _ _ rfl ?_
        simp -implicitDefEqProofs only [cd_t, cd_f, cd_dec, cd_not, cd_and, cd_or, grd_tt, grd_ff, grd_tf, grd_ft, grd_dt, grd_df, grd_nt, grd_nf, go_sem, reduceIte, reduceCtorEq, Nat.reduceEqDiff, Nat.reduceAdd, Nat.reduceLeDiff, Nat.reduceSub, Nat.reduceMul, Nat.reduceLT, Nat.reduceShiftRight, Nat.reduceMod, Int.reduceLE, Int.reduceLT, Int.reduceToNat, decide_true, Bool.and_self, Bool.true_and, Ob.map.injEq, Ob.it.injEq, List.cons.injEq, true_and, and_true]
        refine ⟨fun h2 => ⟨by omega, fun h3 => ?_, fun h3 => ⟨⟨k + 1, by omega, fun j hj => ?_⟩, by dsimp only; omega, i64_in _ (by omega)⟩⟩, fun h2 => ⟨⟨i + 1, hi', fun j hj x hx => ?_⟩, by dsimp only; omega, i64_in _ (by omega)⟩⟩
        · have hf : (l.findIdx? fun c => c.holds.any fun x => decide (x.id = h)) = some i := by
            refine List.findIdx?_eq_some_iff_getElem.2 ⟨hi', ?_, fun j hj => ?_⟩
            · rw [← getD_lt hi', hc]
              exact List.any_eq_true.2 ⟨_, mem_getD.2 ⟨k, by omega, rfl⟩, decide_eq_true (by omega)⟩
            · rw [Bool.not_eq_true, List.any_eq_false]
              intro x hx
              have := hall j hj x (by rw [getD_lt (by omega)]; exact hx)
              simpa using this
          rw [whereL, hf]
        · by_cases hji : j = k
          · subst hji; omega
          · exact hin j (by omega)
        · by_cases hji : j = i
          · subst hji
            rw [hc] at hx
            obtain ⟨q, hq, rfl⟩ := mem_getD.1 hx
            exact hin q (by omega)
          · exact hall j (by omega) x hx
    · rw [whereL, List.findIdx?_eq_none_iff.2 fun c hc => ?_]
      obtain ⟨j, hj, rfl⟩ := mem_getD.1 hc
      rw [List.any_eq_false]
      intro x hx
      simpa using hall j (by omega) x hx
def sp_r10where : List D → Option (Prop × D × Fr)
  | [.c (.sl z103), .c (.int .u64 z104)] => some (z103 = chs (dchs z103) ∧ z104 = (z104.toNat : Int), r10where_r (dchs z103) z104.toNat, [])
  | _ => none
attribute [go_sem] sp_r10where
theorem sp_r10where_ok : ∀ rs p r fr, sp_r10where rs = some (p, r, fr) → p → FnOk Try.prog 61 rs r fr := by
  intro rs p r fr h hp
  unfold sp_r10where at h
  split at h <;> cases h
  obtain ⟨hc0, hc1⟩ := hp
  rename_i z103 z104
  obtain ⟨z103, rfl⟩ : ∃ m, z103 = chs m := ⟨_, hc0⟩
  obtain ⟨z104, rfl⟩ : ∃ m : Nat, z104 = m := ⟨_, hc1⟩
  simp only [Int.toNat_natCast, dchs_chs]
  exact r10where_ok z103 z104
def sumL (l : List Ch) : Nat × Bool := if totL l ≤ MM then (totL l, true) else (0, false)
@[go_sem] def r10all_r (l : List Ch) : D := .tup [.int .u64 ((sumL l).1 : Int), .bool (sumL l).2]
@[go_sem] abbrev n_r10all : FuncId := 62
@[go_sem] def r10all_T : Tab := [(39, sp_r9all), (59, sp_r4add)]
theorem r10all_T_ok : TabOk Try.prog r10all_T := (TabOk.cons sp_r9all_ok (TabOk.cons sp_r4add_ok TabOk.nil))
set_option maxRecDepth 8000 in
set_option maxHeartbeats 1000000 in
theorem r10all_ok (l : List Ch)  : PureFn Try.prog 62 [.sl (chs l)] (r10all_r l) := by
  refine .of (ac62 r10all_T_ok (Nat.le_of_ble_eq_true rfl) ?_)
  simp -implicitDefEqProofs only [cd_t, cd_f, cd_dec, cd_not, cd_and, cd_or, grd_tt, grd_ff, grd_tf, grd_ft, grd_dt, grd_df, grd_nt, grd_nf, go_sem, Go.Proofs.Try.f62, reduceIte, reduceCtorEq, Nat.reduceEqDiff, Nat.reduceAdd, Nat.reduceLeDiff, Nat.reduceSub, Nat.reduceMul, Nat.reduceLT, Nat.reduceShiftRight, Nat.reduceMod, Int.reduceLE, Int.reduceLT, Int.reduceToNat, decide_true, Bool.and_self, Bool.true_and, Ob.map.injEq, Ob.it.injEq, List.cons.injEq, true_and, and_true]
  refine fun hl => SWp.loop (ι := { i : Nat // i ≤ l.length ∧ totL (l.take i) ≤ MM }) (fun i => ⟨[(4, .int .u64 (totL (l.take i.1) : Nat)), (11, .sl (chs l)), (12, .int .i64 l.length), (13, .int .i64 i.1)], [], 0⟩) (fun i => l.length - i.1) ⟨0, by simp [totL]⟩ ?_ ?_
  · simp [go_sem, totL]
  · rintro ⟨i, hi, hs⟩
    refine awp_sound r10all_T_ok.toS lv62 _ _ _ rfl ?_
    simp -implicitDefEqProofs only [cd_t, cd_f, cd_dec, cd_not, cd_and, cd_or, grd_tt, grd_ff, grd_tf, grd_ft, grd_dt, grd_df, grd_nt, grd_nf, go_sem, reduceIte, reduceCtorEq, Nat.reduceEqDiff, Nat.reduceAdd, Nat.reduceLeDiff, Nat.reduceSub, Nat.reduceMul, Nat.reduceLT, Nat.reduceShiftRight, Nat.reduceMod, Int.reduceLE, Int.reduceLT, Int.reduceToNat, decide_true, Bool.and_self, Bool.true_and, Ob.map.injEq, Ob.it.injEq, List.cons.injEq, true_and, and_true]
    have hA := allC_le (l.getD i default)
    refine ⟨fun h => ?_, fun h => ?_⟩
    · have hi' : i < l.length := by omega
      have h1 := totL_succ hi'
      refine ⟨by omega, fun h2 => ?_, fun h2 => ?_⟩
      · have h3 := addM_1 h2
        have h4 := (addM_0.1 h2).2
        simp only [List.sum_cons, List.sum_nil, Nat.add_zero] at h3 h4
        exact ⟨⟨i + 1, hi', by rw [h1]; exact h4⟩, by dsimp only; omega, by rw [h3]; dsimp only; rw [h1], i64_in _ (by omega)⟩
      · have : ¬ totL l ≤ MM := fun h3 => h2 (addM_0.2 (by
          have := totL_le (l := l) (i := i + 1)
          simp only [List.mem_cons, List.not_mem_nil, or_false, forall_eq_or_imp, forall_eq, List.sum_cons, List.sum_nil]
          unfold MM allC at *
          omega))
        rw [sumL, if_neg this]; exact ⟨rfl, rfl⟩
    · have hi' : i = l.length := by omega
      subst hi'
      rw [List.take_length] at hs ⊢
      rw [sumL, if_pos hs]; exact ⟨rfl, rfl⟩
def sp_r10all : List D → Option (Prop × D × Fr)
  | [.c (.sl z105)] => some (z105 = chs (dchs z105), r10all_r (dchs z105), [])
  | _ => none
attribute [go_sem] sp_r10all
theorem sp_r10all_ok : ∀ rs p r fr, sp_r10all rs = some (p, r, fr) → p → FnOk Try.prog 62 rs r fr := by
  intro rs p r fr h hp
  unfold sp_r10all at h
  split at h <;> cases h
  have hc0 := hp
  rename_i z105
  obtain ⟨z105, rfl⟩ : ∃ m, z105 = chs m := ⟨_, hc0⟩
  simp only [dchs_chs]
  exact r10all_ok z105
@[go_sem] def r10check_r (l : List Ch) : D := .int .i64 (chkL l)
@[go_sem] abbrev n_r10check : FuncId := 40
@[go_sem] def r10check_T : Tab := [(60, sp_r9check), (61, sp_r10where), (62, sp_r10all)]
theorem r10check_T_ok : TabOk Try.prog r10check_T := (TabOk.cons sp_r9check_ok (TabOk.cons sp_r10where_ok (TabOk.cons sp_r10all_ok TabOk.nil)))
set_option maxRecDepth 8000 in
set_option maxHeartbeats 1000000 in
theorem r10check_ok (l : List Ch)  : PureFn Try.prog 40 [.sl (chs l)] (r10check_r l) := by
  refine .of (ac40 r10check_T_ok (Nat.le_of_ble_eq_true rfl) ?_)
  simp -implicitDefEqProofs only [cd_t, cd_f, cd_dec, cd_not, cd_and, cd_or, grd_tt, grd_ff, grd_tf, grd_ft, grd_dt, grd_df, grd_nt, grd_nf, go_sem, Go.Proofs.Try.f40, reduceIte, reduceCtorEq, Nat.reduceEqDiff, Nat.reduceAdd, Nat.reduceLeDiff, Nat.reduceSub, Nat.reduceMul, Nat.reduceLT, Nat.reduceShiftRight, Nat.reduceMod, Int.reduceLE, Int.reduceLT, Int.reduceToNat, decide_true, Bool.and_self, Bool.true_and, Ob.map.injEq, Ob.it.injEq, List.cons.injEq, true_and, and_true]
  have hbad : ¬ okLd l → 1 = chkL l := fun h => by rw [chkL, if_neg h]
  refine fun hl => ⟨fun h1 => hbad fun h => ?_, fun h1 _ => ?_⟩
  · have := h.1; omega
  refine SWp.loop (ι := { i : Nat // i ≤ l.length ∧ (∀ c ∈ l.take i, okCh c) ∧ (∀ j, j < i → 0 < j → (l.getD (j - 1) default).id < (l.getD j default).id) ∧ (hidL (l.take i)).Nodup }) (fun i => ⟨[(0, .sl (chs l)), (12, .sl (chs l)), (13, .int .i64 l.length), (14, .int .i64 i.1)], [], 0⟩) (fun i => l.length - i.1) ⟨0, by simp [hidL]⟩ ?_ ?_
  · simp [go_sem]
  · rintro ⟨i, hi, hall, ho, hn⟩
    refine awp_sound r10check_T_ok.toS lv40 _ _ _ rfl ?_
    simp -implicitDefEqProofs only [cd_t, cd_f, cd_dec, cd_not, cd_and, cd_or, grd_tt, grd_ff, grd_tf, grd_ft, grd_dt, grd_df, grd_nt, grd_nf, go_sem, reduceIte, reduceCtorEq, Nat.reduceEqDiff, Nat.reduceAdd, Nat.reduceLeDiff, Nat.reduceSub, Nat.reduceMul, Nat.reduceLT, Nat.reduceShiftRight, Nat.reduceMod, Int.reduceLE, Int.reduceLT, Int.reduceToNat, decide_true, Bool.and_self, Bool.true_and, Ob.map.injEq, Ob.it.injEq, List.cons.injEq, true_and, and_true]
    refine ⟨fun h => ⟨by omega, ?_⟩, fun h => ?_⟩
    · refine ADraw.run us40_6 r10check_T_ok follows_mixed (by kernel_rfl) (by kernel_rfl) ?_
      simp -implicitDefEqProofs only [cd_t, cd_f, cd_dec, cd_not, cd_and, cd_or, grd_tt, grd_ff, grd_tf, grd_ft, grd_dt, grd_df, grd_nt, grd_nf, go_sem, reduceIte, reduceCtorEq, Nat.reduceEqDiff, Nat.reduceAdd, Nat.reduceLeDiff, Nat.reduceSub, Nat.reduceMul, Nat.reduceLT, Nat.reduceShiftRight, Nat.reduceMod, Int.reduceLE, Int.reduceLT, Int.reduceToNat, decide_true, Bool.and_self, Bool.true_and, Ob.map.injEq, Ob.it.injEq, List.cons.injEq, true_and, and_true]
      have hi' : i < l.length := by omega
      have hmem : l.getD i default ∈ l := mem_getD.2 ⟨i, hi', rfl⟩
      have hsub : ∀ {a b : List Nat}, (a ++ b).Nodup ↔ a.Nodup ∧ b.Nodup ∧ ∀ x ∈ b, x ∉ a := fun {a b} => by
        rw [List.nodup_append]
        exact and_congr_right fun _ => and_congr_right fun _ => ⟨fun h x hb ha => h x ha x hb rfl, fun h x ha y hb e => h y hb (e ▸ ha)⟩
      have hks := hidL_succ hi'
      have htk : ∀ c, c ∈ l.take (i + 1) ↔ c ∈ l.take i ∨ c = l.getD i default := fun c => by rw [take_succ hi']; simp
      refine ⟨fun h2 => ?_, fun h2 => hbad fun h => h2 (by rw [chkCh, if_pos (h.2.1 _ hmem)])⟩
      have hc0 : okCh (l.getD i default) := by
        unfold chkCh at h2; split at h2
        · assumption
        · cases h2
      have hcn := okCh_nd hc0
      generalize hc : l.getD i default = c at *
      refine ⟨fun h3 => ⟨?_, fun h4 => hbad fun h => ?_, fun h4 _ => ?_⟩, fun h3 _ => ?_⟩
      · rw [i64_in _ (by omega)]; omega
      · rw [i64_in _ (by omega), show ((i : Int) - 1).toNat = i - 1 by omega] at h4
        have := h.2.2.1 i hi' (by omega)
        rw [hc] at this
        simp only [ltN] at this
        omega
      rotate_right 1
      all_goals
        have hord : 0 < i → (l.getD (i - 1) default).id < c.id := fun h0 => by
          first
          | (exfalso; omega)
          | (rw [i64_in _ (by omega), show ((i : Int) - 1).toNat = i - 1 by omega] at h4; omega)
        refine SWp.loop (ι := { k : Nat // k ≤ c.holds.length ∧ ∀ j, j < k → (c.holds.getD j default).id ∉ hidL (l.take i) }) (fun k => ⟨[(0, .sl (chs l)), (3, .int .i64 i), (12, .sl (chs l)), (13, .int .i64 l.length), (14, .int .i64 i), (38, .sl (hds c.holds)), (39, .int .i64 c.holds.length), (40, .int .i64 k.1)], [], 1⟩) (fun k => c.holds.length - k.1) ⟨0, by simp⟩ ?_ ?_
        · simp [go_sem]
        · rintro ⟨k, hk, hin⟩
          refine awp_sound r10check_T_ok.toS lv40 _ _ _ rfl ?_
          simp -implicitDefEqProofs only [cd_t, cd_f, cd_dec, cd_not, cd_and, cd_or, grd_tt, grd_ff, grd_tf, grd_ft, grd_dt, grd_df, grd_nt, grd_nf, go_sem, reduceIte, reduceCtorEq, Nat.reduceEqDiff, Nat.reduceAdd, Nat.reduceLeDiff, Nat.reduceSub, Nat.reduceMul, Nat.reduceLT, Nat.reduceShiftRight, Nat.reduceMod, Int.reduceLE, Int.reduceLT, Int.reduceToNat, decide_true, Bool.and_self, Bool.true_and, Ob.map.injEq, Ob.it.injEq, List.cons.injEq, true_and, and_true]
          refine ⟨fun h5 => ⟨by omega, ?_⟩, fun h5 => ?_⟩
          · refine ADraw.run us40_11 r10check_T_ok follows_mixed (by kernel_rfl) (by kernel_rfl) ?_
            simp -implicitDefEqProofs only [cd_t, cd_f, cd_dec, cd_not, cd_and, cd_or, grd_tt, grd_ff, grd_tf, grd_ft, grd_dt, grd_df, grd_nt, grd_nf, go_sem, reduceIte, reduceCtorEq, Nat.reduceEqDiff, Nat.reduceAdd, Nat.reduceLeDiff, Nat.reduceSub, Nat.reduceMul, Nat.reduceLT, Nat.reduceShiftRight, Nat.reduceMod, Int.reduceLE, Int.reduceLT, Int.reduceToNat, decide_true, Bool.and_self, Bool.true_and, Ob.map.injEq, Ob.it.injEq, List.cons.injEq, true_and, and_true]
            rw [where_iff]
            refine ⟨by omega, fun h6 => hbad fun h => ?_, fun h6 => ⟨⟨k + 1, by omega, fun j hj => ?_⟩, by dsimp only; omega, i64_in _ (by omega)⟩⟩
            · have := hidL_nd (i := i + 1) h.2.2.2.1
              rw [hks, hsub] at this
              exact this.2.2 _ (List.mem_map.2 ⟨_, mem_getD.2 ⟨k, by omega, rfl⟩, rfl⟩) h6
            · by_cases hji : j = k
              · subst hji; exact h6
              · exact hin j (by omega)
          · refine ⟨⟨i + 1, hi', fun d hd => ((htk d).1 hd).elim (hall d) (fun e => e ▸ hc0), fun j hj h0 => ?_, ?_⟩, by dsimp only; omega, i64_in _ (by omega)⟩
            · by_cases hji : j = i
              · subst hji; rw [hc]; exact hord h0
              · exact ho j (by omega) h0
            · rw [hks, hsub]
              refine ⟨hn, hcn, fun x hx => ?_⟩
              obtain ⟨y, hy, rfl⟩ := List.mem_map.1 hx
              obtain ⟨j, hj, rfl⟩ := mem_getD.1 hy
              exact hin j (by omega)
    · have hi' : i = l.length := by omega
      subst hi'
      rw [List.take_length] at hall hn
      refine ⟨fun h2 => ?_, fun h2 => hbad fun h => ?_⟩
      · have h3 : totL l ≤ MM := by
          unfold sumL at h2; split at h2
          · assumption
          · cases h2
        rw [chkL, if_pos ⟨by omega, hall, fun j hj h0 => ho j hj h0, hn, h3⟩]
      · rw [sumL, if_pos h.2.2.2.2] at h2; cases h2
def sp_r10check : List D → Option (Prop × D × Fr)
  | [.c (.sl z106)] => some (z106 = chs (dchs z106), r10check_r (dchs z106), [])
  | _ => none
attribute [go_sem] sp_r10check
theorem sp_r10check_ok : ∀ rs p r fr, sp_r10check rs = some (p, r, fr) → p → FnOk Try.prog 40 rs r fr := by
  intro rs p r fr h hp
  unfold sp_r10check at h
  split at h <;> cases h
  have hc0 := hp
  rename_i z106
  obtain ⟨z106, rfl⟩ : ∃ m, z106 = chs m := ⟨_, hc0⟩
  simp only [dchs_chs]
  exact r10check_ok z106
@[go_sem] def lread_r (l : List Ch) : D := .tup [.c (.map [.int .u64] (kvF .u64 .i64 (readL l).1)), .int .i64 (readL l).2]
@[go_sem] abbrev n_lread : FuncId := 43
@[go_sem] def lread_T : Tab := [(37, sp_call), (56, sp_monadd), (63, sp_lorder)]
theorem lread_T_ok : TabOk Try.prog lread_T := (TabOk.cons sp_call_ok (TabOk.cons sp_monadd_ok (TabOk.cons sp_lorder_ok TabOk.nil)))
set_option maxRecDepth 8000 in
set_option maxHeartbeats 1000000 in
theorem lread_ok (l : List Ch)  : PureFn Try.prog 43 [.sl (chs l)] (lread_r l) := by
  refine .of (ac43 lread_T_ok (Nat.le_of_ble_eq_true rfl) ?_)
  simp -implicitDefEqProofs only [cd_t, cd_f, cd_dec, cd_not, cd_and, cd_or, grd_tt, grd_ff, grd_tf, grd_ft, grd_dt, grd_df, grd_nt, grd_nf, go_sem, Go.Proofs.Try.f43, reduceIte, reduceCtorEq, Nat.reduceEqDiff, Nat.reduceAdd, Nat.reduceLeDiff, Nat.reduceSub, Nat.reduceMul, Nat.reduceLT, Nat.reduceShiftRight, Nat.reduceMod, Int.reduceLE, Int.reduceLT, Int.reduceToNat, decide_true, Bool.and_self, Bool.true_and, Ob.map.injEq, Ob.it.injEq, List.cons.injEq, true_and, and_true]
  have hbad : ¬ okLd l → kvF .u64 .i64 (readL l).1 = [] ∧ 1 = (readL l).2 := fun h => by rw [readL, if_neg h]; exact ⟨rfl, rfl⟩
  refine fun hl => ⟨fun h1 => hbad fun h => ?_, fun h1 _ => ?_⟩
  · have := h.1; omega
  refine SWp.loop (ι := { i : Nat // i ≤ l.length ∧ (∀ c ∈ l.take i, okCh c) ∧ (∀ j, j < i → 0 < j → (l.getD (j - 1) default).id < (l.getD j default).id) ∧ (hidL (l.take i)).Nodup ∧ totL (l.take i) ≤ MM }) (fun i => ⟨[(0, .sl (chs l)), (4, .mp 0), (5, .int .u64 (totL (l.take i.1) : Nat)), (18, .sl (chs l)), (19, .int .i64 l.length), (20, .int .i64 i.1)], [(0, .map [.int .u64] (kvN .u64 .i64 (hm 0 (l.take i.1))))], 1⟩) (fun i => l.length - i.1) ⟨0, by simp [hidL, totL]⟩ ?_ ?_
  · simp [go_sem, totL]; rfl
  · rintro ⟨i, hi, hall, ho, hn, hs⟩
    refine awp_sound lread_T_ok.toS lv43 _ _ _ rfl ?_
    simp -implicitDefEqProofs only [cd_t, cd_f, cd_dec, cd_not, cd_and, cd_or, grd_tt, grd_ff, grd_tf, grd_ft, grd_dt, grd_df, grd_nt, grd_nf, go_sem, reduceIte, reduceCtorEq, Nat.reduceEqDiff, Nat.reduceAdd, Nat.reduceLeDiff, Nat.reduceSub, Nat.reduceMul, Nat.reduceLT, Nat.reduceShiftRight, Nat.reduceMod, Int.reduceLE, Int.reduceLT, Int.reduceToNat, decide_true, Bool.and_self, Bool.true_and, Ob.map.injEq, Ob.it.injEq, List.cons.injEq, true_and, and_true]
    refine ⟨fun h => ⟨by omega, ?_⟩, fun h => ?_⟩
    · refine ADraw.run us43_8 lread_T_ok follows_mixed (by kernel_rfl) (by kernel_rfl) ?_
      simp -implicitDefEqProofs only [cd_t, cd_f, cd_dec, cd_not, cd_and, cd_or, grd_tt, grd_ff, grd_tf, grd_ft, grd_dt, grd_df, grd_nt, grd_nf, go_sem, reduceIte, reduceCtorEq, Nat.reduceEqDiff, Nat.reduceAdd, Nat.reduceLeDiff, Nat.reduceSub, Nat.reduceMul, Nat.reduceLT, Nat.reduceShiftRight, Nat.reduceMod, Int.reduceLE, Int.reduceLT, Int.reduceToNat, decide_true, Bool.and_self, Bool.true_and, Ob.map.injEq, Ob.it.injEq, List.cons.injEq, true_and, and_true]
      have hi' : i < l.length := by omega
      have hmem : l.getD i default ∈ l := mem_getD.2 ⟨i, hi', rfl⟩
      have hsub : ∀ {a b : List Nat}, (a ++ b).Nodup ↔ a.Nodup ∧ b.Nodup ∧ ∀ x ∈ b, x ∉ a := fun {a b} => by
        rw [List.nodup_append]
        exact and_congr_right fun _ => and_congr_right fun _ => ⟨fun h x hb ha => h x ha x hb rfl, fun h x ha y hb e => h y hb (e ▸ ha)⟩
      have hks := hidL_succ hi'
      have hts := totL_succ hi'
      have hmsu := hm_succ hi'
      have htle := totL_le (l := l) (i := i + 1)
      have htk : ∀ c, c ∈ l.take (i + 1) ↔ c ∈ l.take i ∨ c = l.getD i default := fun c => by rw [take_succ hi']; simp
      refine ⟨fun h2 => ?_, fun h2 => hbad fun h => h2 (by rw [sumsC, if_pos (h.2.1 _ hmem)])⟩
      have hc0 : okCh (l.getD i default) := sumsC_0.1 h2
      have hcn := okCh_nd hc0
      have hA := allC_le (l.getD i default)
      change totL (l.take (i + 1)) = totL (l.take i) + (sumsC (l.getD i default)).2.1 at hts
      change (sumsC (l.getD i default)).2.1 ≤ MM at hA
      have hadd : ¬ (addM [totL (l.take i), (sumsC (l.getD i default)).2.1]).2 = 0 → ¬ okLd l := fun h3 h => h3 (addM_0.2 (by
        have := h.2.2.2.2
        simp only [List.mem_cons, List.not_mem_nil, or_false, forall_eq_or_imp, forall_eq, List.sum_cons, List.sum_nil]
        unfold MM at *
        omega))
      generalize hc : l.getD i default = c at *
      refine ⟨fun h3 => ⟨?_, fun h4 => hbad fun h => ?_, fun h4 => ⟨fun h5 _ => ?_, fun h5 => hbad (hadd h5)⟩⟩, fun h3 => ⟨fun h5 _ => ?_, fun h5 => hbad (hadd h5)⟩⟩
      · rw [i64_in _ (by omega)]; omega
      · rw [i64_in _ (by omega), show ((i : Int) - 1).toNat = i - 1 by omega] at h4
        have := h.2.2.1 i hi' (by omega)
        rw [hc] at this
        simp only [ltN] at this
        have := cmpS_neg (x := ((l.getD (i - 1) default).id : Int)) (y := c.id)
        omega
      all_goals
        have hord : 0 < i → (l.getD (i - 1) default).id < c.id := fun h0 => by
          first
          | (exfalso; omega)
          | (rw [i64_in _ (by omega), show ((i : Int) - 1).toNat = i - 1 by omega] at h4
             have := cmpS_neg (x := ((l.getD (i - 1) default).id : Int)) (y := c.id)
             omega)
        have hsum := addM_1 h5
        have hsum2 := (addM_0.1 h5).2
        simp only [List.sum_cons, List.sum_nil, Nat.add_zero] at hsum hsum2
        rw [hsum]
        refine SWp.loop (ι := { k : Nat // k ≤ c.holds.length ∧ ∀ j, j < k → (c.holds.getD j default).id ∉ hidL (l.take i) }) (fun k => ⟨[(0, .sl (chs l)), (4, .mp 0), (5, .int .u64 ((totL (l.take i) + (sumsC c).2.1 : Nat) : Int)), (6, .int .i64 i), (18, .sl (chs l)), (19, .int .i64 l.length), (20, .int .i64 i), (57, .sl (hds c.holds)), (58, .int .i64 c.holds.length), (59, .int .i64 k.1)], [(0, .map [.int .u64] (kvN .u64 .i64 (hm 0 (l.take i) ++ (c.holds.take k.1).map fun x => (x.id, (i : Int)))))], 3⟩) (fun k => c.holds.length - k.1) ⟨0, by simp⟩ ?_ ?_
        · simp [go_sem]
        · rintro ⟨k, hk, hin⟩
          refine awp_sound lread_T_ok.toS lv43 _ _ _ rfl ?_
          simp -implicitDefEqProofs only [cd_t, cd_f, cd_dec, cd_not, cd_and, cd_or, grd_tt, grd_ff, grd_tf, grd_ft, grd_dt, grd_df, grd_nt, grd_nf, go_sem, reduceIte, reduceCtorEq, Nat.reduceEqDiff, Nat.reduceAdd, Nat.reduceLeDiff, Nat.reduceSub, Nat.reduceMul, Nat.reduceLT, Nat.reduceShiftRight, Nat.reduceMod, Int.reduceLE, Int.reduceLT, Int.reduceToNat, decide_true, Bool.and_self, Bool.true_and, Ob.map.injEq, Ob.it.injEq, List.cons.injEq, true_and, and_true]
          have hkeys : ∀ m, m ≤ c.holds.length → (hm 0 (l.take i) ++ (c.holds.take m).map fun x => (x.id, (i : Int))).map (·.1) = hidL (l.take i) ++ (c.holds.take m).map Hd.id := fun m hm => by
            rw [List.map_append, hm_keys, List.map_map]; rfl
          refine ⟨fun h6 => ⟨by omega, fun a ha => hbad fun h => ?_, fun ha => ?_⟩, fun h6 => ?_⟩
          · have hk' : k < c.holds.length := by omega
            have h7 : ¬ nlk (c.holds.getD k default).id (hm 0 (l.take i) ++ (c.holds.take k).map fun x => (x.id, (i : Int))) = none := by rw [ha]; simp
            rw [nlk_none, hkeys k hk, Classical.not_not, List.mem_append] at h7
            rcases h7 with h7 | h7
            · have := hidL_nd (i := i + 1) h.2.2.2.1
              rw [hks, hsub] at this
              exact this.2.2 _ (List.mem_map.2 ⟨_, mem_getD.2 ⟨k, hk', rfl⟩, rfl⟩) h7
            · have h8 : (c.holds.take (k + 1)).map Hd.id = (c.holds.take k).map Hd.id ++ [(c.holds.getD k default).id] := by rw [take_succ hk']; simp
              have h9 : ((c.holds.take (k + 1)).map Hd.id).Nodup := by
                rw [List.map_take]; exact hcn.sublist (List.take_sublist _ _)
              rw [h8, hsub] at h9
              exact h9.2.2 _ (by simp) h7
          · have hk' : k < c.holds.length := by omega
            have h7 := nlk_none.1 ha
            rw [nset_new h7]
            rw [hkeys k hk, List.mem_append, not_or] at h7
            refine ⟨⟨k + 1, hk', fun j hj => ?_⟩, by dsimp only; omega, i64_in _ (by omega), ?_⟩
            · by_cases hji : j = k
              · subst hji; exact h7.1
              · exact hin j (by omega)
            · dsimp only
              rw [take_succ hk', List.map_append, ← List.append_assoc]; rfl
          · have hk' : k = c.holds.length := by omega
            subst hk'
            refine ⟨⟨i + 1, hi', fun d hd => ((htk d).1 hd).elim (hall d) (fun e => e ▸ hc0), fun j hj h0 => ?_, ?_, by rw [hts]; exact hsum2⟩, by dsimp only; omega, ⟨by dsimp only; rw [hts]; omega, i64_in _ (by omega)⟩, ?_⟩
            · by_cases hji : j = i
              · subst hji; rw [hc]; exact hord h0
              · exact ho j (by omega) h0
            · rw [hks, hsub]
              refine ⟨hn, hcn, fun x hx => ?_⟩
              obtain ⟨y, hy, rfl⟩ := List.mem_map.1 hx
              obtain ⟨j, hj, rfl⟩ := mem_getD.1 hy
              exact hin j (by omega)
            · dsimp only
              rw [List.take_length, hmsu]
    · have hi' : i = l.length := by omega
      subst hi'
      rw [List.take_length] at hall hn hs ⊢
      rw [readL, if_pos ⟨by omega, hall, fun j hj h0 => ho j hj h0, hn, hs⟩]
      exact ⟨⟨_, _, rfl, kvC_kvN, .refl _⟩, rfl⟩
def sp_lread : List D → Option (Prop × D × Fr)
  | [.c (.sl z107)] => some (z107 = chs (dchs z107), lread_r (dchs z107), [])
  | _ => none
attribute [go_sem] sp_lread
theorem sp_lread_ok : ∀ rs p r fr, sp_lread rs = some (p, r, fr) → p → FnOk Try.prog 43 rs r fr := by
  intro rs p r fr h hp
  unfold sp_lread at h
  split at h <;> cases h
  have hc0 := hp
  rename_i z107
  obtain ⟨z107, rfl⟩ : ∃ m, z107 = chs m := ⟨_, hc0⟩
  simp only [dchs_chs]
  exact lread_ok z107
@[go_sem] def lcheck_r (l : List Ch) : D := .int .i64 (chkL l)
@[go_sem] abbrev n_lcheck : FuncId := 24
@[go_sem] def lcheck_T : Tab := [(43, sp_lread)]
theorem lcheck_T_ok : TabOk Try.prog lcheck_T := (TabOk.cons sp_lread_ok TabOk.nil)
set_option maxRecDepth 8000 in
set_option maxHeartbeats 1000000 in
theorem lcheck_ok (l : List Ch)  : PureFn Try.prog 24 [.sl (chs l)] (lcheck_r l) := by
  refine .of (ac24 lcheck_T_ok (Nat.le_of_ble_eq_true rfl) ?_)
  simp -implicitDefEqProofs only [cd_t, cd_f, cd_dec, cd_not, cd_and, cd_or, grd_tt, grd_ff, grd_tf, grd_ft, grd_dt, grd_df, grd_nt, grd_nf, go_sem, Go.Proofs.Try.f24, reduceIte, reduceCtorEq, Nat.reduceEqDiff, Nat.reduceAdd, Nat.reduceLeDiff, Nat.reduceSub, Nat.reduceMul, Nat.reduceLT, Nat.reduceShiftRight, Nat.reduceMod, Int.reduceLE, Int.reduceLT, Int.reduceToNat, decide_true, Bool.and_self, Bool.true_and, Ob.map.injEq, Ob.it.injEq, List.cons.injEq, true_and, and_true]
  rw [readL, chkL]; split <;> rfl
def sp_lcheck : List D → Option (Prop × D × Fr)
  | [.c (.sl z108)] => some (z108 = chs (dchs z108), lcheck_r (dchs z108), [])
  | _ => none
attribute [go_sem] sp_lcheck
theorem sp_lcheck_ok : ∀ rs p r fr, sp_lcheck rs = some (p, r, fr) → p → FnOk Try.prog 24 rs r fr := by
  intro rs p r fr h hp
  unfold sp_lcheck at h
  split at h <;> cases h
  have hc0 := hp
  rename_i z108
  obtain ⟨z108, rfl⟩ : ∃ m, z108 = chs m := ⟨_, hc0⟩
  simp only [dchs_chs]
  exact lcheck_ok z108
end Dm
namespace Dm
open Go Go.Proofs Go.IntWalk
/-- api.Weight -/
structure Wt where
  id : Nat
  w : Option Nat
deriving DecidableEq
instance : Inhabited Wt := ⟨⟨default, some 0⟩⟩
@[go_sem] def Wt.enc (e : Wt) : List C := [.int .u64 (e.id : Int), .flt .f64 e.w]
def Wt.dec : List C → Wt
  | [.int .u64 z110, .flt .f64 z111] => (⟨z110.toNat, z111⟩ : Wt)
  | _ => default
def wts (l : List Wt) : List (List C) := l.map Wt.enc
def dwts (l : List (List C)) : List Wt := l.map Wt.dec
@[simp, go_sem] theorem wts_length (l : List Wt) : (wts l).length = l.length := by simp [wts]
@[go_sem] theorem wts_get (l : List Wt) (i : Nat) : (wts l).getD i [.int .u64 0, .flt .f64 (some 0)] = (l.getD i default).enc := by
  simp only [wts, List.getD_eq_getElem?_getD, List.getElem?_map]
  cases l[i]? <;> rfl
@[go_sem] theorem wts_wide (l : List Wt) : Wide 2 (wts l) = True := by
  simp [Wide, wts, Wt.enc]
theorem Wt.dec_enc (e : Wt) : Wt.dec e.enc = e := by
  simp [Wt.enc, Wt.dec]
@[go_sem] theorem dwts_wts (l : List Wt) : dwts (wts l) = l := by
  simp only [dwts, wts, List.map_map]
  exact List.map_id'' (fun e => Wt.dec_enc e) l
@[go_sem] theorem wts_app (a b : List Wt) : wts a ++ wts b = wts (a ++ b) := by simp [wts]
@[go_sem] theorem wts_drop (l : List Wt) (k : Nat) : (wts l).drop k = wts (l.drop k) := by simp [wts]
@[go_sem] theorem wts_take (l : List Wt) (k : Nat) : (wts l).take k = wts (l.take k) := by simp [wts]
@[go_sem] theorem wts_one (z112 : Int) (z113 : Option Nat) (hz112 : 0 ≤ z112) : [[C.int .u64 z112, C.flt .f64 z113]] = wts [⟨z112.toNat, z113⟩] := by simp [wts, Wt.enc, Int.toNat_of_nonneg hz112]
@[go_sem] theorem wts_set (l : List Wt) (i : Nat) (z112 : Int) (z113 : Option Nat) (hz112 : 0 ≤ z112) : (wts l).set i [C.int .u64 z112, C.flt .f64 z113] = wts (l.set i ⟨z112.toNat, z113⟩) := by simp [wts, List.map_set, Wt.enc, Int.toNat_of_nonneg hz112]
@[go_sem] theorem wts_cons (l : List Wt) (z112 : Int) (z113 : Option Nat) (hz112 : 0 ≤ z112) : [C.int .u64 z112, C.flt .f64 z113] :: wts l = wts (⟨z112.toNat, z113⟩ :: l) := by simp [wts, Wt.enc, Int.toNat_of_nonneg hz112]
@[go_sem] theorem wts_flat (l : List Wt) : flatE (wts l) = True := eq_true fun x hx c hc => by
  obtain ⟨e, _, rfl⟩ := List.mem_map.1 hx
  simp only [Wt.enc, List.mem_cons, List.not_mem_nil, or_false] at hc
  rcases hc with rfl | rfl <;> rfl
@[go_sem] theorem Wt.eta {e : Wt} : (⟨e.id, e.w⟩ : Wt) = e := rfl
/-- score.mark -/
structure Mk where
  id : Nat
  s : Option Nat
deriving DecidableEq
instance : Inhabited Mk := ⟨⟨default, some 0⟩⟩
@[go_sem] def Mk.enc (e : Mk) : List C := [.int .u64 (e.id : Int), .flt .f64 e.s]
def Mk.dec : List C → Mk
  | [.int .u64 z115, .flt .f64 z116] => (⟨z115.toNat, z116⟩ : Mk)
  | _ => default
def mks (l : List Mk) : List (List C) := l.map Mk.enc
def dmks (l : List (List C)) : List Mk := l.map Mk.dec
@[simp, go_sem] theorem mks_length (l : List Mk) : (mks l).length = l.length := by simp [mks]
@[go_sem] theorem mks_get (l : List Mk) (i : Nat) : (mks l).getD i [.int .u64 0, .flt .f64 (some 0)] = (l.getD i default).enc := by
  simp only [mks, List.getD_eq_getElem?_getD, List.getElem?_map]
  cases l[i]? <;> rfl
@[go_sem] theorem mks_wide (l : List Mk) : Wide 2 (mks l) = True := by
  simp [Wide, mks, Mk.enc]
theorem Mk.dec_enc (e : Mk) : Mk.dec e.enc = e := by
  simp [Mk.enc, Mk.dec]
@[go_sem] theorem dmks_mks (l : List Mk) : dmks (mks l) = l := by
  simp only [dmks, mks, List.map_map]
  exact List.map_id'' (fun e => Mk.dec_enc e) l
@[go_sem] theorem mks_app (a b : List Mk) : mks a ++ mks b = mks (a ++ b) := by simp [mks]
@[go_sem] theorem mks_drop (l : List Mk) (k : Nat) : (mks l).drop k = mks (l.drop k) := by simp [mks]
@[go_sem] theorem mks_take (l : List Mk) (k : Nat) : (mks l).take k = mks (l.take k) := by simp [mks]
@[go_sem] theorem mks_one (z117 : Int) (z118 : Option Nat) (hz117 : 0 ≤ z117) : [[C.int .u64 z117, C.flt .f64 z118]] = mks [⟨z117.toNat, z118⟩] := by simp [mks, Mk.enc, Int.toNat_of_nonneg hz117]
@[go_sem] theorem mks_set (l : List Mk) (i : Nat) (z117 : Int) (z118 : Option Nat) (hz117 : 0 ≤ z117) : (mks l).set i [C.int .u64 z117, C.flt .f64 z118] = mks (l.set i ⟨z117.toNat, z118⟩) := by simp [mks, List.map_set, Mk.enc, Int.toNat_of_nonneg hz117]
@[go_sem] theorem mks_cons (l : List Mk) (z117 : Int) (z118 : Option Nat) (hz117 : 0 ≤ z117) : [C.int .u64 z117, C.flt .f64 z118] :: mks l = mks (⟨z117.toNat, z118⟩ :: l) := by simp [mks, Mk.enc, Int.toNat_of_nonneg hz117]
@[go_sem] theorem mks_flat (l : List Mk) : flatE (mks l) = True := eq_true fun x hx c hc => by
  obtain ⟨e, _, rfl⟩ := List.mem_map.1 hx
  simp only [Mk.enc, List.mem_cons, List.not_mem_nil, or_false] at hc
  rcases hc with rfl | rfl <;> rfl
@[go_sem] theorem Mk.eta {e : Mk} : (⟨e.id, e.s⟩ : Mk) = e := rfl
abbrev F1 : Option Nat := some 4607182418800017408
/-- Is a score below another one? -/
def fless (a b : Option Nat) : Bool := decide (fkey a < fkey b)
@[go_sem] def isnanf_r (x : Option Nat) : D := .bool (fnan x)
@[go_sem] abbrev n_isnanf : FuncId := 52
@[go_sem] def isnanf_T : Tab := []
theorem isnanf_T_ok : TabOk Try.prog isnanf_T := TabOk.nil
set_option maxRecDepth 8000 in
set_option maxHeartbeats 1000000 in
theorem isnanf_ok (x : Option Nat)  : PureFn Try.prog 52 [.c (.flt .f64 x)] (isnanf_r x) := by
  refine .of (ac52 isnanf_T_ok (Nat.le_of_ble_eq_true rfl) ?_)
  simp -implicitDefEqProofs only [cd_t, cd_f, cd_dec, cd_not, cd_and, cd_or, grd_tt, grd_ff, grd_tf, grd_ft, grd_dt, grd_df, grd_nt, grd_nf, go_sem, Go.Proofs.Try.f52, reduceIte, reduceCtorEq, Nat.reduceEqDiff, Nat.reduceAdd, Nat.reduceLeDiff, Nat.reduceSub, Nat.reduceMul, Nat.reduceLT, Nat.reduceShiftRight, Nat.reduceMod, Int.reduceLE, Int.reduceLT, Int.reduceToNat, decide_true, Bool.and_self, Bool.true_and, Ob.map.injEq, Ob.it.injEq, List.cons.injEq, true_and, and_true]
  rfl
def sp_isnanf : List D → Option (Prop × D × Fr)
  | [.c (.flt .f64 z119)] => some (True, isnanf_r z119, [])
  | _ => none
attribute [go_sem] sp_isnanf
theorem sp_isnanf_ok : ∀ rs p r fr, sp_isnanf rs = some (p, r, fr) → p → FnOk Try.prog 52 rs r fr := by
  intro rs p r fr h hp
  unfold sp_isnanf at h
  split at h <;> cases h
  rename_i z119
  exact isnanf_ok z119
@[go_sem] def cmpf_r (x : Option Nat) (y : Option Nat) : D := .int .i64 (cmpS (fkey x) (fkey y))
@[go_sem] abbrev n_cmpf : FuncId := 33
@[go_sem] def cmpf_T : Tab := [(52, sp_isnanf)]
theorem cmpf_T_ok : TabOk Try.prog cmpf_T := (TabOk.cons sp_isnanf_ok TabOk.nil)
set_option maxRecDepth 8000 in
set_option maxHeartbeats 1000000 in
theorem cmpf_ok (x : Option Nat) (y : Option Nat)  : PureFn Try.prog 33 [.c (.flt .f64 x), .c (.flt .f64 y)] (cmpf_r x y) := by
  refine .of (ac33 cmpf_T_ok (Nat.le_of_ble_eq_true rfl) ?_)
  simp -implicitDefEqProofs only [cd_t, cd_f, cd_dec, cd_not, cd_and, cd_or, grd_tt, grd_ff, grd_tf, grd_ft, grd_dt, grd_df, grd_nt, grd_nf, go_sem, Go.Proofs.Try.f33, reduceIte, reduceCtorEq, Nat.reduceEqDiff, Nat.reduceAdd, Nat.reduceLeDiff, Nat.reduceSub, Nat.reduceMul, Nat.reduceLT, Nat.reduceShiftRight, Nat.reduceMod, Int.reduceLE, Int.reduceLT, Int.reduceToNat, decide_true, Bool.and_self, Bool.true_and, Ob.map.injEq, Ob.it.injEq, List.cons.injEq, true_and, and_true]
  have h1 := fkey_ge x
  have h2 := fkey_ge y
  rw [fnan_key, fnan_key, ford_lt, ford_gt]
  generalize fkey x = a at *
  generalize fkey y = b at *
  generalize kNan = k at *
  unfold cmpS
  simp only [decide_eq_true_eq, decide_eq_false_iff_not, Bool.and_eq_true, Bool.and_eq_false_iff, ne_eq, Classical.not_not]
  refine ⟨fun h3 => ⟨fun h4 => ?_, fun h4 => ?_⟩, fun h3 => ⟨fun h4 => ?_, fun h4 => ⟨fun h5 => ?_, fun h5 => ⟨fun h6 => ?_, fun h6 => ?_⟩⟩⟩⟩
  all_goals (repeat' split) <;> first | rfl | (exfalso; omega)
def sp_cmpf : List D → Option (Prop × D × Fr)
  | [.c (.flt .f64 z120), .c (.flt .f64 z121)] => some (True, cmpf_r z120 z121, [])
  | _ => none
attribute [go_sem] sp_cmpf
theorem sp_cmpf_ok : ∀ rs p r fr, sp_cmpf rs = some (p, r, fr) → p → FnOk Try.prog 33 rs r fr := by
  intro rs p r fr h hp
  unfold sp_cmpf at h
  split at h <;> cases h
  rename_i z120 z121
  exact cmpf_ok z120 z121
@[go_sem] def less_r (a : Option Nat) (b : Option Nat) : D := .bool (fless a b)
@[go_sem] abbrev n_less : FuncId := 19
@[go_sem] def less_T : Tab := [(33, sp_cmpf)]
theorem less_T_ok : TabOk Try.prog less_T := (TabOk.cons sp_cmpf_ok TabOk.nil)
set_option maxRecDepth 8000 in
set_option maxHeartbeats 1000000 in
theorem less_ok (a : Option Nat) (b : Option Nat)  : PureFn Try.prog 19 [.c (.flt .f64 a), .c (.flt .f64 b)] (less_r a b) := by
  refine .of (ac19 less_T_ok (Nat.le_of_ble_eq_true rfl) ?_)
  simp -implicitDefEqProofs only [cd_t, cd_f, cd_dec, cd_not, cd_and, cd_or, grd_tt, grd_ff, grd_tf, grd_ft, grd_dt, grd_df, grd_nt, grd_nf, go_sem, Go.Proofs.Try.f19, reduceIte, reduceCtorEq, Nat.reduceEqDiff, Nat.reduceAdd, Nat.reduceLeDiff, Nat.reduceSub, Nat.reduceMul, Nat.reduceLT, Nat.reduceShiftRight, Nat.reduceMod, Int.reduceLE, Int.reduceLT, Int.reduceToNat, decide_true, Bool.and_self, Bool.true_and, Ob.map.injEq, Ob.it.injEq, List.cons.injEq, true_and, and_true]
  rw [fless, decide_eq_decide, cmpS_neg]
def sp_less : List D → Option (Prop × D × Fr)
  | [.c (.flt .f64 z122), .c (.flt .f64 z123)] => some (True, less_r z122 z123, [])
  | _ => none
attribute [go_sem] sp_less
theorem sp_less_ok : ∀ rs p r fr, sp_less rs = some (p, r, fr) → p → FnOk Try.prog 19 rs r fr := by
  intro rs p r fr h hp
  unfold sp_less at h
  split at h <;> cases h
  rename_i z122 z123
  exact less_ok z122 z123
@[go_sem] def rfless_r (a : Option Nat) (b : Option Nat) : D := .bool (fless a b)
@[go_sem] abbrev n_rfless : FuncId := 20
@[go_sem] def rfless_T : Tab := []
theorem rfless_T_ok : TabOk Try.prog rfless_T := TabOk.nil
set_option maxRecDepth 8000 in
set_option maxHeartbeats 1000000 in
theorem rfless_ok (a : Option Nat) (b : Option Nat)  : PureFn Try.prog 20 [.c (.flt .f64 a), .c (.flt .f64 b)] (rfless_r a b) := by
  refine .of (ac20 rfless_T_ok (Nat.le_of_ble_eq_true rfl) ?_)
  simp -implicitDefEqProofs only [cd_t, cd_f, cd_dec, cd_not, cd_and, cd_or, grd_tt, grd_ff, grd_tf, grd_ft, grd_dt, grd_df, grd_nt, grd_nf, go_sem, Go.Proofs.Try.f20, reduceIte, reduceCtorEq, Nat.reduceEqDiff, Nat.reduceAdd, Nat.reduceLeDiff, Nat.reduceSub, Nat.reduceMul, Nat.reduceLT, Nat.reduceShiftRight, Nat.reduceMod, Int.reduceLE, Int.reduceLT, Int.reduceToNat, decide_true, Bool.and_self, Bool.true_and, Ob.map.injEq, Ob.it.injEq, List.cons.injEq, true_and, and_true]
  have h1 := fkey_ge a
  have h2 := fkey_ge b
  have hf := fnan_key a
  unfold fnan at hf
  rw [hf, ford_lt, ford_eqk, fless]
  generalize fkey a = x at *
  generalize fkey b = y at *
  generalize kNan = k at *
  by_cases h3 : x = k
  · by_cases h4 : y = k
    · have : ¬ x < y := by omega
      simp [h3, h4]
    · have : x < y := by omega
      have : k < y := by omega
      simp [h3, h4, this]
  · simp [h3]
def sp_rfless : List D → Option (Prop × D × Fr)
  | [.c (.flt .f64 z124), .c (.flt .f64 z125)] => some (True, rfless_r z124 z125, [])
  | _ => none
attribute [go_sem] sp_rfless
theorem sp_rfless_ok : ∀ rs p r fr, sp_rfless rs = some (p, r, fr) → p → FnOk Try.prog 20 rs r fr := by
  intro rs p r fr h hp
  unfold sp_rfless at h
  split at h <;> cases h
  rename_i z124 z125
  exact rfless_ok z124 z125
def fsame (a b : Option Nat) : Bool := decide (fkey a = fkey b)
@[go_sem] def rfsame_r (a : Option Nat) (b : Option Nat) : D := .bool (fsame a b)
@[go_sem] abbrev n_rfsame : FuncId := 21
@[go_sem] def rfsame_T : Tab := [(20, sp_rfless)]
theorem rfsame_T_ok : TabOk Try.prog rfsame_T := (TabOk.cons sp_rfless_ok TabOk.nil)
set_option maxRecDepth 8000 in
set_option maxHeartbeats 1000000 in
theorem rfsame_ok (a : Option Nat) (b : Option Nat)  : PureFn Try.prog 21 [.c (.flt .f64 a), .c (.flt .f64 b)] (rfsame_r a b) := by
  refine .of (ac21 rfsame_T_ok (Nat.le_of_ble_eq_true rfl) ?_)
  simp -implicitDefEqProofs only [cd_t, cd_f, cd_dec, cd_not, cd_and, cd_or, grd_tt, grd_ff, grd_tf, grd_ft, grd_dt, grd_df, grd_nt, grd_nf, go_sem, Go.Proofs.Try.f21, reduceIte, reduceCtorEq, Nat.reduceEqDiff, Nat.reduceAdd, Nat.reduceLeDiff, Nat.reduceSub, Nat.reduceMul, Nat.reduceLT, Nat.reduceShiftRight, Nat.reduceMod, Int.reduceLE, Int.reduceLT, Int.reduceToNat, decide_true, Bool.and_self, Bool.true_and, Ob.map.injEq, Ob.it.injEq, List.cons.injEq, true_and, and_true]
  unfold fless fsame
  generalize fkey a = x at *
  generalize fkey b = y at *
  by_cases h3 : x < y
  · have : ¬ x = y := by omega
    simp [h3, this]
  · by_cases h4 : y < x
    · have : ¬ x = y := by omega
      simp [h3, h4, this]
    · have : x = y := by omega
      simp [this]
def sp_rfsame : List D → Option (Prop × D × Fr)
  | [.c (.flt .f64 z126), .c (.flt .f64 z127)] => some (True, rfsame_r z126 z127, [])
  | _ => none
attribute [go_sem] sp_rfsame
theorem sp_rfsame_ok : ∀ rs p r fr, sp_rfsame rs = some (p, r, fr) → p → FnOk Try.prog 21 rs r fr := by
  intro rs p r fr h hp
  unfold sp_rfsame at h
  split at h <;> cases h
  rename_i z126 z127
  exact rfsame_ok z126 z127
def weighS (l : List Wt) (id : Nat) : Option Nat := match l.find? fun x => decide (x.id = id) with
  | some x => x.w
  | none => F1
@[go_sem] def rweigh_r (l : List Wt) (id : Nat) : D := .c (.flt .f64 (weighS l id))
@[go_sem] abbrev n_rweigh : FuncId := 23
@[go_sem] def rweigh_T : Tab := []
theorem rweigh_T_ok : TabOk Try.prog rweigh_T := TabOk.nil
set_option maxRecDepth 8000 in
set_option maxHeartbeats 1000000 in
theorem rweigh_ok (l : List Wt) (id : Nat)  : PureFn Try.prog 23 [.sl (wts l), .c (.int .u64 (id : Int))] (rweigh_r l id) := by
  refine .of (ac23 rweigh_T_ok (Nat.le_of_ble_eq_true rfl) ?_)
  simp -implicitDefEqProofs only [cd_t, cd_f, cd_dec, cd_not, cd_and, cd_or, grd_tt, grd_ff, grd_tf, grd_ft, grd_dt, grd_df, grd_nt, grd_nf, go_sem, Go.Proofs.Try.f23, reduceIte, reduceCtorEq, Nat.reduceEqDiff, Nat.reduceAdd, Nat.reduceLeDiff, Nat.reduceSub, Nat.reduceMul, Nat.reduceLT, Nat.reduceShiftRight, Nat.reduceMod, Int.reduceLE, Int.reduceLT, Int.reduceToNat, decide_true, Bool.and_self, Bool.true_and, Ob.map.injEq, Ob.it.injEq, List.cons.injEq, true_and, and_true]
  refine fun hl => SWp.loop (ι := { i : Nat // i ≤ l.length ∧ ∀ j, j < i → (l.getD j default).id ≠ id }) (fun i => ⟨[(1, .int .u64 id), (7, .sl (wts l)), (8, .int .i64 l.length), (9, .int .i64 i.1)], [], 0⟩) (fun i => l.length - i.1) ⟨0, by simp⟩ ?_ ?_
  · simp [go_sem]
  · rintro ⟨i, hi, hall⟩
    refine awp_sound rweigh_T_ok.toS lv23 _ _ _ rfl ?_
    simp -implicitDefEqProofs only [cd_t, cd_f, cd_dec, cd_not, cd_and, cd_or, grd_tt, grd_ff, grd_tf, grd_ft, grd_dt, grd_df, grd_nt, grd_nf, go_sem, reduceIte, reduceCtorEq, Nat.reduceEqDiff, Nat.reduceAdd, Nat.reduceLeDiff, Nat.reduceSub, Nat.reduceMul, Nat.reduceLT, Nat.reduceShiftRight, Nat.reduceMod, Int.reduceLE, Int.reduceLT, Int.reduceToNat, decide_true, Bool.and_self, Bool.true_and, Ob.map.injEq, Ob.it.injEq, List.cons.injEq, true_and, and_true]
    have hno : (∀ j, j < l.length → (l.getD j default).id ≠ id) → weighS l id = F1 := fun h => by
      have : l.find? (fun x => decide (x.id = id)) = none := by
        rw [List.find?_eq_none]
        intro x hx
        obtain ⟨j, hj, rfl⟩ := mem_getD.1 hx
        simpa using h j hj
      rw [weighS, this]
    have hyes : i < l.length → (l.getD i default).id = id → weighS l id = (l.getD i default).w := fun h h' => by
      have : l.find? (fun x => decide (x.id = id)) = some (l.getD i default) := by
        rw [List.find?_eq_some_iff_getElem]
        refine ⟨by simpa using h', i, h, (getD_lt h).symm, fun j hj => ?_⟩
        have := hall j hj
        rw [getD_lt (by omega)] at this
        simpa using this
      rw [weighS, this]
    refine ⟨fun h => ⟨by omega, fun h1 => ?_, fun h1 => ⟨⟨i + 1, by omega, fun j hj => ?_⟩, by dsimp only; omega, i64_in _ (by omega)⟩⟩, fun h => ?_⟩
    · rw [hyes (by omega) (by omega)]
    · by_cases hji : j = i
      · subst hji; omega
      · exact hall j (by omega)
    · rw [hno fun j hj => hall j (by omega)]
def sp_rweigh : List D → Option (Prop × D × Fr)
  | [.c (.sl z128), .c (.int .u64 z129)] => some (z128 = wts (dwts z128) ∧ z129 = (z129.toNat : Int), rweigh_r (dwts z128) z129.toNat, [])
  | _ => none
attribute [go_sem] sp_rweigh
theorem sp_rweigh_ok : ∀ rs p r fr, sp_rweigh rs = some (p, r, fr) → p → FnOk Try.prog 23 rs r fr := by
  intro rs p r fr h hp
  unfold sp_rweigh at h
  split at h <;> cases h
  obtain ⟨hc0, hc1⟩ := hp
  rename_i z128 z129
  obtain ⟨z128, rfl⟩ : ∃ m, z128 = wts m := ⟨_, hc0⟩
  obtain ⟨z129, rfl⟩ : ∃ m : Nat, z129 = m := ⟨_, hc1⟩
  simp only [Int.toNat_natCast, dwts_wts]
  exact rweigh_ok z128 z129
@[go_sem] def weigh_r (l : List Wt) (id : Nat) : D := .c (.flt .f64 (weighS l id))
@[go_sem] abbrev n_weigh : FuncId := 22
@[go_sem] def weigh_T : Tab := []
theorem weigh_T_ok : TabOk Try.prog weigh_T := TabOk.nil
set_option maxRecDepth 8000 in
set_option maxHeartbeats 1000000 in
theorem weigh_ok (l : List Wt) (id : Nat)  : PureFn Try.prog 22 [.sl (wts l), .c (.int .u64 (id : Int))] (weigh_r l id) := by
  refine .of (ac22 weigh_T_ok (Nat.le_of_ble_eq_true rfl) ?_)
  simp -implicitDefEqProofs only [cd_t, cd_f, cd_dec, cd_not, cd_and, cd_or, grd_tt, grd_ff, grd_tf, grd_ft, grd_dt, grd_df, grd_nt, grd_nf, go_sem, Go.Proofs.Try.f22, reduceIte, reduceCtorEq, Nat.reduceEqDiff, Nat.reduceAdd, Nat.reduceLeDiff, Nat.reduceSub, Nat.reduceMul, Nat.reduceLT, Nat.reduceShiftRight, Nat.reduceMod, Int.reduceLE, Int.reduceLT, Int.reduceToNat, decide_true, Bool.and_self, Bool.true_and, Ob.map.injEq, Ob.it.injEq, List.cons.injEq, true_and, and_true]
  refine ac41 weigh_T_ok (Nat.le_of_ble_eq_true rfl) ?_
  simp -implicitDefEqProofs only [cd_t, cd_f, cd_dec, cd_not, cd_and, cd_or, grd_tt, grd_ff, grd_tf, grd_ft, grd_dt, grd_df, grd_nt, grd_nf, go_sem, Go.Proofs.Try.f41, reduceIte, reduceCtorEq, Nat.reduceEqDiff, Nat.reduceAdd, Nat.reduceLeDiff, Nat.reduceSub, Nat.reduceMul, Nat.reduceLT, Nat.reduceShiftRight, Nat.reduceMod, Int.reduceLE, Int.reduceLT, Int.reduceToNat, decide_true, Bool.and_self, Bool.true_and, Ob.map.injEq, Ob.it.injEq, List.cons.injEq, true_and, and_true]
  refine fun hl => SWp.loop (ι := { i : Nat // i ≤ l.length ∧ ∀ j, j < i → (l.getD j default).id ≠ id }) (fun i => ⟨[(0, .sl (wts l)), (1, .fn (.func 42) [] [.ref 0 0]), (7, .int .i64 l.length), (8, .int .i64 i.1)], [(0, .box [.int .u64 id])], 1⟩) (fun i => l.length - i.1) ⟨0, by simp⟩ ?_ ?_
  · simp [go_sem]
  · rintro ⟨i, hi, hall⟩
    refine awp_sound weigh_T_ok.toS lv41 _ _ _ rfl ?_
    simp -implicitDefEqProofs only [cd_t, cd_f, cd_dec, cd_not, cd_and, cd_or, grd_tt, grd_ff, grd_tf, grd_ft, grd_dt, grd_df, grd_nt, grd_nf, go_sem, reduceIte, reduceCtorEq, Nat.reduceEqDiff, Nat.reduceAdd, Nat.reduceLeDiff, Nat.reduceSub, Nat.reduceMul, Nat.reduceLT, Nat.reduceShiftRight, Nat.reduceMod, Int.reduceLE, Int.reduceLT, Int.reduceToNat, decide_true, Bool.and_self, Bool.true_and, Ob.map.injEq, Ob.it.injEq, List.cons.injEq, true_and, and_true]
    have hno : (∀ j, j < l.length → (l.getD j default).id ≠ id) → weighS l id = F1 := fun h => by
      have : l.find? (fun x => decide (x.id = id)) = none := by
        rw [List.find?_eq_none]
        intro x hx
        obtain ⟨j, hj, rfl⟩ := mem_getD.1 hx
        simpa using h j hj
      rw [weighS, this]
    have hyes : i < l.length → (l.getD i default).id = id → weighS l id = (l.getD i default).w := fun h h' => by
      have : l.find? (fun x => decide (x.id = id)) = some (l.getD i default) := by
        rw [List.find?_eq_some_iff_getElem]
        refine ⟨by simpa using h', i, h, (getD_lt h).symm, fun j hj => ?_⟩
        have := hall j hj
        rw [getD_lt (by omega)] at this
        simpa using this
      rw [weighS, this]
    refine ⟨fun h => ⟨by omega, ?_⟩, fun h => ?_⟩
    · skip
      refine ac42 weigh_T_ok (Nat.le_of_ble_eq_true rfl) ?_
      simp -implicitDefEqProofs only [cd_t, cd_f, cd_dec, cd_not, cd_and, cd_or, grd_tt, grd_ff, grd_tf, grd_ft, grd_dt, grd_df, grd_nt, grd_nf, go_sem, Go.Proofs.Try.f42, reduceIte, reduceCtorEq, Nat.reduceEqDiff, Nat.reduceAdd, Nat.reduceLeDiff, Nat.reduceSub, Nat.reduceMul, Nat.reduceLT, Nat.reduceShiftRight, Nat.reduceMod, Int.reduceLE, Int.reduceLT, Int.reduceToNat, decide_true, Bool.and_self, Bool.true_and, Ob.map.injEq, Ob.it.injEq, List.cons.injEq, true_and, and_true]
      refine ⟨fun h1 => ⟨fun h2 => by omega, fun _ => ⟨by omega, ?_⟩⟩, fun h1 => ⟨⟨i + 1, by omega, fun j hj => ?_⟩, by dsimp only; omega, i64_in _ (by omega)⟩⟩
      · rw [hyes (by omega) (by omega)]
      · by_cases hji : j = i
        · subst hji; omega
        · exact hall j (by omega)
    · rw [hno fun j hj => hall j (by omega)]
def sp_weigh : List D → Option (Prop × D × Fr)
  | [.c (.sl z130), .c (.int .u64 z131)] => some (z130 = wts (dwts z130) ∧ z131 = (z131.toNat : Int), weigh_r (dwts z130) z131.toNat, [])
  | _ => none
attribute [go_sem] sp_weigh
theorem sp_weigh_ok : ∀ rs p r fr, sp_weigh rs = some (p, r, fr) → p → FnOk Try.prog 22 rs r fr := by
  intro rs p r fr h hp
  unfold sp_weigh at h
  split at h <;> cases h
  obtain ⟨hc0, hc1⟩ := hp
  rename_i z130 z131
  obtain ⟨z130, rfl⟩ : ∃ m, z130 = wts m := ⟨_, hc0⟩
  obtain ⟨z131, rfl⟩ : ∃ m : Nat, z131 = m := ⟨_, hc1⟩
  simp only [Int.toNat_natCast, dwts_wts]
  exact weigh_ok z130 z131
def oneS (c : Ch) (w n : Option Nat) : Option Nat × Int := if okCh c then (far .mul w (far .quo (far .sub (fofi (roomC c).1) n) (fofi (sumsC c).2.1)), 0) else (some 0, 1)
theorem roomC_0 {c : Ch} : (roomC c).2 = 0 ↔ okCh c := by
  unfold roomC
  by_cases h : okCh c
  · rw [if_pos h]
    simp only [h, iff_true]
    split <;> rfl
  · rw [if_neg h]
    simp [h]
@[go_sem] def one_r (c : Ch) (w : Option Nat) (n : Option Nat) : D := .tup [.c (.flt .f64 (oneS c w n).1), .int .i64 (oneS c w n).2]
@[go_sem] abbrev n_one : FuncId := 14
@[go_sem] def one_T : Tab := [(12, sp_croom), (37, sp_call)]
theorem one_T_ok : TabOk Try.prog one_T := (TabOk.cons sp_croom_ok (TabOk.cons sp_call_ok TabOk.nil))
set_option maxRecDepth 8000 in
set_option maxHeartbeats 1000000 in
theorem one_ok (c : Ch) (w : Option Nat) (n : Option Nat)  : PureFn Try.prog 14 [.agg [.c (.int .u64 (c.id : Int)), .c (.int .u64 (c.loc : Int)), .c (.int .u64 (c.rem : Int)), .c (.int .u64 (c.res : Int)), .c (.int .u64 (c.most : Int)), .sl (hds c.holds), .c (.bool c.op)], .c (.flt .f64 w), .c (.flt .f64 n)] (one_r c w n) := by
  refine .of (ac14 one_T_ok (Nat.le_of_ble_eq_true rfl) ?_)
  simp -implicitDefEqProofs only [cd_t, cd_f, cd_dec, cd_not, cd_and, cd_or, grd_tt, grd_ff, grd_tf, grd_ft, grd_dt, grd_df, grd_nt, grd_nf, go_sem, Go.Proofs.Try.f14, reduceIte, reduceCtorEq, Nat.reduceEqDiff, Nat.reduceAdd, Nat.reduceLeDiff, Nat.reduceSub, Nat.reduceMul, Nat.reduceLT, Nat.reduceShiftRight, Nat.reduceMod, Int.reduceLE, Int.reduceLT, Int.reduceToNat, decide_true, Bool.and_self, Bool.true_and, Ob.map.injEq, Ob.it.injEq, List.cons.injEq, true_and, and_true]
  have hr := roomC_0 (c := c)
  rw [hr, sumsC_0, oneS]
  by_cases h : okCh c
  · have e : (sumsC c).2.2 = 0 := sumsC_0.2 h
    simp [h]
  · have e : (roomC c).2 = 1 := by rw [roomC, if_neg h]
    simp [h, e]
def sp_one : List D → Option (Prop × D × Fr)
  | [.agg [.c (.int .u64 z133), .c (.int .u64 z134), .c (.int .u64 z135), .c (.int .u64 z136), .c (.int .u64 z137), .c (.sl z138), .c (.bool z139)], .c (.flt .f64 z140), .c (.flt .f64 z141)] => some (z133 = (z133.toNat : Int) ∧ z134 = (z134.toNat : Int) ∧ z135 = (z135.toNat : Int) ∧ z136 = (z136.toNat : Int) ∧ z137 = (z137.toNat : Int) ∧ z138 = hds (dhds z138), one_r (⟨z133.toNat, z134.toNat, z135.toNat, z136.toNat, z137.toNat, (dhds z138), z139⟩ : Ch) z140 z141, [])
  | _ => none
attribute [go_sem] sp_one
theorem sp_one_ok : ∀ rs p r fr, sp_one rs = some (p, r, fr) → p → FnOk Try.prog 14 rs r fr := by
  intro rs p r fr h hp
  unfold sp_one at h
  split at h <;> cases h
  obtain ⟨hc0, hc1, hc2, hc3, hc4, hc5⟩ := hp
  rename_i z133 z134 z135 z136 z137 z138 z139 z140 z141
  obtain ⟨z133, rfl⟩ : ∃ m : Nat, z133 = m := ⟨_, hc0⟩
  obtain ⟨z134, rfl⟩ : ∃ m : Nat, z134 = m := ⟨_, hc1⟩
  obtain ⟨z135, rfl⟩ : ∃ m : Nat, z135 = m := ⟨_, hc2⟩
  obtain ⟨z136, rfl⟩ : ∃ m : Nat, z136 = m := ⟨_, hc3⟩
  obtain ⟨z137, rfl⟩ : ∃ m : Nat, z137 = m := ⟨_, hc4⟩
  obtain ⟨z138, rfl⟩ : ∃ m, z138 = hds m := ⟨_, hc5⟩
  simp only [Int.toNat_natCast, dhds_hds]
  exact one_ok ⟨z133, z134, z135, z136, z137, z138, z139⟩ z140 z141
@[go_sem] def rone_r (c : Ch) (w : Option Nat) (n : Option Nat) : D := .tup [.c (.flt .f64 (oneS c w n).1), .int .i64 (oneS c w n).2]
@[go_sem] abbrev n_rone : FuncId := 15
@[go_sem] def rone_T : Tab := [(38, sp_r9room), (39, sp_r9all)]
theorem rone_T_ok : TabOk Try.prog rone_T := (TabOk.cons sp_r9room_ok (TabOk.cons sp_r9all_ok TabOk.nil))
set_option maxRecDepth 8000 in
set_option maxHeartbeats 1000000 in
theorem rone_ok (c : Ch) (w : Option Nat) (n : Option Nat)  : PureFn Try.prog 15 [.agg [.c (.int .u64 (c.id : Int)), .c (.int .u64 (c.loc : Int)), .c (.int .u64 (c.rem : Int)), .c (.int .u64 (c.res : Int)), .c (.int .u64 (c.most : Int)), .sl (hds c.holds), .c (.bool c.op)], .c (.flt .f64 w), .c (.flt .f64 n)] (rone_r c w n) := by
  refine .of (ac15 rone_T_ok (Nat.le_of_ble_eq_true rfl) ?_)
  simp -implicitDefEqProofs only [cd_t, cd_f, cd_dec, cd_not, cd_and, cd_or, grd_tt, grd_ff, grd_tf, grd_ft, grd_dt, grd_df, grd_nt, grd_nf, go_sem, Go.Proofs.Try.f15, reduceIte, reduceCtorEq, Nat.reduceEqDiff, Nat.reduceAdd, Nat.reduceLeDiff, Nat.reduceSub, Nat.reduceMul, Nat.reduceLT, Nat.reduceShiftRight, Nat.reduceMod, Int.reduceLE, Int.reduceLT, Int.reduceToNat, decide_true, Bool.and_self, Bool.true_and, Ob.map.injEq, Ob.it.injEq, List.cons.injEq, true_and, and_true]
  have hr := roomC_0 (c := c)
  rw [hr, oneS]
  by_cases h : okCh c
  · simp [h]
  · have e : (roomC c).2 = 1 := by rw [roomC, if_neg h]
    simp [h, e]
def sp_rone : List D → Option (Prop × D × Fr)
  | [.agg [.c (.int .u64 z143), .c (.int .u64 z144), .c (.int .u64 z145), .c (.int .u64 z146), .c (.int .u64 z147), .c (.sl z148), .c (.bool z149)], .c (.flt .f64 z150), .c (.flt .f64 z151)] => some (z143 = (z143.toNat : Int) ∧ z144 = (z144.toNat : Int) ∧ z145 = (z145.toNat : Int) ∧ z146 = (z146.toNat : Int) ∧ z147 = (z147.toNat : Int) ∧ z148 = hds (dhds z148), rone_r (⟨z143.toNat, z144.toNat, z145.toNat, z146.toNat, z147.toNat, (dhds z148), z149⟩ : Ch) z150 z151, [])
  | _ => none
attribute [go_sem] sp_rone
theorem sp_rone_ok : ∀ rs p r fr, sp_rone rs = some (p, r, fr) → p → FnOk Try.prog 15 rs r fr := by
  intro rs p r fr h hp
  unfold sp_rone at h
  split at h <;> cases h
  obtain ⟨hc0, hc1, hc2, hc3, hc4, hc5⟩ := hp
  rename_i z143 z144 z145 z146 z147 z148 z149 z150 z151
  obtain ⟨z143, rfl⟩ : ∃ m : Nat, z143 = m := ⟨_, hc0⟩
  obtain ⟨z144, rfl⟩ : ∃ m : Nat, z144 = m := ⟨_, hc1⟩
  obtain ⟨z145, rfl⟩ : ∃ m : Nat, z145 = m := ⟨_, hc2⟩
  obtain ⟨z146, rfl⟩ : ∃ m : Nat, z146 = m := ⟨_, hc3⟩
  obtain ⟨z147, rfl⟩ : ∃ m : Nat, z147 = m := ⟨_, hc4⟩
  obtain ⟨z148, rfl⟩ : ∃ m, z148 = hds m := ⟨_, hc5⟩
  simp only [Int.toNat_natCast, dhds_hds]
  exact rone_ok ⟨z143, z144, z145, z146, z147, z148, z149⟩ z150 z151
@[go_sem] def misnan_r (x : Option Nat) : D := .bool (fnan x)
@[go_sem] abbrev n_misnan : FuncId := 28
@[go_sem] def misnan_T : Tab := []
theorem misnan_T_ok : TabOk Try.prog misnan_T := TabOk.nil
set_option maxRecDepth 8000 in
set_option maxHeartbeats 1000000 in
theorem misnan_ok (x : Option Nat)  : PureFn Try.prog 28 [.c (.flt .f64 x)] (misnan_r x) := by
  refine .of (ac28 misnan_T_ok (Nat.le_of_ble_eq_true rfl) ?_)
  simp -implicitDefEqProofs only [cd_t, cd_f, cd_dec, cd_not, cd_and, cd_or, grd_tt, grd_ff, grd_tf, grd_ft, grd_dt, grd_df, grd_nt, grd_nf, go_sem, Go.Proofs.Try.f28, reduceIte, reduceCtorEq, Nat.reduceEqDiff, Nat.reduceAdd, Nat.reduceLeDiff, Nat.reduceSub, Nat.reduceMul, Nat.reduceLT, Nat.reduceShiftRight, Nat.reduceMod, Int.reduceLE, Int.reduceLT, Int.reduceToNat, decide_true, Bool.and_self, Bool.true_and, Ob.map.injEq, Ob.it.injEq, List.cons.injEq, true_and, and_true]
  rfl
def sp_misnan : List D → Option (Prop × D × Fr)
  | [.c (.flt .f64 z152)] => some (True, misnan_r z152, [])
  | _ => none
attribute [go_sem] sp_misnan
theorem sp_misnan_ok : ∀ rs p r fr, sp_misnan rs = some (p, r, fr) → p → FnOk Try.prog 28 rs r fr := by
  intro rs p r fr h hp
  unfold sp_misnan at h
  split at h <;> cases h
  rename_i z152
  exact misnan_ok z152
@[go_sem] def mnan_r  : D := .c (.flt .f64 none)
@[go_sem] abbrev n_mnan : FuncId := 29
@[go_sem] def mnan_T : Tab := [ovk 49]
theorem mnan_T_ok : TabOk Try.prog mnan_T := (TabOk.cons (ov_ok 49) TabOk.nil)
set_option maxRecDepth 8000 in
set_option maxHeartbeats 1000000 in
theorem mnan_ok   : PureFn Try.prog 29 [] (mnan_r ) := by
  refine .of (ac29 mnan_T_ok (Nat.le_of_ble_eq_true rfl) ?_)
  simp -implicitDefEqProofs only [cd_t, cd_f, cd_dec, cd_not, cd_and, cd_or, grd_tt, grd_ff, grd_tf, grd_ft, grd_dt, grd_df, grd_nt, grd_nf, go_sem, Go.Proofs.Try.f29, reduceIte, reduceCtorEq, Nat.reduceEqDiff, Nat.reduceAdd, Nat.reduceLeDiff, Nat.reduceSub, Nat.reduceMul, Nat.reduceLT, Nat.reduceShiftRight, Nat.reduceMod, Int.reduceLE, Int.reduceLT, Int.reduceToNat, decide_true, Bool.and_self, Bool.true_and, Ob.map.injEq, Ob.it.injEq, List.cons.injEq, true_and, and_true]
  exact ⟨_, rfl, rfl, rfl, rfl, by kernel_rfl⟩
def sp_mnan : List D → Option (Prop × D × Fr)
  | [] => some (True, mnan_r , [])
  | _ => none
attribute [go_sem] sp_mnan
theorem sp_mnan_ok : ∀ rs p r fr, sp_mnan rs = some (p, r, fr) → p → FnOk Try.prog 29 rs r fr := by
  intro rs p r fr h hp
  unfold sp_mnan at h
  split at h <;> cases h
  exact mnan_ok 
def mkO (a b : Mk) : Int := orS [cmpS (fkey b.s) (fkey a.s), cmpS a.id b.id]
@[go_sem] def mkcmp_r (a : Mk) (b : Mk) : D := .int .i64 (mkO a b)
@[go_sem] abbrev n_mkcmp : FuncId := 31
@[go_sem] def mkcmp_T : Tab := [(33, sp_cmpf), (34, sp_cmp), (32, sp_cmpor)]
theorem mkcmp_T_ok : TabOk Try.prog mkcmp_T := (TabOk.cons sp_cmpf_ok (TabOk.cons sp_cmp_ok (TabOk.cons sp_cmpor_ok TabOk.nil)))
set_option maxRecDepth 8000 in
set_option maxHeartbeats 1000000 in
theorem mkcmp_ok (a : Mk) (b : Mk)  : PureFn Try.prog 31 [.agg [.c (.int .u64 (a.id : Int)), .c (.flt .f64 a.s)], .agg [.c (.int .u64 (b.id : Int)), .c (.flt .f64 b.s)]] (mkcmp_r a b) := by
  refine .of (ac31 mkcmp_T_ok (Nat.le_of_ble_eq_true rfl) ?_)
  simp -implicitDefEqProofs only [cd_t, cd_f, cd_dec, cd_not, cd_and, cd_or, grd_tt, grd_ff, grd_tf, grd_ft, grd_dt, grd_df, grd_nt, grd_nf, go_sem, Go.Proofs.Try.f31, reduceIte, reduceCtorEq, Nat.reduceEqDiff, Nat.reduceAdd, Nat.reduceLeDiff, Nat.reduceSub, Nat.reduceMul, Nat.reduceLT, Nat.reduceShiftRight, Nat.reduceMod, Int.reduceLE, Int.reduceLT, Int.reduceToNat, decide_true, Bool.and_self, Bool.true_and, Ob.map.injEq, Ob.it.injEq, List.cons.injEq, true_and, and_true]
  refine ADraw.run us31_1 mkcmp_T_ok follows_mixed (by kernel_rfl) (by kernel_rfl) ?_
  simp -implicitDefEqProofs only [cd_t, cd_f, cd_dec, cd_not, cd_and, cd_or, grd_tt, grd_ff, grd_tf, grd_ft, grd_dt, grd_df, grd_nt, grd_nf, go_sem, reduceIte, reduceCtorEq, Nat.reduceEqDiff, Nat.reduceAdd, Nat.reduceLeDiff, Nat.reduceSub, Nat.reduceMul, Nat.reduceLT, Nat.reduceShiftRight, Nat.reduceMod, Int.reduceLE, Int.reduceLT, Int.reduceToNat, decide_true, Bool.and_self, Bool.true_and, Ob.map.injEq, Ob.it.injEq, List.cons.injEq, true_and, and_true]
  rfl
def sp_mkcmp : List D → Option (Prop × D × Fr)
  | [.agg [.c (.int .u64 z154), .c (.flt .f64 z155)], .agg [.c (.int .u64 z157), .c (.flt .f64 z158)]] => some (z154 = (z154.toNat : Int) ∧ z157 = (z157.toNat : Int), mkcmp_r (⟨z154.toNat, z155⟩ : Mk) (⟨z157.toNat, z158⟩ : Mk), [])
  | _ => none
attribute [go_sem] sp_mkcmp
theorem sp_mkcmp_ok : ∀ rs p r fr, sp_mkcmp rs = some (p, r, fr) → p → FnOk Try.prog 31 rs r fr := by
  intro rs p r fr h hp
  unfold sp_mkcmp at h
  split at h <;> cases h
  obtain ⟨hc0, hc1⟩ := hp
  rename_i z154 z155 z157 z158
  obtain ⟨z154, rfl⟩ : ∃ m : Nat, z154 = m := ⟨_, hc0⟩
  obtain ⟨z157, rfl⟩ : ∃ m : Nat, z157 = m := ⟨_, hc1⟩
  simp only [Int.toNat_natCast]
  exact mkcmp_ok ⟨z154, z155⟩ ⟨z157, z158⟩
end Dm
/-! 'slices.SortFunc' of a slice of one's own, by the kit's contract. -/
namespace Dm
open Go Go.Proofs Go.Shelf Go.RowKit Go.Lib Go.Sort
section
variable {P : Program} {ρ : Ren} {w w' : World}
theorem ext_grow (h : Ext w w') : ∃ q os', w' = Sort.grow (w.drewN q) os' := by
  refine ⟨w'.drawn - w.drawn, w'.heap.extract w.heap.size w'.heap.size, ?_⟩
  obtain ⟨h1, h2, h3⟩ := h
  have e1 : w'.heap = w.heap ++ w'.heap.extract w.heap.size w'.heap.size := by
    apply Array.ext_getElem?
    intro i
    rw [Array.getElem?_append]
    split
    · rename_i hi; exact h2 i hi
    · rename_i hi
      rw [Array.getElem?_extract]
      by_cases hi2 : i < w'.heap.size
      · rw [if_pos (by omega), show w.heap.size + (i - w.heap.size) = i by omega]
      · rw [if_neg (by omega), Array.getElem?_eq_none (by omega)]
  have e2 : w'.drawn = w.drawn + (w'.drawn - w.drawn) := by have := h3.drw; omega
  obtain ⟨a1, a2, a3, a4, a5⟩ := w'
  obtain ⟨b1, b2, b3, b4, b5⟩ := w
  have h31 := h3.os
  have h32 := h3.out
  have h33 := h3.tape
  simp only at e1 e2 h31 h32 h33
  subst h31; subst h32; subst h33
  simp only [Sort.grow, World.drewN, World.mk.injEq, and_self, and_true, true_and]
  exact ⟨e1, e2⟩
theorem putCells_get {off : Nat} {F cells : Array Value} {t : Nat} (ht : t < cells.size) : (putCells id off F cells)[t]? = if off ≤ t ∧ t < off + F.size then some F[t - off]! else cells[t]? := by
  unfold putCells
  rw [Array.getElem?_mapIdx, Array.getElem?_eq_getElem ht]
  simp only [Option.map_some, id]
  split <;> rfl
theorem sw_heap {enc : Nat → List Value} {k blk off m : Nat} {dk : Array Nat} {os : Array Obj} {cells : Array Value} {e : TypeId} {fz : Nat × Nat} (hb : w.heap[blk]? = some (.cells cells e fz)) {j : Nat} (hj : j < w.heap.size) :
    (sortWorldK enc k w blk off m dk os).heap[j]? = if j = blk then some (.cells (putCells id off (flatK enc k dk) cells) e fz) else w.heap[j]? := by
  unfold sortWorldK putRowK putRow mapBlock Sort.grow Sort.ahead
  have hs : (w.heap.modify blk (onCells (putCells id off (flatK enc k dk)))).size = w.heap.size := by simp
  simp only
  rw [Array.getElem?_append_left (by rw [hs]; exact hj), Array.getElem?_modify]
  by_cases h : j = blk
  · subst h
    rw [if_pos rfl, if_pos rfl, hb]; rfl
  · rw [if_neg (fun e => h e.symm), if_neg h]
theorem sw_size {enc : Nat → List Value} {k blk off m : Nat} {dk : Array Nat} {os : Array Obj} : w.heap.size ≤ (sortWorldK enc k w blk off m dk os).heap.size := by
  unfold sortWorldK putRowK putRow mapBlock Sort.grow Sort.ahead
  simp
theorem sw_env {enc : Nat → List Value} {k blk off m : Nat} {dk : Array Nat} {os : Array Obj} : Env w (sortWorldK enc k w blk off m dk os) := ⟨rfl, rfl, rfl, Nat.le_add_right _ _⟩
/-- A call that puts one's own slice in order. -/
theorem ACall.sort (L : SlLaysF0.n6 P ρ) {k : Nat} (hk0 : 0 < k) (aE : ∀ w, (isAgg (ρ.t 24)).run P w = .ok true w) (zE : ∀ w, (Go.sizeOf (ρ.t 24)).run P w = .ok k w)
    {f g : FuncId} (hf : ρ.f 6 = f) {cf : List C → List C → Int} {id e nx n : Nat} {h0 : Bool} {els : List (List C)} {os : List (Nat × Ob)} {Q : D → List (Nat × Ob) → Nat → Prop}
    (hi : lk id os = some (.vec h0 k e els)) (hn : n = els.length) (hsz : n < 4611686018427387904)
    (hcmp : ∀ x ∈ els, ∀ y ∈ els, PureFn P g [.agg (x.map .c), .agg (y.map .c)] (.int .i64 (cf x y)))

    (h1 : ∀ x ∈ els, ¬ cf x x < 0) (h2 : ∀ x ∈ els, ∀ y ∈ els, ∀ z ∈ els, cf x y < 0 → cf y z < 0 → cf x z < 0) (h3 : ∀ x ∈ els, ∀ y ∈ els, ∀ z ∈ els, ¬ cf x y < 0 → ¬ cf y z < 0 → ¬ cf x z < 0)
    (hQ : ∀ els' : List (List C), List.Perm els' els → els'.Pairwise (fun x y => ¬ cf y x < 0) → Q (.tup []) (upd id (.vec h0 k e els') os) nx) : ACall P f [.vec id n, .fn (.func g) [] []] os nx Q := by
  subst hf
  refine ⟨?_, fun g0 w vs ho hsv hv => ?_⟩
  · obtain ⟨nm, hnm, hfn⟩ := L.f6
    exact ⟨_, hfn, hnm, rfl⟩
  have hlen : vs.size = 2 := hsv
  have hv0 := hv 0 vs[0] _ (Array.getElem?_eq_getElem (by omega)) rfl
  have hv1 := hv 1 vs[1] _ (Array.getElem?_eq_getElem (by omega)) rfl
  have hvs : vs = #[vs[0], vs[1]] := by
    apply Array.ext
    · simpa using hlen
    · intro i hi1 hi2
      have : i = 0 ∨ i = 1 := by omega
      rcases this with rfl | rfl <;> rfl
  have hfn : vs[1] = .func (.func g) #[] #[] := by
    generalize vs[1] = u at hv1
    cases hv1 with
    | fn _ fi ca _ _ hs1 hs2 =>
      have e1 : fi = #[] := Array.eq_empty_of_size_eq_zero (by simpa using hs1)
      have e2 : ca = #[] := Array.eq_empty_of_size_eq_zero (by simpa using hs2)
      rw [e1, e2]
  rw [hfn] at hvs
  obtain ⟨a, cap, hκ, hle, hcm, hw, hob⟩ := ho.ok id _ hi
  obtain ⟨a', cap', hva, hcase⟩ : ∃ a' cap', vs[0] = .slice a' n cap' ∧ (a' = a ∧ cap' = cap) := by
    generalize vs[0] = u at hv0
    cases hv0 with
    | vec a' cap' _ _ a0 len cap0 hk hle' hm ha hvq =>
      rw [hκ] at hk
      cases hk
      exact ⟨a', cap', rfl, hvq hn⟩
  obtain ⟨rfl, rfl⟩ := hcase
  rw [hva] at hvs
  clear hv0 hv1 hv hva hfn
  subst hvs
  have hrt : ∀ g' w', VRel g' w' (.tuple #[]) (.tup []) := fun g' w' => .tup #[] [] rfl (fun i v d hv => by simp at hv)
  by_cases hn0 : n = 0
  · have hels : els = [] := List.eq_nil_of_length_eq_zero (by omega)
    have hcon := AnyF.slices_SortFunc_none L a' cap' (.func (.func g) #[] #[]) w
    subst hn0
    refine hcon.mono ?_
    rintro ex w' ⟨rfl, rfl⟩
    subst hels
    have hq := hQ [] (.refl _) .nil
    obtain ⟨hr1, hr2⟩ := ho.replace hi (.vec h0 k e []) [] (.refl g0) (fun _ h => h) (fun _ _ => rfl) (fun _ _ => rfl) (Nat.le_refl _) (fun _ _ _ => rfl) (ho.ok id _ hi) (fun b hb => .inl hb)
    exact ⟨_, _, g0, _, nx, rfl, hq, hr1, hrt _ _, hr2⟩
  rcases hob with ⟨_, hc0⟩ | ⟨b, off, cells, vals, rfl, hblk, hsz2, ⟨hhd, hone⟩, hcell⟩
  · omega
  have hlt : b < w.heap.size := (Array.getElem?_eq_some_iff.1 hblk).1
  let ix : Nat → Nat := fun i => if i < n then i else 0
  have hix : ∀ i, ix i < n := fun i => by show (if i < n then i else 0) < n; split <;> omega
  let E : Nat → List C := fun i => els.getD (ix i) []
  have hE : ∀ i, E i ∈ els := fun i => by
    have h4 : ix i < els.length := by rw [← hn]; exact hix i
    show els.getD (ix i) [] ∈ els
    rw [List.getD_eq_getElem?_getD, List.getElem?_eq_getElem h4]
    exact List.getElem_mem h4
  have hE2 : ∀ i, els[ix i]? = some (E i) := fun i => by
    have h4 : ix i < els.length := by rw [← hn]; exact hix i
    show els[ix i]? = some (els.getD (ix i) [])
    rw [List.getD_eq_getElem?_getD, List.getElem?_eq_getElem h4]; rfl
  let enc : Nat → List Value := fun i => (List.range k).map (vals (ix i))
  have henc : ∀ x, (enc x).length = k := fun x => by simp [enc]
  have hcl : ∀ i j, j < k → ∃ y, (E i)[j]? = some y ∧ cells[off + ix i * k + j]? = some (vals (ix i) j) ∧ CRel g0.I w (vals (ix i) j) y := fun i j hj => by
    have hwd : (E i).length = k := hw _ (hE i)
    have h4 : (E i)[j]? = some ((E i)[j]'(by omega)) := List.getElem?_eq_getElem (by omega)
    exact ⟨_, h4, hcell (ix i) j _ _ (hE2 i) h4⟩
  have hO : SWO (ltOf fun i j => cf (E i) (E j)) := by
    refine ⟨fun x => ?_, fun x y z hx hy => ?_, fun x y z hx hy => ?_⟩
    · unfold ltOf; exact decide_eq_false (h1 _ (hE x))
    · unfold ltOf at *
      exact decide_eq_true (h2 _ (hE x) _ (hE y) _ (hE z) (of_decide_eq_true hx) (of_decide_eq_true hy))
    · unfold ltOf at *
      exact decide_eq_false (h3 _ (hE x) _ (hE y) _ (hE z) (of_decide_eq_false hx) (of_decide_eq_false hy))
  have hmem0 : E 0 ∈ els := hE 0
  have eg : ∀ args w, (callFunc g args).run P w = .ok (.enter g args) w := by
    obtain ⟨⟨fn, h4, h5, h6⟩, _⟩ := hcmp _ hmem0 _ hmem0
    cases hb : fn.body with
    | none => rw [hb] at h6; cases h6
    | some c => exact enters_of h4 h5 hb
  have hIb : ∀ b', g0.I b' → b' < w.heap.size ∧ b' ≠ b := fun b' hb' => ⟨(ho.imm b' hb').1, fun e => (ho.imm b' hb').2 ⟨id, _, hi, by rw [e]; simp [G.blk, hκ]⟩⟩
  have hkeep : ∀ (m : Nat) (dk : Array Nat) (os' : Array Obj), Keeps g0.I w (sortWorldK enc k w b off m dk os') := fun m dk os' b' hb' => by
    rw [sw_heap hblk (hIb b' hb').1, if_neg (hIb b' hb').2]
  have hcl2 : CmpLays P g #[] enc k (fun i j => cf (E i) (E j)) b off n w := by
    intro m os' dk hdk x y
    have harg : ∀ (i : Nat) (v : Value) (d : D), (#[Value.agg (enc x).toArray, .agg (enc y).toArray] : Array Value)[i]? = some v → [D.agg ((E x).map .c), .agg ((E y).map .c)][i]? = some d → VRel (G0 g0.I) (sortWorldK enc k w b off m dk os') v d := by
      have one : ∀ x, VRel (G0 g0.I) (sortWorldK enc k w b off m dk os') (.agg (enc x).toArray) (.agg ((E x).map .c)) := fun x => by
        have hwd : (E x).length = k := hw _ (hE x)
        refine .agg _ _ (by simp [henc, hwd]) fun i v d hv hd => ?_
        simp only [List.getElem?_toArray, enc, List.getElem?_map] at hv
        have hik : i < k := by
          rcases Nat.lt_or_ge i k with h | h
          · exact h
          · rw [List.getElem?_eq_none (by simpa using h)] at hv; cases hv
        rw [List.getElem?_range hik] at hv
        simp only [Option.map_some, Option.some.injEq] at hv
        obtain ⟨z, h4, h5, h6⟩ := hcl x i hik
        rw [List.getElem?_map, h4] at hd
        simp only [Option.map_some, Option.some.injEq] at hd
        subst hv; subst hd
        exact .c _ _ (h6.mono (hkeep m dk os') fun b hb => hb)
      intro i v d hv hd
      have : i = 0 ∨ i = 1 ∨ 2 ≤ i := by omega
      rcases this with rfl | rfl | h
      · simp at hv hd; subst hv; subst hd; exact one x
      · simp at hv hd; subst hv; subst hd; exact one y
      · rw [List.getElem?_eq_none (by simpa using h)] at hd; cases hd
    have hc := (hcmp _ (hE x) _ (hE y)).2 g0.I (sortWorldK enc k w b off m dk os') #[.agg (enc x).toArray, .agg (enc y).toArray] (fun b' hb' => (ho.cel b' hb').keep (hkeep m dk os' b' hb')) rfl harg
    refine hc.mono ?_
    rintro ex w' ⟨v, I', rfl, hvr, hext, _⟩
    have := hvr.int_inv
    subst this
    exact ⟨rfl, ext_grow hext⟩
  have hflat : ∀ (d : Array Nat) (t : Nat), t < d.size * k → (flatK enc k d)[t]! = vals (ix d[t / k]!) (t % k) := fun d t ht => by
    rw [get_flatK _ _ _ _ ht]
    have : t % k < k := Nat.mod_lt _ hk0
    simp [enc, this]
  have hH : HoldsK enc k w b off (Array.range n) := by
    intro t ht
    simp only [size_flatK, Array.size_range] at ht
    have h4 : t / k < n := (Nat.div_lt_iff_lt_mul hk0).2 ht
    rw [hflat _ _ (by simpa using ht)]
    have h5 : (Array.range n)[t / k]! = t / k := by simp [h4]
    rw [h5]
    have h6 : ix (t / k) = t / k := by show (if t / k < n then t / k else 0) = t / k; rw [if_pos h4]
    obtain ⟨y, h7, h8, h9⟩ := hcl (t / k) (t % k) (Nat.mod_lt _ hk0)
    rw [h6, show off + t / k * k + t % k = off + t by rw [Nat.add_assoc, Nat.div_add_mod']] at h8
    rw [h6]
    refine ⟨by simp only [World.cell?, hblk]; simpa using h8, by simp [World.frozen?, hblk]⟩
  have hcon := AnyQ.slices_SortFunc L k aE zE enc henc (fun x v hv => by
    simp only [enc, List.mem_map, List.mem_range] at hv
    obtain ⟨j, hj, rfl⟩ := hv
    obtain ⟨y, h7, h8, h9⟩ := hcl x j hj
    exact hone _ (Array.mem_toList_iff.2 (Array.mem_of_getElem? h8))) (fun i j => cf (E i) (E j)) hO g #[] b off cap' (Array.range n) w eg (by simpa using hcl2) hH hlt (by simpa using hsz)
  rw [Array.size_range] at hcon
  refine hcon.mono ?_
  rintro ex w' ⟨rfl, d', m, os', ⟨hp1, _, hp2⟩, hso, rfl⟩
  rw [Array.size_range] at hp1
  have hperm : d'.toList.Perm (List.range n) := by
    have e1 : d'.extract 0 n = d' := by rw [← hp1, Array.extract_size]
    have e2 : (Array.range n).extract 0 n = Array.range n := by
      have : (Array.range n).size = n := Array.size_range
      conv => lhs; arg 3; rw [← this]
      exact Array.extract_size
    rw [e1, e2, Array.toList_range] at hp2
    exact hp2
  have hEr : (List.range n).map E = els := by
    apply List.ext_getElem?
    intro i
    rw [List.getElem?_map]
    by_cases hin : i < n
    · rw [List.getElem?_range hin, Option.map_some, ← hE2 i]
      show els[ix i]? = _
      have : ix i = i := by show (if i < n then i else 0) = i; rw [if_pos hin]
      rw [this]
    · rw [List.getElem?_eq_none (by simpa using hin), List.getElem?_eq_none (by omega)]; rfl
  have hpe : (d'.toList.map E).Perm els := by
    have := hperm.map E
    rwa [hEr] at this
  have hlen' : (d'.toList.map E).length = n := by rw [hpe.length_eq]; exact hn.symm
  have hpw : (d'.toList.map E).Pairwise (fun x y => ¬ cf y x < 0) := by
    rw [List.pairwise_map, List.pairwise_iff_getElem]
    intro i j hi hj hij
    have hi' : i < d'.size := by simpa using hi
    have hj' : j < d'.size := by simpa using hj
    have := hso i j (Nat.zero_le _) hij (by omega)
    rw [getElem!_pos d' i hi', getElem!_pos d' j hj'] at this
    have := of_decide_eq_false this
    simpa using this
  have hq := hQ _ hpe hpw
  have hdn : ∀ i, i < n → d'[i]! < n := fun i hi => by
    have hi' : i < d'.size := by omega
    rw [getElem!_pos d' i hi']
    exact List.mem_range.1 (hperm.mem_iff.1 (by simp))
  have hok : OK g0 (sortWorldK enc k w b off m d' os') id (.vec h0 k e (d'.toList.map E)) := by
    refine ⟨some ⟨b, off, none⟩, cap', by rw [hlen', hn]; exact hκ, by omega, hcm, fun x hx => hw x (hpe.mem_iff.1 hx), .inr ⟨b, off, putCells _root_.id off (flatK enc k d') cells, fun i j => vals (ix d'[i]!) j, rfl, by rw [sw_heap hblk hlt, if_pos rfl], ?_, ⟨?_, ?_⟩, ?_⟩⟩
    · simpa [putCells] using hsz2
    · intro h
      have := hhd h
      simpa [putCells] using this
    · intro v hv
      rw [Array.mem_toList_iff] at hv
      obtain ⟨t, ht, htv⟩ := Array.mem_iff_getElem.1 hv
      have ht' : t < cells.size := by simpa [putCells] using ht
      have h4 := putCells_get (off := off) (F := flatK enc k d') ht'
      rw [Array.getElem?_eq_getElem ht, htv] at h4
      split at h4
      · rename_i h5
        simp only [Option.some.injEq] at h4
        rw [size_flatK] at h5
        rw [h4, hflat _ _ (by omega)]
        obtain ⟨y, h7, h8, h9⟩ := hcl (d'[(t - off) / k]!) ((t - off) % k) (Nat.mod_lt _ hk0)
        exact hone _ (Array.mem_toList_iff.2 (Array.mem_of_getElem? h8))
      · exact hone _ (Array.mem_toList_iff.2 (Array.mem_of_getElem? h4.symm))
    · intro i j x y hx hy
      rw [List.getElem?_map] at hx
      have hin : i < n := by
        rcases Nat.lt_or_ge i n with h | h
        · exact h
        · rw [List.getElem?_eq_none (by simp; omega)] at hx; cases hx
      have hi' : i < d'.size := by omega
      have h4 : d'.toList[i]? = some d'[i]! := by rw [getElem!_pos d' i hi', Array.getElem?_toList, Array.getElem?_eq_getElem hi']
      rw [h4] at hx
      simp only [Option.map_some, Option.some.injEq] at hx
      subst hx
      have hjk : j < k := by
        have hwd := hw _ (hE d'[i]!)
        have := (List.getElem?_eq_some_iff.1 hy).1
        omega
      obtain ⟨z, h7, h8, h9⟩ := hcl d'[i]! j hjk
      rw [h7] at hy
      cases hy
      have hb1 : i * k + j < n * k := by
        have := Nat.mul_le_mul_right k (show i + 1 ≤ n from hin)
        rw [Nat.add_mul, Nat.one_mul] at this; omega
      have hb2 : n * k ≤ cap' * k := Nat.mul_le_mul_right k (by omega)
      have h10 : off + i * k + j < cells.size := by omega
      rw [putCells_get h10, if_pos ⟨by omega, by rw [size_flatK, hp1]; omega⟩, show off + i * k + j - off = i * k + j by omega, hflat _ _ (by rw [hp1]; exact hb1)]
      have e1 : (i * k + j) / k = i := by rw [Nat.add_comm, Nat.add_mul_div_right _ _ hk0, Nat.div_eq_of_lt hjk, Nat.zero_add]
      have e2 : (i * k + j) % k = j := by rw [Nat.add_comm, Nat.add_mul_mod_self_right, Nat.mod_eq_of_lt hjk]
      rw [e1, e2]
      exact ⟨rfl, h9.mono (hkeep m d' os') fun b hb => hb⟩
  obtain ⟨hr1, hr2⟩ := ho.replace hi (.vec h0 k e (d'.toList.map E)) [] (.refl g0) (fun _ h => h) (fun _ _ => rfl) (fun _ _ => rfl) sw_size (fun b' hb' hne => by
    rw [sw_heap hblk hb', if_neg fun e => hne (by rw [e]; simp [G.blk, hκ])]) hok (fun b' hb' => .inl (by simpa [G.blk, hκ] using hb')) sw_env
  exact ⟨_, _, g0, _, nx, rfl, hq, hr1, hrt _ _, hr2⟩
end
end Dm
/-! A loop at whose head slices are only read, that a round makes anew. -/
namespace Dm
open Go
def fzB (o : Option Ob) (id n t : Nat) (s : St) (K : St → Prop) : Prop := match o with
  | some (.vec _ _ _ els) => n = els.length ∧ K ⟨upd t (.c (.sl els)) s.tm, rmv s.os [id], s.nx⟩
  | _ => False
def fzA (x : Option D) (t : Nat) (s : St) (K : St → Prop) : Prop := match x with
  | some (.vec id n) => fzB (lk id s.os) id n t s K
  | some _ => K s
  | none => False
def fzK : List Nat → St → (St → Prop) → Prop
  | [], s, K => K s
  | t :: l, s, K => fzA (lk t s.tm) t s (fun s => fzK l s K)
section
variable {δ : List Deferred} {P : Program} {g g' : G} {s s' : St} {a : Act} {w w' : World} {n N : Nat} {K : St → Prop}
@[congr] theorem fzA_congr {x x' : Option D} {t : Nat} (h : x = x') : fzA x t s K = fzA x' t s K := by rw [h]
@[congr] theorem fzB_congr {x x' : Option Ob} {id n t : Nat} (h : x = x') : fzB x id n t s K = fzB x' id n t s K := by rw [h]
@[congr] theorem fzK_congr {l : List Nat} (h : s = s') : fzK l s K = fzK l s' K := by rw [h]
@[go_sem] theorem fzK_nil : fzK [] s K = K s := rfl
@[go_sem] theorem fzK_cons {t : Nat} {l : List Nat} : fzK (t :: l) s K = fzA (lk t s.tm) t s (fun s => fzK l s K) := rfl
@[go_sem] theorem fzA_vec {id m t : Nat} : fzA (some (.vec id m)) t s K = fzB (lk id s.os) id m t s K := rfl
@[go_sem] theorem fzA_c {x : C} {t : Nat} : fzA (some (.c x)) t s K = K s := rfl
@[go_sem] theorem fzA_nil {t : Nat} : fzA (some .nil) t s K = K s := rfl
@[go_sem] theorem fzB_vec {id m t : Nat} {hd : Bool} {z : Nat} {e : TypeId} {els : List (List C)} : fzB (some (.vec hd z e els)) id m t s K = (m = els.length ∧ K ⟨upd t (.c (.sl els)) s.tm, rmv s.os [id], s.nx⟩) := rfl
theorem fzK_sound : ∀ (l : List Nat) {g : G} {s : St}, fzK l s K → Rel δ g s a w → ∃ g1 s1, K s1 ∧ Rel δ g1 s1 a w ∧ StepN N g s w g1 s1 w
  | [], g, s, h, hr => ⟨g, s, h, hr, (Step.refl g s w).toN⟩
  | t :: l, g, s, h, hr => by
    simp only [fzK] at h
    unfold fzA at h
    split at h
    · rename_i id m ht
      unfold fzB at h
      split at h
      · rename_i hd z e els ho
        obtain ⟨hm, hk⟩ := h
        obtain ⟨v, hv, hvr⟩ := hr.tm t _ ht
        have hf : Dm.frz s (.vec id m) = (.c (.sl els), ⟨s.tm, rmv s.os [id], s.nx⟩) := by simp [Dm.frz, ho, hm]
        obtain ⟨g1, hr1, hv1, hst, htm⟩ := frz_sound hr hvr hf
        have hr2 : Rel δ g1 (⟨upd t (.c (.sl els)) s.tm, rmv s.os [id], s.nx⟩ : St) a w := by
          refine ⟨fun u d hu => ?_, hr1.defers, hr1.o.tm⟩
          simp only [lk_upd] at hu
          split at hu
          · rename_i hc
            cases hu
            rw [hc.1]
            exact ⟨_, hv, hv1⟩
          · exact hr1.tm u d hu
        obtain ⟨g2, s2, h1, h2, h3⟩ := fzK_sound l hk hr2
        have hst' : StepN N g s w g1 ⟨upd t (.c (.sl els)) s.tm, rmv s.os [id], s.nx⟩ w := (hst.toN).tm (tm := s.tm)
        exact ⟨g2, s2, h1, h2, hst'.trans h3⟩
      · cases h
    · exact fzK_sound l h hr
    · cases h
/-- Behind one round, some slices frozen. -/
def lpF {ι : Type} (fz : List Nat) (N : Nat) (S : ι → St) (μ : ι → Nat) (m : Nat) (Q : Exit → St → Prop) : Exit → St → Prop
  | .normal, s => fzK fz s fun s => ∃ i, μ i < m ∧ Sub N s (S i)
  | e, s => Q e s
variable {Q : Exit → St → Prop}
@[congr] theorem lpF_congr {ι : Type} {fz : List Nat} {S : ι → St} {μ : ι → Nat} {m : Nat} {e : Exit} (h' : s = s') : lpF fz N S μ m Q e s = lpF fz N S μ m Q e s' := by rw [h']
@[go_sem] theorem lpF_n {ι : Type} {fz : List Nat} {S : ι → St} {μ : ι → Nat} {m : Nat} : lpF fz N S μ m Q .normal s = fzK fz s fun s => ∃ i, μ i < m ∧ Sub N s (S i) := rfl
@[go_sem] theorem lpF_r {ι : Type} {fz : List Nat} {S : ι → St} {μ : ι → Nat} {m : Nat} : lpF fz N S μ m Q .ret s = Q .ret s := rfl
@[go_sem] theorem lpF_e {ι : Type} {fz : List Nat} {S : ι → St} {μ : ι → Nat} {m i : Nat} : lpF fz N S μ m Q (.exit i) s = Q (.exit i) s := rfl
theorem SWp.loopF {ι : Type} {c : Code} (fz : List Nat) (S : ι → St) (μ : ι → Nat) (i0 : ι) (h0 : Sub N s (S i0)) (hround : ∀ i, SWp P n N c (lpF fz N S μ (μ i) Q) (S i)) : SWp P n N (.loop c) Q s := by
  refine SWp.loop S μ i0 h0 fun i δ g a w hr hn => wp_mono (hround i δ g a w hr hn) fun e a' w' ⟨g', s', h1, h2, h3, h4⟩ => ?_
  cases e with
  | normal =>
    obtain ⟨g1, s1, h5, h6, h7⟩ := fzK_sound (N := N) fz h1 h2
    exact ⟨g1, s1, h5, h6, h3, h4.trans h7⟩
  | _ => exact ⟨g', s', h1, h2, h3, h4⟩
end
end Dm
