import Derived.Test.YtceoichdaepegaaGreatP4

set_option linter.unusedSimpArgs false
set_option linter.unusedVariables false
set_option linter.unusedSectionVars false
namespace Dm
open Go Go.Proofs Go.IntWalk
theorem follows_mixed : Tryz.prog.follows .mixedOrders = true := by kernel_rfl
@[go_sem] def isnan_r (x : Nat) : D := .bool false
@[go_sem] abbrev n_isnan : FuncId := 214
@[go_sem] def isnan_T : Tab := []
theorem isnan_T_ok : TabOk Tryz.prog isnan_T := TabOk.nil
set_option maxRecDepth 8000 in
set_option maxHeartbeats 1000000 in
theorem isnan_ok (x : Nat)  : PureFn Tryz.prog 214 [.c (.int .u64 (x : Int))] (isnan_r x) := by
  refine .of (ac214 isnan_T_ok (Nat.le_of_ble_eq_true rfl) ?_)
  simp -implicitDefEqProofs only [cdA, go_sem, Go.Proofs.Tryz.f214, reduceIte, reduceCtorEq, Nat.reduceEqDiff, Nat.reduceAdd, Nat.reduceLeDiff, Nat.reduceSub, Nat.reduceMul, Nat.reduceLT, Nat.reduceShiftRight, Nat.reduceMod, Int.reduceLE, Int.reduceLT, Int.reduceToNat, cdB, List.cons.injEq, true_and, and_true]
def sp_isnan : List D → Option (Prop × D × Fr)
  | [.c (.int .u64 z1)] => some (z1 = (z1.toNat : Int), isnan_r z1.toNat, [])
  | _ => none
attribute [go_sem] sp_isnan
theorem sp_isnan_ok : ∀ rs p r fr, sp_isnan rs = some (p, r, fr) → p → FnOk Tryz.prog 214 rs r fr := by
  intro rs p r fr h hp
  unfold sp_isnan at h
  split at h <;> cases h
  have hc0 := hp
  rename_i z1
  obtain ⟨z1, rfl⟩ : ∃ m : Nat, z1 = m := ⟨_, hc0⟩
  simp only [Int.toNat_natCast]
  exact isnan_ok z1
@[go_sem] def cmp_r (x : Nat) (y : Nat) : D := .int .i64 (cmpS x y)
@[go_sem] abbrev n_cmp : FuncId := 129
@[go_sem] def cmp_T : Tab := [(214, sp_isnan)]
theorem cmp_T_ok : TabOk Tryz.prog cmp_T := (TabOk.cons sp_isnan_ok TabOk.nil)
set_option maxRecDepth 8000 in
set_option maxHeartbeats 1000000 in
theorem cmp_ok (x : Nat) (y : Nat)  : PureFn Tryz.prog 129 [.c (.int .u64 (x : Int)), .c (.int .u64 (y : Int))] (cmp_r x y) := by
  refine .of (ac129 cmp_T_ok (Nat.le_of_ble_eq_true rfl) ?_)
  simp -implicitDefEqProofs only [cdA, go_sem, Go.Proofs.Tryz.f129, reduceIte, reduceCtorEq, Nat.reduceEqDiff, Nat.reduceAdd, Nat.reduceLeDiff, Nat.reduceSub, Nat.reduceMul, Nat.reduceLT, Nat.reduceShiftRight, Nat.reduceMod, Int.reduceLE, Int.reduceLT, Int.reduceToNat, cdB, List.cons.injEq, true_and, and_true]
  refine ⟨fun h => ?_, fun h => ⟨fun h1 => ?_, fun h1 => ?_⟩⟩ <;> simp [cmpS] <;> omega
def sp_cmp : List D → Option (Prop × D × Fr)
  | [.c (.int .u64 z2), .c (.int .u64 z3)] => some (z2 = (z2.toNat : Int) ∧ z3 = (z3.toNat : Int), cmp_r z2.toNat z3.toNat, [])
  | _ => none
attribute [go_sem] sp_cmp
theorem sp_cmp_ok : ∀ rs p r fr, sp_cmp rs = some (p, r, fr) → p → FnOk Tryz.prog 129 rs r fr := by
  intro rs p r fr h hp
  unfold sp_cmp at h
  split at h <;> cases h
  obtain ⟨hc0, hc1⟩ := hp
  rename_i z2 z3
  obtain ⟨z2, rfl⟩ : ∃ m : Nat, z2 = m := ⟨_, hc0⟩
  obtain ⟨z3, rfl⟩ : ∃ m : Nat, z3 = m := ⟨_, hc1⟩
  simp only [Int.toNat_natCast]
  exact cmp_ok z2 z3
def orS (l : List Int) : Int := (l.find? fun x => decide (¬ x = 0)).getD 0
@[go_sem] def cmpor_r (l : List Int) : D := .int .i64 (orS l)
@[go_sem] abbrev n_cmpor : FuncId := 127
@[go_sem] def cmpor_T : Tab := []
theorem cmpor_T_ok : TabOk Tryz.prog cmpor_T := TabOk.nil
set_option maxRecDepth 8000 in
set_option maxHeartbeats 1000000 in
theorem cmpor_ok (l : List Int)  : PureFn Tryz.prog 127 [.sl (i64s l)] (cmpor_r l) := by
  refine .of (ac127 cmpor_T_ok (Nat.le_of_ble_eq_true rfl) ?_)
  simp -implicitDefEqProofs only [cdA, go_sem, Go.Proofs.Tryz.f127, reduceIte, reduceCtorEq, Nat.reduceEqDiff, Nat.reduceAdd, Nat.reduceLeDiff, Nat.reduceSub, Nat.reduceMul, Nat.reduceLT, Nat.reduceShiftRight, Nat.reduceMod, Int.reduceLE, Int.reduceLT, Int.reduceToNat, cdB, List.cons.injEq, true_and, and_true]
  refine fun hl => SWp.loop (ι := { i : Nat // i ≤ l.length ∧ ∀ j, j < i → l.getD j default = 0 }) (fun i => ⟨[(3, .int .i64 0), (6, .sl (i64s l)), (7, .int .i64 l.length), (8, .int .i64 i.1)], [], 0⟩) (fun i => l.length - i.1) ⟨0, by simp⟩ ?_ ?_
  · simp [go_sem]
  · rintro ⟨i, hi, hall⟩
    refine awp_sound cmpor_T_ok.toS lv127 _ _ _ rfl ?_
    simp -implicitDefEqProofs only [cdA, go_sem, reduceIte, reduceCtorEq, Nat.reduceEqDiff, Nat.reduceAdd, Nat.reduceLeDiff, Nat.reduceSub, Nat.reduceMul, Nat.reduceLT, Nat.reduceShiftRight, Nat.reduceMod, Int.reduceLE, Int.reduceLT, Int.reduceToNat, cdB, List.cons.injEq, true_and, and_true]
    refine ⟨fun h => ⟨by omega, fun h1 => ⟨⟨i + 1, by omega, fun j hj => ?_⟩, by dsimp only; omega, i64_in _ (by omega)⟩, fun h1 => ?_⟩, fun h => ?_⟩
    · by_cases hji : j = i
      · subst hji; exact h1
      · exact hall j (by omega)
    · have hi' : i < l.length := by omega
      have : l.find? (fun x => decide (¬ x = 0)) = some (l.getD i default) := by
        rw [List.find?_eq_some_iff_getElem]
        refine ⟨by simpa using h1, i, hi', (getD_lt hi').symm, fun j hj => ?_⟩
        have := hall j hj
        rw [getD_lt (by omega)] at this
        simpa using this
      rw [orS, this]; rfl
    · have : l.find? (fun x => decide (¬ x = 0)) = none := by
        rw [List.find?_eq_none]
        intro x hx
        obtain ⟨j, hj, rfl⟩ := mem_getD.1 hx
        simpa using hall j (by omega)
      rw [orS, this]; rfl
def sp_cmpor : List D → Option (Prop × D × Fr)
  | [.c (.sl z4)] => some (z4 = i64s (di64s z4), cmpor_r (di64s z4), [])
  | _ => none
attribute [go_sem] sp_cmpor
theorem sp_cmpor_ok : ∀ rs p r fr, sp_cmpor rs = some (p, r, fr) → p → FnOk Tryz.prog 127 rs r fr := by
  intro rs p r fr h hp
  unfold sp_cmpor at h
  split at h <;> cases h
  have hc0 := hp
  rename_i z4
  obtain ⟨z4, rfl⟩ : ∃ m, z4 = i64s m := ⟨_, hc0⟩
  simp only [di64s_i64s]
  exact cmpor_ok z4
def maxS (l : List Nat) : Nat := l.foldl max 0
theorem maxS_succ {l : List Nat} {i : Nat} (h : i < l.length) : maxS (l.take (i + 1)) = max (maxS (l.take i)) (l.getD i default) := by
  rw [take_succ h, maxS, List.foldl_append]; rfl
@[go_sem] def smax_r (l : List Nat) : D := .int .u64 (maxS l : Int)
@[go_sem] abbrev n_smax : FuncId := 130
@[go_sem] def smax_T : Tab := [(214, sp_isnan)]
theorem smax_T_ok : TabOk Tryz.prog smax_T := (TabOk.cons sp_isnan_ok TabOk.nil)
set_option maxRecDepth 8000 in
set_option maxHeartbeats 1000000 in
theorem smax_ok (l : List Nat) (h : 0 < l.length) : PureFn Tryz.prog 130 [.sl (u64s l)] (smax_r l) := by
  refine .of (ac130 smax_T_ok (Nat.le_of_ble_eq_true rfl) ?_)
  simp -implicitDefEqProofs only [cdA, go_sem, Go.Proofs.Tryz.f130, reduceIte, reduceCtorEq, Nat.reduceEqDiff, Nat.reduceAdd, Nat.reduceLeDiff, Nat.reduceSub, Nat.reduceMul, Nat.reduceLT, Nat.reduceShiftRight, Nat.reduceMod, Int.reduceLE, Int.reduceLT, Int.reduceToNat, cdB, List.cons.injEq, true_and, and_true]
  refine fun hl => ⟨fun h1 => by omega, fun h1 => ⟨by omega, ?_⟩⟩
  refine SWp.loop (ι := { i : Nat // 0 < i ∧ i ≤ l.length }) (fun i => ⟨[(0, .sl (u64s l)), (3, .int .u64 (maxS (l.take i.1) : Nat)), (4, .int .i64 i.1)], [], 0⟩) (fun i => l.length - i.1) ⟨1, by omega⟩ ?_ ?_
  · have : maxS (l.take 1) = l.getD 0 default := by rw [maxS_succ h]; simp [maxS]
    simp [go_sem, this]
  · rintro ⟨i, hi0, hi⟩
    refine awp_sound smax_T_ok.toS lv130 _ _ _ rfl ?_
    simp -implicitDefEqProofs only [cdA, go_sem, reduceIte, reduceCtorEq, Nat.reduceEqDiff, Nat.reduceAdd, Nat.reduceLeDiff, Nat.reduceSub, Nat.reduceMul, Nat.reduceLT, Nat.reduceShiftRight, Nat.reduceMod, Int.reduceLE, Int.reduceLT, Int.reduceToNat, cdB, List.cons.injEq, true_and, and_true]
    refine fun _ => ⟨fun h2 => ⟨by omega, ⟨i + 1, by omega, by omega⟩, by dsimp only; omega, ?_, i64_in _ (by omega)⟩, fun h2 => ?_⟩
    · rw [maxS_succ (by omega)]; omega
    · rw [List.take_of_length_le (by omega)]
@[go_sem] def smax_p (l : List Nat) : Prop := (0 < l.length)
def sp_smax : List D → Option (Prop × D × Fr)
  | [.c (.sl z5)] => some (z5 = u64s (du64s z5) ∧ smax_p (du64s z5), smax_r (du64s z5), [])
  | _ => none
attribute [go_sem] sp_smax
theorem sp_smax_ok : ∀ rs p r fr, sp_smax rs = some (p, r, fr) → p → FnOk Tryz.prog 130 rs r fr := by
  intro rs p r fr h hp
  unfold sp_smax at h
  split at h <;> cases h
  obtain ⟨hc0, hp⟩ := hp
  rename_i z5
  obtain ⟨z5, rfl⟩ : ∃ m, z5 = u64s m := ⟨_, hc0⟩
  simp only [du64s_u64s]
  simp only [du64s_u64s, smax_p] at hp
  exact smax_ok z5 hp
def monS (l : List Nat) : Int := if l.all (fun n => decide (n ≤ 4611686018427387904)) = true then 0 else 1
theorem max_all {l : List Nat} {m : Nat} : l.foldl max m ≤ 4611686018427387904 ↔ m ≤ 4611686018427387904 ∧ l.all (fun n => decide (n ≤ 4611686018427387904)) = true := by
  induction l generalizing m with
  | nil => simp
  | cons x l ih =>
    rw [List.foldl_cons, ih, List.all_cons]
    simp only [Bool.and_eq_true, decide_eq_true_eq, ← and_assoc]
    refine and_congr_left fun _ => ?_
    omega
@[go_sem] def moncheck_r (l : List Nat) : D := .int .i64 (monS l)
@[go_sem] abbrev n_moncheck : FuncId := 49
@[go_sem] def moncheck_T : Tab := [(130, sp_smax)]
theorem moncheck_T_ok : TabOk Tryz.prog moncheck_T := (TabOk.cons sp_smax_ok TabOk.nil)
set_option maxRecDepth 8000 in
set_option maxHeartbeats 1000000 in
theorem moncheck_ok (l : List Nat)  : PureFn Tryz.prog 49 [.sl (u64s l)] (moncheck_r l) := by
  refine .of (ac49 moncheck_T_ok (Nat.le_of_ble_eq_true rfl) ?_)
  simp -implicitDefEqProofs only [cdA, go_sem, Go.Proofs.Tryz.f49, reduceIte, reduceCtorEq, Nat.reduceEqDiff, Nat.reduceAdd, Nat.reduceLeDiff, Nat.reduceSub, Nat.reduceMul, Nat.reduceLT, Nat.reduceShiftRight, Nat.reduceMod, Int.reduceLE, Int.reduceLT, Int.reduceToNat, cdB, List.cons.injEq, true_and, and_true]
  have hm := max_all (l := l) (m := 0)
  refine fun h => ⟨fun h1 => ⟨by omega, fun h2 => ?_, fun h2 => ?_⟩, fun h1 => ?_⟩
  · rw [monS, if_neg]; intro h3; have := hm.2 ⟨by omega, h3⟩; unfold maxS at h2; omega
  · rw [monS, if_pos]; unfold maxS at h2; exact (hm.1 (by omega)).2
  · have : l = [] := List.eq_nil_of_length_eq_zero (by omega)
    subst this; rfl
def sp_moncheck : List D → Option (Prop × D × Fr)
  | [.c (.sl z6)] => some (z6 = u64s (du64s z6), moncheck_r (du64s z6), [])
  | _ => none
attribute [go_sem] sp_moncheck
theorem sp_moncheck_ok : ∀ rs p r fr, sp_moncheck rs = some (p, r, fr) → p → FnOk Tryz.prog 49 rs r fr := by
  intro rs p r fr h hp
  unfold sp_moncheck at h
  split at h <;> cases h
  have hc0 := hp
  rename_i z6
  obtain ⟨z6, rfl⟩ : ∃ m, z6 = u64s m := ⟨_, hc0⟩
  simp only [du64s_u64s]
  exact moncheck_ok z6
def addM (l : List Nat) : Nat × Int := if monS l = 0 then (if l.sum ≤ 4611686018427387904 then (l.sum, 0) else (0, 8)) else (0, 1)
theorem sum_take {l : List Nat} {i : Nat} (h : i < l.length) : (l.take (i + 1)).sum = (l.take i).sum + l.getD i default := by
  rw [take_succ h]; simp
theorem sum_le {l : List Nat} {i : Nat} : (l.take i).sum ≤ l.sum := by
  conv => rhs; rw [← List.take_append_drop i l]
  rw [List.sum_append]
  omega
theorem monS_get {l : List Nat} (h : monS l = 0) {i : Nat} (hi : i < l.length) : l.getD i default ≤ 4611686018427387904 := by
  unfold monS at h
  split at h
  · rename_i h1
    have := List.all_eq_true.1 h1 _ (mem_getD.2 ⟨i, hi, rfl⟩)
    simpa using this
  · cases h
theorem monS_1 {l : List Nat} (h : ¬ monS l = 0) : monS l = 1 := by
  unfold monS at *; split <;> simp_all
@[go_sem] def monadd_r (l : List Nat) : D := .tup [.int .u64 ((addM l).1 : Int), .int .i64 (addM l).2]
@[go_sem] abbrev n_monadd : FuncId := 145
@[go_sem] def monadd_T : Tab := [(49, sp_moncheck)]
theorem monadd_T_ok : TabOk Tryz.prog monadd_T := (TabOk.cons sp_moncheck_ok TabOk.nil)
set_option maxRecDepth 8000 in
set_option maxHeartbeats 1000000 in
theorem monadd_ok (l : List Nat)  : PureFn Tryz.prog 145 [.sl (u64s l)] (monadd_r l) := by
  refine .of (ac145 monadd_T_ok (Nat.le_of_ble_eq_true rfl) ?_)
  simp -implicitDefEqProofs only [cdA, go_sem, Go.Proofs.Tryz.f145, reduceIte, reduceCtorEq, Nat.reduceEqDiff, Nat.reduceAdd, Nat.reduceLeDiff, Nat.reduceSub, Nat.reduceMul, Nat.reduceLT, Nat.reduceShiftRight, Nat.reduceMod, Int.reduceLE, Int.reduceLT, Int.reduceToNat, cdB, List.cons.injEq, true_and, and_true]
  refine ⟨fun h hl => ?_, fun h => ?_⟩
  · refine SWp.loop (ι := { i : Nat // i ≤ l.length ∧ (l.take i).sum ≤ 4611686018427387904 }) (fun i => ⟨[(2, .int .u64 ((l.take i.1).sum : Nat)), (11, .sl (u64s l)), (12, .int .i64 l.length), (13, .int .i64 i.1)], [], 0⟩) (fun i => l.length - i.1) ⟨0, by simp⟩ ?_ ?_
    · simp [go_sem]
    · rintro ⟨i, hi, hs⟩
      refine awp_sound monadd_T_ok.toS lv145 _ _ _ rfl ?_
      simp -implicitDefEqProofs only [cdA, go_sem, reduceIte, reduceCtorEq, Nat.reduceEqDiff, Nat.reduceAdd, Nat.reduceLeDiff, Nat.reduceSub, Nat.reduceMul, Nat.reduceLT, Nat.reduceShiftRight, Nat.reduceMod, Int.reduceLE, Int.reduceLT, Int.reduceToNat, cdB, List.cons.injEq, true_and, and_true]
      refine ⟨fun h1 => ?_, fun h1 => ?_⟩
      · have hi' : i < l.length := by omega
        have hg := monS_get h hi'
        have hst := sum_take hi'
        have hle := sum_le (l := l) (i := i + 1)
        rw [u64_in _ (by omega)]
        refine ⟨by omega, fun h2 => ?_, fun h2 => ⟨⟨i + 1, by omega, by omega⟩, by dsimp only; omega, by dsimp only; omega, i64_in _ (by omega)⟩⟩
        rw [addM, if_pos h, if_neg (by omega)]; exact ⟨rfl, rfl⟩
      · rw [List.take_of_length_le (by omega)] at hs ⊢
        rw [addM, if_pos h, if_pos hs]; exact ⟨rfl, rfl⟩
  · rw [addM, if_neg h]
    exact ⟨rfl, monS_1 h⟩
def sp_monadd : List D → Option (Prop × D × Fr)
  | [.c (.sl z7)] => some (z7 = u64s (du64s z7), monadd_r (du64s z7), [])
  | _ => none
attribute [go_sem] sp_monadd
theorem sp_monadd_ok : ∀ rs p r fr, sp_monadd rs = some (p, r, fr) → p → FnOk Tryz.prog 145 rs r fr := by
  intro rs p r fr h hp
  unfold sp_monadd at h
  split at h <;> cases h
  have hc0 := hp
  rename_i z7
  obtain ⟨z7, rfl⟩ : ∃ m, z7 = u64s m := ⟨_, hc0⟩
  simp only [du64s_u64s]
  exact monadd_ok z7
theorem mon1 (n : Nat) : monS [n] = if n ≤ 4611686018427387904 then 0 else 1 := by simp [monS]
theorem mon1_0 {n : Nat} : monS [n] = 0 ↔ n ≤ 4611686018427387904 := by rw [mon1]; split <;> simp_all
theorem mon2 (a b : Nat) : monS [a, b] = if a ≤ 4611686018427387904 ∧ b ≤ 4611686018427387904 then 0 else 1 := by simp [monS]
theorem addM_0 {l : List Nat} : (addM l).2 = 0 ↔ (∀ x ∈ l, x ≤ 4611686018427387904) ∧ l.sum ≤ 4611686018427387904 := by
  unfold addM monS
  simp only [List.all_eq_true, decide_eq_true_eq]
  by_cases h : ∀ x ∈ l, x ≤ 4611686018427387904
  · rw [if_pos h]
    by_cases h2 : l.sum ≤ 4611686018427387904
    · simp [h2]; exact h
    · simp [h2]
  · rw [if_neg h]; simp [h]
theorem addM_1 {l : List Nat} (h : (addM l).2 = 0) : (addM l).1 = l.sum := by
  have h1 := addM_0.1 h
  unfold addM monS
  simp only [List.all_eq_true, decide_eq_true_eq]
  rw [if_pos h1.1, if_pos rfl, if_pos h1.2]
def subM (a b : Nat) : Nat × Int := if a ≤ 4611686018427387904 ∧ b ≤ 4611686018427387904 then (if b ≤ a then (a - b, 0) else (0, 9)) else (0, 1)
@[go_sem] def monsub_r (a : Nat) (b : Nat) : D := .tup [.int .u64 ((subM a b).1 : Int), .int .i64 (subM a b).2]
@[go_sem] abbrev n_monsub : FuncId := 207
@[go_sem] def monsub_T : Tab := [ovk 240, (49, sp_moncheck)]
theorem monsub_T_ok : TabOk Tryz.prog monsub_T := (TabOk.cons (ov_ok 240) (TabOk.cons sp_moncheck_ok TabOk.nil))
set_option maxRecDepth 8000 in
set_option maxHeartbeats 1000000 in
theorem monsub_ok (a : Nat) (b : Nat)  : PureFn Tryz.prog 207 [.c (.int .u64 (a : Int)), .c (.int .u64 (b : Int))] (monsub_r a b) := by
  refine .of (ac207 monsub_T_ok (Nat.le_of_ble_eq_true rfl) ?_)
  simp -implicitDefEqProofs only [cdA, go_sem, Go.Proofs.Tryz.f207, reduceIte, reduceCtorEq, Nat.reduceEqDiff, Nat.reduceAdd, Nat.reduceLeDiff, Nat.reduceSub, Nat.reduceMul, Nat.reduceLT, Nat.reduceShiftRight, Nat.reduceMod, Int.reduceLE, Int.reduceLT, Int.reduceToNat, cdB, List.cons.injEq, true_and, and_true]
  refine ⟨⟨_, rfl, rfl, rfl, rfl, by kernel_rfl⟩, ?_⟩
  rw [mon2, subM]
  by_cases h : a ≤ 4611686018427387904 ∧ b ≤ 4611686018427387904
  · simp only [if_pos h]
    refine ⟨fun _ => ⟨fun h1 => ?_, fun h1 => ?_⟩, fun h1 => absurd trivial h1⟩
    · have : ¬ b ≤ a := fun h2 => by rw [if_neg (by omega)] at h1; omega
      rw [if_neg this]; exact ⟨rfl, rfl⟩
    · have : b ≤ a := by
        refine Classical.byContradiction fun h2 => ?_
        rw [if_pos (by omega)] at h1; omega
      rw [if_pos this]; exact ⟨by dsimp only; omega, rfl⟩
  · simp only [if_neg h]
    refine ⟨fun h => ?_, fun _ => by simp⟩
    first | exact absurd h (by decide) | cases h
def sp_monsub : List D → Option (Prop × D × Fr)
  | [.c (.int .u64 z8), .c (.int .u64 z9)] => some (z8 = (z8.toNat : Int) ∧ z9 = (z9.toNat : Int), monsub_r z8.toNat z9.toNat, [])
  | _ => none
attribute [go_sem] sp_monsub
theorem sp_monsub_ok : ∀ rs p r fr, sp_monsub rs = some (p, r, fr) → p → FnOk Tryz.prog 207 rs r fr := by
  intro rs p r fr h hp
  unfold sp_monsub at h
  split at h <;> cases h
  obtain ⟨hc0, hc1⟩ := hp
  rename_i z8 z9
  obtain ⟨z8, rfl⟩ : ∃ m : Nat, z8 = m := ⟨_, hc0⟩
  obtain ⟨z9, rfl⟩ : ∃ m : Nat, z9 = m := ⟨_, hc1⟩
  simp only [Int.toNat_natCast]
  exact monsub_ok z8 z9
end Dm
namespace Dm
open Go Go.Proofs Go.IntWalk
structure Hd where
  id : Nat
  n : Nat
deriving DecidableEq, Inhabited
@[go_sem] def Hd.enc (e : Hd) : List C := [.int .u64 (e.id : Int), .int .u64 (e.n : Int)]
def Hd.dec : List C → Hd
  | [.int .u64 z11, .int .u64 z12] => (⟨z11.toNat, z12.toNat⟩ : Hd)
  | _ => default
def hds (l : List Hd) : List (List C) := l.map Hd.enc
def dhds (l : List (List C)) : List Hd := l.map Hd.dec
@[simp, go_sem] theorem hds_length (l : List Hd) : (hds l).length = l.length := by simp [hds]
@[go_sem] theorem hds_get (l : List Hd) (i : Nat) : (hds l).getD i [.int .u64 0, .int .u64 0] = (l.getD i default).enc := by
  simp only [hds, List.getD_eq_getElem?_getD, List.getElem?_map]
  cases l[i]? <;> rfl
@[go_sem] theorem hds_wide (l : List Hd) : Wide 2 (hds l) = True := by
  simp [Wide, hds, Hd.enc]
theorem Hd.dec_enc (e : Hd) : Hd.dec e.enc = e := by
  simp [Hd.enc, Hd.dec]
@[go_sem] theorem dhds_hds (l : List Hd) : dhds (hds l) = l := by
  simp only [dhds, hds, List.map_map]
  exact List.map_id'' (fun e => Hd.dec_enc e) l
@[go_sem] theorem hds_app (a b : List Hd) : hds a ++ hds b = hds (a ++ b) := by simp [hds]
@[go_sem] theorem hds_drop (l : List Hd) (k : Nat) : (hds l).drop k = hds (l.drop k) := by simp [hds]
@[go_sem] theorem hds_take (l : List Hd) (k : Nat) : (hds l).take k = hds (l.take k) := by simp [hds]
@[go_sem] theorem hds_one (z13 : Int) (z14 : Int) (hz13 : 0 ≤ z13) (hz14 : 0 ≤ z14) : [[C.int .u64 z13, C.int .u64 z14]] = hds [⟨z13.toNat, z14.toNat⟩] := by simp [hds, Hd.enc, Int.toNat_of_nonneg hz13, Int.toNat_of_nonneg hz14]
@[go_sem] theorem hds_set (l : List Hd) (i : Nat) (z13 : Int) (z14 : Int) (hz13 : 0 ≤ z13) (hz14 : 0 ≤ z14) : (hds l).set i [C.int .u64 z13, C.int .u64 z14] = hds (l.set i ⟨z13.toNat, z14.toNat⟩) := by simp [hds, List.map_set, Hd.enc, Int.toNat_of_nonneg hz13, Int.toNat_of_nonneg hz14]
@[go_sem] theorem hds_cons (l : List Hd) (z13 : Int) (z14 : Int) (hz13 : 0 ≤ z13) (hz14 : 0 ≤ z14) : [C.int .u64 z13, C.int .u64 z14] :: hds l = hds (⟨z13.toNat, z14.toNat⟩ :: l) := by simp [hds, Hd.enc, Int.toNat_of_nonneg hz13, Int.toNat_of_nonneg hz14]
@[go_sem] theorem hds_flat (l : List Hd) : flatE (hds l) = True := eq_true fun x hx c hc => by
  obtain ⟨e, _, rfl⟩ := List.mem_map.1 hx
  simp only [Hd.enc, List.mem_cons, List.not_mem_nil, or_false] at hc
  rcases hc with rfl | rfl <;> rfl
@[go_sem] theorem Hd.eta {e : Hd} : (⟨e.id, e.n⟩ : Hd) = e := rfl
structure Ch where
  id : Nat
  loc : Nat
  rem : Nat
  res : Nat
  most : Nat
  holds : List Hd
  op : Bool
deriving DecidableEq, Inhabited
@[go_sem] def Ch.enc (e : Ch) : List C := [.int .u64 (e.id : Int), .int .u64 (e.loc : Int), .int .u64 (e.rem : Int), .int .u64 (e.res : Int), .int .u64 (e.most : Int), .sl (hds e.holds), .bool e.op]
def Ch.dec : List C → Ch
  | [.int .u64 z16, .int .u64 z17, .int .u64 z18, .int .u64 z19, .int .u64 z20, .sl z21, .bool z22] => (⟨z16.toNat, z17.toNat, z18.toNat, z19.toNat, z20.toNat, (dhds z21), z22⟩ : Ch)
  | _ => default
def chs (l : List Ch) : List (List C) := l.map Ch.enc
def dchs (l : List (List C)) : List Ch := l.map Ch.dec
@[simp, go_sem] theorem chs_length (l : List Ch) : (chs l).length = l.length := by simp [chs]
@[go_sem] theorem chs_get (l : List Ch) (i : Nat) : (chs l).getD i [.int .u64 0, .int .u64 0, .int .u64 0, .int .u64 0, .int .u64 0, .sl [], .bool false] = (l.getD i default).enc := by
  simp only [chs, List.getD_eq_getElem?_getD, List.getElem?_map]
  cases l[i]? <;> rfl
@[go_sem] theorem chs_wide (l : List Ch) : Wide 7 (chs l) = True := by
  simp [Wide, chs, Ch.enc]
theorem Ch.dec_enc (e : Ch) : Ch.dec e.enc = e := by
  simp [Ch.enc, Ch.dec, dhds_hds]
@[go_sem] theorem dchs_chs (l : List Ch) : dchs (chs l) = l := by
  simp only [dchs, chs, List.map_map]
  exact List.map_id'' (fun e => Ch.dec_enc e) l
@[go_sem] theorem chs_app (a b : List Ch) : chs a ++ chs b = chs (a ++ b) := by simp [chs]
@[go_sem] theorem chs_drop (l : List Ch) (k : Nat) : (chs l).drop k = chs (l.drop k) := by simp [chs]
@[go_sem] theorem chs_take (l : List Ch) (k : Nat) : (chs l).take k = chs (l.take k) := by simp [chs]
@[go_sem] theorem chs_one (z23 : Int) (z24 : Int) (z25 : Int) (z26 : Int) (z27 : Int) (z28 : List Hd) (z29 : Bool) (hz23 : 0 ≤ z23) (hz24 : 0 ≤ z24) (hz25 : 0 ≤ z25) (hz26 : 0 ≤ z26) (hz27 : 0 ≤ z27) : [[C.int .u64 z23, C.int .u64 z24, C.int .u64 z25, C.int .u64 z26, C.int .u64 z27, C.sl (hds z28), C.bool z29]] = chs [⟨z23.toNat, z24.toNat, z25.toNat, z26.toNat, z27.toNat, z28, z29⟩] := by simp [chs, Ch.enc, Int.toNat_of_nonneg hz23, Int.toNat_of_nonneg hz24, Int.toNat_of_nonneg hz25, Int.toNat_of_nonneg hz26, Int.toNat_of_nonneg hz27]
@[go_sem] theorem chs_set (l : List Ch) (i : Nat) (z23 : Int) (z24 : Int) (z25 : Int) (z26 : Int) (z27 : Int) (z28 : List Hd) (z29 : Bool) (hz23 : 0 ≤ z23) (hz24 : 0 ≤ z24) (hz25 : 0 ≤ z25) (hz26 : 0 ≤ z26) (hz27 : 0 ≤ z27) : (chs l).set i [C.int .u64 z23, C.int .u64 z24, C.int .u64 z25, C.int .u64 z26, C.int .u64 z27, C.sl (hds z28), C.bool z29] = chs (l.set i ⟨z23.toNat, z24.toNat, z25.toNat, z26.toNat, z27.toNat, z28, z29⟩) := by simp [chs, List.map_set, Ch.enc, Int.toNat_of_nonneg hz23, Int.toNat_of_nonneg hz24, Int.toNat_of_nonneg hz25, Int.toNat_of_nonneg hz26, Int.toNat_of_nonneg hz27]
@[go_sem] theorem chs_cons (l : List Ch) (z23 : Int) (z24 : Int) (z25 : Int) (z26 : Int) (z27 : Int) (z28 : List Hd) (z29 : Bool) (hz23 : 0 ≤ z23) (hz24 : 0 ≤ z24) (hz25 : 0 ≤ z25) (hz26 : 0 ≤ z26) (hz27 : 0 ≤ z27) : [C.int .u64 z23, C.int .u64 z24, C.int .u64 z25, C.int .u64 z26, C.int .u64 z27, C.sl (hds z28), C.bool z29] :: chs l = chs (⟨z23.toNat, z24.toNat, z25.toNat, z26.toNat, z27.toNat, z28, z29⟩ :: l) := by simp [chs, Ch.enc, Int.toNat_of_nonneg hz23, Int.toNat_of_nonneg hz24, Int.toNat_of_nonneg hz25, Int.toNat_of_nonneg hz26, Int.toNat_of_nonneg hz27]
@[go_sem] theorem Ch.eta {e : Ch} : (⟨e.id, e.loc, e.rem, e.res, e.most, e.holds, e.op⟩ : Ch) = e := rfl
def Hd.key (h : Hd) : Nat := h.id
def held (l : List Hd) : Nat := (l.map Hd.n).sum
abbrev ltN (a b : Nat) : Prop := a < b
abbrev MM : Nat := 4611686018427387904
def okCh (c : Ch) : Prop := c.res ≤ MM ∧ c.most ≤ MM ∧ c.holds.length ≤ 64 ∧ (c.op = false → c.holds = []) ∧ (∀ h ∈ c.holds, h.n ≠ 0) ∧ Srt.Chn Hd.key ltN c.holds ∧ held c.holds ≤ c.most ∧ c.loc ≤ MM ∧ c.rem ≤ MM ∧ held c.holds + c.loc + c.rem ≤ MM
instance (l : List Hd) : Decidable (Srt.Chn Hd.key ltN l) := by unfold Srt.Chn; infer_instance
instance (c : Ch) : Decidable (okCh c) := by unfold okCh; infer_instance
def sumsC (c : Ch) : Nat × Nat × Int := if okCh c then (held c.holds, held c.holds + c.loc + c.rem, 0) else (0, 0, 1)
@[go_sem] def horder_r (h : Hd) (id : Nat) : D := .int .i64 (cmpS h.id id)
@[go_sem] abbrev n_horder : FuncId := 218
@[go_sem] def horder_T : Tab := [(129, sp_cmp)]
theorem horder_T_ok : TabOk Tryz.prog horder_T := (TabOk.cons sp_cmp_ok TabOk.nil)
set_option maxRecDepth 8000 in
set_option maxHeartbeats 1000000 in
theorem horder_ok (h : Hd) (id : Nat)  : PureFn Tryz.prog 218 [.agg [.c (.int .u64 (h.id : Int)), .c (.int .u64 (h.n : Int))], .c (.int .u64 (id : Int))] (horder_r h id) := by
  refine .of (ac218 horder_T_ok (Nat.le_of_ble_eq_true rfl) ?_)
  simp -implicitDefEqProofs only [cdA, go_sem, Go.Proofs.Tryz.f218, reduceIte, reduceCtorEq, Nat.reduceEqDiff, Nat.reduceAdd, Nat.reduceLeDiff, Nat.reduceSub, Nat.reduceMul, Nat.reduceLT, Nat.reduceShiftRight, Nat.reduceMod, Int.reduceLE, Int.reduceLT, Int.reduceToNat, cdB, List.cons.injEq, true_and, and_true]
def sp_horder : List D → Option (Prop × D × Fr)
  | [.agg [.c (.int .u64 z31), .c (.int .u64 z32)], .c (.int .u64 z33)] => some (z31 = (z31.toNat : Int) ∧ z32 = (z32.toNat : Int) ∧ z33 = (z33.toNat : Int), horder_r (⟨z31.toNat, z32.toNat⟩ : Hd) z33.toNat, [])
  | _ => none
attribute [go_sem] sp_horder
theorem sp_horder_ok : ∀ rs p r fr, sp_horder rs = some (p, r, fr) → p → FnOk Tryz.prog 218 rs r fr := by
  intro rs p r fr h hp
  unfold sp_horder at h
  split at h <;> cases h
  obtain ⟨hc0, hc1, hc2⟩ := hp
  rename_i z31 z32 z33
  obtain ⟨z31, rfl⟩ : ∃ m : Nat, z31 = m := ⟨_, hc0⟩
  obtain ⟨z32, rfl⟩ : ∃ m : Nat, z32 = m := ⟨_, hc1⟩
  obtain ⟨z33, rfl⟩ : ∃ m : Nat, z33 = m := ⟨_, hc2⟩
  simp only [Int.toNat_natCast]
  exact horder_ok ⟨z31, z32⟩ z33
@[go_sem] def csums_r (c : Ch) : D := .tup [.int .u64 ((sumsC c).1 : Int), .int .u64 ((sumsC c).2.1 : Int), .int .i64 (sumsC c).2.2]
@[go_sem] abbrev n_csums : FuncId := 203
@[go_sem] def csums_T : Tab := [(49, sp_moncheck), (145, sp_monadd), (218, sp_horder)]
theorem csums_T_ok : TabOk Tryz.prog csums_T := (TabOk.cons sp_moncheck_ok (TabOk.cons sp_monadd_ok (TabOk.cons sp_horder_ok TabOk.nil)))
set_option maxRecDepth 8000 in
set_option maxHeartbeats 1000000 in
theorem csums_ok (c : Ch)  : PureFn Tryz.prog 203 [.agg [.c (.int .u64 (c.id : Int)), .c (.int .u64 (c.loc : Int)), .c (.int .u64 (c.rem : Int)), .c (.int .u64 (c.res : Int)), .c (.int .u64 (c.most : Int)), .sl (hds c.holds), .c (.bool c.op)]] (csums_r c) := by
  refine .of (ac203 csums_T_ok (Nat.le_of_ble_eq_true rfl) ?_)
  simp -implicitDefEqProofs only [cdA, go_sem, Go.Proofs.Tryz.f203, reduceIte, reduceCtorEq, Nat.reduceEqDiff, Nat.reduceAdd, Nat.reduceLeDiff, Nat.reduceSub, Nat.reduceMul, Nat.reduceLT, Nat.reduceShiftRight, Nat.reduceMod, Int.reduceLE, Int.reduceLT, Int.reduceToNat, cdB, List.cons.injEq, true_and, and_true]
  have hbad : ¬ okCh c → 0 = ((sumsC c).1 : Int) ∧ 0 = ((sumsC c).2.1 : Int) ∧ 1 = (sumsC c).2.2 := fun h => by simp [sumsC, if_neg h]
  have hmon : monS [c.res, c.most] = 0 ↔ c.res ≤ MM ∧ c.most ≤ MM := by rw [mon2]; split <;> simp_all
  rw [hmon]
  refine ⟨fun h1 hl => ⟨fun h2 => ⟨fun h3 _ => ⟨fun h4 => hbad fun h => ?_, fun h4 _ => ?_⟩, fun h3 _ => ?_⟩, fun h2 => hbad fun h => ?_⟩, fun h1 => hbad fun h => h1 ⟨h.1, h.2.1⟩⟩
  · have := h.2.2.2.1 (by simpa using h3)
    rw [this] at h4; simp at h4
  rotate_left 2
  · have := h.2.2.1; omega
  all_goals
    have hop : c.op = false → c.holds = [] := fun h => by first | (rw [h] at h3; cases h3; done) | exact List.eq_nil_of_length_eq_zero (by omega)
    refine SWp.loop (ι := { i : Nat // i ≤ c.holds.length ∧ held (c.holds.take i) ≤ c.most ∧ (∀ j, j < i → (c.holds.getD j default).n ≠ 0 ∧ (0 < j → (c.holds.getD (j - 1) default).id < (c.holds.getD j default).id)) }) (fun i => ⟨[(1, .ref 0 0), (2, .int .u64 (held (c.holds.take i.1) : Nat)), (32, .sl (hds c.holds)), (33, .int .i64 c.holds.length), (34, .int .i64 i.1)],
      [(0, .box [.int .u64 c.id, .int .u64 c.loc, .int .u64 c.rem, .int .u64 c.res, .int .u64 c.most, .sl (hds c.holds), .bool c.op])], 2⟩) (fun i => c.holds.length - i.1) ⟨0, by simp [held]⟩ ?_ ?_
    · simp [go_sem, held]
    · rintro ⟨i, hi, hs, hall⟩
      refine awp_sound csums_T_ok.toS lv203 _ _ _ rfl ?_
      simp -implicitDefEqProofs only [cdA, go_sem, reduceIte, reduceCtorEq, Nat.reduceEqDiff, Nat.reduceAdd, Nat.reduceLeDiff, Nat.reduceSub, Nat.reduceMul, Nat.reduceLT, Nat.reduceShiftRight, Nat.reduceMod, Int.reduceLE, Int.reduceLT, Int.reduceToNat, cdB, List.cons.injEq, true_and, and_true]
      have hst : i < c.holds.length → held (c.holds.take (i + 1)) = held (c.holds.take i) + (c.holds.getD i default).n := fun h => by rw [take_succ h, held, List.map_append, List.sum_append]; simp [held]
      have hle : held (c.holds.take (i + 1)) ≤ held c.holds := by
        conv => rhs; rw [← List.take_append_drop (i + 1) c.holds, held, List.map_append, List.sum_append]
        exact Nat.le_add_right _ _
      refine ⟨fun h5 => ⟨by omega, ?_⟩, fun h5 => ?_⟩
      · refine ADraw.run us203_6 csums_T_ok follows_mixed (by kernel_rfl) (by kernel_rfl) ?_
        simp -implicitDefEqProofs only [cdA, go_sem, reduceIte, reduceCtorEq, Nat.reduceEqDiff, Nat.reduceAdd, Nat.reduceLeDiff, Nat.reduceSub, Nat.reduceMul, Nat.reduceLT, Nat.reduceShiftRight, Nat.reduceMod, Int.reduceLE, Int.reduceLT, Int.reduceToNat, cdB, List.cons.injEq, true_and, and_true]
        have hi' : i < c.holds.length := by omega
        have hst := hst hi'
        have hnext : (0 < i → (c.holds.getD (i - 1) default).id < (c.holds.getD i default).id) → (c.holds.getD i default).n ≠ 0 →
            ((addM [held (c.holds.take i), (c.holds.getD i default).n]).2 = 0 →
              ((c.most : Int) < ((addM [held (c.holds.take i), (c.holds.getD i default).n]).1 : Int) → 0 = ((sumsC c).1 : Int) ∧ 0 = ((sumsC c).2.1 : Int) ∧ 1 = (sumsC c).2.2) ∧
              (¬ (c.most : Int) < ((addM [held (c.holds.take i), (c.holds.getD i default).n]).1 : Int) → ∃ i_1 : { i : Nat // i ≤ c.holds.length ∧ held (c.holds.take i) ≤ c.most ∧ (∀ j, j < i → (c.holds.getD j default).n ≠ 0 ∧ (0 < j → (c.holds.getD (j - 1) default).id < (c.holds.getD j default).id)) },
                c.holds.length - i_1.val < c.holds.length - i ∧ ((addM [held (c.holds.take i), (c.holds.getD i default).n]).1 : Int) = (held (c.holds.take i_1.val) : Nat) ∧ IntKind.i64.wrap ((i : Int) + 1) = i_1.val)) ∧
            (¬ (addM [held (c.holds.take i), (c.holds.getD i default).n]).2 = 0 → 0 = ((sumsC c).1 : Int) ∧ 0 = ((sumsC c).2.1 : Int) ∧ 1 = (sumsC c).2.2) := fun ho hn => by
          refine ⟨fun h6 => ?_, fun h6 => hbad fun h => h6 (addM_0.2 ?_)⟩
          · have h7 := addM_1 h6
            simp only [List.sum_cons, List.sum_nil, Nat.add_zero] at h7
            rw [h7]
            refine ⟨fun h8 => hbad fun h => ?_, fun h8 => ⟨⟨i + 1, hi', by omega, fun j hj => ?_⟩, by dsimp only; omega, by dsimp only; omega, i64_in _ (by omega)⟩⟩
            · have := h.2.2.2.2.2.2.1; omega
            · by_cases hji : j = i
              · subst hji; exact ⟨hn, ho⟩
              · exact hall j (by omega)
          · have := h.2.2.2.2.2.2.1
            have := h.2.1
            simp only [List.mem_cons, List.not_mem_nil, or_false, forall_eq_or_imp, forall_eq, List.sum_cons, List.sum_nil]
            unfold MM at *
            omega
        refine ⟨fun h6 => ⟨fun h7 => ?_, fun h7 => hnext (fun h => absurd h (by omega)) (by omega)⟩, fun h6 => hbad fun h => h.2.2.2.2.1 _ (mem_getD.2 ⟨i, hi', rfl⟩) (by omega)⟩
        rw [i64_in _ (by omega), show ((i : Int) - 1).toNat = i - 1 by omega]
        have hc : ∀ a b : Nat, 0 ≤ cmpS a b ↔ ¬ a < b := fun a b => by
          have := cmpS_neg (x := a) (y := b); omega
        rw [hc]
        refine ⟨by omega, fun h8 => hbad fun h => h8 (h.2.2.2.2.2.1 i hi' (by omega)), fun h8 => hnext (fun _ => by omega) (by omega)⟩
      · have hi' : i = c.holds.length := by omega
        subst hi'
        rw [List.take_length] at hs ⊢
        refine ⟨fun h6 => ?_, fun h6 => hbad fun h => h6 (addM_0.2 ?_)⟩
        · have h7 := addM_1 h6
          have h8 := addM_0.1 h6
          simp only [List.mem_cons, List.not_mem_nil, or_false, forall_eq_or_imp, forall_eq, List.sum_cons, List.sum_nil] at h7 h8
          have hok : okCh c := ⟨h1.1, h1.2, by omega, hop, fun x hx => by obtain ⟨j, hj, rfl⟩ := mem_getD.1 hx; exact (hall j hj).1, fun j hj h0 => (hall j hj).2 h0, hs, h8.1.2.1, h8.1.2.2, by unfold MM; omega⟩
          rw [sumsC, if_pos hok, h7]
          exact ⟨rfl, by dsimp only; omega, rfl⟩
        · have := h.2.2.2.2.2.2
          have := h.2.1
          simp only [List.mem_cons, List.not_mem_nil, or_false, forall_eq_or_imp, forall_eq, List.sum_cons, List.sum_nil]
          unfold MM at *
          omega
def sp_csums : List D → Option (Prop × D × Fr)
  | [.agg [.c (.int .u64 z35), .c (.int .u64 z36), .c (.int .u64 z37), .c (.int .u64 z38), .c (.int .u64 z39), .c (.sl z40), .c (.bool z41)]] => some (z35 = (z35.toNat : Int) ∧ z36 = (z36.toNat : Int) ∧ z37 = (z37.toNat : Int) ∧ z38 = (z38.toNat : Int) ∧ z39 = (z39.toNat : Int) ∧ z40 = hds (dhds z40), csums_r (⟨z35.toNat, z36.toNat, z37.toNat, z38.toNat, z39.toNat, (dhds z40), z41⟩ : Ch), [])
  | _ => none
attribute [go_sem] sp_csums
theorem sp_csums_ok : ∀ rs p r fr, sp_csums rs = some (p, r, fr) → p → FnOk Tryz.prog 203 rs r fr := by
  intro rs p r fr h hp
  unfold sp_csums at h
  split at h <;> cases h
  obtain ⟨hc0, hc1, hc2, hc3, hc4, hc5⟩ := hp
  rename_i z35 z36 z37 z38 z39 z40 z41
  obtain ⟨z35, rfl⟩ : ∃ m : Nat, z35 = m := ⟨_, hc0⟩
  obtain ⟨z36, rfl⟩ : ∃ m : Nat, z36 = m := ⟨_, hc1⟩
  obtain ⟨z37, rfl⟩ : ∃ m : Nat, z37 = m := ⟨_, hc2⟩
  obtain ⟨z38, rfl⟩ : ∃ m : Nat, z38 = m := ⟨_, hc3⟩
  obtain ⟨z39, rfl⟩ : ∃ m : Nat, z39 = m := ⟨_, hc4⟩
  obtain ⟨z40, rfl⟩ : ∃ m, z40 = hds m := ⟨_, hc5⟩
  simp only [Int.toNat_natCast, dhds_hds]
  exact csums_ok ⟨z35, z36, z37, z38, z39, z40, z41⟩
theorem sumsC_0 {c : Ch} : (sumsC c).2.2 = 0 ↔ okCh c := by unfold sumsC; split <;> simp_all
@[go_sem] def call_r (c : Ch) : D := .tup [.int .u64 ((sumsC c).2.1 : Int), .int .i64 (sumsC c).2.2]
@[go_sem] abbrev n_call : FuncId := 143
@[go_sem] def call_T : Tab := [(203, sp_csums)]
theorem call_T_ok : TabOk Tryz.prog call_T := (TabOk.cons sp_csums_ok TabOk.nil)
set_option maxRecDepth 8000 in
set_option maxHeartbeats 1000000 in
theorem call_ok (c : Ch)  : PureFn Tryz.prog 143 [.agg [.c (.int .u64 (c.id : Int)), .c (.int .u64 (c.loc : Int)), .c (.int .u64 (c.rem : Int)), .c (.int .u64 (c.res : Int)), .c (.int .u64 (c.most : Int)), .sl (hds c.holds), .c (.bool c.op)]] (call_r c) := by
  refine .of (ac143 call_T_ok (Nat.le_of_ble_eq_true rfl) ?_)
  simp -implicitDefEqProofs only [cdA, go_sem, Go.Proofs.Tryz.f143, reduceIte, reduceCtorEq, Nat.reduceEqDiff, Nat.reduceAdd, Nat.reduceLeDiff, Nat.reduceSub, Nat.reduceMul, Nat.reduceLT, Nat.reduceShiftRight, Nat.reduceMod, Int.reduceLE, Int.reduceLT, Int.reduceToNat, cdB, List.cons.injEq, true_and, and_true]
def sp_call : List D → Option (Prop × D × Fr)
  | [.agg [.c (.int .u64 z43), .c (.int .u64 z44), .c (.int .u64 z45), .c (.int .u64 z46), .c (.int .u64 z47), .c (.sl z48), .c (.bool z49)]] => some (z43 = (z43.toNat : Int) ∧ z44 = (z44.toNat : Int) ∧ z45 = (z45.toNat : Int) ∧ z46 = (z46.toNat : Int) ∧ z47 = (z47.toNat : Int) ∧ z48 = hds (dhds z48), call_r (⟨z43.toNat, z44.toNat, z45.toNat, z46.toNat, z47.toNat, (dhds z48), z49⟩ : Ch), [])
  | _ => none
attribute [go_sem] sp_call
theorem sp_call_ok : ∀ rs p r fr, sp_call rs = some (p, r, fr) → p → FnOk Tryz.prog 143 rs r fr := by
  intro rs p r fr h hp
  unfold sp_call at h
  split at h <;> cases h
  obtain ⟨hc0, hc1, hc2, hc3, hc4, hc5⟩ := hp
  rename_i z43 z44 z45 z46 z47 z48 z49
  obtain ⟨z43, rfl⟩ : ∃ m : Nat, z43 = m := ⟨_, hc0⟩
  obtain ⟨z44, rfl⟩ : ∃ m : Nat, z44 = m := ⟨_, hc1⟩
  obtain ⟨z45, rfl⟩ : ∃ m : Nat, z45 = m := ⟨_, hc2⟩
  obtain ⟨z46, rfl⟩ : ∃ m : Nat, z46 = m := ⟨_, hc3⟩
  obtain ⟨z47, rfl⟩ : ∃ m : Nat, z47 = m := ⟨_, hc4⟩
  obtain ⟨z48, rfl⟩ : ∃ m, z48 = hds m := ⟨_, hc5⟩
  simp only [Int.toNat_natCast, dhds_hds]
  exact call_ok ⟨z43, z44, z45, z46, z47, z48, z49⟩
def roomC (c : Ch) : Nat × Int := if okCh c then (if c.op = true ∧ c.holds.length ≠ 64 ∧ c.res ≤ c.loc then (min (c.loc - c.res) (c.most - held c.holds), 0) else (0, 0)) else (0, 1)
@[go_sem] def croom_r (c : Ch) : D := .tup [.int .u64 ((roomC c).1 : Int), .int .i64 (roomC c).2]
@[go_sem] abbrev n_croom : FuncId := 120
@[go_sem] def croom_T : Tab := [(203, sp_csums), (207, sp_monsub)]
theorem croom_T_ok : TabOk Tryz.prog croom_T := (TabOk.cons sp_csums_ok (TabOk.cons sp_monsub_ok TabOk.nil))
set_option maxRecDepth 8000 in
set_option maxHeartbeats 1000000 in
theorem croom_ok (c : Ch)  : PureFn Tryz.prog 120 [.agg [.c (.int .u64 (c.id : Int)), .c (.int .u64 (c.loc : Int)), .c (.int .u64 (c.rem : Int)), .c (.int .u64 (c.res : Int)), .c (.int .u64 (c.most : Int)), .sl (hds c.holds), .c (.bool c.op)]] (croom_r c) := by
  refine .of (ac120 croom_T_ok (Nat.le_of_ble_eq_true rfl) ?_)
  simp -implicitDefEqProofs only [cdA, go_sem, Go.Proofs.Tryz.f120, reduceIte, reduceCtorEq, Nat.reduceEqDiff, Nat.reduceAdd, Nat.reduceLeDiff, Nat.reduceSub, Nat.reduceMul, Nat.reduceLT, Nat.reduceShiftRight, Nat.reduceMod, Int.reduceLE, Int.reduceLT, Int.reduceToNat, cdB, List.cons.injEq, true_and, and_true]
  rw [sumsC_0]
  by_cases h : okCh c
  · have h1 : c.loc ≤ MM := h.2.2.2.2.2.2.2.1
    have h2 := h.1
    have h3 := h.2.1
    have h4 := h.2.2.2.2.2.2.1
    have e : (sumsC c).2.2 = 0 := sumsC_0.2 h
    have e1 : (sumsC c).1 = held c.holds := by rw [sumsC, if_pos h]
    unfold MM at *
    rw [u64_in _ (by omega), e, e1, roomC, if_pos h]
    refine ⟨fun _ => ⟨fun h5 _ => ⟨fun h6 => ?_, fun h6 => ?_⟩, fun h5 => ?_⟩, fun h' => absurd h h'⟩
    · rw [if_neg (by omega)]; exact ⟨rfl, rfl⟩
    · have h5' : c.op = true := by simpa using h5
      rw [subM, if_pos ⟨h1, h2⟩]
      by_cases h7 : c.res ≤ c.loc
      · rw [if_pos h7, if_pos ⟨h5', by omega, h7⟩]
        refine ⟨fun h => absurd (show (0 : Int) = 9 from h) (by decide), fun _ => ⟨by dsimp only; omega, rfl⟩⟩
      · rw [if_neg h7, if_neg (fun h => h7 h.2.2)]
        exact ⟨fun _ => ⟨rfl, rfl⟩, fun h => absurd rfl h⟩
    · have h5' : c.op = false := by simpa using h5
      rw [if_neg (fun h => by rw [h5'] at h; exact absurd h.1 (by decide))]; exact ⟨rfl, rfl⟩
  · have e : sumsC c = (0, 0, 1) := by rw [sumsC, if_neg h]
    rw [e, roomC, if_neg h]
    exact ⟨fun h' => absurd h' h, fun _ => ⟨rfl, rfl⟩⟩
def sp_croom : List D → Option (Prop × D × Fr)
  | [.agg [.c (.int .u64 z51), .c (.int .u64 z52), .c (.int .u64 z53), .c (.int .u64 z54), .c (.int .u64 z55), .c (.sl z56), .c (.bool z57)]] => some (z51 = (z51.toNat : Int) ∧ z52 = (z52.toNat : Int) ∧ z53 = (z53.toNat : Int) ∧ z54 = (z54.toNat : Int) ∧ z55 = (z55.toNat : Int) ∧ z56 = hds (dhds z56), croom_r (⟨z51.toNat, z52.toNat, z53.toNat, z54.toNat, z55.toNat, (dhds z56), z57⟩ : Ch), [])
  | _ => none
attribute [go_sem] sp_croom
theorem sp_croom_ok : ∀ rs p r fr, sp_croom rs = some (p, r, fr) → p → FnOk Tryz.prog 120 rs r fr := by
  intro rs p r fr h hp
  unfold sp_croom at h
  split at h <;> cases h
  obtain ⟨hc0, hc1, hc2, hc3, hc4, hc5⟩ := hp
  rename_i z51 z52 z53 z54 z55 z56 z57
  obtain ⟨z51, rfl⟩ : ∃ m : Nat, z51 = m := ⟨_, hc0⟩
  obtain ⟨z52, rfl⟩ : ∃ m : Nat, z52 = m := ⟨_, hc1⟩
  obtain ⟨z53, rfl⟩ : ∃ m : Nat, z53 = m := ⟨_, hc2⟩
  obtain ⟨z54, rfl⟩ : ∃ m : Nat, z54 = m := ⟨_, hc3⟩
  obtain ⟨z55, rfl⟩ : ∃ m : Nat, z55 = m := ⟨_, hc4⟩
  obtain ⟨z56, rfl⟩ : ∃ m, z56 = hds m := ⟨_, hc5⟩
  simp only [Int.toNat_natCast, dhds_hds]
  exact croom_ok ⟨z51, z52, z53, z54, z55, z56, z57⟩
end Dm
namespace Dm
open Go Go.Proofs Go.IntWalk
abbrev allC (c : Ch) : Nat := (sumsC c).2.1
def totL (l : List Ch) : Nat := (l.map allC).sum
theorem allC_le (c : Ch) : allC c ≤ MM := by
  unfold allC sumsC
  split
  · rename_i h; exact h.2.2.2.2.2.2.2.2.2
  · exact Nat.zero_le _
theorem totL_succ {l : List Ch} {i : Nat} (h : i < l.length) : totL (l.take (i + 1)) = totL (l.take i) + allC (l.getD i default) := by
  rw [take_succ h, totL, List.map_append, List.sum_append]; simp [totL]
theorem totL_le {l : List Ch} {i : Nat} : totL (l.take i) ≤ totL l := by
  conv => rhs; rw [← List.take_append_drop i l, totL, List.map_append, List.sum_append]
  exact Nat.le_add_right _ _
def hidL (l : List Ch) : List Nat := l.flatMap fun c => c.holds.map Hd.id
def okLd (l : List Ch) : Prop := l.length ≤ 32 ∧ (∀ c ∈ l, okCh c) ∧ Srt.Chn Ch.id ltN l ∧ (hidL l).Nodup ∧ totL l ≤ MM
instance (l : List Ch) : Decidable (Srt.Chn Ch.id ltN l) := by unfold Srt.Chn; infer_instance
instance (l : List Ch) : Decidable (okLd l) := by unfold okLd; infer_instance
def chkL (l : List Ch) : Int := if okLd l then 0 else 1
def hm : Int → List Ch → List (Nat × Int)
  | _, [] => []
  | i, c :: l => c.holds.map (fun h => (h.id, i)) ++ hm (i + 1) l
def readL (l : List Ch) : List (Nat × Int) × Int := if okLd l then (hm 0 l, 0) else ([], 1)
@[go_sem] def lorder_r (c : Ch) (id : Nat) : D := .int .i64 (cmpS c.id id)
@[go_sem] abbrev n_lorder : FuncId := 144
@[go_sem] def lorder_T : Tab := [(129, sp_cmp)]
theorem lorder_T_ok : TabOk Tryz.prog lorder_T := (TabOk.cons sp_cmp_ok TabOk.nil)
set_option maxRecDepth 8000 in
set_option maxHeartbeats 1000000 in
theorem lorder_ok (c : Ch) (id : Nat)  : PureFn Tryz.prog 144 [.agg [.c (.int .u64 (c.id : Int)), .c (.int .u64 (c.loc : Int)), .c (.int .u64 (c.rem : Int)), .c (.int .u64 (c.res : Int)), .c (.int .u64 (c.most : Int)), .sl (hds c.holds), .c (.bool c.op)], .c (.int .u64 (id : Int))] (lorder_r c id) := by
  refine .of (ac144 lorder_T_ok (Nat.le_of_ble_eq_true rfl) ?_)
  simp -implicitDefEqProofs only [cdA, go_sem, Go.Proofs.Tryz.f144, reduceIte, reduceCtorEq, Nat.reduceEqDiff, Nat.reduceAdd, Nat.reduceLeDiff, Nat.reduceSub, Nat.reduceMul, Nat.reduceLT, Nat.reduceShiftRight, Nat.reduceMod, Int.reduceLE, Int.reduceLT, Int.reduceToNat, cdB, List.cons.injEq, true_and, and_true]
def sp_lorder : List D → Option (Prop × D × Fr)
  | [.agg [.c (.int .u64 z94), .c (.int .u64 z95), .c (.int .u64 z96), .c (.int .u64 z97), .c (.int .u64 z98), .c (.sl z99), .c (.bool z100)], .c (.int .u64 z101)] => some (z94 = (z94.toNat : Int) ∧ z95 = (z95.toNat : Int) ∧ z96 = (z96.toNat : Int) ∧ z97 = (z97.toNat : Int) ∧ z98 = (z98.toNat : Int) ∧ z99 = hds (dhds z99) ∧ z101 = (z101.toNat : Int), lorder_r (⟨z94.toNat, z95.toNat, z96.toNat, z97.toNat, z98.toNat, (dhds z99), z100⟩ : Ch) z101.toNat, [])
  | _ => none
attribute [go_sem] sp_lorder
theorem sp_lorder_ok : ∀ rs p r fr, sp_lorder rs = some (p, r, fr) → p → FnOk Tryz.prog 144 rs r fr := by
  intro rs p r fr h hp
  unfold sp_lorder at h
  split at h <;> cases h
  obtain ⟨hc0, hc1, hc2, hc3, hc4, hc5, hc6⟩ := hp
  rename_i z94 z95 z96 z97 z98 z99 z100 z101
  obtain ⟨z94, rfl⟩ : ∃ m : Nat, z94 = m := ⟨_, hc0⟩
  obtain ⟨z95, rfl⟩ : ∃ m : Nat, z95 = m := ⟨_, hc1⟩
  obtain ⟨z96, rfl⟩ : ∃ m : Nat, z96 = m := ⟨_, hc2⟩
  obtain ⟨z97, rfl⟩ : ∃ m : Nat, z97 = m := ⟨_, hc3⟩
  obtain ⟨z98, rfl⟩ : ∃ m : Nat, z98 = m := ⟨_, hc4⟩
  obtain ⟨z99, rfl⟩ : ∃ m, z99 = hds m := ⟨_, hc5⟩
  obtain ⟨z101, rfl⟩ : ∃ m : Nat, z101 = m := ⟨_, hc6⟩
  simp only [Int.toNat_natCast, dhds_hds]
  exact lorder_ok ⟨z94, z95, z96, z97, z98, z99, z100⟩ z101
@[go_sem] def few_r (l : List Ch) : D := .bool (decide ((∀ c ∈ l, c.holds.length ≤ 20) ∧ l.length ≤ 34))
@[go_sem] abbrev n_few : FuncId := 44
@[go_sem] def few_T : Tab := []
theorem few_T_ok : TabOk Tryz.prog few_T := TabOk.nil
set_option maxRecDepth 8000 in
set_option maxHeartbeats 1000000 in
theorem few_ok (l : List Ch)  : PureFn Tryz.prog 44 [.sl (chs l)] (few_r l) := by
  refine .of (ac44 few_T_ok (Nat.le_of_ble_eq_true rfl) ?_)
  simp -implicitDefEqProofs only [cdA, go_sem, Go.Proofs.Tryz.f44, reduceIte, reduceCtorEq, Nat.reduceEqDiff, Nat.reduceAdd, Nat.reduceLeDiff, Nat.reduceSub, Nat.reduceMul, Nat.reduceLT, Nat.reduceShiftRight, Nat.reduceMod, Int.reduceLE, Int.reduceLT, Int.reduceToNat, cdB, List.cons.injEq, true_and, and_true]
  refine fun hl => SWp.loop (ι := { i : Nat // i ≤ l.length ∧ ∀ j, j < i → (l.getD j default).holds.length ≤ 20 }) (fun i => ⟨[(0, .sl (chs l)), (5, .sl (chs l)), (6, .int .i64 l.length), (7, .int .i64 i.1)], [], 0⟩) (fun i => l.length - i.1) ⟨0, by simp⟩ ?_ ?_
  · simp [go_sem]
  · rintro ⟨i, hi, hall⟩
    refine awp_sound few_T_ok.toS lv44 _ _ _ rfl ?_
    simp -implicitDefEqProofs only [cdA, go_sem, reduceIte, reduceCtorEq, Nat.reduceEqDiff, Nat.reduceAdd, Nat.reduceLeDiff, Nat.reduceSub, Nat.reduceMul, Nat.reduceLT, Nat.reduceShiftRight, Nat.reduceMod, Int.reduceLE, Int.reduceLT, Int.reduceToNat, cdB, List.cons.injEq, true_and, and_true]
    refine ⟨fun h => ⟨by omega, fun _ => ⟨fun h1 => ?_, fun h1 => ⟨⟨i + 1, by omega, fun j hj => ?_⟩, by dsimp only; omega, i64_in _ (by omega)⟩⟩⟩, fun h => ?_⟩
    · rw [eq_comm, decide_eq_false_iff_not]
      intro h2
      have := h2.1 _ (mem_getD.2 ⟨i, by omega, rfl⟩)
      omega
    · by_cases hji : j = i
      · subst hji; omega
      · exact hall j (by omega)
    · intro _
      have : (∀ c ∈ l, c.holds.length ≤ 20) := fun c hc => by obtain ⟨j, hj, rfl⟩ := mem_getD.1 hc; exact hall j (by omega)
      rw [decide_eq_decide]
      exact ⟨fun h => ⟨this, by omega⟩, fun h => by omega⟩
def sp_few : List D → Option (Prop × D × Fr)
  | [.c (.sl z102)] => some (z102 = chs (dchs z102), few_r (dchs z102), [])
  | _ => none
attribute [go_sem] sp_few
theorem sp_few_ok : ∀ rs p r fr, sp_few rs = some (p, r, fr) → p → FnOk Tryz.prog 44 rs r fr := by
  intro rs p r fr h hp
  unfold sp_few at h
  split at h <;> cases h
  have hc0 := hp
  rename_i z102
  obtain ⟨z102, rfl⟩ : ∃ m, z102 = chs m := ⟨_, hc0⟩
  simp only [dchs_chs]
  exact few_ok z102
theorem hidL_succ {l : List Ch} {i : Nat} (h : i < l.length) : hidL (l.take (i + 1)) = hidL (l.take i) ++ (l.getD i default).holds.map Hd.id := by
  rw [take_succ h, hidL, List.flatMap_append]; simp [hidL]
theorem hidL_nd {l : List Ch} {i : Nat} (h : (hidL l).Nodup) : (hidL (l.take i)).Nodup := by
  rw [← List.take_append_drop i l, hidL, List.flatMap_append] at h
  exact (List.nodup_append.1 h).1
theorem okCh_nd {c : Ch} (h : okCh c) : (c.holds.map Hd.id).Nodup := by
  have h1 := (Srt.chn_up (lt := ltN) Srt.totNat).1 h.2.2.2.2.2.1
  unfold Srt.Up at h1
  rw [List.Nodup, List.pairwise_map]
  exact h1.imp fun hlt he => by
    simp only [Hd.key, ltN] at hlt
    omega
theorem hm_keys : ∀ {l : List Ch} {s : Int}, (hm s l).map (·.1) = hidL l
  | [], _ => rfl
  | c :: l, s => by
    have e : hidL (c :: l) = c.holds.map Hd.id ++ hidL l := by simp [hidL]
    rw [hm, List.map_append, hm_keys, List.map_map, e]; rfl
theorem hm_succ {l : List Ch} {i : Nat} (h : i < l.length) : hm 0 (l.take (i + 1)) = hm 0 (l.take i) ++ (l.getD i default).holds.map fun x => (x.id, (i : Int)) := by
  have key : ∀ (l : List Ch) (s : Int) (c : Ch), hm s (l ++ [c]) = hm s l ++ c.holds.map fun x => (x.id, s + l.length) := by
    intro l
    induction l with
    | nil => intro s c; simp [hm]
    | cons d l ih =>
      intro s c
      rw [List.cons_append, hm, ih, hm, List.append_assoc]
      simp only [List.length_cons]
      rw [show s + ((l.length + 1 : Nat) : Int) = s + 1 + l.length by omega]
  rw [take_succ h, key]
  simp only [Int.zero_add, List.length_take]
  rw [show min i l.length = i by omega]
@[go_sem] def lread_r (l : List Ch) : D := .tup [.c (.map [.int .u64] (kvF .u64 .i64 (readL l).1)), .int .i64 (readL l).2]
@[go_sem] abbrev n_lread : FuncId := 57
@[go_sem] def lread_T : Tab := [(143, sp_call), (145, sp_monadd), (144, sp_lorder)]
theorem lread_T_ok : TabOk Tryz.prog lread_T := (TabOk.cons sp_call_ok (TabOk.cons sp_monadd_ok (TabOk.cons sp_lorder_ok TabOk.nil)))
set_option maxRecDepth 8000 in
set_option maxHeartbeats 1000000 in
theorem lread_ok (l : List Ch)  : PureFn Tryz.prog 57 [.sl (chs l)] (lread_r l) := by
  refine .of (ac57 lread_T_ok (Nat.le_of_ble_eq_true rfl) ?_)
  simp -implicitDefEqProofs only [cdA, go_sem, Go.Proofs.Tryz.f57, reduceIte, reduceCtorEq, Nat.reduceEqDiff, Nat.reduceAdd, Nat.reduceLeDiff, Nat.reduceSub, Nat.reduceMul, Nat.reduceLT, Nat.reduceShiftRight, Nat.reduceMod, Int.reduceLE, Int.reduceLT, Int.reduceToNat, cdB, List.cons.injEq, true_and, and_true]
  have hbad : ¬ okLd l → kvF .u64 .i64 (readL l).1 = [] ∧ 1 = (readL l).2 := fun h => by rw [readL, if_neg h]; exact ⟨rfl, rfl⟩
  refine fun hl => ⟨fun h1 => hbad fun h => ?_, fun h1 _ => ?_⟩
  · have := h.1; omega
  refine SWp.loop (ι := { i : Nat // i ≤ l.length ∧ (∀ c ∈ l.take i, okCh c) ∧ (∀ j, j < i → 0 < j → (l.getD (j - 1) default).id < (l.getD j default).id) ∧ (hidL (l.take i)).Nodup ∧ totL (l.take i) ≤ MM }) (fun i => ⟨[(0, .sl (chs l)), (4, .mp 0), (5, .int .u64 (totL (l.take i.1) : Nat)), (18, .sl (chs l)), (19, .int .i64 l.length), (20, .int .i64 i.1)], [(0, .map [.int .u64] (kvN .u64 .i64 (hm 0 (l.take i.1))))], 1⟩) (fun i => l.length - i.1) ⟨0, by simp [hidL, totL]⟩ ?_ ?_
  · simp [go_sem, totL]; rfl
  · rintro ⟨i, hi, hall, ho, hn, hs⟩
    refine awp_sound lread_T_ok.toS lv57 _ _ _ rfl ?_
    simp -implicitDefEqProofs only [cdA, go_sem, reduceIte, reduceCtorEq, Nat.reduceEqDiff, Nat.reduceAdd, Nat.reduceLeDiff, Nat.reduceSub, Nat.reduceMul, Nat.reduceLT, Nat.reduceShiftRight, Nat.reduceMod, Int.reduceLE, Int.reduceLT, Int.reduceToNat, cdB, List.cons.injEq, true_and, and_true]
    refine ⟨fun h => ⟨by omega, ?_⟩, fun h => ?_⟩
    · refine ADraw.run us57_8 lread_T_ok follows_mixed (by kernel_rfl) (by kernel_rfl) ?_
      simp -implicitDefEqProofs only [cdA, go_sem, reduceIte, reduceCtorEq, Nat.reduceEqDiff, Nat.reduceAdd, Nat.reduceLeDiff, Nat.reduceSub, Nat.reduceMul, Nat.reduceLT, Nat.reduceShiftRight, Nat.reduceMod, Int.reduceLE, Int.reduceLT, Int.reduceToNat, cdB, List.cons.injEq, true_and, and_true]
      have hi' : i < l.length := by omega
      have hmem : l.getD i default ∈ l := mem_getD.2 ⟨i, hi', rfl⟩
      have hsub : ∀ {a b : List Nat}, (a ++ b).Nodup ↔ a.Nodup ∧ b.Nodup ∧ ∀ x ∈ b, x ∉ a := fun {a b} => by
        rw [List.nodup_append]
        exact and_congr_right fun _ => and_congr_right fun _ => ⟨fun h x hb ha => h x ha x hb rfl, fun h x ha y hb e => h y hb (e ▸ ha)⟩
      have hks := hidL_succ hi'
      have hts := totL_succ hi'
      have hmsu := hm_succ hi'
      have htle := totL_le (l := l) (i := i + 1)
      have htk : ∀ c, c ∈ l.take (i + 1) ↔ c ∈ l.take i ∨ c = l.getD i default := fun c => by rw [take_succ hi']; simp
      refine ⟨fun h2 => ?_, fun h2 => hbad fun h => h2 (by rw [sumsC, if_pos (h.2.1 _ hmem)])⟩
      have hc0 : okCh (l.getD i default) := sumsC_0.1 h2
      have hcn := okCh_nd hc0
      have hA := allC_le (l.getD i default)
      change totL (l.take (i + 1)) = totL (l.take i) + (sumsC (l.getD i default)).2.1 at hts
      change (sumsC (l.getD i default)).2.1 ≤ MM at hA
      have hadd : ¬ (addM [totL (l.take i), (sumsC (l.getD i default)).2.1]).2 = 0 → ¬ okLd l := fun h3 h => h3 (addM_0.2 (by
        have := h.2.2.2.2
        simp only [List.mem_cons, List.not_mem_nil, or_false, forall_eq_or_imp, forall_eq, List.sum_cons, List.sum_nil]
        unfold MM at *
        omega))
      generalize hc : l.getD i default = c at *
      refine ⟨fun h3 => ⟨?_, fun h4 => hbad fun h => ?_, fun h4 => ⟨fun h5 _ => ?_, fun h5 => hbad (hadd h5)⟩⟩, fun h3 => ⟨fun h5 _ => ?_, fun h5 => hbad (hadd h5)⟩⟩
      · rw [i64_in _ (by omega)]; omega
      · rw [i64_in _ (by omega), show ((i : Int) - 1).toNat = i - 1 by omega] at h4
        have := h.2.2.1 i hi' (by omega)
        rw [hc] at this
        simp only [ltN] at this
        have := cmpS_neg (x := ((l.getD (i - 1) default).id : Int)) (y := c.id)
        omega
      all_goals
        have hord : 0 < i → (l.getD (i - 1) default).id < c.id := fun h0 => by
          first
          | (exfalso; omega)
          | (rw [i64_in _ (by omega), show ((i : Int) - 1).toNat = i - 1 by omega] at h4
             have := cmpS_neg (x := ((l.getD (i - 1) default).id : Int)) (y := c.id)
             omega)
        have hsum := addM_1 h5
        have hsum2 := (addM_0.1 h5).2
        simp only [List.sum_cons, List.sum_nil, Nat.add_zero] at hsum hsum2
        rw [hsum]
        refine SWp.loop (ι := { k : Nat // k ≤ c.holds.length ∧ ∀ j, j < k → (c.holds.getD j default).id ∉ hidL (l.take i) }) (fun k => ⟨[(0, .sl (chs l)), (4, .mp 0), (5, .int .u64 ((totL (l.take i) + (sumsC c).2.1 : Nat) : Int)), (6, .int .i64 i), (18, .sl (chs l)), (19, .int .i64 l.length), (20, .int .i64 i), (57, .sl (hds c.holds)), (58, .int .i64 c.holds.length), (59, .int .i64 k.1)], [(0, .map [.int .u64] (kvN .u64 .i64 (hm 0 (l.take i) ++ (c.holds.take k.1).map fun x => (x.id, (i : Int)))))], 3⟩) (fun k => c.holds.length - k.1) ⟨0, by simp⟩ ?_ ?_
        · simp [go_sem]
        · rintro ⟨k, hk, hin⟩
          refine awp_sound lread_T_ok.toS lv57 _ _ _ rfl ?_
          simp -implicitDefEqProofs only [cdA, go_sem, reduceIte, reduceCtorEq, Nat.reduceEqDiff, Nat.reduceAdd, Nat.reduceLeDiff, Nat.reduceSub, Nat.reduceMul, Nat.reduceLT, Nat.reduceShiftRight, Nat.reduceMod, Int.reduceLE, Int.reduceLT, Int.reduceToNat, cdB, List.cons.injEq, true_and, and_true]
          have hkeys : ∀ m, m ≤ c.holds.length → (hm 0 (l.take i) ++ (c.holds.take m).map fun x => (x.id, (i : Int))).map (·.1) = hidL (l.take i) ++ (c.holds.take m).map Hd.id := fun m hm => by
            rw [List.map_append, hm_keys, List.map_map]; rfl
          refine ⟨fun h6 => ⟨by omega, fun a ha => hbad fun h => ?_, fun ha => ?_⟩, fun h6 => ?_⟩
          · have hk' : k < c.holds.length := by omega
            have h7 : ¬ nlk (c.holds.getD k default).id (hm 0 (l.take i) ++ (c.holds.take k).map fun x => (x.id, (i : Int))) = none := by rw [ha]; simp
            rw [nlk_none, hkeys k hk, Classical.not_not, List.mem_append] at h7
            rcases h7 with h7 | h7
            · have := hidL_nd (i := i + 1) h.2.2.2.1
              rw [hks, hsub] at this
              exact this.2.2 _ (List.mem_map.2 ⟨_, mem_getD.2 ⟨k, hk', rfl⟩, rfl⟩) h7
            · have h8 : (c.holds.take (k + 1)).map Hd.id = (c.holds.take k).map Hd.id ++ [(c.holds.getD k default).id] := by rw [take_succ hk']; simp
              have h9 : ((c.holds.take (k + 1)).map Hd.id).Nodup := by
                rw [List.map_take]; exact hcn.sublist (List.take_sublist _ _)
              rw [h8, hsub] at h9
              exact h9.2.2 _ (by simp) h7
          · have hk' : k < c.holds.length := by omega
            have h7 := nlk_none.1 ha
            rw [nset_new h7]
            rw [hkeys k hk, List.mem_append, not_or] at h7
            refine ⟨⟨k + 1, hk', fun j hj => ?_⟩, by dsimp only; omega, i64_in _ (by omega), ?_⟩
            · by_cases hji : j = k
              · subst hji; exact h7.1
              · exact hin j (by omega)
            · dsimp only
              rw [take_succ hk', List.map_append, ← List.append_assoc]; rfl
          · have hk' : k = c.holds.length := by omega
            subst hk'
            refine ⟨⟨i + 1, hi', fun d hd => ((htk d).1 hd).elim (hall d) (fun e => e ▸ hc0), fun j hj h0 => ?_, ?_, by rw [hts]; exact hsum2⟩, by dsimp only; omega, ⟨by dsimp only; rw [hts]; omega, i64_in _ (by omega)⟩, ?_⟩
            · by_cases hji : j = i
              · subst hji; rw [hc]; exact hord h0
              · exact ho j (by omega) h0
            · rw [hks, hsub]
              refine ⟨hn, hcn, fun x hx => ?_⟩
              obtain ⟨y, hy, rfl⟩ := List.mem_map.1 hx
              obtain ⟨j, hj, rfl⟩ := mem_getD.1 hy
              exact hin j (by omega)
            · dsimp only
              rw [List.take_length, hmsu]
    · have hi' : i = l.length := by omega
      subst hi'
      rw [List.take_length] at hall hn hs ⊢
      rw [readL, if_pos ⟨by omega, hall, fun j hj h0 => ho j hj h0, hn, hs⟩]
      exact ⟨⟨_, _, rfl, kvC_kvN, .refl _⟩, rfl⟩
def sp_lread : List D → Option (Prop × D × Fr)
  | [.c (.sl z107)] => some (z107 = chs (dchs z107), lread_r (dchs z107), [])
  | _ => none
attribute [go_sem] sp_lread
theorem sp_lread_ok : ∀ rs p r fr, sp_lread rs = some (p, r, fr) → p → FnOk Tryz.prog 57 rs r fr := by
  intro rs p r fr h hp
  unfold sp_lread at h
  split at h <;> cases h
  have hc0 := hp
  rename_i z107
  obtain ⟨z107, rfl⟩ : ∃ m, z107 = chs m := ⟨_, hc0⟩
  simp only [dchs_chs]
  exact lread_ok z107
@[go_sem] def lcheck_r (l : List Ch) : D := .int .i64 (chkL l)
@[go_sem] abbrev n_lcheck : FuncId := 102
@[go_sem] def lcheck_T : Tab := [(57, sp_lread)]
theorem lcheck_T_ok : TabOk Tryz.prog lcheck_T := (TabOk.cons sp_lread_ok TabOk.nil)
set_option maxRecDepth 8000 in
set_option maxHeartbeats 1000000 in
theorem lcheck_ok (l : List Ch)  : PureFn Tryz.prog 102 [.sl (chs l)] (lcheck_r l) := by
  refine .of (ac102 lcheck_T_ok (Nat.le_of_ble_eq_true rfl) ?_)
  simp -implicitDefEqProofs only [cdA, go_sem, Go.Proofs.Tryz.f102, reduceIte, reduceCtorEq, Nat.reduceEqDiff, Nat.reduceAdd, Nat.reduceLeDiff, Nat.reduceSub, Nat.reduceMul, Nat.reduceLT, Nat.reduceShiftRight, Nat.reduceMod, Int.reduceLE, Int.reduceLT, Int.reduceToNat, cdB, List.cons.injEq, true_and, and_true]
  rw [readL, chkL]; split <;> rfl
def sp_lcheck : List D → Option (Prop × D × Fr)
  | [.c (.sl z108)] => some (z108 = chs (dchs z108), lcheck_r (dchs z108), [])
  | _ => none
attribute [go_sem] sp_lcheck
theorem sp_lcheck_ok : ∀ rs p r fr, sp_lcheck rs = some (p, r, fr) → p → FnOk Tryz.prog 102 rs r fr := by
  intro rs p r fr h hp
  unfold sp_lcheck at h
  split at h <;> cases h
  have hc0 := hp
  rename_i z108
  obtain ⟨z108, rfl⟩ : ∃ m, z108 = chs m := ⟨_, hc0⟩
  simp only [dchs_chs]
  exact lcheck_ok z108
end Dm
namespace Dm
open Go Go.Proofs Go.IntWalk
structure Py where
  id : Nat
  hash : Nat
  chan : Nat
  n : Nat
  state : Int
deriving DecidableEq, Inhabited
@[go_sem] def Py.enc (e : Py) : List C := [.int .u64 (e.id : Int), .int .u64 (e.hash : Int), .int .u64 (e.chan : Int), .int .u64 (e.n : Int), .int .i64 e.state]
def Py.dec : List C → Py
  | [.int .u64 z219, .int .u64 z220, .int .u64 z221, .int .u64 z222, .int .i64 z223] => (⟨z219.toNat, z220.toNat, z221.toNat, z222.toNat, z223⟩ : Py)
  | _ => default
def pys (l : List Py) : List (List C) := l.map Py.enc
def dpys (l : List (List C)) : List Py := l.map Py.dec
@[simp, go_sem] theorem pys_length (l : List Py) : (pys l).length = l.length := by simp [pys]
@[go_sem] theorem pys_get (l : List Py) (i : Nat) : (pys l).getD i [.int .u64 0, .int .u64 0, .int .u64 0, .int .u64 0, .int .i64 0] = (l.getD i default).enc := by
  simp only [pys, List.getD_eq_getElem?_getD, List.getElem?_map]
  cases l[i]? <;> rfl
@[go_sem] theorem pys_wide (l : List Py) : Wide 5 (pys l) = True := by
  simp [Wide, pys, Py.enc]
theorem Py.dec_enc (e : Py) : Py.dec e.enc = e := by
  simp [Py.enc, Py.dec]
@[go_sem] theorem dpys_pys (l : List Py) : dpys (pys l) = l := by
  simp only [dpys, pys, List.map_map]
  exact List.map_id'' (fun e => Py.dec_enc e) l
@[go_sem] theorem pys_app (a b : List Py) : pys a ++ pys b = pys (a ++ b) := by simp [pys]
@[go_sem] theorem pys_drop (l : List Py) (k : Nat) : (pys l).drop k = pys (l.drop k) := by simp [pys]
@[go_sem] theorem pys_take (l : List Py) (k : Nat) : (pys l).take k = pys (l.take k) := by simp [pys]
@[go_sem] theorem pys_one (z224 : Int) (z225 : Int) (z226 : Int) (z227 : Int) (z228 : Int) (hz224 : 0 ≤ z224) (hz225 : 0 ≤ z225) (hz226 : 0 ≤ z226) (hz227 : 0 ≤ z227) : [[C.int .u64 z224, C.int .u64 z225, C.int .u64 z226, C.int .u64 z227, C.int .i64 z228]] = pys [⟨z224.toNat, z225.toNat, z226.toNat, z227.toNat, z228⟩] := by simp [pys, Py.enc, Int.toNat_of_nonneg hz224, Int.toNat_of_nonneg hz225, Int.toNat_of_nonneg hz226, Int.toNat_of_nonneg hz227]
@[go_sem] theorem pys_set (l : List Py) (i : Nat) (z224 : Int) (z225 : Int) (z226 : Int) (z227 : Int) (z228 : Int) (hz224 : 0 ≤ z224) (hz225 : 0 ≤ z225) (hz226 : 0 ≤ z226) (hz227 : 0 ≤ z227) : (pys l).set i [C.int .u64 z224, C.int .u64 z225, C.int .u64 z226, C.int .u64 z227, C.int .i64 z228] = pys (l.set i ⟨z224.toNat, z225.toNat, z226.toNat, z227.toNat, z228⟩) := by simp [pys, List.map_set, Py.enc, Int.toNat_of_nonneg hz224, Int.toNat_of_nonneg hz225, Int.toNat_of_nonneg hz226, Int.toNat_of_nonneg hz227]
@[go_sem] theorem pys_cons (l : List Py) (z224 : Int) (z225 : Int) (z226 : Int) (z227 : Int) (z228 : Int) (hz224 : 0 ≤ z224) (hz225 : 0 ≤ z225) (hz226 : 0 ≤ z226) (hz227 : 0 ≤ z227) : [C.int .u64 z224, C.int .u64 z225, C.int .u64 z226, C.int .u64 z227, C.int .i64 z228] :: pys l = pys (⟨z224.toNat, z225.toNat, z226.toNat, z227.toNat, z228⟩ :: l) := by simp [pys, Py.enc, Int.toNat_of_nonneg hz224, Int.toNat_of_nonneg hz225, Int.toNat_of_nonneg hz226, Int.toNat_of_nonneg hz227]
@[go_sem] theorem pys_flat (l : List Py) : flatE (pys l) = True := eq_true fun x hx c hc => by
  obtain ⟨e, _, rfl⟩ := List.mem_map.1 hx
  simp only [Py.enc, List.mem_cons, List.not_mem_nil, or_false] at hc
  rcases hc with rfl | rfl | rfl | rfl | rfl <;> rfl
@[go_sem] theorem Py.eta {e : Py} : (⟨e.id, e.hash, e.chan, e.n, e.state⟩ : Py) = e := rfl
@[go_sem] theorem Py.eqD {a b : Py} : eqD Tryz.prog 45 [D.c (.int .u64 (a.id : Int)), D.c (.int .u64 (a.hash : Int)), D.c (.int .u64 (a.chan : Int)), D.c (.int .u64 (a.n : Int)), D.c (.int .i64 a.state)] [D.c (.int .u64 (b.id : Int)), D.c (.int .u64 (b.hash : Int)), D.c (.int .u64 (b.chan : Int)), D.c (.int .u64 (b.n : Int)), D.c (.int .i64 b.state)] = some (decide (a = b)) := by
  cases a; cases b
  simp only [Dm.eqD, eqOf_45, eqCells, eqC, List.getElem?_cons_zero, List.getElem?_cons_succ, if_true, Option.some.injEq, Py.mk.injEq]
  rw [Bool.eq_iff_iff]
  simp [Int.ofNat_inj]
def okPy1 (x : Py) : Prop := (x.n ≠ 0 ∧ x.n ≤ MM) ∧ 1 ≤ x.state ∧ x.state ≤ 3
instance (x : Py) : Decidable (okPy1 x) := by unfold okPy1; infer_instance
def okPy (l : List Py) : Prop := l.length ≤ 256 ∧ (∀ x ∈ l, okPy1 x) ∧ Srt.Chn Py.id ltN l
instance (l : List Py) : Decidable (Srt.Chn Py.id ltN l) := by unfold Srt.Chn; infer_instance
instance (l : List Py) : Decidable (okPy l) := by unfold okPy; infer_instance
def chkP (l : List Py) : Int := if okPy l then 0 else 1
@[go_sem] def porder_r (x : Py) (id : Nat) : D := .int .i64 (cmpS x.id id)
@[go_sem] abbrev n_porder : FuncId := 151
@[go_sem] def porder_T : Tab := [(129, sp_cmp)]
theorem porder_T_ok : TabOk Tryz.prog porder_T := (TabOk.cons sp_cmp_ok TabOk.nil)
set_option maxRecDepth 8000 in
set_option maxHeartbeats 1000000 in
theorem porder_ok (x : Py) (id : Nat)  : PureFn Tryz.prog 151 [.agg [.c (.int .u64 (x.id : Int)), .c (.int .u64 (x.hash : Int)), .c (.int .u64 (x.chan : Int)), .c (.int .u64 (x.n : Int)), .c (.int .i64 x.state)], .c (.int .u64 (id : Int))] (porder_r x id) := by
  refine .of (ac151 porder_T_ok (Nat.le_of_ble_eq_true rfl) ?_)
  simp -implicitDefEqProofs only [cdA, go_sem, Go.Proofs.Tryz.f151, reduceIte, reduceCtorEq, Nat.reduceEqDiff, Nat.reduceAdd, Nat.reduceLeDiff, Nat.reduceSub, Nat.reduceMul, Nat.reduceLT, Nat.reduceShiftRight, Nat.reduceMod, Int.reduceLE, Int.reduceLT, Int.reduceToNat, cdB, List.cons.injEq, true_and, and_true]
def sp_porder : List D → Option (Prop × D × Fr)
  | [.agg [.c (.int .u64 z230), .c (.int .u64 z231), .c (.int .u64 z232), .c (.int .u64 z233), .c (.int .i64 z234)], .c (.int .u64 z235)] => some (z230 = (z230.toNat : Int) ∧ z231 = (z231.toNat : Int) ∧ z232 = (z232.toNat : Int) ∧ z233 = (z233.toNat : Int) ∧ z235 = (z235.toNat : Int), porder_r (⟨z230.toNat, z231.toNat, z232.toNat, z233.toNat, z234⟩ : Py) z235.toNat, [])
  | _ => none
attribute [go_sem] sp_porder
theorem sp_porder_ok : ∀ rs p r fr, sp_porder rs = some (p, r, fr) → p → FnOk Tryz.prog 151 rs r fr := by
  intro rs p r fr h hp
  unfold sp_porder at h
  split at h <;> cases h
  obtain ⟨hc0, hc1, hc2, hc3, hc4⟩ := hp
  rename_i z230 z231 z232 z233 z234 z235
  obtain ⟨z230, rfl⟩ : ∃ m : Nat, z230 = m := ⟨_, hc0⟩
  obtain ⟨z231, rfl⟩ : ∃ m : Nat, z231 = m := ⟨_, hc1⟩
  obtain ⟨z232, rfl⟩ : ∃ m : Nat, z232 = m := ⟨_, hc2⟩
  obtain ⟨z233, rfl⟩ : ∃ m : Nat, z233 = m := ⟨_, hc3⟩
  obtain ⟨z235, rfl⟩ : ∃ m : Nat, z235 = m := ⟨_, hc4⟩
  simp only [Int.toNat_natCast]
  exact porder_ok ⟨z230, z231, z232, z233, z234⟩ z235
@[go_sem] def pmay_r (p : Py) : D := .bool (decide (okPy1 p))
@[go_sem] abbrev n_pmay : FuncId := 131
@[go_sem] def pmay_T : Tab := [(49, sp_moncheck)]
theorem pmay_T_ok : TabOk Tryz.prog pmay_T := (TabOk.cons sp_moncheck_ok TabOk.nil)
set_option maxRecDepth 8000 in
set_option maxHeartbeats 1000000 in
theorem pmay_ok (p : Py)  : PureFn Tryz.prog 131 [.agg [.c (.int .u64 (p.id : Int)), .c (.int .u64 (p.hash : Int)), .c (.int .u64 (p.chan : Int)), .c (.int .u64 (p.n : Int)), .c (.int .i64 p.state)]] (pmay_r p) := by
  refine .of (ac131 pmay_T_ok (Nat.le_of_ble_eq_true rfl) ?_)
  simp -implicitDefEqProofs only [cdA, go_sem, Go.Proofs.Tryz.f131, reduceIte, reduceCtorEq, Nat.reduceEqDiff, Nat.reduceAdd, Nat.reduceLeDiff, Nat.reduceSub, Nat.reduceMul, Nat.reduceLT, Nat.reduceShiftRight, Nat.reduceMod, Int.reduceLE, Int.reduceLT, Int.reduceToNat, cdB, List.cons.injEq, true_and, and_true]
  have hm : monS [p.n] = 0 ↔ p.n ≤ MM := mon1_0
  rw [hm]
  have ho : okPy1 p ↔ (p.n ≠ 0 ∧ p.n ≤ MM) ∧ 1 ≤ p.state ∧ p.state ≤ 3 := .rfl
  rw [show decide (okPy1 p) = decide ((p.n ≠ 0 ∧ p.n ≤ MM) ∧ 1 ≤ p.state ∧ p.state ≤ 3) from decide_eq_decide.2 ho]
  refine ⟨fun h => ⟨fun h2 => ⟨fun h3 => ?_, fun h3 => ?_⟩, fun h2 => ?_⟩, fun h => ?_⟩
  · rw [decide_eq_decide]; exact ⟨fun h4 => ⟨⟨by omega, h2⟩, h3, h4⟩, fun h4 => h4.2.2⟩
  · exact (decide_eq_false fun h4 => h3 h4.2.1).symm
  · exact (decide_eq_false fun h4 => h2 h4.1.2).symm
  · exact (decide_eq_false fun h4 => h4.1.1 (by omega)).symm
def sp_pmay : List D → Option (Prop × D × Fr)
  | [.agg [.c (.int .u64 z237), .c (.int .u64 z238), .c (.int .u64 z239), .c (.int .u64 z240), .c (.int .i64 z241)]] => some (z237 = (z237.toNat : Int) ∧ z238 = (z238.toNat : Int) ∧ z239 = (z239.toNat : Int) ∧ z240 = (z240.toNat : Int), pmay_r (⟨z237.toNat, z238.toNat, z239.toNat, z240.toNat, z241⟩ : Py), [])
  | _ => none
attribute [go_sem] sp_pmay
theorem sp_pmay_ok : ∀ rs p r fr, sp_pmay rs = some (p, r, fr) → p → FnOk Tryz.prog 131 rs r fr := by
  intro rs p r fr h hp
  unfold sp_pmay at h
  split at h <;> cases h
  obtain ⟨hc0, hc1, hc2, hc3⟩ := hp
  rename_i z237 z238 z239 z240 z241
  obtain ⟨z237, rfl⟩ : ∃ m : Nat, z237 = m := ⟨_, hc0⟩
  obtain ⟨z238, rfl⟩ : ∃ m : Nat, z238 = m := ⟨_, hc1⟩
  obtain ⟨z239, rfl⟩ : ∃ m : Nat, z239 = m := ⟨_, hc2⟩
  obtain ⟨z240, rfl⟩ : ∃ m : Nat, z240 = m := ⟨_, hc3⟩
  simp only [Int.toNat_natCast]
  exact pmay_ok ⟨z237, z238, z239, z240, z241⟩
@[go_sem] def pcheck_r (l : List Py) : D := .int .i64 (chkP l)
@[go_sem] abbrev n_pcheck : FuncId := 149
@[go_sem] def pcheck_T : Tab := [(131, sp_pmay), (151, sp_porder)]
theorem pcheck_T_ok : TabOk Tryz.prog pcheck_T := (TabOk.cons sp_pmay_ok (TabOk.cons sp_porder_ok TabOk.nil))
set_option maxRecDepth 8000 in
set_option maxHeartbeats 1000000 in
theorem pcheck_ok (l : List Py)  : PureFn Tryz.prog 149 [.sl (pys l)] (pcheck_r l) := by
  refine .of (ac149 pcheck_T_ok (Nat.le_of_ble_eq_true rfl) ?_)
  simp -implicitDefEqProofs only [cdA, go_sem, Go.Proofs.Tryz.f149, reduceIte, reduceCtorEq, Nat.reduceEqDiff, Nat.reduceAdd, Nat.reduceLeDiff, Nat.reduceSub, Nat.reduceMul, Nat.reduceLT, Nat.reduceShiftRight, Nat.reduceMod, Int.reduceLE, Int.reduceLT, Int.reduceToNat, cdB, List.cons.injEq, true_and, and_true]
  have hbad : ¬ okPy l → 1 = chkP l := fun h => by rw [chkP, if_neg h]
  refine fun _ => ⟨fun h => hbad fun ho => ?_, fun h _ => ?_⟩
  · have := ho.1; omega
  refine SWp.loop (ι := { i : Nat // i ≤ l.length ∧ (∀ j, j < i → okPy1 (l.getD j default) ∧ (0 < j → (l.getD (j - 1) default).id < (l.getD j default).id)) }) (fun i => ⟨[(0, .sl (pys l)), (8, .sl (pys l)), (9, .int .i64 l.length), (10, .int .i64 i.1)], [], 0⟩) (fun i => l.length - i.1) ⟨0, by simp⟩ ?_ ?_
  · simp [go_sem]
  · rintro ⟨i, hi, hall⟩
    refine awp_sound pcheck_T_ok.toS lv149 _ _ _ rfl ?_
    simp -implicitDefEqProofs only [cdA, go_sem, reduceIte, reduceCtorEq, Nat.reduceEqDiff, Nat.reduceAdd, Nat.reduceLeDiff, Nat.reduceSub, Nat.reduceMul, Nat.reduceLT, Nat.reduceShiftRight, Nat.reduceMod, Int.reduceLE, Int.reduceLT, Int.reduceToNat, cdB, List.cons.injEq, true_and, and_true]
    refine ⟨fun h1 => ⟨by omega, ?_⟩, fun h1 => ?_⟩
    · refine ADraw.run us149_6 pcheck_T_ok follows_mixed (by kernel_rfl) (by kernel_rfl) ?_
      simp -implicitDefEqProofs only [cdA, go_sem, reduceIte, reduceCtorEq, Nat.reduceEqDiff, Nat.reduceAdd, Nat.reduceLeDiff, Nat.reduceSub, Nat.reduceMul, Nat.reduceLT, Nat.reduceShiftRight, Nat.reduceMod, Int.reduceLE, Int.reduceLT, Int.reduceToNat, cdB, List.cons.injEq, true_and, and_true]
      have hi' : i < l.length := by omega
      have hm : okPy l → okPy1 (l.getD i default) := fun h => h.2.1 _ (mem_getD.2 ⟨i, hi', rfl⟩)
      refine ⟨fun h2 => ?_, fun h2 => hbad fun h => h2 (hm h)⟩
      have hnext : (0 < i → (l.getD (i - 1) default).id < (l.getD i default).id) → ∃ i_1 : { i : Nat // i ≤ l.length ∧ (∀ j, j < i → okPy1 (l.getD j default) ∧ (0 < j → (l.getD (j - 1) default).id < (l.getD j default).id)) }, l.length - i_1.val < l.length - i ∧ IntKind.i64.wrap ((i : Int) + 1) = i_1.val := fun ho => by
        refine ⟨⟨i + 1, hi', fun j hj => ?_⟩, by dsimp only; omega, i64_in _ (by omega)⟩
        by_cases hji : j = i
        · subst hji; exact ⟨h2, ho⟩
        · exact hall j (by omega)
      refine ⟨fun h3 => ?_, fun h3 => hnext fun h => absurd h (by omega)⟩
      rw [i64_in _ (by omega), show ((i : Int) - 1).toNat = i - 1 by omega]
      have hc : ∀ a b : Nat, 0 ≤ cmpS a b ↔ ¬ a < b := fun a b => by
        have := cmpS_neg (x := a) (y := b); omega
      rw [hc]
      exact ⟨by omega, fun h4 => hbad fun h => h4 (h.2.2 i hi' (by omega)), fun h4 => hnext fun _ => by omega⟩
    · have hi' : i = l.length := by omega
      subst hi'
      rw [chkP, if_pos]
      exact ⟨by omega, fun x hx => by obtain ⟨j, hj, rfl⟩ := mem_getD.1 hx; exact (hall j hj).1, fun j hj h0 => (hall j hj).2 h0⟩
def sp_pcheck : List D → Option (Prop × D × Fr)
  | [.c (.sl z242)] => some (z242 = pys (dpys z242), pcheck_r (dpys z242), [])
  | _ => none
attribute [go_sem] sp_pcheck
theorem sp_pcheck_ok : ∀ rs p r fr, sp_pcheck rs = some (p, r, fr) → p → FnOk Tryz.prog 149 rs r fr := by
  intro rs p r fr h hp
  unfold sp_pcheck at h
  split at h <;> cases h
  have hc0 := hp
  rename_i z242
  obtain ⟨z242, rfl⟩ : ∃ m, z242 = pys m := ⟨_, hc0⟩
  simp only [dpys_pys]
  exact pcheck_ok z242
def findP (l : List Py) (id : Nat) : Int × Int := if okPy l then ((Srt.pos Py.id ltN l id : Nat), if Srt.thr Py.id ltN l id = true then 0 else 5) else (0, 1)
@[go_sem] def pfind_r (l : List Py) (id : Nat) : D := .tup [.int .i64 (findP l id).1, .int .i64 (findP l id).2]
@[go_sem] abbrev n_pfind : FuncId := 62
@[go_sem] def pfind_T : Tab := [(149, sp_pcheck), (151, sp_porder)]
theorem pfind_T_ok : TabOk Tryz.prog pfind_T := (TabOk.cons sp_pcheck_ok (TabOk.cons sp_porder_ok TabOk.nil))
set_option maxRecDepth 8000 in
set_option maxHeartbeats 1000000 in
theorem pfind_ok (l : List Py) (id : Nat)  : PureFn Tryz.prog 62 [.sl (pys l), .c (.int .u64 (id : Int))] (pfind_r l id) := by
  refine .of (ac62 pfind_T_ok (Nat.le_of_ble_eq_true rfl) ?_)
  simp -implicitDefEqProofs only [cdA, go_sem, Go.Proofs.Tryz.f62, reduceIte, reduceCtorEq, Nat.reduceEqDiff, Nat.reduceAdd, Nat.reduceLeDiff, Nat.reduceSub, Nat.reduceMul, Nat.reduceLT, Nat.reduceShiftRight, Nat.reduceMod, Int.reduceLE, Int.reduceLT, Int.reduceToNat, cdB, List.cons.injEq, true_and, and_true]
  have hcz : chkP l = 0 ↔ okPy l := by unfold chkP; split <;> simp_all
  refine ⟨fun hok0 => ?_, fun hno0 => by
    have hno : ¬ okPy l := fun h => hno0 (hcz.2 h)
    rw [findP, chkP, if_neg hno, if_neg hno]; exact ⟨rfl, rfl⟩⟩
  have hok := hcz.1 hok0
  have hu : Srt.Up Py.id ltN l := (Srt.chn_up (lt := ltN) Srt.totNat).1 hok.2.2
  have hl32 := hok.1
  refine ac150 pfind_T_ok (Nat.le_of_ble_eq_true rfl) ?_
  simp -implicitDefEqProofs only [cdA, go_sem, Go.Proofs.Tryz.f150, reduceIte, reduceCtorEq, Nat.reduceEqDiff, Nat.reduceAdd, Nat.reduceLeDiff, Nat.reduceSub, Nat.reduceMul, Nat.reduceLT, Nat.reduceShiftRight, Nat.reduceMod, Int.reduceLE, Int.reduceLT, Int.reduceToNat, cdB, List.cons.injEq, true_and, and_true]
  refine fun _ => SWp.loop (ι := { x : Nat × Nat // x.1 ≤ x.2 ∧ x.2 ≤ l.length ∧ (∀ k, k < x.1 → (l.getD k default).id < id) ∧ ∀ k, x.2 ≤ k → k < l.length → ¬ (l.getD k default).id < id }) (fun x => ⟨[(0, .sl (pys l)), (1, .int .u64 id), (2, .fn (.func 151) [] []), (8, .int .i64 l.length), (9, .int .i64 x.1.1), (10, .int .i64 x.1.2)], [], 0⟩) (fun x => x.1.2 - x.1.1) ⟨(0, l.length), by simp, by simp, fun k hk => absurd hk (by simp), fun k h1 h2 => absurd h1 (by simpa using h2)⟩ ?_ ?_
  · simp [go_sem]
  · rintro ⟨⟨i, j⟩, hij, hj, hlo, hup⟩
    dsimp only at hij hj hlo hup
    refine awp_sound pfind_T_ok.toS lv150 _ _ _ rfl ?_
    simp -implicitDefEqProofs only [cdA, go_sem, reduceIte, reduceCtorEq, Nat.reduceEqDiff, Nat.reduceAdd, Nat.reduceLeDiff, Nat.reduceSub, Nat.reduceMul, Nat.reduceLT, Nat.reduceShiftRight, Nat.reduceMod, Int.reduceLE, Int.reduceLT, Int.reduceToNat, cdB, List.cons.injEq, true_and, and_true]
    rw [mid_eq hij hj ‹_›]
    refine ⟨fun h4 => ?_, fun h4 => ?_⟩
    · have hm : (i + j) / 2 < l.length := by omega
      rw [cmpS_neg, Int.toNat_natCast]
      refine ⟨by omega, fun h5 => ⟨⟨((i + j) / 2 + 1, j), by dsimp only; omega, hj, fun k hk => ?_, hup⟩, by dsimp only; omega, i64_in _ (by omega), rfl⟩, fun h5 => ⟨⟨(i, (i + j) / 2), by dsimp only; omega, by dsimp only; omega, hlo, fun k hk1 hk2 => ?_⟩, by dsimp only; omega, rfl, rfl⟩⟩
      · dsimp only at hk
        by_cases hkm : k = (i + j) / 2
        · rw [hkm]; omega
        · have := Srt.up_get.1 hu k _ (by omega) hm
          simp only [ltN] at this; omega
      · dsimp only at hk1
        by_cases hkm : k = (i + j) / 2
        · rw [hkm]; omega
        · have := Srt.up_get.1 hu ((i + j) / 2) k (by omega) hk2
          simp only [ltN] at this; omega
    · have hp : Srt.pos Py.id ltN l id = i := Srt.pos_eq (by omega) hlo (fun h => hup i (by omega) h)
      rw [findP, if_pos hok, Srt.thr, hp, cmpS_0]
      refine ⟨fun h5 => ⟨by omega, fun h6 => ?_, fun h6 => ?_⟩, fun h5 => ?_⟩
      · rw [if_pos (decide_eq_true ⟨by omega, by omega⟩)]; exact ⟨rfl, rfl⟩
      · rw [if_neg (by rw [decide_eq_true_iff]; omega)]; exact ⟨rfl, rfl⟩
      · rw [if_neg (by rw [decide_eq_true_iff]; omega)]; exact ⟨rfl, rfl⟩
def sp_pfind : List D → Option (Prop × D × Fr)
  | [.c (.sl z243), .c (.int .u64 z244)] => some (z243 = pys (dpys z243) ∧ z244 = (z244.toNat : Int), pfind_r (dpys z243) z244.toNat, [])
  | _ => none
attribute [go_sem] sp_pfind
theorem sp_pfind_ok : ∀ rs p r fr, sp_pfind rs = some (p, r, fr) → p → FnOk Tryz.prog 62 rs r fr := by
  intro rs p r fr h hp
  unfold sp_pfind at h
  split at h <;> cases h
  obtain ⟨hc0, hc1⟩ := hp
  rename_i z243 z244
  obtain ⟨z243, rfl⟩ : ∃ m, z243 = pys m := ⟨_, hc0⟩
  obtain ⟨z244, rfl⟩ : ∃ m : Nat, z244 = m := ⟨_, hc1⟩
  simp only [Int.toNat_natCast, dpys_pys]
  exact pfind_ok z243 z244
end Dm
namespace Dm
open Go
section
variable {P : Program} {g g' : G} {w w' : World}
def Grown (z : Nat) (e : TypeId) (els : List (List C)) (d : D) (os : List (Nat × Ob)) : Prop := ∃ k, d = .vec k els.length ∧ lk k os = some (.vec true z e els)
theorem ACall.grow {f : FuncId} {i j nx m n : Nat} {os : List (Nat × Ob)} {z e : Nat} {h1 h2 : Bool} {A B E : List (List C)} {mid : List D} {Q : D → List (Nat × Ob) → Nat → Prop}
    (h : ACall P f (.vec 0 n :: mid ++ [.vec 1 m]) [(1, .vec h2 z e B), (0, .vec h1 z e A)] 2 fun d os' _ => Grown z e E d os')
    (hi : lk i os = some (.vec h1 z e A)) (hj : lk j os = some (.vec h2 z e B)) (hne : i ≠ j) (hn : A.length < E.length) (hmid : ∀ d ∈ mid, ∀ g g' w v, VRel g w v d → VRel g' w v d)
    (hQ : Q (.vec i E.length) ((i, .vec true z e E) :: rmv os [i, j]) nx) : ACall P f (.vec i n :: mid ++ [.vec j m]) os nx Q := by
  refine ⟨h.1, fun g w vs ho hsz hv => ?_⟩
  have hib := ho.lt hi
  have hjb := ho.lt hj
  let g0 : G := ⟨fun _ => none, fun k => if k = 0 then g.κ i else if k = 1 then g.κ j else none, g.I⟩
  have hoi := ho.ok i _ hi
  have hoj := ho.ok j _ hj
  have hk0 : g0.κ 0 = g.κ i := rfl
  have hk1 : g0.κ 1 = g.κ j := rfl
  have hlk0 : ∀ id o, lk id [(1, Ob.vec h2 z e B), (0, Ob.vec h1 z e A)] = some o → (id = 0 ∧ o = .vec h1 z e A) ∨ (id = 1 ∧ o = .vec h2 z e B) := fun id o h => by
    simp only [lk_cons] at h
    split at h
    · rename_i hid; cases h; exact .inr ⟨hid, rfl⟩
    · split at h
      · rename_i hid; cases h; exact .inl ⟨hid, rfl⟩
      · cases h
  have hb0 : ∀ o : Ob, (∃ hd z e els, o = .vec hd z e els) → g0.blk 0 o = g.blk i o := fun o ⟨hd, z, e, els, ho⟩ => by subst ho; rfl
  have hb1 : ∀ o : Ob, (∃ hd z e els, o = .vec hd z e els) → g0.blk 1 o = g.blk j o := fun o ⟨hd, z, e, els, ho⟩ => by subst ho; rfl
  have hown0 : ∀ b, Own g0 ⟨[], [(1, .vec h2 z e B), (0, .vec h1 z e A)], 2⟩ b → g.blk i (.vec h1 z e A) = some b ∨ g.blk j (.vec h2 z e B) = some b := fun b ⟨id, o, h3, h4⟩ => by
    rcases hlk0 id o h3 with ⟨rfl, rfl⟩ | ⟨rfl, rfl⟩
    · exact .inl h4
    · exact .inr h4
  have hownG : ∀ b, Own g0 ⟨[], [(1, .vec h2 z e B), (0, .vec h1 z e A)], 2⟩ b → Own g ⟨[], os, nx⟩ b := fun b h => (hown0 b h).elim (fun h => ⟨i, _, hi, h⟩) fun h => ⟨j, _, hj, h⟩
  have ho0 : RelO g0 ⟨[], [(1, .vec h2 z e B), (0, .vec h1 z e A)], 2⟩ w := by
    refine ⟨fun id o h => ?_, fun id o id' o' b h3 h4 h5 h6 => ?_, fun id hid => ?_, fun b hb => ⟨(ho.imm b hb).1, fun h => (ho.imm b hb).2 (hownG b h)⟩, ho.cel⟩
    · rcases hlk0 id o h with ⟨rfl, rfl⟩ | ⟨rfl, rfl⟩
      · exact hoi
      · exact hoj
    · rcases hlk0 id o h3 with ⟨rfl, rfl⟩ | ⟨rfl, rfl⟩ <;> rcases hlk0 id' o' h4 with ⟨rfl, rfl⟩ | ⟨rfl, rfl⟩
      · rfl
      · exact absurd (ho.apart i _ j _ b hi hj h5 h6) hne
      · exact absurd (ho.apart i _ j _ b hi hj h6 h5) hne
      · rfl
    · have hid' : 2 ≤ id := hid
      refine ⟨rfl, ?_⟩
      show (if id = 0 then g.κ i else if id = 1 then g.κ j else none) = none
      rw [if_neg (by omega), if_neg (by omega)]
  have hvec : ∀ {k k' m : Nat} {v : Value}, g0.κ k' = g.κ k → VRel g w v (.vec k m) → VRel g0 w v (.vec k' m) := fun {k k' m v} hk hv => by
    cases hv with
    | vec a' cap' _ _ a0 len cap hkk hle hm ha hvq => exact .vec _ _ _ _ a0 len cap (by rw [hk]; exact hkk) hle hm ha hvq
  have hv0 : ∀ (k : Nat) (v : Value) (d : D), vs[k]? = some v → (D.vec 0 n :: mid ++ [.vec 1 m])[k]? = some d → VRel g0 w v d := fun k v d hk hd => by
    have hlen : (D.vec i n :: mid ++ [D.vec j m]).length = mid.length + 2 := by simp
    rcases k with _ | k
    · simp at hd; subst hd
      exact hvec hk0 (hv 0 v _ hk (by simp))
    · simp only [List.cons_append, List.getElem?_cons_succ] at hd
      rw [List.getElem?_append] at hd
      split at hd
      · rename_i hlt
        have := hv (k + 1) v d hk (by simp only [List.cons_append, List.getElem?_cons_succ]; rw [List.getElem?_append_left hlt]; exact hd)
        exact hmid d (List.mem_of_getElem? hd) _ _ _ _ this
      · rename_i hlt
        have hk' : k = mid.length := by
          have := (List.getElem?_eq_some_iff.1 hd).1
          simp at this; omega
        subst hk'
        simp at hd; subst hd
        exact hvec hk1 (hv (mid.length + 1) v _ hk (by simp))
  refine (h.2 g0 w vs ho0 (by simpa using hsz) hv0).mono ?_
  rintro ex w' ⟨v, d, g', os', nx', rfl, ⟨k, rfl, hk⟩, hro, hvr, hst⟩
  have hok := hro.ok k _ hk
  obtain ⟨a2, cap2, h6, h7, h8, h9, h10⟩ := hok
  let g2 : G := ⟨g.ρ, fun id => if id = i then some (a2, E.length, cap2) else g.κ id, g'.I⟩
  have h2i : g2.κ i = g'.κ k := by show (if i = i then _ else _) = _; rw [if_pos rfl, h6]
  have h2o : ∀ id, id ≠ i → g2.κ id = g.κ id := fun id hid => if_neg hid
  obtain ⟨a1, cap1, hi1, hi2⟩ := hoi
  have hle : g.Le g2 := by
    refine ⟨fun _ _ h => h, fun id x l c hid => ?_, fun b hb => hst.le.I b hb⟩
    by_cases hii : id = i
    · subst hii
      rw [hi1] at hid
      cases hid
      exact ⟨a2, E.length, cap2, by rw [h2i, h6], by omega, fun e => by omega⟩
    · exact ⟨x, l, c, by rw [h2o id hii]; exact hid, Nat.le_refl _, fun _ => ⟨rfl, rfl⟩⟩
  have hin : ∀ id o, lk id ((i, Ob.vec true z e E) :: rmv os [i, j]) = some o → (id = i ∧ o = .vec true z e E) ∨ (id ≠ i ∧ id ≠ j ∧ lk id os = some o) := fun id o h => by
    simp only [lk_cons, lk_rmv] at h
    split at h
    · rename_i hid; cases h; exact .inl ⟨hid, rfl⟩
    · rename_i hid
      split at h
      · cases h
      · rename_i hid2
        simp at hid2
        exact .inr ⟨hid, hid2.2, h⟩
  have hblko : ∀ id o, id ≠ i → g2.blk id o = g.blk id o := fun id o hid => by
    cases o with
    | box cs => rfl
    | map _ _ => rfl
    | it _ _ => rfl
    | vec _ _ _ _ => simp only [G.blk, h2o id hid]
  have hblki : ∀ b, g2.blk i (.vec true z e E) = some b → g'.blk k (.vec true z e E) = some b := fun b hb => by
    simp only [G.blk, h2i] at hb ⊢
    exact hb
  -- a block of one of the others is not one of these two
  have hrest : ∀ id o b, id ≠ i → id ≠ j → lk id os = some o → g.blk id o = some b → b < w.heap.size ∧ ¬ Own g0 ⟨[], [(1, .vec h2 z e B), (0, .vec h1 z e A)], 2⟩ b := fun id o b h11 h12 h13 h14 => by
    refine ⟨(ho.ok id o h13).lt.1 b h14, fun h15 => ?_⟩
    rcases hown0 b h15 with h16 | h16
    · exact h11 (ho.apart id o i _ b h13 hi h14 h16)
    · exact h12 (ho.apart id o j _ b h13 hj h14 h16)
  have hnew : ∀ b, g'.blk k (.vec true z e E) = some b → Own g' ⟨[], os', nx'⟩ b := fun b hb => ⟨k, _, hk, hb⟩
  have hownN : ∀ b, Own g2 ⟨[], (i, .vec true z e E) :: rmv os [i, j], nx⟩ b → Own g' ⟨[], os', nx'⟩ b ∨ Own g ⟨[], os, nx⟩ b ∧ b < w.heap.size ∧ ¬ Own g0 ⟨[], [(1, .vec h2 z e B), (0, .vec h1 z e A)], 2⟩ b := fun b ⟨id, o, h11, h12⟩ => by
    rcases hin id o h11 with ⟨rfl, rfl⟩ | ⟨h13, h14, h15⟩
    · exact .inl (hnew b (hblki b h12))
    · rw [hblko id o h13] at h12
      exact .inr ⟨⟨id, o, h15, h12⟩, hrest id o b h13 h14 h15 h12⟩
  have hkeep : Keeps g.I w w' := fun b hb => hst.same b (ho.imm b hb).1 fun h => (ho.imm b hb).2 (hownG b h)
  have himm : ∀ b, b < w.heap.size → ¬ Own g ⟨[], os, nx⟩ b → g'.I b → g.I b := fun b hb hno hi' => hst.imm b hb (fun h => hno (hownG b h)) hi'
  refine ⟨v, _, g2, _, nx, rfl, hQ, ⟨fun id o h => ?_, fun id o id' o' b h11 h12 h13 h14 => ?_, fun id hid => ?_, fun b hb => ⟨(hro.imm b hb).1, fun h => ?_⟩, hro.cel⟩, ?_, ⟨hle, hst.size, fun b hb hno => hst.same b hb fun h => hno (hownG b h), fun b hb hno h => ?_, himm, hst.env⟩⟩
  · rcases hin id o h with ⟨rfl, rfl⟩ | ⟨h11, h12, h13⟩
    · exact ⟨a2, cap2, by rw [h2i, h6], h7, h8, h9, h10⟩
    · exact (ho.ok id o h13).mono hkeep hle (fun b hb => hst.same b (hrest id o b h11 h12 h13 hb).1 (hrest id o b h11 h12 h13 hb).2) (h2o id h11)
  · have key : ∀ id o b, id ≠ i → id ≠ j → lk id os = some o → g.blk id o = some b → g'.blk k (.vec true z e E) = some b → False := fun id o b h15 h16 h17 h18 h19 => by
      have := hrest id o b h15 h16 h17 h18
      exact hst.own b this.1 this.2 (hnew b h19)
    rcases hin id o h11 with ⟨rfl, rfl⟩ | ⟨h15, h16, h17⟩ <;> rcases hin id' o' h12 with ⟨rfl, rfl⟩ | ⟨h18, h19, h20⟩
    · rfl
    · rw [hblko id' o' h18] at h14
      exact (key id' o' b h18 h19 h20 h14 (hblki b h13)).elim
    · rw [hblko id o h15] at h13
      exact (key id o b h15 h16 h17 h13 (hblki b h14)).elim
    · rw [hblko id o h15] at h13
      rw [hblko id' o' h18] at h14
      exact ho.apart id o id' o' b h17 h20 h13 h14
  · have := ho.fresh id hid
    have h20 : nx ≤ id := hid
    have h21 : i < nx := hib
    have hne' : id ≠ i := by omega
    exact ⟨this.1, by rw [h2o id hne']; exact this.2⟩
  · rcases hownN b h with h11 | ⟨h11, h12, h13⟩
    · exact (hro.imm b hb).2 h11
    · exact (ho.imm b (hst.imm b h12 h13 hb)).2 h11
  · cases hvr with
    | vec a' cap' _ _ a0 len cap hkk hle' hm ha hvq => exact .vec _ _ _ _ a0 len cap (by rw [h2i]; exact hkk) hle' hm ha hvq
  · rcases hownN b h with h11 | ⟨h11, _⟩
    · exact hst.own b hb (fun h => hno (hownG b h)) h11
    · exact hno h11
end
end Dm
namespace Dm
open Go Go.Proofs Go.IntWalk
@[go_sem] def pins_T2 : Tab := [ovk 215]
theorem pins_T2_ok : TabOk Tryz.prog pins_T2 := .cons (ov_ok 215) .nil
@[go_sem] def pins_T3 : Tab := [fg 12]
theorem pins_T3_ok : TabOk Tryz.prog pins_T3 := .cons (fg_ok 12) .nil
theorem pins_wide (l : List Py) : Wide 5 (pys l) := of_eq_true (pys_wide l)
set_option maxRecDepth 8000 in
set_option maxHeartbeats 1000000 in
theorem pins_ok (l : List Py) (x : Py) (i : Nat) (hi : i ≤ l.length) (hl : l.length ≤ 1000000) :
    ACall Tryz.prog 136 [.vec 0 l.length, .int .i64 i, .vec 1 1] [(1, .vec true 5 45 (pys [x])), (0, .vec true 5 45 (pys l))] 2 fun d os _ => Grown 5 45 (pys (Srt.ins l i x)) d os := by
  have hil : (Srt.ins l i x).length = l.length + 1 := Srt.ins_len
  have hq : ∀ j os, lk j os = some (.vec true 5 45 (pys (Srt.ins l i x))) → Grown 5 45 (pys (Srt.ins l i x)) (.vec j (l.length + 1)) os := fun j os h => ⟨j, by rw [pys_length, hil], h⟩
  by_cases hin : i = l.length
  · refine ac136 pins_T3_ok (Nat.le_of_ble_eq_true rfl) ?_
    have e4 : ((1 : Int) = 0) = False := eq_false (by decide)
    subst hin
    simp -implicitDefEqProofs only [cdA, go_sem, Go.Proofs.Tryz.f136, e4, decide_true, reduceIte, reduceCtorEq, Nat.reduceEqDiff, Nat.reduceAdd, Nat.reduceLeDiff, Nat.reduceSub, Nat.reduceMul, Nat.reduceLT, Nat.reduceShiftRight, Nat.reduceMod, Int.reduceLE, Int.reduceLT, Int.reduceToNat, cdB, List.cons.injEq, true_and, and_true]
    refine ⟨Int.le_refl _, fun h => h.elim, fun _ => ⟨by omega, hq _ _ ?_⟩⟩
    rw [lk_cons, if_neg (by decide), lk_hd]
    simp [Srt.ins]
  · have hlt : i < l.length := by omega
    refine ACall.opn 0 rfl (by rw [pys_length]; omega) fun c hc hcm => ?_
    refine ACall.sld ?_
    rw [pys_length] at hc
    refine ac136 pins_T2_ok (Nat.le_of_ble_eq_true rfl) ?_
    have e1 : IntKind.i64.wrap ((l.length : Int) + 1) = ((l.length + 1 : Nat) : Int) := by rw [i64_in _ (by omega)]; omega
    have e2 : IntKind.i64.wrap ((i : Int) + 1) = ((i + 1 : Nat) : Int) := by rw [i64_in _ (by omega)]; omega
    have e3 : ((i : Int) = (l.length : Int)) = False := eq_false (by omega)
    have e4 : ((1 : Int) = 0) = False := eq_false (by decide)
    have e5 : IntKind.i64.wrap ((l.length : Int) + 1 - (i : Int)) = ((l.length + 1 - i : Nat) : Int) := by rw [i64_in _ (by omega)]; omega
    have e6 : ((l.length : Int) + 1).toNat = l.length + 1 := by omega
    have e7 : ((i : Int) + 1).toNat = i + 1 := by omega
    have e8 : i + (l.length + 1 - i) = l.length + 1 := by omega
    simp -implicitDefEqProofs only [cdA, go_sem, Go.Proofs.Tryz.f136, e3, e4, e1, e2, e5, e6, e7, e8, decide_false, reduceIte, reduceCtorEq, Nat.reduceEqDiff, Nat.reduceAdd, Nat.reduceLeDiff, Nat.reduceSub, Nat.reduceMul, Nat.reduceLT, Nat.reduceShiftRight, Nat.reduceMod, Int.reduceLE, Int.reduceLT, Int.reduceToNat, cdB, List.cons.injEq, true_and, and_true]
    refine ⟨by omega, fun _ => ⟨fun h1 => ⟨by omega, by omega, fun c1 h2 h3 => ⟨by omega, ?_⟩⟩, fun h1 => ⟨by omega, by omega, ?_, ?_⟩⟩⟩
    · refine ADraw.run us136_11 pins_T2_ok follows_mixed (by kernel_rfl) (by kernel_rfl) ?_
      simp -implicitDefEqProofs only [cdA, go_sem, e1, e2, e5, e6, e7, e8, reduceIte, reduceCtorEq, Nat.reduceEqDiff, Nat.reduceAdd, Nat.reduceLeDiff, Nat.reduceSub, Nat.reduceMul, Nat.reduceLT, Nat.reduceShiftRight, Nat.reduceMod, Int.reduceLE, Int.reduceLT, Int.reduceToNat, cdB, List.cons.injEq, true_and, and_true]
      refine ⟨by omega, by omega, fun y hy => fit_wide (pins_wide l) y (List.mem_of_mem_take (List.mem_of_mem_drop hy)), ?_⟩
      have := ins_new (sz := 5) (c := c) (c1 := c1) (i := i) (E := pys l) (x := x.enc) (z := [C.int .u64 0, C.int .u64 0, C.int .u64 0, C.int .u64 0, C.int .i64 0]) (by rw [pys_length]; exact hlt) (by rw [pys_length]; exact hc) (by rw [pys_length]; exact h2)
      rw [pys_length] at this
      refine hq _ _ ?_
      rw [lk_hd]
      congr 2
      rw [show pys (List.take (l.length + 1 - i) [x]) = List.take (l.length + 1 - i) [x.enc] by simp [pys], this]
      simp [pys, Srt.ins]
    · exact ⟨_, 25, 4, _, rfl, rfl, rfl, rfl, by kernel_rfl, elOf_25⟩
    · refine ADraw.run us136_15 pins_T2_ok follows_mixed (by kernel_rfl) (by kernel_rfl) ?_
      simp -implicitDefEqProofs only [cdA, go_sem, e1, e2, e5, e6, e7, e8, reduceIte, reduceCtorEq, Nat.reduceEqDiff, Nat.reduceAdd, Nat.reduceLeDiff, Nat.reduceSub, Nat.reduceMul, Nat.reduceLT, Nat.reduceShiftRight, Nat.reduceMod, Int.reduceLE, Int.reduceLT, Int.reduceToNat, cdB, List.cons.injEq, true_and, and_true]
      refine ⟨by omega, by omega, fun y hy => fit_wide (pins_wide l) y (List.mem_of_mem_take (List.mem_of_mem_drop hy)), by omega, ?_⟩
      have := ins_old (sz := 5) (c := c) (i := i) (E := pys l) (x := x.enc) (by rw [pys_length]; exact hlt) (by rw [pys_length]; omega)
      rw [pys_length] at this
      refine hq _ _ ?_
      rw [lk_hd]
      congr 2
      rw [show pys (List.take (l.length + 1 - i) [x]) = List.take (l.length + 1 - i) [x.enc] by simp [pys], this]
      simp [pys, Srt.ins]

@[go_sem] def pclone_r (l : List Py) : D := .vec 0 l.length
@[go_sem] def pclone_fr (l : List Py) : Fr := [(5, 45, true, pys l)]
@[go_sem] abbrev n_pclone : FuncId := 132
@[go_sem] def pclone_T : Tab := []
theorem pclone_T_ok : TabOk Tryz.prog pclone_T := TabOk.nil
set_option maxRecDepth 8000 in
set_option maxHeartbeats 1000000 in
theorem pclone_ok (l : List Py) (hl : l.length ≤ 1000000) : FreshFn Tryz.prog 132 [.sl (pys l)] (pclone_r l) (pclone_fr l) := by
  refine .of (ac132 pclone_T_ok (Nat.le_of_ble_eq_true rfl) ?_)
  simp -implicitDefEqProofs only [cdA, go_sem, Go.Proofs.Tryz.f132, reduceIte, reduceCtorEq, Nat.reduceEqDiff, Nat.reduceAdd, Nat.reduceLeDiff, Nat.reduceSub, Nat.reduceMul, Nat.reduceLT, Nat.reduceShiftRight, Nat.reduceMod, Int.reduceLE, Int.reduceLT, Int.reduceToNat, cdB, List.cons.injEq, true_and, and_true]
  refine fun b hb => ⟨fun h => ?_, fun h => ?_⟩
  · exact ⟨[none], by simp [go_sem, hb h], by cases l <;> simp_all [go_sem, pys]⟩
  · exact ⟨by omega, [some 0], by simp [go_sem]⟩
@[go_sem] def pclone_p (l : List Py) : Prop := (l.length ≤ 1000000)
def sp_pclone : List D → Option (Prop × D × Fr)
  | [.c (.sl z273)] => some (z273 = pys (dpys z273) ∧ pclone_p (dpys z273), pclone_r (dpys z273), pclone_fr (dpys z273))
  | _ => none
attribute [go_sem] sp_pclone
theorem sp_pclone_ok : ∀ rs p r fr, sp_pclone rs = some (p, r, fr) → p → FnOk Tryz.prog 132 rs r fr := by
  intro rs p r fr h hp
  unfold sp_pclone at h
  split at h <;> cases h
  obtain ⟨hc0, hp⟩ := hp
  rename_i z273
  obtain ⟨z273, rfl⟩ : ∃ m, z273 = pys m := ⟨_, hc0⟩
  simp only [dpys_pys]
  simp only [dpys_pys, pclone_p] at hp
  exact (show FnOk _ _ _ _ _ from And.intro rfl (pclone_ok z273 hp))
theorem del_old {c z i : Nat} {E Z : List (List C)} (hi : i < E.length) (hc : E.length ≤ c) :
    (fit c z ((fit c z ((fit c z E).take i ++ (E.drop (i + 1) ++ (fit c z E).drop (i + (E.drop (i + 1)).length)))).take (i + (E.drop (i + 1)).length) ++ Z)).take (i + (E.drop (i + 1)).length) = E.eraseIdx i := by
  have hD : (E.drop (i + 1)).length = E.length - (i + 1) := List.length_drop
  have hF : (fit c z E).length = c := fit_length _ _ _
  have h1 : ((fit c z E).take i ++ (E.drop (i + 1) ++ (fit c z E).drop (i + (E.drop (i + 1)).length))).length = c := by
    simp only [List.length_append, List.length_take, List.length_drop, hF]; omega
  rw [fit_take (by rw [List.length_append, List.length_take, fit_length]; omega) (by omega), List.take_append_of_le_length (by rw [List.length_take, fit_length]; omega), List.take_take, Nat.min_self,
    fit_take (by omega) (by omega), ← List.append_assoc, fit_take (by omega) (by omega), List.take_append_of_le_length (by rw [List.length_append, List.length_take]; omega), List.eraseIdx_eq_take_drop_succ]
  rw [List.take_of_length_le (by rw [List.length_append, List.length_take]; omega)]
theorem pys_erase (l : List Py) (i : Nat) : (pys l).eraseIdx i = pys (l.eraseIdx i) := by
  simp [pys, List.eraseIdx_eq_take_drop_succ]
def idle (l : List Py) : Option Nat := l.findIdx? fun p => decide (p.state ≠ 1)
def startP (l : List Py) (p : Py) : List Py × Int :=
  if ¬ okPy l ∨ ¬ okPy1 p ∨ p.state ≠ 1 then ([], 1) else if Srt.thr Py.id ltN l p.id = true then ([], 6) else if l.length = 256 then (match idle l with
    | none => ([], 7)
    | some k => (Srt.ins (l.eraseIdx k) (if k < Srt.pos Py.id ltN l p.id then Srt.pos Py.id ltN l p.id - 1 else Srt.pos Py.id ltN l p.id) p, 0))
  else (Srt.ins l (Srt.pos Py.id ltN l p.id) p, 0)
@[go_sem] def pstart_r (l : List Py) (p : Py) : D := .tup [.sl (pys (startP l p).1), .int .i64 (startP l p).2]
@[go_sem] abbrev n_pstart : FuncId := 52
@[go_sem] def pstart_T : Tab := [(62, sp_pfind), (131, sp_pmay), (132, sp_pclone), fg 13]
theorem pstart_T_ok : TabOk Tryz.prog pstart_T := (TabOk.cons sp_pfind_ok (TabOk.cons sp_pmay_ok (TabOk.cons sp_pclone_ok (TabOk.cons (fg_ok 13) TabOk.nil))))
set_option maxRecDepth 8000 in
set_option maxHeartbeats 1000000 in
theorem pstart_ok (l : List Py) (p : Py)  : PureFn Tryz.prog 52 [.sl (pys l), .agg [.c (.int .u64 (p.id : Int)), .c (.int .u64 (p.hash : Int)), .c (.int .u64 (p.chan : Int)), .c (.int .u64 (p.n : Int)), .c (.int .i64 p.state)]] (pstart_r l p) := by
  refine .of (ac52 pstart_T_ok (Nat.le_of_ble_eq_true rfl) ?_)
  simp -implicitDefEqProofs only [cdA, go_sem, Go.Proofs.Tryz.f52, reduceIte, reduceCtorEq, Nat.reduceEqDiff, Nat.reduceAdd, Nat.reduceLeDiff, Nat.reduceSub, Nat.reduceMul, Nat.reduceLT, Nat.reduceShiftRight, Nat.reduceMod, Int.reduceLE, Int.reduceLT, Int.reduceToNat, cdB, List.cons.injEq, true_and, and_true]
  have hbad : (¬ okPy l ∨ ¬ okPy1 p ∨ p.state ≠ 1) → pys (startP l p).1 = [] ∧ 1 = (startP l p).2 := fun h => by rw [startP, if_pos h]; exact ⟨rfl, rfl⟩
  by_cases hok : okPy l
  rotate_left 1
  · have e : findP l p.id = (0, 1) := by rw [findP, if_neg hok]
    rw [e]
    exact ⟨fun h => absurd rfl h, fun _ => hbad (.inl hok)⟩
  have e : findP l p.id = (((Srt.pos Py.id ltN l p.id : Nat) : Int), if Srt.thr Py.id ltN l p.id = true then 0 else 5) := by rw [findP, if_pos hok]
  have h256 := hok.1
  rw [e]
  refine ⟨fun _ => ⟨fun h1 => ⟨fun h2 => ?_, fun h2 => hbad (.inr (.inr h2))⟩, fun h1 => hbad (.inr (.inl h1))⟩, fun h => by dsimp only at h; split at h <;> cases h⟩
  have hA : ¬ (¬ okPy l ∨ ¬ okPy1 p ∨ p.state ≠ 1) := by rintro (h | h | h) <;> first | exact h hok | exact h h1 | exact h h2
  by_cases ht : Srt.thr Py.id ltN l p.id = true
  · rw [if_pos ht]
    exact ⟨fun _ => by rw [startP, if_neg hA, if_pos ht]; exact ⟨rfl, rfl⟩, fun h => absurd rfl h⟩
  rw [if_neg ht]
  refine ⟨fun h => absurd h (by dsimp only; decide), fun _ => ⟨by omega, fun _ => ⟨fun h3 => ?_, fun h3 => ?_⟩⟩⟩
  · skip
    refine ac133 pstart_T_ok (Nat.le_of_ble_eq_true rfl) ?_
    simp -implicitDefEqProofs only [cdA, go_sem, Go.Proofs.Tryz.f133, reduceIte, reduceCtorEq, Nat.reduceEqDiff, Nat.reduceAdd, Nat.reduceLeDiff, Nat.reduceSub, Nat.reduceMul, Nat.reduceLT, Nat.reduceShiftRight, Nat.reduceMod, Int.reduceLE, Int.reduceLT, Int.reduceToNat, cdB, List.cons.injEq, true_and, and_true]
    refine fun _ => SWp.loop (ι := { i : Nat // i ≤ l.length ∧ ∀ j, j < i → (l.getD j default).state = 1 }) (fun i => ⟨[(0, .vec 1 l.length), (1, .fn (.func 134) [] []), (7, .int .i64 l.length), (8, .int .i64 i.1)],
      [(1, .vec true 5 45 (pys l)), (0, .box [.c (.int .u64 p.id), .c (.int .u64 p.hash), .c (.int .u64 p.chan), .c (.int .u64 p.n), .c (.int .i64 p.state)])], 2⟩) (fun i => l.length - i.1) ⟨0, by simp⟩ ?_ ?_
    · simp [go_sem]
    · rintro ⟨i, hi, hall⟩
      refine awp_sound pstart_T_ok.toS lv133 _ _ _ rfl ?_
      simp -implicitDefEqProofs only [cdA, go_sem, reduceIte, reduceCtorEq, Nat.reduceEqDiff, Nat.reduceAdd, Nat.reduceLeDiff, Nat.reduceSub, Nat.reduceMul, Nat.reduceLT, Nat.reduceShiftRight, Nat.reduceMod, Int.reduceLE, Int.reduceLT, Int.reduceToNat, cdB, List.cons.injEq, true_and, and_true]
      refine ⟨fun h4 => ⟨by omega, by omega, ?_⟩, fun h4 => ?_⟩
      · skip
        refine ac134 pstart_T_ok (Nat.le_of_ble_eq_true rfl) ?_
        simp -implicitDefEqProofs only [cdA, go_sem, Go.Proofs.Tryz.f134, reduceIte, reduceCtorEq, Nat.reduceEqDiff, Nat.reduceAdd, Nat.reduceLeDiff, Nat.reduceSub, Nat.reduceMul, Nat.reduceLT, Nat.reduceShiftRight, Nat.reduceMod, Int.reduceLE, Int.reduceLT, Int.reduceToNat, cdB, List.cons.injEq, true_and, and_true]
        refine ⟨fun h5 => ⟨⟨i + 1, by omega, fun j hj => ?_⟩, by dsimp only; omega, i64_in _ (by omega)⟩, fun h5 => ⟨fun h6 => by omega, fun _ => ?_⟩⟩
        · by_cases hji : j = i
          · subst hji; exact h5
          · exact hall j (by omega)
        · have hi' : i < l.length := by omega
          have hidle : idle l = some i := by
            refine List.findIdx?_eq_some_iff_getElem.2 ⟨hi', ?_, fun j hj => ?_⟩
            · rw [← getD_lt hi']; exact decide_eq_true h5
            · rw [← getD_lt (by omega)]; simpa using hall j hj
          rw [i64_in _ (by omega)]
          refine ACall.opn 1 rfl (by rw [pys_length]; omega) fun c hc hcm => ?_
          refine ACall.sld ?_
          rw [pys_length] at hc
          refine ac135 pstart_T_ok (Nat.le_of_ble_eq_true rfl) ?_
          simp -implicitDefEqProofs only [cdA, go_sem, Go.Proofs.Tryz.f135, reduceIte, reduceCtorEq, Nat.reduceEqDiff, Nat.reduceAdd, Nat.reduceLeDiff, Nat.reduceSub, Nat.reduceMul, Nat.reduceLT, Nat.reduceShiftRight, Nat.reduceMod, Int.reduceLE, Int.reduceLT, Int.reduceToNat, cdB, List.cons.injEq, true_and, and_true]
          refine fun _ => ⟨⟨by omega, by omega, by omega⟩, fun h => absurd h (by omega), fun _ _ => ?_⟩
          refine ADraw.run us135_5 pstart_T_ok follows_mixed (by kernel_rfl) (by kernel_rfl) ?_
          simp -implicitDefEqProofs only [cdA, go_sem, reduceIte, reduceCtorEq, Nat.reduceEqDiff, Nat.reduceAdd, Nat.reduceLeDiff, Nat.reduceSub, Nat.reduceMul, Nat.reduceLT, Nat.reduceShiftRight, Nat.reduceMod, Int.reduceLE, Int.reduceLT, Int.reduceToNat, cdB, List.cons.injEq, true_and, and_true]
          have eF : List.take l.length (fit c 5 (pys l)) = pys l := by rw [fit_take (by rw [pys_length]; exact Nat.le_refl _) hc, List.take_of_length_le (by rw [pys_length]; exact Nat.le_refl _)]
          have e2 : ((i : Int) + 1).toNat = i + 1 := by omega
          rw [eF, e2]
          have hD : ((pys l).drop (i + 1)).length = l.length - (i + 1) := by rw [List.length_drop, pys_length]
          have e3 : ((i : Int) + (((pys l).drop (i + 1)).length : Int)).toNat = i + ((pys l).drop (i + 1)).length := by omega
          simp only [e3]
          have hE : ∀ Z : List (List C), (fit c 5 ((fit c 5 ((fit c 5 (pys l)).take i ++ ((pys l).drop (i + 1) ++ (fit c 5 (pys l)).drop (i + ((pys l).drop (i + 1)).length)))).take (i + ((pys l).drop (i + 1)).length) ++ Z)).take (i + ((pys l).drop (i + 1)).length) = pys (l.eraseIdx i) := fun Z => by
            rw [del_old (by rw [pys_length]; exact hi') (by rw [pys_length]; exact hc), pys_erase]
          rw [hE, hD]
          have hl1 : i + (l.length - (i + 1)) = (l.eraseIdx i).length := by rw [List.length_eraseIdx_of_lt hi']; omega
          rw [hl1]
          have hl2 : (l.eraseIdx i).length = l.length - 1 := List.length_eraseIdx_of_lt hi'
          have hpl : Srt.pos Py.id ltN l p.id ≤ l.length := Srt.pos_le
          refine ⟨by omega, ⟨by omega, by omega⟩, ⟨fun x hx => ?_, by omega⟩, fun _ => ⟨⟨by omega, by omega, by omega⟩, fun h7 => ?_, fun h7 => ?_⟩⟩
          · exact (of_eq_true (pys_wide l)) x (List.mem_of_mem_drop hx)
          · rw [i64_in _ (by omega), show ((Srt.pos Py.id ltN l p.id : Nat) : Int) - 1 = ((Srt.pos Py.id ltN l p.id - 1 : Nat) : Int) by omega]
            refine ACall.grow (mid := [.int .i64 _]) (pins_ok (l.eraseIdx i) p (Srt.pos Py.id ltN l p.id - 1) (by omega) (by omega)) rfl rfl (by decide) (by simp [Srt.ins_len]) (fun d hd g g' w v hv => ?_) ?_
            · simp at hd; subst hd
              cases hv with
              | c _ _ h => cases h; exact .c _ _ (.int _ _)
            · simp -implicitDefEqProofs only [cdA, go_sem, reduceIte, reduceCtorEq, Nat.reduceEqDiff, Nat.reduceAdd, Nat.reduceLeDiff, Nat.reduceSub, Nat.reduceMul, Nat.reduceLT, Nat.reduceShiftRight, Nat.reduceMod, Int.reduceLE, Int.reduceLT, Int.reduceToNat, cdB, List.cons.injEq, true_and, and_true]
              rw [startP, if_neg hA, if_neg ht, if_pos (by omega), hidle]
              dsimp only
              rw [if_pos (by omega)]
              exact ⟨⟨rfl, _, _, _, rfl⟩, rfl⟩
          · refine ACall.grow (mid := [.int .i64 _]) (pins_ok (l.eraseIdx i) p (Srt.pos Py.id ltN l p.id) (by omega) (by omega)) rfl rfl (by decide) (by simp [Srt.ins_len]) (fun d hd g g' w v hv => ?_) ?_
            · simp at hd; subst hd
              cases hv with
              | c _ _ h => cases h; exact .c _ _ (.int _ _)
            · simp -implicitDefEqProofs only [cdA, go_sem, reduceIte, reduceCtorEq, Nat.reduceEqDiff, Nat.reduceAdd, Nat.reduceLeDiff, Nat.reduceSub, Nat.reduceMul, Nat.reduceLT, Nat.reduceShiftRight, Nat.reduceMod, Int.reduceLE, Int.reduceLT, Int.reduceToNat, cdB, List.cons.injEq, true_and, and_true]
              rw [startP, if_neg hA, if_neg ht, if_pos (by omega), hidle]
              dsimp only
              rw [if_neg (by omega)]
              exact ⟨⟨rfl, _, _, _, rfl⟩, rfl⟩
      · have : idle l = none := by
          refine List.findIdx?_eq_none_iff.2 fun x hx => ?_
          obtain ⟨j, hj, rfl⟩ := mem_getD.1 hx
          simpa using hall j (by omega)
        rw [startP, if_neg hA, if_neg ht, if_pos (by omega), this]
        exact ⟨rfl, rfl⟩
  · have hpos : Srt.pos Py.id ltN l p.id ≤ l.length := Srt.pos_le
    refine ACall.grow (mid := [.int .i64 _]) (pins_ok l p (Srt.pos Py.id ltN l p.id) hpos (by omega)) rfl rfl (by decide) (by simp [Srt.ins_len]) (fun d hd g g' w v hv => ?_) ?_
    · simp at hd; subst hd
      cases hv with
      | c _ _ h => cases h; exact .c _ _ (.int _ _)
    · simp -implicitDefEqProofs only [cdA, go_sem, reduceIte, reduceCtorEq, Nat.reduceEqDiff, Nat.reduceAdd, Nat.reduceLeDiff, Nat.reduceSub, Nat.reduceMul, Nat.reduceLT, Nat.reduceShiftRight, Nat.reduceMod, Int.reduceLE, Int.reduceLT, Int.reduceToNat, cdB, List.cons.injEq, true_and, and_true]
      rw [startP, if_neg hA, if_neg ht, if_neg (by omega)]
      exact ⟨⟨rfl, _, _, _, rfl⟩, rfl⟩
def sp_pstart : List D → Option (Prop × D × Fr)
  | [.c (.sl z274), .agg [.c (.int .u64 z276), .c (.int .u64 z277), .c (.int .u64 z278), .c (.int .u64 z279), .c (.int .i64 z280)]] => some (z274 = pys (dpys z274) ∧ z276 = (z276.toNat : Int) ∧ z277 = (z277.toNat : Int) ∧ z278 = (z278.toNat : Int) ∧ z279 = (z279.toNat : Int), pstart_r (dpys z274) (⟨z276.toNat, z277.toNat, z278.toNat, z279.toNat, z280⟩ : Py), [])
  | _ => none
attribute [go_sem] sp_pstart
theorem sp_pstart_ok : ∀ rs p r fr, sp_pstart rs = some (p, r, fr) → p → FnOk Tryz.prog 52 rs r fr := by
  intro rs p r fr h hp
  unfold sp_pstart at h
  split at h <;> cases h
  obtain ⟨hc0, hc1, hc2, hc3, hc4⟩ := hp
  rename_i z274 z276 z277 z278 z279 z280
  obtain ⟨z274, rfl⟩ : ∃ m, z274 = pys m := ⟨_, hc0⟩
  obtain ⟨z276, rfl⟩ : ∃ m : Nat, z276 = m := ⟨_, hc1⟩
  obtain ⟨z277, rfl⟩ : ∃ m : Nat, z277 = m := ⟨_, hc2⟩
  obtain ⟨z278, rfl⟩ : ∃ m : Nat, z278 = m := ⟨_, hc3⟩
  obtain ⟨z279, rfl⟩ : ∃ m : Nat, z279 = m := ⟨_, hc4⟩
  simp only [Int.toNat_natCast, dpys_pys]
  exact pstart_ok z274 ⟨z276, z277, z278, z279, z280⟩
end Dm
namespace Dm
open Go Go.Proofs Go.IntWalk
def pendL (l : List Py) (id : Nat) (paid : Bool) : List Py × Int :=
  if okPy l then (if Srt.thr Py.id ltN l id = true then (if (l.getD (Srt.pos Py.id ltN l id) default).state = 1 then (l.set (Srt.pos Py.id ltN l id) { l.getD (Srt.pos Py.id ltN l id) default with state := if paid = true then 2 else 3 }, 0) else ([], 10)) else ([], 5)) else ([], 1)
@[go_sem] def pend_r (l : List Py) (id : Nat) (paid : Bool) : D := .tup [.sl (pys (pendL l id paid).1), .int .i64 (pendL l id paid).2]
@[go_sem] abbrev n_pend : FuncId := 59
@[go_sem] def pend_T : Tab := [(62, sp_pfind), (132, sp_pclone)]
theorem pend_T_ok : TabOk Tryz.prog pend_T := (TabOk.cons sp_pfind_ok (TabOk.cons sp_pclone_ok TabOk.nil))
set_option maxRecDepth 8000 in
set_option maxHeartbeats 1000000 in
theorem pend_ok (l : List Py) (id : Nat) (paid : Bool)  : PureFn Tryz.prog 59 [.sl (pys l), .c (.int .u64 (id : Int)), .c (.bool paid)] (pend_r l id paid) := by
  refine .of (ac59 pend_T_ok (Nat.le_of_ble_eq_true rfl) ?_)
  simp -implicitDefEqProofs only [cdA, go_sem, Go.Proofs.Tryz.f59, reduceIte, reduceCtorEq, Nat.reduceEqDiff, Nat.reduceAdd, Nat.reduceLeDiff, Nat.reduceSub, Nat.reduceMul, Nat.reduceLT, Nat.reduceShiftRight, Nat.reduceMod, Int.reduceLE, Int.reduceLT, Int.reduceToNat, cdB, List.cons.injEq, true_and, and_true]
  by_cases hok : okPy l
  rotate_left 1
  · have ef : findP l id = (0, 1) := by rw [findP, if_neg hok]
    rw [ef, pendL, if_neg hok]
    exact ⟨fun h => absurd (show (1 : Int) = 0 from h) (by decide), fun _ => ⟨rfl, rfl⟩⟩
  by_cases ht : Srt.thr Py.id ltN l id = true
  rotate_left 1
  · have ef : findP l id = (((Srt.pos Py.id ltN l id : Nat) : Int), 5) := by rw [findP, if_pos hok, if_neg ht]
    rw [ef, pendL, if_pos hok, if_neg ht]
    exact ⟨fun h => absurd (show (5 : Int) = 0 from h) (by decide), fun _ => ⟨rfl, rfl⟩⟩
  have ef : findP l id = (((Srt.pos Py.id ltN l id : Nat) : Int), 0) := by rw [findP, if_pos hok, if_pos ht]
  have hp : Srt.pos Py.id ltN l id < l.length := by
    have ht := ht
    unfold Srt.thr at ht
    exact (of_decide_eq_true ht).1
  rw [ef, pendL, if_pos hok, if_pos ht]
  generalize Srt.pos Py.id ltN l id = r at hp
  dsimp only
  have h256 := hok.1
  have hg : ∀ x : Py, (l.set r x).getD r default = x := fun x => by rw [Srt.set_getD hp, if_pos rfl]
  simp only [Int.toNat_natCast, hg, List.set_set]
  refine ⟨fun _ => ⟨⟨by omega, by omega⟩, fun hs => ⟨by omega, ⟨by omega, by omega⟩, hp, fun hp1 => ⟨⟨by omega, by omega⟩, hp, ?_⟩, fun hp1 => ?_⟩, fun hs => ?_⟩, fun h => absurd trivial h⟩
  · rw [if_pos hs, if_pos hp1]; exact ⟨⟨by rw [List.length_set], _, _, _, rfl⟩, rfl⟩
  · rw [if_pos hs, if_neg (by rw [hp1]; decide)]; exact ⟨⟨by rw [List.length_set], _, _, _, rfl⟩, rfl⟩
  · rw [if_neg hs]; exact ⟨rfl, rfl⟩
def sp_pend : List D → Option (Prop × D × Fr)
  | [.c (.sl z1), .c (.int .u64 z2), .c (.bool z3)] => some (z1 = pys (dpys z1) ∧ z2 = (z2.toNat : Int), pend_r (dpys z1) z2.toNat z3, [])
  | _ => none
attribute [go_sem] sp_pend
theorem sp_pend_ok : ∀ rs p r fr, sp_pend rs = some (p, r, fr) → p → FnOk Tryz.prog 59 rs r fr := by
  intro rs p r fr h hp
  unfold sp_pend at h
  split at h <;> cases h
  obtain ⟨hc0, hc1⟩ := hp
  rename_i z1 z2 z3
  obtain ⟨z1, rfl⟩ : ∃ m, z1 = pys m := ⟨_, hc0⟩
  obtain ⟨z2, rfl⟩ : ∃ m : Nat, z2 = m := ⟨_, hc1⟩
  simp only [Int.toNat_natCast, dpys_pys]
  exact pend_ok z1 z2 z3
end Dm
namespace Dm
open Go
section
variable {κ : Type} [DecidableEq κ]
def alk (a : κ) : List (κ × Int) → Option Int
  | [] => none
  | (x, y) :: l => if x = a then some y else alk a l
def aset (a : κ) (b : Int) : List (κ × Int) → List (κ × Int)
  | [] => [(a, b)]
  | (x, y) :: l => if x = a then (x, b) :: l else (x, y) :: aset a b l
theorem alk_aset {a k : κ} {b : Int} : ∀ {l : List (κ × Int)}, alk k (aset a b l) = if k = a then some b else alk k l
  | [] => by
    simp only [aset, alk]
    by_cases h : a = k
    · rw [if_pos h, if_pos h.symm]
    · rw [if_neg h, if_neg (fun e => h e.symm)]
  | (x, y) :: l => by
    rw [aset]
    by_cases hx : x = a
    · subst hx
      rw [if_pos rfl, alk, alk]
      by_cases h : x = k
      · rw [if_pos h, if_pos h.symm]
      · rw [if_neg h, if_neg (fun e => h e.symm), if_neg h]
    · rw [if_neg hx, alk, alk, alk_aset]
      by_cases h : x = k
      · rw [if_pos h, if_pos h]
        subst h
        rw [if_neg hx]
      · rw [if_neg h, if_neg h]
end
abbrev K3 := Nat × Nat × Nat
def kv3 (l : List (K3 × Int)) : List (List C × D) := l.map fun x => ([.int .u64 x.1.1, .int .u64 x.1.2.1, .int .u64 x.1.2.2], .int .i64 x.2)
theorem mlk_kv3 {a b c : Nat} : ∀ {l : List (K3 × Int)}, mlk [.int .u64 (a : Int), .int .u64 (b : Int), .int .u64 (c : Int)] (kv3 l) = (alk (a, b, c) l).map fun b => .int .i64 b
  | [] => rfl
  | ((x, y, z), v) :: l => by
    show mlk _ (([.int .u64 (x : Int), .int .u64 (y : Int), .int .u64 (z : Int)], _) :: kv3 l) = _
    rw [mlk, alk]
    by_cases h : (x, y, z) = (a, b, c)
    · rw [if_pos h]; cases h; rw [if_pos rfl]; rfl
    · rw [if_neg h, if_neg, mlk_kv3]
      intro e
      simp only [List.cons.injEq, C.int.injEq, true_and, and_true, Int.natCast_inj] at e
      exact h (by rw [e.1, e.2.1, e.2.2])
attribute [go_sem] mlk_kv3
theorem mset_kv3 {a b c : Nat} {v : Int} : ∀ {l : List (K3 × Int)}, mset [.int .u64 (a : Int), .int .u64 (b : Int), .int .u64 (c : Int)] (.int .i64 v) (kv3 l) = kv3 (aset (a, b, c) v l)
  | [] => rfl
  | ((x, y, z), u) :: l => by
    show mset _ _ (([.int .u64 (x : Int), .int .u64 (y : Int), .int .u64 (z : Int)], _) :: kv3 l) = _
    rw [mset, aset]
    by_cases h : (x, y, z) = (a, b, c)
    · rw [if_pos h]; cases h; rw [if_pos rfl]; rfl
    · rw [if_neg h, if_neg, mset_kv3]
      · rfl
      · intro e
        simp only [List.cons.injEq, C.int.injEq, true_and, and_true, Int.natCast_inj] at e
        exact h (by rw [e.1, e.2.1, e.2.2])
attribute [go_sem] mset_kv3
@[go_sem] theorem bel_kv3 {N : Nat} {l : List (K3 × Int)} : mbel N (kv3 l) = true := by
  simp [mbel, kv3, D.bel2, D.bel1, D.bel0]
@[go_sem] theorem mids_kv3 : ∀ {l : List (K3 × Int)}, (kv3 l).map (·.2) = l.map fun x => D.int .i64 x.2 := by
  intro l; simp [kv3]
@[go_sem] theorem midsL_int {α : Type} {k : IntKind} {f : α → Int} : ∀ {l : List α}, midsL (l.map fun x => D.int k (f x)) = []
  | [] => rfl
  | x :: l => by
    rw [List.map_cons, midsL, midsL_int]; rfl
@[go_sem] theorem midsL_mzero {key : List C} {k : IntKind} {n : Int} : ∀ {kv : List (List C × D)}, midsL ((mzero key (.int k n) kv).map (·.2)) = midsL (kv.map (·.2))
  | [] => rfl
  | (k', d) :: l => by
    rw [mzero]
    split
    · rfl
    · rw [List.map_cons, List.map_cons, midsL, midsL, midsL_mzero]
attribute [go_sem] mput_mset
@[go_sem] theorem mpos_nn {k : List C} {kv : List (List C × D)} : (0 ≤ ((mpos k kv : Nat) : Int)) = True := eq_true (by omega)
@[go_sem] theorem mpos_in {k : List C} {z : D} {kv : List (List C × D)} : (((mpos k kv : Nat) : Int) < (((mzero k z kv).length : Nat) : Int)) = True := eq_true (by have := mpos_lt (k := k) (z := z) (kv := kv); omega)
@[go_sem] theorem getD_mi {o : Option Int} : (o.map fun b => D.int .i64 b).getD (.int .i64 0) = .int .i64 (o.getD 0) := by cases o <;> rfl
@[go_sem] theorem rdD_none {P : Program} {s : St} : rdD P s [] = some (.tup []) := rfl
@[go_sem] theorem rdD_4 {P : Program} {s : St} {r r' r'' r3 : ResultVar} : rdD P s [r, r', r'', r3] = match rd1 P s r, rd1 P s r', rd1 P s r'', rd1 P s r3 with | some x, some y, some z, some u => some (.tup [x, y, z, u]) | _, _, _, _ => none := by
  unfold rdD rds rds rds rds rds
  cases rd1 P s r <;> cases rd1 P s r' <;> cases rd1 P s r'' <;> cases rd1 P s r3 <;> rfl
theorem okL_z {o : Option Int} {d : Option Nat} {s : St} {K : St → Prop} : okL (some (o.map fun b => D.int .i64 b, D.int .i64 0)) false d s K = K (s.put d (.int .i64 (o.getD 0))) := by
  cases o <;> rfl
end Dm
namespace Dm
open Go Go.Proofs Go.IntWalk
def hlC (c : Ch) : List K3 := c.holds.map fun h => (c.id, h.id, h.n)
def hlL (cs : List Ch) : List K3 := cs.flatMap hlC
def pend (l : List Py) : List Py := l.filter fun p => decide (p.state = 1)
def agrL (l : List Py) (cs : List Ch) : Bool × Int := if okPy l ∧ cs.length ≤ 32 ∧ (cs.map Ch.id).Nodup then (decide ((∀ p ∈ pend l, (p.chan, p.id, p.n) ∈ hlL cs) ∧ (hlL cs).length = (pend l).length), 0) else (false, 1)
theorem hl_len : ∀ {cs : List Ch} {n : Nat}, (∀ c ∈ cs, c.holds.length ≤ 1000000) → cs.length ≤ n → (hlL cs).length ≤ n * 1000000
  | [], n, _, _ => by simp [hlL]
  | c :: cs, n, h, hn => by
    have h1 : hlL (c :: cs) = hlC c ++ hlL cs := rfl
    rw [h1, List.length_append]
    have h2 : (hlC c).length ≤ 1000000 := by unfold hlC; rw [List.length_map]; exact h c (.head _)
    have h3 := hl_len (cs := cs) (n := cs.length) (fun d hd => h d (.tail _ hd)) (Nat.le_refl _)
    simp only [List.length_cons] at hn
    omega
@[go_sem] def pagree_r (l : List Py) (cs : List Ch) : D := .tup [.bool (agrL l cs).1, .int .i64 (agrL l cs).2]
@[go_sem] abbrev n_pagree : FuncId := 105
@[go_sem] def pagree_T : Tab := [(149, sp_pcheck)]
theorem pagree_T_ok : TabOk Tryz.prog pagree_T := (TabOk.cons sp_pcheck_ok TabOk.nil)
set_option maxRecDepth 8000 in
set_option maxHeartbeats 1000000 in
theorem pagree_ok (l : List Py) (cs : List Ch) (hs : ∀ c ∈ cs, c.holds.length ≤ 1000000) : PureFn Tryz.prog 105 [.sl (pys l), .sl (chs cs)] (pagree_r l cs) := by
  refine .of (ac105 pagree_T_ok (Nat.le_of_ble_eq_true rfl) ?_)
  simp -implicitDefEqProofs only [cdA, go_sem, Go.Proofs.Tryz.f105, reduceIte, reduceCtorEq, Nat.reduceEqDiff, Nat.reduceAdd, Nat.reduceLeDiff, Nat.reduceSub, Nat.reduceMul, Nat.reduceLT, Nat.reduceShiftRight, Nat.reduceMod, Int.reduceLE, Int.reduceLT, Int.reduceToNat, cdB, List.cons.injEq, true_and, and_true]
  have hbad : ¬ (okPy l ∧ cs.length ≤ 32 ∧ (cs.map Ch.id).Nodup) → false = (agrL l cs).1 ∧ 1 = (agrL l cs).2 := fun h => by rw [agrL, if_neg h]; exact ⟨rfl, rfl⟩
  have hcz : chkP l = 0 ↔ okPy l := by unfold chkP; split <;> rename_i h <;> simp only [h] <;> decide
  refine ⟨fun h0 hl => ⟨fun h => hbad fun ho => ?_, fun hle _ => ?_⟩, fun h0 => hbad fun h => h0 (hcz.2 h.1)⟩
  · have := ho.2.1; omega
  have hok := hcz.1 h0
  refine SWp.loop (ι := { x : Nat × List (K3 × Int) × List (Nat × Int) // x.1 ≤ cs.length ∧ ((cs.take x.1).map Ch.id).Nodup ∧ (∀ k, (alk k x.2.1).getD 0 = (List.count k (hlL (cs.take x.1)) : Nat)) ∧ (∀ k, (nlk k x.2.2).getD 0 = (List.count k ((cs.take x.1).map Ch.id) : Nat)) })
    (fun x => ⟨[(0, .sl (pys l)), (6, .mp 0), (7, .mp 1), (8, .int .i64 (hlL (cs.take x.1.1)).length), (25, .sl (chs cs)), (26, .int .i64 cs.length), (27, .int .i64 x.1.1)], [(1, .map [.int .u64] (kvN .u64 .i64 x.1.2.2)), (0, .map [.int .u64, .int .u64, .int .u64] (kv3 x.1.2.1))], 2⟩) (fun x => cs.length - x.1.1)
    ⟨(0, [], []), by simp, by simp, fun k => by simp [alk, hlL], fun k => by simp [nlk]⟩ ?_ ?_
  · simp [go_sem, kvN, kv3, hlL]
  · rintro ⟨⟨i, m, ids⟩, hi, hnd, hm, hids⟩
    dsimp only at hi hnd hm hids
    refine awp_sound pagree_T_ok.toS lv105 _ _ _ rfl ?_
    simp -implicitDefEqProofs only [cdA, go_sem, okL_z, reduceIte, reduceCtorEq, Nat.reduceEqDiff, Nat.reduceAdd, Nat.reduceLeDiff, Nat.reduceSub, Nat.reduceMul, Nat.reduceLT, Nat.reduceShiftRight, Nat.reduceMod, Int.reduceLE, Int.reduceLT, Int.reduceToNat, cdB, List.cons.injEq, true_and, and_true]
    have hlen : (hlL (cs.take i)).length ≤ i * 1000000 := hl_len (fun c hc => hs c (List.mem_of_mem_take hc)) (by rw [List.length_take]; omega)
    refine ⟨fun h1 => ⟨by omega, ?_⟩, fun h1 _ => ?_⟩
    · have hi' : i < cs.length := by omega
      have hcm : cs.getD i default ∈ cs := mem_getD.2 ⟨i, hi', rfl⟩
      have htk : cs.take (i + 1) = cs.take i ++ [cs.getD i default] := take_succ hi'
      generalize cs.getD i default = c at *
      have hcl := hs c hcm
      have hcle : List.count c.id ((cs.take i).map Ch.id) ≤ 32 := Nat.le_trans List.count_le_length (by simp; omega)
      rw [hids, i64_in _ (by omega), nlk_nset, if_pos rfl]
      generalize hids' : nset c.id ((List.count c.id ((cs.take i).map Ch.id) : Nat) + 1 : Int) ids = ids'
      have hid2 : ∀ k, (nlk k ids').getD 0 = (List.count k ((cs.take (i + 1)).map Ch.id) : Nat) := fun k => by
        rw [← hids', nlk_nset, htk, List.map_append, List.count_append]
        split
        · rename_i h; subst h; simp
        · rename_i h
          rw [hids]; simp [List.count_cons, Ne.symm h]
      refine ⟨fun h2 => hbad fun ho => ?_, fun h2 _ => ?_⟩
      · have h3 : (cs.take (i + 1)).map Ch.id <+: cs.map Ch.id := (List.take_prefix _ _).map _
        have h4 := h3.sublist.nodup ho.2.2
        rw [htk, List.map_append, List.nodup_append] at h4
        have h5 : 0 < List.count c.id ((cs.take i).map Ch.id) := by
          simp only [Option.getD_some] at h2; omega
        exact h4.2.2 _ (List.count_pos_iff.1 h5) c.id (by simp) rfl
      · have hnd' : ((cs.take (i + 1)).map Ch.id).Nodup := by
          rw [htk, List.map_append, List.nodup_append]
          refine ⟨hnd, by simp, fun x hx y hy => ?_⟩
          simp at hy
          rintro rfl
          subst hy
          have := List.count_pos_iff.2 hx
          simp only [Option.getD_some] at h2; omega
        refine SWp.loop (ι := { x : Nat × List (K3 × Int) // x.1 ≤ c.holds.length ∧ ∀ k, (alk k x.2).getD 0 = (List.count k (hlL (cs.take i) ++ (hlC c).take x.1) : Nat) })
          (fun x => ⟨[(0, .sl (pys l)), (6, .mp 0), (7, .mp 1), (8, .int .i64 ((hlL (cs.take i)).length + x.1.1 : Nat)), (10, .ref 2 0), (25, .sl (chs cs)), (26, .int .i64 cs.length), (27, .int .i64 i), (42, .c (.sl (hds c.holds))), (43, .int .i64 c.holds.length), (44, .int .i64 x.1.1)],
            [(2, .box [.c (.int .u64 c.id), .c (.int .u64 c.loc), .c (.int .u64 c.rem), .c (.int .u64 c.res), .c (.int .u64 c.most), .c (.sl (hds c.holds)), .c (.bool c.op)]), (1, .map [.int .u64] (kvN .u64 .i64 ids')), (0, .map [.int .u64, .int .u64, .int .u64] (kv3 x.1.2))], 3⟩) (fun x => c.holds.length - x.1.1)
          ⟨(0, m), by simp, fun k => by simp [hm]⟩ ?_ ?_
        · simp [go_sem]
        · rintro ⟨⟨k, m⟩, hk, hm⟩
          dsimp only at hk hm
          refine awp_sound pagree_T_ok.toS lv105 _ _ _ rfl ?_
          simp -implicitDefEqProofs only [cdA, go_sem, okL_z, reduceIte, reduceCtorEq, Nat.reduceEqDiff, Nat.reduceAdd, Nat.reduceLeDiff, Nat.reduceSub, Nat.reduceMul, Nat.reduceLT, Nat.reduceShiftRight, Nat.reduceMod, Int.reduceLE, Int.reduceLT, Int.reduceToNat, cdB, List.cons.injEq, true_and, and_true]
          refine ⟨fun h3 => ⟨by omega, ?_⟩, fun h3 => ?_⟩
          · refine ADraw.runC us105_13 [0, 0, 2, 0, 14, 31, 63, 63, 159, 511] pagree_T_ok follows_mixed (by kernel_rfl) (by kernel_rfl) (by kernel_rfl) ?_
            simp -implicitDefEqProofs only [cdA, go_sem, okL_z, reduceIte, reduceCtorEq, Nat.reduceEqDiff, Nat.reduceAdd, Nat.reduceLeDiff, Nat.reduceSub, Nat.reduceMul, Nat.reduceLT, Nat.reduceShiftRight, Nat.reduceMod, Int.reduceLE, Int.reduceLT, Int.reduceToNat, cdB, List.cons.injEq, true_and, and_true]
            have hk' : k < c.holds.length := by omega
            have hcl' : (hlC c).length = c.holds.length := by unfold hlC; rw [List.length_map]
            have hct : List.count (c.id, (c.holds.getD k default).id, (c.holds.getD k default).n) (hlL (cs.take i) ++ (hlC c).take k) ≤ i * 1000000 + 1000000 :=
              Nat.le_trans List.count_le_length (by rw [List.length_append, List.length_take]; omega)
            have hstep : (hlC c).take (k + 1) = (hlC c).take k ++ [(c.id, (c.holds.getD k default).id, (c.holds.getD k default).n)] := by
              rw [take_succ (by rw [hcl']; exact hk')]
              congr 2
              unfold hlC
              rw [getD_lt (by rw [List.length_map]; exact hk'), getD_lt hk', List.getElem_map]
            refine ⟨⟨(k + 1, _), hk', fun q => ?_⟩, by dsimp only; omega, ⟨by rw [i64_in _ (by omega)]; dsimp only; omega, i64_in _ (by omega)⟩, rfl⟩
            dsimp only
            rw [hm, i64_in _ (by omega), alk_aset, hstep, ← List.append_assoc]
            generalize hlL (cs.take i) ++ (hlC c).take k = A at *
            generalize (c.id, (c.holds.getD k default).id, (c.holds.getD k default).n) = t at *
            rw [List.count_append, List.count_singleton]
            split
            · rename_i h; subst h
              rw [if_pos (by simp), Option.getD_some]; omega
            · rename_i h
              rw [hm, if_neg (by simpa using Ne.symm h)]; omega
          · have hk' : k = c.holds.length := by omega
            subst hk'
            have hcl' : (hlC c).length = c.holds.length := by unfold hlC; rw [List.length_map]
            have hl1 : hlL (cs.take (i + 1)) = hlL (cs.take i) ++ hlC c := by rw [htk]; simp [hlL]
            refine ⟨⟨(i + 1, m, ids'), hi', hnd', fun q => ?_, hid2⟩, by dsimp only; omega, ⟨by dsimp only; rw [hl1, List.length_append, hcl']; omega, i64_in _ (by omega)⟩, rfl, rfl⟩
            dsimp only
            rw [hm, hl1, ← hcl', List.take_length]
    · have hi' : i = cs.length := by omega
      subst hi'
      rw [List.take_length] at hnd hm hids hlen ⊢
      have hA : okPy l ∧ cs.length ≤ 32 ∧ (cs.map Ch.id).Nodup := ⟨hok, by omega, hnd⟩
      have hl256 := hok.1
      have hpl : ∀ j, (pend (l.take j)).length ≤ 256 := fun j => Nat.le_trans (List.length_filter_le _ _) (by rw [List.length_take]; omega)
      refine SWp.loop (ι := { j : Nat // j ≤ l.length ∧ ∀ p ∈ pend (l.take j), (p.chan, p.id, p.n) ∈ hlL cs }) (fun j => ⟨[(6, .mp 0), (8, .int .i64 ((hlL cs).length - (pend (l.take j.1)).length : Int)), (61, .sl (pys l)), (62, .int .i64 l.length), (63, .int .i64 j.1)], [(1, .map [.int .u64] (kvN .u64 .i64 ids)), (0, .map [.int .u64, .int .u64, .int .u64] (kv3 m))], 2⟩) (fun j => l.length - j.1) ⟨0, by simp [pend]⟩ ?_ ?_
      · simp [go_sem, pend]
      · rintro ⟨j, hj, hin⟩
        have hpj := hpl j
        refine awp_sound pagree_T_ok.toS lv105 _ _ _ rfl ?_
        simp -implicitDefEqProofs only [cdA, go_sem, okL_z, reduceIte, reduceCtorEq, Nat.reduceEqDiff, Nat.reduceAdd, Nat.reduceLeDiff, Nat.reduceSub, Nat.reduceMul, Nat.reduceLT, Nat.reduceShiftRight, Nat.reduceMod, Int.reduceLE, Int.reduceLT, Int.reduceToNat, cdB, List.cons.injEq, true_and, and_true]
        refine ⟨fun h1 => ⟨by omega, fun h2 => ?_, fun h2 => ?_⟩, fun h1 => ?_⟩
        · have hj' : j < l.length := by omega
          have hst : pend (l.take (j + 1)) = pend (l.take j) ++ [l.getD j default] := by
            unfold pend
            rw [take_succ hj', List.filter_append]
            simp only [List.filter_cons, decide_eq_true h2, if_true, List.filter_nil]
          rw [hm]
          refine ⟨fun h3 => ?_, fun h3 => ?_⟩
          · rw [agrL, if_pos hA]
            refine ⟨(decide_eq_false fun h4 => ?_).symm, rfl⟩
            have h5 := h4.1 (l.getD j default) (List.mem_filter.2 ⟨mem_getD.2 ⟨j, hj', rfl⟩, decide_eq_true h2⟩)
            have := List.count_pos_iff.2 h5
            omega
          · refine ⟨⟨j + 1, hj', fun p hp => ?_⟩, by dsimp only; omega, ?_, i64_in _ (by omega)⟩
            · rw [hst] at hp
              rcases List.mem_append.1 hp with hp | hp
              · exact hin p hp
              · rw [List.mem_singleton] at hp
                rw [hp]
                exact List.count_pos_iff.1 (by omega)
            · rw [i64_in _ (by omega)]
              dsimp only
              rw [hst, List.length_append, List.length_singleton]; omega
        · have hj' : j < l.length := by omega
          have hst : pend (l.take (j + 1)) = pend (l.take j) := by
            unfold pend
            rw [take_succ hj', List.filter_append]
            simp only [List.filter_cons, decide_eq_false h2, List.filter_nil, List.append_nil, Bool.false_eq_true, if_false]
          exact ⟨⟨j + 1, hj', fun p hp => hin p (by rwa [hst] at hp)⟩, by dsimp only; omega, by dsimp only; rw [hst], i64_in _ (by omega)⟩
        · have hj' : j = l.length := by omega
          subst hj'
          rw [List.take_length] at hin hpj ⊢
          rw [agrL, if_pos hA]
          refine ⟨?_, rfl⟩
          rw [decide_eq_decide]
          exact ⟨fun h => ⟨hin, by omega⟩, fun h => by omega⟩
@[go_sem] def pagree_p (l : List Py) (cs : List Ch) : Prop := (∀ c ∈ cs, c.holds.length ≤ 1000000)
def sp_pagree : List D → Option (Prop × D × Fr)
  | [.c (.sl z245), .c (.sl z246)] => some (z245 = pys (dpys z245) ∧ z246 = chs (dchs z246) ∧ pagree_p (dpys z245) (dchs z246), pagree_r (dpys z245) (dchs z246), [])
  | _ => none
attribute [go_sem] sp_pagree
theorem sp_pagree_ok : ∀ rs p r fr, sp_pagree rs = some (p, r, fr) → p → FnOk Tryz.prog 105 rs r fr := by
  intro rs p r fr h hp
  unfold sp_pagree at h
  split at h <;> cases h
  obtain ⟨hc0, hc1, hp⟩ := hp
  rename_i z245 z246
  obtain ⟨z245, rfl⟩ : ∃ m, z245 = pys m := ⟨_, hc0⟩
  obtain ⟨z246, rfl⟩ : ∃ m, z246 = chs m := ⟨_, hc1⟩
  simp only [dchs_chs, dpys_pys]
  simp only [dchs_chs, dpys_pys, pagree_p] at hp
  exact pagree_ok z245 z246 hp
end Dm
namespace Dm
open Go Go.Proofs Go.IntWalk
structure Iv where
  hash : Nat
  n : Nat
  till : Nat
  state : Int
deriving DecidableEq, Inhabited
@[go_sem] def Iv.enc (e : Iv) : List C := [.int .u64 (e.hash : Int), .int .u64 (e.n : Int), .int .u64 (e.till : Int), .int .i64 e.state]
def Iv.dec : List C → Iv
  | [.int .u64 z202, .int .u64 z203, .int .u64 z204, .int .i64 z205] => (⟨z202.toNat, z203.toNat, z204.toNat, z205⟩ : Iv)
  | _ => default
def ivs (l : List Iv) : List (List C) := l.map Iv.enc
def divs (l : List (List C)) : List Iv := l.map Iv.dec
@[simp, go_sem] theorem ivs_length (l : List Iv) : (ivs l).length = l.length := by simp [ivs]
@[go_sem] theorem ivs_get (l : List Iv) (i : Nat) : (ivs l).getD i [.int .u64 0, .int .u64 0, .int .u64 0, .int .i64 0] = (l.getD i default).enc := by
  simp only [ivs, List.getD_eq_getElem?_getD, List.getElem?_map]
  cases l[i]? <;> rfl
@[go_sem] theorem ivs_wide (l : List Iv) : Wide 4 (ivs l) = True := by
  simp [Wide, ivs, Iv.enc]
theorem Iv.dec_enc (e : Iv) : Iv.dec e.enc = e := by
  simp [Iv.enc, Iv.dec]
@[go_sem] theorem divs_ivs (l : List Iv) : divs (ivs l) = l := by
  simp only [divs, ivs, List.map_map]
  exact List.map_id'' (fun e => Iv.dec_enc e) l
@[go_sem] theorem ivs_app (a b : List Iv) : ivs a ++ ivs b = ivs (a ++ b) := by simp [ivs]
@[go_sem] theorem ivs_drop (l : List Iv) (k : Nat) : (ivs l).drop k = ivs (l.drop k) := by simp [ivs]
@[go_sem] theorem ivs_take (l : List Iv) (k : Nat) : (ivs l).take k = ivs (l.take k) := by simp [ivs]
@[go_sem] theorem ivs_one (z206 : Int) (z207 : Int) (z208 : Int) (z209 : Int) (hz206 : 0 ≤ z206) (hz207 : 0 ≤ z207) (hz208 : 0 ≤ z208) : [[C.int .u64 z206, C.int .u64 z207, C.int .u64 z208, C.int .i64 z209]] = ivs [⟨z206.toNat, z207.toNat, z208.toNat, z209⟩] := by simp [ivs, Iv.enc, Int.toNat_of_nonneg hz206, Int.toNat_of_nonneg hz207, Int.toNat_of_nonneg hz208]
@[go_sem] theorem ivs_set (l : List Iv) (i : Nat) (z206 : Int) (z207 : Int) (z208 : Int) (z209 : Int) (hz206 : 0 ≤ z206) (hz207 : 0 ≤ z207) (hz208 : 0 ≤ z208) : (ivs l).set i [C.int .u64 z206, C.int .u64 z207, C.int .u64 z208, C.int .i64 z209] = ivs (l.set i ⟨z206.toNat, z207.toNat, z208.toNat, z209⟩) := by simp [ivs, List.map_set, Iv.enc, Int.toNat_of_nonneg hz206, Int.toNat_of_nonneg hz207, Int.toNat_of_nonneg hz208]
@[go_sem] theorem ivs_cons (l : List Iv) (z206 : Int) (z207 : Int) (z208 : Int) (z209 : Int) (hz206 : 0 ≤ z206) (hz207 : 0 ≤ z207) (hz208 : 0 ≤ z208) : [C.int .u64 z206, C.int .u64 z207, C.int .u64 z208, C.int .i64 z209] :: ivs l = ivs (⟨z206.toNat, z207.toNat, z208.toNat, z209⟩ :: l) := by simp [ivs, Iv.enc, Int.toNat_of_nonneg hz206, Int.toNat_of_nonneg hz207, Int.toNat_of_nonneg hz208]
@[go_sem] theorem ivs_flat (l : List Iv) : flatE (ivs l) = True := eq_true fun x hx c hc => by
  obtain ⟨e, _, rfl⟩ := List.mem_map.1 hx
  simp only [Iv.enc, List.mem_cons, List.not_mem_nil, or_false] at hc
  rcases hc with rfl | rfl | rfl | rfl <;> rfl
@[go_sem] theorem Iv.eta {e : Iv} : (⟨e.hash, e.n, e.till, e.state⟩ : Iv) = e := rfl
@[go_sem] theorem Iv.eqD {a b : Iv} : eqD Tryz.prog 64 [D.c (.int .u64 (a.hash : Int)), D.c (.int .u64 (a.n : Int)), D.c (.int .u64 (a.till : Int)), D.c (.int .i64 a.state)] [D.c (.int .u64 (b.hash : Int)), D.c (.int .u64 (b.n : Int)), D.c (.int .u64 (b.till : Int)), D.c (.int .i64 b.state)] = some (decide (a = b)) := by
  cases a; cases b
  simp only [Dm.eqD, eqOf_64, eqCells, eqC, List.getElem?_cons_zero, List.getElem?_cons_succ, if_true, Option.some.injEq, Iv.mk.injEq]
  rw [Bool.eq_iff_iff]
  simp [Int.ofNat_inj]
def okIv1 (x : Iv) : Prop := (x.n ≠ 0 ∧ x.n ≤ MM) ∧ 1 ≤ x.state ∧ x.state ≤ 3
instance (x : Iv) : Decidable (okIv1 x) := by unfold okIv1; infer_instance
def okIv (l : List Iv) : Prop := l.length ≤ 256 ∧ (∀ x ∈ l, okIv1 x) ∧ Srt.Chn Iv.hash ltN l
instance (l : List Iv) : Decidable (Srt.Chn Iv.hash ltN l) := by unfold Srt.Chn; infer_instance
instance (l : List Iv) : Decidable (okIv l) := by unfold okIv; infer_instance
def chkI (l : List Iv) : Int := if okIv l then 0 else 1
@[go_sem] def iorder_r (x : Iv) (id : Nat) : D := .int .i64 (cmpS x.hash id)
@[go_sem] abbrev n_iorder : FuncId := 195
@[go_sem] def iorder_T : Tab := [(129, sp_cmp)]
theorem iorder_T_ok : TabOk Tryz.prog iorder_T := (TabOk.cons sp_cmp_ok TabOk.nil)
set_option maxRecDepth 8000 in
set_option maxHeartbeats 1000000 in
theorem iorder_ok (x : Iv) (id : Nat)  : PureFn Tryz.prog 195 [.agg [.c (.int .u64 (x.hash : Int)), .c (.int .u64 (x.n : Int)), .c (.int .u64 (x.till : Int)), .c (.int .i64 x.state)], .c (.int .u64 (id : Int))] (iorder_r x id) := by
  refine .of (ac195 iorder_T_ok (Nat.le_of_ble_eq_true rfl) ?_)
  simp -implicitDefEqProofs only [cdA, go_sem, Go.Proofs.Tryz.f195, reduceIte, reduceCtorEq, Nat.reduceEqDiff, Nat.reduceAdd, Nat.reduceLeDiff, Nat.reduceSub, Nat.reduceMul, Nat.reduceLT, Nat.reduceShiftRight, Nat.reduceMod, Int.reduceLE, Int.reduceLT, Int.reduceToNat, cdB, List.cons.injEq, true_and, and_true]
def sp_iorder : List D → Option (Prop × D × Fr)
  | [.agg [.c (.int .u64 z211), .c (.int .u64 z212), .c (.int .u64 z213), .c (.int .i64 z214)], .c (.int .u64 z215)] => some (z211 = (z211.toNat : Int) ∧ z212 = (z212.toNat : Int) ∧ z213 = (z213.toNat : Int) ∧ z215 = (z215.toNat : Int), iorder_r (⟨z211.toNat, z212.toNat, z213.toNat, z214⟩ : Iv) z215.toNat, [])
  | _ => none
attribute [go_sem] sp_iorder
theorem sp_iorder_ok : ∀ rs p r fr, sp_iorder rs = some (p, r, fr) → p → FnOk Tryz.prog 195 rs r fr := by
  intro rs p r fr h hp
  unfold sp_iorder at h
  split at h <;> cases h
  obtain ⟨hc0, hc1, hc2, hc3⟩ := hp
  rename_i z211 z212 z213 z214 z215
  obtain ⟨z211, rfl⟩ : ∃ m : Nat, z211 = m := ⟨_, hc0⟩
  obtain ⟨z212, rfl⟩ : ∃ m : Nat, z212 = m := ⟨_, hc1⟩
  obtain ⟨z213, rfl⟩ : ∃ m : Nat, z213 = m := ⟨_, hc2⟩
  obtain ⟨z215, rfl⟩ : ∃ m : Nat, z215 = m := ⟨_, hc3⟩
  simp only [Int.toNat_natCast]
  exact iorder_ok ⟨z211, z212, z213, z214⟩ z215
@[go_sem] def ibill_r (n : Nat) : D := .bool (decide (n ≠ 0 ∧ n ≤ MM))
@[go_sem] abbrev n_ibill : FuncId := 170
@[go_sem] def ibill_T : Tab := [(49, sp_moncheck)]
theorem ibill_T_ok : TabOk Tryz.prog ibill_T := (TabOk.cons sp_moncheck_ok TabOk.nil)
set_option maxRecDepth 8000 in
set_option maxHeartbeats 1000000 in
theorem ibill_ok (n : Nat)  : PureFn Tryz.prog 170 [.c (.int .u64 (n : Int))] (ibill_r n) := by
  refine .of (ac170 ibill_T_ok (Nat.le_of_ble_eq_true rfl) ?_)
  simp -implicitDefEqProofs only [cdA, go_sem, Go.Proofs.Tryz.f170, reduceIte, reduceCtorEq, Nat.reduceEqDiff, Nat.reduceAdd, Nat.reduceLeDiff, Nat.reduceSub, Nat.reduceMul, Nat.reduceLT, Nat.reduceShiftRight, Nat.reduceMod, Int.reduceLE, Int.reduceLT, Int.reduceToNat, cdB, List.cons.injEq, true_and, and_true]
  have hm : monS [n] = 0 ↔ n ≤ MM := mon1_0
  refine ⟨fun h => ?_, fun h => ?_⟩
  · rw [decide_eq_decide, hm]; exact ⟨fun h2 => ⟨by omega, h2⟩, fun h2 => h2.2⟩
  · exact (decide_eq_false fun h2 => h2.1 (by omega)).symm
def sp_ibill : List D → Option (Prop × D × Fr)
  | [.c (.int .u64 z216)] => some (z216 = (z216.toNat : Int), ibill_r z216.toNat, [])
  | _ => none
attribute [go_sem] sp_ibill
theorem sp_ibill_ok : ∀ rs p r fr, sp_ibill rs = some (p, r, fr) → p → FnOk Tryz.prog 170 rs r fr := by
  intro rs p r fr h hp
  unfold sp_ibill at h
  split at h <;> cases h
  have hc0 := hp
  rename_i z216
  obtain ⟨z216, rfl⟩ : ∃ m : Nat, z216 = m := ⟨_, hc0⟩
  simp only [Int.toNat_natCast]
  exact ibill_ok z216
@[go_sem] def icheck_r (l : List Iv) : D := .int .i64 (chkI l)
@[go_sem] abbrev n_icheck : FuncId := 103
@[go_sem] def icheck_T : Tab := [(170, sp_ibill), (195, sp_iorder)]
theorem icheck_T_ok : TabOk Tryz.prog icheck_T := (TabOk.cons sp_ibill_ok (TabOk.cons sp_iorder_ok TabOk.nil))
set_option maxRecDepth 8000 in
set_option maxHeartbeats 1000000 in
theorem icheck_ok (l : List Iv)  : PureFn Tryz.prog 103 [.sl (ivs l)] (icheck_r l) := by
  refine .of (ac103 icheck_T_ok (Nat.le_of_ble_eq_true rfl) ?_)
  simp -implicitDefEqProofs only [cdA, go_sem, Go.Proofs.Tryz.f103, reduceIte, reduceCtorEq, Nat.reduceEqDiff, Nat.reduceAdd, Nat.reduceLeDiff, Nat.reduceSub, Nat.reduceMul, Nat.reduceLT, Nat.reduceShiftRight, Nat.reduceMod, Int.reduceLE, Int.reduceLT, Int.reduceToNat, cdB, List.cons.injEq, true_and, and_true]
  have hbad : ¬ okIv l → 1 = chkI l := fun h => by rw [chkI, if_neg h]
  refine fun _ => ⟨fun h => hbad fun ho => ?_, fun h _ => ?_⟩
  · have := ho.1; omega
  refine SWp.loop (ι := { i : Nat // i ≤ l.length ∧ (∀ j, j < i → okIv1 (l.getD j default) ∧ (0 < j → (l.getD (j - 1) default).hash < (l.getD j default).hash)) }) (fun i => ⟨[(0, .sl (ivs l)), (8, .sl (ivs l)), (9, .int .i64 l.length), (10, .int .i64 i.1)], [], 0⟩) (fun i => l.length - i.1) ⟨0, by simp⟩ ?_ ?_
  · simp [go_sem]
  · rintro ⟨i, hi, hall⟩
    refine awp_sound icheck_T_ok.toS lv103 _ _ _ rfl ?_
    simp -implicitDefEqProofs only [cdA, go_sem, reduceIte, reduceCtorEq, Nat.reduceEqDiff, Nat.reduceAdd, Nat.reduceLeDiff, Nat.reduceSub, Nat.reduceMul, Nat.reduceLT, Nat.reduceShiftRight, Nat.reduceMod, Int.reduceLE, Int.reduceLT, Int.reduceToNat, cdB, List.cons.injEq, true_and, and_true]
    refine ⟨fun h1 => ⟨by omega, ?_⟩, fun h1 => ?_⟩
    · refine ADraw.run us103_6 icheck_T_ok follows_mixed (by kernel_rfl) (by kernel_rfl) ?_
      simp -implicitDefEqProofs only [cdA, go_sem, reduceIte, reduceCtorEq, Nat.reduceEqDiff, Nat.reduceAdd, Nat.reduceLeDiff, Nat.reduceSub, Nat.reduceMul, Nat.reduceLT, Nat.reduceShiftRight, Nat.reduceMod, Int.reduceLE, Int.reduceLT, Int.reduceToNat, cdB, List.cons.injEq, true_and, and_true]
      have hi' : i < l.length := by omega
      have hnext : (0 < i → (l.getD (i - 1) default).hash < (l.getD i default).hash) →
          (¬(l.getD i default).n = 0 ∧ (l.getD i default).n ≤ MM → (¬(l.getD i default).state < 1 → (3 < (l.getD i default).state → 1 = chkI l) ∧ (¬3 < (l.getD i default).state →
              ∃ i_1 : { i : Nat // i ≤ l.length ∧ (∀ j, j < i → okIv1 (l.getD j default) ∧ (0 < j → (l.getD (j - 1) default).hash < (l.getD j default).hash)) }, l.length - i_1.val < l.length - i ∧ IntKind.i64.wrap ((i : Int) + 1) = i_1.val)) ∧ ((l.getD i default).state < 1 → 1 = chkI l)) ∧
          (¬(¬(l.getD i default).n = 0 ∧ (l.getD i default).n ≤ MM) → 1 = chkI l) := fun ho => by
        have hm : okIv l → okIv1 (l.getD i default) := fun h => h.2.1 _ (mem_getD.2 ⟨i, hi', rfl⟩)
        refine ⟨fun h2 => ⟨fun h3 => ⟨fun h4 => hbad fun h => ?_, fun h4 => ⟨⟨i + 1, hi', fun j hj => ?_⟩, by dsimp only; omega, i64_in _ (by omega)⟩⟩, fun h3 => hbad fun h => ?_⟩, fun h2 => hbad fun h => h2 (hm h).1⟩
        · have := (hm h).2.2; omega
        · by_cases hji : j = i
          · subst hji; exact ⟨⟨h2, by omega, by omega⟩, ho⟩
          · exact hall j (by omega)
        · have := (hm h).2.1; omega
      refine ⟨fun h2 => ?_, fun h2 => hnext fun h => absurd h (by omega)⟩
      rw [i64_in _ (by omega), show ((i : Int) - 1).toNat = i - 1 by omega]
      have hc : ∀ a b : Nat, 0 ≤ cmpS a b ↔ ¬ a < b := fun a b => by
        have := cmpS_neg (x := a) (y := b); omega
      rw [hc]
      exact ⟨by omega, fun h3 => hnext fun _ => by omega, fun h3 => hbad fun h => h3 (h.2.2 i hi' (by omega))⟩
    · have hi' : i = l.length := by omega
      subst hi'
      rw [chkI, if_pos]
      exact ⟨by omega, fun x hx => by obtain ⟨j, hj, rfl⟩ := mem_getD.1 hx; exact (hall j hj).1, fun j hj h0 => (hall j hj).2 h0⟩
def sp_icheck : List D → Option (Prop × D × Fr)
  | [.c (.sl z217)] => some (z217 = ivs (divs z217), icheck_r (divs z217), [])
  | _ => none
attribute [go_sem] sp_icheck
theorem sp_icheck_ok : ∀ rs p r fr, sp_icheck rs = some (p, r, fr) → p → FnOk Tryz.prog 103 rs r fr := by
  intro rs p r fr h hp
  unfold sp_icheck at h
  split at h <;> cases h
  have hc0 := hp
  rename_i z217
  obtain ⟨z217, rfl⟩ : ∃ m, z217 = ivs m := ⟨_, hc0⟩
  simp only [divs_ivs]
  exact icheck_ok z217
end Dm
