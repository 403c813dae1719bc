import Derived.Test.YtpaojpjhppgoeaaRootsLv
import Derived.Test.YtpaojpjhppgoeaaD9
import Derived.IntWalk
set_option linter.unusedSimpArgs false
set_option linter.unusedVariables false
namespace Dm
open Go Go.Proofs Go.IntWalk
structure Rk where
  id : Int
  key : Int
  gone : Bool
deriving DecidableEq, Inhabited
@[go_sem] def Rk.enc (e : Rk) : List C := [.int .u64 e.id, .int .u64 e.key, .bool e.gone]
def Rk.dec : List C → Rk
  | [.int _ s, .int _ k, .bool a] => ⟨s, k, a⟩
  | _ => default
def rks (l : List Rk) : List (List C) := l.map Rk.enc
def drks (l : List (List C)) : List Rk := l.map Rk.dec
@[simp, go_sem] theorem rks_length (l : List Rk) : (rks l).length = l.length := by simp [rks]
@[go_sem] theorem rks_get (l : List Rk) (i : Nat) : (rks l).getD i [.int .u64 0, .int .u64 0, .bool false] = (l.getD i default).enc := by
  simp only [rks, List.getD_eq_getElem?_getD, List.getElem?_map]
  cases l[i]? <;> rfl
@[go_sem] theorem rks_wide (l : List Rk) : Wide 3 (rks l) = True := by
  simp [Wide, rks, Rk.enc]
@[go_sem] theorem rk_eq {a b a' b' : Int} {c c' : Bool} : eqD Try.prog 39 [.int .u64 a, .int .u64 b, .bool c] [.int .u64 a', .int .u64 b', .bool c'] = some (decide ((⟨a, b, c⟩ : Rk) = ⟨a', b', c'⟩)) := by
  simp only [eqD, eqOf_39, eqCells, eqC, List.getElem?_cons_zero, List.getElem?_cons_succ, if_true, Option.some.injEq, Rk.mk.injEq]
  rw [Bool.eq_iff_iff]
  simp
@[go_sem] theorem drks_rks (l : List Rk) : drks (rks l) = l := by
  simp only [drks, rks, List.map_map]
  exact List.map_id'' (fun e => rfl) l
@[go_sem] theorem rks_app (a b : List Rk) : rks a ++ rks b = rks (a ++ b) := by simp [rks]
@[go_sem] theorem rks_one (s k : Int) (a : Bool) : [[C.int .u64 s, C.int .u64 k, C.bool a]] = rks [⟨s, k, a⟩] := rfl
@[go_sem] theorem rks_set (l : List Rk) (i : Nat) (s k : Int) (a : Bool) : (rks l).set i [C.int .u64 s, C.int .u64 k, C.bool a] = rks (l.set i ⟨s, k, a⟩) := by simp [rks, List.map_set]; rfl
@[go_sem] theorem rks_drop (l : List Rk) (k : Nat) : (rks l).drop k = rks (l.drop k) := by simp [rks]
@[go_sem] theorem rks_take (l : List Rk) (k : Nat) : (rks l).take k = rks (l.take k) := by simp [rks]
@[go_sem] theorem rk_eta {e : Rk} : (⟨e.id, e.key, e.gone⟩ : Rk) = e := rfl
theorem follows_mixed : Try.prog.follows .mixedOrders = true := by kernel_rfl

theorem isnan_ok (x : Int) : PureFn Try.prog 42 [.int .u64 x] (.bool false) := by
  refine .of (ac42 .nil (Nat.le_of_ble_eq_true rfl) ?_)
  simp -implicitDefEqProofs only [cd_t, cd_f, cd_dec, cd_not, cd_and, cd_or, grd_tt, grd_ff, grd_tf, grd_ft, grd_dt, grd_df, grd_nt, grd_nf, go_sem, Go.Proofs.Try.f42, reduceIte, reduceCtorEq, Nat.reduceEqDiff, Nat.reduceAdd, Nat.reduceLeDiff, Nat.reduceSub, Nat.reduceMul, Nat.reduceLT, Nat.reduceShiftRight, Nat.reduceMod]
  rfl
def cmpS (x y : Int) : Int := if x < y then -1 else if y < x then 1 else 0
def sp42 : List D → Option (Prop × D × Fr)
  | [.c (.int .u64 _)] => some (True, .bool false, [])
  | _ => none
attribute [go_sem] sp42
def tab0 : Tab := [(42, sp42)]
attribute [go_sem] tab0
theorem tab0_ok : TabOk Try.prog tab0 := by
  refine .cons (fun rs p r fr h hp => ?_) .nil
  unfold sp42 at h
  split at h <;> cases h
  exact isnan_ok _
theorem cmp_ok (x y : Int) : PureFn Try.prog 39 [.int .u64 x, .int .u64 y] (.int .i64 (cmpS x y)) := by
  refine .of (ac39 tab0_ok (Nat.le_of_ble_eq_true rfl) ?_)
  simp -implicitDefEqProofs only [cd_t, cd_f, cd_dec, cd_not, cd_and, cd_or, grd_tt, grd_ff, grd_tf, grd_ft, grd_dt, grd_df, grd_nt, grd_nf, go_sem, Go.Proofs.Try.f39, reduceIte, reduceCtorEq, Nat.reduceEqDiff, Nat.reduceAdd, Nat.reduceLeDiff, Nat.reduceSub, Nat.reduceMul, Nat.reduceLT, Nat.reduceShiftRight, Nat.reduceMod]
  refine ⟨fun h => ?_, fun h => ⟨fun h1 => ?_, fun h1 => ?_⟩⟩ <;> simp [cmpS, *]
def sp39 : List D → Option (Prop × D × Fr)
  | [.c (.int .u64 x), .c (.int .u64 y)] => some (True, .int .i64 (cmpS x y), [])
  | _ => none
attribute [go_sem] sp39
def tab1 : Tab := [(39, sp39)]
attribute [go_sem] tab1
theorem tab1_ok : TabOk Try.prog tab1 := by
  refine .cons (fun rs p r fr h hp => ?_) .nil
  unfold sp39 at h
  split at h <;> cases h
  exact cmp_ok _ _
theorem order_ok (r : Rk) (y : Int) : PureFn Try.prog 29 [.agg [.int .u64 r.id, .int .u64 r.key, .bool r.gone], .int .u64 y] (.int .i64 (cmpS r.id y)) := by
  refine .of (ac29 tab1_ok (Nat.le_of_ble_eq_true rfl) ?_)
  simp -implicitDefEqProofs only [cd_t, cd_f, cd_dec, cd_not, cd_and, cd_or, grd_tt, grd_ff, grd_tf, grd_ft, grd_dt, grd_df, grd_nt, grd_nf, go_sem, Go.Proofs.Try.f29, reduceIte, reduceCtorEq, Nat.reduceEqDiff, Nat.reduceAdd, Nat.reduceLeDiff, Nat.reduceSub, Nat.reduceMul, Nat.reduceLT, Nat.reduceShiftRight, Nat.reduceMod]
def hasS (l : List Rk) (key : Int) : Bool := l.any fun r => decide (r.key = key)
theorem has_true {l : List Rk} {key : Int} {i : Nat} (hi : i < l.length) (h : (l.getD i default).key = key) : hasS l key = true := by
  rw [hasS, List.any_eq_true]
  refine ⟨l[i], List.getElem_mem hi, ?_⟩
  rw [List.getD_eq_getElem?_getD, List.getElem?_eq_getElem hi] at h
  simpa using h
theorem has_iff {l : List Rk} {key : Int} : hasS l key = true ↔ ∃ i, i < l.length ∧ (l.getD i default).key = key := by
  refine ⟨fun h => ?_, fun ⟨i, h1, h2⟩ => has_true h1 h2⟩
  rw [hasS, List.any_eq_true] at h
  obtain ⟨x, hx, hk⟩ := h
  obtain ⟨i, hi, rfl⟩ := List.getElem_of_mem hx
  refine ⟨i, hi, ?_⟩
  rw [List.getD_eq_getElem?_getD, List.getElem?_eq_getElem hi]
  simpa using hk
theorem has_false {l : List Rk} {key : Int} (h : ∀ j, j < l.length → ¬ (l.getD j default).key = key) : hasS l key = false := by
  rw [← Bool.not_eq_true, has_iff]
  rintro ⟨i, h1, h2⟩
  exact h i h1 h2
theorem taken_ok (l : List Rk) (key : Int) : PureFn Try.prog 22 [.sl (rks l), .int .u64 key] (.bool (hasS l key)) := by
  refine .of (ac22 .nil (Nat.le_of_ble_eq_true rfl) ?_)
  simp -implicitDefEqProofs only [cd_t, cd_f, cd_dec, cd_not, cd_and, cd_or, grd_tt, grd_ff, grd_tf, grd_ft, grd_dt, grd_df, grd_nt, grd_nf, go_sem, Go.Proofs.Try.f22, reduceIte, reduceCtorEq, Nat.reduceEqDiff, Nat.reduceAdd, Nat.reduceLeDiff, Nat.reduceSub, Nat.reduceMul, Nat.reduceLT, Nat.reduceShiftRight, Nat.reduceMod]
  refine ac35 .nil (Nat.le_of_ble_eq_true rfl) ?_
  simp -implicitDefEqProofs only [cd_t, cd_f, cd_dec, cd_not, cd_and, cd_or, grd_tt, grd_ff, grd_tf, grd_ft, grd_dt, grd_df, grd_nt, grd_nf, go_sem, Go.Proofs.Try.f35, reduceIte, reduceCtorEq, Nat.reduceEqDiff, Nat.reduceAdd, Nat.reduceLeDiff, Nat.reduceSub, Nat.reduceMul, Nat.reduceLT, Nat.reduceShiftRight, Nat.reduceMod]
  refine ac40 .nil (Nat.le_of_ble_eq_true rfl) ?_
  simp -implicitDefEqProofs only [cd_t, cd_f, cd_dec, cd_not, cd_and, cd_or, grd_tt, grd_ff, grd_tf, grd_ft, grd_dt, grd_df, grd_nt, grd_nf, go_sem, Go.Proofs.Try.f40, reduceIte, reduceCtorEq, Nat.reduceEqDiff, Nat.reduceAdd, Nat.reduceLeDiff, Nat.reduceSub, Nat.reduceMul, Nat.reduceLT, Nat.reduceShiftRight, Nat.reduceMod]
  refine fun hl => SWp.loop (ι := { i : Nat // i ≤ l.length ∧ ∀ j, j < i → ¬ (l.getD j default).key = key }) (fun i => ⟨[(0, .sl (rks l)), (1, .fn (.func 36) [] [.ref 0 0]), (7, .int .i64 l.length), (8, .int .i64 i.1)], [(0, .box [.int .u64 key])], 1⟩) (fun i => l.length - i.1) ⟨0, by simp⟩ ?_ ?_
  · simp [go_sem]
  · rintro ⟨i, hi, hall⟩
    refine awp_sound TabOk.nil.toS lv40 _ _ _ rfl ?_
    simp -implicitDefEqProofs only [cd_t, cd_f, cd_dec, cd_not, cd_and, cd_or, grd_tt, grd_ff, grd_tf, grd_ft, grd_dt, grd_df, grd_nt, grd_nf, go_sem, reduceIte, reduceCtorEq, Nat.reduceEqDiff, Nat.reduceAdd, Nat.reduceLeDiff, Nat.reduceSub, Nat.reduceMul, Nat.reduceLT, Nat.reduceShiftRight, Nat.reduceMod]
    refine ⟨fun h => ⟨by omega, ?_⟩, fun h => ?_⟩
    · have hi' : i < l.length := by omega
      refine ac36 .nil (Nat.le_of_ble_eq_true rfl) ?_
      simp -implicitDefEqProofs only [cd_t, cd_f, cd_dec, cd_not, cd_and, cd_or, grd_tt, grd_ff, grd_tf, grd_ft, grd_dt, grd_df, grd_nt, grd_nf, go_sem, Go.Proofs.Try.f36, reduceIte, reduceCtorEq, Nat.reduceEqDiff, Nat.reduceAdd, Nat.reduceLeDiff, Nat.reduceSub, Nat.reduceMul, Nat.reduceLT, Nat.reduceShiftRight, Nat.reduceMod]
      refine ⟨fun h1 => ?_, fun h1 => ⟨⟨i + 1, hi', fun j hj => ?_⟩, by dsimp only; omega, ?_⟩⟩
      · rw [has_true hi' h1]
        simp
      · by_cases hji : j = i
        · subst hji; exact h1
        · exact hall j (by omega)
      · rw [i64_in _ (by omega)]
        simp [go_sem]
    · rw [has_false fun j hj => hall j (by omega)]
      rfl
def sp29 : List D → Option (Prop × D × Fr)
  | [.agg [.c (.int .u64 i), .c (.int .u64 _), .c (.bool _)], .c (.int .u64 y)] => some (True, .int .i64 (cmpS i y), [])
  | _ => none
def sp22 : List D → Option (Prop × D × Fr)
  | [.c (.sl els), .c (.int .u64 key)] => some (els = rks (drks els), .bool (hasS (drks els) key), [])
  | _ => none
attribute [go_sem] sp29 sp22
def tab2 : Tab := [(29, sp29), (22, sp22)]
attribute [go_sem] tab2
theorem tab2_ok : TabOk Try.prog tab2 := by
  refine .cons (fun rs p r fr h hp => ?_) (.cons (fun rs p r fr h hp => ?_) .nil)
  · unfold sp29 at h
    split at h <;> cases h
    exact order_ok ⟨_, _, _⟩ _
  · unfold sp22 at h
    split at h <;> cases h
    rw [hp, drks_rks]
    exact taken_ok _ _
/-- Roots may be: in order, no key twice. -/
def OkR (l : List Rk) : Prop := ∀ j, j < l.length → (0 < j → (l.getD (j - 1) default).id < (l.getD j default).id) ∧ hasS (l.take j) (l.getD j default).key = false
instance (l : List Rk) : Decidable (OkR l) := by unfold OkR; infer_instance
def checkR (l : List Rk) : Int := if l.length ≤ 64 ∧ OkR l then 0 else 1
theorem cmpS_neg {x y : Int} : ¬ 0 ≤ cmpS x y ↔ x < y := by
  unfold cmpS
  split
  · simp; assumption
  · split <;> simp <;> omega
theorem cmpS_0 {x y : Int} : cmpS x y = 0 ↔ x = y := by
  unfold cmpS
  split
  · simp; omega
  · split <;> simp <;> omega
set_option maxRecDepth 4000 in
theorem check_ok (l : List Rk) : PureFn Try.prog 13 [.sl (rks l)] (.int .i64 (checkR l)) := by
  refine .of (ac13 tab2_ok (Nat.le_of_ble_eq_true rfl) ?_)
  simp -implicitDefEqProofs only [cd_t, cd_f, cd_dec, cd_not, cd_and, cd_or, grd_tt, grd_ff, grd_tf, grd_ft, grd_dt, grd_df, grd_nt, grd_nf, go_sem, Go.Proofs.Try.f13, reduceIte, reduceCtorEq, Nat.reduceEqDiff, Nat.reduceAdd, Nat.reduceLeDiff, Nat.reduceSub, Nat.reduceMul, Nat.reduceLT, Nat.reduceShiftRight, Nat.reduceMod]
  refine fun h1 => ⟨fun h2 => ?_, fun h2 _ => ?_⟩
  · rw [checkR, if_neg]
    rintro ⟨h, _⟩
    omega
  · refine SWp.loop (ι := { i : Nat // i ≤ l.length ∧ ∀ j, j < i → (0 < j → (l.getD (j - 1) default).id < (l.getD j default).id) ∧ hasS (l.take j) (l.getD j default).key = false }) (fun i => ⟨[(0, .sl (rks l)), (8, .sl (rks l)), (9, .int .i64 l.length), (10, .int .i64 i.1)], [], 0⟩) (fun i => l.length - i.1) ⟨0, by simp⟩ ?_ ?_
    · simp [go_sem]
    · rintro ⟨i, hi, hall⟩
      refine awp_sound tab2_ok.toS lv13 _ _ _ rfl ?_
      simp -implicitDefEqProofs only [cd_t, cd_f, cd_dec, cd_not, cd_and, cd_or, grd_tt, grd_ff, grd_tf, grd_ft, grd_dt, grd_df, grd_nt, grd_nf, go_sem, reduceIte, reduceCtorEq, Nat.reduceEqDiff, Nat.reduceAdd, Nat.reduceLeDiff, Nat.reduceSub, Nat.reduceMul, Nat.reduceLT, Nat.reduceShiftRight, Nat.reduceMod]
      refine ⟨fun h => ⟨by omega, ?_⟩, fun h => ?_⟩
      · have hi' : i < l.length := by omega
        refine ADraw.run us13_6 tab2_ok follows_mixed (by kernel_rfl) (by kernel_rfl) ?_
        simp -implicitDefEqProofs only [cd_t, cd_f, cd_dec, cd_not, cd_and, cd_or, grd_tt, grd_ff, grd_tf, grd_ft, grd_dt, grd_df, grd_nt, grd_nf, go_sem, reduceIte, reduceCtorEq, Nat.reduceEqDiff, Nat.reduceAdd, Nat.reduceLeDiff, Nat.reduceSub, Nat.reduceMul, Nat.reduceLT, Nat.reduceShiftRight, Nat.reduceMod]
        have hbad : ¬ ((0 < i → (l.getD (i - 1) default).id < (l.getD i default).id) ∧ hasS (l.take i) (l.getD i default).key = false) → 1 = checkR l := fun hb => by
          rw [checkR, if_neg]
          rintro ⟨_, h⟩
          exact hb (h i hi')
        have hnext : (0 < i → (l.getD (i - 1) default).id < (l.getD i default).id) → hasS (l.take i) (l.getD i default).key = false → ∃ i_1 : { i : Nat // i ≤ l.length ∧ ∀ j, j < i → (0 < j → (l.getD (j - 1) default).id < (l.getD j default).id) ∧ hasS (l.take j) (l.getD j default).key = false }, l.length - i_1.val < l.length - i ∧ IntKind.i64.wrap (↑i + 1) = ↑i_1.val := fun ha hb =>
          ⟨⟨i + 1, hi', fun j hj => by
            by_cases hji : j = i
            · subst hji; exact ⟨ha, hb⟩
            · exact hall j (by omega)⟩, by dsimp only; omega, i64_in _ (by omega)⟩
        refine ⟨fun h3 => ?_, fun h3 => ⟨by omega, fun h4 => hbad fun h => ?_, fun h4 => hnext (fun h => absurd h (by omega)) h4⟩⟩
        · rw [i64_in _ (by omega), show ((i : Int) - 1).toNat = i - 1 by omega]
          refine ⟨by omega, fun h4 => ⟨by omega, fun h5 => hbad fun h => ?_, fun h5 => hnext (fun _ => cmpS_neg.1 h4) h5⟩, fun h4 => hbad fun h => ?_⟩
          · rw [h5] at h; exact absurd h.2 (by decide)
          · exact absurd h4 (cmpS_neg.2 (h.1 (by omega)))
        · rw [h4] at h; exact absurd h.2 (by decide)
      · rw [checkR, if_pos ⟨by omega, fun j hj => hall j (by omega)⟩]
/-- Where a root is, or is to be. -/
def posS (l : List Rk) (id : Int) : Nat := l.findIdx fun r => decide (id ≤ r.id)
def thereS (l : List Rk) (id : Int) : Bool := decide (posS l id < l.length ∧ (l.getD (posS l id) default).id = id)
theorem getD_lt {l : List Rk} {i : Nat} (h : i < l.length) : l.getD i default = l[i] := by
  rw [List.getD_eq_getElem?_getD, List.getElem?_eq_getElem h]; rfl
theorem pos_eq {l : List Rk} {id : Int} {i : Nat} (hi : i ≤ l.length) (h1 : ∀ k, k < i → (l.getD k default).id < id) (h2 : i < l.length → ¬ (l.getD i default).id < id) : posS l id = i := by
  unfold posS
  rcases Nat.lt_or_ge i l.length with h | h
  · rw [List.findIdx_eq h]
    refine ⟨?_, fun j hj => ?_⟩
    · have := h2 h
      rw [getD_lt h] at this
      simp; omega
    · have := h1 j hj
      rw [getD_lt (by omega)] at this
      simp; omega
  · have : i = l.length := by omega
    rw [this, List.findIdx_eq_length]
    intro x hx
    obtain ⟨j, hj, rfl⟩ := List.getElem_of_mem hx
    have := h1 j (by omega)
    rw [getD_lt hj] at this
    simp; omega
theorem OkR.mono {l : List Rk} (h : OkR l) : ∀ {a b : Nat}, a < b → b < l.length → (l.getD a default).id < (l.getD b default).id
  | a, 0, h1, _ => by omega
  | a, b + 1, h1, h2 => by
    have h3 := (h (b + 1) h2).1 (by omega)
    simp only [Nat.add_sub_cancel] at h3
    by_cases hab : a = b
    · subst hab; exact h3
    · have := OkR.mono h (a := a) (b := b) (by omega) (by omega)
      omega
theorem checkR_0 {l : List Rk} (h : checkR l = 0) : l.length ≤ 64 ∧ OkR l := by
  unfold checkR at h
  split at h
  · assumption
  · cases h
def sp13 : List D → Option (Prop × D × Fr)
  | [.c (.sl els)] => some (els = rks (drks els), .int .i64 (checkR (drks els)), [])
  | _ => none
attribute [go_sem] sp13
def tab3 : Tab := (13, sp13) :: tab2
attribute [go_sem] tab3
theorem tab3_ok : TabOk Try.prog tab3 := by
  refine .cons (fun rs p r fr h hp => ?_) tab2_ok
  unfold sp13 at h
  split at h <;> cases h
  rw [hp, drks_rks]
  exact check_ok _
def findS (l : List Rk) (id : Int) : Int × Bool × Int := if checkR l = 0 then (posS l id, thereS l id, 0) else (0, false, checkR l)
set_option maxRecDepth 4000 in
theorem find_ok (l : List Rk) (id : Int) : PureFn Try.prog 21 [.sl (rks l), .int .u64 id] (.tup [.int .i64 (findS l id).1, .bool (findS l id).2.1, .int .i64 (findS l id).2.2]) := by
  refine .of (ac21 tab3_ok (Nat.le_of_ble_eq_true rfl) ?_)
  simp -implicitDefEqProofs only [cd_t, cd_f, cd_dec, cd_not, cd_and, cd_or, grd_tt, grd_ff, grd_tf, grd_ft, grd_dt, grd_df, grd_nt, grd_nf, go_sem, Go.Proofs.Try.f21, reduceIte, reduceCtorEq, Nat.reduceEqDiff, Nat.reduceAdd, Nat.reduceLeDiff, Nat.reduceSub, Nat.reduceMul, Nat.reduceLT, Nat.reduceShiftRight, Nat.reduceMod]
  refine ⟨fun h1 => ?_, fun h1 => by simp [findS, h1]⟩
  obtain ⟨h2, h3⟩ := checkR_0 h1
  refine ac34 tab3_ok (Nat.le_of_ble_eq_true rfl) ?_
  simp -implicitDefEqProofs only [cd_t, cd_f, cd_dec, cd_not, cd_and, cd_or, grd_tt, grd_ff, grd_tf, grd_ft, grd_dt, grd_df, grd_nt, grd_nf, go_sem, Go.Proofs.Try.f34, reduceIte, reduceCtorEq, Nat.reduceEqDiff, Nat.reduceAdd, Nat.reduceLeDiff, Nat.reduceSub, Nat.reduceMul, Nat.reduceLT, Nat.reduceShiftRight, Nat.reduceMod]
  refine fun _ => SWp.loop (ι := { x : Nat × Nat // x.1 ≤ x.2 ∧ x.2 ≤ l.length ∧ (∀ k, k < x.1 → (l.getD k default).id < id) ∧ ∀ k, x.2 ≤ k → k < l.length → ¬ (l.getD k default).id < id }) (fun x => ⟨[(0, .sl (rks l)), (1, .int .u64 id), (2, .fn (.func 29) [] []), (8, .int .i64 l.length), (9, .int .i64 x.1.1), (10, .int .i64 x.1.2)], [], 0⟩) (fun x => x.1.2 - x.1.1) ⟨(0, l.length), by simp, by simp, fun k hk => absurd hk (by simp), fun k h1 h2 => absurd h1 (by simpa using h2)⟩ ?_ ?_
  · simp [go_sem]
  · rintro ⟨⟨i, j⟩, hij, hj, hlo, hup⟩
    dsimp only at hij hj hlo hup
    refine awp_sound tab3_ok.toS lv34 _ _ _ rfl ?_
    simp -implicitDefEqProofs only [cd_t, cd_f, cd_dec, cd_not, cd_and, cd_or, grd_tt, grd_ff, grd_tf, grd_ft, grd_dt, grd_df, grd_nt, grd_nf, go_sem, reduceIte, reduceCtorEq, Nat.reduceEqDiff, Nat.reduceAdd, Nat.reduceLeDiff, Nat.reduceSub, Nat.reduceMul, Nat.reduceLT, Nat.reduceShiftRight, Nat.reduceMod]
    have hH : IntKind.i64.wrap ((IntKind.u64.wrap (IntKind.i64.wrap (i + j))).fdiv (2 ^ min (Int.toNat 1) 64)) = (((i + j) / 2 : Nat) : Int) := by
      rw [i64_in (i + j) (by omega), u64_in (i + j) (by omega), show (2 ^ min (Int.toNat 1) 64 : Int) = 2 from rfl, Int.fdiv_eq_ediv_of_nonneg _ (by decide), i64_in _ (by omega)]
      omega
    rw [hH, Int.toNat_natCast]
    have hc : ∀ x y : Int, cmpS x y < 0 ↔ x < y := fun x y => by have := @cmpS_neg x y; omega
    simp only [hc]
    refine ⟨fun h4 => ?_, fun h4 => ?_⟩
    · have hm : (i + j) / 2 < l.length := by omega
      refine ⟨by decide, by omega, fun h5 => ⟨⟨((i + j) / 2 + 1, j), by dsimp only; omega, hj, fun k hk => ?_, hup⟩, by dsimp only; omega, i64_in _ (by omega), rfl⟩, fun h5 => ⟨⟨(i, (i + j) / 2), by dsimp only; omega, by dsimp only; omega, hlo, fun k hk1 hk2 => ?_⟩, by dsimp only; omega, rfl, rfl⟩⟩
      · dsimp only at hk
        by_cases hkm : k = (i + j) / 2
        · rw [hkm]; exact h5
        · have := h3.mono (show k < (i + j) / 2 by omega) hm
          omega
      · dsimp only at hk1
        by_cases hkm : k = (i + j) / 2
        · rw [hkm]; exact h5
        · have := h3.mono (show (i + j) / 2 < k by omega) hk2
          omega
    · have hij' : i = j := by omega
      have hp : posS l id = i := pos_eq (by omega) hlo (fun h => hup i (by omega) h)
      have hf : findS l id = ((posS l id : Int), thereS l id, 0) := by rw [findS, if_pos h1]
      rw [hf, thereS, hp]
      refine ⟨fun h => ⟨by omega, rfl, ?_, rfl⟩, fun h => ⟨rfl, ?_, rfl⟩⟩
      · have h5 : i < l.length := by omega
        simp only [cmpS_0, h5, true_and]
      · have h5 : ¬ i < l.length := by omega
        simp [h5]
def sp21 : List D → Option (Prop × D × Fr)
  | [.c (.sl els), .c (.int .u64 id)] => some (els = rks (drks els), .tup [.int .i64 (findS (drks els) id).1, .bool (findS (drks els) id).2.1, .int .i64 (findS (drks els) id).2.2], [])
  | _ => none
attribute [go_sem] sp21
def tab4 : Tab := (21, sp21) :: tab3
attribute [go_sem] tab4
theorem tab4_ok : TabOk Try.prog tab4 := by
  refine .cons (fun rs p r fr h hp => ?_) tab3_ok
  unfold sp21 at h
  split at h <;> cases h
  rw [hp, drks_rks]
  exact find_ok _ _
/-- Where a root is that counts. -/
def goodS (l : List Rk) (id : Int) : Int × Int :=
  if checkR l = 0 then
    if thereS l id = true then
      if (l.getD (posS l id) default).gone = true then (0, 13) else (posS l id, 0)
    else (0, 5)
  else (0, checkR l)
theorem goodS_0 {l : List Rk} {id : Int} (h : (goodS l id).2 = 0) : (goodS l id).1 = posS l id ∧ posS l id < l.length ∧ (l.getD (posS l id) default).id = id ∧ (l.getD (posS l id) default).gone = false := by
  unfold goodS at h ⊢
  split at h
  · rename_i h1
    split at h
    · rename_i h2
      split at h
      · cases h
      · rename_i h3
        rw [if_pos h1, if_pos h2, if_neg h3]
        simp only [thereS, decide_eq_true_eq] at h2
        exact ⟨rfl, h2.1, h2.2, by simpa using h3⟩
    · cases h
  · rename_i h1
    exact absurd h h1
theorem good_ok (l : List Rk) (id : Int) : PureFn Try.prog 28 [.sl (rks l), .int .u64 id] (.tup [.int .i64 (goodS l id).1, .int .i64 (goodS l id).2]) := by
  refine .of (ac28 tab4_ok (Nat.le_of_ble_eq_true rfl) ?_)
  simp -implicitDefEqProofs only [cd_t, cd_f, cd_dec, cd_not, cd_and, cd_or, grd_tt, grd_ff, grd_tf, grd_ft, grd_dt, grd_df, grd_nt, grd_nf, go_sem, Go.Proofs.Try.f28, reduceIte, reduceCtorEq, Nat.reduceEqDiff, Nat.reduceAdd, Nat.reduceLeDiff, Nat.reduceSub, Nat.reduceMul, Nat.reduceLT, Nat.reduceShiftRight, Nat.reduceMod]
  by_cases h1 : checkR l = 0
  · have hf : findS l id = ((posS l id : Int), thereS l id, 0) := by rw [findS, if_pos h1]
    rw [hf]
    refine ⟨fun _ => ⟨fun h2 => ?_, fun h2 => ?_⟩, fun h => absurd rfl h⟩
    · have h3 : posS l id < l.length := by
        simp only [thereS, decide_eq_true_eq] at h2
        exact h2.1
      simp only [Int.toNat_natCast]
      refine ⟨by omega, fun h4 => ?_, fun h4 => ?_⟩
      · rw [goodS, if_pos h1, if_pos h2, if_pos h4]; exact ⟨rfl, rfl⟩
      · rw [goodS, if_pos h1, if_pos h2, if_neg (by rw [h4]; decide)]; exact ⟨rfl, rfl⟩
    · rw [goodS, if_pos h1, if_neg (by dsimp only at h2; rw [h2]; decide)]; exact ⟨rfl, rfl⟩
  · have hf : findS l id = (0, false, checkR l) := by rw [findS, if_neg h1]
    rw [hf]
    refine ⟨fun h => absurd h h1, fun _ => ?_⟩
    rw [goodS, if_neg h1]; exact ⟨rfl, rfl⟩
def sp28 : List D → Option (Prop × D × Fr)
  | [.c (.sl els), .c (.int .u64 id)] => some (els = rks (drks els), .tup [.int .i64 (goodS (drks els) id).1, .int .i64 (goodS (drks els) id).2], [])
  | _ => none
attribute [go_sem] sp28
def tab5 : Tab := (28, sp28) :: tab4
attribute [go_sem] tab5
theorem tab5_ok : TabOk Try.prog tab5 := by
  refine .cons (fun rs p r fr h hp => ?_) tab4_ok
  unfold sp28 at h
  split at h <;> cases h
  rw [hp, drks_rks]
  exact good_ok _ _
def keyS (l : List Rk) (id : Int) : Int × Int := if (goodS l id).2 = 0 then ((l.getD (posS l id) default).key, 0) else (0, (goodS l id).2)
theorem key_ok (l : List Rk) (id : Int) : PureFn Try.prog 12 [.sl (rks l), .int .u64 id] (.tup [.int .u64 (keyS l id).1, .int .i64 (keyS l id).2]) := by
  refine .of (ac12 tab5_ok (Nat.le_of_ble_eq_true rfl) ?_)
  simp -implicitDefEqProofs only [cd_t, cd_f, cd_dec, cd_not, cd_and, cd_or, grd_tt, grd_ff, grd_tf, grd_ft, grd_dt, grd_df, grd_nt, grd_nf, go_sem, Go.Proofs.Try.f12, reduceIte, reduceCtorEq, Nat.reduceEqDiff, Nat.reduceAdd, Nat.reduceLeDiff, Nat.reduceSub, Nat.reduceMul, Nat.reduceLT, Nat.reduceShiftRight, Nat.reduceMod]
  refine ⟨fun h1 => ?_, fun h1 => by rw [keyS, if_neg h1]; exact ⟨rfl, rfl⟩⟩
  obtain ⟨h2, h3, h4, h5⟩ := goodS_0 h1
  rw [keyS, if_pos h1, h2, Int.toNat_natCast]
  exact ⟨by omega, rfl, rfl⟩
set_option maxRecDepth 4000 in
theorem clone_ok (a : List Rk) (ha : a.length ≤ 1000000) : FreshFn Try.prog 24 [.sl (rks a)] (.vec 0 a.length) [(3, 39, true, rks a)] := by
  refine .of (ac24 .nil (Nat.le_of_ble_eq_true rfl) ?_)
  simp -implicitDefEqProofs only [cd_t, cd_f, cd_dec, cd_not, cd_and, cd_or, grd_tt, grd_ff, grd_tf, grd_ft, grd_dt, grd_df, grd_nt, grd_nf, go_sem, Go.Proofs.Try.f24, reduceIte, reduceCtorEq, Nat.reduceEqDiff, Nat.reduceAdd, Nat.reduceLeDiff, Nat.reduceSub, Nat.reduceMul, Nat.reduceLT, Nat.reduceShiftRight, Nat.reduceMod]
  refine fun b hb => ⟨fun h => ?_, fun h => ?_⟩
  · exact ⟨[none], by simp [go_sem, hb h], by cases a <;> simp_all [go_sem, rks]⟩
  · exact ⟨by omega, [some 0], by simp [go_sem]⟩
def sp24 : List D → Option (Prop × D × Fr)
  | [.c (.sl els)] => some (els = rks (drks els) ∧ els.length ≤ 1000000, .vec 0 els.length, [(3, 39, true, els)])
  | _ => none
attribute [go_sem] sp24
def tab6 : Tab := (24, sp24) :: tab5
attribute [go_sem] tab6
theorem tab6_ok : TabOk Try.prog tab6 := by
  refine .cons (fun rs p r fr h hp => ?_) tab5_ok
  unfold sp24 at h
  split at h <;> cases h
  obtain ⟨h1, h2⟩ := hp
  rw [h1]
  have := clone_ok (drks _) (by rw [h1] at h2; simpa using h2)
  simpa using ⟨rfl, this⟩
def turnS (l : List Rk) (id key : Int) : List Rk × Int :=
  if (goodS l id).2 = 0 then
    if hasS l key = true then ([], 6) else (l.set (posS l id) ⟨(l.getD (posS l id) default).id, key, (l.getD (posS l id) default).gone⟩, 0)
  else ([], (goodS l id).2)
def revS (l : List Rk) (id : Int) : List Rk × Int :=
  if (goodS l id).2 = 0 then (l.set (posS l id) ⟨(l.getD (posS l id) default).id, (l.getD (posS l id) default).key, true⟩, 0)
  else ([], (goodS l id).2)
theorem good_len {l : List Rk} {id : Int} (h : (goodS l id).2 = 0) : l.length ≤ 64 ∧ OkR l := by
  unfold goodS at h
  split at h
  · rename_i h1; exact checkR_0 h1
  · rename_i h1; exact absurd h h1
set_option maxRecDepth 4000 in
theorem turn_ok (l : List Rk) (id key : Int) : PureFn Try.prog 11 [.sl (rks l), .int .u64 id, .int .u64 key] (.tup [.sl (rks (turnS l id key).1), .int .i64 (turnS l id key).2]) := by
  refine .of (ac11 tab6_ok (Nat.le_of_ble_eq_true rfl) ?_)
  simp -implicitDefEqProofs only [cd_t, cd_f, cd_dec, cd_not, cd_and, cd_or, grd_tt, grd_ff, grd_tf, grd_ft, grd_dt, grd_df, grd_nt, grd_nf, go_sem, Go.Proofs.Try.f11, reduceIte, reduceCtorEq, Nat.reduceEqDiff, Nat.reduceAdd, Nat.reduceLeDiff, Nat.reduceSub, Nat.reduceMul, Nat.reduceLT, Nat.reduceShiftRight, Nat.reduceMod]
  refine ac25 tab6_ok (Nat.le_of_ble_eq_true rfl) ?_
  simp -implicitDefEqProofs only [cd_t, cd_f, cd_dec, cd_not, cd_and, cd_or, grd_tt, grd_ff, grd_tf, grd_ft, grd_dt, grd_df, grd_nt, grd_nf, go_sem, Go.Proofs.Try.f25, reduceIte, reduceCtorEq, Nat.reduceEqDiff, Nat.reduceAdd, Nat.reduceLeDiff, Nat.reduceSub, Nat.reduceMul, Nat.reduceLT, Nat.reduceShiftRight, Nat.reduceMod]
  refine ⟨fun h1 => ?_, fun h1 => ?_⟩
  · obtain ⟨h2, h3, h4, h5⟩ := goodS_0 h1
    obtain ⟨h6, h7⟩ := good_len h1
    rw [h2, Int.toNat_natCast]
    refine ⟨by omega, by omega, ?_⟩
    refine ac27 tab6_ok (Nat.le_of_ble_eq_true rfl) ?_
    simp -implicitDefEqProofs only [cd_t, cd_f, cd_dec, cd_not, cd_and, cd_or, grd_tt, grd_ff, grd_tf, grd_ft, grd_dt, grd_df, grd_nt, grd_nf, go_sem, Go.Proofs.Try.f27, reduceIte, reduceCtorEq, Nat.reduceEqDiff, Nat.reduceAdd, Nat.reduceLeDiff, Nat.reduceSub, Nat.reduceMul, Nat.reduceLT, Nat.reduceShiftRight, Nat.reduceMod]
    refine ⟨fun h8 => ?_, fun h8 => ?_⟩
    · have ht : turnS l id key = ([], 6) := by rw [turnS, if_pos h1, if_pos h8]
      rw [ht]
      exact ⟨fun h => absurd h (by decide), fun _ => ⟨rfl, rfl⟩⟩
    · have ht : turnS l id key = (l.set (posS l id) ⟨(l.getD (posS l id) default).id, key, (l.getD (posS l id) default).gone⟩, 0) := by rw [turnS, if_pos h1, if_neg (by rw [h8]; decide)]
      rw [ht]
      exact ⟨h3, ⟨⟨by simp, _, _, _, rfl⟩, rfl⟩, fun h => h.elim⟩
  · have ht : turnS l id key = ([], (goodS l id).2) := by rw [turnS, if_neg h1]
    rw [ht]
    exact ⟨rfl, rfl⟩
set_option maxRecDepth 4000 in
theorem rev_ok (l : List Rk) (id : Int) : PureFn Try.prog 10 [.sl (rks l), .int .u64 id] (.tup [.sl (rks (revS l id).1), .int .i64 (revS l id).2]) := by
  refine .of (ac10 tab6_ok (Nat.le_of_ble_eq_true rfl) ?_)
  simp -implicitDefEqProofs only [cd_t, cd_f, cd_dec, cd_not, cd_and, cd_or, grd_tt, grd_ff, grd_tf, grd_ft, grd_dt, grd_df, grd_nt, grd_nf, go_sem, Go.Proofs.Try.f10, reduceIte, reduceCtorEq, Nat.reduceEqDiff, Nat.reduceAdd, Nat.reduceLeDiff, Nat.reduceSub, Nat.reduceMul, Nat.reduceLT, Nat.reduceShiftRight, Nat.reduceMod]
  refine ac25 tab6_ok (Nat.le_of_ble_eq_true rfl) ?_
  simp -implicitDefEqProofs only [cd_t, cd_f, cd_dec, cd_not, cd_and, cd_or, grd_tt, grd_ff, grd_tf, grd_ft, grd_dt, grd_df, grd_nt, grd_nf, go_sem, Go.Proofs.Try.f25, reduceIte, reduceCtorEq, Nat.reduceEqDiff, Nat.reduceAdd, Nat.reduceLeDiff, Nat.reduceSub, Nat.reduceMul, Nat.reduceLT, Nat.reduceShiftRight, Nat.reduceMod]
  refine ⟨fun h1 => ?_, fun h1 => ?_⟩
  · obtain ⟨h2, h3, h4, h5⟩ := goodS_0 h1
    obtain ⟨h6, h7⟩ := good_len h1
    rw [h2, Int.toNat_natCast]
    refine ⟨by omega, by omega, ?_⟩
    refine ac26 tab6_ok (Nat.le_of_ble_eq_true rfl) ?_
    simp -implicitDefEqProofs only [cd_t, cd_f, cd_dec, cd_not, cd_and, cd_or, grd_tt, grd_ff, grd_tf, grd_ft, grd_dt, grd_df, grd_nt, grd_nf, go_sem, Go.Proofs.Try.f26, reduceIte, reduceCtorEq, Nat.reduceEqDiff, Nat.reduceAdd, Nat.reduceLeDiff, Nat.reduceSub, Nat.reduceMul, Nat.reduceLT, Nat.reduceShiftRight, Nat.reduceMod]
    have ht : revS l id = (l.set (posS l id) ⟨(l.getD (posS l id) default).id, (l.getD (posS l id) default).key, true⟩, 0) := by rw [revS, if_pos h1]
    rw [ht]
    exact ⟨h3, ⟨⟨by simp, _, _, _, rfl⟩, rfl⟩, fun h => h.elim⟩
  · have ht : revS l id = ([], (goodS l id).2) := by rw [revS, if_neg h1]
    rw [ht]
    exact ⟨rfl, rfl⟩
end Dm
