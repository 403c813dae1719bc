import Derived.Test.YtfngdpmbhfejcaaF2
set_option linter.unusedSimpArgs false
set_option linter.unusedVariables false
namespace Dm
open Go Go.Proofs Go.IntWalk
def Ev.dec : List C → Ev
  | [.int _ s, .int _ k, .int _ a, .int _ n] => ⟨s, k, a, n⟩
  | _ => default
def devs (l : List (List C)) : List Ev := l.map Ev.dec
@[go_sem] theorem devs_evs (l : List Ev) : devs (evs l) = l := by
  simp only [devs, evs, List.map_map]
  exact List.map_id'' (fun e => rfl) l
@[go_sem] theorem evs_app (a b : List Ev) : evs a ++ evs b = evs (a ++ b) := by simp [evs]
@[go_sem] theorem evs_one (s k a n : Int) : [[C.int .u64 s, C.int .i64 k, C.int .u64 a, C.int .u64 n]] = evs [⟨s, k, a, n⟩] := rfl
@[go_sem] theorem evs_set (l : List Ev) (i : Nat) (s k a n : Int) : (evs l).set i [C.int .u64 s, C.int .i64 k, C.int .u64 a, C.int .u64 n] = evs (l.set i ⟨s, k, a, n⟩) := by simp [evs, List.map_set]; rfl
@[go_sem] theorem evs_drop (l : List Ev) (k : Nat) : (evs l).drop k = evs (l.drop k) := by simp [evs]
@[go_sem] theorem evs_take (l : List Ev) (k : Nat) : (evs l).take k = evs (l.take k) := by simp [evs]

/-- What an event's kind may be. -/
def kindS (k : Int) : Bool := decide (0 ≤ k) && decide (k < 16)
theorem kind_ok (k : Int) : PureFn Try.prog 26 [.int .i64 k] (.bool (kindS k)) := by
  refine .of (ac26 .nil (Nat.le_of_ble_eq_true rfl) ?_)
  simp -implicitDefEqProofs only [cd_t, cd_f, cd_dec, cd_not, cd_and, cd_or, grd_tt, grd_ff, grd_tf, grd_ft, grd_dt, grd_df, grd_nt, grd_nf, go_sem, Go.Proofs.Try.f26, reduceIte, reduceCtorEq, Nat.reduceEqDiff, Nat.reduceAdd, Nat.reduceLeDiff, Nat.reduceSub, Nat.reduceMul, Nat.reduceLT]
  constructor <;> intro h <;> simp [kindS, h]

set_option maxRecDepth 4000 in
theorem clone_ok (a : List Ev) (ha : a.length ≤ 1000000) : FreshFn Try.prog 27 [.sl (evs a)] (.vec 0 a.length) [(4, 33, true, evs a)] := by
  refine .of (ac27 .nil (Nat.le_of_ble_eq_true rfl) ?_)
  simp -implicitDefEqProofs only [cd_t, cd_f, cd_dec, cd_not, cd_and, cd_or, grd_tt, grd_ff, grd_tf, grd_ft, grd_dt, grd_df, grd_nt, grd_nf, go_sem, Go.Proofs.Try.f27, reduceIte, reduceCtorEq, Nat.reduceEqDiff, Nat.reduceAdd, Nat.reduceLeDiff, Nat.reduceSub, Nat.reduceMul, Nat.reduceLT]
  refine fun b hb => ⟨fun h => ?_, fun h => ?_⟩
  · exact ⟨[none], by simp [go_sem, hb h], by cases a <;> simp_all [go_sem, evs]⟩
  · exact ⟨by omega, [some 0], by simp [go_sem]⟩
theorem new_ok : PureFn Try.prog 23 [] (.agg [.int .u64 1, .sl []]) := by
  refine .of (ac23 .nil (Nat.le_of_ble_eq_true rfl) ?_)
  simp -implicitDefEqProofs only [cd_t, cd_f, cd_dec, cd_not, cd_and, cd_or, grd_tt, grd_ff, grd_tf, grd_ft, grd_dt, grd_df, grd_nt, grd_nf, go_sem, Go.Proofs.Try.f23, reduceIte, reduceCtorEq, Nat.reduceEqDiff, Nat.reduceAdd, Nat.reduceLeDiff, Nat.reduceSub, Nat.reduceMul, Nat.reduceLT]
end Dm
