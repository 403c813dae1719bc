import Derived.Test.YtfngdpmbhfejcaaFeedLv
import Derived.IntWalk
set_option linter.unusedSimpArgs false
set_option linter.unusedVariables false
namespace Dm
open Go Go.Proofs Go.IntWalk
structure Ev where
  seq : Int
  kind : Int
  a : Int
  n : Int
deriving DecidableEq, Inhabited
@[go_sem] def Ev.enc (e : Ev) : List C := [.int .u64 e.seq, .int .i64 e.kind, .int .u64 e.a, .int .u64 e.n]
def evs (l : List Ev) : List (List C) := l.map Ev.enc
@[simp, go_sem] theorem evs_length (l : List Ev) : (evs l).length = l.length := by simp [evs]
@[go_sem] theorem evs_get (l : List Ev) (i : Nat) : (evs l).getD i [.int .u64 0, .int .i64 0, .int .u64 0, .int .u64 0] = (l.getD i default).enc := by
  simp only [evs, List.getD_eq_getElem?_getD, List.getElem?_map]
  cases l[i]? <;> rfl
@[go_sem] theorem evs_wide (l : List Ev) : Wide 4 (evs l) = True := by
  simp [Wide, evs, Ev.enc]
@[go_sem] theorem ev_eq {a b c d a' b' c' d' : Int} : eqD Try.prog 33 [.int .u64 a, .int .i64 b, .int .u64 c, .int .u64 d] [.int .u64 a', .int .i64 b', .int .u64 c', .int .u64 d'] = some (decide ((⟨a, b, c, d⟩ : Ev) = ⟨a', b', c', d'⟩)) := by
  simp only [eqD, eqOf_33, eqCells, eqC, List.getElem?_cons_zero, List.getElem?_cons_succ, if_true, Option.some.injEq, Ev.mk.injEq]
  rw [Bool.eq_iff_iff]
  simp

theorem follows_mixed : Try.prog.follows .mixedOrders = true := by kernel_rfl

theorem take_succ_iff {α : Type} [DecidableEq α] [Inhabited α] {a b : List α} {i : Nat} (h1 : i < a.length) (h2 : i < b.length) (h : a.take i = b.take i) :
    a.take (i + 1) = b.take (i + 1) ↔ a.getD i default = b.getD i default := by
  have e1 : a.take (i + 1) = a.take i ++ [a[i]] := by simp
  have e2 : b.take (i + 1) = b.take i ++ [b[i]] := by simp
  rw [e1, e2, h, List.append_cancel_left_eq]
  simp [List.getD, List.getElem?_eq_getElem h1, List.getElem?_eq_getElem h2]

set_option maxRecDepth 4000 in
theorem same_ok (a b : List Ev) : PureFn Try.prog 13 [.sl (evs a), .sl (evs b)] (.bool (decide (a = b))) := by
  refine .of (ac13 .nil (Nat.le_of_ble_eq_true rfl) ?_)
  simp -implicitDefEqProofs only [cd_t, cd_f, cd_dec, cd_not, cd_and, cd_or, grd_tt, grd_ff, grd_tf, grd_ft, grd_dt, grd_df, grd_nt, grd_nf, go_sem, Go.Proofs.Try.f13, reduceIte, reduceCtorEq, Nat.reduceEqDiff, Nat.reduceAdd]
  refine fun ha hb => ⟨fun hl _ => ?_, fun h => ?_⟩
  · refine SWp.loop (ι := { i : Nat // i ≤ a.length ∧ a.take i = b.take i }) (fun i => ⟨[(0, .sl (evs a)), (1, .sl (evs b)), (12, .int .i64 a.length), (13, .int .i64 i.1)], [], 0⟩) (fun i => a.length - i.1) ⟨0, by simp⟩ ?_ ?_
    · simp [go_sem]
    · rintro ⟨i, hi, hab⟩
      refine awp_sound TabOk.nil.toS lv13 _ _ _ rfl ?_
      simp -implicitDefEqProofs only [cd_t, cd_f, cd_dec, cd_not, cd_and, cd_or, grd_tt, grd_ff, grd_tf, grd_ft, grd_dt, grd_df, grd_nt, grd_nf, go_sem, reduceIte, reduceCtorEq, Nat.reduceEqDiff, Nat.reduceAdd]
      refine ⟨fun h => ?_, fun h => ?_⟩
      · refine ADraw.quiet .nil follows_mixed (by kernel_rfl) (by kernel_rfl) ?_
        simp -implicitDefEqProofs only [cd_t, cd_f, cd_dec, cd_not, cd_and, cd_or, grd_tt, grd_ff, grd_tf, grd_ft, grd_dt, grd_df, grd_nt, grd_nf, go_sem, reduceIte, reduceCtorEq, Nat.reduceEqDiff, Nat.reduceAdd, Nat.reduceLeDiff]
        have h1 : i < a.length := by omega
        have h2 : i < b.length := by omega
        have ht := take_succ_iff h1 h2 hab
        refine ⟨by omega, by omega, fun he => ⟨⟨i + 1, h1, ht.2 he⟩, by show _ < _; dsimp only; omega, ?_⟩, fun he => ?_⟩
        · rw [i64_in _ (by omega)]
          simp
        · simp only [eq_comm (a := false), decide_eq_false_iff_not]
          rintro rfl
          exact he rfl
      · have e : i = a.length := by omega
        have : a = b := by
          rw [e, List.take_length] at hab
          rw [hab, List.take_of_length_le (by omega)]
        simp [this]
  · have : a ≠ b := by rintro rfl; exact h rfl
    simp [this]
end Dm
