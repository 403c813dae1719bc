import Derived.Test.YtjgndkmodnppfaaGreatP7
import Derived.Ground.NamesProg
import Derived.Lib.ItoaNum
import Derived.Shelf.Bits.Mul64
import Derived.Shelf.Small.Bits
set_option linter.unusedSimpArgs false
set_option linter.unusedVariables false
set_option linter.unusedSectionVars false
namespace Dm
open Go Go.Proofs Go.IntWalk
theorem i1_0 : ((1 : Int) = 0) = False := eq_false (by decide)
theorem i7_0 : ((7 : Int) = 0) = False := eq_false (by decide)
theorem i9_0 : ((9 : Int) = 0) = False := eq_false (by decide)
def payP (v : Wl) (hash n : Nat) : List Py × Int := startP v.p ⟨v.next, hash, (firstL v.c v.w n).1, n, 1⟩
def payC (v : Wl) (n : Nat) : List Ch × Int := lholdL v.c (firstL v.c v.w n).1 v.next n
def payF (v : Wl) (n : Nat) : Fd × Nat × Int := addF v.f 0 v.next n
def payE (v : Wl) (hash n : Nat) : Int := if ¬ okW v ∨ n = 0 ∨ ¬ n ≤ MM then 1 else if (firstL v.c v.w n).2 ≠ 0 then 9 else if v.next = MM then 7 else if (payP v hash n).2 ≠ 0 then (payP v hash n).2 else if (payC v n).2 ≠ 0 then (payC v n).2 else (payF v n).2.2
def zeroW : Wl := ⟨[], [], [], [], ⟨0, []⟩, 0, 0⟩
def payW (v : Wl) (hash n : Nat) : Wl × Nat × Int := if payE v hash n = 0 then (⟨(payC v n).1, v.w, v.i, (payP v hash n).1, (payF v n).1, v.next + 1, v.tick⟩, v.next, 0) else (zeroW, 0, payE v hash n)
@[go_sem] def wpay_r (v : Wl) (hash : Nat) (n : Nat) : D := .tup [.agg [.sl (chs (payW v hash n).1.c), .sl (wts (payW v hash n).1.w), .sl (ivs (payW v hash n).1.i), .sl (pys (payW v hash n).1.p), .int .u64 (payW v hash n).1.f.next, .sl (evs (payW v hash n).1.f.l), .int .u64 (payW v hash n).1.next, .int .u64 (payW v hash n).1.tick], .int .u64 (payW v hash n).2.1, .int .i64 (payW v hash n).2.2]
@[go_sem] abbrev n_wpay : FuncId := 12
@[go_sem] def wpay_T : Tab := [(14, sp_wcheck), (29, sp_moncheck), (34, sp_first), (37, sp_pstart), (40, sp_lhold), (85, sp_fadd), (86, sp_wown)]
theorem wpay_T_ok : TabOk Tryz.prog wpay_T := (TabOk.cons sp_wcheck_ok (TabOk.cons sp_moncheck_ok (TabOk.cons sp_first_ok (TabOk.cons sp_pstart_ok (TabOk.cons sp_lhold_ok (TabOk.cons sp_fadd_ok (TabOk.cons sp_wown_ok TabOk.nil)))))))
set_option maxRecDepth 8000 in
set_option maxHeartbeats 1000000 in
theorem wpay_ok (v : Wl) (hash : Nat) (n : Nat) (h : v.f.next ≤ 18446744073709551615) : PureFn Tryz.prog 12 [.agg [.sl (chs v.c), .sl (wts v.w), .sl (ivs v.i), .sl (pys v.p), .c (.int .u64 (v.f.next : Int)), .sl (evs v.f.l), .c (.int .u64 (v.next : Int)), .c (.int .u64 (v.tick : Int))], .c (.int .u64 (hash : Int)), .c (.int .u64 (n : Int))] (wpay_r v hash n) := by
  refine .of (ac12 wpay_T_ok (Nat.le_of_ble_eq_true rfl) ?_)
  simp -implicitDefEqProofs only [cdA, go_sem, Go.Proofs.Tryz.f12, reduceIte, reduceCtorEq, Nat.reduceEqDiff, Nat.reduceAdd, Nat.reduceLeDiff, Nat.reduceSub, Nat.reduceMul, Nat.reduceLT, Nat.reduceShiftRight, Nat.reduceMod, Int.reduceLE, Int.reduceLT, Int.reduceToNat, List.cons.injEq, cdB]
  refine ac32 wpay_T_ok (Nat.le_of_ble_eq_true rfl) ?_
  simp -implicitDefEqProofs only [cdA, go_sem, Go.Proofs.Tryz.f32, reduceIte, reduceCtorEq, Nat.reduceEqDiff, Nat.reduceAdd, Nat.reduceLeDiff, Nat.reduceSub, Nat.reduceMul, Nat.reduceLT, Nat.reduceShiftRight, Nat.reduceMod, Int.reduceLE, Int.reduceLT, Int.reduceToNat, List.cons.injEq, cdB]
  refine ADraw.run us32_1 wpay_T_ok follows_mixed (by kernel_rfl) (by kernel_rfl) ?_
  simp -implicitDefEqProofs only [cdA, go_sem, reduceIte, reduceCtorEq, Nat.reduceEqDiff, Nat.reduceAdd, Nat.reduceLeDiff, Nat.reduceSub, Nat.reduceMul, Nat.reduceLT, Nat.reduceShiftRight, Nat.reduceMod, Int.reduceLE, Int.reduceLT, Int.reduceToNat, List.cons.injEq, cdB]
  refine ⟨h, ?_⟩
  have hbad : ∀ e : Int, payE v hash n = e → ¬ e = 0 → (chs (payW v hash n).1.c = [] ∧ wts (payW v hash n).1.w = [] ∧ ivs (payW v hash n).1.i = [] ∧ pys (payW v hash n).1.p = [] ∧ 0 = ((payW v hash n).1.f.next : Int) ∧ evs (payW v hash n).1.f.l = [] ∧ 0 = ((payW v hash n).1.next : Int) ∧ 0 = ((payW v hash n).1.tick : Int)) ∧ 0 = ((payW v hash n).2.1 : Int) ∧ e = (payW v hash n).2.2 := fun e h1 h2 => by
    have : payW v hash n = (zeroW, 0, e) := by rw [payW, if_neg (by rw [h1]; exact h2), h1]
    rw [this]; exact ⟨⟨rfl, rfl, rfl, rfl, rfl, rfl, rfl, rfl⟩, rfl, rfl⟩
  by_cases hok : okW v
  rotate_left 1
  · have hck : (chkW v = 0) = False := eq_false fun h => hok (chkW_0.1 h)
    have he : payE v hash n = 1 := by rw [payE, if_pos (.inl hok)]
    have hc1 : chkW v = 1 := by rw [chkW, if_neg hok]
    refine ⟨fun hn => ?_, fun hn => ?_⟩
    · skip
      refine ac33 wpay_T_ok (Nat.le_of_ble_eq_true rfl) ?_
      simp -implicitDefEqProofs only [cdA, go_sem, Go.Proofs.Tryz.f33, hck, cdN, reduceIte, reduceCtorEq, Nat.reduceEqDiff, Nat.reduceAdd, Nat.reduceLeDiff, Nat.reduceSub, Nat.reduceMul, Nat.reduceLT, Nat.reduceShiftRight, Nat.reduceMod, Int.reduceLE, Int.reduceLT, Int.reduceToNat, List.cons.injEq, cdB]
      refine ac33 wpay_T_ok (Nat.le_of_ble_eq_true rfl) ?_
      simp -implicitDefEqProofs only [cdA, go_sem, Go.Proofs.Tryz.f33, hck, cdN, reduceIte, reduceCtorEq, Nat.reduceEqDiff, Nat.reduceAdd, Nat.reduceLeDiff, Nat.reduceSub, Nat.reduceMul, Nat.reduceLT, Nat.reduceShiftRight, Nat.reduceMod, Int.reduceLE, Int.reduceLT, Int.reduceToNat, List.cons.injEq, cdB]
      refine ac33 wpay_T_ok (Nat.le_of_ble_eq_true rfl) ?_
      simp -implicitDefEqProofs only [cdA, go_sem, Go.Proofs.Tryz.f33, hck, cdN, reduceIte, reduceCtorEq, Nat.reduceEqDiff, Nat.reduceAdd, Nat.reduceLeDiff, Nat.reduceSub, Nat.reduceMul, Nat.reduceLT, Nat.reduceShiftRight, Nat.reduceMod, Int.reduceLE, Int.reduceLT, Int.reduceToNat, List.cons.injEq, cdB]
      refine ac35 wpay_T_ok (Nat.le_of_ble_eq_true rfl) ?_
      simp -implicitDefEqProofs only [cdA, go_sem, Go.Proofs.Tryz.f35, hck, cdN, reduceIte, reduceCtorEq, Nat.reduceEqDiff, Nat.reduceAdd, Nat.reduceLeDiff, Nat.reduceSub, Nat.reduceMul, Nat.reduceLT, Nat.reduceShiftRight, Nat.reduceMod, Int.reduceLE, Int.reduceLT, Int.reduceToNat, List.cons.injEq, cdB]
      refine ac38 wpay_T_ok (Nat.le_of_ble_eq_true rfl) ?_
      simp -implicitDefEqProofs only [cdA, go_sem, Go.Proofs.Tryz.f38, hck, cdN, reduceIte, reduceCtorEq, Nat.reduceEqDiff, Nat.reduceAdd, Nat.reduceLeDiff, Nat.reduceSub, Nat.reduceMul, Nat.reduceLT, Nat.reduceShiftRight, Nat.reduceMod, Int.reduceLE, Int.reduceLT, Int.reduceToNat, List.cons.injEq, cdB]
      refine ac41 wpay_T_ok (Nat.le_of_ble_eq_true rfl) ?_
      simp -implicitDefEqProofs only [cdA, go_sem, Go.Proofs.Tryz.f41, reduceIte, reduceCtorEq, Nat.reduceEqDiff, Nat.reduceAdd, Nat.reduceLeDiff, Nat.reduceSub, Nat.reduceMul, Nat.reduceLT, Nat.reduceShiftRight, Nat.reduceMod, Int.reduceLE, Int.reduceLT, Int.reduceToNat, List.cons.injEq, cdB]
      refine ac83 wpay_T_ok (Nat.le_of_ble_eq_true rfl) ?_
      simp -implicitDefEqProofs only [cdA, go_sem, Go.Proofs.Tryz.f83, hck, cdN, reduceIte, reduceCtorEq, Nat.reduceEqDiff, Nat.reduceAdd, Nat.reduceLeDiff, Nat.reduceSub, Nat.reduceMul, Nat.reduceLT, Nat.reduceShiftRight, Nat.reduceMod, Int.reduceLE, Int.reduceLT, Int.reduceToNat, List.cons.injEq, cdB]
      refine ac42 wpay_T_ok (Nat.le_of_ble_eq_true rfl) ?_
      simp -implicitDefEqProofs only [cdA, go_sem, Go.Proofs.Tryz.f42, hck, cdN, reduceIte, reduceCtorEq, Nat.reduceEqDiff, Nat.reduceAdd, Nat.reduceLeDiff, Nat.reduceSub, Nat.reduceMul, Nat.reduceLT, Nat.reduceShiftRight, Nat.reduceMod, Int.reduceLE, Int.reduceLT, Int.reduceToNat, List.cons.injEq, cdB]
      refine ADraw.run us42_2 wpay_T_ok follows_mixed (by kernel_rfl) (by kernel_rfl) ?_
      simp -implicitDefEqProofs only [cdA, go_sem, hck, cdN, reduceIte, reduceCtorEq, Nat.reduceEqDiff, Nat.reduceAdd, Nat.reduceLeDiff, Nat.reduceSub, Nat.reduceMul, Nat.reduceLT, Nat.reduceShiftRight, Nat.reduceMod, Int.reduceLE, Int.reduceLT, Int.reduceToNat, List.cons.injEq, cdB]
      exact hbad _ (he.trans hc1.symm) (by rw [hc1]; decide)
    · skip
      refine ac33 wpay_T_ok (Nat.le_of_ble_eq_true rfl) ?_
      simp -implicitDefEqProofs only [cdA, go_sem, Go.Proofs.Tryz.f33, hck, cdN, reduceIte, reduceCtorEq, Nat.reduceEqDiff, Nat.reduceAdd, Nat.reduceLeDiff, Nat.reduceSub, Nat.reduceMul, Nat.reduceLT, Nat.reduceShiftRight, Nat.reduceMod, Int.reduceLE, Int.reduceLT, Int.reduceToNat, List.cons.injEq, cdB]
      refine ac33 wpay_T_ok (Nat.le_of_ble_eq_true rfl) ?_
      simp -implicitDefEqProofs only [cdA, go_sem, Go.Proofs.Tryz.f33, hck, cdN, reduceIte, reduceCtorEq, Nat.reduceEqDiff, Nat.reduceAdd, Nat.reduceLeDiff, Nat.reduceSub, Nat.reduceMul, Nat.reduceLT, Nat.reduceShiftRight, Nat.reduceMod, Int.reduceLE, Int.reduceLT, Int.reduceToNat, List.cons.injEq, cdB]
      refine ac33 wpay_T_ok (Nat.le_of_ble_eq_true rfl) ?_
      simp -implicitDefEqProofs only [cdA, go_sem, Go.Proofs.Tryz.f33, hck, cdN, reduceIte, reduceCtorEq, Nat.reduceEqDiff, Nat.reduceAdd, Nat.reduceLeDiff, Nat.reduceSub, Nat.reduceMul, Nat.reduceLT, Nat.reduceShiftRight, Nat.reduceMod, Int.reduceLE, Int.reduceLT, Int.reduceToNat, List.cons.injEq, cdB]
      refine ac35 wpay_T_ok (Nat.le_of_ble_eq_true rfl) ?_
      simp -implicitDefEqProofs only [cdA, go_sem, Go.Proofs.Tryz.f35, hck, cdN, reduceIte, reduceCtorEq, Nat.reduceEqDiff, Nat.reduceAdd, Nat.reduceLeDiff, Nat.reduceSub, Nat.reduceMul, Nat.reduceLT, Nat.reduceShiftRight, Nat.reduceMod, Int.reduceLE, Int.reduceLT, Int.reduceToNat, List.cons.injEq, cdB]
      refine ac38 wpay_T_ok (Nat.le_of_ble_eq_true rfl) ?_
      simp -implicitDefEqProofs only [cdA, go_sem, Go.Proofs.Tryz.f38, hck, cdN, reduceIte, reduceCtorEq, Nat.reduceEqDiff, Nat.reduceAdd, Nat.reduceLeDiff, Nat.reduceSub, Nat.reduceMul, Nat.reduceLT, Nat.reduceShiftRight, Nat.reduceMod, Int.reduceLE, Int.reduceLT, Int.reduceToNat, List.cons.injEq, cdB]
      refine ac41 wpay_T_ok (Nat.le_of_ble_eq_true rfl) ?_
      simp -implicitDefEqProofs only [cdA, go_sem, Go.Proofs.Tryz.f41, reduceIte, reduceCtorEq, Nat.reduceEqDiff, Nat.reduceAdd, Nat.reduceLeDiff, Nat.reduceSub, Nat.reduceMul, Nat.reduceLT, Nat.reduceShiftRight, Nat.reduceMod, Int.reduceLE, Int.reduceLT, Int.reduceToNat, List.cons.injEq, cdB]
      refine ac83 wpay_T_ok (Nat.le_of_ble_eq_true rfl) ?_
      simp -implicitDefEqProofs only [cdA, go_sem, Go.Proofs.Tryz.f83, hck, cdN, reduceIte, reduceCtorEq, Nat.reduceEqDiff, Nat.reduceAdd, Nat.reduceLeDiff, Nat.reduceSub, Nat.reduceMul, Nat.reduceLT, Nat.reduceShiftRight, Nat.reduceMod, Int.reduceLE, Int.reduceLT, Int.reduceToNat, List.cons.injEq, cdB]
      refine ac42 wpay_T_ok (Nat.le_of_ble_eq_true rfl) ?_
      simp -implicitDefEqProofs only [cdA, go_sem, Go.Proofs.Tryz.f42, hck, cdN, reduceIte, reduceCtorEq, Nat.reduceEqDiff, Nat.reduceAdd, Nat.reduceLeDiff, Nat.reduceSub, Nat.reduceMul, Nat.reduceLT, Nat.reduceShiftRight, Nat.reduceMod, Int.reduceLE, Int.reduceLT, Int.reduceToNat, List.cons.injEq, cdB]
      refine ADraw.run us42_2 wpay_T_ok follows_mixed (by kernel_rfl) (by kernel_rfl) ?_
      simp -implicitDefEqProofs only [cdA, go_sem, hck, cdN, reduceIte, reduceCtorEq, Nat.reduceEqDiff, Nat.reduceAdd, Nat.reduceLeDiff, Nat.reduceSub, Nat.reduceMul, Nat.reduceLT, Nat.reduceShiftRight, Nat.reduceMod, Int.reduceLE, Int.reduceLT, Int.reduceToNat, List.cons.injEq, cdB]
      exact hbad _ (he.trans hc1.symm) (by rw [hc1]; decide)
  have hck : (chkW v = 0) = True := eq_true (chkW_0.2 hok)
  refine ⟨fun hn => ?_, fun hn => ?_⟩
  rotate_left 1
  · skip
    refine ac33 wpay_T_ok (Nat.le_of_ble_eq_true rfl) ?_
    simp -implicitDefEqProofs only [cdA, go_sem, Go.Proofs.Tryz.f33, hck, cdN, reduceIte, reduceCtorEq, Nat.reduceEqDiff, Nat.reduceAdd, Nat.reduceLeDiff, Nat.reduceSub, Nat.reduceMul, Nat.reduceLT, Nat.reduceShiftRight, Nat.reduceMod, Int.reduceLE, Int.reduceLT, Int.reduceToNat, List.cons.injEq, cdB]
    skip
    refine ac33 wpay_T_ok (Nat.le_of_ble_eq_true rfl) ?_
    simp -implicitDefEqProofs only [cdA, go_sem, Go.Proofs.Tryz.f33, i1_0, cdN, reduceIte, reduceCtorEq, Nat.reduceEqDiff, Nat.reduceAdd, Nat.reduceLeDiff, Nat.reduceSub, Nat.reduceMul, Nat.reduceLT, Nat.reduceShiftRight, Nat.reduceMod, Int.reduceLE, Int.reduceLT, Int.reduceToNat, List.cons.injEq, cdB]
    refine ac33 wpay_T_ok (Nat.le_of_ble_eq_true rfl) ?_
    simp -implicitDefEqProofs only [cdA, go_sem, Go.Proofs.Tryz.f33, i1_0, cdN, reduceIte, reduceCtorEq, Nat.reduceEqDiff, Nat.reduceAdd, Nat.reduceLeDiff, Nat.reduceSub, Nat.reduceMul, Nat.reduceLT, Nat.reduceShiftRight, Nat.reduceMod, Int.reduceLE, Int.reduceLT, Int.reduceToNat, List.cons.injEq, cdB]
    refine ac35 wpay_T_ok (Nat.le_of_ble_eq_true rfl) ?_
    simp -implicitDefEqProofs only [cdA, go_sem, Go.Proofs.Tryz.f35, i1_0, cdN, reduceIte, reduceCtorEq, Nat.reduceEqDiff, Nat.reduceAdd, Nat.reduceLeDiff, Nat.reduceSub, Nat.reduceMul, Nat.reduceLT, Nat.reduceShiftRight, Nat.reduceMod, Int.reduceLE, Int.reduceLT, Int.reduceToNat, List.cons.injEq, cdB]
    refine ac38 wpay_T_ok (Nat.le_of_ble_eq_true rfl) ?_
    simp -implicitDefEqProofs only [cdA, go_sem, Go.Proofs.Tryz.f38, i1_0, cdN, reduceIte, reduceCtorEq, Nat.reduceEqDiff, Nat.reduceAdd, Nat.reduceLeDiff, Nat.reduceSub, Nat.reduceMul, Nat.reduceLT, Nat.reduceShiftRight, Nat.reduceMod, Int.reduceLE, Int.reduceLT, Int.reduceToNat, List.cons.injEq, cdB]
    refine ac41 wpay_T_ok (Nat.le_of_ble_eq_true rfl) ?_
    simp -implicitDefEqProofs only [cdA, go_sem, Go.Proofs.Tryz.f41, reduceIte, reduceCtorEq, Nat.reduceEqDiff, Nat.reduceAdd, Nat.reduceLeDiff, Nat.reduceSub, Nat.reduceMul, Nat.reduceLT, Nat.reduceShiftRight, Nat.reduceMod, Int.reduceLE, Int.reduceLT, Int.reduceToNat, List.cons.injEq, cdB]
    refine ac83 wpay_T_ok (Nat.le_of_ble_eq_true rfl) ?_
    simp -implicitDefEqProofs only [cdA, go_sem, Go.Proofs.Tryz.f83, i1_0, cdN, reduceIte, reduceCtorEq, Nat.reduceEqDiff, Nat.reduceAdd, Nat.reduceLeDiff, Nat.reduceSub, Nat.reduceMul, Nat.reduceLT, Nat.reduceShiftRight, Nat.reduceMod, Int.reduceLE, Int.reduceLT, Int.reduceToNat, List.cons.injEq, cdB]
    refine ac42 wpay_T_ok (Nat.le_of_ble_eq_true rfl) ?_
    simp -implicitDefEqProofs only [cdA, go_sem, Go.Proofs.Tryz.f42, i1_0, cdN, reduceIte, reduceCtorEq, Nat.reduceEqDiff, Nat.reduceAdd, Nat.reduceLeDiff, Nat.reduceSub, Nat.reduceMul, Nat.reduceLT, Nat.reduceShiftRight, Nat.reduceMod, Int.reduceLE, Int.reduceLT, Int.reduceToNat, List.cons.injEq, cdB]
    refine ADraw.run us42_2 wpay_T_ok follows_mixed (by kernel_rfl) (by kernel_rfl) ?_
    simp -implicitDefEqProofs only [cdA, go_sem, i1_0, cdN, reduceIte, reduceCtorEq, Nat.reduceEqDiff, Nat.reduceAdd, Nat.reduceLeDiff, Nat.reduceSub, Nat.reduceMul, Nat.reduceLT, Nat.reduceShiftRight, Nat.reduceMod, Int.reduceLE, Int.reduceLT, Int.reduceToNat, List.cons.injEq, cdB]
    exact hbad _ (by rw [payE, if_pos (.inr (.inl (by omega)))]) (by decide)
  have hmon : monS [n] = 0 ↔ n ≤ MM := mon1_0
  by_cases hm : monS [n] = 0
  rotate_left 1
  · skip
    refine ac33 wpay_T_ok (Nat.le_of_ble_eq_true rfl) ?_
    simp -implicitDefEqProofs only [cdA, go_sem, Go.Proofs.Tryz.f33, hck, hm, cdN, reduceIte, reduceCtorEq, Nat.reduceEqDiff, Nat.reduceAdd, Nat.reduceLeDiff, Nat.reduceSub, Nat.reduceMul, Nat.reduceLT, Nat.reduceShiftRight, Nat.reduceMod, Int.reduceLE, Int.reduceLT, Int.reduceToNat, List.cons.injEq, cdB]
    skip
    refine ac33 wpay_T_ok (Nat.le_of_ble_eq_true rfl) ?_
    simp -implicitDefEqProofs only [cdA, go_sem, Go.Proofs.Tryz.f33, i1_0, cdN, reduceIte, reduceCtorEq, Nat.reduceEqDiff, Nat.reduceAdd, Nat.reduceLeDiff, Nat.reduceSub, Nat.reduceMul, Nat.reduceLT, Nat.reduceShiftRight, Nat.reduceMod, Int.reduceLE, Int.reduceLT, Int.reduceToNat, List.cons.injEq, cdB]
    refine ac33 wpay_T_ok (Nat.le_of_ble_eq_true rfl) ?_
    simp -implicitDefEqProofs only [cdA, go_sem, Go.Proofs.Tryz.f33, i1_0, cdN, reduceIte, reduceCtorEq, Nat.reduceEqDiff, Nat.reduceAdd, Nat.reduceLeDiff, Nat.reduceSub, Nat.reduceMul, Nat.reduceLT, Nat.reduceShiftRight, Nat.reduceMod, Int.reduceLE, Int.reduceLT, Int.reduceToNat, List.cons.injEq, cdB]
    refine ac35 wpay_T_ok (Nat.le_of_ble_eq_true rfl) ?_
    simp -implicitDefEqProofs only [cdA, go_sem, Go.Proofs.Tryz.f35, i1_0, cdN, reduceIte, reduceCtorEq, Nat.reduceEqDiff, Nat.reduceAdd, Nat.reduceLeDiff, Nat.reduceSub, Nat.reduceMul, Nat.reduceLT, Nat.reduceShiftRight, Nat.reduceMod, Int.reduceLE, Int.reduceLT, Int.reduceToNat, List.cons.injEq, cdB]
    refine ac38 wpay_T_ok (Nat.le_of_ble_eq_true rfl) ?_
    simp -implicitDefEqProofs only [cdA, go_sem, Go.Proofs.Tryz.f38, i1_0, cdN, reduceIte, reduceCtorEq, Nat.reduceEqDiff, Nat.reduceAdd, Nat.reduceLeDiff, Nat.reduceSub, Nat.reduceMul, Nat.reduceLT, Nat.reduceShiftRight, Nat.reduceMod, Int.reduceLE, Int.reduceLT, Int.reduceToNat, List.cons.injEq, cdB]
    refine ac41 wpay_T_ok (Nat.le_of_ble_eq_true rfl) ?_
    simp -implicitDefEqProofs only [cdA, go_sem, Go.Proofs.Tryz.f41, reduceIte, reduceCtorEq, Nat.reduceEqDiff, Nat.reduceAdd, Nat.reduceLeDiff, Nat.reduceSub, Nat.reduceMul, Nat.reduceLT, Nat.reduceShiftRight, Nat.reduceMod, Int.reduceLE, Int.reduceLT, Int.reduceToNat, List.cons.injEq, cdB]
    refine ac83 wpay_T_ok (Nat.le_of_ble_eq_true rfl) ?_
    simp -implicitDefEqProofs only [cdA, go_sem, Go.Proofs.Tryz.f83, i1_0, cdN, reduceIte, reduceCtorEq, Nat.reduceEqDiff, Nat.reduceAdd, Nat.reduceLeDiff, Nat.reduceSub, Nat.reduceMul, Nat.reduceLT, Nat.reduceShiftRight, Nat.reduceMod, Int.reduceLE, Int.reduceLT, Int.reduceToNat, List.cons.injEq, cdB]
    refine ac42 wpay_T_ok (Nat.le_of_ble_eq_true rfl) ?_
    simp -implicitDefEqProofs only [cdA, go_sem, Go.Proofs.Tryz.f42, i1_0, cdN, reduceIte, reduceCtorEq, Nat.reduceEqDiff, Nat.reduceAdd, Nat.reduceLeDiff, Nat.reduceSub, Nat.reduceMul, Nat.reduceLT, Nat.reduceShiftRight, Nat.reduceMod, Int.reduceLE, Int.reduceLT, Int.reduceToNat, List.cons.injEq, cdB]
    refine ADraw.run us42_2 wpay_T_ok follows_mixed (by kernel_rfl) (by kernel_rfl) ?_
    simp -implicitDefEqProofs only [cdA, go_sem, i1_0, cdN, reduceIte, reduceCtorEq, Nat.reduceEqDiff, Nat.reduceAdd, Nat.reduceLeDiff, Nat.reduceSub, Nat.reduceMul, Nat.reduceLT, Nat.reduceShiftRight, Nat.reduceMod, Int.reduceLE, Int.reduceLT, Int.reduceToNat, List.cons.injEq, cdB]
    exact hbad _ (by rw [payE, if_pos (.inr (.inr fun h => hm (hmon.2 h)))]) (by decide)
  have hA : ¬ (¬ okW v ∨ n = 0 ∨ ¬ n ≤ MM) := by
    rintro (h | h | h)
    · exact h hok
    · omega
    · exact h (hmon.1 hm)
  refine ac33 wpay_T_ok (Nat.le_of_ble_eq_true rfl) ?_
  simp -implicitDefEqProofs only [cdA, go_sem, Go.Proofs.Tryz.f33, hck, hm, cdN, reduceIte, reduceCtorEq, Nat.reduceEqDiff, Nat.reduceAdd, Nat.reduceLeDiff, Nat.reduceSub, Nat.reduceMul, Nat.reduceLT, Nat.reduceShiftRight, Nat.reduceMod, Int.reduceLE, Int.reduceLT, Int.reduceToNat, List.cons.injEq, cdB]
  by_cases hfe : (firstL v.c v.w n).2 = 0
  rotate_left 1
  · skip
    refine ac33 wpay_T_ok (Nat.le_of_ble_eq_true rfl) ?_
    simp -implicitDefEqProofs only [cdA, go_sem, Go.Proofs.Tryz.f33, hck, hfe, cdN, reduceIte, reduceCtorEq, Nat.reduceEqDiff, Nat.reduceAdd, Nat.reduceLeDiff, Nat.reduceSub, Nat.reduceMul, Nat.reduceLT, Nat.reduceShiftRight, Nat.reduceMod, Int.reduceLE, Int.reduceLT, Int.reduceToNat, List.cons.injEq, cdB]
    skip
    refine ac33 wpay_T_ok (Nat.le_of_ble_eq_true rfl) ?_
    simp -implicitDefEqProofs only [cdA, go_sem, Go.Proofs.Tryz.f33, i9_0, cdN, reduceIte, reduceCtorEq, Nat.reduceEqDiff, Nat.reduceAdd, Nat.reduceLeDiff, Nat.reduceSub, Nat.reduceMul, Nat.reduceLT, Nat.reduceShiftRight, Nat.reduceMod, Int.reduceLE, Int.reduceLT, Int.reduceToNat, List.cons.injEq, cdB]
    refine ac35 wpay_T_ok (Nat.le_of_ble_eq_true rfl) ?_
    simp -implicitDefEqProofs only [cdA, go_sem, Go.Proofs.Tryz.f35, i9_0, cdN, reduceIte, reduceCtorEq, Nat.reduceEqDiff, Nat.reduceAdd, Nat.reduceLeDiff, Nat.reduceSub, Nat.reduceMul, Nat.reduceLT, Nat.reduceShiftRight, Nat.reduceMod, Int.reduceLE, Int.reduceLT, Int.reduceToNat, List.cons.injEq, cdB]
    refine ac38 wpay_T_ok (Nat.le_of_ble_eq_true rfl) ?_
    simp -implicitDefEqProofs only [cdA, go_sem, Go.Proofs.Tryz.f38, i9_0, cdN, reduceIte, reduceCtorEq, Nat.reduceEqDiff, Nat.reduceAdd, Nat.reduceLeDiff, Nat.reduceSub, Nat.reduceMul, Nat.reduceLT, Nat.reduceShiftRight, Nat.reduceMod, Int.reduceLE, Int.reduceLT, Int.reduceToNat, List.cons.injEq, cdB]
    refine ac41 wpay_T_ok (Nat.le_of_ble_eq_true rfl) ?_
    simp -implicitDefEqProofs only [cdA, go_sem, Go.Proofs.Tryz.f41, reduceIte, reduceCtorEq, Nat.reduceEqDiff, Nat.reduceAdd, Nat.reduceLeDiff, Nat.reduceSub, Nat.reduceMul, Nat.reduceLT, Nat.reduceShiftRight, Nat.reduceMod, Int.reduceLE, Int.reduceLT, Int.reduceToNat, List.cons.injEq, cdB]
    refine ac83 wpay_T_ok (Nat.le_of_ble_eq_true rfl) ?_
    simp -implicitDefEqProofs only [cdA, go_sem, Go.Proofs.Tryz.f83, i9_0, cdN, reduceIte, reduceCtorEq, Nat.reduceEqDiff, Nat.reduceAdd, Nat.reduceLeDiff, Nat.reduceSub, Nat.reduceMul, Nat.reduceLT, Nat.reduceShiftRight, Nat.reduceMod, Int.reduceLE, Int.reduceLT, Int.reduceToNat, List.cons.injEq, cdB]
    refine ac42 wpay_T_ok (Nat.le_of_ble_eq_true rfl) ?_
    simp -implicitDefEqProofs only [cdA, go_sem, Go.Proofs.Tryz.f42, i9_0, cdN, reduceIte, reduceCtorEq, Nat.reduceEqDiff, Nat.reduceAdd, Nat.reduceLeDiff, Nat.reduceSub, Nat.reduceMul, Nat.reduceLT, Nat.reduceShiftRight, Nat.reduceMod, Int.reduceLE, Int.reduceLT, Int.reduceToNat, List.cons.injEq, cdB]
    refine ADraw.run us42_2 wpay_T_ok follows_mixed (by kernel_rfl) (by kernel_rfl) ?_
    simp -implicitDefEqProofs only [cdA, go_sem, i9_0, cdN, reduceIte, reduceCtorEq, Nat.reduceEqDiff, Nat.reduceAdd, Nat.reduceLeDiff, Nat.reduceSub, Nat.reduceMul, Nat.reduceLT, Nat.reduceShiftRight, Nat.reduceMod, Int.reduceLE, Int.reduceLT, Int.reduceToNat, List.cons.injEq, cdB]
    exact hbad _ (by rw [payE, if_neg hA, if_pos hfe]) (by decide)
  refine ac33 wpay_T_ok (Nat.le_of_ble_eq_true rfl) ?_
  simp -implicitDefEqProofs only [cdA, go_sem, Go.Proofs.Tryz.f33, hck, hfe, cdN, reduceIte, reduceCtorEq, Nat.reduceEqDiff, Nat.reduceAdd, Nat.reduceLeDiff, Nat.reduceSub, Nat.reduceMul, Nat.reduceLT, Nat.reduceShiftRight, Nat.reduceMod, Int.reduceLE, Int.reduceLT, Int.reduceToNat, List.cons.injEq, cdB]
  by_cases hnx : v.next = MM
  · have hnx' : ((v.next : Int) = 4611686018427387904) = True := eq_true (by unfold MM at hnx; omega)
    refine ac33 wpay_T_ok (Nat.le_of_ble_eq_true rfl) ?_
    simp -implicitDefEqProofs only [cdA, go_sem, Go.Proofs.Tryz.f33, hck, hnx', decide_false, cdN, reduceIte, reduceCtorEq, Nat.reduceEqDiff, Nat.reduceAdd, Nat.reduceLeDiff, Nat.reduceSub, Nat.reduceMul, Nat.reduceLT, Nat.reduceShiftRight, Nat.reduceMod, Int.reduceLE, Int.reduceLT, Int.reduceToNat, List.cons.injEq, cdB]
    skip
    refine ac35 wpay_T_ok (Nat.le_of_ble_eq_true rfl) ?_
    simp -implicitDefEqProofs only [cdA, go_sem, Go.Proofs.Tryz.f35, i7_0, cdN, reduceIte, reduceCtorEq, Nat.reduceEqDiff, Nat.reduceAdd, Nat.reduceLeDiff, Nat.reduceSub, Nat.reduceMul, Nat.reduceLT, Nat.reduceShiftRight, Nat.reduceMod, Int.reduceLE, Int.reduceLT, Int.reduceToNat, List.cons.injEq, cdB]
    refine ac38 wpay_T_ok (Nat.le_of_ble_eq_true rfl) ?_
    simp -implicitDefEqProofs only [cdA, go_sem, Go.Proofs.Tryz.f38, i7_0, cdN, reduceIte, reduceCtorEq, Nat.reduceEqDiff, Nat.reduceAdd, Nat.reduceLeDiff, Nat.reduceSub, Nat.reduceMul, Nat.reduceLT, Nat.reduceShiftRight, Nat.reduceMod, Int.reduceLE, Int.reduceLT, Int.reduceToNat, List.cons.injEq, cdB]
    refine ac41 wpay_T_ok (Nat.le_of_ble_eq_true rfl) ?_
    simp -implicitDefEqProofs only [cdA, go_sem, Go.Proofs.Tryz.f41, reduceIte, reduceCtorEq, Nat.reduceEqDiff, Nat.reduceAdd, Nat.reduceLeDiff, Nat.reduceSub, Nat.reduceMul, Nat.reduceLT, Nat.reduceShiftRight, Nat.reduceMod, Int.reduceLE, Int.reduceLT, Int.reduceToNat, List.cons.injEq, cdB]
    refine ac83 wpay_T_ok (Nat.le_of_ble_eq_true rfl) ?_
    simp -implicitDefEqProofs only [cdA, go_sem, Go.Proofs.Tryz.f83, i7_0, cdN, reduceIte, reduceCtorEq, Nat.reduceEqDiff, Nat.reduceAdd, Nat.reduceLeDiff, Nat.reduceSub, Nat.reduceMul, Nat.reduceLT, Nat.reduceShiftRight, Nat.reduceMod, Int.reduceLE, Int.reduceLT, Int.reduceToNat, List.cons.injEq, cdB]
    refine ac42 wpay_T_ok (Nat.le_of_ble_eq_true rfl) ?_
    simp -implicitDefEqProofs only [cdA, go_sem, Go.Proofs.Tryz.f42, i7_0, cdN, reduceIte, reduceCtorEq, Nat.reduceEqDiff, Nat.reduceAdd, Nat.reduceLeDiff, Nat.reduceSub, Nat.reduceMul, Nat.reduceLT, Nat.reduceShiftRight, Nat.reduceMod, Int.reduceLE, Int.reduceLT, Int.reduceToNat, List.cons.injEq, cdB]
    refine ADraw.run us42_2 wpay_T_ok follows_mixed (by kernel_rfl) (by kernel_rfl) ?_
    simp -implicitDefEqProofs only [cdA, go_sem, i7_0, cdN, reduceIte, reduceCtorEq, Nat.reduceEqDiff, Nat.reduceAdd, Nat.reduceLeDiff, Nat.reduceSub, Nat.reduceMul, Nat.reduceLT, Nat.reduceShiftRight, Nat.reduceMod, Int.reduceLE, Int.reduceLT, Int.reduceToNat, List.cons.injEq, cdB]
    exact hbad _ (by rw [payE, if_neg hA, if_neg (fun h => h hfe), if_pos hnx]) (by decide)
  have hnx' : ((v.next : Int) = 4611686018427387904) = False := eq_false (by unfold MM at hnx; omega)
  refine ac33 wpay_T_ok (Nat.le_of_ble_eq_true rfl) ?_
  simp -implicitDefEqProofs only [cdA, go_sem, Go.Proofs.Tryz.f33, hck, hnx', decide_true, cdN, reduceIte, reduceCtorEq, Nat.reduceEqDiff, Nat.reduceAdd, Nat.reduceLeDiff, Nat.reduceSub, Nat.reduceMul, Nat.reduceLT, Nat.reduceShiftRight, Nat.reduceMod, Int.reduceLE, Int.reduceLT, Int.reduceToNat, List.cons.injEq, cdB]
  refine ac35 wpay_T_ok (Nat.le_of_ble_eq_true rfl) ?_
  simp -implicitDefEqProofs only [cdA, go_sem, Go.Proofs.Tryz.f35, hck, cdN, reduceIte, reduceCtorEq, Nat.reduceEqDiff, Nat.reduceAdd, Nat.reduceLeDiff, Nat.reduceSub, Nat.reduceMul, Nat.reduceLT, Nat.reduceShiftRight, Nat.reduceMod, Int.reduceLE, Int.reduceLT, Int.reduceToNat, List.cons.injEq, cdB]
  refine ac36 wpay_T_ok (Nat.le_of_ble_eq_true rfl) ?_
  simp -implicitDefEqProofs only [cdA, go_sem, Go.Proofs.Tryz.f36, reduceIte, reduceCtorEq, Nat.reduceEqDiff, Nat.reduceAdd, Nat.reduceLeDiff, Nat.reduceSub, Nat.reduceMul, Nat.reduceLT, Nat.reduceShiftRight, Nat.reduceMod, Int.reduceLE, Int.reduceLT, Int.reduceToNat, List.cons.injEq, cdB]
  have eP : startP v.p ⟨v.next, hash, (firstL v.c v.w n).1, n, 1⟩ = payP v hash n := rfl
  rw [eP]
  refine ⟨fun hst => ?_, fun hst => ?_⟩
  rotate_left 1
  · skip
    refine ac38 wpay_T_ok (Nat.le_of_ble_eq_true rfl) ?_
    simp -implicitDefEqProofs only [cdA, go_sem, Go.Proofs.Tryz.f38, hst, cdN, reduceIte, reduceCtorEq, Nat.reduceEqDiff, Nat.reduceAdd, Nat.reduceLeDiff, Nat.reduceSub, Nat.reduceMul, Nat.reduceLT, Nat.reduceShiftRight, Nat.reduceMod, Int.reduceLE, Int.reduceLT, Int.reduceToNat, List.cons.injEq, cdB]
    refine ac41 wpay_T_ok (Nat.le_of_ble_eq_true rfl) ?_
    simp -implicitDefEqProofs only [cdA, go_sem, Go.Proofs.Tryz.f41, reduceIte, reduceCtorEq, Nat.reduceEqDiff, Nat.reduceAdd, Nat.reduceLeDiff, Nat.reduceSub, Nat.reduceMul, Nat.reduceLT, Nat.reduceShiftRight, Nat.reduceMod, Int.reduceLE, Int.reduceLT, Int.reduceToNat, List.cons.injEq, cdB]
    refine ac83 wpay_T_ok (Nat.le_of_ble_eq_true rfl) ?_
    simp -implicitDefEqProofs only [cdA, go_sem, Go.Proofs.Tryz.f83, hst, cdN, reduceIte, reduceCtorEq, Nat.reduceEqDiff, Nat.reduceAdd, Nat.reduceLeDiff, Nat.reduceSub, Nat.reduceMul, Nat.reduceLT, Nat.reduceShiftRight, Nat.reduceMod, Int.reduceLE, Int.reduceLT, Int.reduceToNat, List.cons.injEq, cdB]
    refine ac42 wpay_T_ok (Nat.le_of_ble_eq_true rfl) ?_
    simp -implicitDefEqProofs only [cdA, go_sem, Go.Proofs.Tryz.f42, hst, cdN, reduceIte, reduceCtorEq, Nat.reduceEqDiff, Nat.reduceAdd, Nat.reduceLeDiff, Nat.reduceSub, Nat.reduceMul, Nat.reduceLT, Nat.reduceShiftRight, Nat.reduceMod, Int.reduceLE, Int.reduceLT, Int.reduceToNat, List.cons.injEq, cdB]
    refine ADraw.run us42_2 wpay_T_ok follows_mixed (by kernel_rfl) (by kernel_rfl) ?_
    simp -implicitDefEqProofs only [cdA, go_sem, hst, cdN, reduceIte, reduceCtorEq, Nat.reduceEqDiff, Nat.reduceAdd, Nat.reduceLeDiff, Nat.reduceSub, Nat.reduceMul, Nat.reduceLT, Nat.reduceShiftRight, Nat.reduceMod, Int.reduceLE, Int.reduceLT, Int.reduceToNat, List.cons.injEq, cdB]
    exact hbad _ (by rw [payE, if_neg hA, if_neg (fun h => h hfe), if_neg hnx, if_pos hst]) hst
  refine ac38 wpay_T_ok (Nat.le_of_ble_eq_true rfl) ?_
  simp -implicitDefEqProofs only [cdA, go_sem, Go.Proofs.Tryz.f38, hck, cdN, reduceIte, reduceCtorEq, Nat.reduceEqDiff, Nat.reduceAdd, Nat.reduceLeDiff, Nat.reduceSub, Nat.reduceMul, Nat.reduceLT, Nat.reduceShiftRight, Nat.reduceMod, Int.reduceLE, Int.reduceLT, Int.reduceToNat, List.cons.injEq, cdB]
  refine ac39 wpay_T_ok (Nat.le_of_ble_eq_true rfl) ?_
  simp -implicitDefEqProofs only [cdA, go_sem, Go.Proofs.Tryz.f39, reduceIte, reduceCtorEq, Nat.reduceEqDiff, Nat.reduceAdd, Nat.reduceLeDiff, Nat.reduceSub, Nat.reduceMul, Nat.reduceLT, Nat.reduceShiftRight, Nat.reduceMod, Int.reduceLE, Int.reduceLT, Int.reduceToNat, List.cons.injEq, cdB]
  have eC : lholdL v.c (firstL v.c v.w n).1 v.next n = payC v n := rfl
  rw [eC]
  refine ⟨fun hho => ?_, fun hho => ?_⟩
  rotate_left 1
  · skip
    refine ac41 wpay_T_ok (Nat.le_of_ble_eq_true rfl) ?_
    simp -implicitDefEqProofs only [cdA, go_sem, Go.Proofs.Tryz.f41, reduceIte, reduceCtorEq, Nat.reduceEqDiff, Nat.reduceAdd, Nat.reduceLeDiff, Nat.reduceSub, Nat.reduceMul, Nat.reduceLT, Nat.reduceShiftRight, Nat.reduceMod, Int.reduceLE, Int.reduceLT, Int.reduceToNat, List.cons.injEq, cdB]
    refine ac83 wpay_T_ok (Nat.le_of_ble_eq_true rfl) ?_
    simp -implicitDefEqProofs only [cdA, go_sem, Go.Proofs.Tryz.f83, hho, cdN, reduceIte, reduceCtorEq, Nat.reduceEqDiff, Nat.reduceAdd, Nat.reduceLeDiff, Nat.reduceSub, Nat.reduceMul, Nat.reduceLT, Nat.reduceShiftRight, Nat.reduceMod, Int.reduceLE, Int.reduceLT, Int.reduceToNat, List.cons.injEq, cdB]
    refine ac42 wpay_T_ok (Nat.le_of_ble_eq_true rfl) ?_
    simp -implicitDefEqProofs only [cdA, go_sem, Go.Proofs.Tryz.f42, hho, cdN, reduceIte, reduceCtorEq, Nat.reduceEqDiff, Nat.reduceAdd, Nat.reduceLeDiff, Nat.reduceSub, Nat.reduceMul, Nat.reduceLT, Nat.reduceShiftRight, Nat.reduceMod, Int.reduceLE, Int.reduceLT, Int.reduceToNat, List.cons.injEq, cdB]
    refine ADraw.run us42_2 wpay_T_ok follows_mixed (by kernel_rfl) (by kernel_rfl) ?_
    simp -implicitDefEqProofs only [cdA, go_sem, hho, cdN, reduceIte, reduceCtorEq, Nat.reduceEqDiff, Nat.reduceAdd, Nat.reduceLeDiff, Nat.reduceSub, Nat.reduceMul, Nat.reduceLT, Nat.reduceShiftRight, Nat.reduceMod, Int.reduceLE, Int.reduceLT, Int.reduceToNat, List.cons.injEq, cdB]
    exact hbad _ (by rw [payE, if_neg hA, if_neg (fun h => h hfe), if_neg hnx, if_neg (fun h => h hst), if_pos hho]) hho
  refine ac41 wpay_T_ok (Nat.le_of_ble_eq_true rfl) ?_
  simp -implicitDefEqProofs only [cdA, go_sem, Go.Proofs.Tryz.f41, reduceIte, reduceCtorEq, Nat.reduceEqDiff, Nat.reduceAdd, Nat.reduceLeDiff, Nat.reduceSub, Nat.reduceMul, Nat.reduceLT, Nat.reduceShiftRight, Nat.reduceMod, Int.reduceLE, Int.reduceLT, Int.reduceToNat, List.cons.injEq, cdB]
  refine ac83 wpay_T_ok (Nat.le_of_ble_eq_true rfl) ?_
  simp -implicitDefEqProofs only [cdA, go_sem, Go.Proofs.Tryz.f83, hck, cdN, reduceIte, reduceCtorEq, Nat.reduceEqDiff, Nat.reduceAdd, Nat.reduceLeDiff, Nat.reduceSub, Nat.reduceMul, Nat.reduceLT, Nat.reduceShiftRight, Nat.reduceMod, Int.reduceLE, Int.reduceLT, Int.reduceToNat, List.cons.injEq, cdB]
  refine ac84 wpay_T_ok (Nat.le_of_ble_eq_true rfl) ?_
  simp -implicitDefEqProofs only [cdA, go_sem, Go.Proofs.Tryz.f84, reduceIte, reduceCtorEq, Nat.reduceEqDiff, Nat.reduceAdd, Nat.reduceLeDiff, Nat.reduceSub, Nat.reduceMul, Nat.reduceLT, Nat.reduceShiftRight, Nat.reduceMod, Int.reduceLE, Int.reduceLT, Int.reduceToNat, List.cons.injEq, cdB]
  have eF : addF v.f 0 v.next n = payF v n := rfl
  have hv := hok.2.2.2.2.2.1
  unfold MM at hv
  rw [eF, show IntKind.u64.wrap ((v.next : Int) + 1) = ((v.next + 1 : Nat) : Int) by rw [u64_in _ (by omega)]; omega]
  refine ⟨h, fun hfd => ?_, fun hfd => ?_⟩
  rotate_left 1
  · skip
    refine ac42 wpay_T_ok (Nat.le_of_ble_eq_true rfl) ?_
    simp -implicitDefEqProofs only [cdA, go_sem, Go.Proofs.Tryz.f42, hfd, cdN, reduceIte, reduceCtorEq, Nat.reduceEqDiff, Nat.reduceAdd, Nat.reduceLeDiff, Nat.reduceSub, Nat.reduceMul, Nat.reduceLT, Nat.reduceShiftRight, Nat.reduceMod, Int.reduceLE, Int.reduceLT, Int.reduceToNat, List.cons.injEq, cdB]
    refine ADraw.run us42_2 wpay_T_ok follows_mixed (by kernel_rfl) (by kernel_rfl) ?_
    simp -implicitDefEqProofs only [cdA, go_sem, hfd, cdN, reduceIte, reduceCtorEq, Nat.reduceEqDiff, Nat.reduceAdd, Nat.reduceLeDiff, Nat.reduceSub, Nat.reduceMul, Nat.reduceLT, Nat.reduceShiftRight, Nat.reduceMod, Int.reduceLE, Int.reduceLT, Int.reduceToNat, List.cons.injEq, cdB]
    exact hbad _ (by rw [payE, if_neg hA, if_neg (fun h => h hfe), if_neg hnx, if_neg (fun h => h hst), if_neg (fun h => h hho)]) hfd
  have hsm : smallW ⟨(payC v n).1, v.w, v.i, (payP v hash n).1, (payF v n).1, v.next + 1, v.tick⟩ := by
    have h1 := lhold_fine hho
    have h2 := small_ok hok
    have h3 := start_len (l := v.p) (p := ⟨v.next, hash, (firstL v.c v.w n).1, n, 1⟩)
    have h4 := add_len (f := v.f) (k := 0) (a := v.next) (n := n)
    refine ⟨by have := h1.1; show (payC v n).1.length ≤ _; unfold payC; omega, fun c hc => by have := (h1.2.1 c hc).2.2.1; omega, h2.2.2.1, h2.2.2.2.1, by show (payP v hash n).1.length ≤ _; unfold payP; omega, by show (payF v n).1.l.length ≤ _; unfold payF; omega⟩
  have hfin : payW v hash n = (⟨(payC v n).1, v.w, v.i, (payP v hash n).1, (payF v n).1, v.next + 1, v.tick⟩, v.next, 0) := by
    have : payE v hash n = 0 := by rw [payE, if_neg hA, if_neg (fun h => h hfe), if_neg hnx, if_neg (fun h => h hst), if_neg (fun h => h hho)]; exact hfd
    rw [payW, if_pos this]
  have en : ((v.next : Int) + 1).toNat = v.next + 1 := by omega
  have en2 : ((v.next : Int) + 1 = ((v.next + 1 : Nat) : Int)) = True := eq_true (by omega)
  refine ac42 wpay_T_ok (Nat.le_of_ble_eq_true rfl) ?_
  simp -implicitDefEqProofs only [cdA, go_sem, Go.Proofs.Tryz.f42, hck, en, en2, eq_true hsm, cdN, reduceIte, reduceCtorEq, Nat.reduceEqDiff, Nat.reduceAdd, Nat.reduceLeDiff, Nat.reduceSub, Nat.reduceMul, Nat.reduceLT, Nat.reduceShiftRight, Nat.reduceMod, Int.reduceLE, Int.reduceLT, Int.reduceToNat, List.cons.injEq, cdB]
  refine ADraw.run us12_13 wpay_T_ok follows_mixed (by kernel_rfl) (by kernel_rfl) ?_
  simp -implicitDefEqProofs only [cdA, go_sem, reduceIte, reduceCtorEq, Nat.reduceEqDiff, Nat.reduceAdd, Nat.reduceLeDiff, Nat.reduceSub, Nat.reduceMul, Nat.reduceLT, Nat.reduceShiftRight, Nat.reduceMod, Int.reduceLE, Int.reduceLT, Int.reduceToNat, List.cons.injEq, cdB]
  rw [hfin]
  exact ⟨⟨rfl, rfl, rfl, rfl, rfl, rfl, by dsimp only; omega, rfl⟩, rfl, rfl⟩
@[go_sem] def wpay_p (v : Wl) (hash : Nat) (n : Nat) : Prop := (v.f.next ≤ 18446744073709551615)
def sp_wpay : List D → Option (Prop × D × Fr)
  | [.agg [.c (.sl z324), .c (.sl z325), .c (.sl z326), .c (.sl z327), .c (.int .u64 z329), .c (.sl z330), .c (.int .u64 z331), .c (.int .u64 z332)], .c (.int .u64 z333), .c (.int .u64 z334)] => some (z324 = chs (dchs z324) ∧ z325 = wts (dwts z325) ∧ z326 = ivs (divs z326) ∧ z327 = pys (dpys z327) ∧ z329 = (z329.toNat : Int) ∧ z330 = evs (devs z330) ∧ z331 = (z331.toNat : Int) ∧ z332 = (z332.toNat : Int) ∧ z333 = (z333.toNat : Int) ∧ z334 = (z334.toNat : Int) ∧ wpay_p (⟨(dchs z324), (dwts z325), (divs z326), (dpys z327), (⟨z329.toNat, (devs z330)⟩ : Fd), z331.toNat, z332.toNat⟩ : Wl) z333.toNat z334.toNat, wpay_r (⟨(dchs z324), (dwts z325), (divs z326), (dpys z327), (⟨z329.toNat, (devs z330)⟩ : Fd), z331.toNat, z332.toNat⟩ : Wl) z333.toNat z334.toNat, [])
  | _ => none
attribute [go_sem] sp_wpay
theorem sp_wpay_ok : ∀ rs p r fr, sp_wpay rs = some (p, r, fr) → p → FnOk Tryz.prog 12 rs r fr := by
  intro rs p r fr h hp
  unfold sp_wpay at h
  split at h <;> cases h
  obtain ⟨hc0, hc1, hc2, hc3, hc4, hc5, hc6, hc7, hc8, hc9, hp⟩ := hp
  rename_i z324 z325 z326 z327 z329 z330 z331 z332 z333 z334
  obtain ⟨z324, rfl⟩ : ∃ m, z324 = chs m := ⟨_, hc0⟩
  obtain ⟨z325, rfl⟩ : ∃ m, z325 = wts m := ⟨_, hc1⟩
  obtain ⟨z326, rfl⟩ : ∃ m, z326 = ivs m := ⟨_, hc2⟩
  obtain ⟨z327, rfl⟩ : ∃ m, z327 = pys m := ⟨_, hc3⟩
  obtain ⟨z329, rfl⟩ : ∃ m : Nat, z329 = m := ⟨_, hc4⟩
  obtain ⟨z330, rfl⟩ : ∃ m, z330 = evs m := ⟨_, hc5⟩
  obtain ⟨z331, rfl⟩ : ∃ m : Nat, z331 = m := ⟨_, hc6⟩
  obtain ⟨z332, rfl⟩ : ∃ m : Nat, z332 = m := ⟨_, hc7⟩
  obtain ⟨z333, rfl⟩ : ∃ m : Nat, z333 = m := ⟨_, hc8⟩
  obtain ⟨z334, rfl⟩ : ∃ m : Nat, z334 = m := ⟨_, hc9⟩
  simp only [Int.toNat_natCast, dchs_chs, devs_evs, divs_ivs, dpys_pys, dwts_wts]
  simp only [Int.toNat_natCast, dchs_chs, devs_evs, divs_ivs, dpys_pys, dwts_wts, wpay_p] at hp
  exact wpay_ok ⟨z324, z325, z326, z327, ⟨z329, z330⟩, z331, z332⟩ z333 z334 hp
end Dm
namespace Dm
open Go Go.Proofs Go.IntWalk
def wopC (v : Wl) (c : Ch) : List Ch × Int := openL v.c c
def wopF (v : Wl) (c : Ch) : Fd × Nat × Int := addF v.f 6 c.id c.loc
def wopE (v : Wl) (c : Ch) : Int := if ¬ okW v then 1 else if (wopC v c).2 ≠ 0 then (wopC v c).2 else (wopF v c).2.2
def wopW (v : Wl) (c : Ch) : Wl × Int := if wopE v c = 0 then (⟨(wopC v c).1, v.w, v.i, v.p, (wopF v c).1, v.next, v.tick⟩, 0) else (zeroW, wopE v c)
theorem open_fine {l : List Ch} {c : Ch} (h : (openL l c).2 = 0) : okLd (openL l c).1 := by
  unfold openL at h ⊢
  split at h
  · cases h
  split at h
  · cases h
  split at h
  · cases h
  split at h
  · rename_i h1 h2 h3 h4
    rw [if_neg h1, if_neg h2, if_neg h3, if_pos h4]; exact h4
  · cases h
@[go_sem] def wopen_r (v : Wl) (c : Ch) : D := .tup [.agg [.sl (chs (wopW v c).1.c), .sl (wts (wopW v c).1.w), .sl (ivs (wopW v c).1.i), .sl (pys (wopW v c).1.p), .int .u64 (wopW v c).1.f.next, .sl (evs (wopW v c).1.f.l), .int .u64 (wopW v c).1.next, .int .u64 (wopW v c).1.tick], .int .i64 (wopW v c).2]
@[go_sem] abbrev n_wopen : FuncId := 25
@[go_sem] def wopen_T : Tab := [(14, sp_wcheck), (68, sp_lopen), (85, sp_fadd), (86, sp_wown)]
theorem wopen_T_ok : TabOk Tryz.prog wopen_T := (TabOk.cons sp_wcheck_ok (TabOk.cons sp_lopen_ok (TabOk.cons sp_fadd_ok (TabOk.cons sp_wown_ok TabOk.nil))))
set_option maxRecDepth 8000 in
set_option maxHeartbeats 1000000 in
theorem wopen_ok (v : Wl) (c : Ch) (h : v.f.next ≤ 18446744073709551615) : PureFn Tryz.prog 25 [.agg [.sl (chs v.c), .sl (wts v.w), .sl (ivs v.i), .sl (pys v.p), .c (.int .u64 (v.f.next : Int)), .sl (evs v.f.l), .c (.int .u64 (v.next : Int)), .c (.int .u64 (v.tick : Int))], .agg [.c (.int .u64 (c.id : Int)), .c (.int .u64 (c.loc : Int)), .c (.int .u64 (c.rem : Int)), .c (.int .u64 (c.res : Int)), .c (.int .u64 (c.most : Int)), .sl (hds c.holds), .c (.bool c.op)]] (wopen_r v c) := by
  refine .of (ac25 wopen_T_ok (Nat.le_of_ble_eq_true rfl) ?_)
  simp -implicitDefEqProofs only [cdA, go_sem, Go.Proofs.Tryz.f25, reduceIte, reduceCtorEq, Nat.reduceEqDiff, Nat.reduceAdd, Nat.reduceLeDiff, Nat.reduceSub, Nat.reduceMul, Nat.reduceLT, Nat.reduceShiftRight, Nat.reduceMod, Int.reduceLE, Int.reduceLT, Int.reduceToNat, List.cons.injEq, cdB]
  refine ac32 wopen_T_ok (Nat.le_of_ble_eq_true rfl) ?_
  simp -implicitDefEqProofs only [cdA, go_sem, Go.Proofs.Tryz.f32, reduceIte, reduceCtorEq, Nat.reduceEqDiff, Nat.reduceAdd, Nat.reduceLeDiff, Nat.reduceSub, Nat.reduceMul, Nat.reduceLT, Nat.reduceShiftRight, Nat.reduceMod, Int.reduceLE, Int.reduceLT, Int.reduceToNat, List.cons.injEq, cdB]
  refine ADraw.run us32_1 wopen_T_ok follows_mixed (by kernel_rfl) (by kernel_rfl) ?_
  simp -implicitDefEqProofs only [cdA, go_sem, reduceIte, reduceCtorEq, Nat.reduceEqDiff, Nat.reduceAdd, Nat.reduceLeDiff, Nat.reduceSub, Nat.reduceMul, Nat.reduceLT, Nat.reduceShiftRight, Nat.reduceMod, Int.reduceLE, Int.reduceLT, Int.reduceToNat, List.cons.injEq, cdB]
  refine ⟨h, ?_⟩
  have hbad : ∀ e : Int, wopE v c = e → ¬ e = 0 → (chs (wopW v c).1.c = [] ∧ wts (wopW v c).1.w = [] ∧ ivs (wopW v c).1.i = [] ∧ pys (wopW v c).1.p = [] ∧ 0 = ((wopW v c).1.f.next : Int) ∧ evs (wopW v c).1.f.l = [] ∧ 0 = ((wopW v c).1.next : Int) ∧ 0 = ((wopW v c).1.tick : Int)) ∧ e = (wopW v c).2 := fun e h1 h2 => by
    have : wopW v c = (zeroW, e) := by rw [wopW, if_neg (by rw [h1]; exact h2), h1]
    rw [this]; exact ⟨⟨rfl, rfl, rfl, rfl, rfl, rfl, rfl, rfl⟩, rfl⟩
  by_cases hok : okW v
  rotate_left 1
  · have hck : (chkW v = 0) = False := eq_false fun h => hok (chkW_0.1 h)
    have he : wopE v c = 1 := by rw [wopE, if_pos hok]
    have hc1 : chkW v = 1 := by rw [chkW, if_neg hok]
    skip
    refine ac38 wopen_T_ok (Nat.le_of_ble_eq_true rfl) ?_
    simp -implicitDefEqProofs only [cdA, go_sem, Go.Proofs.Tryz.f38, hck, cdN, reduceIte, reduceCtorEq, Nat.reduceEqDiff, Nat.reduceAdd, Nat.reduceLeDiff, Nat.reduceSub, Nat.reduceMul, Nat.reduceLT, Nat.reduceShiftRight, Nat.reduceMod, Int.reduceLE, Int.reduceLT, Int.reduceToNat, List.cons.injEq, cdB]
    refine ac41 wopen_T_ok (Nat.le_of_ble_eq_true rfl) ?_
    simp -implicitDefEqProofs only [cdA, go_sem, Go.Proofs.Tryz.f41, reduceIte, reduceCtorEq, Nat.reduceEqDiff, Nat.reduceAdd, Nat.reduceLeDiff, Nat.reduceSub, Nat.reduceMul, Nat.reduceLT, Nat.reduceShiftRight, Nat.reduceMod, Int.reduceLE, Int.reduceLT, Int.reduceToNat, List.cons.injEq, cdB]
    refine ac83 wopen_T_ok (Nat.le_of_ble_eq_true rfl) ?_
    simp -implicitDefEqProofs only [cdA, go_sem, Go.Proofs.Tryz.f83, hck, cdN, reduceIte, reduceCtorEq, Nat.reduceEqDiff, Nat.reduceAdd, Nat.reduceLeDiff, Nat.reduceSub, Nat.reduceMul, Nat.reduceLT, Nat.reduceShiftRight, Nat.reduceMod, Int.reduceLE, Int.reduceLT, Int.reduceToNat, List.cons.injEq, cdB]
    refine ac42 wopen_T_ok (Nat.le_of_ble_eq_true rfl) ?_
    simp -implicitDefEqProofs only [cdA, go_sem, Go.Proofs.Tryz.f42, hck, cdN, reduceIte, reduceCtorEq, Nat.reduceEqDiff, Nat.reduceAdd, Nat.reduceLeDiff, Nat.reduceSub, Nat.reduceMul, Nat.reduceLT, Nat.reduceShiftRight, Nat.reduceMod, Int.reduceLE, Int.reduceLT, Int.reduceToNat, List.cons.injEq, cdB]
    refine ADraw.run us42_2 wopen_T_ok follows_mixed (by kernel_rfl) (by kernel_rfl) ?_
    simp -implicitDefEqProofs only [cdA, go_sem, hck, cdN, reduceIte, reduceCtorEq, Nat.reduceEqDiff, Nat.reduceAdd, Nat.reduceLeDiff, Nat.reduceSub, Nat.reduceMul, Nat.reduceLT, Nat.reduceShiftRight, Nat.reduceMod, Int.reduceLE, Int.reduceLT, Int.reduceToNat, List.cons.injEq, cdB]
    exact hbad _ (he.trans hc1.symm) (by rw [hc1]; decide)
  have hck : (chkW v = 0) = True := eq_true (chkW_0.2 hok)
  refine ac38 wopen_T_ok (Nat.le_of_ble_eq_true rfl) ?_
  simp -implicitDefEqProofs only [cdA, go_sem, Go.Proofs.Tryz.f38, hck, cdN, reduceIte, reduceCtorEq, Nat.reduceEqDiff, Nat.reduceAdd, Nat.reduceLeDiff, Nat.reduceSub, Nat.reduceMul, Nat.reduceLT, Nat.reduceShiftRight, Nat.reduceMod, Int.reduceLE, Int.reduceLT, Int.reduceToNat, List.cons.injEq, cdB]
  refine ac67 wopen_T_ok (Nat.le_of_ble_eq_true rfl) ?_
  simp -implicitDefEqProofs only [cdA, go_sem, Go.Proofs.Tryz.f67, reduceIte, reduceCtorEq, Nat.reduceEqDiff, Nat.reduceAdd, Nat.reduceLeDiff, Nat.reduceSub, Nat.reduceMul, Nat.reduceLT, Nat.reduceShiftRight, Nat.reduceMod, Int.reduceLE, Int.reduceLT, Int.reduceToNat, List.cons.injEq, cdB]
  have eC : openL v.c c = wopC v c := rfl
  rw [eC]
  refine ⟨fun hst => ?_, fun hst => ?_⟩
  rotate_left 1
  · skip
    refine ac41 wopen_T_ok (Nat.le_of_ble_eq_true rfl) ?_
    simp -implicitDefEqProofs only [cdA, go_sem, Go.Proofs.Tryz.f41, reduceIte, reduceCtorEq, Nat.reduceEqDiff, Nat.reduceAdd, Nat.reduceLeDiff, Nat.reduceSub, Nat.reduceMul, Nat.reduceLT, Nat.reduceShiftRight, Nat.reduceMod, Int.reduceLE, Int.reduceLT, Int.reduceToNat, List.cons.injEq, cdB]
    refine ac83 wopen_T_ok (Nat.le_of_ble_eq_true rfl) ?_
    simp -implicitDefEqProofs only [cdA, go_sem, Go.Proofs.Tryz.f83, hst, cdN, reduceIte, reduceCtorEq, Nat.reduceEqDiff, Nat.reduceAdd, Nat.reduceLeDiff, Nat.reduceSub, Nat.reduceMul, Nat.reduceLT, Nat.reduceShiftRight, Nat.reduceMod, Int.reduceLE, Int.reduceLT, Int.reduceToNat, List.cons.injEq, cdB]
    refine ac42 wopen_T_ok (Nat.le_of_ble_eq_true rfl) ?_
    simp -implicitDefEqProofs only [cdA, go_sem, Go.Proofs.Tryz.f42, hst, cdN, reduceIte, reduceCtorEq, Nat.reduceEqDiff, Nat.reduceAdd, Nat.reduceLeDiff, Nat.reduceSub, Nat.reduceMul, Nat.reduceLT, Nat.reduceShiftRight, Nat.reduceMod, Int.reduceLE, Int.reduceLT, Int.reduceToNat, List.cons.injEq, cdB]
    refine ADraw.run us42_2 wopen_T_ok follows_mixed (by kernel_rfl) (by kernel_rfl) ?_
    simp -implicitDefEqProofs only [cdA, go_sem, hst, cdN, reduceIte, reduceCtorEq, Nat.reduceEqDiff, Nat.reduceAdd, Nat.reduceLeDiff, Nat.reduceSub, Nat.reduceMul, Nat.reduceLT, Nat.reduceShiftRight, Nat.reduceMod, Int.reduceLE, Int.reduceLT, Int.reduceToNat, List.cons.injEq, cdB]
    exact hbad _ (by rw [wopE, if_neg (fun h => h hok), if_pos hst]) hst
  refine ac41 wopen_T_ok (Nat.le_of_ble_eq_true rfl) ?_
  simp -implicitDefEqProofs only [cdA, go_sem, Go.Proofs.Tryz.f41, reduceIte, reduceCtorEq, Nat.reduceEqDiff, Nat.reduceAdd, Nat.reduceLeDiff, Nat.reduceSub, Nat.reduceMul, Nat.reduceLT, Nat.reduceShiftRight, Nat.reduceMod, Int.reduceLE, Int.reduceLT, Int.reduceToNat, List.cons.injEq, cdB]
  refine ac83 wopen_T_ok (Nat.le_of_ble_eq_true rfl) ?_
  simp -implicitDefEqProofs only [cdA, go_sem, Go.Proofs.Tryz.f83, hck, cdN, reduceIte, reduceCtorEq, Nat.reduceEqDiff, Nat.reduceAdd, Nat.reduceLeDiff, Nat.reduceSub, Nat.reduceMul, Nat.reduceLT, Nat.reduceShiftRight, Nat.reduceMod, Int.reduceLE, Int.reduceLT, Int.reduceToNat, List.cons.injEq, cdB]
  refine ac84 wopen_T_ok (Nat.le_of_ble_eq_true rfl) ?_
  simp -implicitDefEqProofs only [cdA, go_sem, Go.Proofs.Tryz.f84, reduceIte, reduceCtorEq, Nat.reduceEqDiff, Nat.reduceAdd, Nat.reduceLeDiff, Nat.reduceSub, Nat.reduceMul, Nat.reduceLT, Nat.reduceShiftRight, Nat.reduceMod, Int.reduceLE, Int.reduceLT, Int.reduceToNat, List.cons.injEq, cdB]
  have eF : addF v.f 6 c.id c.loc = wopF v c := rfl
  rw [eF]
  refine ⟨h, fun hfd => ?_, fun hfd => ?_⟩
  rotate_left 1
  · skip
    refine ac42 wopen_T_ok (Nat.le_of_ble_eq_true rfl) ?_
    simp -implicitDefEqProofs only [cdA, go_sem, Go.Proofs.Tryz.f42, hfd, cdN, reduceIte, reduceCtorEq, Nat.reduceEqDiff, Nat.reduceAdd, Nat.reduceLeDiff, Nat.reduceSub, Nat.reduceMul, Nat.reduceLT, Nat.reduceShiftRight, Nat.reduceMod, Int.reduceLE, Int.reduceLT, Int.reduceToNat, List.cons.injEq, cdB]
    refine ADraw.run us42_2 wopen_T_ok follows_mixed (by kernel_rfl) (by kernel_rfl) ?_
    simp -implicitDefEqProofs only [cdA, go_sem, hfd, cdN, reduceIte, reduceCtorEq, Nat.reduceEqDiff, Nat.reduceAdd, Nat.reduceLeDiff, Nat.reduceSub, Nat.reduceMul, Nat.reduceLT, Nat.reduceShiftRight, Nat.reduceMod, Int.reduceLE, Int.reduceLT, Int.reduceToNat, List.cons.injEq, cdB]
    exact hbad _ (by rw [wopE, if_neg (fun h => h hok), if_neg (fun h => h hst)]) hfd
  have hsm : smallW ⟨(wopC v c).1, v.w, v.i, v.p, (wopF v c).1, v.next, v.tick⟩ := by
    have h1 := open_fine hst
    have h2 := small_ok hok
    have h4 := add_len (f := v.f) (k := 6) (a := c.id) (n := c.loc)
    refine ⟨by have := h1.1; show (wopC v c).1.length ≤ _; unfold wopC; omega, fun d hd => by have := (h1.2.1 d hd).2.2.1; omega, h2.2.2.1, h2.2.2.2.1, h2.2.2.2.2.1, by show (wopF v c).1.l.length ≤ _; unfold wopF; omega⟩
  have hfin : wopW v c = (⟨(wopC v c).1, v.w, v.i, v.p, (wopF v c).1, v.next, v.tick⟩, 0) := by
    have : wopE v c = 0 := by rw [wopE, if_neg (fun h => h hok), if_neg (fun h => h hst)]; exact hfd
    rw [wopW, if_pos this]
  refine ac42 wopen_T_ok (Nat.le_of_ble_eq_true rfl) ?_
  simp -implicitDefEqProofs only [cdA, go_sem, Go.Proofs.Tryz.f42, hck, eq_true hsm, cdN, reduceIte, reduceCtorEq, Nat.reduceEqDiff, Nat.reduceAdd, Nat.reduceLeDiff, Nat.reduceSub, Nat.reduceMul, Nat.reduceLT, Nat.reduceShiftRight, Nat.reduceMod, Int.reduceLE, Int.reduceLT, Int.reduceToNat, List.cons.injEq, cdB]
  rw [hfin]
  exact ⟨⟨rfl, rfl, rfl, rfl, rfl, rfl, rfl, rfl⟩, rfl⟩
@[go_sem] def wopen_p (v : Wl) (c : Ch) : Prop := (v.f.next ≤ 18446744073709551615)
def sp_wopen : List D → Option (Prop × D × Fr)
  | [.agg [.c (.sl z381), .c (.sl z382), .c (.sl z383), .c (.sl z384), .c (.int .u64 z386), .c (.sl z387), .c (.int .u64 z388), .c (.int .u64 z389)], .agg [.c (.int .u64 z391), .c (.int .u64 z392), .c (.int .u64 z393), .c (.int .u64 z394), .c (.int .u64 z395), .c (.sl z396), .c (.bool z397)]] => some (z381 = chs (dchs z381) ∧ z382 = wts (dwts z382) ∧ z383 = ivs (divs z383) ∧ z384 = pys (dpys z384) ∧ z386 = (z386.toNat : Int) ∧ z387 = evs (devs z387) ∧ z388 = (z388.toNat : Int) ∧ z389 = (z389.toNat : Int) ∧ z391 = (z391.toNat : Int) ∧ z392 = (z392.toNat : Int) ∧ z393 = (z393.toNat : Int) ∧ z394 = (z394.toNat : Int) ∧ z395 = (z395.toNat : Int) ∧ z396 = hds (dhds z396) ∧ wopen_p (⟨(dchs z381), (dwts z382), (divs z383), (dpys z384), (⟨z386.toNat, (devs z387)⟩ : Fd), z388.toNat, z389.toNat⟩ : Wl) (⟨z391.toNat, z392.toNat, z393.toNat, z394.toNat, z395.toNat, (dhds z396), z397⟩ : Ch), wopen_r (⟨(dchs z381), (dwts z382), (divs z383), (dpys z384), (⟨z386.toNat, (devs z387)⟩ : Fd), z388.toNat, z389.toNat⟩ : Wl) (⟨z391.toNat, z392.toNat, z393.toNat, z394.toNat, z395.toNat, (dhds z396), z397⟩ : Ch), [])
  | _ => none
attribute [go_sem] sp_wopen
theorem sp_wopen_ok : ∀ rs p r fr, sp_wopen rs = some (p, r, fr) → p → FnOk Tryz.prog 25 rs r fr := by
  intro rs p r fr h hp
  unfold sp_wopen at h
  split at h <;> cases h
  obtain ⟨hc0, hc1, hc2, hc3, hc4, hc5, hc6, hc7, hc8, hc9, hc10, hc11, hc12, hc13, hp⟩ := hp
  rename_i z381 z382 z383 z384 z386 z387 z388 z389 z391 z392 z393 z394 z395 z396 z397
  obtain ⟨z381, rfl⟩ : ∃ m, z381 = chs m := ⟨_, hc0⟩
  obtain ⟨z382, rfl⟩ : ∃ m, z382 = wts m := ⟨_, hc1⟩
  obtain ⟨z383, rfl⟩ : ∃ m, z383 = ivs m := ⟨_, hc2⟩
  obtain ⟨z384, rfl⟩ : ∃ m, z384 = pys m := ⟨_, hc3⟩
  obtain ⟨z386, rfl⟩ : ∃ m : Nat, z386 = m := ⟨_, hc4⟩
  obtain ⟨z387, rfl⟩ : ∃ m, z387 = evs m := ⟨_, hc5⟩
  obtain ⟨z388, rfl⟩ : ∃ m : Nat, z388 = m := ⟨_, hc6⟩
  obtain ⟨z389, rfl⟩ : ∃ m : Nat, z389 = m := ⟨_, hc7⟩
  obtain ⟨z391, rfl⟩ : ∃ m : Nat, z391 = m := ⟨_, hc8⟩
  obtain ⟨z392, rfl⟩ : ∃ m : Nat, z392 = m := ⟨_, hc9⟩
  obtain ⟨z393, rfl⟩ : ∃ m : Nat, z393 = m := ⟨_, hc10⟩
  obtain ⟨z394, rfl⟩ : ∃ m : Nat, z394 = m := ⟨_, hc11⟩
  obtain ⟨z395, rfl⟩ : ∃ m : Nat, z395 = m := ⟨_, hc12⟩
  obtain ⟨z396, rfl⟩ : ∃ m, z396 = hds m := ⟨_, hc13⟩
  simp only [Int.toNat_natCast, dchs_chs, devs_evs, dhds_hds, divs_ivs, dpys_pys, dwts_wts]
  simp only [Int.toNat_natCast, dchs_chs, devs_evs, dhds_hds, divs_ivs, dpys_pys, dwts_wts, wopen_p] at hp
  exact wopen_ok ⟨z381, z382, z383, z384, ⟨z386, z387⟩, z388, z389⟩ ⟨z391, z392, z393, z394, z395, z396, z397⟩ hp
end Dm
namespace Dm
open Go Go.Proofs Go.IntWalk
structure It where
  hash : Nat
  n : Nat
deriving DecidableEq, Inhabited
@[go_sem] def It.enc (e : It) : List C := [.int .u64 (e.hash : Int), .int .u64 (e.n : Int)]
def It.dec : List C → It
  | [.int .u64 z336, .int .u64 z337] => (⟨z336.toNat, z337.toNat⟩ : It)
  | _ => default
def its (l : List It) : List (List C) := l.map It.enc
def dits (l : List (List C)) : List It := l.map It.dec
@[simp, go_sem] theorem its_length (l : List It) : (its l).length = l.length := by simp [its]
@[go_sem] theorem its_get (l : List It) (i : Nat) : (its l).getD i [.int .u64 0, .int .u64 0] = (l.getD i default).enc := by
  simp only [its, List.getD_eq_getElem?_getD, List.getElem?_map]
  cases l[i]? <;> rfl
@[go_sem] theorem its_wide (l : List It) : Wide 2 (its l) = True := by
  simp [Wide, its, It.enc]
theorem It.dec_enc (e : It) : It.dec e.enc = e := by
  simp [It.enc, It.dec]
@[go_sem] theorem dits_its (l : List It) : dits (its l) = l := by
  simp only [dits, its, List.map_map]
  exact List.map_id'' (fun e => It.dec_enc e) l
@[go_sem] theorem its_app (a b : List It) : its a ++ its b = its (a ++ b) := by simp [its]
@[go_sem] theorem its_drop (l : List It) (k : Nat) : (its l).drop k = its (l.drop k) := by simp [its]
@[go_sem] theorem its_take (l : List It) (k : Nat) : (its l).take k = its (l.take k) := by simp [its]
@[go_sem] theorem its_one (z338 : Int) (z339 : Int) (hz338 : 0 ≤ z338) (hz339 : 0 ≤ z339) : [[C.int .u64 z338, C.int .u64 z339]] = its [⟨z338.toNat, z339.toNat⟩] := by simp [its, It.enc, Int.toNat_of_nonneg hz338, Int.toNat_of_nonneg hz339]
@[go_sem] theorem its_set (l : List It) (i : Nat) (z338 : Int) (z339 : Int) (hz338 : 0 ≤ z338) (hz339 : 0 ≤ z339) : (its l).set i [C.int .u64 z338, C.int .u64 z339] = its (l.set i ⟨z338.toNat, z339.toNat⟩) := by simp [its, List.map_set, It.enc, Int.toNat_of_nonneg hz338, Int.toNat_of_nonneg hz339]
@[go_sem] theorem its_cons (l : List It) (z338 : Int) (z339 : Int) (hz338 : 0 ≤ z338) (hz339 : 0 ≤ z339) : [C.int .u64 z338, C.int .u64 z339] :: its l = its (⟨z338.toNat, z339.toNat⟩ :: l) := by simp [its, It.enc, Int.toNat_of_nonneg hz338, Int.toNat_of_nonneg hz339]
@[go_sem] theorem its_flat (l : List It) : flatE (its l) = True := eq_true fun x hx c hc => by
  obtain ⟨e, _, rfl⟩ := List.mem_map.1 hx
  simp only [It.enc, List.mem_cons, List.not_mem_nil, or_false] at hc
  rcases hc with rfl | rfl <;> rfl
@[go_sem] theorem It.eta {e : It} : (⟨e.hash, e.n⟩ : It) = e := rfl
@[go_sem] theorem It.eqD {a b : It} : eqD Tryz.prog 44 [D.c (.int .u64 (a.hash : Int)), D.c (.int .u64 (a.n : Int))] [D.c (.int .u64 (b.hash : Int)), D.c (.int .u64 (b.n : Int))] = some (decide (a = b)) := by
  cases a; cases b
  simp only [Dm.eqD, eqOf_44, eqCells, eqC, List.getElem?_cons_zero, List.getElem?_cons_succ, if_true, Option.some.injEq, It.mk.injEq]
  rw [Bool.eq_iff_iff]
  simp [Int.ofNat_inj]
def okIt (x : It) : Prop := x.n ≠ 0 ∧ x.n ≤ MM
instance (x : It) : Decidable (okIt x) := by unfold okIt; infer_instance
def totI (l : List It) : Nat := (l.map It.n).sum
def sumB (l : List It) : Nat × Int := if l.length ≠ 0 ∧ l.length ≤ 16 ∧ ∀ x ∈ l, okIt x then (if totI l ≤ MM then (totI l, 0) else (0, 8)) else (0, 1)
theorem totI_succ {l : List It} {i : Nat} (h : i < l.length) : totI (l.take (i + 1)) = totI (l.take i) + (l.getD i default).n := by
  rw [take_succ h, totI, List.map_append, List.sum_append]; simp [totI]
theorem totI_le {l : List It} {i : Nat} : totI (l.take i) ≤ totI l := by
  conv => rhs; rw [← List.take_append_drop i l, totI, List.map_append, List.sum_append]
  exact Nat.le_add_right _ _
@[go_sem] def bsum_r (l : List It) : D := .tup [.int .u64 ((sumB l).1 : Int), .int .i64 (sumB l).2]
@[go_sem] abbrev n_bsum : FuncId := 11
@[go_sem] def bsum_T : Tab := [(29, sp_moncheck), (31, sp_monadd)]
theorem bsum_T_ok : TabOk Tryz.prog bsum_T := (TabOk.cons sp_moncheck_ok (TabOk.cons sp_monadd_ok TabOk.nil))
set_option maxRecDepth 8000 in
set_option maxHeartbeats 1000000 in
theorem bsum_ok (l : List It)  : PureFn Tryz.prog 11 [.sl (its l)] (bsum_r l) := by
  refine .of (ac11 bsum_T_ok (Nat.le_of_ble_eq_true rfl) ?_)
  simp -implicitDefEqProofs only [cdA, go_sem, Go.Proofs.Tryz.f11, reduceIte, reduceCtorEq, Nat.reduceEqDiff, Nat.reduceAdd, Nat.reduceLeDiff, Nat.reduceSub, Nat.reduceMul, Nat.reduceLT, Nat.reduceShiftRight, Nat.reduceMod, Int.reduceLE, Int.reduceLT, Int.reduceToNat, List.cons.injEq, cdB]
  have hbad : ¬ (l.length ≠ 0 ∧ l.length ≤ 16 ∧ ∀ x ∈ l, okIt x) → 0 = ((sumB l).1 : Int) ∧ 1 = (sumB l).2 := fun h => by rw [sumB, if_neg h]; exact ⟨rfl, rfl⟩
  refine fun _ => ⟨fun h1 _ => ⟨fun h2 => ?_, fun h2 => hbad fun h => by omega⟩, fun h1 => hbad fun h => by omega⟩
  refine ac30 bsum_T_ok (Nat.le_of_ble_eq_true rfl) ?_
  simp -implicitDefEqProofs only [cdA, go_sem, Go.Proofs.Tryz.f30, reduceIte, reduceCtorEq, Nat.reduceEqDiff, Nat.reduceAdd, Nat.reduceLeDiff, Nat.reduceSub, Nat.reduceMul, Nat.reduceLT, Nat.reduceShiftRight, Nat.reduceMod, Int.reduceLE, Int.reduceLT, Int.reduceToNat, List.cons.injEq, cdB]
  refine ac71 bsum_T_ok (Nat.le_of_ble_eq_true rfl) ?_
  simp -implicitDefEqProofs only [cdA, go_sem, Go.Proofs.Tryz.f71, reduceIte, reduceCtorEq, Nat.reduceEqDiff, Nat.reduceAdd, Nat.reduceLeDiff, Nat.reduceSub, Nat.reduceMul, Nat.reduceLT, Nat.reduceShiftRight, Nat.reduceMod, Int.reduceLE, Int.reduceLT, Int.reduceToNat, List.cons.injEq, cdB]
  refine fun _ => SWp.loop (ι := { i : Nat // i ≤ l.length ∧ ∀ j, j < i → okIt (l.getD j default) }) (fun i => ⟨[(0, .sl (its l)), (1, .fn (.func 28) [] []), (7, .int .i64 l.length), (8, .int .i64 i.1)], [], 0⟩) (fun i => l.length - i.1) ⟨0, by simp⟩ ?_ ?_
  · simp [go_sem]
  · rintro ⟨i, hi, hall⟩
    refine awp_sound bsum_T_ok.toS lv71 _ _ _ rfl ?_
    simp -implicitDefEqProofs only [cdA, go_sem, reduceIte, reduceCtorEq, Nat.reduceEqDiff, Nat.reduceAdd, Nat.reduceLeDiff, Nat.reduceSub, Nat.reduceMul, Nat.reduceLT, Nat.reduceShiftRight, Nat.reduceMod, Int.reduceLE, Int.reduceLT, Int.reduceToNat, List.cons.injEq, cdB]
    refine ⟨fun h4 => ⟨by omega, ?_⟩, fun h4 => ?_⟩
    · skip
      refine ac28 bsum_T_ok (Nat.le_of_ble_eq_true rfl) ?_
      simp -implicitDefEqProofs only [cdA, go_sem, Go.Proofs.Tryz.f28, reduceIte, reduceCtorEq, Nat.reduceEqDiff, Nat.reduceAdd, Nat.reduceLeDiff, Nat.reduceSub, Nat.reduceMul, Nat.reduceLT, Nat.reduceShiftRight, Nat.reduceMod, Int.reduceLE, Int.reduceLT, Int.reduceToNat, List.cons.injEq, cdB]
      have hi' : i < l.length := by omega
      have hin := mem_getD.2 ⟨i, hi', rfl⟩
      rw [mon1_0]
      refine ⟨fun h5 => ⟨fun h6 => ⟨⟨i + 1, by omega, fun j hj => ?_⟩, by dsimp only; omega, i64_in _ (by omega)⟩, fun h6 => hbad fun h => h6 (h.2.2 _ hin).2⟩, fun h5 => hbad fun h => (h.2.2 _ hin).1 (by omega)⟩
      by_cases hji : j = i
      · subst hji; exact ⟨by omega, h6⟩
      · exact hall j (by omega)
    · have hi' : i = l.length := by omega
      subst hi'
      have hok : ∀ x ∈ l, okIt x := fun x hx => by obtain ⟨j, hj, rfl⟩ := mem_getD.1 hx; exact hall j hj
      have hsum : sumB l = if totI l ≤ MM then (totI l, 0) else (0, 8) := by rw [sumB, if_pos ⟨by omega, by omega, hok⟩]
      refine ⟨fun h => h.elim, fun _ => SWp.loop (ι := { i : Nat // i ≤ l.length ∧ totI (l.take i) ≤ MM }) (fun i => ⟨[(2, .int .u64 (totI (l.take i.1) : Nat)), (20, .sl (its l)), (21, .int .i64 l.length), (22, .int .i64 i.1)], [], 0⟩) (fun i => l.length - i.1) ⟨0, by simp [totI]⟩ ?_ ?_⟩
      · simp [go_sem, totI]
      · rintro ⟨i, hi, hs⟩
        refine awp_sound bsum_T_ok.toS lv11 _ _ _ rfl ?_
        simp -implicitDefEqProofs only [cdA, go_sem, reduceIte, reduceCtorEq, Nat.reduceEqDiff, Nat.reduceAdd, Nat.reduceLeDiff, Nat.reduceSub, Nat.reduceMul, Nat.reduceLT, Nat.reduceShiftRight, Nat.reduceMod, Int.reduceLE, Int.reduceLT, Int.reduceToNat, List.cons.injEq, cdB]
        unfold MM at *
        refine ⟨fun h5 => ⟨by omega, fun h6 => ?_, fun h6 => ?_⟩, fun h5 => ?_⟩
        · have hi' : i < l.length := by omega
          have h7 := addM_1 h6
          have h8 := (addM_0.1 h6).2
          simp only [List.sum_cons, List.sum_nil, Nat.add_zero] at h7 h8
          refine ⟨⟨i + 1, hi', by rw [totI_succ hi']; exact h8⟩, by dsimp only; omega, ?_, i64_in _ (by omega)⟩
          rw [h7]; dsimp only; rw [totI_succ hi']
        · have hi' : i < l.length := by omega
          have hn := (hok _ (mem_getD.2 ⟨i, hi', rfl⟩)).2
          unfold MM at hn
          have hle := totI_le (l := l) (i := i + 1)
          rw [totI_succ hi'] at hle
          have h7 : addM [totI (l.take i), (l.getD i default).n] = (0, 8) := by
            have hm : monS [totI (l.take i), (l.getD i default).n] = 0 := by rw [mon2, if_pos ⟨hs, hn⟩]
            have hns : ¬ [totI (l.take i), (l.getD i default).n].sum ≤ 4611686018427387904 := fun h => h6 (addM_0.2 ⟨fun x hx => by
              simp only [List.mem_cons, List.not_mem_nil, or_false] at hx
              rcases hx with rfl | rfl
              · exact hs
              · exact hn, h⟩)
            rw [addM, if_pos hm, if_neg hns]
          have h8 : ¬ totI l ≤ 4611686018427387904 := fun h => h6 (addM_0.2 ⟨fun x hx => by
              simp only [List.mem_cons, List.not_mem_nil, or_false] at hx
              rcases hx with rfl | rfl
              · exact hs
              · exact hn, by simp only [List.sum_cons, List.sum_nil, Nat.add_zero]; omega⟩)
          rw [h7, hsum, if_neg h8]; exact ⟨rfl, rfl⟩
        · have hi' : i = l.length := by omega
          subst hi'
          rw [List.take_length] at hs ⊢
          rw [hsum, if_pos hs]; exact ⟨rfl, rfl⟩
def sp_bsum : List D → Option (Prop × D × Fr)
  | [.c (.sl z340)] => some (z340 = its (dits z340), bsum_r (dits z340), [])
  | _ => none
attribute [go_sem] sp_bsum
theorem sp_bsum_ok : ∀ rs p r fr, sp_bsum rs = some (p, r, fr) → p → FnOk Tryz.prog 11 rs r fr := by
  intro rs p r fr h hp
  unfold sp_bsum at h
  split at h <;> cases h
  have hc0 := hp
  rename_i z340
  obtain ⟨z340, rfl⟩ : ∃ m, z340 = its m := ⟨_, hc0⟩
  simp only [dits_its]
  exact bsum_ok z340
def payB : Wl → List It → Wl × List Nat × Nat × Int
  | w, [] => (w, [], 0, 0)
  | w, x :: l => if (payW w x.hash x.n).2.2 = 0 then (let r := payB (payW w x.hash x.n).1 l; if r.2.2.2 = 0 then (r.1, (payW w x.hash x.n).2.1 :: r.2.1, 0, 0) else (zeroW, [], r.2.2.1 + 1, r.2.2.2)) else (zeroW, [], 0, (payW w x.hash x.n).2.2)
def batW (w : Wl) (l : List It) : Wl × List Nat × Nat × Int := if (sumB l).2 = 0 then payB w l else (zeroW, [], 0, (sumB l).2)
def seqW : Wl → List It → Wl
  | w, [] => w
  | w, x :: l => seqW (payW w x.hash x.n).1 l
def seqI : Wl → List It → List Nat
  | _, [] => []
  | w, x :: l => (payW w x.hash x.n).2.1 :: seqI (payW w x.hash x.n).1 l
def seqOk : Wl → List It → Prop
  | _, [] => True
  | w, x :: l => (payW w x.hash x.n).2.2 = 0 ∧ seqOk (payW w x.hash x.n).1 l
theorem seqI_len : ∀ {l : List It} {w : Wl}, (seqI w l).length = l.length
  | [], _ => rfl
  | x :: l, w => by rw [seqI, List.length_cons, seqI_len, List.length_cons]
theorem seq_app : ∀ {l : List It} {w : Wl} {m : List It}, seqW w (l ++ m) = seqW (seqW w l) m ∧ seqI w (l ++ m) = seqI w l ++ seqI (seqW w l) m ∧ (seqOk w (l ++ m) ↔ seqOk w l ∧ seqOk (seqW w l) m)
  | [], w, m => ⟨rfl, rfl, by simp [seqOk, seqW]⟩
  | x :: l, w, m => by
    obtain ⟨h1, h2, h3⟩ := seq_app (l := l) (w := (payW w x.hash x.n).1) (m := m)
    refine ⟨h1, ?_, ?_⟩
    · show _ :: seqI _ (l ++ m) = _
      rw [h2]; rfl
    · show _ ∧ seqOk _ (l ++ m) ↔ _
      rw [h3]
      show _ ↔ (_ ∧ seqOk _ l) ∧ _
      rw [and_assoc]; rfl
theorem payB_ok : ∀ {l : List It} {w : Wl}, seqOk w l → payB w l = (seqW w l, seqI w l, 0, 0)
  | [], _, _ => rfl
  | x :: l, w, h => by
    rw [payB, if_pos h.1]
    simp only [payB_ok h.2, if_true]; rfl
theorem payB_at : ∀ {l : List It} {w : Wl} {i : Nat} {x : It}, l[i]? = some x → seqOk w (l.take i) → ¬ (payW (seqW w (l.take i)) x.hash x.n).2.2 = 0 → payB w l = (zeroW, [], i, (payW (seqW w (l.take i)) x.hash x.n).2.2)
  | [], _, _, _, h, _, _ => by simp at h
  | y :: l, w, 0, x, h, _, he => by
    simp only [List.getElem?_cons_zero, Option.some.injEq] at h
    subst h
    rw [payB, if_neg (show ¬ (payW w y.hash y.n).2.2 = 0 from he)]; rfl
  | y :: l, w, i + 1, x, h, ho, he => by
    simp only [List.getElem?_cons_succ] at h
    rw [List.take_succ_cons] at ho he
    have := payB_at h ho.2 he
    rw [payB, if_pos ho.1]
    simp only [this]
    rw [if_neg (show ¬ (payW (seqW (payW w y.hash y.n).1 (l.take i)) x.hash x.n).2.2 = 0 from he)]; rfl
theorem payE_okW {v : Wl} {hash n : Nat} (h : payE v hash n = 0) : okW v ∧ n ≠ 0 ∧ n ≤ MM ∧ (firstL v.c v.w n).2 = 0 ∧ v.next ≠ MM ∧ (payP v hash n).2 = 0 ∧ (payC v n).2 = 0 ∧ (payF v n).2.2 = 0 := by
  unfold payE at h
  split at h
  · cases h
  rename_i h1
  split at h
  · cases h
  rename_i h2
  split at h
  · cases h
  rename_i h3
  split at h
  · rename_i h4; exact absurd h h4
  rename_i h4
  split at h
  · rename_i h5; exact absurd h h5
  rename_i h5
  refine ⟨Decidable.byContradiction fun h => h1 (.inl h), fun h => h1 (.inr (.inl h)), Decidable.byContradiction fun h => h1 (.inr (.inr h)), Decidable.byContradiction h2, h3, Decidable.byContradiction h4, Decidable.byContradiction h5, h⟩
theorem payW_err {v : Wl} {hash n : Nat} : (payW v hash n).2.2 = payE v hash n := by
  unfold payW
  split
  · rename_i h; exact h.symm
  · rfl
theorem payW_fnext {v : Wl} {hash n : Nat} (h : (payW v hash n).2.2 = 0) : (payW v hash n).1.f.next ≤ 18446744073709551615 := by
  rw [payW_err] at h
  have h1 := (payE_okW h).1.2.2.1
  have h2 := h1.2.1
  have h3 := (payE_okW h).2.2.2.2.2.2.2
  rw [payW, if_pos h]
  show (payF v n).1.next ≤ _
  unfold MM at h2
  unfold payF addF at h3 ⊢
  split
  · split
    · dsimp only; omega
    · dsimp only; omega
  · dsimp only; omega
theorem seq_fnext : ∀ {l : List It} {w : Wl}, w.f.next ≤ 18446744073709551615 → seqOk w l → (seqW w l).f.next ≤ 18446744073709551615
  | [], _, h, _ => h
  | x :: l, w, _, h => seq_fnext (l := l) (payW_fnext h.1) h.2
@[go_sem] def bpayf_r (w : Wl) (l : List It) : D := .tup [.agg [.sl (chs (batW w l).1.c), .sl (wts (batW w l).1.w), .sl (ivs (batW w l).1.i), .sl (pys (batW w l).1.p), .int .u64 (batW w l).1.f.next, .sl (evs (batW w l).1.f.l), .int .u64 (batW w l).1.next, .int .u64 (batW w l).1.tick], .vec 0 (batW w l).2.1.length, .int .i64 (batW w l).2.2.1, .int .i64 (batW w l).2.2.2]
@[go_sem] def bpayf_fr (w : Wl) (l : List It) : Fr := [(1, 26, true, u64s (batW w l).2.1)]
@[go_sem] abbrev n_bpayf : FuncId := 10
@[go_sem] def bpayf_T : Tab := [(11, sp_bsum), (12, sp_wpay)]
theorem bpayf_T_ok : TabOk Tryz.prog bpayf_T := (TabOk.cons sp_bsum_ok (TabOk.cons sp_wpay_ok TabOk.nil))
set_option maxRecDepth 8000 in
set_option maxHeartbeats 1000000 in
theorem bpayf_ok (w : Wl) (l : List It) (h : w.f.next ≤ 18446744073709551615) : FreshFn Tryz.prog 10 [.agg [.sl (chs w.c), .sl (wts w.w), .sl (ivs w.i), .sl (pys w.p), .c (.int .u64 (w.f.next : Int)), .sl (evs w.f.l), .c (.int .u64 (w.next : Int)), .c (.int .u64 (w.tick : Int))], .sl (its l)] (bpayf_r w l) (bpayf_fr w l) := by
  refine .of (ac10 bpayf_T_ok (Nat.le_of_ble_eq_true rfl) ?_)
  simp -implicitDefEqProofs only [cdA, go_sem, Go.Proofs.Tryz.f10, reduceIte, reduceCtorEq, Nat.reduceEqDiff, Nat.reduceAdd, Nat.reduceLeDiff, Nat.reduceSub, Nat.reduceMul, Nat.reduceLT, Nat.reduceShiftRight, Nat.reduceMod, Int.reduceLE, Int.reduceLT, Int.reduceToNat, List.cons.injEq, cdB]
  refine ⟨fun h1 _ => ?_, fun h1 => ?_⟩
  rotate_left 1
  · rw [batW, if_neg h1]
    exact ⟨[none], by simp [go_sem, u64s], ⟨rfl, rfl, rfl, rfl, rfl, rfl, rfl, rfl⟩, ⟨rfl, rfl⟩, rfl, rfl⟩
  have hs : sumB l = sumB l := rfl
  have hl : l.length ≤ 16 := by
    unfold sumB at h1
    split at h1
    · rename_i h; exact h.2.1
    · cases h1
  have hb : batW w l = payB w l := by rw [batW, if_pos h1]
  rw [hb]
  refine ⟨by omega, fun _ => SWp.loop (ι := { i : Nat // i ≤ l.length ∧ seqOk w (l.take i) }) (fun i => ⟨[(2, .ref 0 0), (4, .ref 1 0), (10, .vec 2 l.length), (28, .sl (its l)), (29, .int .i64 l.length), (30, .int .i64 i.1)],
    [(2, .vec true 1 26 (u64s (seqI w (l.take i.1) ++ List.replicate (l.length - i.1) 0))), (1, .box [.nil, .nil, .nil, .nil, .c (.int .u64 0), .nil, .c (.int .u64 0), .c (.int .u64 0)]),
      (0, .box [.sl (chs (seqW w (l.take i.1)).c), .sl (wts (seqW w (l.take i.1)).w), .sl (ivs (seqW w (l.take i.1)).i), .sl (pys (seqW w (l.take i.1)).p), .int .u64 (seqW w (l.take i.1)).f.next, .sl (evs (seqW w (l.take i.1)).f.l), .int .u64 (seqW w (l.take i.1)).next, .int .u64 (seqW w (l.take i.1)).tick])], 3⟩) (fun i => l.length - i.1) ⟨0, by omega, trivial⟩ ?_ ?_⟩
  · simp [go_sem, seqW, seqI, u64s]
  · rintro ⟨i, hi, hok⟩
    have hfn := seq_fnext h hok
    refine awp_sound bpayf_T_ok.toS lv10 _ _ _ rfl ?_
    simp -implicitDefEqProofs only [cdA, go_sem, reduceIte, reduceCtorEq, Nat.reduceEqDiff, Nat.reduceAdd, Nat.reduceLeDiff, Nat.reduceSub, Nat.reduceMul, Nat.reduceLT, Nat.reduceShiftRight, Nat.reduceMod, Int.reduceLE, Int.reduceLT, Int.reduceToNat, List.cons.injEq, cdB]
    refine ⟨fun h2 => ⟨by omega, hfn, fun h3 => ?_, fun h3 => ?_⟩, fun h2 => ?_⟩
    · have hi' : i < l.length := by omega
      obtain ⟨a1, a2, a3⟩ := seq_app (l := l.take i) (w := w) (m := [l.getD i default])
      rw [← take_succ hi'] at a1 a2 a3
      have hsl : (seqI w (l.take i)).length = i := by rw [seqI_len, List.length_take]; omega
      refine ⟨by omega, ⟨by rw [hsl, List.length_replicate]; omega, hi'⟩, ⟨i + 1, hi', a3.2 ⟨hok, h3, trivial⟩⟩, by dsimp only; omega, i64_in _ (by omega), ?_, ?_⟩
      · dsimp only
        rw [a2]
        congr 2
        rw [List.set_append_right _ _ (by omega), hsl, Nat.sub_self, show l.length - i = (l.length - (i + 1)) + 1 by omega, List.replicate_succ, List.set_cons_zero, List.append_assoc]
        rfl
      · dsimp only
        rw [a1]
        exact ⟨rfl, rfl, rfl, rfl, rfl, rfl, rfl, rfl⟩
    · have hi' : i < l.length := by omega
      have hx : l[i]? = some (l.getD i default) := by rw [getD_lt hi']; exact List.getElem?_eq_getElem hi'
      rw [payB_at hx hok h3]
      exact ⟨[none], by simp [go_sem, u64s], ⟨rfl, rfl, rfl, rfl, rfl, rfl, rfl, rfl⟩, ⟨rfl, rfl⟩, rfl, rfl⟩
    · have hi' : i = l.length := by omega
      subst hi'
      rw [List.take_length] at hok ⊢
      rw [payB_ok hok, Nat.sub_self, List.replicate_zero, List.append_nil]
      exact ⟨[some 2], by simp [go_sem], ⟨rfl, rfl, rfl, rfl, rfl, rfl, rfl, rfl⟩, ⟨rfl, seqI_len.symm⟩, rfl, rfl⟩
@[go_sem] def bpayf_p (w : Wl) (l : List It) : Prop := (w.f.next ≤ 18446744073709551615)
def sp_bpayf : List D → Option (Prop × D × Fr)
  | [.agg [.c (.sl z342), .c (.sl z343), .c (.sl z344), .c (.sl z345), .c (.int .u64 z347), .c (.sl z348), .c (.int .u64 z349), .c (.int .u64 z350)], .c (.sl z351)] => some (z342 = chs (dchs z342) ∧ z343 = wts (dwts z343) ∧ z344 = ivs (divs z344) ∧ z345 = pys (dpys z345) ∧ z347 = (z347.toNat : Int) ∧ z348 = evs (devs z348) ∧ z349 = (z349.toNat : Int) ∧ z350 = (z350.toNat : Int) ∧ z351 = its (dits z351) ∧ bpayf_p (⟨(dchs z342), (dwts z343), (divs z344), (dpys z345), (⟨z347.toNat, (devs z348)⟩ : Fd), z349.toNat, z350.toNat⟩ : Wl) (dits z351), bpayf_r (⟨(dchs z342), (dwts z343), (divs z344), (dpys z345), (⟨z347.toNat, (devs z348)⟩ : Fd), z349.toNat, z350.toNat⟩ : Wl) (dits z351), bpayf_fr (⟨(dchs z342), (dwts z343), (divs z344), (dpys z345), (⟨z347.toNat, (devs z348)⟩ : Fd), z349.toNat, z350.toNat⟩ : Wl) (dits z351))
  | _ => none
attribute [go_sem] sp_bpayf
@[go_sem] def bpay_r (w : Wl) (l : List It) : D := .tup [.agg [.sl (chs (batW w l).1.c), .sl (wts (batW w l).1.w), .sl (ivs (batW w l).1.i), .sl (pys (batW w l).1.p), .int .u64 (batW w l).1.f.next, .sl (evs (batW w l).1.f.l), .int .u64 (batW w l).1.next, .int .u64 (batW w l).1.tick], .sl (u64s (batW w l).2.1), .int .i64 (batW w l).2.2.1, .int .i64 (batW w l).2.2.2]
@[go_sem] abbrev n_bpay : FuncId := 10
@[go_sem] def bpay_T : Tab := []
set_option maxRecDepth 8000 in
set_option maxHeartbeats 1000000 in
theorem bpay_ok (w : Wl) (l : List It) (h : w.f.next ≤ 18446744073709551615) : PureFn Tryz.prog 10 [.agg [.sl (chs w.c), .sl (wts w.w), .sl (ivs w.i), .sl (pys w.p), .c (.int .u64 (w.f.next : Int)), .sl (evs w.f.l), .c (.int .u64 (w.next : Int)), .c (.int .u64 (w.tick : Int))], .sl (its l)] (bpay_r w l) := by
  refine FreshFn.toPure (bpayf_ok w l h) ?_
  simp [go_sem, pur3, pur2, pur1, pw, news, lk]
@[go_sem] def bpay_p (w : Wl) (l : List It) : Prop := (w.f.next ≤ 18446744073709551615)
def sp_bpay : List D → Option (Prop × D × Fr)
  | [.agg [.c (.sl z353), .c (.sl z354), .c (.sl z355), .c (.sl z356), .c (.int .u64 z358), .c (.sl z359), .c (.int .u64 z360), .c (.int .u64 z361)], .c (.sl z362)] => some (z353 = chs (dchs z353) ∧ z354 = wts (dwts z354) ∧ z355 = ivs (divs z355) ∧ z356 = pys (dpys z356) ∧ z358 = (z358.toNat : Int) ∧ z359 = evs (devs z359) ∧ z360 = (z360.toNat : Int) ∧ z361 = (z361.toNat : Int) ∧ z362 = its (dits z362) ∧ bpay_p (⟨(dchs z353), (dwts z354), (divs z355), (dpys z356), (⟨z358.toNat, (devs z359)⟩ : Fd), z360.toNat, z361.toNat⟩ : Wl) (dits z362), bpay_r (⟨(dchs z353), (dwts z354), (divs z355), (dpys z356), (⟨z358.toNat, (devs z359)⟩ : Fd), z360.toNat, z361.toNat⟩ : Wl) (dits z362), [])
  | _ => none
attribute [go_sem] sp_bpay
theorem sp_bpay_ok : ∀ rs p r fr, sp_bpay rs = some (p, r, fr) → p → FnOk Tryz.prog 10 rs r fr := by
  intro rs p r fr h hp
  unfold sp_bpay at h
  split at h <;> cases h
  obtain ⟨hc0, hc1, hc2, hc3, hc4, hc5, hc6, hc7, hc8, hp⟩ := hp
  rename_i z353 z354 z355 z356 z358 z359 z360 z361 z362
  obtain ⟨z353, rfl⟩ : ∃ m, z353 = chs m := ⟨_, hc0⟩
  obtain ⟨z354, rfl⟩ : ∃ m, z354 = wts m := ⟨_, hc1⟩
  obtain ⟨z355, rfl⟩ : ∃ m, z355 = ivs m := ⟨_, hc2⟩
  obtain ⟨z356, rfl⟩ : ∃ m, z356 = pys m := ⟨_, hc3⟩
  obtain ⟨z358, rfl⟩ : ∃ m : Nat, z358 = m := ⟨_, hc4⟩
  obtain ⟨z359, rfl⟩ : ∃ m, z359 = evs m := ⟨_, hc5⟩
  obtain ⟨z360, rfl⟩ : ∃ m : Nat, z360 = m := ⟨_, hc6⟩
  obtain ⟨z361, rfl⟩ : ∃ m : Nat, z361 = m := ⟨_, hc7⟩
  obtain ⟨z362, rfl⟩ : ∃ m, z362 = its m := ⟨_, hc8⟩
  simp only [Int.toNat_natCast, dchs_chs, devs_evs, dits_its, divs_ivs, dpys_pys, dwts_wts]
  simp only [Int.toNat_natCast, dchs_chs, devs_evs, dits_its, divs_ivs, dpys_pys, dwts_wts, bpay_p] at hp
  exact bpay_ok ⟨z353, z354, z355, z356, ⟨z358, z359⟩, z360, z361⟩ z362 hp
end Dm
namespace Dm
open Go Go.Proofs Go.IntWalk
def emptyW : Wl := ⟨[], [], [], [], ⟨1, []⟩, 1, 0⟩
def liveC : Ch := ⟨1, 10, 0, 0, 10, [], true⟩
theorem live1 : (wopW emptyW liveC).2 = 0 := by decide
theorem live2 : (wopW emptyW liveC).1.f.next ≤ 18446744073709551615 := by decide
set_option maxRecDepth 100000 in
theorem live3 : (batW (wopW emptyW liveC).1 [⟨1, 6⟩, ⟨2, 5⟩]).2.2 = (1, 9) := by decide
@[go_sem] def live_r  : D := .bool true
@[go_sem] abbrev n_live : FuncId := 8
@[go_sem] def live_T : Tab := [(26, sp_wnew), (25, sp_wopen), (10, sp_bpay)]
theorem live_T_ok : TabOk Tryz.prog live_T := (TabOk.cons sp_wnew_ok (TabOk.cons sp_wopen_ok (TabOk.cons sp_bpay_ok TabOk.nil)))
set_option maxRecDepth 8000 in
set_option maxHeartbeats 1000000 in
theorem live_ok   : PureFn Tryz.prog 8 [] (live_r ) := by
  refine .of (ac8 live_T_ok (Nat.le_of_ble_eq_true rfl) ?_)
  simp -implicitDefEqProofs only [cdA, go_sem, Go.Proofs.Tryz.f8, reduceIte, reduceCtorEq, Nat.reduceEqDiff, Nat.reduceAdd, Nat.reduceLeDiff, Nat.reduceSub, Nat.reduceMul, Nat.reduceLT, Nat.reduceShiftRight, Nat.reduceMod, Int.reduceLE, Int.reduceLT, Int.reduceToNat, List.cons.injEq, cdB]
  refine ⟨rfl, ⟨rfl, live2⟩, fun _ => ?_, fun h => absurd live1 h⟩
  have e : (batW (wopW emptyW liveC).1 [⟨1, 6⟩, ⟨2, 5⟩]).2.2 = (1, 9) := live3
  have e1 : (batW (wopW emptyW liveC).1 [⟨1, 6⟩, ⟨2, 5⟩]).2.2.2 = 9 := congrArg Prod.snd e
  have e2 : (batW (wopW emptyW liveC).1 [⟨1, 6⟩, ⟨2, 5⟩]).2.2.1 = 1 := congrArg Prod.fst e
  have e3 : decide ((((batW (wopW emptyW liveC).1 [⟨1, 6⟩, ⟨2, 5⟩]).2.2.1 : Nat) : Int) = 1) = true := decide_eq_true (by rw [e2]; rfl)
  exact ⟨fun _ => e3, fun h => h e1⟩
def sp_live : List D → Option (Prop × D × Fr)
  | [] => some (True, live_r , [])
  | _ => none
attribute [go_sem] sp_live
theorem sp_live_ok : ∀ rs p r fr, sp_live rs = some (p, r, fr) → p → FnOk Tryz.prog 8 rs r fr := by
  intro rs p r fr h hp
  unfold sp_live at h
  split at h <;> cases h
  exact live_ok 
end Dm
namespace Dm
open Go Go.Proofs
set_option maxRecDepth 20000
theorem wf_u64 {n : Int} (h : (Lit.int .u64 n).wf = true) : 0 ≤ n ∧ n ≤ 18446744073709551615 := by
  simp [Lit.wf, IntKind.min, IntKind.max, IntKind.bits, IntKind.signed] at h
  omega
theorem typ26 {k : Nat} {xs : List C} (h : Typ Tryz.prog (k + 1) 26 xs) : ∃ n : Nat, xs = [.int .u64 (n : Int)] ∧ n ≤ 18446744073709551615 := by
  simp only [Typ, Tryz.underlying26] at h
  obtain ⟨n, rfl, h1⟩ := h
  have := wf_u64 h1
  exact ⟨n.toNat, by rw [Int.toNat_of_nonneg (by omega)], by omega⟩
theorem typ35 {k : Nat} {xs : List C} (h : Typ Tryz.prog (k + 2) 35 xs) : ∃ l, xs = [.sl (u64s l)] ∧ ∀ e ∈ l, e ≤ 18446744073709551615 := by
  simp only [Typ, Tryz.underlying35] at h
  obtain ⟨els, rfl, _, h2⟩ := h
  have h3 := fun x hx => typ26 (k := k) (h2 x hx)
  have : ∀ els : List (List C), (∀ x ∈ els, Typ Tryz.prog (k + 1) 26 x) → ∃ l : List Nat, els = u64s l ∧ ∀ e ∈ l, e ≤ 18446744073709551615 := by
    intro els
    induction els with
    | nil => exact fun _ => ⟨[], rfl, by simp⟩
    | cons x t ih =>
      intro h3
      obtain ⟨l, h4, h5⟩ := ih (fun y hy => h3 y (List.mem_cons_of_mem _ hy))
      obtain ⟨n, rfl, h6⟩ := typ26 (k := k) (h3 x (List.mem_cons_self ..))
      subst h4
      exact ⟨n :: l, rfl, fun e he => (List.mem_cons.1 he).elim (fun h => by rw [h]; exact h6) (h5 e)⟩
  obtain ⟨l, rfl, h⟩ := this els h2
  exact ⟨l, rfl, h⟩
def Hd.rng (e : Hd) : Prop := e.id ≤ 18446744073709551615 ∧ e.n ≤ 18446744073709551615
def Ch.rng (e : Ch) : Prop := e.id ≤ 18446744073709551615 ∧ e.loc ≤ 18446744073709551615 ∧ e.rem ≤ 18446744073709551615 ∧ e.res ≤ 18446744073709551615 ∧ e.most ≤ 18446744073709551615 ∧ (∀ q ∈ e.holds, q.rng) ∧ True
def Wt.rng (e : Wt) : Prop := e.id ≤ 18446744073709551615 ∧ True
def Iv.rng (e : Iv) : Prop := e.hash ≤ 18446744073709551615 ∧ e.n ≤ 18446744073709551615 ∧ e.till ≤ 18446744073709551615 ∧ (-9223372036854775808 ≤ e.state ∧ e.state ≤ 9223372036854775807)
def Py.rng (e : Py) : Prop := e.id ≤ 18446744073709551615 ∧ e.hash ≤ 18446744073709551615 ∧ e.chan ≤ 18446744073709551615 ∧ e.n ≤ 18446744073709551615 ∧ (-9223372036854775808 ≤ e.state ∧ e.state ≤ 9223372036854775807)
def Ev.rng (e : Ev) : Prop := e.seq ≤ 18446744073709551615 ∧ (-9223372036854775808 ≤ e.kind ∧ e.kind ≤ 9223372036854775807) ∧ e.a ≤ 18446744073709551615 ∧ e.n ≤ 18446744073709551615
def Fd.rng (e : Fd) : Prop := e.next ≤ 18446744073709551615 ∧ (∀ q ∈ e.l, q.rng)
def Wl.rng (w : Wl) : Prop := (∀ e ∈ w.c, e.rng) ∧ (∀ e ∈ w.w, e.rng) ∧ (∀ e ∈ w.i, e.rng) ∧ (∀ e ∈ w.p, e.rng) ∧ w.f.rng ∧ w.next ≤ 18446744073709551615 ∧ w.tick ≤ 18446744073709551615
def It.rng (e : It) : Prop := e.hash ≤ 18446744073709551615 ∧ e.n ≤ 18446744073709551615
end Dm
namespace Go.Proofs
open Go.Shelf Go.RowKit Go.Lib
def Tryz.layLz_ren : Go.Shelf.Ren := ⟨fun | 134 => 189 | 129 => 201 | n => n, fun | 53 => 26 | 3 => 3 | 4 => 4 | 46 => 167 | 5 => 5 | 9 => 9 | n => n, fun | n => n⟩
theorem Tryz.layLz : Go.Proofs.Lays.n134 Tryz.prog Tryz.layLz_ren := {
 mixed := by kernel_rfl
 f129 := Tryz.func201.trans (congrArg some (by kernel_rfl))
 f134 := Tryz.func189.trans (congrArg some (by kernel_rfl))
 t3 := Tryz.underlying3
 a3 := Tryz.isAgg3
 z3 := Tryz.sizeOf3
 v3 := Tryz.zeroValue3
 t4 := Tryz.underlying4
 a4 := Tryz.isAgg4
 z4 := Tryz.sizeOf4
 v4 := Tryz.zeroValue4
 t5 := Tryz.underlying5
 a5 := Tryz.isAgg5
 z5 := Tryz.sizeOf5
 v5 := Tryz.zeroValue5
 t9 := Tryz.underlying9
 a9 := Tryz.isAgg9
 z9 := Tryz.sizeOf9
 v9 := Tryz.zeroValue9
 t46 := Tryz.underlying167
 a46 := Tryz.isAgg167
 z46 := Tryz.sizeOf167
 v46 := Tryz.zeroValue167
 t53 := Tryz.underlying26
 a53 := Tryz.isAgg26
 z53 := Tryz.sizeOf26
 v53 := Tryz.zeroValue26 }
def Tryz.layMu_ren : Go.Shelf.Ren := ⟨fun | 264 => 165 | n => n, fun | 53 => 26 | 46 => 167 | n => n, fun | n => n⟩
theorem Tryz.layMu : Go.Proofs.Lays.n264 Tryz.prog Tryz.layMu_ren := {
 mixed := by kernel_rfl
 f264 := Tryz.func165.trans (congrArg some (by kernel_rfl))
 t46 := Tryz.underlying167
 a46 := Tryz.isAgg167
 z46 := Tryz.sizeOf167
 v46 := Tryz.zeroValue167
 t53 := Tryz.underlying26
 a53 := Tryz.isAgg26
 z53 := Tryz.sizeOf26
 v53 := Tryz.zeroValue26 }
end Go.Proofs
namespace Dm
open Go Go.Proofs Go.IntWalk
@[go_sem] def lz64_r (x : Nat) : D := .int .i64 (64 - (Lib.bitLen x : Int))
@[go_sem] abbrev n_lz64 : FuncId := 189
@[go_sem] def lz64_T : Tab := []
set_option maxRecDepth 8000 in
set_option maxHeartbeats 1000000 in
theorem lz64_ok (x : Nat) (h : x ≤ 18446744073709551615) : PureFn Tryz.prog 189 [.c (.int .u64 (x : Int))] (lz64_r x) := by
  refine PureFn.of_calls ⟨_, Tryz.layLz.f134, rfl, rfl⟩ (fun I w vs h1 h2 => args_u64 h1 h2) (fun w => ?_) (fun I w => .c _ _ (.int _ _))
  have := Any.bits_LeadingZeros64 Tryz.layLz x w (by omega) (by omega)
  rwa [Int.toNat_natCast] at this
@[go_sem] def lz64_p (x : Nat) : Prop := (x ≤ 18446744073709551615)
def sp_lz64 : List D → Option (Prop × D × Fr)
  | [.c (.int .u64 z1)] => some (z1 = (z1.toNat : Int) ∧ lz64_p z1.toNat, lz64_r z1.toNat, [])
  | _ => none
attribute [go_sem] sp_lz64
theorem sp_lz64_ok : ∀ rs p r fr, sp_lz64 rs = some (p, r, fr) → p → FnOk Tryz.prog 189 rs r fr := by
  intro rs p r fr h hp
  unfold sp_lz64 at h
  split at h <;> cases h
  obtain ⟨hc0, hp⟩ := hp
  rename_i z1
  obtain ⟨z1, rfl⟩ : ∃ m : Nat, z1 = m := ⟨_, hc0⟩
  simp only [Int.toNat_natCast]
  simp only [Int.toNat_natCast, lz64_p] at hp
  exact lz64_ok z1 hp
@[go_sem] def mul64_r (x : Nat) (y : Nat) : D := .tup [.int .u64 (x * y / 18446744073709551616 : Nat), .int .u64 (x * y % 18446744073709551616 : Nat)]
@[go_sem] abbrev n_mul64 : FuncId := 165
@[go_sem] def mul64_T : Tab := []
set_option maxRecDepth 8000 in
set_option maxHeartbeats 1000000 in
theorem mul64_ok (x : Nat) (y : Nat) (h : x ≤ 18446744073709551615) (h2 : y ≤ 18446744073709551615) : PureFn Tryz.prog 165 [.c (.int .u64 (x : Int)), .c (.int .u64 (y : Int))] (mul64_r x y) := by
  refine PureFn.of_calls ⟨_, Tryz.layMu.f264, rfl, rfl⟩ (fun I w vs h1 h2 => args_u64s h1 h2) (fun w => Any.bits_Mul64 Tryz.layMu x y (by omega) (by omega) w) (fun I w => .tup _ _ rfl fun i v d h1 h2 => ?_)
  rcases i with _ | _ | i <;> simp at h1 h2
  · subst h1; subst h2; exact .c _ _ (.int _ _)
  · subst h1; subst h2; exact .c _ _ (.int _ _)
@[go_sem] def mul64_p (x : Nat) (y : Nat) : Prop := (x ≤ 18446744073709551615) ∧ (y ≤ 18446744073709551615)
def sp_mul64 : List D → Option (Prop × D × Fr)
  | [.c (.int .u64 z2), .c (.int .u64 z3)] => some (z2 = (z2.toNat : Int) ∧ z3 = (z3.toNat : Int) ∧ mul64_p z2.toNat z3.toNat, mul64_r z2.toNat z3.toNat, [])
  | _ => none
attribute [go_sem] sp_mul64
theorem sp_mul64_ok : ∀ rs p r fr, sp_mul64 rs = some (p, r, fr) → p → FnOk Tryz.prog 165 rs r fr := by
  intro rs p r fr h hp
  unfold sp_mul64 at h
  split at h <;> cases h
  obtain ⟨hc0, hc1, hp⟩ := hp
  rename_i z2 z3
  obtain ⟨z2, rfl⟩ : ∃ m : Nat, z2 = m := ⟨_, hc0⟩
  obtain ⟨z3, rfl⟩ : ∃ m : Nat, z3 = m := ⟨_, hc1⟩
  simp only [Int.toNat_natCast]
  simp only [Int.toNat_natCast, mul64_p] at hp
  exact mul64_ok z2 z3 hp.1 hp.2
theorem wrap_two {a b : Nat} (ha : a < 4294967296) (hb : b < 4294967296) : IntKind.u64.wrap (IntKind.u64.wrap ((a : Int) * 4294967296) + (b : Int)) = ((a * 4294967296 + b : Nat) : Int) := by
  rw [IntKind.wrap_u64, IntKind.wrap_u64]; omega
theorem bl_shift {y : Nat} (hy : y ≠ 0) (h3 : y < 4294967296) : ∃ s, 64 - (Lib.bitLen y : Int) = (s : Nat) ∧ 32 ≤ s ∧ s < 64 ∧ y * 2 ^ s < 18446744073709551616 := by
  have h1 := Lib.bitLenAux_bounds 64 y (by have : (2 : Nat) ^ 64 = 18446744073709551616 := rfl; omega) hy
  have h2 := Lib.bitLen_le y 32 (by decide) h3
  change 1 ≤ Lib.bitLen y ∧ _ ∧ y < 2 ^ Lib.bitLen y at h1
  refine ⟨64 - Lib.bitLen y, by omega, by omega, by omega, ?_⟩
  have h4 : y * 2 ^ (64 - Lib.bitLen y) < 2 ^ Lib.bitLen y * 2 ^ (64 - Lib.bitLen y) := Nat.mul_lt_mul_of_pos_right h1.2.2 (Nat.two_pow_pos _)
  rw [← Nat.pow_add, show Lib.bitLen y + (64 - Lib.bitLen y) = 64 by omega] at h4
  exact h4
@[go_sem] def div64_r (hi : Nat) (lo : Nat) (y : Nat) : D := .tup [.int .u64 ((hi * 18446744073709551616 + lo) / y : Nat), .int .u64 ((hi * 18446744073709551616 + lo) % y : Nat)]
@[go_sem] abbrev n_div64 : FuncId := 166
@[go_sem] def div64_T : Tab := [(189, sp_lz64)]
theorem div64_T_ok : TabOk Tryz.prog div64_T := (TabOk.cons sp_lz64_ok TabOk.nil)
set_option maxRecDepth 8000 in
set_option maxHeartbeats 1000000 in
theorem div64_ok (hi : Nat) (lo : Nat) (y : Nat) (hy : y ≠ 0) (h1 : hi < y) (h2 : lo ≤ 18446744073709551615) (h3 : y < 4294967296) : PureFn Tryz.prog 166 [.c (.int .u64 (hi : Int)), .c (.int .u64 (lo : Int)), .c (.int .u64 (y : Int))] (div64_r hi lo y) := by
  have e1 : ((y : Int) = 0) = False := eq_false (by omega)
  have e2 : ((y : Int) ≤ hi) = False := eq_false (by omega)
  refine .of ?_
  refine ac166 div64_T_ok (Nat.le_of_ble_eq_true rfl) ?_
  simp -implicitDefEqProofs only [cdA, go_sem, Go.Proofs.Tryz.f166, e1, e2, decide_false, cdN, reduceIte, reduceCtorEq, Nat.reduceEqDiff, Nat.reduceAdd, Nat.reduceLeDiff, Nat.reduceSub, Nat.reduceMul, Nat.reduceLT, Nat.reduceShiftRight, Nat.reduceMod, Int.reduceLE, Int.reduceLT, Int.reduceToNat, List.cons.injEq, cdB]
  refine ⟨fun h0 => ?_, fun h0 => ?_⟩
  · refine ADraw.run us166_6 div64_T_ok follows_mixed (by kernel_rfl) (by kernel_rfl) ?_
    simp -implicitDefEqProofs only [cdA, go_sem, reduceIte, reduceCtorEq, Nat.reduceEqDiff, Nat.reduceAdd, Nat.reduceLeDiff, Nat.reduceSub, Nat.reduceMul, Nat.reduceLT, Nat.reduceShiftRight, Nat.reduceMod, Int.reduceLE, Int.reduceLT, Int.reduceToNat, List.cons.injEq, cdB]
    have : hi = 0 := by omega
    subst this
    rw [Nat.zero_mul, Nat.zero_add, tdN, wN (by have := Nat.div_le_self lo y; omega)]
    exact ⟨by omega, by omega, rfl, rfl⟩
  · obtain ⟨s, hs, hs1, hs2, hs3⟩ := bl_shift hy h3
    obtain ⟨yn1, hy1, hy0, hyl, hu, hq, hL0, hN⟩ := div64_small (lo := lo) hy h1 (by omega) hs1 hs2 hs3
    have w1 : IntKind.u64.wrap (s : Nat) = (s : Int) := wN (by omega)
    have m1 : min s 64 = s := by omega
    have w2 : IntKind.u64.wrap (64 - (s : Int)) = ((64 - s : Nat) : Int) := by rw [show (64 : Int) - s = ((64 - s : Nat) : Int) by omega]; exact wN (by omega)
    have m2 : min (64 - s) 64 = 64 - s := by omega
    have p32 : (2 : Int) ^ min 32 64 = ((4294967296 : Nat) : Int) := by decide
    have pm : ∀ a b : Nat, (a : Int) * b = ((a * b : Nat) : Int) := fun a b => (Int.natCast_mul a b).symm
    have pk : ∀ k : Nat, (2 : Int) ^ k = ((2 ^ k : Nat) : Int) := fun k => by rw [Int.natCast_pow]; rfl
    have hlt : hi * 2 ^ s < 18446744073709551616 := Nat.lt_of_le_of_lt (Nat.mul_le_mul_right _ (Nat.le_of_lt h1)) hs3
    have d1 : IntKind.u64.wrap ((y * 2 ^ s : Nat) : Int) = ((yn1 * 4294967296 : Nat) : Int) := by rw [wN hs3, hy1]
    have d2 : yn1 * 4294967296 / 4294967296 = yn1 := Nat.mul_div_cancel _ (by decide)
    have d3 : iand .u64 ((yn1 * 4294967296 : Nat) : Int) 4294967295 = ((0 : Nat) : Int) := by rw [mskN (by omega), Nat.mul_mod_left]
    have d4 : IntKind.u64.wrap ((hi * 2 ^ s : Nat) : Int) = ((hi * 2 ^ s : Nat) : Int) := wN hlt
    have hlo : lo / 2 ^ (64 - s) < 2 ^ s := by
      rw [Nat.div_lt_iff_lt_mul (Nat.two_pow_pos _), ← Nat.pow_add, show s + (64 - s) = 64 by omega]
      have : (2 : Nat) ^ 64 = 18446744073709551616 := rfl
      omega
    have d6 : ior .u64 ((hi * 2 ^ s : Nat) : Int) ((lo / 2 ^ (64 - s) : Nat) : Int) = ((hi * 2 ^ s + lo / 2 ^ (64 - s) : Nat) : Int) := by rw [iorN hlt (by have := Nat.div_le_self lo (2 ^ (64 - s)); omega), or_add hlo]
    have d7 : IntKind.u64.wrap ((lo * 2 ^ s : Nat) : Int) = ((lo * 2 ^ s % 18446744073709551616 : Nat) : Int) := by rw [IntKind.wrap_u64]; omega
    rw [hs]
    simp only [w1, Int.toNat_natCast, m1, w2, m2, p32, pk, pm, d1, fdN, d2, d3, d4, d6, d7]
    generalize hU : hi * 2 ^ s + lo / 2 ^ (64 - s) = U at *
    generalize hL : lo * 2 ^ s % 18446744073709551616 = L at *
    have hL2 : L < 18446744073709551616 := by rw [← hL]; exact Nat.mod_lt _ (by decide)
    have hq1 : U / yn1 < 4294967296 := by rw [Nat.div_lt_iff_lt_mul (Nat.pos_of_ne_zero hy0), Nat.mul_comm]; exact hu
    have hq2 := Nat.div_add_mod U yn1
    have hq3 := Nat.mod_lt U (Nat.pos_of_ne_zero hy0)
    have hU2 : U < 18446744073709551616 := lt_b hu hyl
    obtain ⟨d8, d9, d10, d11⟩ := qrem (y := yn1) hU2
    simp only [mskN hL2, d8, tdN, d9, pm, d10, d11]
    refine ⟨by omega, by omega, SWp.loop (ι := Unit) (fun _ => ⟨[(2, .int .u64 (yn1 * 4294967296 : Nat)), (8, .int .u64 s), (9, .int .u64 yn1), (10, .int .u64 (0 : Nat)), (11, .int .u64 U), (13, .int .u64 (L / 4294967296 : Nat)), (14, .int .u64 (L % 4294967296 : Nat)), (15, .int .u64 (U / yn1 : Nat)), (16, .int .u64 (U % yn1 : Nat))], [], 0⟩) (fun _ => 0) () (by simp [go_sem]) ?_⟩
    have hV : U % yn1 * 4294967296 + L / 4294967296 < yn1 * 4294967296 := by clear d1 d3 d4 d6 d7 d8 d9 d10 d11 hq hL0 hN; omega
    have hun1 : L / 4294967296 < 4294967296 := by clear d1 d3 d4 d6 d7 d8 d9 d10 d11 hq hL0 hN; omega
    have e3 := un21 (U := U) (Nat.pos_of_ne_zero hy0) hyl hun1
    rintro ⟨⟩
    refine awp_sound div64_T_ok.toS lv166 _ _ _ rfl ?_
    simp -implicitDefEqProofs only [cdA, go_sem, reduceIte, reduceCtorEq, Nat.reduceEqDiff, Nat.reduceAdd, Nat.reduceLeDiff, Nat.reduceSub, Nat.reduceMul, Nat.reduceLT, Nat.reduceShiftRight, Nat.reduceMod, Int.reduceLE, Int.reduceLT, Int.reduceToNat, List.cons.injEq, cdB]
    refine ⟨fun _ => ⟨fun h => absurd h ?_, fun _ => ⟨by omega, ?_⟩⟩, fun h => absurd h (by omega)⟩
    · rw [Int.mul_zero, IntKind.wrap_u64, IntKind.wrap_u64]; exact Int.not_lt.2 (Int.emod_nonneg _ (by decide))
    obtain ⟨V, hVV⟩ : ∃ V, U % yn1 * 4294967296 + L / 4294967296 = V := ⟨_, rfl⟩
    rw [hVV] at e3 hV hq
    simp only [e3]
    have hr1 : V / yn1 < 4294967296 := by rw [Nat.div_lt_iff_lt_mul (Nat.pos_of_ne_zero hy0), Nat.mul_comm]; exact hV
    obtain ⟨_, f9, f10, f11⟩ := qrem (U := V) (y := yn1) (lt_b hV hyl)
    simp only [tdN, f9, pm, f10, f11]
    refine SWp.loop (ι := Unit) (fun _ => ⟨[(2, .int .u64 (yn1 * 4294967296 : Nat)), (8, .int .u64 s), (9, .int .u64 yn1), (10, .int .u64 0), (14, .int .u64 (L % 4294967296 : Nat)), (15, .int .u64 (U / yn1 : Nat)), (16, .int .u64 (V % yn1 : Nat)), (17, .int .u64 V), (18, .int .u64 (V / yn1 : Nat))], [], 0⟩) (fun _ => 0) () (by simp [go_sem]) ?_
    rintro ⟨⟩
    refine awp_sound div64_T_ok.toS lv166 _ _ _ rfl ?_
    simp -implicitDefEqProofs only [cdA, go_sem, reduceIte, reduceCtorEq, Nat.reduceEqDiff, Nat.reduceAdd, Nat.reduceLeDiff, Nat.reduceSub, Nat.reduceMul, Nat.reduceLT, Nat.reduceShiftRight, Nat.reduceMod, Int.reduceLE, Int.reduceLT, Int.reduceToNat, List.cons.injEq, cdB]
    refine ⟨fun _ => ⟨fun h => absurd h ?_, fun _ => ⟨?_, ?_⟩⟩, fun h => absurd h (by omega)⟩
    · rw [Int.mul_zero, IntKind.wrap_u64, IntKind.wrap_u64]; exact Int.not_lt.2 (Int.emod_nonneg _ (by decide))
    · rw [hq]
      exact wrap_two hq1 hr1
    · rw [un21 (Nat.pos_of_ne_zero hy0) hyl (Nat.mod_lt _ (by decide)), hL0, Nat.add_zero, m1, pk, fdN]
      exact congrArg _ (div64_rem hy1 hq hVV hN)
@[go_sem] def div64_p (hi : Nat) (lo : Nat) (y : Nat) : Prop := (y ≠ 0) ∧ (hi < y) ∧ (lo ≤ 18446744073709551615) ∧ (y < 4294967296)
def sp_div64 : List D → Option (Prop × D × Fr)
  | [.c (.int .u64 z4), .c (.int .u64 z5), .c (.int .u64 z6)] => some (z4 = (z4.toNat : Int) ∧ z5 = (z5.toNat : Int) ∧ z6 = (z6.toNat : Int) ∧ div64_p z4.toNat z5.toNat z6.toNat, div64_r z4.toNat z5.toNat z6.toNat, [])
  | _ => none
attribute [go_sem] sp_div64
theorem sp_div64_ok : ∀ rs p r fr, sp_div64 rs = some (p, r, fr) → p → FnOk Tryz.prog 166 rs r fr := by
  intro rs p r fr h hp
  unfold sp_div64 at h
  split at h <;> cases h
  obtain ⟨hc0, hc1, hc2, hp⟩ := hp
  rename_i z4 z5 z6
  obtain ⟨z4, rfl⟩ : ∃ m : Nat, z4 = m := ⟨_, hc0⟩
  obtain ⟨z5, rfl⟩ : ∃ m : Nat, z5 = m := ⟨_, hc1⟩
  obtain ⟨z6, rfl⟩ : ∃ m : Nat, z6 = m := ⟨_, hc2⟩
  simp only [Int.toNat_natCast]
  simp only [Int.toNat_natCast, div64_p] at hp
  exact div64_ok z4 z5 z6 hp.1 hp.2.1 hp.2.2.1 hp.2.2.2
@[go_sem] def part_r (a : Nat) (n : Nat) (whole : Nat) : D := .int .u64 (a * n / whole : Nat)
@[go_sem] abbrev n_part : FuncId := 112
@[go_sem] def part_T : Tab := [(165, sp_mul64), (166, sp_div64)]
theorem part_T_ok : TabOk Tryz.prog part_T := (TabOk.cons sp_mul64_ok (TabOk.cons sp_div64_ok TabOk.nil))
set_option maxRecDepth 8000 in
set_option maxHeartbeats 1000000 in
theorem part_ok (a : Nat) (n : Nat) (whole : Nat) (h1 : whole ≠ 0) (h2 : n ≤ whole) (h3 : a ≤ 4611686018427387904) (h4 : whole < 4294967296) : PureFn Tryz.prog 112 [.c (.int .u64 (a : Int)), .c (.int .u64 (n : Int)), .c (.int .u64 (whole : Int))] (part_r a n whole) := by
  refine .of (ac112 part_T_ok (Nat.le_of_ble_eq_true rfl) ?_)
  simp -implicitDefEqProofs only [cdA, go_sem, Go.Proofs.Tryz.f112, reduceIte, reduceCtorEq, Nat.reduceEqDiff, Nat.reduceAdd, Nat.reduceLeDiff, Nat.reduceSub, Nat.reduceMul, Nat.reduceLT, Nat.reduceShiftRight, Nat.reduceMod, Int.reduceLE, Int.reduceLT, Int.reduceToNat, List.cons.injEq, cdB]
  have hm : a * n ≤ 4611686018427387904 * whole := Nat.mul_le_mul h3 h2
  generalize a * n = x at *
  have e : x / 18446744073709551616 * 18446744073709551616 + x % 18446744073709551616 = x := by omega
  rw [e]
  exact ⟨⟨by omega, by omega⟩, ⟨h1, by omega, by omega, h4⟩, rfl⟩
@[go_sem] def part_p (a : Nat) (n : Nat) (whole : Nat) : Prop := (whole ≠ 0) ∧ (n ≤ whole) ∧ (a ≤ 4611686018427387904) ∧ (whole < 4294967296)
def sp_part : List D → Option (Prop × D × Fr)
  | [.c (.int .u64 z7), .c (.int .u64 z8), .c (.int .u64 z9)] => some (z7 = (z7.toNat : Int) ∧ z8 = (z8.toNat : Int) ∧ z9 = (z9.toNat : Int) ∧ part_p z7.toNat z8.toNat z9.toNat, part_r z7.toNat z8.toNat z9.toNat, [])
  | _ => none
attribute [go_sem] sp_part
theorem sp_part_ok : ∀ rs p r fr, sp_part rs = some (p, r, fr) → p → FnOk Tryz.prog 112 rs r fr := by
  intro rs p r fr h hp
  unfold sp_part at h
  split at h <;> cases h
  obtain ⟨hc0, hc1, hc2, hp⟩ := hp
  rename_i z7 z8 z9
  obtain ⟨z7, rfl⟩ : ∃ m : Nat, z7 = m := ⟨_, hc0⟩
  obtain ⟨z8, rfl⟩ : ∃ m : Nat, z8 = m := ⟨_, hc1⟩
  obtain ⟨z9, rfl⟩ : ∃ m : Nat, z9 = m := ⟨_, hc2⟩
  simp only [Int.toNat_natCast]
  simp only [Int.toNat_natCast, part_p] at hp
  exact part_ok z7 z8 z9 hp.1 hp.2.1 hp.2.2.1 hp.2.2.2
theorem sumT_le {l : List Nat} {m i : Nat} (h : ∀ x ∈ l, x ≤ m) : (l.take i).sum ≤ i * m := by
  induction l generalizing i with
  | nil => simp
  | cons a l ih =>
    cases i with
    | zero => simp
    | succ i =>
      rw [List.take_succ_cons, List.sum_cons, Nat.add_mul, Nat.one_mul]
      have := ih (i := i) fun x hx => h x (List.mem_cons_of_mem _ hx)
      have := h a (List.mem_cons_self ..)
      omega
theorem sumT_succ {l : List Nat} {i : Nat} (h : i < l.length) : (l.take (i + 1)).sum = (l.take i).sum + l.getD i default := by
  rw [take_succ h, List.sum_append]; simp
theorem sumT_all {l : List Nat} {i : Nat} : (l.take i).sum ≤ l.sum := by
  conv => rhs; rw [← List.take_append_drop i l, List.sum_append]
  exact Nat.le_add_right _ _
def splP (a : Nat) (ws : List Nat) (all i : Nat) : Nat := a * (ws.take (i + 1)).sum / all - a * (ws.take i).sum / all
def splN (a : Nat) (ws : List Nat) : List Nat := (List.range ws.length).map (splP a ws ws.sum)
def splL (a : Nat) (ws : List Nat) : List Nat × Int := if a ≤ 4611686018427387904 ∧ ws.length ≠ 0 ∧ ws.length ≤ 64 ∧ (∀ w ∈ ws, w ≤ 1000000) ∧ ws.sum ≠ 0 then (splN a ws, 0) else ([], 1)
def splH (a : Nat) (ws : List Nat) (i : Nat) : List Nat := (splN a ws).take i ++ List.replicate (ws.length - i) 0
theorem splN_len {a : Nat} {ws : List Nat} : (splN a ws).length = ws.length := by simp [splN]
theorem splH_len {a : Nat} {ws : List Nat} {i : Nat} (hi : i ≤ ws.length) : (splH a ws i).length = ws.length := by simp [splH, splN_len]; omega
theorem splH_0 {a : Nat} {ws : List Nat} : List.replicate ws.length [C.int .u64 0] = u64s (splH a ws 0) := by simp [splH, u64s]
theorem splH_all {a : Nat} {ws : List Nat} : splH a ws ws.length = splN a ws := by
  rw [splH, Nat.sub_self, List.replicate_zero, List.append_nil, List.take_of_length_le (by rw [splN_len]; exact Nat.le_refl _)]
theorem splH_set {a : Nat} {ws : List Nat} {i : Nat} (hi : i < ws.length) : (splH a ws i).set i (splP a ws ws.sum i) = splH a ws (i + 1) := by
  have hl : i < (splN a ws).length := by rw [splN_len]; exact hi
  have h1 : ((splN a ws).take i).length = i := by rw [List.length_take]; omega
  rw [splH, splH, List.take_succ_eq_append_getElem hl, List.append_assoc, List.set_append_right _ _ (by omega), h1, Nat.sub_self]
  obtain ⟨k, hk⟩ : ∃ k, ws.length - i = k + 1 := ⟨ws.length - i - 1, by omega⟩
  rw [hk, show ws.length - (i + 1) = k by omega, List.replicate_succ, List.set_cons_zero]
  simp [splN]
@[go_sem] def split_r (a : Nat) (ws : List Nat) : D := .tup [.sl (u64s (splL a ws).1), .int .i64 (splL a ws).2]
@[go_sem] abbrev n_split : FuncId := 58
@[go_sem] def split_T : Tab := [(29, sp_moncheck), (112, sp_part)]
theorem split_T_ok : TabOk Tryz.prog split_T := (TabOk.cons sp_moncheck_ok (TabOk.cons sp_part_ok TabOk.nil))
set_option maxRecDepth 8000 in
set_option maxHeartbeats 1000000 in
theorem split_ok (a : Nat) (ws : List Nat)  : PureFn Tryz.prog 58 [.c (.int .u64 (a : Int)), .sl (u64s ws)] (split_r a ws) := by
  refine .of (ac58 split_T_ok (Nat.le_of_ble_eq_true rfl) ?_)
  simp -implicitDefEqProofs only [cdA, go_sem, Go.Proofs.Tryz.f58, reduceIte, reduceCtorEq, Nat.reduceEqDiff, Nat.reduceAdd, Nat.reduceLeDiff, Nat.reduceSub, Nat.reduceMul, Nat.reduceLT, Nat.reduceShiftRight, Nat.reduceMod, Int.reduceLE, Int.reduceLT, Int.reduceToNat, List.cons.injEq, cdB]
  have hbad : ¬ (a ≤ 4611686018427387904 ∧ ws.length ≠ 0 ∧ ws.length ≤ 64 ∧ (∀ w ∈ ws, w ≤ 1000000) ∧ ws.sum ≠ 0) → u64s (splL a ws).1 = [] ∧ 1 = (splL a ws).2 := fun h => by rw [splL, if_neg h]; exact ⟨rfl, rfl⟩
  refine ⟨fun h1 _ => ⟨fun h2 _ => ⟨fun h3 => ?_, fun h3 => hbad fun h => by omega⟩, fun h2 => hbad fun h => by omega⟩, fun h1 => hbad fun h => h1 (mon1_0.2 h.1)⟩
  replace h1 := mon1_0.1 h1
  refine ac111 split_T_ok (Nat.le_of_ble_eq_true rfl) ?_
  simp -implicitDefEqProofs only [cdA, go_sem, Go.Proofs.Tryz.f111, reduceIte, reduceCtorEq, Nat.reduceEqDiff, Nat.reduceAdd, Nat.reduceLeDiff, Nat.reduceSub, Nat.reduceMul, Nat.reduceLT, Nat.reduceShiftRight, Nat.reduceMod, Int.reduceLE, Int.reduceLT, Int.reduceToNat, List.cons.injEq, cdB]
  refine ac164 split_T_ok (Nat.le_of_ble_eq_true rfl) ?_
  simp -implicitDefEqProofs only [cdA, go_sem, Go.Proofs.Tryz.f164, reduceIte, reduceCtorEq, Nat.reduceEqDiff, Nat.reduceAdd, Nat.reduceLeDiff, Nat.reduceSub, Nat.reduceMul, Nat.reduceLT, Nat.reduceShiftRight, Nat.reduceMod, Int.reduceLE, Int.reduceLT, Int.reduceToNat, List.cons.injEq, cdB]
  refine fun _ => SWp.loop (ι := { i : Nat // i ≤ ws.length ∧ ∀ j, j < i → ws.getD j 0 ≤ 1000000 }) (fun i => ⟨[(0, .sl (u64s ws)), (1, .fn (.func 110) [] []), (7, .int .i64 ws.length), (8, .int .i64 i.1)], [], 1⟩) (fun i => ws.length - i.1) ⟨0, by simp⟩ ?_ ?_
  · simp [go_sem]
  · rintro ⟨i, hi, hall⟩
    refine awp_sound split_T_ok.toS lv164 _ _ _ rfl ?_
    simp -implicitDefEqProofs only [cdA, go_sem, reduceIte, reduceCtorEq, Nat.reduceEqDiff, Nat.reduceAdd, Nat.reduceLeDiff, Nat.reduceSub, Nat.reduceMul, Nat.reduceLT, Nat.reduceShiftRight, Nat.reduceMod, Int.reduceLE, Int.reduceLT, Int.reduceToNat, List.cons.injEq, cdB]
    refine ⟨fun h4 => ⟨by omega, ?_⟩, fun h4 => ?_⟩
    · skip
      refine ac110 split_T_ok (Nat.le_of_ble_eq_true rfl) ?_
      simp -implicitDefEqProofs only [cdA, go_sem, Go.Proofs.Tryz.f110, reduceIte, reduceCtorEq, Nat.reduceEqDiff, Nat.reduceAdd, Nat.reduceLeDiff, Nat.reduceSub, Nat.reduceMul, Nat.reduceLT, Nat.reduceShiftRight, Nat.reduceMod, Int.reduceLE, Int.reduceLT, Int.reduceToNat, List.cons.injEq, cdB]
      have hi' : i < ws.length := by omega
      have hin := mem_getD.2 ⟨i, hi', rfl⟩
      refine ⟨fun h5 => hbad fun h => by have := h.2.2.2.1 _ hin; omega, fun h5 => ⟨⟨i + 1, by omega, fun j hj => ?_⟩, by dsimp only; omega, i64_in _ (by omega)⟩⟩
      by_cases hji : j = i
      · subst hji; exact Int.ofNat_le.1 (Int.not_lt.1 h5)
      · exact hall j (by omega)
    · have hi' : i = ws.length := by omega
      subst hi'
      have hok : ∀ x ∈ ws, x ≤ 1000000 := fun x hx => by obtain ⟨j, hj, rfl⟩ := mem_getD.1 hx; exact hall j hj
      refine ⟨fun h => h.elim, fun _ => SWp.loop (ι := { i : Nat // i ≤ ws.length }) (fun i => ⟨[(0, .int .u64 a), (1, .sl (u64s ws)), (7, .int .u64 ((ws.take i.1).sum : Nat)), (8, .int .u64 0), (9, .int .u64 0), (35, .sl (u64s ws)), (36, .int .i64 ws.length), (37, .int .i64 i.1)], [], 1⟩) (fun i => ws.length - i.1) ⟨0, by simp⟩ ?_ ?_⟩
      · simp [go_sem]
      · rintro ⟨i, hi⟩
        refine awp_sound split_T_ok.toS lv58 _ _ _ rfl ?_
        simp -implicitDefEqProofs only [cdA, go_sem, reduceIte, reduceCtorEq, Nat.reduceEqDiff, Nat.reduceAdd, Nat.reduceLeDiff, Nat.reduceSub, Nat.reduceMul, Nat.reduceLT, Nat.reduceShiftRight, Nat.reduceMod, Int.reduceLE, Int.reduceLT, Int.reduceToNat, List.cons.injEq, cdB]
        have hs2 := sumT_le (i := i) hok
        have hs3 : i * 1000000 ≤ 64000000 := by omega
        refine ⟨fun h5 => ⟨h5, ⟨i + 1, by omega⟩, by dsimp only; omega, ?_, i64_in _ (by omega)⟩, fun h5 => ?_⟩
        · have hi' : i < ws.length := by omega
          rw [sumT_succ hi', ← Int.natCast_add]
          refine wN ?_
          have := hok _ (mem_getD.2 ⟨i, hi', rfl⟩)
          omega
        · have hi' : i = ws.length := by omega
          subst hi'
          rw [List.take_length] at hs2 ⊢
          refine ⟨fun h6 => hbad fun h => h.2.2.2.2 (by omega), fun h6 _ => ⟨⟨Int.le_refl _, by omega⟩, fun _ => ?_⟩⟩
          have hsum : ws.sum ≠ 0 := fun h => h6 (by rw [h]; rfl)
          have hgood : splL a ws = (splN a ws, 0) := by rw [splL, if_pos ⟨h1, by omega, by omega, hok, hsum⟩]
          rw [hgood]
          refine SWp.loop (ι := { i : Nat // i ≤ ws.length }) (fun i => ⟨[(0, .int .u64 a), (7, .int .u64 ws.sum), (8, .int .u64 ((ws.take i.1).sum : Nat)), (9, .int .u64 (a * (ws.take i.1).sum / ws.sum : Nat)), (12, .vec 1 ws.length), (50, .sl (u64s ws)), (51, .int .i64 ws.length), (52, .int .i64 i.1)], [(1, .vec true 1 26 (u64s (splH a ws i.1)))], 2⟩) (fun i => ws.length - i.1) ⟨0, by simp⟩ ?_ ?_
          · simp [go_sem, ← splH_0]
          · rintro ⟨j, hj⟩
            refine awp_sound split_T_ok.toS lv58 _ _ _ rfl ?_
            simp -implicitDefEqProofs only [cdA, go_sem, reduceIte, reduceCtorEq, Nat.reduceEqDiff, Nat.reduceAdd, Nat.reduceLeDiff, Nat.reduceSub, Nat.reduceMul, Nat.reduceLT, Nat.reduceShiftRight, Nat.reduceMod, Int.reduceLE, Int.reduceLT, Int.reduceToNat, List.cons.injEq, cdB]
            refine ⟨fun h7 => ?_, fun h7 => ?_⟩
            · have hj' : j < ws.length := by omega
              have hle := sumT_all (l := ws) (i := j + 1)
              have e1 : IntKind.u64.wrap (((ws.take j).sum : Nat) + ((ws.getD j default : Nat) : Int)) = (((ws.take (j + 1)).sum : Nat) : Int) := by
                rw [sumT_succ hj', ← Int.natCast_add]
                refine wN ?_
                rw [sumT_succ hj'] at hle; omega
              have hA : a * (ws.take (j + 1)).sum / ws.sum ≤ a := Nat.div_le_of_le_mul (by rw [Nat.mul_comm]; exact Nat.mul_le_mul_right _ hle)
              have hB : a * (ws.take j).sum / ws.sum ≤ a * (ws.take (j + 1)).sum / ws.sum := Nat.div_le_div_right (Nat.mul_le_mul_left _ (by rw [sumT_succ hj']; exact Nat.le_add_right _ _))
              have e2 : (IntKind.u64.wrap (((a * (ws.take (j + 1)).sum / ws.sum : Nat) : Int) - ((a * (ws.take j).sum / ws.sum : Nat) : Int))).toNat = splP a ws ws.sum j := by
                unfold splP
                generalize a * (ws.take (j + 1)).sum / ws.sum = A at *
                generalize a * (ws.take j).sum / ws.sum = B at *
                rw [show (A : Int) - B = ((A - B : Nat) : Int) by omega, wN (by omega), Int.toNat_natCast]
              rw [e1, Int.toNat_natCast, e2]
              exact ⟨h7, ⟨rfl, hsum, hle, h1, by omega⟩, h7, ⟨(splH_len hj).symm, hj'⟩, ⟨j + 1, hj'⟩, by dsimp only; omega, ⟨rfl, rfl, i64_in _ (by omega)⟩, by rw [splH_set hj']⟩
            · have hj' : j = ws.length := by omega
              subst hj'
              rw [splH_all]
              exact ⟨splN_len.symm, _, _, _, rfl⟩
def sp_split : List D → Option (Prop × D × Fr)
  | [.c (.int .u64 z10), .c (.sl z11)] => some (z10 = (z10.toNat : Int) ∧ z11 = u64s (du64s z11), split_r z10.toNat (du64s z11), [])
  | _ => none
attribute [go_sem] sp_split
theorem sp_split_ok : ∀ rs p r fr, sp_split rs = some (p, r, fr) → p → FnOk Tryz.prog 58 rs r fr := by
  intro rs p r fr h hp
  unfold sp_split at h
  split at h <;> cases h
  obtain ⟨hc0, hc1⟩ := hp
  rename_i z10 z11
  obtain ⟨z10, rfl⟩ : ∃ m : Nat, z10 = m := ⟨_, hc0⟩
  obtain ⟨z11, rfl⟩ : ∃ m, z11 = u64s m := ⟨_, hc1⟩
  simp only [Int.toNat_natCast, du64s_u64s]
  exact split_ok z10 z11
theorem lay_take {E : List (List C)} {k : Nat} {l : List (List C)} (h : k + l.length ≤ E.length) : (lay E k l).length = E.length ∧ (lay E k l).take (k + l.length) = E.take k ++ l := by
  have h1 : (E.take k).length = k := by rw [List.length_take]; omega
  refine ⟨by simp [lay, setAt, h1]; omega, ?_⟩
  rw [lay, setAt, List.take_append_of_le_length (by rw [List.length_append, h1]; exact Nat.le_refl _), List.take_of_length_le (by rw [List.length_append, h1]; exact Nat.le_refl _)]
theorem rep_take {v k j : Nat} : (u64s (List.replicate k v)).take j = u64s (List.replicate (min j k) v) := by
  rw [u64s_take, List.take_replicate]
theorem rep_app {v k j : Nat} : u64s (List.replicate k v) ++ u64s (List.replicate j v) = u64s (List.replicate (k + j) v) := by
  rw [u64s_app, List.replicate_append_replicate]
@[go_sem] def rep1_r (x : List Nat) (n : Int) : D := .sl (u64s (List.replicate n.toNat (x.getD 0 default)))
@[go_sem] abbrev n_rep1 : FuncId := 59
@[go_sem] def rep1_T : Tab := [(165, sp_mul64)]
theorem rep1_T_ok : TabOk Tryz.prog rep1_T := (TabOk.cons sp_mul64_ok TabOk.nil)
set_option maxRecDepth 8000 in
set_option maxHeartbeats 1000000 in
theorem rep1_ok (x : List Nat) (n : Int) (hx : x.length = 1) (h0 : 0 ≤ n) (h1 : n ≤ 16) : PureFn Tryz.prog 59 [.sl (u64s x), .c (.int .i64 n)] (rep1_r x n) := by
  have hneg : (n < 0) = False := eq_false (by omega)
  have hx2 : IntKind.u64.wrap (x.length : Int) = ((1 : Nat) : Int) := by rw [hx]; rfl
  have hn2 : IntKind.u64.wrap n = ((n.toNat : Nat) : Int) := by rw [← Int.toNat_of_nonneg h0]; exact wN (by omega)
  refine .of (ACall.sld ?_)
  refine acall_introM (n := 48) (fn := Tryz.f59) (by kernel_rfl) rfl rfl rfl (Nat.le_of_ble_eq_true rfl) (rs := [.tmp 4]) rfl ?_
  refine SWm.seq (SWm.awp rep1_T_ok.toS lv59 rfl ?_)
  simp -implicitDefEqProofs only [cdA, go_sem, reduceIte, reduceCtorEq, Nat.reduceEqDiff, Nat.reduceAdd, Nat.reduceLeDiff, Nat.reduceSub, Nat.reduceMul, Nat.reduceLT, Nat.reduceShiftRight, Nat.reduceMod, Int.reduceLE, Int.reduceLT, Int.reduceToNat, List.cons.injEq, cdB]
  refine SWm.seq (SWm.awp rep1_T_ok.toS lv59 rfl ?_)
  simp -implicitDefEqProofs only [cdA, go_sem, hneg, decide_false, cdN, reduceIte, reduceCtorEq, Nat.reduceEqDiff, Nat.reduceAdd, Nat.reduceLeDiff, Nat.reduceSub, Nat.reduceMul, Nat.reduceLT, Nat.reduceShiftRight, Nat.reduceMod, Int.reduceLE, Int.reduceLT, Int.reduceToNat, List.cons.injEq, cdB]
  refine SWm.seq (SWm.awp rep1_T_ok.toS lv59 rfl ?_)
  simp -implicitDefEqProofs only [cdA, go_sem, hx2, hn2, reduceIte, reduceCtorEq, Nat.reduceEqDiff, Nat.reduceAdd, Nat.reduceLeDiff, Nat.reduceSub, Nat.reduceMul, Nat.reduceLT, Nat.reduceShiftRight, Nat.reduceMod, Int.reduceLE, Int.reduceLT, Int.reduceToNat, List.cons.injEq, cdB]
  refine fun _ => ?_
  refine ac113 rep1_T_ok (Nat.le_of_ble_eq_true rfl) ?_
  simp -implicitDefEqProofs only [cdA, go_sem, Go.Proofs.Tryz.f113, reduceIte, reduceCtorEq, Nat.reduceEqDiff, Nat.reduceAdd, Nat.reduceLeDiff, Nat.reduceSub, Nat.reduceMul, Nat.reduceLT, Nat.reduceShiftRight, Nat.reduceMod, Int.reduceLE, Int.reduceLT, Int.reduceToNat, List.cons.injEq, cdB]
  refine ⟨by omega, ?_⟩
  have hm0 : ((1 * n.toNat / 18446744073709551616 : Nat) : Int) = 0 := by omega
  have hm1 : ((1 * n.toNat % 18446744073709551616 : Nat) : Int) = (n.toNat : Int) := by omega
  rw [hm0, hm1]
  have hbig : ((9223372036854775807 : Int) < (n.toNat : Int)) = False := eq_false (by omega)
  have hw3 : IntKind.i64.wrap (n.toNat : Int) = (n.toNat : Int) := i64_in _ (by omega)
  refine SWm.seq (SWm.awp rep1_T_ok.toS lv59 rfl ?_)
  simp -implicitDefEqProofs only [cdA, go_sem, hbig, decide_false, cdN, reduceIte, reduceCtorEq, Nat.reduceEqDiff, Nat.reduceAdd, Nat.reduceLeDiff, Nat.reduceSub, Nat.reduceMul, Nat.reduceLT, Nat.reduceShiftRight, Nat.reduceMod, Int.reduceLE, Int.reduceLT, Int.reduceToNat, List.cons.injEq, cdB]
  refine SWm.seq (SWm.awp rep1_T_ok.toS lv59 rfl ?_)
  simp -implicitDefEqProofs only [cdA, go_sem, hw3, reduceIte, reduceCtorEq, Nat.reduceEqDiff, Nat.reduceAdd, Nat.reduceLeDiff, Nat.reduceSub, Nat.reduceMul, Nat.reduceLT, Nat.reduceShiftRight, Nat.reduceMod, Int.reduceLE, Int.reduceLT, Int.reduceToNat, List.cons.injEq, cdB]
  refine ⟨by omega, SWm.opn 0 rfl fun cp hc hcm => ?_⟩
  refine SWm.seq (SWm.awp rep1_T_ok.toS lv59 rfl ?_)
  simp -implicitDefEqProofs only [cdA, go_sem, List.map_cons, List.map_nil, eq_self, reduceIte, reduceCtorEq, Nat.reduceEqDiff, Nat.reduceAdd, Nat.reduceLeDiff, Nat.reduceSub, Nat.reduceMul, Nat.reduceLT, Nat.reduceShiftRight, Nat.reduceMod, Int.reduceLE, Int.reduceLT, Int.reduceToNat, List.cons.injEq, cdB]
  obtain ⟨v, rfl⟩ : ∃ v, x = [v] := by
    rcases x with _ | ⟨v, _ | ⟨_, _⟩⟩ <;> simp at hx
    exact ⟨v, rfl⟩
  rw [List.length_replicate] at hc
  rw [List.length_replicate, show ([v] : List Nat).length = 1 from rfl]
  generalize hm : n.toNat = m at *
  have hl0 := fit_length cp 1 (List.replicate m [C.int .u64 0])
  have ht : u64s (([v] : List Nat).take m) = u64s (List.replicate (min 1 m) v) := by
    rcases m with _ | m
    · rfl
    · rw [show min 1 (m + 1) = 1 by omega]; simp
  have hlen : ∀ k, (u64s (List.replicate k v)).length = k := fun k => by rw [u64s_length, List.length_replicate]
  rw [ht]
  have hl1 := lay_take (E := fit cp 1 (List.replicate m [C.int .u64 0])) (k := 0) (l := u64s (List.replicate (min 1 m) v)) (by rw [hlen, hl0]; omega)
  rw [hl0, hlen, List.take_zero, List.nil_append, Nat.zero_add] at hl1
  rw [fit_eq hl1.1]
  generalize lay (fit cp 1 (List.replicate m [C.int .u64 0])) 0 (u64s (List.replicate (min 1 m) v)) = E0 at *
  refine SWm.seq (SWm.block (SWm.of (SWp.loop (ι := { y : Nat × List (List C) // y.1 ≤ m ∧ (m = 0 ∨ 1 ≤ y.1) ∧ y.2.length = cp ∧ y.2.take y.1 = u64s (List.replicate y.1 v) }) (fun y => ⟨[(7, .view 0 cp 1 0 m), (8, .int .i64 y.1.1)], [(0, .vec true 1 26 y.1.2)], 1⟩) (fun y => m - y.1.1) ⟨(min 1 m, E0), by dsimp only; omega, by dsimp only; omega, hl1.1, hl1.2⟩ ?_ ?_)))
  · simp [go_sem]
  · rintro ⟨⟨k, E⟩, hk, hk1, hE, hEt⟩
    refine awp_sound rep1_T_ok.toS lv59 _ _ _ rfl ?_
    simp -implicitDefEqProofs only [cdA, go_sem, reduceIte, reduceCtorEq, Nat.reduceEqDiff, Nat.reduceAdd, Nat.reduceLeDiff, Nat.reduceSub, Nat.reduceMul, Nat.reduceLT, Nat.reduceShiftRight, Nat.reduceMod, Int.reduceLE, Int.reduceLT, Int.reduceToNat, List.cons.injEq, cdB]
    dsimp only at hk hk1 hE hEt
    refine fun _ => ⟨fun h5 => ?_, fun h5 => ?_⟩
    · refine ADraw.run us59_9 rep1_T_ok follows_mixed (by kernel_rfl) (by kernel_rfl) ?_
      simp -implicitDefEqProofs only [cdA, go_sem, hE, eq_self, reduceIte, reduceCtorEq, Nat.reduceEqDiff, Nat.reduceAdd, Nat.reduceLeDiff, Nat.reduceSub, Nat.reduceMul, Nat.reduceLT, Nat.reduceShiftRight, Nat.reduceMod, Int.reduceLE, Int.reduceLT, Int.reduceToNat, List.cons.injEq, cdB]
      have hkm : k < m := by omega
      have hk1' : 1 ≤ k := by omega
      rw [hEt, hlen]
      have ht2 : List.take (m - k) (u64s (List.replicate k v)) = u64s (List.replicate (min (m - k) k) v) := rep_take
      have hl2 := lay_take (E := E) (k := k) (l := u64s (List.replicate (min (m - k) k) v)) (by rw [hlen, hE]; omega)
      rw [hlen, hEt, hE] at hl2
      rw [ht2, fit_eq hl2.1, Nat.min_comm k]
      refine ⟨by omega, by omega, fun x hx => by obtain ⟨y, _, rfl⟩ := List.mem_map.1 hx; rfl, ⟨(k + min (m - k) k, lay E k (u64s (List.replicate (min (m - k) k) v))), by dsimp only; omega, .inr (by dsimp only; omega), hl2.1, ?_⟩, by dsimp only; omega, ?_, rfl⟩
      · dsimp only; rw [hl2.2, rep_app]
      · rw [← Int.natCast_add]; exact i64_in _ (by omega)
    · skip
      refine SWm.awp rep1_T_ok.toS lv59 rfl ?_
      simp -implicitDefEqProofs only [cdA, go_sem, reduceIte, reduceCtorEq, Nat.reduceEqDiff, Nat.reduceAdd, Nat.reduceLeDiff, Nat.reduceSub, Nat.reduceMul, Nat.reduceLT, Nat.reduceShiftRight, Nat.reduceMod, Int.reduceLE, Int.reduceLT, Int.reduceToNat, List.cons.injEq, cdB]
      have hkm : k = m := by omega
      subst hkm
      rw [hEt]
      exact ⟨hE.symm, (by rw [List.length_replicate]), _, _, _, rfl⟩
@[go_sem] def rep1_p (x : List Nat) (n : Int) : Prop := (x.length = 1) ∧ (0 ≤ n) ∧ (n ≤ 16)
def sp_rep1 : List D → Option (Prop × D × Fr)
  | [.c (.sl z12), .c (.int .i64 z13)] => some (z12 = u64s (du64s z12) ∧ rep1_p (du64s z12) z13, rep1_r (du64s z12) z13, [])
  | _ => none
attribute [go_sem] sp_rep1
theorem sp_rep1_ok : ∀ rs p r fr, sp_rep1 rs = some (p, r, fr) → p → FnOk Tryz.prog 59 rs r fr := by
  intro rs p r fr h hp
  unfold sp_rep1 at h
  split at h <;> cases h
  obtain ⟨hc0, hp⟩ := hp
  rename_i z12 z13
  obtain ⟨z12, rfl⟩ : ∃ m, z12 = u64s m := ⟨_, hc0⟩
  simp only [du64s_u64s]
  simp only [du64s_u64s, rep1_p] at hp
  exact rep1_ok z12 z13 hp.1 hp.2.1 hp.2.2
@[go_sem] def cont_r (l : List Nat) (x : Nat) : D := .bool (decide (x ∈ l))
@[go_sem] abbrev n_cont : FuncId := 60
@[go_sem] def cont_T : Tab := []
theorem cont_T_ok : TabOk Tryz.prog cont_T := TabOk.nil
set_option maxRecDepth 8000 in
set_option maxHeartbeats 1000000 in
theorem cont_ok (l : List Nat) (x : Nat)  : PureFn Tryz.prog 60 [.sl (u64s l), .c (.int .u64 (x : Int))] (cont_r l x) := by
  refine .of (ac60 cont_T_ok (Nat.le_of_ble_eq_true rfl) ?_)
  simp -implicitDefEqProofs only [cdA, go_sem, Go.Proofs.Tryz.f60, reduceIte, reduceCtorEq, Nat.reduceEqDiff, Nat.reduceAdd, Nat.reduceLeDiff, Nat.reduceSub, Nat.reduceMul, Nat.reduceLT, Nat.reduceShiftRight, Nat.reduceMod, Int.reduceLE, Int.reduceLT, Int.reduceToNat, List.cons.injEq, cdB]
  refine ac114 cont_T_ok (Nat.le_of_ble_eq_true rfl) ?_
  simp -implicitDefEqProofs only [cdA, go_sem, Go.Proofs.Tryz.f114, reduceIte, reduceCtorEq, Nat.reduceEqDiff, Nat.reduceAdd, Nat.reduceLeDiff, Nat.reduceSub, Nat.reduceMul, Nat.reduceLT, Nat.reduceShiftRight, Nat.reduceMod, Int.reduceLE, Int.reduceLT, Int.reduceToNat, List.cons.injEq, cdB]
  refine fun _ => SWp.loop (ι := { i : Nat // i ≤ l.length ∧ ∀ j, j < i → l.getD j default ≠ x }) (fun i => ⟨[(0, .sl (u64s l)), (1, .int .u64 x), (7, .int .i64 l.length), (8, .int .i64 i.1)], [], 0⟩) (fun i => l.length - i.1) ⟨0, by simp⟩ ?_ ?_
  · simp [go_sem]
  · rintro ⟨i, hi, hall⟩
    refine awp_sound cont_T_ok.toS lv114 _ _ _ rfl ?_
    simp -implicitDefEqProofs only [cdA, go_sem, reduceIte, reduceCtorEq, Nat.reduceEqDiff, Nat.reduceAdd, Nat.reduceLeDiff, Nat.reduceSub, Nat.reduceMul, Nat.reduceLT, Nat.reduceShiftRight, Nat.reduceMod, Int.reduceLE, Int.reduceLT, Int.reduceToNat, List.cons.injEq, cdB]
    refine ⟨fun h1 => ⟨h1, fun h2 => ?_, fun h2 => ⟨⟨i + 1, by omega, fun j hj => ?_⟩, by dsimp only; omega, i64_in _ (by omega)⟩⟩, fun h1 => ?_⟩
    · rw [eq_comm, decide_eq_true_iff, mem_getD]; exact ⟨i, by omega, by omega⟩
    · by_cases hji : j = i
      · subst hji; omega
      · exact hall j (by omega)
    · rw [decide_eq_decide]
      refine ⟨False.elim, fun h2 => ?_⟩
      obtain ⟨j, hj, hjx⟩ := mem_getD.1 h2
      exact hall j (by omega) hjx
def sp_cont : List D → Option (Prop × D × Fr)
  | [.c (.sl z14), .c (.int .u64 z15)] => some (z14 = u64s (du64s z14) ∧ z15 = (z15.toNat : Int), cont_r (du64s z14) z15.toNat, [])
  | _ => none
attribute [go_sem] sp_cont
theorem sp_cont_ok : ∀ rs p r fr, sp_cont rs = some (p, r, fr) → p → FnOk Tryz.prog 60 rs r fr := by
  intro rs p r fr h hp
  unfold sp_cont at h
  split at h <;> cases h
  obtain ⟨hc0, hc1⟩ := hp
  rename_i z14 z15
  obtain ⟨z14, rfl⟩ : ∃ m, z14 = u64s m := ⟨_, hc0⟩
  obtain ⟨z15, rfl⟩ : ∃ m : Nat, z15 = m := ⟨_, hc1⟩
  simp only [Int.toNat_natCast, du64s_u64s]
  exact cont_ok z14 z15
def evL (n : Nat) (h : List Nat) : List It := (List.range h.length).map fun i => ⟨h.getD i default, evP n h.length i⟩
def evW (n : Nat) (h : List Nat) : List It × Int := if h.length ≠ 0 ∧ h.length ≤ 16 ∧ n ≤ 4611686018427387904 ∧ 0 ∉ evN n h.length then (evL n h, 0) else ([], 1)
theorem ones_sum {k : Nat} : (List.replicate k 1).sum = k := by simp
theorem spl_ones {n k : Nat} (hk : k ≤ 16) : splL n (List.replicate k 1) = if n ≤ 4611686018427387904 ∧ k ≠ 0 then (evN n k, 0) else ([], 1) := by
  have h1 : ∀ w ∈ List.replicate k 1, w ≤ 1000000 := fun w hw => by rw [(List.mem_replicate.1 hw).2]; decide
  unfold splL
  rw [List.length_replicate, ones_sum]
  by_cases h : n ≤ 4611686018427387904 ∧ k ≠ 0
  · rw [if_pos h, if_pos ⟨h.1, h.2, by omega, h1, h.2⟩]
    congr 1
    unfold splN evN
    rw [List.length_replicate, ones_sum]
    refine List.map_congr_left fun i hi => ?_
    have hi := List.mem_range.1 hi
    rw [splP, evP, List.take_replicate, List.take_replicate, ones_sum, ones_sum, Nat.min_eq_left (by omega), Nat.min_eq_left (by omega)]
  · rw [if_neg h, if_neg fun h2 => h ⟨h2.1, h2.2.1⟩]
def evH (n : Nat) (h : List Nat) (i : Nat) : List It := (evL n h).take i ++ List.replicate (h.length - i) default
theorem evL_len {n : Nat} {h : List Nat} : (evL n h).length = h.length := by simp [evL]
theorem evH_len {n : Nat} {h : List Nat} {i : Nat} (hi : i ≤ h.length) : (evH n h i).length = h.length := by simp [evH, evL_len]; omega
theorem evH_0 {n : Nat} {h : List Nat} : List.replicate h.length [C.int .u64 0, C.int .u64 0] = its (evH n h 0) := by
  simp only [evH, List.take_zero, List.nil_append, Nat.sub_zero, its, List.map_replicate]; rfl
theorem evH_all {n : Nat} {h : List Nat} : evH n h h.length = evL n h := by
  rw [evH, Nat.sub_self, List.replicate_zero, List.append_nil, List.take_of_length_le (by rw [evL_len]; exact Nat.le_refl _)]
theorem evH_set {n : Nat} {h : List Nat} {i : Nat} (hi : i < h.length) : (evH n h i).set i ⟨h.getD i default, evP n h.length i⟩ = evH n h (i + 1) := by
  have hl : i < (evL n h).length := by rw [evL_len]; exact hi
  have h1 : ((evL n h).take i).length = i := by rw [List.length_take]; omega
  rw [evH, evH, List.take_succ_eq_append_getElem hl, List.append_assoc, List.set_append_right _ _ (by omega), h1, Nat.sub_self]
  obtain ⟨k, hk⟩ : ∃ k, h.length - i = k + 1 := ⟨h.length - i - 1, by omega⟩
  rw [hk, show h.length - (i + 1) = k by omega, List.replicate_succ, List.set_cons_zero]
  simp [evL]
theorem evN_get {n k i : Nat} (hi : i < k) : (evN n k).getD i default = evP n k i := by
  rw [List.getD_eq_getElem?_getD, evN, List.getElem?_map, List.getElem?_range hi]; rfl
@[go_sem] def beven_r (n : Nat) (h : List Nat) : D := .tup [.sl (its (evW n h).1), .int .i64 (evW n h).2]
@[go_sem] abbrev n_beven : FuncId := 21
@[go_sem] def beven_T : Tab := [(58, sp_split), (59, sp_rep1), (60, sp_cont)]
theorem beven_T_ok : TabOk Tryz.prog beven_T := (TabOk.cons sp_split_ok (TabOk.cons sp_rep1_ok (TabOk.cons sp_cont_ok TabOk.nil)))
set_option maxRecDepth 8000 in
set_option maxHeartbeats 1000000 in
theorem beven_ok (n : Nat) (h : List Nat)  : PureFn Tryz.prog 21 [.c (.int .u64 (n : Int)), .sl (u64s h)] (beven_r n h) := by
  refine .of (ac21 beven_T_ok (Nat.le_of_ble_eq_true rfl) ?_)
  simp -implicitDefEqProofs only [cdA, go_sem, Go.Proofs.Tryz.f21, reduceIte, reduceCtorEq, Nat.reduceEqDiff, Nat.reduceAdd, Nat.reduceLeDiff, Nat.reduceSub, Nat.reduceMul, Nat.reduceLT, Nat.reduceShiftRight, Nat.reduceMod, Int.reduceLE, Int.reduceLT, Int.reduceToNat, List.cons.injEq, cdB]
  have hbad : ¬ (h.length ≠ 0 ∧ h.length ≤ 16 ∧ n ≤ 4611686018427387904 ∧ 0 ∉ evN n h.length) → its (evW n h).1 = [] ∧ 1 = (evW n h).2 := fun hh => by rw [evW, if_neg hh]; exact ⟨rfl, rfl⟩
  refine fun _ => ⟨fun h1 => hbad fun hh => by omega, fun h1 _ => ⟨by omega, ?_⟩⟩
  rw [show ([1] : List Nat).getD 0 default = 1 from rfl]
  have hs := spl_ones (n := n) (k := h.length) (by omega)
  by_cases hc : n ≤ 4611686018427387904 ∧ h.length ≠ 0
  rotate_left 1
  · rw [if_neg hc] at hs
    rw [hs]
    exact ⟨fun h2 => by simp at h2, fun _ => hbad fun hh => hc ⟨hh.2.2.1, hh.1⟩⟩
  rw [if_pos hc] at hs
  rw [hs]
  dsimp only
  refine ⟨fun _ => ⟨fun h2 => hbad fun hh => hh.2.2.2 h2, fun h2 _ => ⟨⟨Int.le_refl _, by omega⟩, fun _ => ?_⟩⟩, fun h2 => absurd rfl h2⟩
  have hgood : evW n h = (evL n h, 0) := by rw [evW, if_pos ⟨hc.2, by omega, hc.1, h2⟩]
  have hel : (evN n h.length).length = h.length := by simp [evN]
  rw [hgood]
  refine SWp.loop (ι := { i : Nat // i ≤ h.length }) (fun i => ⟨[(6, .sl (u64s (evN n h.length))), (8, .vec 1 h.length), (32, .sl (u64s h)), (33, .int .i64 h.length), (34, .int .i64 i.1)], [(1, .vec true 2 44 (its (evH n h i.1)))], 2⟩) (fun i => h.length - i.1) ⟨0, by simp⟩ ?_ ?_
  · simp [go_sem, ← evH_0]
  · rintro ⟨j, hj⟩
    refine awp_sound beven_T_ok.toS lv21 _ _ _ rfl ?_
    simp -implicitDefEqProofs only [cdA, go_sem, reduceIte, reduceCtorEq, Nat.reduceEqDiff, Nat.reduceAdd, Nat.reduceLeDiff, Nat.reduceSub, Nat.reduceMul, Nat.reduceLT, Nat.reduceShiftRight, Nat.reduceMod, Int.reduceLE, Int.reduceLT, Int.reduceToNat, List.cons.injEq, cdB]
    rw [hel]
    refine ⟨fun h7 => ?_, fun h7 => ?_⟩
    · have hj' : j < h.length := by omega
      rw [evN_get hj', evH_set hj']
      exact ⟨h7, h7, h7, ⟨(evH_len hj).symm, hj'⟩, ⟨j + 1, hj'⟩, by dsimp only; omega, i64_in _ (by omega), rfl⟩
    · have hj' : j = h.length := by omega
      subst hj'
      rw [evH_all]
      exact ⟨evL_len.symm, _, _, _, rfl⟩
def sp_beven : List D → Option (Prop × D × Fr)
  | [.c (.int .u64 z16), .c (.sl z17)] => some (z16 = (z16.toNat : Int) ∧ z17 = u64s (du64s z17), beven_r z16.toNat (du64s z17), [])
  | _ => none
attribute [go_sem] sp_beven
theorem sp_beven_ok : ∀ rs p r fr, sp_beven rs = some (p, r, fr) → p → FnOk Tryz.prog 21 rs r fr := by
  intro rs p r fr h hp
  unfold sp_beven at h
  split at h <;> cases h
  obtain ⟨hc0, hc1⟩ := hp
  rename_i z16 z17
  obtain ⟨z16, rfl⟩ : ∃ m : Nat, z16 = m := ⟨_, hc0⟩
  obtain ⟨z17, rfl⟩ : ∃ m, z17 = u64s m := ⟨_, hc1⟩
  simp only [Int.toNat_natCast, du64s_u64s]
  exact beven_ok z16 z17
end Dm
namespace Dm
open Go Go.Proofs Go.IntWalk
theorem evW_0 {n : Nat} {h : List Nat} (h0 : (evW n h).2 = 0) : evW n h = (evL n h, 0) ∧ h.length ≠ 0 ∧ h.length ≤ 16 ∧ n ≤ 4611686018427387904 ∧ 0 ∉ evN n h.length := by
  by_cases hc : h.length ≠ 0 ∧ h.length ≤ 16 ∧ n ≤ 4611686018427387904 ∧ 0 ∉ evN n h.length
  · exact ⟨by rw [evW, if_pos hc], hc⟩
  · rw [evW, if_neg hc] at h0; exact absurd h0 (by decide)
theorem evW_1 {n : Nat} {h : List Nat} (h0 : ¬ (evW n h).2 = 0) : evW n h = ([], 1) ∧ ¬ (h.length ≠ 0 ∧ h.length ≤ 16 ∧ n ≤ 4611686018427387904 ∧ 0 ∉ evN n h.length) := by
  by_cases hc : h.length ≠ 0 ∧ h.length ≤ 16 ∧ n ≤ 4611686018427387904 ∧ 0 ∉ evN n h.length
  · rw [evW, if_pos hc] at h0; exact absurd rfl h0
  · exact ⟨by rw [evW, if_neg hc], hc⟩
theorem evL_get {n : Nat} {h : List Nat} {i : Nat} (hi : i < h.length) : (evL n h).getD i default = ⟨h.getD i default, evP n h.length i⟩ := by
  rw [List.getD_eq_getElem?_getD, evL, List.getElem?_map, List.getElem?_range hi]; rfl
theorem evL_tot {n : Nat} {h : List Nat} (hk : h.length ≠ 0) : totI (evL n h) = n := by
  rw [totI, evL, List.map_map]
  exact evN_sum (Nat.pos_of_ne_zero hk)
theorem mem_le_sum : ∀ {l : List Nat} {x : Nat}, x ∈ l → x ≤ l.sum
  | y :: l, x, h => by
    rw [List.sum_cons]
    rcases List.mem_cons.1 h with rfl | h
    · exact Nat.le_add_right _ _
    · exact Nat.le_trans (mem_le_sum h) (Nat.le_add_left _ _)
theorem evL_sum {n : Nat} {h : List Nat} (hk : h.length ≠ 0) (hk2 : h.length ≤ 16) (hn : n ≤ 4611686018427387904) (h0 : 0 ∉ evN n h.length) : sumB (evL n h) = (n, 0) := by
  have hall : ∀ x ∈ evL n h, okIt x := fun x hx => by
    obtain ⟨i, hi, rfl⟩ := List.mem_map.1 hx
    have hi := List.mem_range.1 hi
    have h1 : evP n h.length i ∈ evN n h.length := List.mem_map.2 ⟨i, List.mem_range.2 hi, rfl⟩
    refine ⟨fun h2 => h0 (h2 ▸ h1), ?_⟩
    have h3 : evP n h.length i ≤ n := by
      have := mem_le_sum h1
      rwa [evN_sum (Nat.pos_of_ne_zero hk)] at this
    exact Nat.le_trans h3 hn
  rw [sumB, if_pos ⟨by rw [evL_len]; exact hk, by rw [evL_len]; exact hk2, hall⟩, evL_tot hk, if_pos hn]
@[go_sem] def BatchEven_r (n : Nat) (h : List Nat) : D := .bool true
@[go_sem] abbrev n_BatchEven : FuncId := 7
@[go_sem] def BatchEven_T : Tab := [(8, sp_live), (11, sp_bsum), (21, sp_beven)]
theorem BatchEven_T_ok : TabOk Tryz.prog BatchEven_T := (TabOk.cons sp_live_ok (TabOk.cons sp_bsum_ok (TabOk.cons sp_beven_ok TabOk.nil)))
set_option maxRecDepth 8000 in
set_option maxHeartbeats 1000000 in
theorem BatchEven_ok (n : Nat) (h : List Nat) (hn : n ≤ 18446744073709551615) : PureFn Tryz.prog 7 [.c (.int .u64 (n : Int)), .sl (u64s h)] (BatchEven_r n h) := by
  refine .of (ac7 BatchEven_T_ok (Nat.le_of_ble_eq_true rfl) ?_)
  simp -implicitDefEqProofs only [cdA, go_sem, Go.Proofs.Tryz.f7, reduceIte, reduceCtorEq, Nat.reduceEqDiff, Nat.reduceAdd, Nat.reduceLeDiff, Nat.reduceSub, Nat.reduceMul, Nat.reduceLT, Nat.reduceShiftRight, Nat.reduceMod, Int.reduceLE, Int.reduceLT, Int.reduceToNat, List.cons.injEq, cdB]
  refine ⟨fun he _ => ?_, fun he _ => ?_⟩
  · obtain ⟨e, hk, hk2, hn1, h0⟩ := evW_0 he
    have hs := evL_sum hk hk2 hn1 h0
    rw [e]
    dsimp only
    rw [hs, evL_len, evL_get (by omega)]
    refine ⟨fun _ _ _ => ⟨fun _ => ⟨by omega, by omega, fun _ => ?_⟩, fun hx => absurd rfl hx⟩, fun hx => by omega⟩
    have near := fun i => evP_near (n := n) (k := h.length) (i := i) (by omega)
    refine SWp.loop (ι := { x : Nat × Nat × Nat // x.1 ≤ h.length ∧ n / h.length ≤ x.2.1 ∧ x.2.1 ≤ x.2.2 ∧ x.2.2 ≤ n / h.length + 1 }) (fun x => ⟨[(0, .int .u64 n), (1, .sl (u64s h)), (7, .int .u64 n), (8, .int .i64 0), (9, .int .u64 x.1.2.1), (10, .int .u64 x.1.2.2), (70, .sl (its (evL n h))), (71, .int .i64 h.length), (72, .int .i64 x.1.1)], [], 0⟩) (fun x => h.length - x.1.1) ⟨(0, evP n h.length 0, evP n h.length 0), by dsimp only; omega, (near 0).1, Nat.le_refl _, (near 0).2⟩ ?_ ?_
    · simp [go_sem]
    · rintro ⟨⟨i, lo, up⟩, hi, hlo, hlu, hup⟩
      dsimp only at hi hlo hlu hup
      refine awp_sound BatchEven_T_ok.toS lv7 _ _ _ rfl ?_
      simp -implicitDefEqProofs only [cdA, go_sem, reduceIte, reduceCtorEq, Nat.reduceEqDiff, Nat.reduceAdd, Nat.reduceLeDiff, Nat.reduceSub, Nat.reduceMul, Nat.reduceLT, Nat.reduceShiftRight, Nat.reduceMod, Int.reduceLE, Int.reduceLT, Int.reduceToNat, List.cons.injEq, cdB]
      rw [evL_len]
      refine ⟨fun h5 => ⟨h5, ?_⟩, fun h5 => ?_⟩
      · have hi' : i < h.length := by omega
        rw [evL_get hi']
        dsimp only
        have hne := near i
        have e1 : min (lo : Int) (evP n h.length i : Nat) = ((min lo (evP n h.length i) : Nat) : Int) := by omega
        have e2 : max (up : Int) (evP n h.length i : Nat) = ((max up (evP n h.length i) : Nat) : Int) := by omega
        rw [e1, e2]
        refine ADraw.run us7_16 BatchEven_T_ok follows_mixed (by kernel_rfl) (by kernel_rfl) ?_
        simp -implicitDefEqProofs only [cdA, go_sem, reduceIte, reduceCtorEq, Nat.reduceEqDiff, Nat.reduceAdd, Nat.reduceLeDiff, Nat.reduceSub, Nat.reduceMul, Nat.reduceLT, Nat.reduceShiftRight, Nat.reduceMod, Int.reduceLE, Int.reduceLT, Int.reduceToNat, List.cons.injEq, cdB]
        exact ⟨h5, ⟨(i + 1, min lo (evP n h.length i), max up (evP n h.length i)), hi', by dsimp only; omega, by dsimp only; omega, by dsimp only; omega⟩, by dsimp only; omega, rfl, rfl, i64_in _ (by omega)⟩
      · have hi' : i = h.length := by omega
        refine decide_eq_true ?_
        rw [show (up : Int) - lo = ((up - lo : Nat) : Int) by omega]
        have hd := Nat.div_le_self n h.length
        rw [wN (by omega)]
        omega
  · obtain ⟨e, hk⟩ := evW_1 he
    rw [e]
    dsimp only
    refine ⟨fun _ => ⟨fun h1 _ => ⟨fun h2 _ => ⟨fun h3 _ => ?_, fun _ => trivial⟩, fun _ => trivial⟩, fun _ => trivial⟩, fun hx => absurd rfl hx⟩
    rw [wN (by omega)]
    refine decide_eq_true ?_
    rcases Nat.lt_or_ge n h.length with h4 | h4
    · omega
    · exact absurd ⟨by omega, by omega, by omega, fun h5 => by have := evN_zero h5; omega⟩ hk
@[go_sem] def BatchEven_p (n : Nat) (h : List Nat) : Prop := (n ≤ 18446744073709551615)
def sp_BatchEven : List D → Option (Prop × D × Fr)
  | [.c (.int .u64 z1), .c (.sl z2)] => some (z1 = (z1.toNat : Int) ∧ z2 = u64s (du64s z2) ∧ BatchEven_p z1.toNat (du64s z2), BatchEven_r z1.toNat (du64s z2), [])
  | _ => none
attribute [go_sem] sp_BatchEven
end Dm
