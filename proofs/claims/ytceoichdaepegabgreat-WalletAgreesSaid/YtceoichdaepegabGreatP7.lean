import Derived.Test.YtceoichdaepegabGreatP6

set_option linter.unusedSimpArgs false
set_option linter.unusedVariables false
set_option linter.unusedSectionVars false
namespace Dm
open Go Go.Proofs Go.IntWalk
theorem wT : ((1 : Int) = 0) = False := eq_false (by decide)
theorem zb1 : ((7 : Int) = 0) = False := eq_false (by decide)
theorem bbF : ((9 : Int) = 0) = False := eq_false (by decide)
def gaf (v : Wl) (hash n : Nat) : List Py × Int := uo v.p ⟨v.next, hash, (bp v.c v.w n).1, n, 1⟩
def wal (v : Wl) (n : Nat) : List Ch × Int := um v.c (bp v.c v.w n).1 v.next n
def gaZ (v : Wl) (n : Nat) : Fd × Nat × Int := xu v.f 0 v.next n
def jak (v : Wl) (hash n : Nat) : Int := if ¬ okW v ∨ n = 0 ∨ ¬ n ≤ MM then 1 else if (bp v.c v.w n).2 ≠ 0 then 9 else if v.next = MM then 7 else if (gaf v hash n).2 ≠ 0 then (gaf v hash n).2 else if (wal v n).2 ≠ 0 then (wal v n).2 else (gaZ v n).2.2
def xy : Wl := ⟨[], [], [], [], ⟨0, []⟩, 0, 0⟩
def yl (v : Wl) (hash n : Nat) : Wl × Nat × Int := if jak v hash n = 0 then (⟨(wal v n).1, v.w, v.i, (gaf v hash n).1, (gaZ v n).1, v.next + 1, v.tick⟩, v.next, 0) else (xy, 0, jak v hash n)
@[go_sem] def wbd (v : Wl) (hash : Nat) (n : Nat) : D := .tup [.agg [.sl (chs (yl v hash n).1.c), .sl (wts (yl v hash n).1.w), .sl (ivs (yl v hash n).1.i), .sl (pys (yl v hash n).1.p), .int .u64 (yl v hash n).1.f.next, .sl (evs (yl v hash n).1.f.l), .int .u64 (yl v hash n).1.next, .int .u64 (yl v hash n).1.tick], .int .u64 (yl v hash n).2.1, .int .i64 (yl v hash n).2.2]
@[go_sem] abbrev ucV : FuncId := 15
@[go_sem] def jb1 : Tab := [(9, jh), (40, jg), (41, bQ), (44, zK), (46, yR), (80, uv), (81, vq)]
theorem ja : za Tryz.prog jb1 := (za.cons xg (za.cons yg (za.cons wat (za.cons wag (za.cons bav (za.cons gn (za.cons kj za.nil)))))))
set_option maxRecDepth 8000 in
set_option maxHeartbeats 1000000 in
theorem xbr (v : Wl) (hash : Nat) (n : Nat) (h : v.f.next ≤ 18446744073709551615) : yb Tryz.prog 15 [.agg [.sl (chs v.c), .sl (wts v.w), .sl (ivs v.i), .sl (pys v.p), .c (.int .u64 (v.f.next : Int)), .sl (evs v.f.l), .c (.int .u64 (v.next : Int)), .c (.int .u64 (v.tick : Int))], .c (.int .u64 (hash : Int)), .c (.int .u64 (n : Int))] (wbd v hash n) := by
  refine .of (jdf ja (Nat.le_of_ble_eq_true rfl) ?_)
  simp -implicitDefEqProofs only [cdA, go_sem, Go.Proofs.Tryz.f15, reduceIte, reduceCtorEq, Nat.reduceEqDiff, Nat.reduceAdd, Nat.reduceLeDiff, Nat.reduceSub, Nat.reduceMul, Nat.reduceLT, Nat.reduceShiftRight, Nat.reduceMod, Int.reduceLE, Int.reduceLT, Int.reduceToNat, List.cons.injEq, cdB]
  refine xa0 ja (Nat.le_of_ble_eq_true rfl) ?_
  simp -implicitDefEqProofs only [cdA, go_sem, Go.Proofs.Tryz.f33, reduceIte, reduceCtorEq, Nat.reduceEqDiff, Nat.reduceAdd, Nat.reduceLeDiff, Nat.reduceSub, Nat.reduceMul, Nat.reduceLT, Nat.reduceShiftRight, Nat.reduceMod, Int.reduceLE, Int.reduceLT, Int.reduceToNat, List.cons.injEq, cdB]
  refine uc.run wH ja qa (by kernel_rfl) (by kernel_rfl) ?_
  simp -implicitDefEqProofs only [cdA, go_sem, reduceIte, reduceCtorEq, Nat.reduceEqDiff, Nat.reduceAdd, Nat.reduceLeDiff, Nat.reduceSub, Nat.reduceMul, Nat.reduceLT, Nat.reduceShiftRight, Nat.reduceMod, Int.reduceLE, Int.reduceLT, Int.reduceToNat, List.cons.injEq, cdB]
  refine ⟨h, ?_⟩
  have hbad : ∀ e : Int, jak v hash n = e → ¬ e = 0 → (chs (yl v hash n).1.c = [] ∧ wts (yl v hash n).1.w = [] ∧ ivs (yl v hash n).1.i = [] ∧ pys (yl v hash n).1.p = [] ∧ 0 = ((yl v hash n).1.f.next : Int) ∧ evs (yl v hash n).1.f.l = [] ∧ 0 = ((yl v hash n).1.next : Int) ∧ 0 = ((yl v hash n).1.tick : Int)) ∧ 0 = ((yl v hash n).2.1 : Int) ∧ e = (yl v hash n).2.2 := fun e h1 h2 => by
    have : yl v hash n = (xy, 0, e) := by rw [yl, if_neg (by rw [h1]; exact h2), h1]
    rw [this]; exact ⟨⟨rfl, rfl, rfl, rfl, rfl, rfl, rfl, rfl⟩, rfl, rfl⟩
  by_cases hok : okW v
  rotate_left 1
  · have hck : (bt v = 0) = False := eq_false fun h => hok (ql.1 h)
    have he : jak v hash n = 1 := by rw [jak, if_pos (.inl hok)]
    have hc1 : bt v = 1 := by rw [bt, if_neg hok]
    refine ⟨fun hn => ?_, fun hn => ?_⟩
    · skip
      refine gQ ja (Nat.le_of_ble_eq_true rfl) ?_
      simp -implicitDefEqProofs only [cdA, go_sem, Go.Proofs.Tryz.f39, hck, cdN, reduceIte, reduceCtorEq, Nat.reduceEqDiff, Nat.reduceAdd, Nat.reduceLeDiff, Nat.reduceSub, Nat.reduceMul, Nat.reduceLT, Nat.reduceShiftRight, Nat.reduceMod, Int.reduceLE, Int.reduceLT, Int.reduceToNat, List.cons.injEq, cdB]
      refine gQ ja (Nat.le_of_ble_eq_true rfl) ?_
      simp -implicitDefEqProofs only [cdA, go_sem, Go.Proofs.Tryz.f39, hck, cdN, reduceIte, reduceCtorEq, Nat.reduceEqDiff, Nat.reduceAdd, Nat.reduceLeDiff, Nat.reduceSub, Nat.reduceMul, Nat.reduceLT, Nat.reduceShiftRight, Nat.reduceMod, Int.reduceLE, Int.reduceLT, Int.reduceToNat, List.cons.injEq, cdB]
      refine gQ ja (Nat.le_of_ble_eq_true rfl) ?_
      simp -implicitDefEqProofs only [cdA, go_sem, Go.Proofs.Tryz.f39, hck, cdN, reduceIte, reduceCtorEq, Nat.reduceEqDiff, Nat.reduceAdd, Nat.reduceLeDiff, Nat.reduceSub, Nat.reduceMul, Nat.reduceLT, Nat.reduceShiftRight, Nat.reduceMod, Int.reduceLE, Int.reduceLT, Int.reduceToNat, List.cons.injEq, cdB]
      refine baM ja (Nat.le_of_ble_eq_true rfl) ?_
      simp -implicitDefEqProofs only [cdA, go_sem, Go.Proofs.Tryz.f42, hck, cdN, reduceIte, reduceCtorEq, Nat.reduceEqDiff, Nat.reduceAdd, Nat.reduceLeDiff, Nat.reduceSub, Nat.reduceMul, Nat.reduceLT, Nat.reduceShiftRight, Nat.reduceMod, Int.reduceLE, Int.reduceLT, Int.reduceToNat, List.cons.injEq, cdB]
      refine zZ ja (Nat.le_of_ble_eq_true rfl) ?_
      simp -implicitDefEqProofs only [cdA, go_sem, Go.Proofs.Tryz.f34, hck, cdN, reduceIte, reduceCtorEq, Nat.reduceEqDiff, Nat.reduceAdd, Nat.reduceLeDiff, Nat.reduceSub, Nat.reduceMul, Nat.reduceLT, Nat.reduceShiftRight, Nat.reduceMod, Int.reduceLE, Int.reduceLT, Int.reduceToNat, List.cons.injEq, cdB]
      refine bG ja (Nat.le_of_ble_eq_true rfl) ?_
      simp -implicitDefEqProofs only [cdA, go_sem, Go.Proofs.Tryz.f37, reduceIte, reduceCtorEq, Nat.reduceEqDiff, Nat.reduceAdd, Nat.reduceLeDiff, Nat.reduceSub, Nat.reduceMul, Nat.reduceLT, Nat.reduceShiftRight, Nat.reduceMod, Int.reduceLE, Int.reduceLT, Int.reduceToNat, List.cons.injEq, cdB]
      refine yH ja (Nat.le_of_ble_eq_true rfl) ?_
      simp -implicitDefEqProofs only [cdA, go_sem, Go.Proofs.Tryz.f78, hck, cdN, reduceIte, reduceCtorEq, Nat.reduceEqDiff, Nat.reduceAdd, Nat.reduceLeDiff, Nat.reduceSub, Nat.reduceMul, Nat.reduceLT, Nat.reduceShiftRight, Nat.reduceMod, Int.reduceLE, Int.reduceLT, Int.reduceToNat, List.cons.injEq, cdB]
      refine yu ja (Nat.le_of_ble_eq_true rfl) ?_
      simp -implicitDefEqProofs only [cdA, go_sem, Go.Proofs.Tryz.f38, hck, cdN, reduceIte, reduceCtorEq, Nat.reduceEqDiff, Nat.reduceAdd, Nat.reduceLeDiff, Nat.reduceSub, Nat.reduceMul, Nat.reduceLT, Nat.reduceShiftRight, Nat.reduceMod, Int.reduceLE, Int.reduceLT, Int.reduceToNat, List.cons.injEq, cdB]
      refine uc.run kf ja qa (by kernel_rfl) (by kernel_rfl) ?_
      simp -implicitDefEqProofs only [cdA, go_sem, hck, cdN, reduceIte, reduceCtorEq, Nat.reduceEqDiff, Nat.reduceAdd, Nat.reduceLeDiff, Nat.reduceSub, Nat.reduceMul, Nat.reduceLT, Nat.reduceShiftRight, Nat.reduceMod, Int.reduceLE, Int.reduceLT, Int.reduceToNat, List.cons.injEq, cdB]
      exact hbad _ (he.trans hc1.symm) (by rw [hc1]; decide)
    · skip
      refine gQ ja (Nat.le_of_ble_eq_true rfl) ?_
      simp -implicitDefEqProofs only [cdA, go_sem, Go.Proofs.Tryz.f39, hck, cdN, reduceIte, reduceCtorEq, Nat.reduceEqDiff, Nat.reduceAdd, Nat.reduceLeDiff, Nat.reduceSub, Nat.reduceMul, Nat.reduceLT, Nat.reduceShiftRight, Nat.reduceMod, Int.reduceLE, Int.reduceLT, Int.reduceToNat, List.cons.injEq, cdB]
      refine gQ ja (Nat.le_of_ble_eq_true rfl) ?_
      simp -implicitDefEqProofs only [cdA, go_sem, Go.Proofs.Tryz.f39, hck, cdN, reduceIte, reduceCtorEq, Nat.reduceEqDiff, Nat.reduceAdd, Nat.reduceLeDiff, Nat.reduceSub, Nat.reduceMul, Nat.reduceLT, Nat.reduceShiftRight, Nat.reduceMod, Int.reduceLE, Int.reduceLT, Int.reduceToNat, List.cons.injEq, cdB]
      refine gQ ja (Nat.le_of_ble_eq_true rfl) ?_
      simp -implicitDefEqProofs only [cdA, go_sem, Go.Proofs.Tryz.f39, hck, cdN, reduceIte, reduceCtorEq, Nat.reduceEqDiff, Nat.reduceAdd, Nat.reduceLeDiff, Nat.reduceSub, Nat.reduceMul, Nat.reduceLT, Nat.reduceShiftRight, Nat.reduceMod, Int.reduceLE, Int.reduceLT, Int.reduceToNat, List.cons.injEq, cdB]
      refine baM ja (Nat.le_of_ble_eq_true rfl) ?_
      simp -implicitDefEqProofs only [cdA, go_sem, Go.Proofs.Tryz.f42, hck, cdN, reduceIte, reduceCtorEq, Nat.reduceEqDiff, Nat.reduceAdd, Nat.reduceLeDiff, Nat.reduceSub, Nat.reduceMul, Nat.reduceLT, Nat.reduceShiftRight, Nat.reduceMod, Int.reduceLE, Int.reduceLT, Int.reduceToNat, List.cons.injEq, cdB]
      refine zZ ja (Nat.le_of_ble_eq_true rfl) ?_
      simp -implicitDefEqProofs only [cdA, go_sem, Go.Proofs.Tryz.f34, hck, cdN, reduceIte, reduceCtorEq, Nat.reduceEqDiff, Nat.reduceAdd, Nat.reduceLeDiff, Nat.reduceSub, Nat.reduceMul, Nat.reduceLT, Nat.reduceShiftRight, Nat.reduceMod, Int.reduceLE, Int.reduceLT, Int.reduceToNat, List.cons.injEq, cdB]
      refine bG ja (Nat.le_of_ble_eq_true rfl) ?_
      simp -implicitDefEqProofs only [cdA, go_sem, Go.Proofs.Tryz.f37, reduceIte, reduceCtorEq, Nat.reduceEqDiff, Nat.reduceAdd, Nat.reduceLeDiff, Nat.reduceSub, Nat.reduceMul, Nat.reduceLT, Nat.reduceShiftRight, Nat.reduceMod, Int.reduceLE, Int.reduceLT, Int.reduceToNat, List.cons.injEq, cdB]
      refine yH ja (Nat.le_of_ble_eq_true rfl) ?_
      simp -implicitDefEqProofs only [cdA, go_sem, Go.Proofs.Tryz.f78, hck, cdN, reduceIte, reduceCtorEq, Nat.reduceEqDiff, Nat.reduceAdd, Nat.reduceLeDiff, Nat.reduceSub, Nat.reduceMul, Nat.reduceLT, Nat.reduceShiftRight, Nat.reduceMod, Int.reduceLE, Int.reduceLT, Int.reduceToNat, List.cons.injEq, cdB]
      refine yu ja (Nat.le_of_ble_eq_true rfl) ?_
      simp -implicitDefEqProofs only [cdA, go_sem, Go.Proofs.Tryz.f38, hck, cdN, reduceIte, reduceCtorEq, Nat.reduceEqDiff, Nat.reduceAdd, Nat.reduceLeDiff, Nat.reduceSub, Nat.reduceMul, Nat.reduceLT, Nat.reduceShiftRight, Nat.reduceMod, Int.reduceLE, Int.reduceLT, Int.reduceToNat, List.cons.injEq, cdB]
      refine uc.run kf ja qa (by kernel_rfl) (by kernel_rfl) ?_
      simp -implicitDefEqProofs only [cdA, go_sem, hck, cdN, reduceIte, reduceCtorEq, Nat.reduceEqDiff, Nat.reduceAdd, Nat.reduceLeDiff, Nat.reduceSub, Nat.reduceMul, Nat.reduceLT, Nat.reduceShiftRight, Nat.reduceMod, Int.reduceLE, Int.reduceLT, Int.reduceToNat, List.cons.injEq, cdB]
      exact hbad _ (he.trans hc1.symm) (by rw [hc1]; decide)
  have hck : (bt v = 0) = True := eq_true (ql.2 hok)
  refine ⟨fun hn => ?_, fun hn => ?_⟩
  rotate_left 1
  · skip
    refine gQ ja (Nat.le_of_ble_eq_true rfl) ?_
    simp -implicitDefEqProofs only [cdA, go_sem, Go.Proofs.Tryz.f39, hck, cdN, reduceIte, reduceCtorEq, Nat.reduceEqDiff, Nat.reduceAdd, Nat.reduceLeDiff, Nat.reduceSub, Nat.reduceMul, Nat.reduceLT, Nat.reduceShiftRight, Nat.reduceMod, Int.reduceLE, Int.reduceLT, Int.reduceToNat, List.cons.injEq, cdB]
    skip
    refine gQ ja (Nat.le_of_ble_eq_true rfl) ?_
    simp -implicitDefEqProofs only [cdA, go_sem, Go.Proofs.Tryz.f39, wT, cdN, reduceIte, reduceCtorEq, Nat.reduceEqDiff, Nat.reduceAdd, Nat.reduceLeDiff, Nat.reduceSub, Nat.reduceMul, Nat.reduceLT, Nat.reduceShiftRight, Nat.reduceMod, Int.reduceLE, Int.reduceLT, Int.reduceToNat, List.cons.injEq, cdB]
    refine gQ ja (Nat.le_of_ble_eq_true rfl) ?_
    simp -implicitDefEqProofs only [cdA, go_sem, Go.Proofs.Tryz.f39, wT, cdN, reduceIte, reduceCtorEq, Nat.reduceEqDiff, Nat.reduceAdd, Nat.reduceLeDiff, Nat.reduceSub, Nat.reduceMul, Nat.reduceLT, Nat.reduceShiftRight, Nat.reduceMod, Int.reduceLE, Int.reduceLT, Int.reduceToNat, List.cons.injEq, cdB]
    refine baM ja (Nat.le_of_ble_eq_true rfl) ?_
    simp -implicitDefEqProofs only [cdA, go_sem, Go.Proofs.Tryz.f42, wT, cdN, reduceIte, reduceCtorEq, Nat.reduceEqDiff, Nat.reduceAdd, Nat.reduceLeDiff, Nat.reduceSub, Nat.reduceMul, Nat.reduceLT, Nat.reduceShiftRight, Nat.reduceMod, Int.reduceLE, Int.reduceLT, Int.reduceToNat, List.cons.injEq, cdB]
    refine zZ ja (Nat.le_of_ble_eq_true rfl) ?_
    simp -implicitDefEqProofs only [cdA, go_sem, Go.Proofs.Tryz.f34, wT, cdN, reduceIte, reduceCtorEq, Nat.reduceEqDiff, Nat.reduceAdd, Nat.reduceLeDiff, Nat.reduceSub, Nat.reduceMul, Nat.reduceLT, Nat.reduceShiftRight, Nat.reduceMod, Int.reduceLE, Int.reduceLT, Int.reduceToNat, List.cons.injEq, cdB]
    refine bG ja (Nat.le_of_ble_eq_true rfl) ?_
    simp -implicitDefEqProofs only [cdA, go_sem, Go.Proofs.Tryz.f37, reduceIte, reduceCtorEq, Nat.reduceEqDiff, Nat.reduceAdd, Nat.reduceLeDiff, Nat.reduceSub, Nat.reduceMul, Nat.reduceLT, Nat.reduceShiftRight, Nat.reduceMod, Int.reduceLE, Int.reduceLT, Int.reduceToNat, List.cons.injEq, cdB]
    refine yH ja (Nat.le_of_ble_eq_true rfl) ?_
    simp -implicitDefEqProofs only [cdA, go_sem, Go.Proofs.Tryz.f78, wT, cdN, reduceIte, reduceCtorEq, Nat.reduceEqDiff, Nat.reduceAdd, Nat.reduceLeDiff, Nat.reduceSub, Nat.reduceMul, Nat.reduceLT, Nat.reduceShiftRight, Nat.reduceMod, Int.reduceLE, Int.reduceLT, Int.reduceToNat, List.cons.injEq, cdB]
    refine yu ja (Nat.le_of_ble_eq_true rfl) ?_
    simp -implicitDefEqProofs only [cdA, go_sem, Go.Proofs.Tryz.f38, wT, cdN, reduceIte, reduceCtorEq, Nat.reduceEqDiff, Nat.reduceAdd, Nat.reduceLeDiff, Nat.reduceSub, Nat.reduceMul, Nat.reduceLT, Nat.reduceShiftRight, Nat.reduceMod, Int.reduceLE, Int.reduceLT, Int.reduceToNat, List.cons.injEq, cdB]
    refine uc.run kf ja qa (by kernel_rfl) (by kernel_rfl) ?_
    simp -implicitDefEqProofs only [cdA, go_sem, wT, cdN, reduceIte, reduceCtorEq, Nat.reduceEqDiff, Nat.reduceAdd, Nat.reduceLeDiff, Nat.reduceSub, Nat.reduceMul, Nat.reduceLT, Nat.reduceShiftRight, Nat.reduceMod, Int.reduceLE, Int.reduceLT, Int.reduceToNat, List.cons.injEq, cdB]
    exact hbad _ (by rw [jak, if_pos (.inr (.inl (by omega)))]) (by decide)
  have hmon : xX [n] = 0 ↔ n ≤ MM := xak
  by_cases hm : xX [n] = 0
  rotate_left 1
  · skip
    refine gQ ja (Nat.le_of_ble_eq_true rfl) ?_
    simp -implicitDefEqProofs only [cdA, go_sem, Go.Proofs.Tryz.f39, hck, hm, cdN, reduceIte, reduceCtorEq, Nat.reduceEqDiff, Nat.reduceAdd, Nat.reduceLeDiff, Nat.reduceSub, Nat.reduceMul, Nat.reduceLT, Nat.reduceShiftRight, Nat.reduceMod, Int.reduceLE, Int.reduceLT, Int.reduceToNat, List.cons.injEq, cdB]
    skip
    refine gQ ja (Nat.le_of_ble_eq_true rfl) ?_
    simp -implicitDefEqProofs only [cdA, go_sem, Go.Proofs.Tryz.f39, wT, cdN, reduceIte, reduceCtorEq, Nat.reduceEqDiff, Nat.reduceAdd, Nat.reduceLeDiff, Nat.reduceSub, Nat.reduceMul, Nat.reduceLT, Nat.reduceShiftRight, Nat.reduceMod, Int.reduceLE, Int.reduceLT, Int.reduceToNat, List.cons.injEq, cdB]
    refine gQ ja (Nat.le_of_ble_eq_true rfl) ?_
    simp -implicitDefEqProofs only [cdA, go_sem, Go.Proofs.Tryz.f39, wT, cdN, reduceIte, reduceCtorEq, Nat.reduceEqDiff, Nat.reduceAdd, Nat.reduceLeDiff, Nat.reduceSub, Nat.reduceMul, Nat.reduceLT, Nat.reduceShiftRight, Nat.reduceMod, Int.reduceLE, Int.reduceLT, Int.reduceToNat, List.cons.injEq, cdB]
    refine baM ja (Nat.le_of_ble_eq_true rfl) ?_
    simp -implicitDefEqProofs only [cdA, go_sem, Go.Proofs.Tryz.f42, wT, cdN, reduceIte, reduceCtorEq, Nat.reduceEqDiff, Nat.reduceAdd, Nat.reduceLeDiff, Nat.reduceSub, Nat.reduceMul, Nat.reduceLT, Nat.reduceShiftRight, Nat.reduceMod, Int.reduceLE, Int.reduceLT, Int.reduceToNat, List.cons.injEq, cdB]
    refine zZ ja (Nat.le_of_ble_eq_true rfl) ?_
    simp -implicitDefEqProofs only [cdA, go_sem, Go.Proofs.Tryz.f34, wT, cdN, reduceIte, reduceCtorEq, Nat.reduceEqDiff, Nat.reduceAdd, Nat.reduceLeDiff, Nat.reduceSub, Nat.reduceMul, Nat.reduceLT, Nat.reduceShiftRight, Nat.reduceMod, Int.reduceLE, Int.reduceLT, Int.reduceToNat, List.cons.injEq, cdB]
    refine bG ja (Nat.le_of_ble_eq_true rfl) ?_
    simp -implicitDefEqProofs only [cdA, go_sem, Go.Proofs.Tryz.f37, reduceIte, reduceCtorEq, Nat.reduceEqDiff, Nat.reduceAdd, Nat.reduceLeDiff, Nat.reduceSub, Nat.reduceMul, Nat.reduceLT, Nat.reduceShiftRight, Nat.reduceMod, Int.reduceLE, Int.reduceLT, Int.reduceToNat, List.cons.injEq, cdB]
    refine yH ja (Nat.le_of_ble_eq_true rfl) ?_
    simp -implicitDefEqProofs only [cdA, go_sem, Go.Proofs.Tryz.f78, wT, cdN, reduceIte, reduceCtorEq, Nat.reduceEqDiff, Nat.reduceAdd, Nat.reduceLeDiff, Nat.reduceSub, Nat.reduceMul, Nat.reduceLT, Nat.reduceShiftRight, Nat.reduceMod, Int.reduceLE, Int.reduceLT, Int.reduceToNat, List.cons.injEq, cdB]
    refine yu ja (Nat.le_of_ble_eq_true rfl) ?_
    simp -implicitDefEqProofs only [cdA, go_sem, Go.Proofs.Tryz.f38, wT, cdN, reduceIte, reduceCtorEq, Nat.reduceEqDiff, Nat.reduceAdd, Nat.reduceLeDiff, Nat.reduceSub, Nat.reduceMul, Nat.reduceLT, Nat.reduceShiftRight, Nat.reduceMod, Int.reduceLE, Int.reduceLT, Int.reduceToNat, List.cons.injEq, cdB]
    refine uc.run kf ja qa (by kernel_rfl) (by kernel_rfl) ?_
    simp -implicitDefEqProofs only [cdA, go_sem, wT, cdN, reduceIte, reduceCtorEq, Nat.reduceEqDiff, Nat.reduceAdd, Nat.reduceLeDiff, Nat.reduceSub, Nat.reduceMul, Nat.reduceLT, Nat.reduceShiftRight, Nat.reduceMod, Int.reduceLE, Int.reduceLT, Int.reduceToNat, List.cons.injEq, cdB]
    exact hbad _ (by rw [jak, if_pos (.inr (.inr fun h => hm (hmon.2 h)))]) (by decide)
  have hA : ¬ (¬ okW v ∨ n = 0 ∨ ¬ n ≤ MM) := by
    rintro (h | h | h)
    · exact h hok
    · omega
    · exact h (hmon.1 hm)
  refine gQ ja (Nat.le_of_ble_eq_true rfl) ?_
  simp -implicitDefEqProofs only [cdA, go_sem, Go.Proofs.Tryz.f39, hck, hm, cdN, reduceIte, reduceCtorEq, Nat.reduceEqDiff, Nat.reduceAdd, Nat.reduceLeDiff, Nat.reduceSub, Nat.reduceMul, Nat.reduceLT, Nat.reduceShiftRight, Nat.reduceMod, Int.reduceLE, Int.reduceLT, Int.reduceToNat, List.cons.injEq, cdB]
  by_cases hfe : (bp v.c v.w n).2 = 0
  rotate_left 1
  · skip
    refine gQ ja (Nat.le_of_ble_eq_true rfl) ?_
    simp -implicitDefEqProofs only [cdA, go_sem, Go.Proofs.Tryz.f39, hck, hfe, cdN, reduceIte, reduceCtorEq, Nat.reduceEqDiff, Nat.reduceAdd, Nat.reduceLeDiff, Nat.reduceSub, Nat.reduceMul, Nat.reduceLT, Nat.reduceShiftRight, Nat.reduceMod, Int.reduceLE, Int.reduceLT, Int.reduceToNat, List.cons.injEq, cdB]
    skip
    refine gQ ja (Nat.le_of_ble_eq_true rfl) ?_
    simp -implicitDefEqProofs only [cdA, go_sem, Go.Proofs.Tryz.f39, bbF, cdN, reduceIte, reduceCtorEq, Nat.reduceEqDiff, Nat.reduceAdd, Nat.reduceLeDiff, Nat.reduceSub, Nat.reduceMul, Nat.reduceLT, Nat.reduceShiftRight, Nat.reduceMod, Int.reduceLE, Int.reduceLT, Int.reduceToNat, List.cons.injEq, cdB]
    refine baM ja (Nat.le_of_ble_eq_true rfl) ?_
    simp -implicitDefEqProofs only [cdA, go_sem, Go.Proofs.Tryz.f42, bbF, cdN, reduceIte, reduceCtorEq, Nat.reduceEqDiff, Nat.reduceAdd, Nat.reduceLeDiff, Nat.reduceSub, Nat.reduceMul, Nat.reduceLT, Nat.reduceShiftRight, Nat.reduceMod, Int.reduceLE, Int.reduceLT, Int.reduceToNat, List.cons.injEq, cdB]
    refine zZ ja (Nat.le_of_ble_eq_true rfl) ?_
    simp -implicitDefEqProofs only [cdA, go_sem, Go.Proofs.Tryz.f34, bbF, cdN, reduceIte, reduceCtorEq, Nat.reduceEqDiff, Nat.reduceAdd, Nat.reduceLeDiff, Nat.reduceSub, Nat.reduceMul, Nat.reduceLT, Nat.reduceShiftRight, Nat.reduceMod, Int.reduceLE, Int.reduceLT, Int.reduceToNat, List.cons.injEq, cdB]
    refine bG ja (Nat.le_of_ble_eq_true rfl) ?_
    simp -implicitDefEqProofs only [cdA, go_sem, Go.Proofs.Tryz.f37, reduceIte, reduceCtorEq, Nat.reduceEqDiff, Nat.reduceAdd, Nat.reduceLeDiff, Nat.reduceSub, Nat.reduceMul, Nat.reduceLT, Nat.reduceShiftRight, Nat.reduceMod, Int.reduceLE, Int.reduceLT, Int.reduceToNat, List.cons.injEq, cdB]
    refine yH ja (Nat.le_of_ble_eq_true rfl) ?_
    simp -implicitDefEqProofs only [cdA, go_sem, Go.Proofs.Tryz.f78, bbF, cdN, reduceIte, reduceCtorEq, Nat.reduceEqDiff, Nat.reduceAdd, Nat.reduceLeDiff, Nat.reduceSub, Nat.reduceMul, Nat.reduceLT, Nat.reduceShiftRight, Nat.reduceMod, Int.reduceLE, Int.reduceLT, Int.reduceToNat, List.cons.injEq, cdB]
    refine yu ja (Nat.le_of_ble_eq_true rfl) ?_
    simp -implicitDefEqProofs only [cdA, go_sem, Go.Proofs.Tryz.f38, bbF, cdN, reduceIte, reduceCtorEq, Nat.reduceEqDiff, Nat.reduceAdd, Nat.reduceLeDiff, Nat.reduceSub, Nat.reduceMul, Nat.reduceLT, Nat.reduceShiftRight, Nat.reduceMod, Int.reduceLE, Int.reduceLT, Int.reduceToNat, List.cons.injEq, cdB]
    refine uc.run kf ja qa (by kernel_rfl) (by kernel_rfl) ?_
    simp -implicitDefEqProofs only [cdA, go_sem, bbF, cdN, reduceIte, reduceCtorEq, Nat.reduceEqDiff, Nat.reduceAdd, Nat.reduceLeDiff, Nat.reduceSub, Nat.reduceMul, Nat.reduceLT, Nat.reduceShiftRight, Nat.reduceMod, Int.reduceLE, Int.reduceLT, Int.reduceToNat, List.cons.injEq, cdB]
    exact hbad _ (by rw [jak, if_neg hA, if_pos hfe]) (by decide)
  refine gQ ja (Nat.le_of_ble_eq_true rfl) ?_
  simp -implicitDefEqProofs only [cdA, go_sem, Go.Proofs.Tryz.f39, hck, hfe, cdN, reduceIte, reduceCtorEq, Nat.reduceEqDiff, Nat.reduceAdd, Nat.reduceLeDiff, Nat.reduceSub, Nat.reduceMul, Nat.reduceLT, Nat.reduceShiftRight, Nat.reduceMod, Int.reduceLE, Int.reduceLT, Int.reduceToNat, List.cons.injEq, cdB]
  by_cases hnx : v.next = MM
  · have hnx' : ((v.next : Int) = 4611686018427387904) = True := eq_true (by unfold MM at hnx; omega)
    refine gQ ja (Nat.le_of_ble_eq_true rfl) ?_
    simp -implicitDefEqProofs only [cdA, go_sem, Go.Proofs.Tryz.f39, hck, hnx', decide_false, cdN, reduceIte, reduceCtorEq, Nat.reduceEqDiff, Nat.reduceAdd, Nat.reduceLeDiff, Nat.reduceSub, Nat.reduceMul, Nat.reduceLT, Nat.reduceShiftRight, Nat.reduceMod, Int.reduceLE, Int.reduceLT, Int.reduceToNat, List.cons.injEq, cdB]
    skip
    refine baM ja (Nat.le_of_ble_eq_true rfl) ?_
    simp -implicitDefEqProofs only [cdA, go_sem, Go.Proofs.Tryz.f42, zb1, cdN, reduceIte, reduceCtorEq, Nat.reduceEqDiff, Nat.reduceAdd, Nat.reduceLeDiff, Nat.reduceSub, Nat.reduceMul, Nat.reduceLT, Nat.reduceShiftRight, Nat.reduceMod, Int.reduceLE, Int.reduceLT, Int.reduceToNat, List.cons.injEq, cdB]
    refine zZ ja (Nat.le_of_ble_eq_true rfl) ?_
    simp -implicitDefEqProofs only [cdA, go_sem, Go.Proofs.Tryz.f34, zb1, cdN, reduceIte, reduceCtorEq, Nat.reduceEqDiff, Nat.reduceAdd, Nat.reduceLeDiff, Nat.reduceSub, Nat.reduceMul, Nat.reduceLT, Nat.reduceShiftRight, Nat.reduceMod, Int.reduceLE, Int.reduceLT, Int.reduceToNat, List.cons.injEq, cdB]
    refine bG ja (Nat.le_of_ble_eq_true rfl) ?_
    simp -implicitDefEqProofs only [cdA, go_sem, Go.Proofs.Tryz.f37, reduceIte, reduceCtorEq, Nat.reduceEqDiff, Nat.reduceAdd, Nat.reduceLeDiff, Nat.reduceSub, Nat.reduceMul, Nat.reduceLT, Nat.reduceShiftRight, Nat.reduceMod, Int.reduceLE, Int.reduceLT, Int.reduceToNat, List.cons.injEq, cdB]
    refine yH ja (Nat.le_of_ble_eq_true rfl) ?_
    simp -implicitDefEqProofs only [cdA, go_sem, Go.Proofs.Tryz.f78, zb1, cdN, reduceIte, reduceCtorEq, Nat.reduceEqDiff, Nat.reduceAdd, Nat.reduceLeDiff, Nat.reduceSub, Nat.reduceMul, Nat.reduceLT, Nat.reduceShiftRight, Nat.reduceMod, Int.reduceLE, Int.reduceLT, Int.reduceToNat, List.cons.injEq, cdB]
    refine yu ja (Nat.le_of_ble_eq_true rfl) ?_
    simp -implicitDefEqProofs only [cdA, go_sem, Go.Proofs.Tryz.f38, zb1, cdN, reduceIte, reduceCtorEq, Nat.reduceEqDiff, Nat.reduceAdd, Nat.reduceLeDiff, Nat.reduceSub, Nat.reduceMul, Nat.reduceLT, Nat.reduceShiftRight, Nat.reduceMod, Int.reduceLE, Int.reduceLT, Int.reduceToNat, List.cons.injEq, cdB]
    refine uc.run kf ja qa (by kernel_rfl) (by kernel_rfl) ?_
    simp -implicitDefEqProofs only [cdA, go_sem, zb1, cdN, reduceIte, reduceCtorEq, Nat.reduceEqDiff, Nat.reduceAdd, Nat.reduceLeDiff, Nat.reduceSub, Nat.reduceMul, Nat.reduceLT, Nat.reduceShiftRight, Nat.reduceMod, Int.reduceLE, Int.reduceLT, Int.reduceToNat, List.cons.injEq, cdB]
    exact hbad _ (by rw [jak, if_neg hA, if_neg (fun h => h hfe), if_pos hnx]) (by decide)
  have hnx' : ((v.next : Int) = 4611686018427387904) = False := eq_false (by unfold MM at hnx; omega)
  refine gQ ja (Nat.le_of_ble_eq_true rfl) ?_
  simp -implicitDefEqProofs only [cdA, go_sem, Go.Proofs.Tryz.f39, hck, hnx', decide_true, cdN, reduceIte, reduceCtorEq, Nat.reduceEqDiff, Nat.reduceAdd, Nat.reduceLeDiff, Nat.reduceSub, Nat.reduceMul, Nat.reduceLT, Nat.reduceShiftRight, Nat.reduceMod, Int.reduceLE, Int.reduceLT, Int.reduceToNat, List.cons.injEq, cdB]
  refine baM ja (Nat.le_of_ble_eq_true rfl) ?_
  simp -implicitDefEqProofs only [cdA, go_sem, Go.Proofs.Tryz.f42, hck, cdN, reduceIte, reduceCtorEq, Nat.reduceEqDiff, Nat.reduceAdd, Nat.reduceLeDiff, Nat.reduceSub, Nat.reduceMul, Nat.reduceLT, Nat.reduceShiftRight, Nat.reduceMod, Int.reduceLE, Int.reduceLT, Int.reduceToNat, List.cons.injEq, cdB]
  refine kdc ja (Nat.le_of_ble_eq_true rfl) ?_
  simp -implicitDefEqProofs only [cdA, go_sem, Go.Proofs.Tryz.f43, reduceIte, reduceCtorEq, Nat.reduceEqDiff, Nat.reduceAdd, Nat.reduceLeDiff, Nat.reduceSub, Nat.reduceMul, Nat.reduceLT, Nat.reduceShiftRight, Nat.reduceMod, Int.reduceLE, Int.reduceLT, Int.reduceToNat, List.cons.injEq, cdB]
  have eP : uo v.p ⟨v.next, hash, (bp v.c v.w n).1, n, 1⟩ = gaf v hash n := rfl
  rw [eP]
  refine ⟨fun hst => ?_, fun hst => ?_⟩
  rotate_left 1
  · skip
    refine zZ ja (Nat.le_of_ble_eq_true rfl) ?_
    simp -implicitDefEqProofs only [cdA, go_sem, Go.Proofs.Tryz.f34, hst, cdN, reduceIte, reduceCtorEq, Nat.reduceEqDiff, Nat.reduceAdd, Nat.reduceLeDiff, Nat.reduceSub, Nat.reduceMul, Nat.reduceLT, Nat.reduceShiftRight, Nat.reduceMod, Int.reduceLE, Int.reduceLT, Int.reduceToNat, List.cons.injEq, cdB]
    refine bG ja (Nat.le_of_ble_eq_true rfl) ?_
    simp -implicitDefEqProofs only [cdA, go_sem, Go.Proofs.Tryz.f37, reduceIte, reduceCtorEq, Nat.reduceEqDiff, Nat.reduceAdd, Nat.reduceLeDiff, Nat.reduceSub, Nat.reduceMul, Nat.reduceLT, Nat.reduceShiftRight, Nat.reduceMod, Int.reduceLE, Int.reduceLT, Int.reduceToNat, List.cons.injEq, cdB]
    refine yH ja (Nat.le_of_ble_eq_true rfl) ?_
    simp -implicitDefEqProofs only [cdA, go_sem, Go.Proofs.Tryz.f78, hst, cdN, reduceIte, reduceCtorEq, Nat.reduceEqDiff, Nat.reduceAdd, Nat.reduceLeDiff, Nat.reduceSub, Nat.reduceMul, Nat.reduceLT, Nat.reduceShiftRight, Nat.reduceMod, Int.reduceLE, Int.reduceLT, Int.reduceToNat, List.cons.injEq, cdB]
    refine yu ja (Nat.le_of_ble_eq_true rfl) ?_
    simp -implicitDefEqProofs only [cdA, go_sem, Go.Proofs.Tryz.f38, hst, cdN, reduceIte, reduceCtorEq, Nat.reduceEqDiff, Nat.reduceAdd, Nat.reduceLeDiff, Nat.reduceSub, Nat.reduceMul, Nat.reduceLT, Nat.reduceShiftRight, Nat.reduceMod, Int.reduceLE, Int.reduceLT, Int.reduceToNat, List.cons.injEq, cdB]
    refine uc.run kf ja qa (by kernel_rfl) (by kernel_rfl) ?_
    simp -implicitDefEqProofs only [cdA, go_sem, hst, cdN, reduceIte, reduceCtorEq, Nat.reduceEqDiff, Nat.reduceAdd, Nat.reduceLeDiff, Nat.reduceSub, Nat.reduceMul, Nat.reduceLT, Nat.reduceShiftRight, Nat.reduceMod, Int.reduceLE, Int.reduceLT, Int.reduceToNat, List.cons.injEq, cdB]
    exact hbad _ (by rw [jak, if_neg hA, if_neg (fun h => h hfe), if_neg hnx, if_pos hst]) hst
  refine zZ ja (Nat.le_of_ble_eq_true rfl) ?_
  simp -implicitDefEqProofs only [cdA, go_sem, Go.Proofs.Tryz.f34, hck, cdN, reduceIte, reduceCtorEq, Nat.reduceEqDiff, Nat.reduceAdd, Nat.reduceLeDiff, Nat.reduceSub, Nat.reduceMul, Nat.reduceLT, Nat.reduceShiftRight, Nat.reduceMod, Int.reduceLE, Int.reduceLT, Int.reduceToNat, List.cons.injEq, cdB]
  refine xdh ja (Nat.le_of_ble_eq_true rfl) ?_
  simp -implicitDefEqProofs only [cdA, go_sem, Go.Proofs.Tryz.f45, reduceIte, reduceCtorEq, Nat.reduceEqDiff, Nat.reduceAdd, Nat.reduceLeDiff, Nat.reduceSub, Nat.reduceMul, Nat.reduceLT, Nat.reduceShiftRight, Nat.reduceMod, Int.reduceLE, Int.reduceLT, Int.reduceToNat, List.cons.injEq, cdB]
  have eC : um v.c (bp v.c v.w n).1 v.next n = wal v n := rfl
  rw [eC]
  refine ⟨fun hho => ?_, fun hho => ?_⟩
  rotate_left 1
  · skip
    refine bG ja (Nat.le_of_ble_eq_true rfl) ?_
    simp -implicitDefEqProofs only [cdA, go_sem, Go.Proofs.Tryz.f37, reduceIte, reduceCtorEq, Nat.reduceEqDiff, Nat.reduceAdd, Nat.reduceLeDiff, Nat.reduceSub, Nat.reduceMul, Nat.reduceLT, Nat.reduceShiftRight, Nat.reduceMod, Int.reduceLE, Int.reduceLT, Int.reduceToNat, List.cons.injEq, cdB]
    refine yH ja (Nat.le_of_ble_eq_true rfl) ?_
    simp -implicitDefEqProofs only [cdA, go_sem, Go.Proofs.Tryz.f78, hho, cdN, reduceIte, reduceCtorEq, Nat.reduceEqDiff, Nat.reduceAdd, Nat.reduceLeDiff, Nat.reduceSub, Nat.reduceMul, Nat.reduceLT, Nat.reduceShiftRight, Nat.reduceMod, Int.reduceLE, Int.reduceLT, Int.reduceToNat, List.cons.injEq, cdB]
    refine yu ja (Nat.le_of_ble_eq_true rfl) ?_
    simp -implicitDefEqProofs only [cdA, go_sem, Go.Proofs.Tryz.f38, hho, cdN, reduceIte, reduceCtorEq, Nat.reduceEqDiff, Nat.reduceAdd, Nat.reduceLeDiff, Nat.reduceSub, Nat.reduceMul, Nat.reduceLT, Nat.reduceShiftRight, Nat.reduceMod, Int.reduceLE, Int.reduceLT, Int.reduceToNat, List.cons.injEq, cdB]
    refine uc.run kf ja qa (by kernel_rfl) (by kernel_rfl) ?_
    simp -implicitDefEqProofs only [cdA, go_sem, hho, cdN, reduceIte, reduceCtorEq, Nat.reduceEqDiff, Nat.reduceAdd, Nat.reduceLeDiff, Nat.reduceSub, Nat.reduceMul, Nat.reduceLT, Nat.reduceShiftRight, Nat.reduceMod, Int.reduceLE, Int.reduceLT, Int.reduceToNat, List.cons.injEq, cdB]
    exact hbad _ (by rw [jak, if_neg hA, if_neg (fun h => h hfe), if_neg hnx, if_neg (fun h => h hst), if_pos hho]) hho
  refine bG ja (Nat.le_of_ble_eq_true rfl) ?_
  simp -implicitDefEqProofs only [cdA, go_sem, Go.Proofs.Tryz.f37, reduceIte, reduceCtorEq, Nat.reduceEqDiff, Nat.reduceAdd, Nat.reduceLeDiff, Nat.reduceSub, Nat.reduceMul, Nat.reduceLT, Nat.reduceShiftRight, Nat.reduceMod, Int.reduceLE, Int.reduceLT, Int.reduceToNat, List.cons.injEq, cdB]
  refine yH ja (Nat.le_of_ble_eq_true rfl) ?_
  simp -implicitDefEqProofs only [cdA, go_sem, Go.Proofs.Tryz.f78, hck, cdN, reduceIte, reduceCtorEq, Nat.reduceEqDiff, Nat.reduceAdd, Nat.reduceLeDiff, Nat.reduceSub, Nat.reduceMul, Nat.reduceLT, Nat.reduceShiftRight, Nat.reduceMod, Int.reduceLE, Int.reduceLT, Int.reduceToNat, List.cons.injEq, cdB]
  refine wbf ja (Nat.le_of_ble_eq_true rfl) ?_
  simp -implicitDefEqProofs only [cdA, go_sem, Go.Proofs.Tryz.f79, reduceIte, reduceCtorEq, Nat.reduceEqDiff, Nat.reduceAdd, Nat.reduceLeDiff, Nat.reduceSub, Nat.reduceMul, Nat.reduceLT, Nat.reduceShiftRight, Nat.reduceMod, Int.reduceLE, Int.reduceLT, Int.reduceToNat, List.cons.injEq, cdB]
  have eF : xu v.f 0 v.next n = gaZ v n := rfl
  have hv := hok.2.2.2.2.2.1
  unfold MM at hv
  rw [eF, show IntKind.u64.wrap ((v.next : Int) + 1) = ((v.next + 1 : Nat) : Int) by rw [u64_in _ (by omega)]; omega]
  refine ⟨h, fun hfd => ?_, fun hfd => ?_⟩
  rotate_left 1
  · skip
    refine yu ja (Nat.le_of_ble_eq_true rfl) ?_
    simp -implicitDefEqProofs only [cdA, go_sem, Go.Proofs.Tryz.f38, hfd, cdN, reduceIte, reduceCtorEq, Nat.reduceEqDiff, Nat.reduceAdd, Nat.reduceLeDiff, Nat.reduceSub, Nat.reduceMul, Nat.reduceLT, Nat.reduceShiftRight, Nat.reduceMod, Int.reduceLE, Int.reduceLT, Int.reduceToNat, List.cons.injEq, cdB]
    refine uc.run kf ja qa (by kernel_rfl) (by kernel_rfl) ?_
    simp -implicitDefEqProofs only [cdA, go_sem, hfd, cdN, reduceIte, reduceCtorEq, Nat.reduceEqDiff, Nat.reduceAdd, Nat.reduceLeDiff, Nat.reduceSub, Nat.reduceMul, Nat.reduceLT, Nat.reduceShiftRight, Nat.reduceMod, Int.reduceLE, Int.reduceLT, Int.reduceToNat, List.cons.injEq, cdB]
    exact hbad _ (by rw [jak, if_neg hA, if_neg (fun h => h hfe), if_neg hnx, if_neg (fun h => h hst), if_neg (fun h => h hho)]) hfd
  have hsm : jx ⟨(wal v n).1, v.w, v.i, (gaf v hash n).1, (gaZ v n).1, v.next + 1, v.tick⟩ := by
    have h1 := x7 hho
    have h2 := jo hok
    have h3 := yaO (l := v.p) (p := ⟨v.next, hash, (bp v.c v.w n).1, n, 1⟩)
    have h4 := yE (f := v.f) (k := 0) (a := v.next) (n := n)
    refine ⟨by have := h1.1; show (wal v n).1.length ≤ _; unfold wal; omega, fun c hc => by have := (h1.2.1 c hc).2.2.1; omega, h2.2.2.1, h2.2.2.2.1, by show (gaf v hash n).1.length ≤ _; unfold gaf; omega, by show (gaZ v n).1.l.length ≤ _; unfold gaZ; omega⟩
  have hfin : yl v hash n = (⟨(wal v n).1, v.w, v.i, (gaf v hash n).1, (gaZ v n).1, v.next + 1, v.tick⟩, v.next, 0) := by
    have : jak v hash n = 0 := by rw [jak, if_neg hA, if_neg (fun h => h hfe), if_neg hnx, if_neg (fun h => h hst), if_neg (fun h => h hho)]; exact hfd
    rw [yl, if_pos this]
  have en : ((v.next : Int) + 1).toNat = v.next + 1 := by omega
  have en2 : ((v.next : Int) + 1 = ((v.next + 1 : Nat) : Int)) = True := eq_true (by omega)
  refine yu ja (Nat.le_of_ble_eq_true rfl) ?_
  simp -implicitDefEqProofs only [cdA, go_sem, Go.Proofs.Tryz.f38, hck, en, en2, eq_true hsm, cdN, reduceIte, reduceCtorEq, Nat.reduceEqDiff, Nat.reduceAdd, Nat.reduceLeDiff, Nat.reduceSub, Nat.reduceMul, Nat.reduceLT, Nat.reduceShiftRight, Nat.reduceMod, Int.reduceLE, Int.reduceLT, Int.reduceToNat, List.cons.injEq, cdB]
  refine uc.run jbq ja qa (by kernel_rfl) (by kernel_rfl) ?_
  simp -implicitDefEqProofs only [cdA, go_sem, reduceIte, reduceCtorEq, Nat.reduceEqDiff, Nat.reduceAdd, Nat.reduceLeDiff, Nat.reduceSub, Nat.reduceMul, Nat.reduceLT, Nat.reduceShiftRight, Nat.reduceMod, Int.reduceLE, Int.reduceLT, Int.reduceToNat, List.cons.injEq, cdB]
  rw [hfin]
  exact ⟨⟨rfl, rfl, rfl, rfl, rfl, rfl, by dsimp only; omega, rfl⟩, rfl, rfl⟩
@[go_sem] def kbg (v : Wl) (hash : Nat) (n : Nat) : Prop := (v.f.next ≤ 18446744073709551615)
def gT : List D → Option (Prop × D × Fr)
  | [.agg [.c (.sl z262), .c (.sl z263), .c (.sl z264), .c (.sl z265), .c (.int .u64 z267), .c (.sl z268), .c (.int .u64 z269), .c (.int .u64 z270)], .c (.int .u64 z271), .c (.int .u64 z272)] => some (z262 = chs (ji z262) ∧ z263 = wts (xl z263) ∧ z264 = ivs (xm z264) ∧ z265 = pys (vl z265) ∧ z267 = (z267.toNat : Int) ∧ z268 = evs (yo z268) ∧ z269 = (z269.toNat : Int) ∧ z270 = (z270.toNat : Int) ∧ z271 = (z271.toNat : Int) ∧ z272 = (z272.toNat : Int) ∧ kbg (⟨(ji z262), (xl z263), (xm z264), (vl z265), (⟨z267.toNat, (yo z268)⟩ : Fd), z269.toNat, z270.toNat⟩ : Wl) z271.toNat z272.toNat, wbd (⟨(ji z262), (xl z263), (xm z264), (vl z265), (⟨z267.toNat, (yo z268)⟩ : Fd), z269.toNat, z270.toNat⟩ : Wl) z271.toNat z272.toNat, [])
  | _ => none
attribute [go_sem] gT
theorem k6 : ∀ rs p r fr, gT rs = some (p, r, fr) → p → qg Tryz.prog 15 rs r fr := by
  intro rs p r fr h hp
  unfold gT at h
  split at h <;> cases h
  obtain ⟨hc0, hc1, hc2, hc3, hc4, hc5, hc6, hc7, hc8, hc9, hp⟩ := hp
  rename_i z262 z263 z264 z265 z267 z268 z269 z270 z271 z272
  obtain ⟨z262, rfl⟩ : ∃ m, z262 = chs m := ⟨_, hc0⟩
  obtain ⟨z263, rfl⟩ : ∃ m, z263 = wts m := ⟨_, hc1⟩
  obtain ⟨z264, rfl⟩ : ∃ m, z264 = ivs m := ⟨_, hc2⟩
  obtain ⟨z265, rfl⟩ : ∃ m, z265 = pys m := ⟨_, hc3⟩
  obtain ⟨z267, rfl⟩ : ∃ m : Nat, z267 = m := ⟨_, hc4⟩
  obtain ⟨z268, rfl⟩ : ∃ m, z268 = evs m := ⟨_, hc5⟩
  obtain ⟨z269, rfl⟩ : ∃ m : Nat, z269 = m := ⟨_, hc6⟩
  obtain ⟨z270, rfl⟩ : ∃ m : Nat, z270 = m := ⟨_, hc7⟩
  obtain ⟨z271, rfl⟩ : ∃ m : Nat, z271 = m := ⟨_, hc8⟩
  obtain ⟨z272, rfl⟩ : ∃ m : Nat, z272 = m := ⟨_, hc9⟩
  simp only [Int.toNat_natCast, jb, jc, qc, yc, jd]
  simp only [Int.toNat_natCast, jb, jc, qc, yc, jd, kbg] at hp
  exact xbr ⟨z262, z263, z264, z265, ⟨z267, z268⟩, z269, z270⟩ z271 z272 hp
end Dm
namespace Dm
open Go Go.Proofs Go.IntWalk
theorem zI {f : Fd} {k : Int} {a n : Nat} (h : (xu f k a n).2.2 = 0) : vaO (xu f k a n).1 := by
  unfold xu at h ⊢
  split at h
  rotate_left 1
  · cases h
  rename_i h1
  obtain ⟨⟨o1, o2, o3, o4⟩, hk⟩ := h1
  split at h
  · cases h
  rename_i h2
  rw [if_pos ⟨⟨o1, o2, o3, o4⟩, hk⟩, if_neg h2]
  have h5 := (xL f.next f.l).1 o4
  have hlen : ((f.l ++ [(⟨f.next, k, a, n⟩ : Ev)]).drop (f.l.length + 1 - 64)).length = min f.next 64 := by
    rw [List.length_drop, List.length_append, List.length_singleton]; omega
  refine ⟨by dsimp only; omega, by dsimp only; unfold MM at *; omega, by dsimp only; rw [hlen]; omega, ?_⟩
  dsimp only
  rw [xL]
  intro i hi
  have e : ((f.l ++ [(⟨f.next, k, a, n⟩ : Ev)]).drop (f.l.length + 1 - 64)).getD i default = (f.l ++ [(⟨f.next, k, a, n⟩ : Ev)]).getD (f.l.length + 1 - 64 + i) default := by
    rw [List.getD_eq_getElem?_getD, List.getElem?_drop, ← List.getD_eq_getElem?_getD]
  rw [e]
  rw [hlen] at hi ⊢
  by_cases hj : f.l.length + 1 - 64 + i < f.l.length
  · rw [List.getD_eq_getElem?_getD, List.getElem?_append_left hj, ← List.getD_eq_getElem?_getD]
    have := h5 _ hj
    refine ⟨?_, this.2⟩
    rw [this.1]; omega
  · rw [List.getD_eq_getElem?_getD, List.getElem?_append_right (by omega), show f.l.length + 1 - 64 + i - f.l.length = 0 by omega]
    refine ⟨?_, hk⟩
    show ((f.next : Nat) : Int) = _
    omega
theorem xaD {l : List Py} {k : Nat} (h : ∀ x ∈ l, x.id < k) : Srt.pos Py.id ltN l k = l.length :=
  Srt.pos_eq (Nat.le_refl _) (fun j hj => h _ (xb.2 ⟨j, hj, rfl⟩)) (fun h => absurd h (by omega))
theorem uay {l : List Py} {x : Py} : Srt.ins l l.length x = l ++ [x] := by
  unfold Srt.ins; rw [List.take_length, List.drop_length]
theorem kK {a b : List Py} : wu (a ++ b) = wu a ++ wu b := by simp [wu]
theorem kam {l : List Py} {p : Py} (h : (uo l p).2 = 0) (hlt : ∀ x ∈ l, x.id < p.id) : zB l ∧ gG p ∧ p.state = 1 ∧ ∃ b, (uo l p).1 = b ++ [p] ∧ b.Sublist l ∧ wu b = wu l ∧ b.length ≤ 255 := by
  unfold uo at h ⊢
  split at h
  · cases h
  rename_i hA
  have hok : zB l := Decidable.byContradiction fun h => hA (.inl h)
  have hp1 : gG p := Decidable.byContradiction fun h => hA (.inr (.inl h))
  have hs : p.state = 1 := Decidable.byContradiction fun h => hA (.inr (.inr h))
  refine ⟨hok, hp1, hs, ?_⟩
  split at h
  · cases h
  rename_i ht
  rw [if_neg hA, if_neg ht]
  have hl := hok.1
  split at h
  · rename_i h256
    rw [if_pos h256]
    cases hi : idle l with
    | none => rw [hi] at h; cases h
    | some k =>
      dsimp only
      unfold idle at hi
      obtain ⟨hk, hks, hkl⟩ := List.findIdx?_eq_some_iff_getElem.1 hi
      have hlen : (l.eraseIdx k).length = l.length - 1 := List.length_eraseIdx_of_lt hk
      have hpos := xaD hlt
      refine ⟨l.eraseIdx k, ?_, List.eraseIdx_sublist _ _, ?_, by omega⟩
      · rw [hpos, if_pos hk, ← hlen, uay]
      · have e : l = l.take k ++ l[k] :: l.drop (k + 1) := by rw [List.getElem_cons_drop, List.take_append_drop]
        have hst : ¬ l[k].state = 1 := by simpa using hks
        rw [List.eraseIdx_eq_take_drop_succ]
        conv => rhs; rw [e]
        rw [kK, kK]
        congr 1
        unfold wu
        rw [List.filter_cons_of_neg (by simpa using hst)]
  · rename_i h256
    rw [if_neg h256]
    refine ⟨l, ?_, List.Sublist.refl _, rfl, by omega⟩
    dsimp only
    rw [xaD hlt, uay]
theorem qae {l : List Py} (h : zB l) : Srt.Up Py.id ltN l := (Srt.bf (lt := ltN) Srt.ue).1 h.2.2
theorem ua9 {l b : List Py} {p : Py} (hok : zB l) (hb : b.Sublist l) (hl : b.length ≤ 255) (hp : gG p) (hlt : ∀ x ∈ l, x.id < p.id) : zB (b ++ [p]) := by
  refine ⟨by rw [List.length_append, List.length_singleton]; omega, fun x hx => ?_, (Srt.bf (lt := ltN) Srt.ue).2 ?_⟩
  · rcases List.mem_append.1 hx with h | h
    · exact hok.2.1 x (hb.subset h)
    · rw [List.mem_singleton] at h; subst h; exact hp
  · unfold Srt.Up
    rw [List.pairwise_append]
    refine ⟨(qae hok).sublist hb, List.pairwise_singleton _ _, fun x hx y hy => ?_⟩
    rw [List.mem_singleton] at hy; subst hy
    exact hlt x (hb.subset hx)
theorem xbB {l : List Py} {k : Nat} (hu : Srt.Up Py.id ltN l) (h : 0 < l.length → (l.getD (l.length - 1) default).id < k) : ∀ x ∈ l, x.id < k := fun x hx => by
  obtain ⟨i, hi, rfl⟩ := xb.1 hx
  by_cases hl : i = l.length - 1
  · rw [hl]; exact h (by omega)
  · have := Srt.ki.1 hu i (l.length - 1) (by omega) (by omega)
    have h2 := h (by omega)
    simp only [ltN] at this; omega
theorem gaY {l : List Ch} {p : Nat} {d : Ch} {x : Hd} (hp : p < l.length) (hi : d.id = (l.getD p default).id) (hd : d.holds.Perm (x :: (l.getD p default).holds)) : (hlL (l.set p d)).Perm ((d.id, x.id, x.n) :: hlL l) := by
  conv => rhs; rw [qA hp]
  rw [qt hp]
  simp only [hlL, List.flatMap_append, List.flatMap_cons]
  have h1 : (hlC d).Perm ((d.id, x.id, x.n) :: hlC (l.getD p default)) := by
    unfold hlC
    rw [← hi]
    exact hd.map fun h => (d.id, h.id, h.n)
  refine (List.Perm.append_left _ (h1.append_right _)).trans ?_
  exact List.perm_middle
def yaM (c : Ch) : Nat := if c.op = true then c.loc else 0
def uS (l : List Ch) : Nat := (l.map yaM).sum
def yt (l : List Ch) : Nat := (l.map fun c => held c.holds).sum
theorem jba {l : List Ch} {p : Nat} {d : Ch} (hp : p < l.length) : uS (l.set p d) + yaM (l.getD p default) = uS l + yaM d := by
  conv => rhs; rw [qA hp]
  rw [qt hp]
  simp only [uS, List.map_append, List.map_cons, List.sum_append, List.sum_cons]
  omega
theorem qaL {l : List Ch} {p : Nat} {d : Ch} (hp : p < l.length) : yt (l.set p d) + held (l.getD p default).holds = yt l + held d.holds := by
  conv => rhs; rw [qA hp]
  rw [qt hp]
  simp only [yt, List.map_append, List.map_cons, List.sum_append, List.sum_cons]
  omega
theorem bh {p : List Py} {c : List Ch} : zY p c = (true, 0) ↔ zB p ∧ c.length ≤ 32 ∧ (c.map Ch.id).Nodup ∧ (∀ q ∈ wu p, (q.chan, q.id, q.n) ∈ hlL c) ∧ (hlL c).length = (wu p).length := by
  unfold zY
  split
  · rename_i h
    rw [Prod.mk.injEq]
    refine ⟨fun h1 => ⟨h.1, h.2.1, h.2.2, of_decide_eq_true h1.1⟩, fun h1 => ⟨decide_eq_true h1.2.2.2, rfl⟩⟩
  · rename_i h
    refine ⟨fun h1 => (by cases h1), fun h1 => absurd ⟨h1.1, h1.2.1, h1.2.2.1⟩ h⟩
theorem vQ {l : List Ch} (h : zl l) : (l.map Ch.id).Nodup := by
  have h1 := (Srt.bf (lt := ltN) Srt.ue).1 h.2.2.1
  unfold Srt.Up at h1
  rw [List.Nodup, List.pairwise_map]
  exact h1.imp fun hlt he => by simp only [ltN] at hlt; omega
theorem vbf {v : Wl} {hash n : Nat} (h : jak v hash n = 0) : okW v ∧ n ≠ 0 ∧ n ≤ MM ∧ (bp v.c v.w n).2 = 0 ∧ v.next ≠ MM ∧ (gaf v hash n).2 = 0 ∧ (wal v n).2 = 0 ∧ (gaZ v n).2.2 = 0 := by
  unfold jak at h
  split at h
  · cases h
  rename_i h1
  split at h
  · cases h
  rename_i h2
  split at h
  · cases h
  rename_i h3
  split at h
  · rename_i h4; exact absurd h h4
  rename_i h4
  split at h
  · rename_i h5; exact absurd h h5
  rename_i h5
  refine ⟨Decidable.byContradiction fun h => h1 (.inl h), fun h => h1 (.inr (.inl h)), Decidable.byContradiction fun h => h1 (.inr (.inr h)), Decidable.byContradiction h2, h3, Decidable.byContradiction h4, Decidable.byContradiction h5, h⟩
theorem qaT {v : Wl} {hash n : Nat} : (yl v hash n).2.2 = jak v hash n := by
  unfold yl
  split
  · rename_i h; exact h.symm
  · rfl
theorem zau {w : Wl} (h : okW w) : ∀ x ∈ w.p, x.id < w.next := by
  have h1 := (bh.1 h.2.2.2.2.2.2.2).1
  exact xbB (qae h1) h.2.2.2.2.2.2.1
theorem wbx {v : Wl} {hash n : Nat} (h : (yl v hash n).2.2 = 0) :
    okW v ∧ okW (yl v hash n).1 ∧ (yl v hash n).2.1 = v.next ∧ (yl v hash n).1.next = v.next + 1 ∧ n ≠ 0 ∧ n ≤ MM ∧
    uS (yl v hash n).1.c + n = uS v.c ∧ yt (yl v hash n).1.c = yt v.c + n ∧
    (∃ ch, wu (yl v hash n).1.p = wu v.p ++ [⟨v.next, hash, ch, n, 1⟩]) ∧ (yl v hash n).1.tick = v.tick ∧ (yl v hash n).1.w = v.w ∧ (yl v hash n).1.i = v.i := by
  rw [qaT] at h
  obtain ⟨hok, hn, hM, hf, hnx, hP, hC, hF⟩ := vbf h
  have e : yl v hash n = (⟨(wal v n).1, v.w, v.i, (gaf v hash n).1, (gaZ v n).1, v.next + 1, v.tick⟩, v.next, 0) := by rw [yl, if_pos h]
  rw [e]
  dsimp only
  have hids := zau hok
  obtain ⟨o1, o2, o3, o4, o5, o6, o7, o8⟩ := hok
  obtain ⟨a1, a2, a3, a4, a5⟩ := bh.1 o8
  have hP' := hP
  unfold gaf at hP'
  obtain ⟨-, q1, -, b, hb1, hb2, hb3, hb4⟩ := kam hP' hids
  have hC' := hC
  unfold wal at hC'
  have hC2 := x7 hC'
  obtain ⟨-, c, hc, hcid, hp, hcp, hw, he, eC⟩ := qaa hC'
  have eid : (qf c v.next n).1.id = c.id := by rw [qf, if_pos he]
  have ehl : (qf c v.next n).1.holds.Perm (⟨v.next, n⟩ :: c.holds) := by rw [qf, if_pos he]; exact vE
  have hop : c.op = true ∧ n ≤ c.loc := by
    have he := he
    unfold qm at he
    split at he
    · cases he
    split at he
    · cases he
    rename_i h2
    split at he
    · cases he
    split at he
    · cases he
    split at he
    · cases he
    split at he
    · cases he
    refine ⟨by simpa using h2, ?_⟩
    omega
  have eloc : (qf c v.next n).1.loc = c.loc - n ∧ (qf c v.next n).1.op = c.op ∧ held (qf c v.next n).1.holds = n + held c.holds := by rw [qf, if_pos he]; exact ⟨rfl, rfl, zaC⟩
  have eC' : (wal v n).1 = v.c.set (Srt.pos Ch.id ltN v.c (bp v.c v.w n).1) (qf c v.next n).1 := by unfold wal; rw [eC]
  have eP' : (gaf v hash n).1 = b ++ [⟨v.next, hash, (bp v.c v.w n).1, n, 1⟩] := by unfold gaf; exact hb1
  have hpe : wu (gaf v hash n).1 = wu v.p ++ [⟨v.next, hash, (bp v.c v.w n).1, n, 1⟩] := by
    rw [eP', kK, hb3]; rfl
  have hset := gaY (l := v.c) (p := Srt.pos Ch.id ltN v.c (bp v.c v.w n).1) (d := (qf c v.next n).1) (x := ⟨v.next, n⟩) hp (by rw [hcp, eid]) (by rw [hcp]; exact ehl)
  have hcc : zl (wal v n).1 := hC2
  have hpp : zB (gaf v hash n).1 := by rw [eP']; exact ua9 a1 hb2 hb4 q1 hids
  have hou := jba (l := v.c) (p := Srt.pos Ch.id ltN v.c (bp v.c v.w n).1) (d := (qf c v.next n).1) hp
  have hhe := qaL (l := v.c) (p := Srt.pos Ch.id ltN v.c (bp v.c v.w n).1) (d := (qf c v.next n).1) hp
  rw [hcp] at hou hhe
  rw [eloc.2.2] at hhe
  have hoc : yaM (qf c v.next n).1 + n = yaM c := by
    unfold yaM
    rw [eloc.2.1, eloc.1, if_pos hop.1, if_pos hop.1]; omega
  refine ⟨⟨o1, o2, o3, o4, o5, o6, o7, o8⟩, ⟨hcc, o2, zI hF, o4, by dsimp only; omega, by dsimp only; unfold MM at *; omega, fun _ => ?_, bh.2 ⟨hpp, hcc.1, vQ hcc, ?_, ?_⟩⟩, rfl, rfl, hn, hM, by rw [eC']; omega, by rw [eC']; omega, ⟨_, hpe⟩, rfl, rfl, rfl⟩
  · dsimp only
    rw [eP', List.length_append, List.length_singleton, Nat.add_sub_cancel, List.getD_eq_getElem?_getD, List.getElem?_append_right (Nat.le_refl _), Nat.sub_self]
    show v.next < v.next + 1; omega
  · intro q hq
    dsimp only at hq ⊢
    rw [hpe, List.mem_append, List.mem_singleton] at hq
    rw [eC', hset.mem_iff]
    rcases hq with hq | rfl
    · exact .tail _ (a4 q hq)
    · rw [eid, hcid]; exact .head _
  · dsimp only
    rw [eC', hset.length_eq, hpe, List.length_cons, List.length_append, List.length_singleton, a5]
end Dm
namespace Dm
open Go Go.Proofs Go.IntWalk
@[go_sem] def kaQ (c : Ch) : D := .tup [.int .u64 ((vf c).1 : Int), .int .i64 (vf c).2.2]
@[go_sem] abbrev vcI : FuncId := 12
@[go_sem] def jbA : Tab := [(31, qv)]
theorem vaJ : za Tryz.prog jbA := (za.cons zu za.nil)
set_option maxRecDepth 8000 in
set_option maxHeartbeats 1000000 in
theorem xa2 (c : Ch)  : yb Tryz.prog 12 [.agg [.c (.int .u64 (c.id : Int)), .c (.int .u64 (c.loc : Int)), .c (.int .u64 (c.rem : Int)), .c (.int .u64 (c.res : Int)), .c (.int .u64 (c.most : Int)), .sl (hds c.holds), .c (.bool c.op)]] (kaQ c) := by
  refine .of (jdi vaJ (Nat.le_of_ble_eq_true rfl) ?_)
  simp -implicitDefEqProofs only [cdA, go_sem, Go.Proofs.Tryz.f12, reduceIte, reduceCtorEq, Nat.reduceEqDiff, Nat.reduceAdd, Nat.reduceLeDiff, Nat.reduceSub, Nat.reduceMul, Nat.reduceLT, Nat.reduceShiftRight, Nat.reduceMod, Int.reduceLE, Int.reduceLT, Int.reduceToNat, List.cons.injEq, cdB]
def jK : List D → Option (Prop × D × Fr)
  | [.agg [.c (.int .u64 z309), .c (.int .u64 z310), .c (.int .u64 z311), .c (.int .u64 z312), .c (.int .u64 z313), .c (.sl z314), .c (.bool z315)]] => some (z309 = (z309.toNat : Int) ∧ z310 = (z310.toNat : Int) ∧ z311 = (z311.toNat : Int) ∧ z312 = (z312.toNat : Int) ∧ z313 = (z313.toNat : Int) ∧ z314 = hds (qq z314), kaQ (⟨z309.toNat, z310.toNat, z311.toNat, z312.toNat, z313.toNat, (qq z314), z315⟩ : Ch), [])
  | _ => none
attribute [go_sem] jK
theorem gV : ∀ rs p r fr, jK rs = some (p, r, fr) → p → qg Tryz.prog 12 rs r fr := by
  intro rs p r fr h hp
  unfold jK at h
  split at h <;> cases h
  obtain ⟨hc0, hc1, hc2, hc3, hc4, hc5⟩ := hp
  rename_i z309 z310 z311 z312 z313 z314 z315
  obtain ⟨z309, rfl⟩ : ∃ m : Nat, z309 = m := ⟨_, hc0⟩
  obtain ⟨z310, rfl⟩ : ∃ m : Nat, z310 = m := ⟨_, hc1⟩
  obtain ⟨z311, rfl⟩ : ∃ m : Nat, z311 = m := ⟨_, hc2⟩
  obtain ⟨z312, rfl⟩ : ∃ m : Nat, z312 = m := ⟨_, hc3⟩
  obtain ⟨z313, rfl⟩ : ∃ m : Nat, z313 = m := ⟨_, hc4⟩
  obtain ⟨z314, rfl⟩ : ∃ m, z314 = hds m := ⟨_, hc5⟩
  simp only [Int.toNat_natCast, ze]
  exact xa2 ⟨z309, z310, z311, z312, z313, z314, z315⟩
def van (l : List Ch) : Nat × Nat × Int := if zl l then (uS l, yt l, 0) else (0, 0, 1)
theorem vbi : ∀ {l : List Ch}, (∀ c ∈ l, gj c) → uS l + yt l ≤ qQ l
  | [], _ => Nat.le_refl 0
  | c :: l, h => by
    have h1 := vbi (l := l) fun d hd => h d (.tail _ hd)
    have h2 := h c (.head _)
    have e1 : uS (c :: l) = yaM c + uS l := by simp [uS]
    have e2 : yt (c :: l) = held c.holds + yt l := by simp [yt]
    have e3 : qQ (c :: l) = (held c.holds + c.loc + c.rem) + qQ l := by
      simp only [qQ, List.map_cons, List.sum_cons]
      rw [uI, vf, if_pos h2]
    have h4 : yaM c ≤ c.loc := by unfold yaM; split <;> omega
    omega
theorem xa8 {l : List Ch} {i : Nat} (h : i < l.length) : uS (l.take (i + 1)) = uS (l.take i) + yaM (l.getD i default) ∧ yt (l.take (i + 1)) = yt (l.take i) + held (l.getD i default).holds := by
  rw [take_succ h, uS, yt, List.map_append, List.sum_append, List.map_append, List.sum_append]; simp [uS, yt]
theorem ba9 {l : List Ch} {i : Nat} : uS (l.take i) ≤ uS l ∧ yt (l.take i) ≤ yt l := by
  have e1 : uS l = uS (l.take i) + uS (l.drop i) := by
    conv => lhs; rw [← List.take_append_drop i l]
    rw [uS, List.map_append, List.sum_append]; rfl
  have e2 : yt l = yt (l.take i) + yt (l.drop i) := by
    conv => lhs; rw [← List.take_append_drop i l]
    rw [yt, List.map_append, List.sum_append]; rfl
  omega
@[go_sem] def xbi (l : List Ch) : D := .tup [.int .u64 ((van l).1 : Int), .int .u64 ((van l).2.1 : Int), .int .i64 (van l).2.2]
@[go_sem] abbrev bcY : FuncId := 16
@[go_sem] def bbU : Tab := [(26, vp), (12, jK)]
theorem zap : za Tryz.prog bbU := (za.cons gp (za.cons gV za.nil))
set_option maxRecDepth 8000 in
set_option maxHeartbeats 1000000 in
theorem vbl (l : List Ch)  : yb Tryz.prog 16 [.sl (chs l)] (xbi l) := by
  refine .of (ude zap (Nat.le_of_ble_eq_true rfl) ?_)
  simp -implicitDefEqProofs only [cdA, go_sem, Go.Proofs.Tryz.f16, reduceIte, reduceCtorEq, Nat.reduceEqDiff, Nat.reduceAdd, Nat.reduceLeDiff, Nat.reduceSub, Nat.reduceMul, Nat.reduceLT, Nat.reduceShiftRight, Nat.reduceMod, Int.reduceLE, Int.reduceLT, Int.reduceToNat, List.cons.injEq, cdB]
  have hl0 : xae l = 0 ↔ zl l := by unfold xae; split <;> rename_i h <;> simp only [h] <;> decide
  refine ⟨fun h0 hl => ?_, fun h0 => by
    have hno : ¬ zl l := fun h => h0 (hl0.2 h)
    rw [van, xae, if_neg hno, if_neg hno]; exact ⟨rfl, rfl, rfl⟩⟩
  have hok := hl0.1 h0
  have hle := vbi hok.2.1
  have htl := hok.2.2.2.2
  have e : van l = (uS l, yt l, 0) := by rw [van, if_pos hok]
  rw [e]
  refine SWp.loop (ι := { i : Nat // i ≤ l.length }) (fun i => ⟨[(2, .int .u64 (uS (l.take i.1) : Nat)), (3, .int .u64 (yt (l.take i.1) : Nat)), (14, .sl (chs l)), (15, .int .i64 l.length), (16, .int .i64 i.1)], [], 0⟩) (fun i => l.length - i.1) ⟨0, by omega⟩ ?_ ?_
  · simp [go_sem, uS, yt]
  · rintro ⟨i, hi⟩
    refine qb zap.toS jcP _ _ _ rfl ?_
    simp -implicitDefEqProofs only [cdA, go_sem, reduceIte, reduceCtorEq, Nat.reduceEqDiff, Nat.reduceAdd, Nat.reduceLeDiff, Nat.reduceSub, Nat.reduceMul, Nat.reduceLT, Nat.reduceShiftRight, Nat.reduceMod, Int.reduceLE, Int.reduceLT, Int.reduceToNat, List.cons.injEq, cdB]
    refine ⟨fun h1 => ⟨by omega, ?_⟩, fun h1 => ?_⟩
    · have hi' : i < l.length := by omega
      obtain ⟨s1, s2⟩ := xa8 hi'
      obtain ⟨t1, t2⟩ := ba9 (l := l) (i := i + 1)
      have hc := hok.2.1 _ (xb.2 ⟨i, hi', rfl⟩)
      have e1 : (vf (l.getD i default)).1 = held (l.getD i default).holds := by rw [vf, if_pos hc]
      have hs := qI.2 hc
      unfold MM yaM at *
      rw [e1, hs]
      refine ⟨fun _ => ⟨fun h2 => ?_, fun h2 => ?_⟩, fun h => absurd rfl h⟩
      · rw [if_pos h2] at s1
        exact ⟨⟨i + 1, hi'⟩, by dsimp only; omega, by rw [u64_in _ (by omega)]; dsimp only; omega, by rw [u64_in _ (by omega)]; dsimp only; omega, i64_in _ (by omega)⟩
      · rw [if_neg (by rw [h2]; decide)] at s1
        exact ⟨⟨i + 1, hi'⟩, by dsimp only; omega, by dsimp only; omega, by rw [u64_in _ (by omega)]; dsimp only; omega, i64_in _ (by omega)⟩
    · have hi' : i = l.length := by omega
      subst hi'
      rw [List.take_length]; exact ⟨rfl, rfl⟩
def xac : List D → Option (Prop × D × Fr)
  | [.c (.sl z316)] => some (z316 = chs (ji z316), xbi (ji z316), [])
  | _ => none
attribute [go_sem] xac
theorem waI : ∀ rs p r fr, xac rs = some (p, r, fr) → p → qg Tryz.prog 16 rs r fr := by
  intro rs p r fr h hp
  unfold xac at h
  split at h <;> cases h
  have hc0 := hp
  rename_i z316
  obtain ⟨z316, rfl⟩ : ∃ m, z316 = chs m := ⟨_, hc0⟩
  simp only [jb]
  exact vbl z316
end Dm
namespace Dm
open Go Go.Proofs Go.IntWalk
@[go_sem] def bbo : Tab := [ovk 109]
theorem gN : za Tryz.prog bbo := .cons (uaH 109) .nil
@[go_sem] def ubp : Tab := [fg 12]
theorem qaH : za Tryz.prog ubp := .cons (kav 12) .nil
theorem qao (l : List Ch) : gh 7 (chs l) := of_eq_true (va2 l)
set_option maxRecDepth 8000 in
set_option maxHeartbeats 1000000 in
theorem uaM (l : List Ch) (x : Ch) (i : Nat) (hi : i ≤ l.length) (hl : l.length ≤ 1000000) :
    va Tryz.prog 76 [.vec 0 l.length, .int .i64 i, .vec 1 1] [(1, .vec true 7 37 (chs [x])), (0, .vec true 7 37 (chs l))] 2 fun d os _ => Grown 7 37 (chs (Srt.ins l i x)) d os := by
  have hil : (Srt.ins l i x).length = l.length + 1 := Srt.zj
  have hq : ∀ j os, lk j os = some (.vec true 7 37 (chs (Srt.ins l i x))) → Grown 7 37 (chs (Srt.ins l i x)) (.vec j (l.length + 1)) os := fun j os h => ⟨j, by rw [qi, hil], h⟩
  by_cases hin : i = l.length
  · refine yc7 qaH (Nat.le_of_ble_eq_true rfl) ?_
    have e4 : ((1 : Int) = 0) = False := eq_false (by decide)
    subst hin
    simp -implicitDefEqProofs only [cdA, go_sem, Go.Proofs.Tryz.f76, e4, decide_true, reduceIte, reduceCtorEq, Nat.reduceEqDiff, Nat.reduceAdd, Nat.reduceLeDiff, Nat.reduceSub, Nat.reduceMul, Nat.reduceLT, Nat.reduceShiftRight, Nat.reduceMod, Int.reduceLE, Int.reduceLT, Int.reduceToNat, List.cons.injEq, cdB]
    refine ⟨Int.le_refl _, fun h => h.elim, fun _ => ⟨by omega, hq _ _ ?_⟩⟩
    rw [vb, if_neg (by decide), jQ]
    simp [Srt.ins]
  · have hlt : i < l.length := by omega
    refine va.opn 0 rfl (by rw [qi]; omega) fun c hc hcm => ?_
    refine va.sld ?_
    rw [qi] at hc
    refine yc7 gN (Nat.le_of_ble_eq_true rfl) ?_
    have e1 : IntKind.i64.wrap ((l.length : Int) + 1) = ((l.length + 1 : Nat) : Int) := by rw [i64_in _ (by omega)]; omega
    have e2 : IntKind.i64.wrap ((i : Int) + 1) = ((i + 1 : Nat) : Int) := by rw [i64_in _ (by omega)]; omega
    have e3 : ((i : Int) = (l.length : Int)) = False := eq_false (by omega)
    have e4 : ((1 : Int) = 0) = False := eq_false (by decide)
    have e5 : IntKind.i64.wrap ((l.length : Int) + 1 - (i : Int)) = ((l.length + 1 - i : Nat) : Int) := by rw [i64_in _ (by omega)]; omega
    have e6 : ((l.length : Int) + 1).toNat = l.length + 1 := by omega
    have e7 : ((i : Int) + 1).toNat = i + 1 := by omega
    have e8 : i + (l.length + 1 - i) = l.length + 1 := by omega
    simp -implicitDefEqProofs only [cdA, go_sem, Go.Proofs.Tryz.f76, e3, e4, e1, e2, e5, e6, e7, e8, decide_false, reduceIte, reduceCtorEq, Nat.reduceEqDiff, Nat.reduceAdd, Nat.reduceLeDiff, Nat.reduceSub, Nat.reduceMul, Nat.reduceLT, Nat.reduceShiftRight, Nat.reduceMod, Int.reduceLE, Int.reduceLT, Int.reduceToNat, List.cons.injEq, cdB]
    refine ⟨by omega, fun _ => ⟨fun h1 => ⟨by omega, by omega, fun c1 h2 h3 => ⟨by omega, ?_⟩⟩, fun h1 => ⟨by omega, by omega, ?_, ?_⟩⟩⟩
    · refine uc.run vbz gN qa (by kernel_rfl) (by kernel_rfl) ?_
      simp -implicitDefEqProofs only [cdA, go_sem, e1, e2, e5, e6, e7, e8, reduceIte, reduceCtorEq, Nat.reduceEqDiff, Nat.reduceAdd, Nat.reduceLeDiff, Nat.reduceSub, Nat.reduceMul, Nat.reduceLT, Nat.reduceShiftRight, Nat.reduceMod, Int.reduceLE, Int.reduceLT, Int.reduceToNat, List.cons.injEq, cdB]
      refine ⟨by omega, by omega, fun y hy => qk (qao l) y (List.mem_of_mem_take (List.mem_of_mem_drop hy)), ?_⟩
      have := baa (sz := 7) (c := c) (c1 := c1) (i := i) (E := chs l) (x := x.enc) (z := [C.int .u64 0, C.int .u64 0, C.int .u64 0, C.int .u64 0, C.int .u64 0, C.sl [], C.bool false]) (by rw [qi]; exact hlt) (by rw [qi]; exact hc) (by rw [qi]; exact h2)
      rw [qi] at this
      refine hq _ _ ?_
      rw [jQ]
      congr 2
      rw [show chs (List.take (l.length + 1 - i) [x]) = List.take (l.length + 1 - i) [x.enc] by simp [chs], this]
      simp [chs, Srt.ins]
    · exact ⟨_, 24, 4, _, rfl, rfl, rfl, rfl, by kernel_rfl, kbv⟩
    · refine uc.run kbm gN qa (by kernel_rfl) (by kernel_rfl) ?_
      simp -implicitDefEqProofs only [cdA, go_sem, e1, e2, e5, e6, e7, e8, reduceIte, reduceCtorEq, Nat.reduceEqDiff, Nat.reduceAdd, Nat.reduceLeDiff, Nat.reduceSub, Nat.reduceMul, Nat.reduceLT, Nat.reduceShiftRight, Nat.reduceMod, Int.reduceLE, Int.reduceLT, Int.reduceToNat, List.cons.injEq, cdB]
      refine ⟨by omega, by omega, fun y hy => qk (qao l) y (List.mem_of_mem_take (List.mem_of_mem_drop hy)), by omega, ?_⟩
      have := yad (sz := 7) (c := c) (i := i) (E := chs l) (x := x.enc) (by rw [qi]; exact hlt) (by rw [qi]; omega)
      rw [qi] at this
      refine hq _ _ ?_
      rw [jQ]
      congr 2
      rw [show chs (List.take (l.length + 1 - i) [x]) = List.take (l.length + 1 - i) [x.enc] by simp [chs], this]
      simp [chs, Srt.ins]

def yaz (c : Ch) : Int := if gj c then 0 else 1
@[go_sem] def qaz (c : Ch) : D := .int .i64 (yaz c)
@[go_sem] abbrev jcd : FuncId := 75
@[go_sem] def za5 : Tab := [(31, qv)]
theorem baq : za Tryz.prog za5 := (za.cons zu za.nil)
set_option maxRecDepth 8000 in
set_option maxHeartbeats 1000000 in
theorem vaN (c : Ch)  : yb Tryz.prog 75 [.agg [.c (.int .u64 (c.id : Int)), .c (.int .u64 (c.loc : Int)), .c (.int .u64 (c.rem : Int)), .c (.int .u64 (c.res : Int)), .c (.int .u64 (c.most : Int)), .sl (hds c.holds), .c (.bool c.op)]] (qaz c) := by
  refine .of (bdb baq (Nat.le_of_ble_eq_true rfl) ?_)
  simp -implicitDefEqProofs only [cdA, go_sem, Go.Proofs.Tryz.f75, reduceIte, reduceCtorEq, Nat.reduceEqDiff, Nat.reduceAdd, Nat.reduceLeDiff, Nat.reduceSub, Nat.reduceMul, Nat.reduceLT, Nat.reduceShiftRight, Nat.reduceMod, Int.reduceLE, Int.reduceLT, Int.reduceToNat, List.cons.injEq, cdB]
  unfold vf yaz
  split <;> rfl
def qp : List D → Option (Prop × D × Fr)
  | [.agg [.c (.int .u64 z274), .c (.int .u64 z275), .c (.int .u64 z276), .c (.int .u64 z277), .c (.int .u64 z278), .c (.sl z279), .c (.bool z280)]] => some (z274 = (z274.toNat : Int) ∧ z275 = (z275.toNat : Int) ∧ z276 = (z276.toNat : Int) ∧ z277 = (z277.toNat : Int) ∧ z278 = (z278.toNat : Int) ∧ z279 = hds (qq z279), qaz (⟨z274.toNat, z275.toNat, z276.toNat, z277.toNat, z278.toNat, (qq z279), z280⟩ : Ch), [])
  | _ => none
attribute [go_sem] qp
theorem yp : ∀ rs p r fr, qp rs = some (p, r, fr) → p → qg Tryz.prog 75 rs r fr := by
  intro rs p r fr h hp
  unfold qp at h
  split at h <;> cases h
  obtain ⟨hc0, hc1, hc2, hc3, hc4, hc5⟩ := hp
  rename_i z274 z275 z276 z277 z278 z279 z280
  obtain ⟨z274, rfl⟩ : ∃ m : Nat, z274 = m := ⟨_, hc0⟩
  obtain ⟨z275, rfl⟩ : ∃ m : Nat, z275 = m := ⟨_, hc1⟩
  obtain ⟨z276, rfl⟩ : ∃ m : Nat, z276 = m := ⟨_, hc2⟩
  obtain ⟨z277, rfl⟩ : ∃ m : Nat, z277 = m := ⟨_, hc3⟩
  obtain ⟨z278, rfl⟩ : ∃ m : Nat, z278 = m := ⟨_, hc4⟩
  obtain ⟨z279, rfl⟩ : ∃ m, z279 = hds m := ⟨_, hc5⟩
  simp only [Int.toNat_natCast, ze]
  exact vaN ⟨z274, z275, z276, z277, z278, z279, z280⟩
def bk (l : List Ch) (c : Ch) : List Ch × Int :=
  if ¬ gj c ∨ c.op = false ∨ 0 < c.holds.length ∨ ¬ zl l then ([], 1) else if Srt.thr Ch.id ltN l c.id = true then ([], 6) else if l.length = 32 then ([], 7) else if zl (Srt.ins l (Srt.pos Ch.id ltN l c.id) c) then (Srt.ins l (Srt.pos Ch.id ltN l c.id) c, 0) else ([], 8)
@[go_sem] def kaO (l : List Ch) (c : Ch) : D := .tup [.sl (chs (bk l c).1), .int .i64 (bk l c).2]
@[go_sem] abbrev bcJ : FuncId := 36
@[go_sem] def zbx : Tab := [(75, qp), (26, vp), (72, uy), (30, w8), (77, uC)]
theorem yy : za Tryz.prog zbx := (za.cons yp (za.cons gp (za.cons vD (za.cons zW (za.cons yz za.nil)))))
set_option maxRecDepth 8000 in
set_option maxHeartbeats 1000000 in
theorem ga9 (l : List Ch) (c : Ch)  : yb Tryz.prog 36 [.sl (chs l), .agg [.c (.int .u64 (c.id : Int)), .c (.int .u64 (c.loc : Int)), .c (.int .u64 (c.rem : Int)), .c (.int .u64 (c.res : Int)), .c (.int .u64 (c.most : Int)), .sl (hds c.holds), .c (.bool c.op)]] (kaO l c) := by
  refine .of (xda yy (Nat.le_of_ble_eq_true rfl) ?_)
  simp -implicitDefEqProofs only [cdA, go_sem, Go.Proofs.Tryz.f36, reduceIte, reduceCtorEq, Nat.reduceEqDiff, Nat.reduceAdd, Nat.reduceLeDiff, Nat.reduceSub, Nat.reduceMul, Nat.reduceLT, Nat.reduceShiftRight, Nat.reduceMod, Int.reduceLE, Int.reduceLT, Int.reduceToNat, List.cons.injEq, cdB]
  have hbad : (¬ gj c ∨ c.op = false ∨ 0 < c.holds.length ∨ ¬ zl l) → chs (bk l c).1 = [] ∧ 1 = (bk l c).2 := fun h => by rw [bk, if_pos h]; exact ⟨rfl, rfl⟩
  have hc0 : yaz c = 0 ↔ gj c := by unfold yaz; split <;> rename_i h <;> simp only [h] <;> decide
  have hl0 : xae l = 0 ↔ zl l := by unfold xae; split <;> rename_i h <;> simp only [h] <;> decide
  refine ⟨fun h1 => ⟨fun h2 _ => ⟨fun h3 => ⟨fun h4 => ?_, fun h4 => hbad (.inr (.inr (.inr fun h => h4 (hl0.2 h))))⟩, fun h3 => hbad (.inr (.inr (.inl (by omega))))⟩, fun h2 => hbad (.inr (.inl (by simpa using h2)))⟩, fun h1 => hbad (.inl fun h => h1 (hc0.2 h))⟩
  have hok := hl0.1 h4
  have hcc := hc0.1 h1
  have hop : c.op = true := by simpa using h2
  have hA : ¬ (¬ gj c ∨ c.op = false ∨ 0 < c.holds.length ∨ ¬ zl l) := by
    rintro (h | h | h | h)
    · exact h hcc
    · rw [hop] at h; cases h
    · omega
    · exact h hok
  have hu : Srt.Up Ch.id ltN l := (Srt.bf (lt := ltN) Srt.ue).1 hok.2.2.1
  have hl32 := hok.1
  refine yc0 yy (Nat.le_of_ble_eq_true rfl) ?_
  simp -implicitDefEqProofs only [cdA, go_sem, Go.Proofs.Tryz.f71, reduceIte, reduceCtorEq, Nat.reduceEqDiff, Nat.reduceAdd, Nat.reduceLeDiff, Nat.reduceSub, Nat.reduceMul, Nat.reduceLT, Nat.reduceShiftRight, Nat.reduceMod, Int.reduceLE, Int.reduceLT, Int.reduceToNat, List.cons.injEq, cdB]
  refine fun _ => SWp.loop (ι := { x : Nat × Nat // x.1 ≤ x.2 ∧ x.2 ≤ l.length ∧ (∀ k, k < x.1 → (l.getD k default).id < c.id) ∧ ∀ k, x.2 ≤ k → k < l.length → ¬ (l.getD k default).id < c.id }) (fun x => ⟨[(0, .sl (chs l)), (1, .c (.int .u64 c.id)), (2, .fn (.func 72) [] []), (8, .int .i64 l.length), (9, .int .i64 x.1.1), (10, .int .i64 x.1.2)],
    [(0, .box [.c (.int .u64 c.id), .c (.int .u64 c.loc), .c (.int .u64 c.rem), .c (.int .u64 c.res), .c (.int .u64 c.most), .sl (hds c.holds), .c (.bool c.op)])], 1⟩) (fun x => x.1.2 - x.1.1) ⟨(0, l.length), by simp, by simp, fun k hk => absurd hk (by simp), fun k h1 h2 => absurd h1 (by simpa using h2)⟩ ?_ ?_
  · simp [go_sem]
  · rintro ⟨⟨i, j⟩, hij, hj, hlo, hup⟩
    dsimp only at hij hj hlo hup
    refine qb yy.toS zb7 _ _ _ rfl ?_
    simp -implicitDefEqProofs only [cdA, go_sem, reduceIte, reduceCtorEq, Nat.reduceEqDiff, Nat.reduceAdd, Nat.reduceLeDiff, Nat.reduceSub, Nat.reduceMul, Nat.reduceLT, Nat.reduceShiftRight, Nat.reduceMod, Int.reduceLE, Int.reduceLT, Int.reduceToNat, List.cons.injEq, cdB]
    rw [wV hij hj ‹_›]
    refine ⟨fun h4 => ?_, fun h4 => ?_⟩
    · have hm : (i + j) / 2 < l.length := by omega
      rw [xk, Int.toNat_natCast]
      refine ⟨by omega, fun h5 => ⟨⟨((i + j) / 2 + 1, j), by dsimp only; omega, hj, fun k hk => ?_, hup⟩, by dsimp only; omega, i64_in _ (by omega), rfl⟩, fun h5 => ⟨⟨(i, (i + j) / 2), by dsimp only; omega, by dsimp only; omega, hlo, fun k hk1 hk2 => ?_⟩, by dsimp only; omega, rfl, rfl⟩⟩
      · dsimp only at hk
        by_cases hkm : k = (i + j) / 2
        · rw [hkm]; omega
        · have := Srt.ki.1 hu k _ (by omega) hm
          simp only [ltN] at this; omega
      · dsimp only at hk1
        by_cases hkm : k = (i + j) / 2
        · rw [hkm]; omega
        · have := Srt.ki.1 hu ((i + j) / 2) k (by omega) hk2
          simp only [ltN] at this; omega
    · have hp : Srt.pos Ch.id ltN l c.id = i := Srt.pos_eq (by omega) hlo (fun h => hup i (by omega) h)
      have hth : Srt.thr Ch.id ltN l c.id = decide (i < l.length ∧ (l.getD i default).id = c.id) := by rw [Srt.thr, hp]
      refine ⟨fun h5 => ⟨by omega, fun h6 => ?_, fun h6 _ => ⟨fun h7 => ?_, fun h7 => ?_⟩⟩, fun h5 _ => ⟨fun h7 => ?_, fun h7 => ?_⟩⟩
      · rw [bk, if_neg hA, if_pos (by rw [hth]; exact decide_eq_true ⟨by omega, by have := vA.1 h6; omega⟩)]; exact ⟨rfl, rfl⟩
      · have ht : ¬ Srt.thr Ch.id ltN l c.id = true := by rw [hth, decide_eq_true_eq]; rintro ⟨h8, h9⟩; exact h6 (vA.2 (by omega))
        rw [bk, if_neg hA, if_neg ht, if_pos (by omega)]; exact ⟨rfl, rfl⟩
      · have ht : ¬ Srt.thr Ch.id ltN l c.id = true := by rw [hth, decide_eq_true_eq]; rintro ⟨h8, h9⟩; exact h6 (vA.2 (by omega))
        refine uc.tail 6 ybg yy qa (by kernel_rfl) (by kernel_rfl) (by kernel_rfl) (by kernel_rfl) ?_
        simp -implicitDefEqProofs only [cdA, go_sem, List.take_succ_cons, List.take_zero, List.drop_succ_cons, List.drop_zero, reduceIte, reduceCtorEq, Nat.reduceEqDiff, Nat.reduceAdd, Nat.reduceLeDiff, Nat.reduceSub, Nat.reduceMul, Nat.reduceLT, Nat.reduceShiftRight, Nat.reduceMod, Int.reduceLE, Int.reduceLT, Int.reduceToNat, List.cons.injEq, cdB]
        refine ⟨⟨by omega, fun d hd => by have := (hok.2.1 d hd).2.2.1; omega⟩, by omega, ?_⟩
        refine va.grow (mid := [.int .i64 _]) (uaM l c i (by omega) (by omega)) rfl rfl (by decide) (by simp [Srt.zj]) (fun d hd g g' w v hv => ?_) ?_
        · simp at hd; subst hd
          cases hv with
          | c _ _ h => cases h; exact .c _ _ (.int _ _)
        · simp -implicitDefEqProofs only [cdA, go_sem, reduceIte, reduceCtorEq, Nat.reduceEqDiff, Nat.reduceAdd, Nat.reduceLeDiff, Nat.reduceSub, Nat.reduceMul, Nat.reduceLT, Nat.reduceShiftRight, Nat.reduceMod, Int.reduceLE, Int.reduceLT, Int.reduceToNat, List.cons.injEq, cdB]
          have hl0' : xae (Srt.ins l i c) = 0 ↔ zl (Srt.ins l i c) := by unfold xae; split <;> rename_i h <;> simp only [h] <;> decide
          refine ⟨fun h8 => ?_, fun h8 => ?_⟩
          · rw [bk, if_neg hA, if_neg ht, if_neg (by omega), hp, if_pos (hl0'.1 h8)]; exact ⟨⟨rfl, _, _, _, rfl⟩, rfl⟩
          · rw [bk, if_neg hA, if_neg ht, if_neg (by omega), hp, if_neg fun h => h8 (hl0'.2 h)]; exact ⟨rfl, rfl⟩
      · have ht : ¬ Srt.thr Ch.id ltN l c.id = true := by rw [hth, decide_eq_true_eq]; omega
        rw [bk, if_neg hA, if_neg ht, if_pos (by omega)]; exact ⟨rfl, rfl⟩
      · have ht : ¬ Srt.thr Ch.id ltN l c.id = true := by rw [hth, decide_eq_true_eq]; omega
        refine uc.tail 6 ybg yy qa (by kernel_rfl) (by kernel_rfl) (by kernel_rfl) (by kernel_rfl) ?_
        simp -implicitDefEqProofs only [cdA, go_sem, List.take_succ_cons, List.take_zero, List.drop_succ_cons, List.drop_zero, reduceIte, reduceCtorEq, Nat.reduceEqDiff, Nat.reduceAdd, Nat.reduceLeDiff, Nat.reduceSub, Nat.reduceMul, Nat.reduceLT, Nat.reduceShiftRight, Nat.reduceMod, Int.reduceLE, Int.reduceLT, Int.reduceToNat, List.cons.injEq, cdB]
        refine ⟨⟨by omega, fun d hd => by have := (hok.2.1 d hd).2.2.1; omega⟩, by omega, ?_⟩
        refine va.grow (mid := [.int .i64 _]) (uaM l c i (by omega) (by omega)) rfl rfl (by decide) (by simp [Srt.zj]) (fun d hd g g' w v hv => ?_) ?_
        · simp at hd; subst hd
          cases hv with
          | c _ _ h => cases h; exact .c _ _ (.int _ _)
        · simp -implicitDefEqProofs only [cdA, go_sem, reduceIte, reduceCtorEq, Nat.reduceEqDiff, Nat.reduceAdd, Nat.reduceLeDiff, Nat.reduceSub, Nat.reduceMul, Nat.reduceLT, Nat.reduceShiftRight, Nat.reduceMod, Int.reduceLE, Int.reduceLT, Int.reduceToNat, List.cons.injEq, cdB]
          have hl0' : xae (Srt.ins l i c) = 0 ↔ zl (Srt.ins l i c) := by unfold xae; split <;> rename_i h <;> simp only [h] <;> decide
          refine ⟨fun h8 => ?_, fun h8 => ?_⟩
          · rw [bk, if_neg hA, if_neg ht, if_neg (by omega), hp, if_pos (hl0'.1 h8)]; exact ⟨⟨rfl, _, _, _, rfl⟩, rfl⟩
          · rw [bk, if_neg hA, if_neg ht, if_neg (by omega), hp, if_neg fun h => h8 (hl0'.2 h)]; exact ⟨rfl, rfl⟩
def qS : List D → Option (Prop × D × Fr)
  | [.c (.sl z281), .agg [.c (.int .u64 z283), .c (.int .u64 z284), .c (.int .u64 z285), .c (.int .u64 z286), .c (.int .u64 z287), .c (.sl z288), .c (.bool z289)]] => some (z281 = chs (ji z281) ∧ z283 = (z283.toNat : Int) ∧ z284 = (z284.toNat : Int) ∧ z285 = (z285.toNat : Int) ∧ z286 = (z286.toNat : Int) ∧ z287 = (z287.toNat : Int) ∧ z288 = hds (qq z288), kaO (ji z281) (⟨z283.toNat, z284.toNat, z285.toNat, z286.toNat, z287.toNat, (qq z288), z289⟩ : Ch), [])
  | _ => none
attribute [go_sem] qS
theorem vau : ∀ rs p r fr, qS rs = some (p, r, fr) → p → qg Tryz.prog 36 rs r fr := by
  intro rs p r fr h hp
  unfold qS at h
  split at h <;> cases h
  obtain ⟨hc0, hc1, hc2, hc3, hc4, hc5, hc6⟩ := hp
  rename_i z281 z283 z284 z285 z286 z287 z288 z289
  obtain ⟨z281, rfl⟩ : ∃ m, z281 = chs m := ⟨_, hc0⟩
  obtain ⟨z283, rfl⟩ : ∃ m : Nat, z283 = m := ⟨_, hc1⟩
  obtain ⟨z284, rfl⟩ : ∃ m : Nat, z284 = m := ⟨_, hc2⟩
  obtain ⟨z285, rfl⟩ : ∃ m : Nat, z285 = m := ⟨_, hc3⟩
  obtain ⟨z286, rfl⟩ : ∃ m : Nat, z286 = m := ⟨_, hc4⟩
  obtain ⟨z287, rfl⟩ : ∃ m : Nat, z287 = m := ⟨_, hc5⟩
  obtain ⟨z288, rfl⟩ : ∃ m, z288 = hds m := ⟨_, hc6⟩
  simp only [Int.toNat_natCast, jb, ze]
  exact ga9 z281 ⟨z283, z284, z285, z286, z287, z288, z289⟩
end Dm
namespace Dm
open Go Go.Proofs Go.IntWalk
def bw (c : Ch) (id : Nat) (paid : Bool) : Ch × Nat × Int :=
  if gj c then (if Srt.thr Hd.key ltN c.holds id = true then
    (⟨c.id, if paid = true then c.loc else c.loc + (c.holds.getD (Srt.pos Hd.key ltN c.holds id) default).n, if paid = true then c.rem + (c.holds.getD (Srt.pos Hd.key ltN c.holds id) default).n else c.rem, c.res, c.most, c.holds.eraseIdx (Srt.pos Hd.key ltN c.holds id), c.op⟩, (c.holds.getD (Srt.pos Hd.key ltN c.holds id) default).n, 0)
    else (default, 0, 5)) else (default, 0, 1)
theorem ban (l : List Hd) (i : Nat) : (hds l).eraseIdx i = hds (l.eraseIdx i) := by
  simp [hds, List.eraseIdx_eq_take_drop_succ]
theorem bZ {l : List Hd} {q : Nat} {x : Hd} (hq : q < l.length) (hx : l.getD q default = x) : l.Perm (x :: l.eraseIdx q) := by
  rw [ve hq] at hx
  subst hx
  rw [List.eraseIdx_eq_take_drop_succ]
  conv => lhs; rw [show l = l.take q ++ l[q] :: l.drop (q + 1) by rw [List.getElem_cons_drop, List.take_append_drop]]
  exact List.perm_middle
theorem kaR {l : List Hd} {q : Nat} (hq : q < l.length) : (l.getD q default).n ≤ held l := by
  have hpm := bZ hq rfl
  unfold held
  rw [(hpm.map Hd.n).sum_nat, List.map_cons, List.sum_cons]
  exact Nat.le_add_right _ _
@[go_sem] def waQ (c : Ch) (id : Nat) : D := .tup [.agg [.int .u64 (bw c id false).1.id, .int .u64 (bw c id false).1.loc, .int .u64 (bw c id false).1.rem, .int .u64 (bw c id false).1.res, .int .u64 (bw c id false).1.most, .sl (hds (bw c id false).1.holds), .bool (bw c id false).1.op], .int .u64 (bw c id false).2.1, .int .i64 (bw c id false).2.2]
@[go_sem] abbrev kcO : FuncId := 95
@[go_sem] def zbl : Tab := [(75, qp), (73, ur), (74, vt), fg 13]
theorem bn : za Tryz.prog zbl := (za.cons yp (za.cons yA (za.cons bu (za.cons (kav 13) za.nil))))
set_option maxRecDepth 8000 in
set_option maxHeartbeats 1000000 in
theorem ka6 (c : Ch) (id : Nat)  : yb Tryz.prog 95 [.agg [.c (.int .u64 (c.id : Int)), .c (.int .u64 (c.loc : Int)), .c (.int .u64 (c.rem : Int)), .c (.int .u64 (c.res : Int)), .c (.int .u64 (c.most : Int)), .sl (hds c.holds), .c (.bool c.op)], .c (.int .u64 (id : Int))] (waQ c id) := by
  refine .of (wdi bn (Nat.le_of_ble_eq_true rfl) ?_)
  simp -implicitDefEqProofs only [cdA, go_sem, Go.Proofs.Tryz.f95, reduceIte, reduceCtorEq, Nat.reduceEqDiff, Nat.reduceAdd, Nat.reduceLeDiff, Nat.reduceSub, Nat.reduceMul, Nat.reduceLT, Nat.reduceShiftRight, Nat.reduceMod, Int.reduceLE, Int.reduceLT, Int.reduceToNat, List.cons.injEq, cdB]
  refine vbS bn (Nat.le_of_ble_eq_true rfl) ?_
  simp -implicitDefEqProofs only [cdA, go_sem, Go.Proofs.Tryz.f128, reduceIte, reduceCtorEq, Nat.reduceEqDiff, Nat.reduceAdd, Nat.reduceLeDiff, Nat.reduceSub, Nat.reduceMul, Nat.reduceLT, Nat.reduceShiftRight, Nat.reduceMod, Int.reduceLE, Int.reduceLT, Int.reduceToNat, List.cons.injEq, cdB]
  have hc0 : yaz c = 0 ↔ gj c := by unfold yaz; split <;> rename_i h <;> simp only [h] <;> decide
  refine ⟨fun h0 => ?_, fun h0 => by
    have hno : ¬ gj c := fun h => h0 (hc0.2 h)
    rw [bw, yaz, if_neg hno, if_neg hno]; exact ⟨⟨rfl, rfl, rfl, rfl, rfl, rfl, rfl⟩, rfl, rfl⟩⟩
  have hok := hc0.1 h0
  have hu : Srt.Up Hd.key ltN c.holds := (Srt.bf (lt := ltN) Srt.ue).1 hok.2.2.2.2.2.1
  have h64 := hok.2.2.1
  refine xbn bn (Nat.le_of_ble_eq_true rfl) ?_
  simp -implicitDefEqProofs only [cdA, go_sem, Go.Proofs.Tryz.f126, reduceIte, reduceCtorEq, Nat.reduceEqDiff, Nat.reduceAdd, Nat.reduceLeDiff, Nat.reduceSub, Nat.reduceMul, Nat.reduceLT, Nat.reduceShiftRight, Nat.reduceMod, Int.reduceLE, Int.reduceLT, Int.reduceToNat, List.cons.injEq, cdB]
  refine fun _ => SWp.loop (ι := { x : Nat × Nat // x.1 ≤ x.2 ∧ x.2 ≤ c.holds.length ∧ (∀ k, k < x.1 → (c.holds.getD k default).id < id) ∧ ∀ k, x.2 ≤ k → k < c.holds.length → ¬ (c.holds.getD k default).id < id }) (fun x => ⟨[(0, .sl (hds c.holds)), (1, .c (.int .u64 id)), (2, .fn (.func 74) [] []), (8, .int .i64 c.holds.length), (9, .int .i64 x.1.1), (10, .int .i64 x.1.2)],
    [(3, .box [.c (.int .u64 0), .c (.int .u64 0), .c (.int .u64 0), .c (.int .u64 0), .c (.int .u64 0), .nil, .c (.bool false)]), (2, .box [.c (.int .u64 c.id), .c (.int .u64 c.loc), .c (.int .u64 c.rem), .c (.int .u64 c.res), .c (.int .u64 c.most), .sl (hds c.holds), .c (.bool c.op)]), (1, .box [.c (.int .u64 0), .c (.int .u64 0), .c (.int .u64 0), .c (.int .u64 0), .c (.int .u64 0), .nil, .c (.bool false)]), (0, .box [.c (.int .u64 c.id), .c (.int .u64 c.loc), .c (.int .u64 c.rem), .c (.int .u64 c.res), .c (.int .u64 c.most), .sl (hds c.holds), .c (.bool c.op)])], 4⟩) (fun x => x.1.2 - x.1.1) ⟨(0, c.holds.length), by simp, by simp, fun k hk => absurd hk (by simp), fun k h1 h2 => absurd h1 (by simpa using h2)⟩ ?_ ?_
  · simp [go_sem]
  · rintro ⟨⟨i, j⟩, hij, hj, hlo, hup⟩
    dsimp only at hij hj hlo hup
    refine qb bn.toS jaR _ _ _ rfl ?_
    simp -implicitDefEqProofs only [cdA, go_sem, reduceIte, reduceCtorEq, Nat.reduceEqDiff, Nat.reduceAdd, Nat.reduceLeDiff, Nat.reduceSub, Nat.reduceMul, Nat.reduceLT, Nat.reduceShiftRight, Nat.reduceMod, Int.reduceLE, Int.reduceLT, Int.reduceToNat, List.cons.injEq, cdB]
    rw [wV hij hj ‹_›]
    refine ⟨fun h4 => ?_, fun h4 => ?_⟩
    · have hm : (i + j) / 2 < c.holds.length := by omega
      rw [xk, Int.toNat_natCast]
      refine ⟨⟨by omega, by omega⟩, fun h5 => ⟨⟨((i + j) / 2 + 1, j), by dsimp only; omega, hj, fun k hk => ?_, hup⟩, by dsimp only; omega, i64_in _ (by omega), rfl⟩, fun h5 => ⟨⟨(i, (i + j) / 2), by dsimp only; omega, by dsimp only; omega, hlo, fun k hk1 hk2 => ?_⟩, by dsimp only; omega, rfl, rfl⟩⟩
      · dsimp only at hk
        by_cases hkm : k = (i + j) / 2
        · rw [hkm]; omega
        · have := Srt.ki.1 hu k _ (by omega) hm
          simp only [ltN, Hd.key] at this; omega
      · dsimp only at hk1
        by_cases hkm : k = (i + j) / 2
        · rw [hkm]; omega
        · have := Srt.ki.1 hu ((i + j) / 2) k (by omega) hk2
          simp only [ltN, Hd.key] at this; omega
    · have hp : Srt.pos Hd.key ltN c.holds id = i := Srt.pos_eq (by omega) hlo (fun h => hup i (by omega) h)
      have hth : Srt.thr Hd.key ltN c.holds id = decide (i < c.holds.length ∧ (c.holds.getD i default).id = id) := by rw [Srt.thr, hp]; rfl
      have hno : ¬ (i < c.holds.length ∧ (c.holds.getD i default).id = id) → bw c id false = (default, 0, 5) := fun h => by
        rw [bw, if_pos hok, if_neg (by rw [hth, decide_eq_true_eq]; exact h)]
      refine ⟨fun h5 => ⟨by omega, fun h6 => ⟨by omega, by omega, ?_⟩, fun h6 => ?_⟩, fun h5 => ?_⟩
      rotate_left 1
      · rw [hno fun h => h6 (vA.2 (by omega))]; exact ⟨⟨rfl, rfl, rfl, rfl, rfl, rfl, rfl⟩, rfl, rfl⟩
      · rw [hno fun h => h5 (by omega)]; exact ⟨⟨rfl, rfl, rfl, rfl, rfl, rfl, rfl⟩, rfl, rfl⟩
      have hi' : i < c.holds.length := by omega
      have ht : Srt.thr Hd.key ltN c.holds id = true := by rw [hth]; exact decide_eq_true ⟨hi', by have := vA.1 h6; omega⟩
      rw [i64_in _ (by omega)]
      refine va.opn 4 rfl (by rw [yd]; omega) fun cp hc hcm => ?_
      refine va.sld ?_
      rw [yd] at hc
      refine wbP bn (Nat.le_of_ble_eq_true rfl) ?_
      simp -implicitDefEqProofs only [cdA, go_sem, Go.Proofs.Tryz.f147, reduceIte, reduceCtorEq, Nat.reduceEqDiff, Nat.reduceAdd, Nat.reduceLeDiff, Nat.reduceSub, Nat.reduceMul, Nat.reduceLT, Nat.reduceShiftRight, Nat.reduceMod, Int.reduceLE, Int.reduceLT, Int.reduceToNat, List.cons.injEq, cdB]
      refine fun _ => ⟨⟨by omega, by omega, by omega⟩, fun h => absurd h (by omega), fun _ _ => ?_⟩
      refine uc.run vaU bn qa (by kernel_rfl) (by kernel_rfl) ?_
      simp -implicitDefEqProofs only [cdA, go_sem, reduceIte, reduceCtorEq, Nat.reduceEqDiff, Nat.reduceAdd, Nat.reduceLeDiff, Nat.reduceSub, Nat.reduceMul, Nat.reduceLT, Nat.reduceShiftRight, Nat.reduceMod, Int.reduceLE, Int.reduceLT, Int.reduceToNat, List.cons.injEq, cdB]
      have eF : List.take c.holds.length (fit cp 2 (hds c.holds)) = hds c.holds := by rw [ko (by rw [yd]; exact Nat.le_refl _) hc, List.take_of_length_le (by rw [yd]; exact Nat.le_refl _)]
      have e2 : ((i : Int) + 1).toNat = i + 1 := by omega
      rw [eF, e2]
      have hD : ((hds c.holds).drop (i + 1)).length = c.holds.length - (i + 1) := by rw [List.length_drop, yd]
      have e3 : ((i : Int) + (((hds c.holds).drop (i + 1)).length : Int)).toNat = i + ((hds c.holds).drop (i + 1)).length := by omega
      simp only [e3]
      have hE : ∀ Z : List (List C), (fit cp 2 ((fit cp 2 ((fit cp 2 (hds c.holds)).take i ++ ((hds c.holds).drop (i + 1) ++ (fit cp 2 (hds c.holds)).drop (i + ((hds c.holds).drop (i + 1)).length)))).take (i + ((hds c.holds).drop (i + 1)).length) ++ Z)).take (i + ((hds c.holds).drop (i + 1)).length) = hds (c.holds.eraseIdx i) := fun Z => by
        rw [xau (by rw [yd]; exact hi') (by rw [yd]; exact hc), ban]
      rw [hE, hD]
      have hl1 : i + (c.holds.length - (i + 1)) = (c.holds.eraseIdx i).length := by rw [List.length_eraseIdx_of_lt hi']; omega
      rw [hl1]
      have hl2 : (c.holds.eraseIdx i).length = c.holds.length - 1 := List.length_eraseIdx_of_lt hi'
      refine ⟨by omega, ⟨by omega, by omega⟩, ⟨fun x hx => (of_eq_true (uae c.holds)) x (List.mem_of_mem_drop hx), by omega⟩, fun _ => ⟨⟨by omega, by omega, by omega⟩, ?_⟩⟩
      refine gcM bn (Nat.le_of_ble_eq_true rfl) ?_
      simp -implicitDefEqProofs only [cdA, go_sem, Go.Proofs.Tryz.f129, reduceIte, reduceCtorEq, Nat.reduceEqDiff, Nat.reduceAdd, Nat.reduceLeDiff, Nat.reduceSub, Nat.reduceMul, Nat.reduceLT, Nat.reduceShiftRight, Nat.reduceMod, Int.reduceLE, Int.reduceLT, Int.reduceToNat, List.cons.injEq, cdB]
      have ec : bw c id false = (⟨c.id, if (false : Bool) = true then c.loc else c.loc + (c.holds.getD i default).n, if (false : Bool) = true then c.rem + (c.holds.getD i default).n else c.rem, c.res, c.most, c.holds.eraseIdx i, c.op⟩, (c.holds.getD i default).n, 0) := by
        rw [bw, if_pos hok, if_pos ht, hp]
      have hge := kaR hi'
      have hsum := hok.2.2.2.2.2.2.2.2.2
      unfold MM at hsum
      rw [ec]
      dsimp only
      rw [if_neg (by decide), if_neg (by decide), u64_in _ (by omega)]
      exact ⟨⟨rfl, by omega, by omega, rfl, rfl, ⟨rfl, _, _, _, rfl⟩, rfl⟩, rfl, rfl⟩
def xS : List D → Option (Prop × D × Fr)
  | [.agg [.c (.int .u64 z321), .c (.int .u64 z322), .c (.int .u64 z323), .c (.int .u64 z324), .c (.int .u64 z325), .c (.sl z326), .c (.bool z327)], .c (.int .u64 z328)] => some (z321 = (z321.toNat : Int) ∧ z322 = (z322.toNat : Int) ∧ z323 = (z323.toNat : Int) ∧ z324 = (z324.toNat : Int) ∧ z325 = (z325.toNat : Int) ∧ z326 = hds (qq z326) ∧ z328 = (z328.toNat : Int), waQ (⟨z321.toNat, z322.toNat, z323.toNat, z324.toNat, z325.toNat, (qq z326), z327⟩ : Ch) z328.toNat, [])
  | _ => none
attribute [go_sem] xS
theorem yat : ∀ rs p r fr, xS rs = some (p, r, fr) → p → qg Tryz.prog 95 rs r fr := by
  intro rs p r fr h hp
  unfold xS at h
  split at h <;> cases h
  obtain ⟨hc0, hc1, hc2, hc3, hc4, hc5, hc6⟩ := hp
  rename_i z321 z322 z323 z324 z325 z326 z327 z328
  obtain ⟨z321, rfl⟩ : ∃ m : Nat, z321 = m := ⟨_, hc0⟩
  obtain ⟨z322, rfl⟩ : ∃ m : Nat, z322 = m := ⟨_, hc1⟩
  obtain ⟨z323, rfl⟩ : ∃ m : Nat, z323 = m := ⟨_, hc2⟩
  obtain ⟨z324, rfl⟩ : ∃ m : Nat, z324 = m := ⟨_, hc3⟩
  obtain ⟨z325, rfl⟩ : ∃ m : Nat, z325 = m := ⟨_, hc4⟩
  obtain ⟨z326, rfl⟩ : ∃ m, z326 = hds m := ⟨_, hc5⟩
  obtain ⟨z328, rfl⟩ : ∃ m : Nat, z328 = m := ⟨_, hc6⟩
  simp only [Int.toNat_natCast, ze]
  exact ka6 ⟨z321, z322, z323, z324, z325, z326, z327⟩ z328
@[go_sem] def xal (c : Ch) (id : Nat) : D := .tup [.agg [.int .u64 (bw c id true).1.id, .int .u64 (bw c id true).1.loc, .int .u64 (bw c id true).1.rem, .int .u64 (bw c id true).1.res, .int .u64 (bw c id true).1.most, .sl (hds (bw c id true).1.holds), .bool (bw c id true).1.op], .int .u64 (bw c id true).2.1, .int .i64 (bw c id true).2.2]
@[go_sem] abbrev vb1 : FuncId := 96
@[go_sem] def jaV : Tab := [(75, qp), (73, ur), (74, vt), fg 13]
theorem yj : za Tryz.prog jaV := (za.cons yp (za.cons yA (za.cons bu (za.cons (kav 13) za.nil))))
set_option maxRecDepth 8000 in
set_option maxHeartbeats 1000000 in
theorem qaI (c : Ch) (id : Nat)  : yb Tryz.prog 96 [.agg [.c (.int .u64 (c.id : Int)), .c (.int .u64 (c.loc : Int)), .c (.int .u64 (c.rem : Int)), .c (.int .u64 (c.res : Int)), .c (.int .u64 (c.most : Int)), .sl (hds c.holds), .c (.bool c.op)], .c (.int .u64 (id : Int))] (xal c id) := by
  refine .of (vde yj (Nat.le_of_ble_eq_true rfl) ?_)
  simp -implicitDefEqProofs only [cdA, go_sem, Go.Proofs.Tryz.f96, reduceIte, reduceCtorEq, Nat.reduceEqDiff, Nat.reduceAdd, Nat.reduceLeDiff, Nat.reduceSub, Nat.reduceMul, Nat.reduceLT, Nat.reduceShiftRight, Nat.reduceMod, Int.reduceLE, Int.reduceLT, Int.reduceToNat, List.cons.injEq, cdB]
  refine vbS yj (Nat.le_of_ble_eq_true rfl) ?_
  simp -implicitDefEqProofs only [cdA, go_sem, Go.Proofs.Tryz.f128, reduceIte, reduceCtorEq, Nat.reduceEqDiff, Nat.reduceAdd, Nat.reduceLeDiff, Nat.reduceSub, Nat.reduceMul, Nat.reduceLT, Nat.reduceShiftRight, Nat.reduceMod, Int.reduceLE, Int.reduceLT, Int.reduceToNat, List.cons.injEq, cdB]
  have hc0 : yaz c = 0 ↔ gj c := by unfold yaz; split <;> rename_i h <;> simp only [h] <;> decide
  refine ⟨fun h0 => ?_, fun h0 => by
    have hno : ¬ gj c := fun h => h0 (hc0.2 h)
    rw [bw, yaz, if_neg hno, if_neg hno]; exact ⟨⟨rfl, rfl, rfl, rfl, rfl, rfl, rfl⟩, rfl, rfl⟩⟩
  have hok := hc0.1 h0
  have hu : Srt.Up Hd.key ltN c.holds := (Srt.bf (lt := ltN) Srt.ue).1 hok.2.2.2.2.2.1
  have h64 := hok.2.2.1
  refine xbn yj (Nat.le_of_ble_eq_true rfl) ?_
  simp -implicitDefEqProofs only [cdA, go_sem, Go.Proofs.Tryz.f126, reduceIte, reduceCtorEq, Nat.reduceEqDiff, Nat.reduceAdd, Nat.reduceLeDiff, Nat.reduceSub, Nat.reduceMul, Nat.reduceLT, Nat.reduceShiftRight, Nat.reduceMod, Int.reduceLE, Int.reduceLT, Int.reduceToNat, List.cons.injEq, cdB]
  refine fun _ => SWp.loop (ι := { x : Nat × Nat // x.1 ≤ x.2 ∧ x.2 ≤ c.holds.length ∧ (∀ k, k < x.1 → (c.holds.getD k default).id < id) ∧ ∀ k, x.2 ≤ k → k < c.holds.length → ¬ (c.holds.getD k default).id < id }) (fun x => ⟨[(0, .sl (hds c.holds)), (1, .c (.int .u64 id)), (2, .fn (.func 74) [] []), (8, .int .i64 c.holds.length), (9, .int .i64 x.1.1), (10, .int .i64 x.1.2)],
    [(3, .box [.c (.int .u64 0), .c (.int .u64 0), .c (.int .u64 0), .c (.int .u64 0), .c (.int .u64 0), .nil, .c (.bool false)]), (2, .box [.c (.int .u64 c.id), .c (.int .u64 c.loc), .c (.int .u64 c.rem), .c (.int .u64 c.res), .c (.int .u64 c.most), .sl (hds c.holds), .c (.bool c.op)]), (1, .box [.c (.int .u64 0), .c (.int .u64 0), .c (.int .u64 0), .c (.int .u64 0), .c (.int .u64 0), .nil, .c (.bool false)]), (0, .box [.c (.int .u64 c.id), .c (.int .u64 c.loc), .c (.int .u64 c.rem), .c (.int .u64 c.res), .c (.int .u64 c.most), .sl (hds c.holds), .c (.bool c.op)])], 4⟩) (fun x => x.1.2 - x.1.1) ⟨(0, c.holds.length), by simp, by simp, fun k hk => absurd hk (by simp), fun k h1 h2 => absurd h1 (by simpa using h2)⟩ ?_ ?_
  · simp [go_sem]
  · rintro ⟨⟨i, j⟩, hij, hj, hlo, hup⟩
    dsimp only at hij hj hlo hup
    refine qb yj.toS jaR _ _ _ rfl ?_
    simp -implicitDefEqProofs only [cdA, go_sem, reduceIte, reduceCtorEq, Nat.reduceEqDiff, Nat.reduceAdd, Nat.reduceLeDiff, Nat.reduceSub, Nat.reduceMul, Nat.reduceLT, Nat.reduceShiftRight, Nat.reduceMod, Int.reduceLE, Int.reduceLT, Int.reduceToNat, List.cons.injEq, cdB]
    rw [wV hij hj ‹_›]
    refine ⟨fun h4 => ?_, fun h4 => ?_⟩
    · have hm : (i + j) / 2 < c.holds.length := by omega
      rw [xk, Int.toNat_natCast]
      refine ⟨⟨by omega, by omega⟩, fun h5 => ⟨⟨((i + j) / 2 + 1, j), by dsimp only; omega, hj, fun k hk => ?_, hup⟩, by dsimp only; omega, i64_in _ (by omega), rfl⟩, fun h5 => ⟨⟨(i, (i + j) / 2), by dsimp only; omega, by dsimp only; omega, hlo, fun k hk1 hk2 => ?_⟩, by dsimp only; omega, rfl, rfl⟩⟩
      · dsimp only at hk
        by_cases hkm : k = (i + j) / 2
        · rw [hkm]; omega
        · have := Srt.ki.1 hu k _ (by omega) hm
          simp only [ltN, Hd.key] at this; omega
      · dsimp only at hk1
        by_cases hkm : k = (i + j) / 2
        · rw [hkm]; omega
        · have := Srt.ki.1 hu ((i + j) / 2) k (by omega) hk2
          simp only [ltN, Hd.key] at this; omega
    · have hp : Srt.pos Hd.key ltN c.holds id = i := Srt.pos_eq (by omega) hlo (fun h => hup i (by omega) h)
      have hth : Srt.thr Hd.key ltN c.holds id = decide (i < c.holds.length ∧ (c.holds.getD i default).id = id) := by rw [Srt.thr, hp]; rfl
      have hno : ¬ (i < c.holds.length ∧ (c.holds.getD i default).id = id) → bw c id true = (default, 0, 5) := fun h => by
        rw [bw, if_pos hok, if_neg (by rw [hth, decide_eq_true_eq]; exact h)]
      refine ⟨fun h5 => ⟨by omega, fun h6 => ⟨by omega, by omega, ?_⟩, fun h6 => ?_⟩, fun h5 => ?_⟩
      rotate_left 1
      · rw [hno fun h => h6 (vA.2 (by omega))]; exact ⟨⟨rfl, rfl, rfl, rfl, rfl, rfl, rfl⟩, rfl, rfl⟩
      · rw [hno fun h => h5 (by omega)]; exact ⟨⟨rfl, rfl, rfl, rfl, rfl, rfl, rfl⟩, rfl, rfl⟩
      have hi' : i < c.holds.length := by omega
      have ht : Srt.thr Hd.key ltN c.holds id = true := by rw [hth]; exact decide_eq_true ⟨hi', by have := vA.1 h6; omega⟩
      rw [i64_in _ (by omega)]
      refine va.opn 4 rfl (by rw [yd]; omega) fun cp hc hcm => ?_
      refine va.sld ?_
      rw [yd] at hc
      refine wbP yj (Nat.le_of_ble_eq_true rfl) ?_
      simp -implicitDefEqProofs only [cdA, go_sem, Go.Proofs.Tryz.f147, reduceIte, reduceCtorEq, Nat.reduceEqDiff, Nat.reduceAdd, Nat.reduceLeDiff, Nat.reduceSub, Nat.reduceMul, Nat.reduceLT, Nat.reduceShiftRight, Nat.reduceMod, Int.reduceLE, Int.reduceLT, Int.reduceToNat, List.cons.injEq, cdB]
      refine fun _ => ⟨⟨by omega, by omega, by omega⟩, fun h => absurd h (by omega), fun _ _ => ?_⟩
      refine uc.run vaU yj qa (by kernel_rfl) (by kernel_rfl) ?_
      simp -implicitDefEqProofs only [cdA, go_sem, reduceIte, reduceCtorEq, Nat.reduceEqDiff, Nat.reduceAdd, Nat.reduceLeDiff, Nat.reduceSub, Nat.reduceMul, Nat.reduceLT, Nat.reduceShiftRight, Nat.reduceMod, Int.reduceLE, Int.reduceLT, Int.reduceToNat, List.cons.injEq, cdB]
      have eF : List.take c.holds.length (fit cp 2 (hds c.holds)) = hds c.holds := by rw [ko (by rw [yd]; exact Nat.le_refl _) hc, List.take_of_length_le (by rw [yd]; exact Nat.le_refl _)]
      have e2 : ((i : Int) + 1).toNat = i + 1 := by omega
      rw [eF, e2]
      have hD : ((hds c.holds).drop (i + 1)).length = c.holds.length - (i + 1) := by rw [List.length_drop, yd]
      have e3 : ((i : Int) + (((hds c.holds).drop (i + 1)).length : Int)).toNat = i + ((hds c.holds).drop (i + 1)).length := by omega
      simp only [e3]
      have hE : ∀ Z : List (List C), (fit cp 2 ((fit cp 2 ((fit cp 2 (hds c.holds)).take i ++ ((hds c.holds).drop (i + 1) ++ (fit cp 2 (hds c.holds)).drop (i + ((hds c.holds).drop (i + 1)).length)))).take (i + ((hds c.holds).drop (i + 1)).length) ++ Z)).take (i + ((hds c.holds).drop (i + 1)).length) = hds (c.holds.eraseIdx i) := fun Z => by
        rw [xau (by rw [yd]; exact hi') (by rw [yd]; exact hc), ban]
      rw [hE, hD]
      have hl1 : i + (c.holds.length - (i + 1)) = (c.holds.eraseIdx i).length := by rw [List.length_eraseIdx_of_lt hi']; omega
      rw [hl1]
      have hl2 : (c.holds.eraseIdx i).length = c.holds.length - 1 := List.length_eraseIdx_of_lt hi'
      refine ⟨by omega, ⟨by omega, by omega⟩, ⟨fun x hx => (of_eq_true (uae c.holds)) x (List.mem_of_mem_drop hx), by omega⟩, fun _ => ⟨⟨by omega, by omega, by omega⟩, ?_⟩⟩
      refine ycA yj (Nat.le_of_ble_eq_true rfl) ?_
      simp -implicitDefEqProofs only [cdA, go_sem, Go.Proofs.Tryz.f130, reduceIte, reduceCtorEq, Nat.reduceEqDiff, Nat.reduceAdd, Nat.reduceLeDiff, Nat.reduceSub, Nat.reduceMul, Nat.reduceLT, Nat.reduceShiftRight, Nat.reduceMod, Int.reduceLE, Int.reduceLT, Int.reduceToNat, List.cons.injEq, cdB]
      have ec : bw c id true = (⟨c.id, if (true : Bool) = true then c.loc else c.loc + (c.holds.getD i default).n, if (true : Bool) = true then c.rem + (c.holds.getD i default).n else c.rem, c.res, c.most, c.holds.eraseIdx i, c.op⟩, (c.holds.getD i default).n, 0) := by
        rw [bw, if_pos hok, if_pos ht, hp]
      have hge := kaR hi'
      have hsum := hok.2.2.2.2.2.2.2.2.2
      unfold MM at hsum
      rw [ec]
      dsimp only
      rw [if_pos (by decide), if_pos (by decide), u64_in _ (by omega)]
      exact ⟨⟨rfl, by omega, by omega, rfl, rfl, ⟨rfl, _, _, _, rfl⟩, rfl⟩, rfl, rfl⟩
def vF : List D → Option (Prop × D × Fr)
  | [.agg [.c (.int .u64 z330), .c (.int .u64 z331), .c (.int .u64 z332), .c (.int .u64 z333), .c (.int .u64 z334), .c (.sl z335), .c (.bool z336)], .c (.int .u64 z337)] => some (z330 = (z330.toNat : Int) ∧ z331 = (z331.toNat : Int) ∧ z332 = (z332.toNat : Int) ∧ z333 = (z333.toNat : Int) ∧ z334 = (z334.toNat : Int) ∧ z335 = hds (qq z335) ∧ z337 = (z337.toNat : Int), xal (⟨z330.toNat, z331.toNat, z332.toNat, z333.toNat, z334.toNat, (qq z335), z336⟩ : Ch) z337.toNat, [])
  | _ => none
attribute [go_sem] vF
theorem k9 : ∀ rs p r fr, vF rs = some (p, r, fr) → p → qg Tryz.prog 96 rs r fr := by
  intro rs p r fr h hp
  unfold vF at h
  split at h <;> cases h
  obtain ⟨hc0, hc1, hc2, hc3, hc4, hc5, hc6⟩ := hp
  rename_i z330 z331 z332 z333 z334 z335 z336 z337
  obtain ⟨z330, rfl⟩ : ∃ m : Nat, z330 = m := ⟨_, hc0⟩
  obtain ⟨z331, rfl⟩ : ∃ m : Nat, z331 = m := ⟨_, hc1⟩
  obtain ⟨z332, rfl⟩ : ∃ m : Nat, z332 = m := ⟨_, hc2⟩
  obtain ⟨z333, rfl⟩ : ∃ m : Nat, z333 = m := ⟨_, hc3⟩
  obtain ⟨z334, rfl⟩ : ∃ m : Nat, z334 = m := ⟨_, hc4⟩
  obtain ⟨z335, rfl⟩ : ∃ m, z335 = hds m := ⟨_, hc5⟩
  obtain ⟨z337, rfl⟩ : ∃ m : Nat, z337 = m := ⟨_, hc6⟩
  simp only [Int.toNat_natCast, ze]
  exact qaI ⟨z330, z331, z332, z333, z334, z335, z336⟩ z337
end Dm
namespace Dm
open Go Go.Proofs Go.IntWalk
theorem zT {α κ : Type} [Inhabited α] [DecidableEq κ] {key : α → κ} {lt : κ → κ → Prop} [DecidableRel lt] {l : List α} {k : κ} (h : Srt.thr key lt l k = true) : Srt.pos key lt l k < l.length ∧ key (l.getD (Srt.pos key lt l k) default) = k := by
  unfold Srt.thr at h; exact of_decide_eq_true h
theorem jbO : ∀ {l : List Ch} {s : Int} {k : Nat} {a : Int}, (k, a) ∈ hm s l → ∃ i : Nat, i < l.length ∧ a = s + i ∧ ∃ x ∈ (l.getD i default).holds, x.id = k
  | [], _, _, _, h => absurd h (by simp [hm])
  | c :: l, s, k, a, h => by
    rw [hm, List.mem_append] at h
    rcases h with h | h
    · obtain ⟨x, hx, he⟩ := List.mem_map.1 h
      rw [Prod.mk.injEq] at he
      exact ⟨0, by simp, by rw [← he.2]; simp, x, by simpa using hx, he.1⟩
    · obtain ⟨i, hi, ha, x, hx, hk⟩ := jbO h
      exact ⟨i + 1, by simpa using hi, by omega, x, by simpa using hx, hk⟩
theorem gaA {l : List Ch} {h : Nat} (h0 : (wj l h).2 = 0) : zl l ∧ ∃ c ∈ l, (wj l h).1 = c.id ∧ ∃ x ∈ c.holds, x.id = h := by
  unfold wj at h0 ⊢
  split at h0
  · rename_i hok
    rw [if_pos hok]
    refine ⟨hok, ?_⟩
    split at h0
    · rename_i a ha
      have hnd : ((hm 0 l).map (·.1)).Nodup := by rw [yI]; exact hok.2.2.2.1
      obtain ⟨i, hi, rfl, x, hx, hk⟩ := jbO ((uL hnd).1 ha)
      refine ⟨l.getD i default, xb.2 ⟨i, hi, rfl⟩, ?_, x, hx, hk⟩
      simp only [ha]
      rw [show ((0 : Int) + (i : Int)).toNat = i by omega]
    · cases h0
  · cases h0
theorem zah {c : Ch} {h : Nat} {paid : Bool} {x : Hd} (hok : gj c) (hx : x ∈ c.holds) (hk : x.id = h) : ∃ q, q = Srt.pos Hd.key ltN c.holds h ∧ q < c.holds.length ∧ c.holds.getD q default = x ∧
    bw c h paid = (⟨c.id, if paid = true then c.loc else c.loc + x.n, if paid = true then c.rem + x.n else c.rem, c.res, c.most, c.holds.eraseIdx q, c.op⟩, x.n, 0) := by
  have hu : Srt.Up Hd.key ltN c.holds := (Srt.bf (lt := ltN) Srt.ue).1 hok.2.2.2.2.2.1
  have ht : Srt.thr Hd.key ltN c.holds h = true := (Srt.xN Srt.ue hu).2 ⟨x, hx, hk⟩
  obtain ⟨h1, h2⟩ := zT ht
  have h3 := Srt.qaC (key := Hd.key) (lt := ltN) Srt.ue hu (xb.2 ⟨_, h1, rfl⟩) hx (h2.trans hk.symm)
  refine ⟨_, rfl, h1, h3, ?_⟩
  rw [bw, if_pos hok, if_pos ht, h3]
theorem gaC {l : List Ch} {c : Ch} (hok : zl l) (hc : c ∈ l) : ∃ p : Nat, p = Srt.pos Ch.id ltN l c.id ∧ p < l.length ∧ l.getD p default = c ∧ jf l c.id = ((p : Int), 0) := by
  have hu : Srt.Up Ch.id ltN l := (Srt.bf (lt := ltN) Srt.ue).1 hok.2.2.1
  have ht : Srt.thr Ch.id ltN l c.id = true := (Srt.xN Srt.ue hu).2 ⟨c, hc, rfl⟩
  obtain ⟨h1, h2⟩ := zT ht
  have h3 := Srt.qaC (key := Ch.id) (lt := ltN) Srt.ue hu (xb.2 ⟨_, h1, rfl⟩) hc h2
  exact ⟨_, rfl, h1, h3, by rw [jf, if_pos hok, if_pos ht]⟩
def vj (l : List Ch) (h : Nat) (paid : Bool) : List Ch × Nat × Int :=
  if (wj l h).2 = 0 then (if (jf l (wj l h).1).2 = 0 then (if (bw (l.getD (jf l (wj l h).1).1.toNat default) h paid).2.2 = 0 then (l.set (jf l (wj l h).1).1.toNat (bw (l.getD (jf l (wj l h).1).1.toNat default) h paid).1, (bw (l.getD (jf l (wj l h).1).1.toNat default) h paid).2.1, 0) else ([], 0, (bw (l.getD (jf l (wj l h).1).1.toNat default) h paid).2.2)) else ([], 0, (jf l (wj l h).1).2)) else ([], 0, (wj l h).2)
@[go_sem] def qaX (l : List Ch) (h : Nat) (paid : Bool) : D := .tup [.sl (chs (vj l h paid).1), .int .u64 ((vj l h paid).2.1 : Int), .int .i64 (vj l h paid).2.2]
@[go_sem] abbrev zcA : FuncId := 50
@[go_sem] def bbz : Tab := [(92, jB), (29, gu), (95, xS), (96, vF), (77, uC)]
theorem qx : za Tryz.prog bbz := (za.cons uO (za.cons jt (za.cons yat (za.cons k9 (za.cons yz za.nil)))))
set_option maxRecDepth 8000 in
set_option maxHeartbeats 1000000 in
theorem za4 (l : List Ch) (h : Nat) (paid : Bool)  : yb Tryz.prog 50 [.sl (chs l), .c (.int .u64 (h : Int)), .c (.bool paid)] (qaX l h paid) := by
  refine .of (wdl qx (Nat.le_of_ble_eq_true rfl) ?_)
  simp -implicitDefEqProofs only [cdA, go_sem, Go.Proofs.Tryz.f50, reduceIte, reduceCtorEq, Nat.reduceEqDiff, Nat.reduceAdd, Nat.reduceLeDiff, Nat.reduceSub, Nat.reduceMul, Nat.reduceLT, Nat.reduceShiftRight, Nat.reduceMod, Int.reduceLE, Int.reduceLT, Int.reduceToNat, List.cons.injEq, cdB]
  refine ⟨fun hw => ?_, fun hw => by rw [vj, if_neg hw]; exact ⟨rfl, rfl, rfl⟩⟩
  rw [vj, if_pos hw]
  obtain ⟨hok, c, hc, hwc, x, hx, hk⟩ := gaA hw
  rw [hwc]
  obtain ⟨p, hpp, hp, hpc, ep⟩ := gaC hok hc
  have hcc := hok.2.1 c hc
  rw [ep]
  dsimp only
  rw [if_pos rfl, Int.toNat_natCast, hpc]
  have e2 : (bw c h paid).2.2 = 0 := by
    obtain ⟨q, _, _, _, e⟩ := zah (paid := paid) hcc hx hk
    rw [e]
  rw [if_pos e2]
  refine xck qx (Nat.le_of_ble_eq_true rfl) ?_
  simp -implicitDefEqProofs only [cdA, go_sem, Go.Proofs.Tryz.f90, reduceIte, reduceCtorEq, Nat.reduceEqDiff, Nat.reduceAdd, Nat.reduceLeDiff, Nat.reduceSub, Nat.reduceMul, Nat.reduceLT, Nat.reduceShiftRight, Nat.reduceMod, Int.reduceLE, Int.reduceLT, Int.reduceToNat, List.cons.injEq, cdB]
  rw [ep]
  refine ⟨fun _ => ⟨⟨by omega, by omega⟩, ?_⟩, fun h => absurd rfl h⟩
  refine udj qx (Nat.le_of_ble_eq_true rfl) ?_
  simp -implicitDefEqProofs only [cdA, go_sem, Go.Proofs.Tryz.f94, reduceIte, reduceCtorEq, Nat.reduceEqDiff, Nat.reduceAdd, Nat.reduceLeDiff, Nat.reduceSub, Nat.reduceMul, Nat.reduceLT, Nat.reduceShiftRight, Nat.reduceMod, Int.reduceLE, Int.reduceLT, Int.reduceToNat, List.cons.injEq, cdB]
  rw [hpc]
  have h32 : l.length ≤ 1000000 ∧ ∀ c ∈ l, c.holds.length ≤ 1000000 := ⟨by have := hok.1; omega, fun c hc => by have := (hok.2.1 c hc).2.2.1; omega⟩
  refine ⟨fun hpd => ?_, fun hpd => ?_⟩
  · subst hpd
    refine ⟨fun _ => ⟨h32, by omega, hp, ?_⟩, fun h => absurd e2 h⟩
    refine uc.run bbg qx qa (by kernel_rfl) (by kernel_rfl) ?_
    simp -implicitDefEqProofs only [cdA, go_sem, reduceIte, reduceCtorEq, Nat.reduceEqDiff, Nat.reduceAdd, Nat.reduceLeDiff, Nat.reduceSub, Nat.reduceMul, Nat.reduceLT, Nat.reduceShiftRight, Nat.reduceMod, Int.reduceLE, Int.reduceLT, Int.reduceToNat, List.cons.injEq, cdB]
    exact ⟨_, _, _, rfl⟩
  · subst hpd
    refine ⟨fun _ => ⟨h32, by omega, hp, ?_⟩, fun h => absurd e2 h⟩
    refine uc.run bbg qx qa (by kernel_rfl) (by kernel_rfl) ?_
    simp -implicitDefEqProofs only [cdA, go_sem, reduceIte, reduceCtorEq, Nat.reduceEqDiff, Nat.reduceAdd, Nat.reduceLeDiff, Nat.reduceSub, Nat.reduceMul, Nat.reduceLT, Nat.reduceShiftRight, Nat.reduceMod, Int.reduceLE, Int.reduceLT, Int.reduceToNat, List.cons.injEq, cdB]
    exact ⟨_, _, _, rfl⟩
def wR : List D → Option (Prop × D × Fr)
  | [.c (.sl z338), .c (.int .u64 z339), .c (.bool z340)] => some (z338 = chs (ji z338) ∧ z339 = (z339.toNat : Int), qaX (ji z338) z339.toNat z340, [])
  | _ => none
attribute [go_sem] wR
theorem kar : ∀ rs p r fr, wR rs = some (p, r, fr) → p → qg Tryz.prog 50 rs r fr := by
  intro rs p r fr h hp
  unfold wR at h
  split at h <;> cases h
  obtain ⟨hc0, hc1⟩ := hp
  rename_i z338 z339 z340
  obtain ⟨z338, rfl⟩ : ∃ m, z338 = chs m := ⟨_, hc0⟩
  obtain ⟨z339, rfl⟩ : ∃ m : Nat, z339 = m := ⟨_, hc1⟩
  simp only [Int.toNat_natCast, jb]
  exact za4 z338 z339 z340
end Dm
namespace Dm
open Go Go.Proofs Go.IntWalk
theorem gax {l : List Py} {id : Nat} {paid : Bool} (h : (bq l id paid).2 = 0) : (bq l id paid).1.length ≤ 256 := by
  unfold bq at h ⊢
  split at h
  · rename_i h1
    split at h
    · rename_i h2
      split at h
      · rename_i h3
        rw [if_pos h1, if_pos h2, if_pos h3, List.length_set]; exact h1.1
      · cases h
    · cases h
  · cases h
theorem ubj {c : Ch} {h : Nat} {paid : Bool} {x : Hd} (hok : gj c) (hx : x ∈ c.holds) (hk : x.id = h) : gj (bw c h paid).1 ∧ uI (bw c h paid).1 = uI c ∧ (bw c h paid).1.id = c.id ∧ c.holds.Perm (x :: (bw c h paid).1.holds) := by
  obtain ⟨q, hq, hl, hg, e⟩ := zah (paid := paid) hok hx hk
  have hpm := bZ hl hg
  obtain ⟨o1, o2, o3, o4, o5, o6, o7, o8, o9, o10⟩ := hok
  have hok : gj c := ⟨o1, o2, o3, o4, o5, o6, o7, o8, o9, o10⟩
  have hh : held c.holds = x.n + held (c.holds.eraseIdx q) := by
    unfold held
    rw [(hpm.map Hd.n).sum_nat, List.map_cons, List.sum_cons]
  have hop : ¬ c.op = false := fun h => by rw [o4 h] at hx; cases hx
  rw [e]
  dsimp only
  have hok2 : gj (⟨c.id, if paid = true then c.loc else c.loc + x.n, if paid = true then c.rem + x.n else c.rem, c.res, c.most, c.holds.eraseIdx q, c.op⟩ : Ch) := by
    refine ⟨o1, o2, ?_, fun h => absurd h hop, fun y hy => o5 y (List.mem_of_mem_eraseIdx hy), (Srt.bf (lt := ltN) Srt.ue).2 ?_, ?_, ?_, ?_, ?_⟩
    · show (c.holds.eraseIdx q).length ≤ 64
      rw [List.length_eraseIdx_of_lt hl]; omega
    · exact List.Pairwise.sublist (List.eraseIdx_sublist _ _) ((Srt.bf (lt := ltN) Srt.ue).1 o6)
    · show held (c.holds.eraseIdx q) ≤ c.most; omega
    · show (if paid = true then c.loc else c.loc + x.n) ≤ MM
      unfold MM at *; split <;> omega
    · show (if paid = true then c.rem + x.n else c.rem) ≤ MM
      unfold MM at *; split <;> omega
    · show held (c.holds.eraseIdx q) + (if paid = true then c.loc else c.loc + x.n) + (if paid = true then c.rem + x.n else c.rem) ≤ MM
      unfold MM at *; split <;> omega
  refine ⟨hok2, ?_, rfl, hpm⟩
  unfold uI vf
  rw [if_pos hok2, if_pos hok]
  show held (c.holds.eraseIdx q) + (if paid = true then c.loc else c.loc + x.n) + (if paid = true then c.rem + x.n else c.rem) = held c.holds + c.loc + c.rem
  split <;> omega
theorem b9 {l : List Ch} {h : Nat} (paid : Bool) (h0 : (wj l h).2 = 0) : zl l ∧ ∃ c ∈ l, ∃ x ∈ c.holds, x.id = h ∧ ∃ p, p < l.length ∧ p = Srt.pos Ch.id ltN l c.id ∧ l.getD p default = c ∧ gj c ∧ vj l h paid = (l.set p (bw c h paid).1, x.n, 0) := by
  obtain ⟨hok, c, hc, hw, x, hx, hk⟩ := gaA h0
  obtain ⟨p, hp, hpl, hpc, e⟩ := gaC hok hc
  have hcc := hok.2.1 c hc
  obtain ⟨q, _, _, _, e2⟩ := zah (paid := paid) hcc hx hk
  refine ⟨hok, c, hc, x, hx, hk, p, hpl, hp, hpc, hcc, ?_⟩
  have e3 : (jf l c.id).1.toNat = p := by rw [e]; rfl
  rw [vj, if_pos h0, hw, if_pos (by rw [e]), e3, hpc, if_pos (by rw [e2])]
  rw [e2]
theorem uaD {l : List Ch} {h : Nat} {paid : Bool} : (vj l h paid).2.2 = 0 ↔ (wj l h).2 = 0 := by
  refine ⟨fun h0 => Decidable.byContradiction fun hn => ?_, fun h0 => ?_⟩
  · rw [vj, if_neg hn] at h0; exact hn h0
  · obtain ⟨_, c, _, x, _, _, p, _, _, _, _, e⟩ := b9 paid h0
    rw [e]
theorem yak {l : List Ch} {p : Nat} {d : Ch} (hp : p < l.length) : (l.set p d).set p (l.getD p default) = l := by
  rw [List.set_set, ve hp]; exact List.set_getElem_self hp
theorem wae {l : List Ch} {h : Nat} {paid : Bool} (h0 : (vj l h paid).2.2 = 0) : zl l ∧ zl (vj l h paid).1 ∧ qQ (vj l h paid).1 = qQ l ∧ ∃ c ∈ l, ∃ x ∈ c.holds, x.id = h ∧ (vj l h paid).2.1 = x.n ∧ (hlL l).Perm ((c.id, h, x.n) :: hlL (vj l h paid).1) ∧ (yM l).Perm (h :: yM (vj l h paid).1) := by
  obtain ⟨hok, c, hc, x, hx, hk, p, hp, hpp, hpc, hcc, e⟩ := b9 paid (uaD.1 h0)
  obtain ⟨c1, c2, c3, c4⟩ := ubj (paid := paid) hcc hx hk
  have hu : Srt.Up Ch.id ltN l := (Srt.bf (lt := ltN) Srt.ue).1 hok.2.2.1
  rw [e]
  dsimp only
  generalize (bw c h paid).1 = d at *
  have hpl : p < (l.set p d).length := by rw [List.length_set]; exact hp
  have hgd : (l.set p d).getD p default = d := by rw [Srt.uu hp, if_pos rfl]
  have hss := yak (d := d) hp
  rw [hpc] at hss
  have hh := gaY (l := l.set p d) (p := p) (d := c) (x := x) hpl (by rw [hgd]; exact c3.symm) (by rw [hgd]; exact c4)
  have hi := zaA (l := l.set p d) (p := p) (d := c) (x := x) hpl (by rw [hgd]; exact c4)
  rw [hss] at hh hi
  rw [hk] at hh hi
  have ht := zaa (l := l) (p := p) (d := d) hp (by rw [hpc]; exact c2)
  refine ⟨hok, ⟨by rw [List.length_set]; exact hok.1, fun y hy => ?_, ?_, ?_, by rw [ht]; exact hok.2.2.2.2⟩, ht, c, hc, x, hx, hk, rfl, hh, hi⟩
  · rcases List.mem_or_eq_of_mem_set hy with h | rfl
    · exact hok.2.1 y h
    · exact c1
  · exact (Srt.bf (lt := ltN) Srt.ue).2 (Srt.u6 hu hp (by rw [hpc]; exact c3))
  · have := hok.2.2.2.1
    rw [hi.nodup_iff, List.nodup_cons] at this
    exact this.2
theorem uag {l : List Ch} {h : Nat} {paid : Bool} (h0 : ((vj l h paid).1, (vj l h paid).2.2).2 = 0) : zl (vj l h paid).1 := (wae h0).2.1
end Dm
namespace Dm
open Go Go.Proofs Go.IntWalk
theorem xbe {l : List Ch} {a b n : Nat} (h : (a, b, n) ∈ hlL l) : b ∈ yM l := by
  obtain ⟨c, hc, hm⟩ := List.mem_flatMap.1 h
  obtain ⟨x, hx, he⟩ := List.mem_map.1 hm
  simp only [Prod.mk.injEq] at he
  exact List.mem_flatMap.2 ⟨c, hc, List.mem_map.2 ⟨x, hx, he.2.1⟩⟩
theorem jbz {l : List Py} {id : Nat} {paid : Bool} (h : (bq l id paid).2 = 0) : zB l ∧ ∃ r q, r < l.length ∧ l.getD r default = q ∧ q.id = id ∧ q.state = 1 ∧ r = Srt.pos Py.id ltN l id ∧ (bq l id paid).1 = l.set r { q with state := if paid = true then 2 else 3 } := by
  unfold bq at h ⊢
  split at h
  · rename_i h1
    split at h
    · rename_i h2
      split at h
      · rename_i h3
        obtain ⟨g1, g2⟩ := zT h2
        rw [if_pos h1, if_pos h2, if_pos h3]
        exact ⟨h1, _, _, g1, rfl, g2, h3, rfl, rfl⟩
      · cases h
    · cases h
  · cases h
theorem waL {l : List Py} {p : Nat} (hp : p < l.length) : l = l.take p ++ l.getD p default :: l.drop (p + 1) := by
  rw [ve hp, List.getElem_cons_drop, List.take_append_drop]
theorem gam {a b : List Py} {q : Py} : wu (a ++ q :: b) = wu a ++ (if q.state = 1 then q :: wu b else wu b) := by
  unfold wu
  rw [List.filter_append]
  congr 1
  split
  · rename_i h; rw [List.filter_cons_of_pos (by simpa using h)]
  · rename_i h; rw [List.filter_cons_of_neg (by simpa using h)]
theorem jb2 {l : List Py} {r : Nat} {q : Py} (hok : zB l) (hr : r < l.length) (hid : q.id = (l.getD r default).id) (hq : gG q) : zB (l.set r q) := by
  refine ⟨by rw [List.length_set]; exact hok.1, fun x hx => ?_, (Srt.bf (lt := ltN) Srt.ue).2 (Srt.u6 (qae hok) hr hid)⟩
  rcases List.mem_or_eq_of_mem_set hx with h | rfl
  · exact hok.2.1 x h
  · exact hq
theorem yaC {l : List Py} {id : Nat} {paid : Bool} (h : (bq l id paid).2 = 0) : zB l ∧ zB (bq l id paid).1 ∧ (bq l id paid).1.map Py.id = l.map Py.id ∧ ∃ q ∈ l, q.id = id ∧ q.state = 1 ∧ (wu l).Perm (q :: wu (bq l id paid).1) ∧ { q with state := if paid = true then 2 else 3 } ∈ (bq l id paid).1 := by
  obtain ⟨hok, r, q, hr, hq, hid, hs, -, e⟩ := jbz h
  have hmem : q ∈ l := xb.2 ⟨r, hr, hq⟩
  have hq1 := hok.2.1 q hmem
  rw [e]
  refine ⟨hok, jb2 hok hr (by rw [hq]) ⟨hq1.1, ?_⟩, ?_, q, hmem, hid, hs, ?_, ?_⟩
  · show 1 ≤ (if paid = true then (2 : Int) else 3) ∧ (if paid = true then (2 : Int) else 3) ≤ 3
    split <;> decide
  · rw [List.map_set]
    show (l.map Py.id).set r q.id = _
    have : (l.map Py.id)[r]'(by simpa using hr) = q.id := by rw [List.getElem_map, ← ve hr, hq]
    rw [← this]; exact List.set_getElem_self _
  · have e1 := waL hr
    rw [hq] at e1
    rw [List.set_eq_take_append_cons_drop, if_pos hr]
    conv => lhs; rw [e1]
    rw [gam, gam, if_pos hs, if_neg (by show ¬ (if paid = true then (2 : Int) else 3) = 1; split <;> decide)]
    exact List.perm_middle
  · exact List.mem_set hr _
theorem k4 {l : List Py} (h : zB l) : ((wu l).map Py.id).Nodup := by
  have h1 : Srt.Up Py.id ltN (wu l) := List.Pairwise.sublist List.filter_sublist (qae h)
  unfold Srt.Up at h1
  rw [List.Nodup, List.pairwise_map]
  exact h1.imp fun hlt he => by simp only [ltN] at hlt; omega
theorem yba {l : List Py} {q : Py} : q ∈ wu l ↔ q ∈ l ∧ q.state = 1 := by
  unfold wu; rw [List.mem_filter, decide_eq_true_eq]
theorem wbq {p : List Py} {c : List Ch} {id : Nat} {paid : Bool} (ha : zY p c = (true, 0)) (hok : zl c) (hp : (bq p id paid).2 = 0) : (vj c id paid).2.2 = 0 ∧ zY (bq p id paid).1 (vj c id paid).1 = (true, 0) ∧
    ∃ q ∈ p, q.id = id ∧ q.state = 1 ∧ (vj c id paid).2.1 = q.n ∧ (q.chan, id, q.n) ∈ hlL c := by
  obtain ⟨a1, a2, a3, a4, a5⟩ := bh.1 ha
  obtain ⟨-, hok', -, q, hq, hid, hs, hpm, -⟩ := yaC hp
  have hqc := a4 q (yba.2 ⟨hq, hs⟩)
  rw [hid] at hqc
  have hl0 : (vj c id paid).2.2 = 0 := uaD.2 ((jaY hok).2 (xbe hqc))
  obtain ⟨-, l1, -, c0, -, x, -, hx, hn, hh, hi⟩ := wae hl0
  have hnin : id ∉ yM (vj c id paid).1 := by
    have := hok.2.2.2.1
    rw [hi.nodup_iff, List.nodup_cons] at this
    exact this.1
  have heq : (q.chan, id, q.n) = (c0.id, id, x.n) := by
    rcases List.mem_cons.1 (hh.mem_iff.1 hqc) with h | h
    · exact h
    · exact absurd (xbe h) hnin
  simp only [Prod.mk.injEq] at heq
  refine ⟨hl0, bh.2 ⟨hok', l1.1, vQ l1, fun r hr => ?_, ?_⟩, q, hq, hid, hs, by rw [hn]; exact heq.2.2.symm, hqc⟩
  · have h1 : r ∈ wu p := hpm.mem_iff.2 (.tail _ hr)
    have h2 := a4 r h1
    have hne : r.id ≠ id := fun he => by
      have hnd := k4 a1
      rw [(hpm.map Py.id).nodup_iff, List.map_cons, List.nodup_cons] at hnd
      exact hnd.1 (List.mem_map.2 ⟨r, hr, by rw [he, hid]⟩)
    rcases List.mem_cons.1 (hh.mem_iff.1 h2) with h | h
    · simp only [Prod.mk.injEq] at h
      exact absurd h.2.1 hne
    · exact h
  · have h1 := hh.length_eq
    have h2 := hpm.length_eq
    rw [List.length_cons] at h1 h2
    omega
end Dm
namespace Dm
open Go Go.Proofs Go.IntWalk
def ubc (v : Wl) (c : Ch) : List Ch × Int := bk v.c c
def qbx (v : Wl) (c : Ch) : Fd × Nat × Int := xu v.f 6 c.id c.loc
def jaT (v : Wl) (c : Ch) : Int := if ¬ okW v then 1 else if (ubc v c).2 ≠ 0 then (ubc v c).2 else (qbx v c).2.2
def yw (v : Wl) (c : Ch) : Wl × Int := if jaT v c = 0 then (⟨(ubc v c).1, v.w, v.i, v.p, (qbx v c).1, v.next, v.tick⟩, 0) else (xy, jaT v c)
theorem qak {l : List Ch} {c : Ch} (h : (bk l c).2 = 0) : zl (bk l c).1 := by
  unfold bk at h ⊢
  split at h
  · cases h
  split at h
  · cases h
  split at h
  · cases h
  split at h
  · rename_i h1 h2 h3 h4
    rw [if_neg h1, if_neg h2, if_neg h3, if_pos h4]; exact h4
  · cases h
@[go_sem] def vaR (v : Wl) (c : Ch) : D := .tup [.agg [.sl (chs (yw v c).1.c), .sl (wts (yw v c).1.w), .sl (ivs (yw v c).1.i), .sl (pys (yw v c).1.p), .int .u64 (yw v c).1.f.next, .sl (evs (yw v c).1.f.l), .int .u64 (yw v c).1.next, .int .u64 (yw v c).1.tick], .int .i64 (yw v c).2]
@[go_sem] abbrev kcB : FuncId := 14
@[go_sem] def kbq : Tab := [(9, jh), (36, qS), (80, uv), (81, vq)]
theorem ye : za Tryz.prog kbq := (za.cons xg (za.cons vau (za.cons gn (za.cons kj za.nil))))
set_option maxRecDepth 8000 in
set_option maxHeartbeats 1000000 in
theorem ya1 (v : Wl) (c : Ch) (h : v.f.next ≤ 18446744073709551615) : yb Tryz.prog 14 [.agg [.sl (chs v.c), .sl (wts v.w), .sl (ivs v.i), .sl (pys v.p), .c (.int .u64 (v.f.next : Int)), .sl (evs v.f.l), .c (.int .u64 (v.next : Int)), .c (.int .u64 (v.tick : Int))], .agg [.c (.int .u64 (c.id : Int)), .c (.int .u64 (c.loc : Int)), .c (.int .u64 (c.rem : Int)), .c (.int .u64 (c.res : Int)), .c (.int .u64 (c.most : Int)), .sl (hds c.holds), .c (.bool c.op)]] (vaR v c) := by
  refine .of (qdi ye (Nat.le_of_ble_eq_true rfl) ?_)
  simp -implicitDefEqProofs only [cdA, go_sem, Go.Proofs.Tryz.f14, reduceIte, reduceCtorEq, Nat.reduceEqDiff, Nat.reduceAdd, Nat.reduceLeDiff, Nat.reduceSub, Nat.reduceMul, Nat.reduceLT, Nat.reduceShiftRight, Nat.reduceMod, Int.reduceLE, Int.reduceLT, Int.reduceToNat, List.cons.injEq, cdB]
  refine xa0 ye (Nat.le_of_ble_eq_true rfl) ?_
  simp -implicitDefEqProofs only [cdA, go_sem, Go.Proofs.Tryz.f33, reduceIte, reduceCtorEq, Nat.reduceEqDiff, Nat.reduceAdd, Nat.reduceLeDiff, Nat.reduceSub, Nat.reduceMul, Nat.reduceLT, Nat.reduceShiftRight, Nat.reduceMod, Int.reduceLE, Int.reduceLT, Int.reduceToNat, List.cons.injEq, cdB]
  refine uc.run wH ye qa (by kernel_rfl) (by kernel_rfl) ?_
  simp -implicitDefEqProofs only [cdA, go_sem, reduceIte, reduceCtorEq, Nat.reduceEqDiff, Nat.reduceAdd, Nat.reduceLeDiff, Nat.reduceSub, Nat.reduceMul, Nat.reduceLT, Nat.reduceShiftRight, Nat.reduceMod, Int.reduceLE, Int.reduceLT, Int.reduceToNat, List.cons.injEq, cdB]
  refine ⟨h, ?_⟩
  have hbad : ∀ e : Int, jaT v c = e → ¬ e = 0 → (chs (yw v c).1.c = [] ∧ wts (yw v c).1.w = [] ∧ ivs (yw v c).1.i = [] ∧ pys (yw v c).1.p = [] ∧ 0 = ((yw v c).1.f.next : Int) ∧ evs (yw v c).1.f.l = [] ∧ 0 = ((yw v c).1.next : Int) ∧ 0 = ((yw v c).1.tick : Int)) ∧ e = (yw v c).2 := fun e h1 h2 => by
    have : yw v c = (xy, e) := by rw [yw, if_neg (by rw [h1]; exact h2), h1]
    rw [this]; exact ⟨⟨rfl, rfl, rfl, rfl, rfl, rfl, rfl, rfl⟩, rfl⟩
  by_cases hok : okW v
  rotate_left 1
  · have hck : (bt v = 0) = False := eq_false fun h => hok (ql.1 h)
    have he : jaT v c = 1 := by rw [jaT, if_pos hok]
    have hc1 : bt v = 1 := by rw [bt, if_neg hok]
    skip
    refine zZ ye (Nat.le_of_ble_eq_true rfl) ?_
    simp -implicitDefEqProofs only [cdA, go_sem, Go.Proofs.Tryz.f34, hck, cdN, reduceIte, reduceCtorEq, Nat.reduceEqDiff, Nat.reduceAdd, Nat.reduceLeDiff, Nat.reduceSub, Nat.reduceMul, Nat.reduceLT, Nat.reduceShiftRight, Nat.reduceMod, Int.reduceLE, Int.reduceLT, Int.reduceToNat, List.cons.injEq, cdB]
    refine bG ye (Nat.le_of_ble_eq_true rfl) ?_
    simp -implicitDefEqProofs only [cdA, go_sem, Go.Proofs.Tryz.f37, reduceIte, reduceCtorEq, Nat.reduceEqDiff, Nat.reduceAdd, Nat.reduceLeDiff, Nat.reduceSub, Nat.reduceMul, Nat.reduceLT, Nat.reduceShiftRight, Nat.reduceMod, Int.reduceLE, Int.reduceLT, Int.reduceToNat, List.cons.injEq, cdB]
    refine yH ye (Nat.le_of_ble_eq_true rfl) ?_
    simp -implicitDefEqProofs only [cdA, go_sem, Go.Proofs.Tryz.f78, hck, cdN, reduceIte, reduceCtorEq, Nat.reduceEqDiff, Nat.reduceAdd, Nat.reduceLeDiff, Nat.reduceSub, Nat.reduceMul, Nat.reduceLT, Nat.reduceShiftRight, Nat.reduceMod, Int.reduceLE, Int.reduceLT, Int.reduceToNat, List.cons.injEq, cdB]
    refine yu ye (Nat.le_of_ble_eq_true rfl) ?_
    simp -implicitDefEqProofs only [cdA, go_sem, Go.Proofs.Tryz.f38, hck, cdN, reduceIte, reduceCtorEq, Nat.reduceEqDiff, Nat.reduceAdd, Nat.reduceLeDiff, Nat.reduceSub, Nat.reduceMul, Nat.reduceLT, Nat.reduceShiftRight, Nat.reduceMod, Int.reduceLE, Int.reduceLT, Int.reduceToNat, List.cons.injEq, cdB]
    refine uc.run kf ye qa (by kernel_rfl) (by kernel_rfl) ?_
    simp -implicitDefEqProofs only [cdA, go_sem, hck, cdN, reduceIte, reduceCtorEq, Nat.reduceEqDiff, Nat.reduceAdd, Nat.reduceLeDiff, Nat.reduceSub, Nat.reduceMul, Nat.reduceLT, Nat.reduceShiftRight, Nat.reduceMod, Int.reduceLE, Int.reduceLT, Int.reduceToNat, List.cons.injEq, cdB]
    exact hbad _ (he.trans hc1.symm) (by rw [hc1]; decide)
  have hck : (bt v = 0) = True := eq_true (ql.2 hok)
  refine zZ ye (Nat.le_of_ble_eq_true rfl) ?_
  simp -implicitDefEqProofs only [cdA, go_sem, Go.Proofs.Tryz.f34, hck, cdN, reduceIte, reduceCtorEq, Nat.reduceEqDiff, Nat.reduceAdd, Nat.reduceLeDiff, Nat.reduceSub, Nat.reduceMul, Nat.reduceLT, Nat.reduceShiftRight, Nat.reduceMod, Int.reduceLE, Int.reduceLT, Int.reduceToNat, List.cons.injEq, cdB]
  refine udh ye (Nat.le_of_ble_eq_true rfl) ?_
  simp -implicitDefEqProofs only [cdA, go_sem, Go.Proofs.Tryz.f35, reduceIte, reduceCtorEq, Nat.reduceEqDiff, Nat.reduceAdd, Nat.reduceLeDiff, Nat.reduceSub, Nat.reduceMul, Nat.reduceLT, Nat.reduceShiftRight, Nat.reduceMod, Int.reduceLE, Int.reduceLT, Int.reduceToNat, List.cons.injEq, cdB]
  have eC : bk v.c c = ubc v c := rfl
  rw [eC]
  refine ⟨fun hst => ?_, fun hst => ?_⟩
  rotate_left 1
  · skip
    refine bG ye (Nat.le_of_ble_eq_true rfl) ?_
    simp -implicitDefEqProofs only [cdA, go_sem, Go.Proofs.Tryz.f37, reduceIte, reduceCtorEq, Nat.reduceEqDiff, Nat.reduceAdd, Nat.reduceLeDiff, Nat.reduceSub, Nat.reduceMul, Nat.reduceLT, Nat.reduceShiftRight, Nat.reduceMod, Int.reduceLE, Int.reduceLT, Int.reduceToNat, List.cons.injEq, cdB]
    refine yH ye (Nat.le_of_ble_eq_true rfl) ?_
    simp -implicitDefEqProofs only [cdA, go_sem, Go.Proofs.Tryz.f78, hst, cdN, reduceIte, reduceCtorEq, Nat.reduceEqDiff, Nat.reduceAdd, Nat.reduceLeDiff, Nat.reduceSub, Nat.reduceMul, Nat.reduceLT, Nat.reduceShiftRight, Nat.reduceMod, Int.reduceLE, Int.reduceLT, Int.reduceToNat, List.cons.injEq, cdB]
    refine yu ye (Nat.le_of_ble_eq_true rfl) ?_
    simp -implicitDefEqProofs only [cdA, go_sem, Go.Proofs.Tryz.f38, hst, cdN, reduceIte, reduceCtorEq, Nat.reduceEqDiff, Nat.reduceAdd, Nat.reduceLeDiff, Nat.reduceSub, Nat.reduceMul, Nat.reduceLT, Nat.reduceShiftRight, Nat.reduceMod, Int.reduceLE, Int.reduceLT, Int.reduceToNat, List.cons.injEq, cdB]
    refine uc.run kf ye qa (by kernel_rfl) (by kernel_rfl) ?_
    simp -implicitDefEqProofs only [cdA, go_sem, hst, cdN, reduceIte, reduceCtorEq, Nat.reduceEqDiff, Nat.reduceAdd, Nat.reduceLeDiff, Nat.reduceSub, Nat.reduceMul, Nat.reduceLT, Nat.reduceShiftRight, Nat.reduceMod, Int.reduceLE, Int.reduceLT, Int.reduceToNat, List.cons.injEq, cdB]
    exact hbad _ (by rw [jaT, if_neg (fun h => h hok), if_pos hst]) hst
  refine bG ye (Nat.le_of_ble_eq_true rfl) ?_
  simp -implicitDefEqProofs only [cdA, go_sem, Go.Proofs.Tryz.f37, reduceIte, reduceCtorEq, Nat.reduceEqDiff, Nat.reduceAdd, Nat.reduceLeDiff, Nat.reduceSub, Nat.reduceMul, Nat.reduceLT, Nat.reduceShiftRight, Nat.reduceMod, Int.reduceLE, Int.reduceLT, Int.reduceToNat, List.cons.injEq, cdB]
  refine yH ye (Nat.le_of_ble_eq_true rfl) ?_
  simp -implicitDefEqProofs only [cdA, go_sem, Go.Proofs.Tryz.f78, hck, cdN, reduceIte, reduceCtorEq, Nat.reduceEqDiff, Nat.reduceAdd, Nat.reduceLeDiff, Nat.reduceSub, Nat.reduceMul, Nat.reduceLT, Nat.reduceShiftRight, Nat.reduceMod, Int.reduceLE, Int.reduceLT, Int.reduceToNat, List.cons.injEq, cdB]
  refine wbf ye (Nat.le_of_ble_eq_true rfl) ?_
  simp -implicitDefEqProofs only [cdA, go_sem, Go.Proofs.Tryz.f79, reduceIte, reduceCtorEq, Nat.reduceEqDiff, Nat.reduceAdd, Nat.reduceLeDiff, Nat.reduceSub, Nat.reduceMul, Nat.reduceLT, Nat.reduceShiftRight, Nat.reduceMod, Int.reduceLE, Int.reduceLT, Int.reduceToNat, List.cons.injEq, cdB]
  have eF : xu v.f 6 c.id c.loc = qbx v c := rfl
  rw [eF]
  refine ⟨h, fun hfd => ?_, fun hfd => ?_⟩
  rotate_left 1
  · skip
    refine yu ye (Nat.le_of_ble_eq_true rfl) ?_
    simp -implicitDefEqProofs only [cdA, go_sem, Go.Proofs.Tryz.f38, hfd, cdN, reduceIte, reduceCtorEq, Nat.reduceEqDiff, Nat.reduceAdd, Nat.reduceLeDiff, Nat.reduceSub, Nat.reduceMul, Nat.reduceLT, Nat.reduceShiftRight, Nat.reduceMod, Int.reduceLE, Int.reduceLT, Int.reduceToNat, List.cons.injEq, cdB]
    refine uc.run kf ye qa (by kernel_rfl) (by kernel_rfl) ?_
    simp -implicitDefEqProofs only [cdA, go_sem, hfd, cdN, reduceIte, reduceCtorEq, Nat.reduceEqDiff, Nat.reduceAdd, Nat.reduceLeDiff, Nat.reduceSub, Nat.reduceMul, Nat.reduceLT, Nat.reduceShiftRight, Nat.reduceMod, Int.reduceLE, Int.reduceLT, Int.reduceToNat, List.cons.injEq, cdB]
    exact hbad _ (by rw [jaT, if_neg (fun h => h hok), if_neg (fun h => h hst)]) hfd
  have hsm : jx ⟨(ubc v c).1, v.w, v.i, v.p, (qbx v c).1, v.next, v.tick⟩ := by
    have h1 := qak hst
    have h2 := jo hok
    have h4 := yE (f := v.f) (k := 6) (a := c.id) (n := c.loc)
    refine ⟨by have := h1.1; show (ubc v c).1.length ≤ _; unfold ubc; omega, fun d hd => by have := (h1.2.1 d hd).2.2.1; omega, h2.2.2.1, h2.2.2.2.1, h2.2.2.2.2.1, by show (qbx v c).1.l.length ≤ _; unfold qbx; omega⟩
  have hfin : yw v c = (⟨(ubc v c).1, v.w, v.i, v.p, (qbx v c).1, v.next, v.tick⟩, 0) := by
    have : jaT v c = 0 := by rw [jaT, if_neg (fun h => h hok), if_neg (fun h => h hst)]; exact hfd
    rw [yw, if_pos this]
  refine yu ye (Nat.le_of_ble_eq_true rfl) ?_
  simp -implicitDefEqProofs only [cdA, go_sem, Go.Proofs.Tryz.f38, hck, eq_true hsm, cdN, reduceIte, reduceCtorEq, Nat.reduceEqDiff, Nat.reduceAdd, Nat.reduceLeDiff, Nat.reduceSub, Nat.reduceMul, Nat.reduceLT, Nat.reduceShiftRight, Nat.reduceMod, Int.reduceLE, Int.reduceLT, Int.reduceToNat, List.cons.injEq, cdB]
  rw [hfin]
  exact ⟨⟨rfl, rfl, rfl, rfl, rfl, rfl, rfl, rfl⟩, rfl⟩
@[go_sem] def xaW (v : Wl) (c : Ch) : Prop := (v.f.next ≤ 18446744073709551615)
def wJ : List D → Option (Prop × D × Fr)
  | [.agg [.c (.sl z291), .c (.sl z292), .c (.sl z293), .c (.sl z294), .c (.int .u64 z296), .c (.sl z297), .c (.int .u64 z298), .c (.int .u64 z299)], .agg [.c (.int .u64 z301), .c (.int .u64 z302), .c (.int .u64 z303), .c (.int .u64 z304), .c (.int .u64 z305), .c (.sl z306), .c (.bool z307)]] => some (z291 = chs (ji z291) ∧ z292 = wts (xl z292) ∧ z293 = ivs (xm z293) ∧ z294 = pys (vl z294) ∧ z296 = (z296.toNat : Int) ∧ z297 = evs (yo z297) ∧ z298 = (z298.toNat : Int) ∧ z299 = (z299.toNat : Int) ∧ z301 = (z301.toNat : Int) ∧ z302 = (z302.toNat : Int) ∧ z303 = (z303.toNat : Int) ∧ z304 = (z304.toNat : Int) ∧ z305 = (z305.toNat : Int) ∧ z306 = hds (qq z306) ∧ xaW (⟨(ji z291), (xl z292), (xm z293), (vl z294), (⟨z296.toNat, (yo z297)⟩ : Fd), z298.toNat, z299.toNat⟩ : Wl) (⟨z301.toNat, z302.toNat, z303.toNat, z304.toNat, z305.toNat, (qq z306), z307⟩ : Ch), vaR (⟨(ji z291), (xl z292), (xm z293), (vl z294), (⟨z296.toNat, (yo z297)⟩ : Fd), z298.toNat, z299.toNat⟩ : Wl) (⟨z301.toNat, z302.toNat, z303.toNat, z304.toNat, z305.toNat, (qq z306), z307⟩ : Ch), [])
  | _ => none
attribute [go_sem] wJ
theorem kU : ∀ rs p r fr, wJ rs = some (p, r, fr) → p → qg Tryz.prog 14 rs r fr := by
  intro rs p r fr h hp
  unfold wJ at h
  split at h <;> cases h
  obtain ⟨hc0, hc1, hc2, hc3, hc4, hc5, hc6, hc7, hc8, hc9, hc10, hc11, hc12, hc13, hp⟩ := hp
  rename_i z291 z292 z293 z294 z296 z297 z298 z299 z301 z302 z303 z304 z305 z306 z307
  obtain ⟨z291, rfl⟩ : ∃ m, z291 = chs m := ⟨_, hc0⟩
  obtain ⟨z292, rfl⟩ : ∃ m, z292 = wts m := ⟨_, hc1⟩
  obtain ⟨z293, rfl⟩ : ∃ m, z293 = ivs m := ⟨_, hc2⟩
  obtain ⟨z294, rfl⟩ : ∃ m, z294 = pys m := ⟨_, hc3⟩
  obtain ⟨z296, rfl⟩ : ∃ m : Nat, z296 = m := ⟨_, hc4⟩
  obtain ⟨z297, rfl⟩ : ∃ m, z297 = evs m := ⟨_, hc5⟩
  obtain ⟨z298, rfl⟩ : ∃ m : Nat, z298 = m := ⟨_, hc6⟩
  obtain ⟨z299, rfl⟩ : ∃ m : Nat, z299 = m := ⟨_, hc7⟩
  obtain ⟨z301, rfl⟩ : ∃ m : Nat, z301 = m := ⟨_, hc8⟩
  obtain ⟨z302, rfl⟩ : ∃ m : Nat, z302 = m := ⟨_, hc9⟩
  obtain ⟨z303, rfl⟩ : ∃ m : Nat, z303 = m := ⟨_, hc10⟩
  obtain ⟨z304, rfl⟩ : ∃ m : Nat, z304 = m := ⟨_, hc11⟩
  obtain ⟨z305, rfl⟩ : ∃ m : Nat, z305 = m := ⟨_, hc12⟩
  obtain ⟨z306, rfl⟩ : ∃ m, z306 = hds m := ⟨_, hc13⟩
  simp only [Int.toNat_natCast, jb, jc, ze, qc, yc, jd]
  simp only [Int.toNat_natCast, jb, jc, ze, qc, yc, jd, xaW] at hp
  exact ya1 ⟨z291, z292, z293, z294, ⟨z296, z297⟩, z298, z299⟩ ⟨z301, z302, z303, z304, z305, z306, z307⟩ hp
end Dm
