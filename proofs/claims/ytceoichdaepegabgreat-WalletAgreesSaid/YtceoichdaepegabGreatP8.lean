import Derived.Test.YtceoichdaepegabGreatP7

set_option linter.unusedSimpArgs false
set_option linter.unusedVariables false
set_option linter.unusedSectionVars false
namespace Dm
open Go Go.Proofs Go.IntWalk
def jar (v : Wl) (id : Nat) (paid : Bool) : List Py × Int := bq v.p id paid
def vap (v : Wl) (id : Nat) (paid : Bool) : List Ch × Int := ((vj v.c id paid).1, (vj v.c id paid).2.2)
def yaq (v : Wl) (id : Nat) (paid : Bool) : Fd × Nat × Int := xu v.f (if paid = true then 1 else 2) id (vj v.c id paid).2.1
def kY (v : Wl) (id : Nat) (paid : Bool) : Int := if ¬ okW v then 1 else if (jar v id paid).2 ≠ 0 then (jar v id paid).2 else if (vap v id paid).2 ≠ 0 then (vap v id paid).2 else (yaq v id paid).2.2
def jq (v : Wl) (id : Nat) (paid : Bool) : Wl × Int := if kY v id paid = 0 then (⟨(vap v id paid).1, v.w, v.i, (jar v id paid).1, (yaq v id paid).1, v.next, v.tick⟩, 0) else (xy, kY v id paid)
@[go_sem] def ubi (v : Wl) (id : Nat) (paid : Bool) : D := .tup [.agg [.sl (chs (jq v id paid).1.c), .sl (wts (jq v id paid).1.w), .sl (ivs (jq v id paid).1.i), .sl (pys (jq v id paid).1.p), .int .u64 (jq v id paid).1.f.next, .sl (evs (jq v id paid).1.f.l), .int .u64 (jq v id paid).1.next, .int .u64 (jq v id paid).1.tick], .int .i64 (jq v id paid).2]
@[go_sem] abbrev jc0 : FuncId := 17
@[go_sem] def vbU : Tab := [(9, jh), (48, kac), (50, wR), (80, uv), (81, vq)]
theorem ua : za Tryz.prog vbU := (za.cons xg (za.cons baF (za.cons kar (za.cons gn (za.cons kj za.nil)))))
set_option maxRecDepth 8000 in
set_option maxHeartbeats 1000000 in
theorem zby (v : Wl) (id : Nat) (paid : Bool) (h : v.f.next ≤ 18446744073709551615) : yb Tryz.prog 17 [.agg [.sl (chs v.c), .sl (wts v.w), .sl (ivs v.i), .sl (pys v.p), .c (.int .u64 (v.f.next : Int)), .sl (evs v.f.l), .c (.int .u64 (v.next : Int)), .c (.int .u64 (v.tick : Int))], .c (.int .u64 (id : Int)), .c (.bool paid)] (ubi v id paid) := by
  refine .of (udf ua (Nat.le_of_ble_eq_true rfl) ?_)
  simp -implicitDefEqProofs only [cdA, go_sem, Go.Proofs.Tryz.f17, reduceIte, reduceCtorEq, Nat.reduceEqDiff, Nat.reduceAdd, Nat.reduceLeDiff, Nat.reduceSub, Nat.reduceMul, Nat.reduceLT, Nat.reduceShiftRight, Nat.reduceMod, Int.reduceLE, Int.reduceLT, Int.reduceToNat, List.cons.injEq, cdB]
  cases paid
  · skip
    refine xa0 ua (Nat.le_of_ble_eq_true rfl) ?_
    simp -implicitDefEqProofs only [cdA, go_sem, Go.Proofs.Tryz.f33, reduceIte, reduceCtorEq, Nat.reduceEqDiff, Nat.reduceAdd, Nat.reduceLeDiff, Nat.reduceSub, Nat.reduceMul, Nat.reduceLT, Nat.reduceShiftRight, Nat.reduceMod, Int.reduceLE, Int.reduceLT, Int.reduceToNat, List.cons.injEq, cdB]
    refine uc.run wH ua qa (by kernel_rfl) (by kernel_rfl) ?_
    simp -implicitDefEqProofs only [cdA, go_sem, reduceIte, reduceCtorEq, Nat.reduceEqDiff, Nat.reduceAdd, Nat.reduceLeDiff, Nat.reduceSub, Nat.reduceMul, Nat.reduceLT, Nat.reduceShiftRight, Nat.reduceMod, Int.reduceLE, Int.reduceLT, Int.reduceToNat, List.cons.injEq, cdB]
    refine ⟨h, ?_⟩
    have hbad : ∀ e : Int, kY v id false = e → ¬ e = 0 → (chs (jq v id false).1.c = [] ∧ wts (jq v id false).1.w = [] ∧ ivs (jq v id false).1.i = [] ∧ pys (jq v id false).1.p = [] ∧ 0 = ((jq v id false).1.f.next : Int) ∧ evs (jq v id false).1.f.l = [] ∧ 0 = ((jq v id false).1.next : Int) ∧ 0 = ((jq v id false).1.tick : Int)) ∧ e = (jq v id false).2 := fun e h1 h2 => by
      have : jq v id false = (xy, e) := by rw [jq, if_neg (by rw [h1]; exact h2), h1]
      rw [this]; exact ⟨⟨rfl, rfl, rfl, rfl, rfl, rfl, rfl, rfl⟩, rfl⟩
    by_cases hok : okW v
    rotate_left 1
    · have hck : (bt v = 0) = False := eq_false fun h => hok (ql.1 h)
      have he : kY v id false = 1 := by rw [kY, if_pos hok]
      have hc1 : bt v = 1 := by rw [bt, if_neg hok]
      skip
      refine baM ua (Nat.le_of_ble_eq_true rfl) ?_
      simp -implicitDefEqProofs only [cdA, go_sem, Go.Proofs.Tryz.f42, hck, cdN, reduceIte, reduceCtorEq, Nat.reduceEqDiff, Nat.reduceAdd, Nat.reduceLeDiff, Nat.reduceSub, Nat.reduceMul, Nat.reduceLT, Nat.reduceShiftRight, Nat.reduceMod, Int.reduceLE, Int.reduceLT, Int.reduceToNat, List.cons.injEq, cdB]
      refine zZ ua (Nat.le_of_ble_eq_true rfl) ?_
      simp -implicitDefEqProofs only [cdA, go_sem, Go.Proofs.Tryz.f34, hck, cdN, reduceIte, reduceCtorEq, Nat.reduceEqDiff, Nat.reduceAdd, Nat.reduceLeDiff, Nat.reduceSub, Nat.reduceMul, Nat.reduceLT, Nat.reduceShiftRight, Nat.reduceMod, Int.reduceLE, Int.reduceLT, Int.reduceToNat, List.cons.injEq, cdB]
      refine bG ua (Nat.le_of_ble_eq_true rfl) ?_
      simp -implicitDefEqProofs only [cdA, go_sem, Go.Proofs.Tryz.f37, reduceIte, reduceCtorEq, Nat.reduceEqDiff, Nat.reduceAdd, Nat.reduceLeDiff, Nat.reduceSub, Nat.reduceMul, Nat.reduceLT, Nat.reduceShiftRight, Nat.reduceMod, Int.reduceLE, Int.reduceLT, Int.reduceToNat, List.cons.injEq, cdB]
      refine yH ua (Nat.le_of_ble_eq_true rfl) ?_
      simp -implicitDefEqProofs only [cdA, go_sem, Go.Proofs.Tryz.f78, hck, cdN, reduceIte, reduceCtorEq, Nat.reduceEqDiff, Nat.reduceAdd, Nat.reduceLeDiff, Nat.reduceSub, Nat.reduceMul, Nat.reduceLT, Nat.reduceShiftRight, Nat.reduceMod, Int.reduceLE, Int.reduceLT, Int.reduceToNat, List.cons.injEq, cdB]
      refine yu ua (Nat.le_of_ble_eq_true rfl) ?_
      simp -implicitDefEqProofs only [cdA, go_sem, Go.Proofs.Tryz.f38, hck, cdN, reduceIte, reduceCtorEq, Nat.reduceEqDiff, Nat.reduceAdd, Nat.reduceLeDiff, Nat.reduceSub, Nat.reduceMul, Nat.reduceLT, Nat.reduceShiftRight, Nat.reduceMod, Int.reduceLE, Int.reduceLT, Int.reduceToNat, List.cons.injEq, cdB]
      refine uc.run kf ua qa (by kernel_rfl) (by kernel_rfl) ?_
      simp -implicitDefEqProofs only [cdA, go_sem, hck, cdN, reduceIte, reduceCtorEq, Nat.reduceEqDiff, Nat.reduceAdd, Nat.reduceLeDiff, Nat.reduceSub, Nat.reduceMul, Nat.reduceLT, Nat.reduceShiftRight, Nat.reduceMod, Int.reduceLE, Int.reduceLT, Int.reduceToNat, List.cons.injEq, cdB]
      exact hbad _ (he.trans hc1.symm) (by rw [hc1]; decide)
    have hck : (bt v = 0) = True := eq_true (ql.2 hok)
    refine baM ua (Nat.le_of_ble_eq_true rfl) ?_
    simp -implicitDefEqProofs only [cdA, go_sem, Go.Proofs.Tryz.f42, hck, cdN, reduceIte, reduceCtorEq, Nat.reduceEqDiff, Nat.reduceAdd, Nat.reduceLeDiff, Nat.reduceSub, Nat.reduceMul, Nat.reduceLT, Nat.reduceShiftRight, Nat.reduceMod, Int.reduceLE, Int.reduceLT, Int.reduceToNat, List.cons.injEq, cdB]
    refine vcW ua (Nat.le_of_ble_eq_true rfl) ?_
    simp -implicitDefEqProofs only [cdA, go_sem, Go.Proofs.Tryz.f47, reduceIte, reduceCtorEq, Nat.reduceEqDiff, Nat.reduceAdd, Nat.reduceLeDiff, Nat.reduceSub, Nat.reduceMul, Nat.reduceLT, Nat.reduceShiftRight, Nat.reduceMod, Int.reduceLE, Int.reduceLT, Int.reduceToNat, List.cons.injEq, cdB]
    have eP : bq v.p id false = jar v id false := rfl
    rw [eP]
    refine ⟨fun hs0 => ?_, fun hs0 => ?_⟩
    rotate_left 1
    · skip
      refine zZ ua (Nat.le_of_ble_eq_true rfl) ?_
      simp -implicitDefEqProofs only [cdA, go_sem, Go.Proofs.Tryz.f34, hs0, cdN, reduceIte, reduceCtorEq, Nat.reduceEqDiff, Nat.reduceAdd, Nat.reduceLeDiff, Nat.reduceSub, Nat.reduceMul, Nat.reduceLT, Nat.reduceShiftRight, Nat.reduceMod, Int.reduceLE, Int.reduceLT, Int.reduceToNat, List.cons.injEq, cdB]
      refine bG ua (Nat.le_of_ble_eq_true rfl) ?_
      simp -implicitDefEqProofs only [cdA, go_sem, Go.Proofs.Tryz.f37, reduceIte, reduceCtorEq, Nat.reduceEqDiff, Nat.reduceAdd, Nat.reduceLeDiff, Nat.reduceSub, Nat.reduceMul, Nat.reduceLT, Nat.reduceShiftRight, Nat.reduceMod, Int.reduceLE, Int.reduceLT, Int.reduceToNat, List.cons.injEq, cdB]
      refine yH ua (Nat.le_of_ble_eq_true rfl) ?_
      simp -implicitDefEqProofs only [cdA, go_sem, Go.Proofs.Tryz.f78, hs0, cdN, reduceIte, reduceCtorEq, Nat.reduceEqDiff, Nat.reduceAdd, Nat.reduceLeDiff, Nat.reduceSub, Nat.reduceMul, Nat.reduceLT, Nat.reduceShiftRight, Nat.reduceMod, Int.reduceLE, Int.reduceLT, Int.reduceToNat, List.cons.injEq, cdB]
      refine yu ua (Nat.le_of_ble_eq_true rfl) ?_
      simp -implicitDefEqProofs only [cdA, go_sem, Go.Proofs.Tryz.f38, hs0, cdN, reduceIte, reduceCtorEq, Nat.reduceEqDiff, Nat.reduceAdd, Nat.reduceLeDiff, Nat.reduceSub, Nat.reduceMul, Nat.reduceLT, Nat.reduceShiftRight, Nat.reduceMod, Int.reduceLE, Int.reduceLT, Int.reduceToNat, List.cons.injEq, cdB]
      refine uc.run kf ua qa (by kernel_rfl) (by kernel_rfl) ?_
      simp -implicitDefEqProofs only [cdA, go_sem, hs0, cdN, reduceIte, reduceCtorEq, Nat.reduceEqDiff, Nat.reduceAdd, Nat.reduceLeDiff, Nat.reduceSub, Nat.reduceMul, Nat.reduceLT, Nat.reduceShiftRight, Nat.reduceMod, Int.reduceLE, Int.reduceLT, Int.reduceToNat, List.cons.injEq, cdB]
      exact hbad _ (by rw [kY, if_neg (fun h => h hok), if_pos hs0]) hs0
    refine zZ ua (Nat.le_of_ble_eq_true rfl) ?_
    simp -implicitDefEqProofs only [cdA, go_sem, Go.Proofs.Tryz.f34, hck, cdN, reduceIte, reduceCtorEq, Nat.reduceEqDiff, Nat.reduceAdd, Nat.reduceLeDiff, Nat.reduceSub, Nat.reduceMul, Nat.reduceLT, Nat.reduceShiftRight, Nat.reduceMod, Int.reduceLE, Int.reduceLT, Int.reduceToNat, List.cons.injEq, cdB]
    refine zc6 ua (Nat.le_of_ble_eq_true rfl) ?_
    simp -implicitDefEqProofs only [cdA, go_sem, Go.Proofs.Tryz.f49, reduceIte, reduceCtorEq, Nat.reduceEqDiff, Nat.reduceAdd, Nat.reduceLeDiff, Nat.reduceSub, Nat.reduceMul, Nat.reduceLT, Nat.reduceShiftRight, Nat.reduceMod, Int.reduceLE, Int.reduceLT, Int.reduceToNat, List.cons.injEq, cdB]
    have eC1 : (vj v.c id false).1 = (vap v id false).1 := rfl
    have eC2 : (vj v.c id false).2.2 = (vap v id false).2 := rfl
    rw [eC1, eC2]
    refine ⟨fun hs1 => ?_, fun hs1 => ?_⟩
    rotate_left 1
    · skip
      refine bG ua (Nat.le_of_ble_eq_true rfl) ?_
      simp -implicitDefEqProofs only [cdA, go_sem, Go.Proofs.Tryz.f37, reduceIte, reduceCtorEq, Nat.reduceEqDiff, Nat.reduceAdd, Nat.reduceLeDiff, Nat.reduceSub, Nat.reduceMul, Nat.reduceLT, Nat.reduceShiftRight, Nat.reduceMod, Int.reduceLE, Int.reduceLT, Int.reduceToNat, List.cons.injEq, cdB]
      refine yH ua (Nat.le_of_ble_eq_true rfl) ?_
      simp -implicitDefEqProofs only [cdA, go_sem, Go.Proofs.Tryz.f78, hs1, cdN, reduceIte, reduceCtorEq, Nat.reduceEqDiff, Nat.reduceAdd, Nat.reduceLeDiff, Nat.reduceSub, Nat.reduceMul, Nat.reduceLT, Nat.reduceShiftRight, Nat.reduceMod, Int.reduceLE, Int.reduceLT, Int.reduceToNat, List.cons.injEq, cdB]
      refine yu ua (Nat.le_of_ble_eq_true rfl) ?_
      simp -implicitDefEqProofs only [cdA, go_sem, Go.Proofs.Tryz.f38, hs1, cdN, reduceIte, reduceCtorEq, Nat.reduceEqDiff, Nat.reduceAdd, Nat.reduceLeDiff, Nat.reduceSub, Nat.reduceMul, Nat.reduceLT, Nat.reduceShiftRight, Nat.reduceMod, Int.reduceLE, Int.reduceLT, Int.reduceToNat, List.cons.injEq, cdB]
      refine uc.run kf ua qa (by kernel_rfl) (by kernel_rfl) ?_
      simp -implicitDefEqProofs only [cdA, go_sem, hs1, cdN, reduceIte, reduceCtorEq, Nat.reduceEqDiff, Nat.reduceAdd, Nat.reduceLeDiff, Nat.reduceSub, Nat.reduceMul, Nat.reduceLT, Nat.reduceShiftRight, Nat.reduceMod, Int.reduceLE, Int.reduceLT, Int.reduceToNat, List.cons.injEq, cdB]
      exact hbad _ (by rw [kY, if_neg (fun h => h hok), if_neg (fun h => h hs0), if_pos hs1]) hs1
    refine bG ua (Nat.le_of_ble_eq_true rfl) ?_
    simp -implicitDefEqProofs only [cdA, go_sem, Go.Proofs.Tryz.f37, reduceIte, reduceCtorEq, Nat.reduceEqDiff, Nat.reduceAdd, Nat.reduceLeDiff, Nat.reduceSub, Nat.reduceMul, Nat.reduceLT, Nat.reduceShiftRight, Nat.reduceMod, Int.reduceLE, Int.reduceLT, Int.reduceToNat, List.cons.injEq, cdB]
    refine yH ua (Nat.le_of_ble_eq_true rfl) ?_
    simp -implicitDefEqProofs only [cdA, go_sem, Go.Proofs.Tryz.f78, hck, cdN, reduceIte, reduceCtorEq, Nat.reduceEqDiff, Nat.reduceAdd, Nat.reduceLeDiff, Nat.reduceSub, Nat.reduceMul, Nat.reduceLT, Nat.reduceShiftRight, Nat.reduceMod, Int.reduceLE, Int.reduceLT, Int.reduceToNat, List.cons.injEq, cdB]
    refine wbf ua (Nat.le_of_ble_eq_true rfl) ?_
    simp -implicitDefEqProofs only [cdA, go_sem, Go.Proofs.Tryz.f79, reduceIte, reduceCtorEq, Nat.reduceEqDiff, Nat.reduceAdd, Nat.reduceLeDiff, Nat.reduceSub, Nat.reduceMul, Nat.reduceLT, Nat.reduceShiftRight, Nat.reduceMod, Int.reduceLE, Int.reduceLT, Int.reduceToNat, List.cons.injEq, cdB]
    have eF : xu v.f 2 id (vj v.c id false).2.1 = yaq v id false := rfl
    rw [eF]
    refine ⟨h, fun hfd => ?_, fun hfd => ?_⟩
    rotate_left 1
    · skip
      refine yu ua (Nat.le_of_ble_eq_true rfl) ?_
      simp -implicitDefEqProofs only [cdA, go_sem, Go.Proofs.Tryz.f38, hfd, cdN, reduceIte, reduceCtorEq, Nat.reduceEqDiff, Nat.reduceAdd, Nat.reduceLeDiff, Nat.reduceSub, Nat.reduceMul, Nat.reduceLT, Nat.reduceShiftRight, Nat.reduceMod, Int.reduceLE, Int.reduceLT, Int.reduceToNat, List.cons.injEq, cdB]
      refine uc.run kf ua qa (by kernel_rfl) (by kernel_rfl) ?_
      simp -implicitDefEqProofs only [cdA, go_sem, hfd, cdN, reduceIte, reduceCtorEq, Nat.reduceEqDiff, Nat.reduceAdd, Nat.reduceLeDiff, Nat.reduceSub, Nat.reduceMul, Nat.reduceLT, Nat.reduceShiftRight, Nat.reduceMod, Int.reduceLE, Int.reduceLT, Int.reduceToNat, List.cons.injEq, cdB]
      exact hbad _ (by rw [kY, if_neg (fun h => h hok), if_neg (fun h => h hs0), if_neg (fun h => h hs1)]) hfd
    have hsm : jx ⟨(vap v id false).1, v.w, v.i, (jar v id false).1, (yaq v id false).1, v.next, v.tick⟩ := by
      have h2 := jo hok
      have h50 := gax hs0
      have h51 := uag hs1
      exact ⟨(by have := h51.1; show (vap v id false).1.length ≤ _; unfold vap; (try dsimp only); omega), (fun d hd => by have := (h51.2.1 d hd).2.2.1; omega), h2.2.2.1, h2.2.2.2.1, (by show (jar v id false).1.length ≤ _; unfold jar; omega), (by show (yaq v id false).1.l.length ≤ _; unfold yaq; exact Nat.le_trans yE (by decide))⟩
    have hfin : jq v id false = (⟨(vap v id false).1, v.w, v.i, (jar v id false).1, (yaq v id false).1, v.next, v.tick⟩, 0) := by
      have : kY v id false = 0 := by rw [kY, if_neg (fun h => h hok), if_neg (fun h => h hs0), if_neg (fun h => h hs1)]; exact hfd
      rw [jq, if_pos this]
    refine yu ua (Nat.le_of_ble_eq_true rfl) ?_
    simp -implicitDefEqProofs only [cdA, go_sem, Go.Proofs.Tryz.f38, hck, eq_true hsm, cdN, reduceIte, reduceCtorEq, Nat.reduceEqDiff, Nat.reduceAdd, Nat.reduceLeDiff, Nat.reduceSub, Nat.reduceMul, Nat.reduceLT, Nat.reduceShiftRight, Nat.reduceMod, Int.reduceLE, Int.reduceLT, Int.reduceToNat, List.cons.injEq, cdB]
    rw [hfin]
    exact ⟨⟨rfl, rfl, rfl, rfl, rfl, rfl, rfl, rfl⟩, rfl⟩
  · skip
    refine xa0 ua (Nat.le_of_ble_eq_true rfl) ?_
    simp -implicitDefEqProofs only [cdA, go_sem, Go.Proofs.Tryz.f33, reduceIte, reduceCtorEq, Nat.reduceEqDiff, Nat.reduceAdd, Nat.reduceLeDiff, Nat.reduceSub, Nat.reduceMul, Nat.reduceLT, Nat.reduceShiftRight, Nat.reduceMod, Int.reduceLE, Int.reduceLT, Int.reduceToNat, List.cons.injEq, cdB]
    refine uc.run wH ua qa (by kernel_rfl) (by kernel_rfl) ?_
    simp -implicitDefEqProofs only [cdA, go_sem, reduceIte, reduceCtorEq, Nat.reduceEqDiff, Nat.reduceAdd, Nat.reduceLeDiff, Nat.reduceSub, Nat.reduceMul, Nat.reduceLT, Nat.reduceShiftRight, Nat.reduceMod, Int.reduceLE, Int.reduceLT, Int.reduceToNat, List.cons.injEq, cdB]
    refine ⟨h, ?_⟩
    have hbad : ∀ e : Int, kY v id true = e → ¬ e = 0 → (chs (jq v id true).1.c = [] ∧ wts (jq v id true).1.w = [] ∧ ivs (jq v id true).1.i = [] ∧ pys (jq v id true).1.p = [] ∧ 0 = ((jq v id true).1.f.next : Int) ∧ evs (jq v id true).1.f.l = [] ∧ 0 = ((jq v id true).1.next : Int) ∧ 0 = ((jq v id true).1.tick : Int)) ∧ e = (jq v id true).2 := fun e h1 h2 => by
      have : jq v id true = (xy, e) := by rw [jq, if_neg (by rw [h1]; exact h2), h1]
      rw [this]; exact ⟨⟨rfl, rfl, rfl, rfl, rfl, rfl, rfl, rfl⟩, rfl⟩
    by_cases hok : okW v
    rotate_left 1
    · have hck : (bt v = 0) = False := eq_false fun h => hok (ql.1 h)
      have he : kY v id true = 1 := by rw [kY, if_pos hok]
      have hc1 : bt v = 1 := by rw [bt, if_neg hok]
      skip
      refine baM ua (Nat.le_of_ble_eq_true rfl) ?_
      simp -implicitDefEqProofs only [cdA, go_sem, Go.Proofs.Tryz.f42, hck, cdN, reduceIte, reduceCtorEq, Nat.reduceEqDiff, Nat.reduceAdd, Nat.reduceLeDiff, Nat.reduceSub, Nat.reduceMul, Nat.reduceLT, Nat.reduceShiftRight, Nat.reduceMod, Int.reduceLE, Int.reduceLT, Int.reduceToNat, List.cons.injEq, cdB]
      refine zZ ua (Nat.le_of_ble_eq_true rfl) ?_
      simp -implicitDefEqProofs only [cdA, go_sem, Go.Proofs.Tryz.f34, hck, cdN, reduceIte, reduceCtorEq, Nat.reduceEqDiff, Nat.reduceAdd, Nat.reduceLeDiff, Nat.reduceSub, Nat.reduceMul, Nat.reduceLT, Nat.reduceShiftRight, Nat.reduceMod, Int.reduceLE, Int.reduceLT, Int.reduceToNat, List.cons.injEq, cdB]
      refine bG ua (Nat.le_of_ble_eq_true rfl) ?_
      simp -implicitDefEqProofs only [cdA, go_sem, Go.Proofs.Tryz.f37, reduceIte, reduceCtorEq, Nat.reduceEqDiff, Nat.reduceAdd, Nat.reduceLeDiff, Nat.reduceSub, Nat.reduceMul, Nat.reduceLT, Nat.reduceShiftRight, Nat.reduceMod, Int.reduceLE, Int.reduceLT, Int.reduceToNat, List.cons.injEq, cdB]
      refine yH ua (Nat.le_of_ble_eq_true rfl) ?_
      simp -implicitDefEqProofs only [cdA, go_sem, Go.Proofs.Tryz.f78, hck, cdN, reduceIte, reduceCtorEq, Nat.reduceEqDiff, Nat.reduceAdd, Nat.reduceLeDiff, Nat.reduceSub, Nat.reduceMul, Nat.reduceLT, Nat.reduceShiftRight, Nat.reduceMod, Int.reduceLE, Int.reduceLT, Int.reduceToNat, List.cons.injEq, cdB]
      refine yu ua (Nat.le_of_ble_eq_true rfl) ?_
      simp -implicitDefEqProofs only [cdA, go_sem, Go.Proofs.Tryz.f38, hck, cdN, reduceIte, reduceCtorEq, Nat.reduceEqDiff, Nat.reduceAdd, Nat.reduceLeDiff, Nat.reduceSub, Nat.reduceMul, Nat.reduceLT, Nat.reduceShiftRight, Nat.reduceMod, Int.reduceLE, Int.reduceLT, Int.reduceToNat, List.cons.injEq, cdB]
      refine uc.run kf ua qa (by kernel_rfl) (by kernel_rfl) ?_
      simp -implicitDefEqProofs only [cdA, go_sem, hck, cdN, reduceIte, reduceCtorEq, Nat.reduceEqDiff, Nat.reduceAdd, Nat.reduceLeDiff, Nat.reduceSub, Nat.reduceMul, Nat.reduceLT, Nat.reduceShiftRight, Nat.reduceMod, Int.reduceLE, Int.reduceLT, Int.reduceToNat, List.cons.injEq, cdB]
      exact hbad _ (he.trans hc1.symm) (by rw [hc1]; decide)
    have hck : (bt v = 0) = True := eq_true (ql.2 hok)
    refine baM ua (Nat.le_of_ble_eq_true rfl) ?_
    simp -implicitDefEqProofs only [cdA, go_sem, Go.Proofs.Tryz.f42, hck, cdN, reduceIte, reduceCtorEq, Nat.reduceEqDiff, Nat.reduceAdd, Nat.reduceLeDiff, Nat.reduceSub, Nat.reduceMul, Nat.reduceLT, Nat.reduceShiftRight, Nat.reduceMod, Int.reduceLE, Int.reduceLT, Int.reduceToNat, List.cons.injEq, cdB]
    refine vcW ua (Nat.le_of_ble_eq_true rfl) ?_
    simp -implicitDefEqProofs only [cdA, go_sem, Go.Proofs.Tryz.f47, reduceIte, reduceCtorEq, Nat.reduceEqDiff, Nat.reduceAdd, Nat.reduceLeDiff, Nat.reduceSub, Nat.reduceMul, Nat.reduceLT, Nat.reduceShiftRight, Nat.reduceMod, Int.reduceLE, Int.reduceLT, Int.reduceToNat, List.cons.injEq, cdB]
    have eP : bq v.p id true = jar v id true := rfl
    rw [eP]
    refine ⟨fun hs0 => ?_, fun hs0 => ?_⟩
    rotate_left 1
    · skip
      refine zZ ua (Nat.le_of_ble_eq_true rfl) ?_
      simp -implicitDefEqProofs only [cdA, go_sem, Go.Proofs.Tryz.f34, hs0, cdN, reduceIte, reduceCtorEq, Nat.reduceEqDiff, Nat.reduceAdd, Nat.reduceLeDiff, Nat.reduceSub, Nat.reduceMul, Nat.reduceLT, Nat.reduceShiftRight, Nat.reduceMod, Int.reduceLE, Int.reduceLT, Int.reduceToNat, List.cons.injEq, cdB]
      refine bG ua (Nat.le_of_ble_eq_true rfl) ?_
      simp -implicitDefEqProofs only [cdA, go_sem, Go.Proofs.Tryz.f37, reduceIte, reduceCtorEq, Nat.reduceEqDiff, Nat.reduceAdd, Nat.reduceLeDiff, Nat.reduceSub, Nat.reduceMul, Nat.reduceLT, Nat.reduceShiftRight, Nat.reduceMod, Int.reduceLE, Int.reduceLT, Int.reduceToNat, List.cons.injEq, cdB]
      refine yH ua (Nat.le_of_ble_eq_true rfl) ?_
      simp -implicitDefEqProofs only [cdA, go_sem, Go.Proofs.Tryz.f78, hs0, cdN, reduceIte, reduceCtorEq, Nat.reduceEqDiff, Nat.reduceAdd, Nat.reduceLeDiff, Nat.reduceSub, Nat.reduceMul, Nat.reduceLT, Nat.reduceShiftRight, Nat.reduceMod, Int.reduceLE, Int.reduceLT, Int.reduceToNat, List.cons.injEq, cdB]
      refine yu ua (Nat.le_of_ble_eq_true rfl) ?_
      simp -implicitDefEqProofs only [cdA, go_sem, Go.Proofs.Tryz.f38, hs0, cdN, reduceIte, reduceCtorEq, Nat.reduceEqDiff, Nat.reduceAdd, Nat.reduceLeDiff, Nat.reduceSub, Nat.reduceMul, Nat.reduceLT, Nat.reduceShiftRight, Nat.reduceMod, Int.reduceLE, Int.reduceLT, Int.reduceToNat, List.cons.injEq, cdB]
      refine uc.run kf ua qa (by kernel_rfl) (by kernel_rfl) ?_
      simp -implicitDefEqProofs only [cdA, go_sem, hs0, cdN, reduceIte, reduceCtorEq, Nat.reduceEqDiff, Nat.reduceAdd, Nat.reduceLeDiff, Nat.reduceSub, Nat.reduceMul, Nat.reduceLT, Nat.reduceShiftRight, Nat.reduceMod, Int.reduceLE, Int.reduceLT, Int.reduceToNat, List.cons.injEq, cdB]
      exact hbad _ (by rw [kY, if_neg (fun h => h hok), if_pos hs0]) hs0
    refine zZ ua (Nat.le_of_ble_eq_true rfl) ?_
    simp -implicitDefEqProofs only [cdA, go_sem, Go.Proofs.Tryz.f34, hck, cdN, reduceIte, reduceCtorEq, Nat.reduceEqDiff, Nat.reduceAdd, Nat.reduceLeDiff, Nat.reduceSub, Nat.reduceMul, Nat.reduceLT, Nat.reduceShiftRight, Nat.reduceMod, Int.reduceLE, Int.reduceLT, Int.reduceToNat, List.cons.injEq, cdB]
    refine zc6 ua (Nat.le_of_ble_eq_true rfl) ?_
    simp -implicitDefEqProofs only [cdA, go_sem, Go.Proofs.Tryz.f49, reduceIte, reduceCtorEq, Nat.reduceEqDiff, Nat.reduceAdd, Nat.reduceLeDiff, Nat.reduceSub, Nat.reduceMul, Nat.reduceLT, Nat.reduceShiftRight, Nat.reduceMod, Int.reduceLE, Int.reduceLT, Int.reduceToNat, List.cons.injEq, cdB]
    have eC1 : (vj v.c id true).1 = (vap v id true).1 := rfl
    have eC2 : (vj v.c id true).2.2 = (vap v id true).2 := rfl
    rw [eC1, eC2]
    refine ⟨fun hs1 => ?_, fun hs1 => ?_⟩
    rotate_left 1
    · skip
      refine bG ua (Nat.le_of_ble_eq_true rfl) ?_
      simp -implicitDefEqProofs only [cdA, go_sem, Go.Proofs.Tryz.f37, reduceIte, reduceCtorEq, Nat.reduceEqDiff, Nat.reduceAdd, Nat.reduceLeDiff, Nat.reduceSub, Nat.reduceMul, Nat.reduceLT, Nat.reduceShiftRight, Nat.reduceMod, Int.reduceLE, Int.reduceLT, Int.reduceToNat, List.cons.injEq, cdB]
      refine yH ua (Nat.le_of_ble_eq_true rfl) ?_
      simp -implicitDefEqProofs only [cdA, go_sem, Go.Proofs.Tryz.f78, hs1, cdN, reduceIte, reduceCtorEq, Nat.reduceEqDiff, Nat.reduceAdd, Nat.reduceLeDiff, Nat.reduceSub, Nat.reduceMul, Nat.reduceLT, Nat.reduceShiftRight, Nat.reduceMod, Int.reduceLE, Int.reduceLT, Int.reduceToNat, List.cons.injEq, cdB]
      refine yu ua (Nat.le_of_ble_eq_true rfl) ?_
      simp -implicitDefEqProofs only [cdA, go_sem, Go.Proofs.Tryz.f38, hs1, cdN, reduceIte, reduceCtorEq, Nat.reduceEqDiff, Nat.reduceAdd, Nat.reduceLeDiff, Nat.reduceSub, Nat.reduceMul, Nat.reduceLT, Nat.reduceShiftRight, Nat.reduceMod, Int.reduceLE, Int.reduceLT, Int.reduceToNat, List.cons.injEq, cdB]
      refine uc.run kf ua qa (by kernel_rfl) (by kernel_rfl) ?_
      simp -implicitDefEqProofs only [cdA, go_sem, hs1, cdN, reduceIte, reduceCtorEq, Nat.reduceEqDiff, Nat.reduceAdd, Nat.reduceLeDiff, Nat.reduceSub, Nat.reduceMul, Nat.reduceLT, Nat.reduceShiftRight, Nat.reduceMod, Int.reduceLE, Int.reduceLT, Int.reduceToNat, List.cons.injEq, cdB]
      exact hbad _ (by rw [kY, if_neg (fun h => h hok), if_neg (fun h => h hs0), if_pos hs1]) hs1
    refine bG ua (Nat.le_of_ble_eq_true rfl) ?_
    simp -implicitDefEqProofs only [cdA, go_sem, Go.Proofs.Tryz.f37, reduceIte, reduceCtorEq, Nat.reduceEqDiff, Nat.reduceAdd, Nat.reduceLeDiff, Nat.reduceSub, Nat.reduceMul, Nat.reduceLT, Nat.reduceShiftRight, Nat.reduceMod, Int.reduceLE, Int.reduceLT, Int.reduceToNat, List.cons.injEq, cdB]
    refine yH ua (Nat.le_of_ble_eq_true rfl) ?_
    simp -implicitDefEqProofs only [cdA, go_sem, Go.Proofs.Tryz.f78, hck, cdN, reduceIte, reduceCtorEq, Nat.reduceEqDiff, Nat.reduceAdd, Nat.reduceLeDiff, Nat.reduceSub, Nat.reduceMul, Nat.reduceLT, Nat.reduceShiftRight, Nat.reduceMod, Int.reduceLE, Int.reduceLT, Int.reduceToNat, List.cons.injEq, cdB]
    refine wbf ua (Nat.le_of_ble_eq_true rfl) ?_
    simp -implicitDefEqProofs only [cdA, go_sem, Go.Proofs.Tryz.f79, reduceIte, reduceCtorEq, Nat.reduceEqDiff, Nat.reduceAdd, Nat.reduceLeDiff, Nat.reduceSub, Nat.reduceMul, Nat.reduceLT, Nat.reduceShiftRight, Nat.reduceMod, Int.reduceLE, Int.reduceLT, Int.reduceToNat, List.cons.injEq, cdB]
    have eF : xu v.f 1 id (vj v.c id true).2.1 = yaq v id true := rfl
    rw [eF]
    refine ⟨h, fun hfd => ?_, fun hfd => ?_⟩
    rotate_left 1
    · skip
      refine yu ua (Nat.le_of_ble_eq_true rfl) ?_
      simp -implicitDefEqProofs only [cdA, go_sem, Go.Proofs.Tryz.f38, hfd, cdN, reduceIte, reduceCtorEq, Nat.reduceEqDiff, Nat.reduceAdd, Nat.reduceLeDiff, Nat.reduceSub, Nat.reduceMul, Nat.reduceLT, Nat.reduceShiftRight, Nat.reduceMod, Int.reduceLE, Int.reduceLT, Int.reduceToNat, List.cons.injEq, cdB]
      refine uc.run kf ua qa (by kernel_rfl) (by kernel_rfl) ?_
      simp -implicitDefEqProofs only [cdA, go_sem, hfd, cdN, reduceIte, reduceCtorEq, Nat.reduceEqDiff, Nat.reduceAdd, Nat.reduceLeDiff, Nat.reduceSub, Nat.reduceMul, Nat.reduceLT, Nat.reduceShiftRight, Nat.reduceMod, Int.reduceLE, Int.reduceLT, Int.reduceToNat, List.cons.injEq, cdB]
      exact hbad _ (by rw [kY, if_neg (fun h => h hok), if_neg (fun h => h hs0), if_neg (fun h => h hs1)]) hfd
    have hsm : jx ⟨(vap v id true).1, v.w, v.i, (jar v id true).1, (yaq v id true).1, v.next, v.tick⟩ := by
      have h2 := jo hok
      have h50 := gax hs0
      have h51 := uag hs1
      exact ⟨(by have := h51.1; show (vap v id true).1.length ≤ _; unfold vap; (try dsimp only); omega), (fun d hd => by have := (h51.2.1 d hd).2.2.1; omega), h2.2.2.1, h2.2.2.2.1, (by show (jar v id true).1.length ≤ _; unfold jar; omega), (by show (yaq v id true).1.l.length ≤ _; unfold yaq; exact Nat.le_trans yE (by decide))⟩
    have hfin : jq v id true = (⟨(vap v id true).1, v.w, v.i, (jar v id true).1, (yaq v id true).1, v.next, v.tick⟩, 0) := by
      have : kY v id true = 0 := by rw [kY, if_neg (fun h => h hok), if_neg (fun h => h hs0), if_neg (fun h => h hs1)]; exact hfd
      rw [jq, if_pos this]
    refine yu ua (Nat.le_of_ble_eq_true rfl) ?_
    simp -implicitDefEqProofs only [cdA, go_sem, Go.Proofs.Tryz.f38, hck, eq_true hsm, cdN, reduceIte, reduceCtorEq, Nat.reduceEqDiff, Nat.reduceAdd, Nat.reduceLeDiff, Nat.reduceSub, Nat.reduceMul, Nat.reduceLT, Nat.reduceShiftRight, Nat.reduceMod, Int.reduceLE, Int.reduceLT, Int.reduceToNat, List.cons.injEq, cdB]
    rw [hfin]
    exact ⟨⟨rfl, rfl, rfl, rfl, rfl, rfl, rfl, rfl⟩, rfl⟩
@[go_sem] def kbf (v : Wl) (id : Nat) (paid : Bool) : Prop := (v.f.next ≤ 18446744073709551615)
def uW : List D → Option (Prop × D × Fr)
  | [.agg [.c (.sl z342), .c (.sl z343), .c (.sl z344), .c (.sl z345), .c (.int .u64 z347), .c (.sl z348), .c (.int .u64 z349), .c (.int .u64 z350)], .c (.int .u64 z351), .c (.bool z352)] => some (z342 = chs (ji z342) ∧ z343 = wts (xl z343) ∧ z344 = ivs (xm z344) ∧ z345 = pys (vl z345) ∧ z347 = (z347.toNat : Int) ∧ z348 = evs (yo z348) ∧ z349 = (z349.toNat : Int) ∧ z350 = (z350.toNat : Int) ∧ z351 = (z351.toNat : Int) ∧ kbf (⟨(ji z342), (xl z343), (xm z344), (vl z345), (⟨z347.toNat, (yo z348)⟩ : Fd), z349.toNat, z350.toNat⟩ : Wl) z351.toNat z352, ubi (⟨(ji z342), (xl z343), (xm z344), (vl z345), (⟨z347.toNat, (yo z348)⟩ : Fd), z349.toNat, z350.toNat⟩ : Wl) z351.toNat z352, [])
  | _ => none
attribute [go_sem] uW
theorem k7 : ∀ rs p r fr, uW rs = some (p, r, fr) → p → qg Tryz.prog 17 rs r fr := by
  intro rs p r fr h hp
  unfold uW at h
  split at h <;> cases h
  obtain ⟨hc0, hc1, hc2, hc3, hc4, hc5, hc6, hc7, hc8, hp⟩ := hp
  rename_i z342 z343 z344 z345 z347 z348 z349 z350 z351 z352
  obtain ⟨z342, rfl⟩ : ∃ m, z342 = chs m := ⟨_, hc0⟩
  obtain ⟨z343, rfl⟩ : ∃ m, z343 = wts m := ⟨_, hc1⟩
  obtain ⟨z344, rfl⟩ : ∃ m, z344 = ivs m := ⟨_, hc2⟩
  obtain ⟨z345, rfl⟩ : ∃ m, z345 = pys m := ⟨_, hc3⟩
  obtain ⟨z347, rfl⟩ : ∃ m : Nat, z347 = m := ⟨_, hc4⟩
  obtain ⟨z348, rfl⟩ : ∃ m, z348 = evs m := ⟨_, hc5⟩
  obtain ⟨z349, rfl⟩ : ∃ m : Nat, z349 = m := ⟨_, hc6⟩
  obtain ⟨z350, rfl⟩ : ∃ m : Nat, z350 = m := ⟨_, hc7⟩
  obtain ⟨z351, rfl⟩ : ∃ m : Nat, z351 = m := ⟨_, hc8⟩
  simp only [Int.toNat_natCast, jb, jc, qc, yc, jd]
  simp only [Int.toNat_natCast, jb, jc, qc, yc, jd, kbf] at hp
  exact zby ⟨z342, z343, z344, z345, ⟨z347, z348⟩, z349, z350⟩ z351 z352 hp
end Dm
namespace Dm
open Go Go.Proofs Go.IntWalk
theorem ubd {v : Wl} {id : Nat} {paid : Bool} : (jq v id paid).2 = kY v id paid := by
  unfold jq
  split
  · rename_i h; exact h.symm
  · rfl
theorem qbV {v : Wl} {id : Nat} {paid : Bool} (h : kY v id paid = 0) : okW v ∧ (jar v id paid).2 = 0 ∧ (vap v id paid).2 = 0 ∧ (yaq v id paid).2.2 = 0 := by
  unfold kY at h
  split at h
  · cases h
  rename_i h1
  split at h
  · rename_i h2; exact absurd h h2
  rename_i h2
  split at h
  · rename_i h3; exact absurd h h3
  rename_i h3
  exact ⟨Decidable.byContradiction h1, Decidable.byContradiction h2, Decidable.byContradiction h3, h⟩
theorem xbu {l : List Py} {k : Nat} (h : ∀ x ∈ l, x.id < k) : 0 < l.length → (l.getD (l.length - 1) default).id < k := fun h0 => h _ (xb.2 ⟨_, by omega, rfl⟩)
theorem kaN {v : Wl} {id : Nat} {paid : Bool} (h : (jq v id paid).2 = 0) : okW v ∧ okW (jq v id paid).1 ∧ (jq v id paid).1 = ⟨(vj v.c id paid).1, v.w, v.i, (bq v.p id paid).1, (yaq v id paid).1, v.next, v.tick⟩ ∧ (bq v.p id paid).2 = 0 ∧ (vj v.c id paid).2.2 = 0 ∧ (yaq v id paid).2.2 = 0 := by
  rw [ubd] at h
  obtain ⟨hok, hP, hC, hF⟩ := qbV h
  have e : jq v id paid = (⟨(vap v id paid).1, v.w, v.i, (jar v id paid).1, (yaq v id paid).1, v.next, v.tick⟩, 0) := by rw [jq, if_pos h]
  rw [e]
  have hids := zau hok
  obtain ⟨o1, o2, o3, o4, o5, o6, o7, o8⟩ := hok
  obtain ⟨h1, h2, -⟩ := wbq (paid := paid) o8 o1 hP
  obtain ⟨-, l1, -⟩ := wae h1
  obtain ⟨-, -, p1, -⟩ := yaC hP
  refine ⟨⟨o1, o2, o3, o4, o5, o6, o7, o8⟩, ⟨l1, o2, zI hF, o4, o5, o6, xbu fun x hx => ?_, h2⟩, rfl, hP, h1, hF⟩
  have : x.id ∈ (bq v.p id paid).1.map Py.id := List.mem_map.2 ⟨x, hx, rfl⟩
  rw [p1] at this
  obtain ⟨y, hy, he⟩ := List.mem_map.1 this
  rw [← he]; exact hids y hy
end Dm
namespace Dm
open Go Go.Proofs Go.IntWalk
end Dm
namespace Dm
open Go Go.Proofs Go.IntWalk
def bF (v : Wl) (l : List Wt) : Wl × Int := if okW v ∧ l.length ≤ 32 then ({ v with w := l }, 0) else (xy, 1)
@[go_sem] def uaK (v : Wl) (l : List Wt) : D := .tup [.agg [.sl (chs (bF v l).1.c), .sl (wts (bF v l).1.w), .sl (ivs (bF v l).1.i), .sl (pys (bF v l).1.p), .int .u64 (bF v l).1.f.next, .sl (evs (bF v l).1.f.l), .int .u64 (bF v l).1.next, .int .u64 (bF v l).1.tick], .int .i64 (bF v l).2]
@[go_sem] abbrev bcF : FuncId := 23
@[go_sem] def xbx : Tab := [(9, jh), (81, vq)]
theorem qh : za Tryz.prog xbx := (za.cons xg (za.cons kj za.nil))
set_option maxRecDepth 8000 in
set_option maxHeartbeats 1000000 in
theorem za8 (v : Wl) (l : List Wt) (h : v.f.next ≤ 18446744073709551615) : yb Tryz.prog 23 [.agg [.sl (chs v.c), .sl (wts v.w), .sl (ivs v.i), .sl (pys v.p), .c (.int .u64 (v.f.next : Int)), .sl (evs v.f.l), .c (.int .u64 (v.next : Int)), .c (.int .u64 (v.tick : Int))], .sl (wts l)] (uaK v l) := by
  refine .of (xdd qh (Nat.le_of_ble_eq_true rfl) ?_)
  simp -implicitDefEqProofs only [cdA, go_sem, Go.Proofs.Tryz.f23, reduceIte, reduceCtorEq, Nat.reduceEqDiff, Nat.reduceAdd, Nat.reduceLeDiff, Nat.reduceSub, Nat.reduceMul, Nat.reduceLT, Nat.reduceShiftRight, Nat.reduceMod, Int.reduceLE, Int.reduceLT, Int.reduceToNat, List.cons.injEq, cdB]
  refine xa0 qh (Nat.le_of_ble_eq_true rfl) ?_
  simp -implicitDefEqProofs only [cdA, go_sem, Go.Proofs.Tryz.f33, reduceIte, reduceCtorEq, Nat.reduceEqDiff, Nat.reduceAdd, Nat.reduceLeDiff, Nat.reduceSub, Nat.reduceMul, Nat.reduceLT, Nat.reduceShiftRight, Nat.reduceMod, Int.reduceLE, Int.reduceLT, Int.reduceToNat, List.cons.injEq, cdB]
  refine uc.run wH qh qa (by kernel_rfl) (by kernel_rfl) ?_
  simp -implicitDefEqProofs only [cdA, go_sem, reduceIte, reduceCtorEq, Nat.reduceEqDiff, Nat.reduceAdd, Nat.reduceLeDiff, Nat.reduceSub, Nat.reduceMul, Nat.reduceLT, Nat.reduceShiftRight, Nat.reduceMod, Int.reduceLE, Int.reduceLT, Int.reduceToNat, List.cons.injEq, cdB]
  refine ⟨h, ?_⟩
  intro hll
  have hbad : ¬ (okW v ∧ l.length ≤ 32) → (chs (bF v l).1.c = [] ∧ wts (bF v l).1.w = [] ∧ ivs (bF v l).1.i = [] ∧ pys (bF v l).1.p = [] ∧ 0 = ((bF v l).1.f.next : Int) ∧ evs (bF v l).1.f.l = [] ∧ 0 = ((bF v l).1.next : Int) ∧ 0 = ((bF v l).1.tick : Int)) ∧ 1 = (bF v l).2 := fun h => by
    have : bF v l = (xy, 1) := by rw [bF, if_neg h]
    rw [this]; exact ⟨⟨rfl, rfl, rfl, rfl, rfl, rfl, rfl, rfl⟩, rfl⟩
  by_cases hok : okW v
  rotate_left 1
  · have hc1 : bt v = 1 := by rw [bt, if_neg hok]
    rw [hc1]
    refine gQ qh (Nat.le_of_ble_eq_true rfl) ?_
    simp -implicitDefEqProofs only [cdA, go_sem, Go.Proofs.Tryz.f39, wT, cdN, reduceIte, reduceCtorEq, Nat.reduceEqDiff, Nat.reduceAdd, Nat.reduceLeDiff, Nat.reduceSub, Nat.reduceMul, Nat.reduceLT, Nat.reduceShiftRight, Nat.reduceMod, Int.reduceLE, Int.reduceLT, Int.reduceToNat, List.cons.injEq, cdB]
    refine yu qh (Nat.le_of_ble_eq_true rfl) ?_
    simp -implicitDefEqProofs only [cdA, go_sem, Go.Proofs.Tryz.f38, wT, cdN, reduceIte, reduceCtorEq, Nat.reduceEqDiff, Nat.reduceAdd, Nat.reduceLeDiff, Nat.reduceSub, Nat.reduceMul, Nat.reduceLT, Nat.reduceShiftRight, Nat.reduceMod, Int.reduceLE, Int.reduceLT, Int.reduceToNat, List.cons.injEq, cdB]
    refine uc.run kf qh qa (by kernel_rfl) (by kernel_rfl) ?_
    simp -implicitDefEqProofs only [cdA, go_sem, wT, cdN, reduceIte, reduceCtorEq, Nat.reduceEqDiff, Nat.reduceAdd, Nat.reduceLeDiff, Nat.reduceSub, Nat.reduceMul, Nat.reduceLT, Nat.reduceShiftRight, Nat.reduceMod, Int.reduceLE, Int.reduceLT, Int.reduceToNat, List.cons.injEq, cdB]
    exact hbad fun h => hok h.1
  have hck : bt v = 0 := ql.2 hok
  rw [hck]
  by_cases hl : l.length ≤ 32
  rotate_left 1
  · have hl' : ((l.length : Int) ≤ 32) = False := eq_false (by omega)
    refine gQ qh (Nat.le_of_ble_eq_true rfl) ?_
    simp -implicitDefEqProofs only [cdA, go_sem, Go.Proofs.Tryz.f39, hl', decide_false, cdN, reduceIte, reduceCtorEq, Nat.reduceEqDiff, Nat.reduceAdd, Nat.reduceLeDiff, Nat.reduceSub, Nat.reduceMul, Nat.reduceLT, Nat.reduceShiftRight, Nat.reduceMod, Int.reduceLE, Int.reduceLT, Int.reduceToNat, List.cons.injEq, cdB]
    refine yu qh (Nat.le_of_ble_eq_true rfl) ?_
    simp -implicitDefEqProofs only [cdA, go_sem, Go.Proofs.Tryz.f38, wT, cdN, reduceIte, reduceCtorEq, Nat.reduceEqDiff, Nat.reduceAdd, Nat.reduceLeDiff, Nat.reduceSub, Nat.reduceMul, Nat.reduceLT, Nat.reduceShiftRight, Nat.reduceMod, Int.reduceLE, Int.reduceLT, Int.reduceToNat, List.cons.injEq, cdB]
    refine uc.run kf qh qa (by kernel_rfl) (by kernel_rfl) ?_
    simp -implicitDefEqProofs only [cdA, go_sem, wT, cdN, reduceIte, reduceCtorEq, Nat.reduceEqDiff, Nat.reduceAdd, Nat.reduceLeDiff, Nat.reduceSub, Nat.reduceMul, Nat.reduceLT, Nat.reduceShiftRight, Nat.reduceMod, Int.reduceLE, Int.reduceLT, Int.reduceToNat, List.cons.injEq, cdB]
    exact hbad fun h => hl h.2
  have hl' : ((l.length : Int) ≤ 32) = True := eq_true (by omega)
  refine gQ qh (Nat.le_of_ble_eq_true rfl) ?_
  simp -implicitDefEqProofs only [cdA, go_sem, Go.Proofs.Tryz.f39, hl', decide_true, cdN, reduceIte, reduceCtorEq, Nat.reduceEqDiff, Nat.reduceAdd, Nat.reduceLeDiff, Nat.reduceSub, Nat.reduceMul, Nat.reduceLT, Nat.reduceShiftRight, Nat.reduceMod, Int.reduceLE, Int.reduceLT, Int.reduceToNat, List.cons.injEq, cdB]
  have hsm : jx ⟨v.c, l, v.i, v.p, v.f, v.next, v.tick⟩ := by
    have h2 := jo hok
    exact ⟨h2.1, h2.2.1, by show l.length ≤ _; omega, h2.2.2.2.1, h2.2.2.2.2.1, h2.2.2.2.2.2⟩
  have hfin : bF v l = (⟨v.c, l, v.i, v.p, v.f, v.next, v.tick⟩, 0) := by rw [bF, if_pos ⟨hok, hl⟩]
  refine yu qh (Nat.le_of_ble_eq_true rfl) ?_
  simp -implicitDefEqProofs only [cdA, go_sem, Go.Proofs.Tryz.f38, eq_true hsm, cdN, reduceIte, reduceCtorEq, Nat.reduceEqDiff, Nat.reduceAdd, Nat.reduceLeDiff, Nat.reduceSub, Nat.reduceMul, Nat.reduceLT, Nat.reduceShiftRight, Nat.reduceMod, Int.reduceLE, Int.reduceLT, Int.reduceToNat, List.cons.injEq, cdB]
  rw [hfin]
  exact ⟨⟨rfl, rfl, rfl, rfl, rfl, rfl, rfl, rfl⟩, rfl⟩
@[go_sem] def jaM (v : Wl) (l : List Wt) : Prop := (v.f.next ≤ 18446744073709551615)
def zS : List D → Option (Prop × D × Fr)
  | [.agg [.c (.sl z354), .c (.sl z355), .c (.sl z356), .c (.sl z357), .c (.int .u64 z359), .c (.sl z360), .c (.int .u64 z361), .c (.int .u64 z362)], .c (.sl z363)] => some (z354 = chs (ji z354) ∧ z355 = wts (xl z355) ∧ z356 = ivs (xm z356) ∧ z357 = pys (vl z357) ∧ z359 = (z359.toNat : Int) ∧ z360 = evs (yo z360) ∧ z361 = (z361.toNat : Int) ∧ z362 = (z362.toNat : Int) ∧ z363 = wts (xl z363) ∧ jaM (⟨(ji z354), (xl z355), (xm z356), (vl z357), (⟨z359.toNat, (yo z360)⟩ : Fd), z361.toNat, z362.toNat⟩ : Wl) (xl z363), uaK (⟨(ji z354), (xl z355), (xm z356), (vl z357), (⟨z359.toNat, (yo z360)⟩ : Fd), z361.toNat, z362.toNat⟩ : Wl) (xl z363), [])
  | _ => none
attribute [go_sem] zS
theorem zaw : ∀ rs p r fr, zS rs = some (p, r, fr) → p → qg Tryz.prog 23 rs r fr := by
  intro rs p r fr h hp
  unfold zS at h
  split at h <;> cases h
  obtain ⟨hc0, hc1, hc2, hc3, hc4, hc5, hc6, hc7, hc8, hp⟩ := hp
  rename_i z354 z355 z356 z357 z359 z360 z361 z362 z363
  obtain ⟨z354, rfl⟩ : ∃ m, z354 = chs m := ⟨_, hc0⟩
  obtain ⟨z355, rfl⟩ : ∃ m, z355 = wts m := ⟨_, hc1⟩
  obtain ⟨z356, rfl⟩ : ∃ m, z356 = ivs m := ⟨_, hc2⟩
  obtain ⟨z357, rfl⟩ : ∃ m, z357 = pys m := ⟨_, hc3⟩
  obtain ⟨z359, rfl⟩ : ∃ m : Nat, z359 = m := ⟨_, hc4⟩
  obtain ⟨z360, rfl⟩ : ∃ m, z360 = evs m := ⟨_, hc5⟩
  obtain ⟨z361, rfl⟩ : ∃ m : Nat, z361 = m := ⟨_, hc6⟩
  obtain ⟨z362, rfl⟩ : ∃ m : Nat, z362 = m := ⟨_, hc7⟩
  obtain ⟨z363, rfl⟩ : ∃ m, z363 = wts m := ⟨_, hc8⟩
  simp only [Int.toNat_natCast, jb, jc, qc, yc, jd]
  simp only [Int.toNat_natCast, jb, jc, qc, yc, jd, jaM] at hp
  exact za8 ⟨z354, z355, z356, z357, ⟨z359, z360⟩, z361, z362⟩ z363 hp
end Dm
namespace Dm
open Go Go.Proofs Go.IntWalk
def jH : Wl := ⟨[], [], [], [], ⟨1, []⟩, 1, 0⟩
def jah : Ch := ⟨1, 10, 0, 0, 10, [], true⟩
theorem qcv : (yw jH jah).2 = 0 := by decide
theorem jcw : (yw jH jah).1.f.next ≤ 18446744073709551615 := by decide
set_option maxRecDepth 100000 in
theorem zcL : (yl (yw jH jah).1 7 4).2 = (1, 0) := by decide
set_option maxRecDepth 100000 in
theorem jcA : (yl (yw jH jah).1 7 4).1.f.next ≤ 18446744073709551615 ∧ van (yl (yw jH jah).1 7 4).1.c = (6, 4, 0) := by decide
set_option maxRecDepth 100000 in
theorem vcA : (jq (yl (yw jH jah).1 7 4).1 1 false).2 = 0 := by decide
set_option maxRecDepth 100000 in
theorem xcL : van (jq (yl (yw jH jah).1 7 4).1 1 false).1.c = (10, 0, 0) := by decide
@[go_sem] def bbc  : D := .bool true
@[go_sem] abbrev wcR : FuncId := 4
@[go_sem] def wbT : Tab := [(5, xV), (14, wJ), (15, gT), (16, xac), (17, uW)]
theorem qaS : za Tryz.prog wbT := (za.cons x8 (za.cons kU (za.cons k6 (za.cons waI (za.cons k7 za.nil)))))
set_option maxRecDepth 8000 in
set_option maxHeartbeats 1000000 in
theorem wbw   : yb Tryz.prog 4 [] (bbc ) := by
  refine .of (ac4 qaS (Nat.le_of_ble_eq_true rfl) ?_)
  simp -implicitDefEqProofs only [cdA, go_sem, Go.Proofs.Tryz.f4, reduceIte, reduceCtorEq, Nat.reduceEqDiff, Nat.reduceAdd, Nat.reduceLeDiff, Nat.reduceSub, Nat.reduceMul, Nat.reduceLT, Nat.reduceShiftRight, Nat.reduceMod, Int.reduceLE, Int.reduceLT, Int.reduceToNat, List.cons.injEq, cdB]
  have a1 := qcv
  have a2 := jcw
  have a3 := zcL
  obtain ⟨a4, a5⟩ := jcA
  have a6 := vcA
  have a7 := xcL
  unfold jH jah at a1 a2 a3 a4 a5 a6 a7
  simp only [show qq [] = [] from rfl]
  refine ⟨rfl, ?_⟩
  generalize yw _ _ = x at *
  generalize yl x.1 7 4 = y at *
  have b1 : y.2.1 = 1 := congrArg Prod.fst a3
  have b2 : y.2.2 = 0 := congrArg Prod.snd a3
  rw [b1, b2, a5]
  generalize jq y.1 1 false = z at *
  rw [a1, a6, a7]
  exact ⟨a2, a4, by simp⟩
def kaa : List D → Option (Prop × D × Fr)
  | [] => some (True, bbc , [])
  | _ => none
attribute [go_sem] kaa
theorem uaI : ∀ rs p r fr, kaa rs = some (p, r, fr) → p → qg Tryz.prog 4 rs r fr := by
  intro rs p r fr h hp
  unfold kaa at h
  split at h <;> cases h
  exact wbw 
end Dm
namespace Dm
open Go Go.Proofs
set_option maxRecDepth 20000
theorem wf_u64 {n : Int} (h : (Lit.int .u64 n).wf = true) : 0 ≤ n ∧ n ≤ 18446744073709551615 := by
  simp [Lit.wf, IntKind.min, IntKind.max, IntKind.bits, IntKind.signed] at h
  omega
theorem qa4 {k : Nat} {xs : List C} (h : Typ Tryz.prog (k + 1) 28 xs) : ∃ n : Nat, xs = [.int .u64 (n : Int)] ∧ n ≤ 18446744073709551615 := by
  simp only [Typ, Tryz.underlying28] at h
  obtain ⟨n, rfl, h1⟩ := h
  have := wf_u64 h1
  exact ⟨n.toNat, by rw [Int.toNat_of_nonneg (by omega)], by omega⟩
theorem kdh {k : Nat} {xs : List C} (h : Typ Tryz.prog (k + 1) 4 xs) : ∃ b, xs = [.bool b] := by
  simp only [Typ, Tryz.underlying4] at h
  exact h
def Hd.rng (e : Hd) : Prop := e.id ≤ 18446744073709551615 ∧ e.n ≤ 18446744073709551615
theorem ucA {k : Nat} {xs : List C} (h : Typ Tryz.prog (k + 2) 67 xs) : (Hd.dec xs).enc = xs ∧ (Hd.dec xs).rng := by
  simp only [Typ, Tryz.underlying67, qav, Tryz.underlying28] at h
  obtain ⟨_, _, rfl, ⟨s0, rfl, h0⟩, _, _, rfl, ⟨s1, rfl, h1⟩, rfl⟩ := h
  have q0 := wf_u64 h0
  have q1 := wf_u64 h1
  simp only [List.cons_append, List.nil_append, List.append_nil]
  refine ⟨by simp [Hd.dec, Hd.enc, Int.toNat_of_nonneg q0.1, Int.toNat_of_nonneg q1.1], ?_⟩
  simp only [Hd.dec, Hd.rng]
  exact ⟨by omega, by omega⟩
theorem xa5 {els : List (List C)} (h : ∀ x ∈ els, (Hd.dec x).enc = x) : hds (qq els) = els := by
  simp only [hds, qq, List.map_map]
  refine (List.map_congr_left fun x hx => ?_).trans (List.map_id _)
  exact h x hx
theorem ucO {k : Nat} {xs : List C} (h : Typ Tryz.prog (k + 3) 35 xs) : ∃ l, xs = [.sl (hds l)] ∧ ∀ e ∈ l, e.rng := by
  simp only [Typ, Tryz.underlying35] at h
  obtain ⟨els, rfl, _, h2⟩ := h
  have h3 : ∀ x ∈ els, (Hd.dec x).enc = x ∧ (Hd.dec x).rng := fun x hx => ucA (k := k) (h2 x hx)
  refine ⟨qq els, by rw [xa5 fun x hx => (h3 x hx).1], fun e he => ?_⟩
  obtain ⟨x, hx, rfl⟩ := List.mem_map.1 he
  exact (h3 x hx).2
def Ch.rng (e : Ch) : Prop := e.id ≤ 18446744073709551615 ∧ e.loc ≤ 18446744073709551615 ∧ e.rem ≤ 18446744073709551615 ∧ e.res ≤ 18446744073709551615 ∧ e.most ≤ 18446744073709551615 ∧ (∀ q ∈ e.holds, q.rng) ∧ True
theorem jcC {k : Nat} {xs : List C} (h : Typ Tryz.prog (k + 4) 37 xs) : (Ch.dec xs).enc = xs ∧ (Ch.dec xs).rng := by
  simp only [Typ, Tryz.underlying37, qav, Tryz.underlying4, Tryz.underlying28] at h
  obtain ⟨_, _, rfl, ⟨s0, rfl, h0⟩, _, _, rfl, ⟨s1, rfl, h1⟩, _, _, rfl, ⟨s2, rfl, h2⟩, _, _, rfl, ⟨s3, rfl, h3⟩, _, _, rfl, ⟨s4, rfl, h4⟩, _, _, rfl, hs5, _, _, rfl, ⟨s6, rfl⟩, rfl⟩ := h
  have q0 := wf_u64 h0
  have q1 := wf_u64 h1
  have q2 := wf_u64 h2
  have q3 := wf_u64 h3
  have q4 := wf_u64 h4
  obtain ⟨s5, rfl, q5⟩ := ucO (k := k + 0) hs5
  simp only [List.cons_append, List.nil_append, List.append_nil]
  refine ⟨by simp [Ch.dec, Ch.enc, Int.toNat_of_nonneg q0.1, Int.toNat_of_nonneg q1.1, Int.toNat_of_nonneg q2.1, Int.toNat_of_nonneg q3.1, Int.toNat_of_nonneg q4.1, ze], ?_⟩
  simp only [Ch.dec, Ch.rng, ze]
  exact ⟨by omega, by omega, by omega, by omega, by omega, q5, trivial⟩
def Wt.rng (e : Wt) : Prop := e.id ≤ 18446744073709551615 ∧ True
theorem jbM {k : Nat} {xs : List C} (h : Typ Tryz.prog (k + 2) 172 xs) : (Wt.dec xs).enc = xs ∧ (Wt.dec xs).rng := by
  simp only [Typ, Tryz.underlying172, qav, Tryz.underlying28, Tryz.underlying170] at h
  obtain ⟨_, _, rfl, ⟨s0, rfl, h0⟩, _, _, rfl, ⟨s1, rfl, h1⟩, rfl⟩ := h
  have q0 := wf_u64 h0
  simp only [List.cons_append, List.nil_append, List.append_nil]
  refine ⟨by simp [Wt.dec, Wt.enc, Int.toNat_of_nonneg q0.1], ?_⟩
  simp only [Wt.dec, Wt.rng]
  exact ⟨by omega, trivial⟩
theorem vbb {els : List (List C)} (h : ∀ x ∈ els, (Wt.dec x).enc = x) : wts (xl els) = els := by
  simp only [wts, xl, List.map_map]
  refine (List.map_congr_left fun x hx => ?_).trans (List.map_id _)
  exact h x hx
theorem wcq {k : Nat} {xs : List C} (h : Typ Tryz.prog (k + 3) 25 xs) : ∃ l, xs = [.sl (wts l)] ∧ ∀ e ∈ l, e.rng := by
  simp only [Typ, Tryz.underlying25] at h
  obtain ⟨els, rfl, _, h2⟩ := h
  have h3 : ∀ x ∈ els, (Wt.dec x).enc = x ∧ (Wt.dec x).rng := fun x hx => jbM (k := k) (h2 x hx)
  refine ⟨xl els, by rw [vbb fun x hx => (h3 x hx).1], fun e he => ?_⟩
  obtain ⟨x, hx, rfl⟩ := List.mem_map.1 he
  exact (h3 x hx).2
def Iv.rng (e : Iv) : Prop := e.hash ≤ 18446744073709551615 ∧ e.n ≤ 18446744073709551615 ∧ e.till ≤ 18446744073709551615 ∧ (-9223372036854775808 ≤ e.state ∧ e.state ≤ 9223372036854775807)
def Py.rng (e : Py) : Prop := e.id ≤ 18446744073709551615 ∧ e.hash ≤ 18446744073709551615 ∧ e.chan ≤ 18446744073709551615 ∧ e.n ≤ 18446744073709551615 ∧ (-9223372036854775808 ≤ e.state ∧ e.state ≤ 9223372036854775807)
def Ev.rng (e : Ev) : Prop := e.seq ≤ 18446744073709551615 ∧ (-9223372036854775808 ≤ e.kind ∧ e.kind ≤ 9223372036854775807) ∧ e.a ≤ 18446744073709551615 ∧ e.n ≤ 18446744073709551615
def Fd.rng (e : Fd) : Prop := e.next ≤ 18446744073709551615 ∧ (∀ q ∈ e.l, q.rng)
def Wl.rng (w : Wl) : Prop := (∀ e ∈ w.c, e.rng) ∧ (∀ e ∈ w.w, e.rng) ∧ (∀ e ∈ w.i, e.rng) ∧ (∀ e ∈ w.p, e.rng) ∧ w.f.rng ∧ w.next ≤ 18446744073709551615 ∧ w.tick ≤ 18446744073709551615
end Dm
namespace Dm
open Go Go.Proofs Go.IntWalk
def uav (c : Ch) (n : Nat) : Int := if ¬ gj c ∨ ¬ n ≤ MM then 1 else if c.op = false then 14 else if c.rem < n then 9 else 0
def qM (c : Ch) (n : Nat) : Ch × Int := if uav c n = 0 then (⟨c.id, c.loc + n, c.rem - n, c.res, c.most, c.holds, c.op⟩, 0) else (default, uav c n)
theorem ybQ {c : Ch} {n : Nat} : (qM c n).2 = uav c n := by
  unfold qM
  split
  · rename_i h; exact h.symm
  · rfl
@[go_sem] def yaR (c : Ch) (n : Nat) : D := .tup [.agg [.int .u64 (qM c n).1.id, .int .u64 (qM c n).1.loc, .int .u64 (qM c n).1.rem, .int .u64 (qM c n).1.res, .int .u64 (qM c n).1.most, .sl (hds (qM c n).1.holds), .bool (qM c n).1.op], .int .i64 (qM c n).2]
@[go_sem] abbrev bcI : FuncId := 102
@[go_sem] def qbk : Tab := [(75, qp), (40, jg), (134, bC), (73, zx)]
theorem jaI : za Tryz.prog qbk := (za.cons yp (za.cons yg (za.cons yP (za.cons zD za.nil))))
set_option maxRecDepth 8000 in
set_option maxHeartbeats 1000000 in
theorem qa2 (c : Ch) (n : Nat)  : yb Tryz.prog 102 [.agg [.c (.int .u64 (c.id : Int)), .c (.int .u64 (c.loc : Int)), .c (.int .u64 (c.rem : Int)), .c (.int .u64 (c.res : Int)), .c (.int .u64 (c.most : Int)), .sl (hds c.holds), .c (.bool c.op)], .c (.int .u64 (n : Int))] (yaR c n) := by
  refine .of (xcv jaI (Nat.le_of_ble_eq_true rfl) ?_)
  simp -implicitDefEqProofs only [cdA, go_sem, Go.Proofs.Tryz.f102, reduceIte, reduceCtorEq, Nat.reduceEqDiff, Nat.reduceAdd, Nat.reduceLeDiff, Nat.reduceSub, Nat.reduceMul, Nat.reduceLT, Nat.reduceShiftRight, Nat.reduceMod, Int.reduceLE, Int.reduceLT, Int.reduceToNat, List.cons.injEq, cdB]
  have hc0 : yaz c = 0 ↔ gj c := by unfold yaz; split <;> rename_i h <;> simp only [h] <;> decide
  have hm : xX [n] = 0 ↔ n ≤ MM := xak
  have hbad : ∀ k, uav c n = k → ¬ k = 0 → (0 = ((qM c n).1.id : Int) ∧ 0 = ((qM c n).1.loc : Int) ∧ 0 = ((qM c n).1.rem : Int) ∧ 0 = ((qM c n).1.res : Int) ∧ 0 = ((qM c n).1.most : Int) ∧ hds (qM c n).1.holds = [] ∧ false = (qM c n).1.op) ∧ k = (qM c n).2 := fun k hk h0 => by
    have : qM c n = (default, k) := by rw [qM, if_neg (by rw [hk]; exact h0), hk]
    rw [this]; exact ⟨⟨rfl, rfl, rfl, rfl, rfl, rfl, rfl⟩, rfl⟩
  refine ⟨fun h1 => ⟨fun h2 => ?_, fun h2 => hbad 1 (by rw [uav, if_pos (.inr fun h => h2 (hm.2 h))]) (by decide)⟩, fun h1 => hbad 1 (by rw [uav, if_pos (.inl fun h => h1 (hc0.2 h))]) (by decide)⟩
  have hok := hc0.1 h1
  have hn := hm.1 h2
  have hr : c.rem ≤ MM := hok.2.2.2.2.2.2.2.2.1
  have hl : c.loc ≤ MM := hok.2.2.2.2.2.2.2.1
  have hA : ¬ (¬ gj c ∨ ¬ n ≤ MM) := by rintro (h | h) <;> first | exact h hok | exact h hn
  unfold MM at hn hr hl
  rw [xbW, if_pos ⟨hr, hn⟩]
  refine ⟨fun h3 => ?_, fun h3 => hbad 14 (by rw [uav, if_neg hA, if_pos h3]) (by decide)⟩
  have h3' : ¬ c.op = false := by rw [h3]; decide
  by_cases h4 : n ≤ c.rem
  · have e : uav c n = 0 := by rw [uav, if_neg hA, if_neg h3', if_neg (by omega)]
    rw [if_pos h4, qM, if_pos e]
    refine ⟨fun _ => ⟨by have := hok.2.2.1; omega, ⟨rfl, by rw [u64_in _ (by omega)]; dsimp only; omega, rfl, rfl, rfl, rfl, rfl⟩, rfl⟩, fun h => absurd rfl h⟩
  · rw [if_neg h4]
    exact ⟨fun h => absurd (show (9 : Int) = 0 from h) (by decide), fun _ => hbad 9 (by rw [uav, if_neg hA, if_neg h3', if_pos (by omega)]) (by decide)⟩
def kR : List D → Option (Prop × D × Fr)
  | [.agg [.c (.int .u64 z383), .c (.int .u64 z384), .c (.int .u64 z385), .c (.int .u64 z386), .c (.int .u64 z387), .c (.sl z388), .c (.bool z389)], .c (.int .u64 z390)] => some (z383 = (z383.toNat : Int) ∧ z384 = (z384.toNat : Int) ∧ z385 = (z385.toNat : Int) ∧ z386 = (z386.toNat : Int) ∧ z387 = (z387.toNat : Int) ∧ z388 = hds (qq z388) ∧ z390 = (z390.toNat : Int), yaR (⟨z383.toNat, z384.toNat, z385.toNat, z386.toNat, z387.toNat, (qq z388), z389⟩ : Ch) z390.toNat, [])
  | _ => none
attribute [go_sem] kR
theorem qat : ∀ rs p r fr, kR rs = some (p, r, fr) → p → qg Tryz.prog 102 rs r fr := by
  intro rs p r fr h hp
  unfold kR at h
  split at h <;> cases h
  obtain ⟨hc0, hc1, hc2, hc3, hc4, hc5, hc6⟩ := hp
  rename_i z383 z384 z385 z386 z387 z388 z389 z390
  obtain ⟨z383, rfl⟩ : ∃ m : Nat, z383 = m := ⟨_, hc0⟩
  obtain ⟨z384, rfl⟩ : ∃ m : Nat, z384 = m := ⟨_, hc1⟩
  obtain ⟨z385, rfl⟩ : ∃ m : Nat, z385 = m := ⟨_, hc2⟩
  obtain ⟨z386, rfl⟩ : ∃ m : Nat, z386 = m := ⟨_, hc3⟩
  obtain ⟨z387, rfl⟩ : ∃ m : Nat, z387 = m := ⟨_, hc4⟩
  obtain ⟨z388, rfl⟩ : ∃ m, z388 = hds m := ⟨_, hc5⟩
  obtain ⟨z390, rfl⟩ : ∃ m : Nat, z390 = m := ⟨_, hc6⟩
  simp only [Int.toNat_natCast, ze]
  exact qa2 ⟨z383, z384, z385, z386, z387, z388, z389⟩ z390
def kaB (c : Ch) : Int := if ¬ gj c then 1 else if c.op = false then 14 else if c.holds.length ≠ 0 then 10 else 0
def zM (c : Ch) : Ch × Int := if kaB c = 0 then (⟨c.id, c.loc, c.rem, c.res, c.most, [], false⟩, 0) else (default, kaB c)
theorem gb0 {c : Ch} : (zM c).2 = kaB c := by
  unfold zM
  split
  · rename_i h; exact h.symm
  · rfl
@[go_sem] def bax (c : Ch) : D := .tup [.agg [.int .u64 (zM c).1.id, .int .u64 (zM c).1.loc, .int .u64 (zM c).1.rem, .int .u64 (zM c).1.res, .int .u64 (zM c).1.most, .sl (hds (zM c).1.holds), .bool (zM c).1.op], .int .i64 (zM c).2]
@[go_sem] abbrev kce : FuncId := 103
@[go_sem] def uba : Tab := [(75, qp)]
theorem xar : za Tryz.prog uba := (za.cons yp za.nil)
set_option maxRecDepth 8000 in
set_option maxHeartbeats 1000000 in
theorem qaQ (c : Ch)  : yb Tryz.prog 103 [.agg [.c (.int .u64 (c.id : Int)), .c (.int .u64 (c.loc : Int)), .c (.int .u64 (c.rem : Int)), .c (.int .u64 (c.res : Int)), .c (.int .u64 (c.most : Int)), .sl (hds c.holds), .c (.bool c.op)]] (bax c) := by
  refine .of (gcu xar (Nat.le_of_ble_eq_true rfl) ?_)
  simp -implicitDefEqProofs only [cdA, go_sem, Go.Proofs.Tryz.f103, reduceIte, reduceCtorEq, Nat.reduceEqDiff, Nat.reduceAdd, Nat.reduceLeDiff, Nat.reduceSub, Nat.reduceMul, Nat.reduceLT, Nat.reduceShiftRight, Nat.reduceMod, Int.reduceLE, Int.reduceLT, Int.reduceToNat, List.cons.injEq, cdB]
  have hc0 : yaz c = 0 ↔ gj c := by unfold yaz; split <;> rename_i h <;> simp only [h] <;> decide
  have hbad : ∀ k, kaB c = k → ¬ k = 0 → (0 = ((zM c).1.id : Int) ∧ 0 = ((zM c).1.loc : Int) ∧ 0 = ((zM c).1.rem : Int) ∧ 0 = ((zM c).1.res : Int) ∧ 0 = ((zM c).1.most : Int) ∧ hds (zM c).1.holds = [] ∧ false = (zM c).1.op) ∧ k = (zM c).2 := fun k hk h0 => by
    have : zM c = (default, k) := by rw [zM, if_neg (by rw [hk]; exact h0), hk]
    rw [this]; exact ⟨⟨rfl, rfl, rfl, rfl, rfl, rfl, rfl⟩, rfl⟩
  refine ⟨fun h1 => ?_, fun h1 => hbad 1 (by rw [kaB, if_pos fun h => h1 (hc0.2 h)]) (by decide)⟩
  have hok := hc0.1 h1
  refine ⟨fun h3 _ => ?_, fun h3 => hbad 14 (by rw [kaB, if_neg (fun h => h hok), if_pos h3]) (by decide)⟩
  have h3' : ¬ c.op = false := by rw [h3]; decide
  refine ⟨fun h4 => hbad 10 (by rw [kaB, if_neg (fun h => h hok), if_neg h3', if_pos (by omega)]) (by decide), fun h4 => ?_⟩
  have e : kaB c = 0 := by rw [kaB, if_neg (fun h => h hok), if_neg h3', if_neg (by omega)]
  rw [zM, if_pos e]
  exact ⟨⟨rfl, rfl, rfl, rfl, rfl, rfl, rfl⟩, rfl⟩
def bJ : List D → Option (Prop × D × Fr)
  | [.agg [.c (.int .u64 z392), .c (.int .u64 z393), .c (.int .u64 z394), .c (.int .u64 z395), .c (.int .u64 z396), .c (.sl z397), .c (.bool z398)]] => some (z392 = (z392.toNat : Int) ∧ z393 = (z393.toNat : Int) ∧ z394 = (z394.toNat : Int) ∧ z395 = (z395.toNat : Int) ∧ z396 = (z396.toNat : Int) ∧ z397 = hds (qq z397), bax (⟨z392.toNat, z393.toNat, z394.toNat, z395.toNat, z396.toNat, (qq z397), z398⟩ : Ch), [])
  | _ => none
attribute [go_sem] bJ
theorem yan : ∀ rs p r fr, bJ rs = some (p, r, fr) → p → qg Tryz.prog 103 rs r fr := by
  intro rs p r fr h hp
  unfold bJ at h
  split at h <;> cases h
  obtain ⟨hc0, hc1, hc2, hc3, hc4, hc5⟩ := hp
  rename_i z392 z393 z394 z395 z396 z397 z398
  obtain ⟨z392, rfl⟩ : ∃ m : Nat, z392 = m := ⟨_, hc0⟩
  obtain ⟨z393, rfl⟩ : ∃ m : Nat, z393 = m := ⟨_, hc1⟩
  obtain ⟨z394, rfl⟩ : ∃ m : Nat, z394 = m := ⟨_, hc2⟩
  obtain ⟨z395, rfl⟩ : ∃ m : Nat, z395 = m := ⟨_, hc3⟩
  obtain ⟨z396, rfl⟩ : ∃ m : Nat, z396 = m := ⟨_, hc4⟩
  obtain ⟨z397, rfl⟩ : ∃ m, z397 = hds m := ⟨_, hc5⟩
  simp only [Int.toNat_natCast, ze]
  exact qaQ ⟨z392, z393, z394, z395, z396, z397, z398⟩
def bX (l : List Ch) (id n : Nat) : List Ch × Int :=
  if zl l then (if Srt.thr Ch.id ltN l id = true then (if uav (l.getD (Srt.pos Ch.id ltN l id) default) n = 0 then (l.set (Srt.pos Ch.id ltN l id) (qM (l.getD (Srt.pos Ch.id ltN l id) default) n).1, 0) else ([], uav (l.getD (Srt.pos Ch.id ltN l id) default) n)) else ([], 5)) else ([], 1)
@[go_sem] def gaW (l : List Ch) (id : Nat) (n : Nat) : D := .tup [.sl (chs (bX l id n).1), .int .i64 (bX l id n).2]
@[go_sem] abbrev ycM : FuncId := 59
@[go_sem] def wbs : Tab := [(29, gu), (102, kR), (77, uC)]
theorem kM : za Tryz.prog wbs := (za.cons jt (za.cons qat (za.cons yz za.nil)))
set_option maxRecDepth 8000 in
set_option maxHeartbeats 1000000 in
theorem ua6 (l : List Ch) (id : Nat) (n : Nat)  : yb Tryz.prog 59 [.sl (chs l), .c (.int .u64 (id : Int)), .c (.int .u64 (n : Int))] (gaW l id n) := by
  refine .of (jdk kM (Nat.le_of_ble_eq_true rfl) ?_)
  simp -implicitDefEqProofs only [cdA, go_sem, Go.Proofs.Tryz.f59, reduceIte, reduceCtorEq, Nat.reduceEqDiff, Nat.reduceAdd, Nat.reduceLeDiff, Nat.reduceSub, Nat.reduceMul, Nat.reduceLT, Nat.reduceShiftRight, Nat.reduceMod, Int.reduceLE, Int.reduceLT, Int.reduceToNat, List.cons.injEq, cdB]
  refine xck kM (Nat.le_of_ble_eq_true rfl) ?_
  simp -implicitDefEqProofs only [cdA, go_sem, Go.Proofs.Tryz.f90, reduceIte, reduceCtorEq, Nat.reduceEqDiff, Nat.reduceAdd, Nat.reduceLeDiff, Nat.reduceSub, Nat.reduceMul, Nat.reduceLT, Nat.reduceShiftRight, Nat.reduceMod, Int.reduceLE, Int.reduceLT, Int.reduceToNat, List.cons.injEq, cdB]
  by_cases hok : zl l
  · by_cases ht : Srt.thr Ch.id ltN l id = true
    · have e1 : jf l id = (((Srt.pos Ch.id ltN l id : Nat) : Int), 0) := by rw [jf, if_pos hok, if_pos ht]
      have hp : Srt.pos Ch.id ltN l id < l.length := by
        unfold Srt.thr at ht
        exact (of_decide_eq_true ht).1
      rw [e1, Int.toNat_natCast, bX, if_pos hok, if_pos ht]
      refine ⟨fun _ => ⟨⟨by omega, by omega⟩, ?_⟩, fun h => absurd rfl h⟩
      refine bcC kM (Nat.le_of_ble_eq_true rfl) ?_
      simp -implicitDefEqProofs only [cdA, go_sem, Go.Proofs.Tryz.f101, reduceIte, reduceCtorEq, Nat.reduceEqDiff, Nat.reduceAdd, Nat.reduceLeDiff, Nat.reduceSub, Nat.reduceMul, Nat.reduceLT, Nat.reduceShiftRight, Nat.reduceMod, Int.reduceLE, Int.reduceLT, Int.reduceToNat, List.cons.injEq, cdB]
      have h32 : l.length ≤ 1000000 ∧ ∀ c ∈ l, c.holds.length ≤ 1000000 := ⟨by have := hok.1; omega, fun c hc => by have := (hok.2.1 c hc).2.2.1; omega⟩
      rw [ybQ]
      refine ⟨fun h0 => ?_, fun h0 => ?_⟩
      · rw [if_pos h0]
        exact ⟨h32, by omega, hp, ⟨by simp, _, _, _, rfl⟩, rfl⟩
      · rw [if_neg h0]
        exact ⟨rfl, rfl⟩
    · have e1 : jf l id = (0, 5) := by rw [jf, if_pos hok, if_neg ht]
      have e2 : bX l id n = ([], 5) := by rw [bX, if_pos hok, if_neg ht]
      rw [e1, e2]
      exact ⟨fun h => absurd h (by decide), fun _ => ⟨rfl, rfl⟩⟩
  · have e1 : jf l id = (0, 1) := by rw [jf, if_neg hok]
    have e2 : bX l id n = ([], 1) := by rw [bX, if_neg hok]
    rw [e1, e2]
    exact ⟨fun h => absurd h (by decide), fun _ => ⟨rfl, rfl⟩⟩
def vR : List D → Option (Prop × D × Fr)
  | [.c (.sl z399), .c (.int .u64 z400), .c (.int .u64 z401)] => some (z399 = chs (ji z399) ∧ z400 = (z400.toNat : Int) ∧ z401 = (z401.toNat : Int), gaW (ji z399) z400.toNat z401.toNat, [])
  | _ => none
attribute [go_sem] vR
theorem yau : ∀ rs p r fr, vR rs = some (p, r, fr) → p → qg Tryz.prog 59 rs r fr := by
  intro rs p r fr h hp
  unfold vR at h
  split at h <;> cases h
  obtain ⟨hc0, hc1, hc2⟩ := hp
  rename_i z399 z400 z401
  obtain ⟨z399, rfl⟩ : ∃ m, z399 = chs m := ⟨_, hc0⟩
  obtain ⟨z400, rfl⟩ : ∃ m : Nat, z400 = m := ⟨_, hc1⟩
  obtain ⟨z401, rfl⟩ : ∃ m : Nat, z401 = m := ⟨_, hc2⟩
  simp only [Int.toNat_natCast, jb]
  exact ua6 z399 z400 z401
def yY (l : List Ch) (id : Nat) : List Ch × Int :=
  if zl l then (if Srt.thr Ch.id ltN l id = true then (if kaB (l.getD (Srt.pos Ch.id ltN l id) default) = 0 then (l.set (Srt.pos Ch.id ltN l id) (zM (l.getD (Srt.pos Ch.id ltN l id) default)).1, 0) else ([], kaB (l.getD (Srt.pos Ch.id ltN l id) default))) else ([], 5)) else ([], 1)
@[go_sem] def wax (l : List Ch) (id : Nat) : D := .tup [.sl (chs (yY l id).1), .int .i64 (yY l id).2]
@[go_sem] abbrev xcf : FuncId := 61
@[go_sem] def xa1 : Tab := [(29, gu), (103, bJ), (77, uC)]
theorem bT : za Tryz.prog xa1 := (za.cons jt (za.cons yan (za.cons yz za.nil)))
set_option maxRecDepth 8000 in
set_option maxHeartbeats 1000000 in
theorem baR (l : List Ch) (id : Nat)  : yb Tryz.prog 61 [.sl (chs l), .c (.int .u64 (id : Int))] (wax l id) := by
  refine .of (xdk bT (Nat.le_of_ble_eq_true rfl) ?_)
  simp -implicitDefEqProofs only [cdA, go_sem, Go.Proofs.Tryz.f61, reduceIte, reduceCtorEq, Nat.reduceEqDiff, Nat.reduceAdd, Nat.reduceLeDiff, Nat.reduceSub, Nat.reduceMul, Nat.reduceLT, Nat.reduceShiftRight, Nat.reduceMod, Int.reduceLE, Int.reduceLT, Int.reduceToNat, List.cons.injEq, cdB]
  refine xck bT (Nat.le_of_ble_eq_true rfl) ?_
  simp -implicitDefEqProofs only [cdA, go_sem, Go.Proofs.Tryz.f90, reduceIte, reduceCtorEq, Nat.reduceEqDiff, Nat.reduceAdd, Nat.reduceLeDiff, Nat.reduceSub, Nat.reduceMul, Nat.reduceLT, Nat.reduceShiftRight, Nat.reduceMod, Int.reduceLE, Int.reduceLT, Int.reduceToNat, List.cons.injEq, cdB]
  by_cases hok : zl l
  · by_cases ht : Srt.thr Ch.id ltN l id = true
    · have e1 : jf l id = (((Srt.pos Ch.id ltN l id : Nat) : Int), 0) := by rw [jf, if_pos hok, if_pos ht]
      have hp : Srt.pos Ch.id ltN l id < l.length := by
        unfold Srt.thr at ht
        exact (of_decide_eq_true ht).1
      rw [e1, Int.toNat_natCast, yY, if_pos hok, if_pos ht]
      have h32 : l.length ≤ 1000000 ∧ ∀ c ∈ l, c.holds.length ≤ 1000000 := ⟨by have := hok.1; omega, fun c hc => by have := (hok.2.1 c hc).2.2.1; omega⟩
      rw [gb0]
      refine ⟨fun _ => ⟨⟨by omega, by omega⟩, fun h0 => ?_, fun h0 => ?_⟩, fun h => absurd rfl h⟩
      · rw [if_pos h0]
        exact ⟨h32, by omega, hp, ⟨by simp, _, _, _, rfl⟩, rfl⟩
      · rw [if_neg h0]
        exact ⟨rfl, rfl⟩
    · have e1 : jf l id = (0, 5) := by rw [jf, if_pos hok, if_neg ht]
      have e2 : yY l id = ([], 5) := by rw [yY, if_pos hok, if_neg ht]
      rw [e1, e2]
      exact ⟨fun h => absurd h (by decide), fun _ => ⟨rfl, rfl⟩⟩
  · have e1 : jf l id = (0, 1) := by rw [jf, if_neg hok]
    have e2 : yY l id = ([], 1) := by rw [yY, if_neg hok]
    rw [e1, e2]
    exact ⟨fun h => absurd h (by decide), fun _ => ⟨rfl, rfl⟩⟩
def gL : List D → Option (Prop × D × Fr)
  | [.c (.sl z402), .c (.int .u64 z403)] => some (z402 = chs (ji z402) ∧ z403 = (z403.toNat : Int), wax (ji z402) z403.toNat, [])
  | _ => none
attribute [go_sem] gL
theorem wan : ∀ rs p r fr, gL rs = some (p, r, fr) → p → qg Tryz.prog 61 rs r fr := by
  intro rs p r fr h hp
  unfold gL at h
  split at h <;> cases h
  obtain ⟨hc0, hc1⟩ := hp
  rename_i z402 z403
  obtain ⟨z402, rfl⟩ : ∃ m, z402 = chs m := ⟨_, hc0⟩
  obtain ⟨z403, rfl⟩ : ∃ m : Nat, z403 = m := ⟨_, hc1⟩
  simp only [Int.toNat_natCast, jb]
  exact baR z402 z403
end Dm
namespace Dm
open Go Go.Proofs Go.IntWalk
def ux (l : List Iv) (id : Nat) : Int × Int := if xM l then ((Srt.pos Iv.hash ltN l id : Nat), if Srt.thr Iv.hash ltN l id = true then 0 else 5) else (0, 1)
@[go_sem] def waP (l : List Iv) (id : Nat) : D := .tup [.int .i64 (ux l id).1, .int .i64 (ux l id).2]
@[go_sem] abbrev kcC : FuncId := 97
@[go_sem] def wbr : Tab := [(27, yx), (67, kE)]
theorem bN : za Tryz.prog wbr := (za.cons vC (za.cons zP za.nil))
set_option maxRecDepth 8000 in
set_option maxHeartbeats 1000000 in
theorem za6 (l : List Iv) (id : Nat)  : yb Tryz.prog 97 [.sl (ivs l), .c (.int .u64 (id : Int))] (waP l id) := by
  refine .of (ydg bN (Nat.le_of_ble_eq_true rfl) ?_)
  simp -implicitDefEqProofs only [cdA, go_sem, Go.Proofs.Tryz.f97, reduceIte, reduceCtorEq, Nat.reduceEqDiff, Nat.reduceAdd, Nat.reduceLeDiff, Nat.reduceSub, Nat.reduceMul, Nat.reduceLT, Nat.reduceShiftRight, Nat.reduceMod, Int.reduceLE, Int.reduceLT, Int.reduceToNat, List.cons.injEq, cdB]
  have hcz : bas l = 0 ↔ xM l := by unfold bas; split <;> simp_all
  refine ⟨fun hok0 => ?_, fun hno0 => by
    have hno : ¬ xM l := fun h => hno0 (hcz.2 h)
    rw [ux, bas, if_neg hno, if_neg hno]; exact ⟨rfl, rfl⟩⟩
  have hok := hcz.1 hok0
  have hu : Srt.Up Iv.hash ltN l := (Srt.bf (lt := ltN) Srt.ue).1 hok.2.2
  have hl32 := hok.1
  refine gcy bN (Nat.le_of_ble_eq_true rfl) ?_
  simp -implicitDefEqProofs only [cdA, go_sem, Go.Proofs.Tryz.f131, reduceIte, reduceCtorEq, Nat.reduceEqDiff, Nat.reduceAdd, Nat.reduceLeDiff, Nat.reduceSub, Nat.reduceMul, Nat.reduceLT, Nat.reduceShiftRight, Nat.reduceMod, Int.reduceLE, Int.reduceLT, Int.reduceToNat, List.cons.injEq, cdB]
  refine fun _ => SWp.loop (ι := { x : Nat × Nat // x.1 ≤ x.2 ∧ x.2 ≤ l.length ∧ (∀ k, k < x.1 → (l.getD k default).hash < id) ∧ ∀ k, x.2 ≤ k → k < l.length → ¬ (l.getD k default).hash < id }) (fun x => ⟨[(0, .sl (ivs l)), (1, .int .u64 id), (2, .fn (.func 67) [] []), (8, .int .i64 l.length), (9, .int .i64 x.1.1), (10, .int .i64 x.1.2)], [], 0⟩) (fun x => x.1.2 - x.1.1) ⟨(0, l.length), by simp, by simp, fun k hk => absurd hk (by simp), fun k h1 h2 => absurd h1 (by simpa using h2)⟩ ?_ ?_
  · simp [go_sem]
  · rintro ⟨⟨i, j⟩, hij, hj, hlo, hup⟩
    dsimp only at hij hj hlo hup
    refine qb bN.toS gbw _ _ _ rfl ?_
    simp -implicitDefEqProofs only [cdA, go_sem, reduceIte, reduceCtorEq, Nat.reduceEqDiff, Nat.reduceAdd, Nat.reduceLeDiff, Nat.reduceSub, Nat.reduceMul, Nat.reduceLT, Nat.reduceShiftRight, Nat.reduceMod, Int.reduceLE, Int.reduceLT, Int.reduceToNat, List.cons.injEq, cdB]
    rw [wV hij hj ‹_›]
    refine ⟨fun h4 => ?_, fun h4 => ?_⟩
    · have hm : (i + j) / 2 < l.length := by omega
      rw [xk, Int.toNat_natCast]
      refine ⟨by omega, fun h5 => ⟨⟨((i + j) / 2 + 1, j), by dsimp only; omega, hj, fun k hk => ?_, hup⟩, by dsimp only; omega, i64_in _ (by omega), rfl⟩, fun h5 => ⟨⟨(i, (i + j) / 2), by dsimp only; omega, by dsimp only; omega, hlo, fun k hk1 hk2 => ?_⟩, by dsimp only; omega, rfl, rfl⟩⟩
      · dsimp only at hk
        by_cases hkm : k = (i + j) / 2
        · rw [hkm]; omega
        · have := Srt.ki.1 hu k _ (by omega) hm
          simp only [ltN] at this; omega
      · dsimp only at hk1
        by_cases hkm : k = (i + j) / 2
        · rw [hkm]; omega
        · have := Srt.ki.1 hu ((i + j) / 2) k (by omega) hk2
          simp only [ltN] at this; omega
    · have hp : Srt.pos Iv.hash ltN l id = i := Srt.pos_eq (by omega) hlo (fun h => hup i (by omega) h)
      rw [ux, if_pos hok, Srt.thr, hp, vA]
      refine ⟨fun h5 => ⟨by omega, fun h6 => ?_, fun h6 => ?_⟩, fun h5 => ?_⟩
      · rw [if_pos (decide_eq_true ⟨by omega, by omega⟩)]; exact ⟨rfl, rfl⟩
      · rw [if_neg (by rw [decide_eq_true_iff]; omega)]; exact ⟨rfl, rfl⟩
      · rw [if_neg (by rw [decide_eq_true_iff]; omega)]; exact ⟨rfl, rfl⟩
def yF : List D → Option (Prop × D × Fr)
  | [.c (.sl z364), .c (.int .u64 z365)] => some (z364 = ivs (xm z364) ∧ z365 = (z365.toNat : Int), waP (xm z364) z365.toNat, [])
  | _ => none
attribute [go_sem] yF
theorem kI : ∀ rs p r fr, yF rs = some (p, r, fr) → p → qg Tryz.prog 97 rs r fr := by
  intro rs p r fr h hp
  unfold yF at h
  split at h <;> cases h
  obtain ⟨hc0, hc1⟩ := hp
  rename_i z364 z365
  obtain ⟨z364, rfl⟩ : ∃ m, z364 = ivs m := ⟨_, hc0⟩
  obtain ⟨z365, rfl⟩ : ∃ m : Nat, z365 = m := ⟨_, hc1⟩
  simp only [Int.toNat_natCast, qc]
  exact za6 z364 z365
def baJ (x : Iv) (tick : Nat) : Int := if x.state = 1 ∧ x.till < tick then 4 else x.state
@[go_sem] def jbc (x : Iv) (tick : Nat) : D := .int .i64 (baJ x tick)
@[go_sem] abbrev gc1 : FuncId := 105
@[go_sem] def wb0 : Tab := []
theorem vaV : za Tryz.prog wb0 := za.nil
set_option maxRecDepth 8000 in
set_option maxHeartbeats 1000000 in
theorem kbA (x : Iv) (tick : Nat)  : yb Tryz.prog 105 [.agg [.c (.int .u64 (x.hash : Int)), .c (.int .u64 (x.n : Int)), .c (.int .u64 (x.till : Int)), .c (.int .i64 x.state)], .c (.int .u64 (tick : Int))] (jbc x tick) := by
  refine .of (xcz vaV (Nat.le_of_ble_eq_true rfl) ?_)
  simp -implicitDefEqProofs only [cdA, go_sem, Go.Proofs.Tryz.f105, reduceIte, reduceCtorEq, Nat.reduceEqDiff, Nat.reduceAdd, Nat.reduceLeDiff, Nat.reduceSub, Nat.reduceMul, Nat.reduceLT, Nat.reduceShiftRight, Nat.reduceMod, Int.reduceLE, Int.reduceLT, Int.reduceToNat, List.cons.injEq, cdB]
  unfold baJ
  refine ⟨fun h1 => ⟨fun h2 => ?_, fun h2 => ?_⟩, fun h1 => ?_⟩
  · rw [if_pos ⟨h1, by omega⟩]
  · rw [if_neg (by rintro ⟨_, h⟩; omega)]
  · rw [if_neg (by rintro ⟨h, _⟩; exact h1 h)]
def zO : List D → Option (Prop × D × Fr)
  | [.agg [.c (.int .u64 z367), .c (.int .u64 z368), .c (.int .u64 z369), .c (.int .i64 z370)], .c (.int .u64 z371)] => some (z367 = (z367.toNat : Int) ∧ z368 = (z368.toNat : Int) ∧ z369 = (z369.toNat : Int) ∧ z371 = (z371.toNat : Int), jbc (⟨z367.toNat, z368.toNat, z369.toNat, z370⟩ : Iv) z371.toNat, [])
  | _ => none
attribute [go_sem] zO
theorem qN : ∀ rs p r fr, zO rs = some (p, r, fr) → p → qg Tryz.prog 105 rs r fr := by
  intro rs p r fr h hp
  unfold zO at h
  split at h <;> cases h
  obtain ⟨hc0, hc1, hc2, hc3⟩ := hp
  rename_i z367 z368 z369 z370 z371
  obtain ⟨z367, rfl⟩ : ∃ m : Nat, z367 = m := ⟨_, hc0⟩
  obtain ⟨z368, rfl⟩ : ∃ m : Nat, z368 = m := ⟨_, hc1⟩
  obtain ⟨z369, rfl⟩ : ∃ m : Nat, z369 = m := ⟨_, hc2⟩
  obtain ⟨z371, rfl⟩ : ∃ m : Nat, z371 = m := ⟨_, hc3⟩
  simp only [Int.toNat_natCast]
  exact kbA ⟨z367, z368, z369, z370⟩ z371
@[go_sem] def w5 (l : List Iv) : D := .vec 0 l.length
@[go_sem] def yW (l : List Iv) : Fr := [(4, 117, true, ivs l)]
@[go_sem] abbrev wbI : FuncId := 99
@[go_sem] def waJ : Tab := []
theorem wac : za Tryz.prog waJ := za.nil
set_option maxRecDepth 8000 in
set_option maxHeartbeats 1000000 in
theorem kas (l : List Iv) (hl : l.length ≤ 1000000) : zn Tryz.prog 99 [.sl (ivs l)] (w5 l) (yW l) := by
  refine .of (bc4 wac (Nat.le_of_ble_eq_true rfl) ?_)
  simp -implicitDefEqProofs only [cdA, go_sem, Go.Proofs.Tryz.f99, reduceIte, reduceCtorEq, Nat.reduceEqDiff, Nat.reduceAdd, Nat.reduceLeDiff, Nat.reduceSub, Nat.reduceMul, Nat.reduceLT, Nat.reduceShiftRight, Nat.reduceMod, Int.reduceLE, Int.reduceLT, Int.reduceToNat, List.cons.injEq, cdB]
  refine fun b hb => ⟨fun h => ?_, fun h => ?_⟩
  · exact ⟨[none], by simp [go_sem, hb h], by cases l <;> simp_all [go_sem, ivs]⟩
  · exact ⟨by omega, [some 0], by simp [go_sem]⟩
@[go_sem] def j6 (l : List Iv) : Prop := (l.length ≤ 1000000)
def jk : List D → Option (Prop × D × Fr)
  | [.c (.sl z372)] => some (z372 = ivs (xm z372) ∧ j6 (xm z372), w5 (xm z372), yW (xm z372))
  | _ => none
attribute [go_sem] jk
theorem xo : ∀ rs p r fr, jk rs = some (p, r, fr) → p → qg Tryz.prog 99 rs r fr := by
  intro rs p r fr h hp
  unfold jk at h
  split at h <;> cases h
  obtain ⟨hc0, hp⟩ := hp
  rename_i z372
  obtain ⟨z372, rfl⟩ : ∃ m, z372 = ivs m := ⟨_, hc0⟩
  simp only [qc]
  simp only [qc, j6] at hp
  exact (show qg _ _ _ _ _ from And.intro rfl (kas z372 hp))
def wE (l : List Iv) (hash tick n : Nat) : Int :=
  if xM l then (if Srt.thr Iv.hash ltN l hash = true then (if baJ (l.getD (Srt.pos Iv.hash ltN l hash) default) tick = 4 then 13 else if baJ (l.getD (Srt.pos Iv.hash ltN l hash) default) tick ≠ 1 then 10 else if n < (l.getD (Srt.pos Iv.hash ltN l hash) default).n then 9 else 0) else 5) else 1
def qj (l : List Iv) (hash tick n : Nat) (st : Int) : List Iv × Int :=
  if wE l hash tick n = 0 then (l.set (Srt.pos Iv.hash ltN l hash) { l.getD (Srt.pos Iv.hash ltN l hash) default with state := st }, 0) else ([], wE l hash tick n)
@[go_sem] def jao (l : List Iv) (hash : Nat) (tick : Nat) : D := .tup [.sl (ivs (qj l hash tick MM 3).1), .int .i64 (qj l hash tick MM 3).2]
@[go_sem] abbrev kb3 : FuncId := 55
@[go_sem] def qaW : Tab := [(97, yF), (105, zO), (99, jk)]
theorem xP : za Tryz.prog qaW := (za.cons kI (za.cons qN (za.cons xo za.nil)))
set_option maxRecDepth 8000 in
set_option maxHeartbeats 1000000 in
theorem xaJ (l : List Iv) (hash : Nat) (tick : Nat)  : yb Tryz.prog 55 [.sl (ivs l), .c (.int .u64 (hash : Int)), .c (.int .u64 (tick : Int))] (jao l hash tick) := by
  refine .of (zdd xP (Nat.le_of_ble_eq_true rfl) ?_)
  simp -implicitDefEqProofs only [cdA, go_sem, Go.Proofs.Tryz.f55, reduceIte, reduceCtorEq, Nat.reduceEqDiff, Nat.reduceAdd, Nat.reduceLeDiff, Nat.reduceSub, Nat.reduceMul, Nat.reduceLT, Nat.reduceShiftRight, Nat.reduceMod, Int.reduceLE, Int.reduceLT, Int.reduceToNat, List.cons.injEq, cdB]
  refine qb3 xP (Nat.le_of_ble_eq_true rfl) ?_
  simp -implicitDefEqProofs only [cdA, go_sem, Go.Proofs.Tryz.f100, reduceIte, reduceCtorEq, Nat.reduceEqDiff, Nat.reduceAdd, Nat.reduceLeDiff, Nat.reduceSub, Nat.reduceMul, Nat.reduceLT, Nat.reduceShiftRight, Nat.reduceMod, Int.reduceLE, Int.reduceLT, Int.reduceToNat, List.cons.injEq, cdB]
  have hbad : ∀ e, wE l hash tick MM = e → ¬ e = 0 → ivs (qj l hash tick MM 3).1 = [] ∧ e = (qj l hash tick MM 3).2 := fun e h1 h2 => by
    rw [qj, if_neg (by rw [h1]; exact h2), h1]; exact ⟨rfl, rfl⟩
  by_cases hok : xM l
  rotate_left 1
  · have ef : ux l hash = (0, 1) := by rw [ux, if_neg hok]
    rw [ef]
    exact ⟨fun h => absurd (show (1 : Int) = 0 from h) (by decide), fun _ => hbad 1 (by rw [wE, if_neg hok]) (by decide)⟩
  by_cases ht : Srt.thr Iv.hash ltN l hash = true
  rotate_left 1
  · have ef : ux l hash = (((Srt.pos Iv.hash ltN l hash : Nat) : Int), 5) := by rw [ux, if_pos hok, if_neg ht]
    rw [ef]
    exact ⟨fun h => absurd (show (5 : Int) = 0 from h) (by decide), fun _ => hbad 5 (by rw [wE, if_pos hok, if_neg ht]) (by decide)⟩
  have ef : ux l hash = (((Srt.pos Iv.hash ltN l hash : Nat) : Int), 0) := by rw [ux, if_pos hok, if_pos ht]
  have hp : Srt.pos Iv.hash ltN l hash < l.length := by
    have ht := ht
    unfold Srt.thr at ht
    exact (of_decide_eq_true ht).1
  have h256 := hok.1
  have he : wE l hash tick MM = if baJ (l.getD (Srt.pos Iv.hash ltN l hash) default) tick = 4 then 13 else if baJ (l.getD (Srt.pos Iv.hash ltN l hash) default) tick ≠ 1 then 10 else if MM < (l.getD (Srt.pos Iv.hash ltN l hash) default).n then 9 else 0 := by rw [wE, if_pos hok, if_pos ht]
  rw [ef]
  dsimp only
  rw [Int.toNat_natCast]
  refine ⟨fun _ => ⟨⟨by omega, by omega⟩, fun h1 => hbad 13 (by rw [he, if_pos h1]) (by decide), fun h1 => ⟨fun h2 => ⟨⟨by omega, by omega⟩, fun h3 => hbad 9 (by rw [he, if_neg h1, if_neg (fun h => h h2), if_pos (by unfold MM; omega)]) (by decide), fun h3 => ?_⟩, fun h2 => hbad 10 (by rw [he, if_neg h1, if_pos h2]) (by decide)⟩⟩, fun h => absurd rfl h⟩
  have h0 : wE l hash tick MM = 0 := by rw [he, if_neg h1, if_neg (fun h => h h2), if_neg (by unfold MM; omega)]
  rw [qj, if_pos h0]
  exact ⟨by omega, ⟨by omega, by omega⟩, hp, ⟨by rw [List.length_set], _, _, _, rfl⟩, rfl⟩
def xG : List D → Option (Prop × D × Fr)
  | [.c (.sl z373), .c (.int .u64 z374), .c (.int .u64 z375)] => some (z373 = ivs (xm z373) ∧ z374 = (z374.toNat : Int) ∧ z375 = (z375.toNat : Int), jao (xm z373) z374.toNat z375.toNat, [])
  | _ => none
attribute [go_sem] xG
theorem kae : ∀ rs p r fr, xG rs = some (p, r, fr) → p → qg Tryz.prog 55 rs r fr := by
  intro rs p r fr h hp
  unfold xG at h
  split at h <;> cases h
  obtain ⟨hc0, hc1, hc2⟩ := hp
  rename_i z373 z374 z375
  obtain ⟨z373, rfl⟩ : ∃ m, z373 = ivs m := ⟨_, hc0⟩
  obtain ⟨z374, rfl⟩ : ∃ m : Nat, z374 = m := ⟨_, hc1⟩
  obtain ⟨z375, rfl⟩ : ∃ m : Nat, z375 = m := ⟨_, hc2⟩
  simp only [Int.toNat_natCast, qc]
  exact xaJ z373 z374 z375
@[go_sem] def bbf (l : List Iv) (hash : Nat) (n : Nat) (tick : Nat) : D := .tup [.sl (ivs (qj l hash tick n 2).1), .int .i64 (qj l hash tick n 2).2]
@[go_sem] abbrev xcY : FuncId := 57
@[go_sem] def xbR : Tab := [(97, yF), (105, zO), (99, jk)]
theorem vaj : za Tryz.prog xbR := (za.cons kI (za.cons qN (za.cons xo za.nil)))
set_option maxRecDepth 8000 in
set_option maxHeartbeats 1000000 in
theorem jby (l : List Iv) (hash : Nat) (n : Nat) (tick : Nat)  : yb Tryz.prog 57 [.sl (ivs l), .c (.int .u64 (hash : Int)), .c (.int .u64 (n : Int)), .c (.int .u64 (tick : Int))] (bbf l hash n tick) := by
  refine .of (kda vaj (Nat.le_of_ble_eq_true rfl) ?_)
  simp -implicitDefEqProofs only [cdA, go_sem, Go.Proofs.Tryz.f57, reduceIte, reduceCtorEq, Nat.reduceEqDiff, Nat.reduceAdd, Nat.reduceLeDiff, Nat.reduceSub, Nat.reduceMul, Nat.reduceLT, Nat.reduceShiftRight, Nat.reduceMod, Int.reduceLE, Int.reduceLT, Int.reduceToNat, List.cons.injEq, cdB]
  refine qb3 vaj (Nat.le_of_ble_eq_true rfl) ?_
  simp -implicitDefEqProofs only [cdA, go_sem, Go.Proofs.Tryz.f100, reduceIte, reduceCtorEq, Nat.reduceEqDiff, Nat.reduceAdd, Nat.reduceLeDiff, Nat.reduceSub, Nat.reduceMul, Nat.reduceLT, Nat.reduceShiftRight, Nat.reduceMod, Int.reduceLE, Int.reduceLT, Int.reduceToNat, List.cons.injEq, cdB]
  have hbad : ∀ e, wE l hash tick n = e → ¬ e = 0 → ivs (qj l hash tick n 2).1 = [] ∧ e = (qj l hash tick n 2).2 := fun e h1 h2 => by
    rw [qj, if_neg (by rw [h1]; exact h2), h1]; exact ⟨rfl, rfl⟩
  by_cases hok : xM l
  rotate_left 1
  · have ef : ux l hash = (0, 1) := by rw [ux, if_neg hok]
    rw [ef]
    exact ⟨fun h => absurd (show (1 : Int) = 0 from h) (by decide), fun _ => hbad 1 (by rw [wE, if_neg hok]) (by decide)⟩
  by_cases ht : Srt.thr Iv.hash ltN l hash = true
  rotate_left 1
  · have ef : ux l hash = (((Srt.pos Iv.hash ltN l hash : Nat) : Int), 5) := by rw [ux, if_pos hok, if_neg ht]
    rw [ef]
    exact ⟨fun h => absurd (show (5 : Int) = 0 from h) (by decide), fun _ => hbad 5 (by rw [wE, if_pos hok, if_neg ht]) (by decide)⟩
  have ef : ux l hash = (((Srt.pos Iv.hash ltN l hash : Nat) : Int), 0) := by rw [ux, if_pos hok, if_pos ht]
  have hp : Srt.pos Iv.hash ltN l hash < l.length := by
    have ht := ht
    unfold Srt.thr at ht
    exact (of_decide_eq_true ht).1
  have h256 := hok.1
  have he : wE l hash tick n = if baJ (l.getD (Srt.pos Iv.hash ltN l hash) default) tick = 4 then 13 else if baJ (l.getD (Srt.pos Iv.hash ltN l hash) default) tick ≠ 1 then 10 else if n < (l.getD (Srt.pos Iv.hash ltN l hash) default).n then 9 else 0 := by rw [wE, if_pos hok, if_pos ht]
  rw [ef]
  dsimp only
  rw [Int.toNat_natCast]
  refine ⟨fun _ => ⟨⟨by omega, by omega⟩, fun h1 => hbad 13 (by rw [he, if_pos h1]) (by decide), fun h1 => ⟨fun h2 => ⟨⟨by omega, by omega⟩, fun h3 => hbad 9 (by rw [he, if_neg h1, if_neg (fun h => h h2), if_pos (by skip; omega)]) (by decide), fun h3 => ?_⟩, fun h2 => hbad 10 (by rw [he, if_neg h1, if_pos h2]) (by decide)⟩⟩, fun h => absurd rfl h⟩
  have h0 : wE l hash tick n = 0 := by rw [he, if_neg h1, if_neg (fun h => h h2), if_neg (by skip; omega)]
  rw [qj, if_pos h0]
  exact ⟨by omega, ⟨by omega, by omega⟩, hp, ⟨by rw [List.length_set], _, _, _, rfl⟩, rfl⟩
def bac : List D → Option (Prop × D × Fr)
  | [.c (.sl z376), .c (.int .u64 z377), .c (.int .u64 z378), .c (.int .u64 z379)] => some (z376 = ivs (xm z376) ∧ z377 = (z377.toNat : Int) ∧ z378 = (z378.toNat : Int) ∧ z379 = (z379.toNat : Int), bbf (xm z376) z377.toNat z378.toNat z379.toNat, [])
  | _ => none
attribute [go_sem] bac
theorem waG : ∀ rs p r fr, bac rs = some (p, r, fr) → p → qg Tryz.prog 57 rs r fr := by
  intro rs p r fr h hp
  unfold bac at h
  split at h <;> cases h
  obtain ⟨hc0, hc1, hc2, hc3⟩ := hp
  rename_i z376 z377 z378 z379
  obtain ⟨z376, rfl⟩ : ∃ m, z376 = ivs m := ⟨_, hc0⟩
  obtain ⟨z377, rfl⟩ : ∃ m : Nat, z377 = m := ⟨_, hc1⟩
  obtain ⟨z378, rfl⟩ : ∃ m : Nat, z378 = m := ⟨_, hc2⟩
  obtain ⟨z379, rfl⟩ : ∃ m : Nat, z379 = m := ⟨_, hc3⟩
  simp only [Int.toNat_natCast, qc]
  exact jby z376 z377 z378 z379
def uJ (tick : Nat) (x : Iv) : Bool := decide (baJ x tick = 4 ∨ x.state = 3)
def gl (l : List Iv) (tick : Nat) : List Iv × Int := if xM l then (l.filter fun x => !uJ tick x, 0) else ([], 1)
@[go_sem] def xaB (l : List Iv) (tick : Nat) : D := .tup [.sl (ivs (gl l tick).1), .int .i64 (gl l tick).2]
@[go_sem] abbrev yca : FuncId := 63
@[go_sem] def ua0 : Tab := [(27, yx), (105, zO), (99, jk)]
theorem uf : za Tryz.prog ua0 := (za.cons vC (za.cons qN (za.cons xo za.nil)))
set_option maxRecDepth 8000 in
set_option maxHeartbeats 1000000 in
theorem jaZ (l : List Iv) (tick : Nat)  : yb Tryz.prog 63 [.sl (ivs l), .c (.int .u64 (tick : Int))] (xaB l tick) := by
  refine .of (xde uf (Nat.le_of_ble_eq_true rfl) ?_)
  simp -implicitDefEqProofs only [cdA, go_sem, Go.Proofs.Tryz.f63, reduceIte, reduceCtorEq, Nat.reduceEqDiff, Nat.reduceAdd, Nat.reduceLeDiff, Nat.reduceSub, Nat.reduceMul, Nat.reduceLT, Nat.reduceShiftRight, Nat.reduceMod, Int.reduceLE, Int.reduceLT, Int.reduceToNat, List.cons.injEq, cdB]
  have hcz : bas l = 0 ↔ xM l := by unfold bas; split <;> rename_i h <;> simp only [h] <;> decide
  refine ⟨fun h0 => ?_, fun h0 => by
    have hno : ¬ xM l := fun h => h0 (hcz.2 h)
    rw [gl, bas, if_neg hno, if_neg hno]; exact ⟨rfl, rfl⟩⟩
  have hok := hcz.1 h0
  have h256 := hok.1
  refine ⟨by omega, ?_⟩
  refine va.sld ?_
  refine gO (n := 42) (fn := Tryz.f106) (by kernel_rfl) rfl rfl rfl (Nat.le_of_ble_eq_true rfl) (rs := [.tmp 4]) rfl ?_
  refine SWm.seq (SWm.awp uf.toS jab rfl ?_)
  simp -implicitDefEqProofs only [cdA, go_sem, reduceIte, reduceCtorEq, Nat.reduceEqDiff, Nat.reduceAdd, Nat.reduceLeDiff, Nat.reduceSub, Nat.reduceMul, Nat.reduceLT, Nat.reduceShiftRight, Nat.reduceMod, Int.reduceLE, Int.reduceLT, Int.reduceToNat, List.cons.injEq, cdB]
  refine SWm.seq (SWm.awp uf.toS jab rfl ?_)
  simp -implicitDefEqProofs only [cdA, go_sem, reduceIte, reduceCtorEq, Nat.reduceEqDiff, Nat.reduceAdd, Nat.reduceLeDiff, Nat.reduceSub, Nat.reduceMul, Nat.reduceLT, Nat.reduceShiftRight, Nat.reduceMod, Int.reduceLE, Int.reduceLT, Int.reduceToNat, List.cons.injEq, cdB]
  refine zcF uf (Nat.le_of_ble_eq_true rfl) ?_
  simp -implicitDefEqProofs only [cdA, go_sem, Go.Proofs.Tryz.f135, reduceIte, reduceCtorEq, Nat.reduceEqDiff, Nat.reduceAdd, Nat.reduceLeDiff, Nat.reduceSub, Nat.reduceMul, Nat.reduceLT, Nat.reduceShiftRight, Nat.reduceMod, Int.reduceLE, Int.reduceLT, Int.reduceToNat, List.cons.injEq, cdB]
  refine fun _ => SWp.loop (ι := { i : Nat // i ≤ l.length ∧ ∀ j, j < i → uJ tick (l.getD j default) = false }) (fun i => ⟨[(0, .vec 1 l.length), (1, .fn (.func 104) [] [.ref 0 0]), (7, .int .i64 l.length), (8, .int .i64 i.1)],
    [(1, .vec true 4 117 (ivs l)), (0, .box [.c (.int .u64 tick)])], 2⟩) (fun i => l.length - i.1) ⟨0, by simp⟩ ?_ ?_
  · simp [go_sem]
  · rintro ⟨i, hi, hall⟩
    refine qb uf.toS gbm _ _ _ rfl ?_
    simp -implicitDefEqProofs only [cdA, go_sem, reduceIte, reduceCtorEq, Nat.reduceEqDiff, Nat.reduceAdd, Nat.reduceLeDiff, Nat.reduceSub, Nat.reduceMul, Nat.reduceLT, Nat.reduceShiftRight, Nat.reduceMod, Int.reduceLE, Int.reduceLT, Int.reduceToNat, List.cons.injEq, cdB]
    refine ⟨fun h4 => ⟨by omega, by omega, ?_⟩, fun h4 => ?_⟩
    · skip
      refine ubX uf (Nat.le_of_ble_eq_true rfl) ?_
      simp -implicitDefEqProofs only [cdA, go_sem, Go.Proofs.Tryz.f104, reduceIte, reduceCtorEq, Nat.reduceEqDiff, Nat.reduceAdd, Nat.reduceLeDiff, Nat.reduceSub, Nat.reduceMul, Nat.reduceLT, Nat.reduceShiftRight, Nat.reduceMod, Int.reduceLE, Int.reduceLT, Int.reduceToNat, List.cons.injEq, cdB]
      have hi' : i < l.length := by omega
      have hov : ∀ x : Iv, uJ tick x = true ↔ baJ x tick = 4 ∨ x.state = 3 := fun x => decide_eq_true_iff
      have hb0 : uJ tick (l.getD i default) = true → l.take i = (l.take (i + 1)).filter (fun y => !uJ tick y) := fun hv => by
        rw [take_succ hi', List.filter_append, List.filter_eq_self.2 (fun x hx => ?_), List.filter_cons_of_neg (by rw [hv]; decide), List.filter_nil, List.append_nil]
        obtain ⟨j, hj, rfl⟩ := xb.1 hx
        rw [List.length_take] at hj
        rw [List.getD_eq_getElem?_getD, List.getElem?_take_of_lt (by omega), ← List.getD_eq_getElem?_getD, hall j (by omega)]; rfl
      refine ⟨fun h1 => ⟨fun h2 => ?_, fun h2 => ⟨⟨i + 1, by omega, fun j hj => ?_⟩, by dsimp only; omega, i64_in _ (by omega)⟩⟩, fun h1 => ?_⟩
      rotate_left 1
      · by_cases hji : j = i
        · subst hji
          have : ¬ uJ tick (l.getD j default) = true := fun h => by
            rcases (hov _).1 h with h | h
            · exact h1 h
            · exact h2 h
          simpa using this
        · exact hall j (by omega)
      all_goals
        have hb1 := hb0 ((hov _).2 (by first | exact .inl h1 | exact .inr h2))
        refine SWm.seq (SWm.awp uf.toS jab rfl ?_)
        simp -implicitDefEqProofs only [cdA, go_sem, reduceIte, reduceCtorEq, Nat.reduceEqDiff, Nat.reduceAdd, Nat.reduceLeDiff, Nat.reduceSub, Nat.reduceMul, Nat.reduceLT, Nat.reduceShiftRight, Nat.reduceMod, Int.reduceLE, Int.reduceLT, Int.reduceToNat, List.cons.injEq, cdB]
        refine ⟨fun h => h.elim, ?_⟩
        refine SWm.seq (SWm.seq (SWm.awp uf.toS jab rfl ?_))
        simp -implicitDefEqProofs only [cdA, go_sem, reduceIte, reduceCtorEq, Nat.reduceEqDiff, Nat.reduceAdd, Nat.reduceLeDiff, Nat.reduceSub, Nat.reduceMul, Nat.reduceLT, Nat.reduceShiftRight, Nat.reduceMod, Int.reduceLE, Int.reduceLT, Int.reduceToNat, List.cons.injEq, cdB]
        rw [i64_in _ (by omega)]
        refine SWm.block (SWm.of (SWp.loop (ι := { x : Nat × Nat × List Iv // x.1 < x.2.1 ∧ x.2.1 ≤ l.length ∧ x.2.2.length = l.length ∧ x.2.2.take x.1 = (l.take x.2.1).filter (fun y => !uJ tick y) ∧ x.2.2.drop x.2.1 = l.drop x.2.1 })
          (fun x => ⟨[(0, .vec 1 l.length), (1, .fn (.func 104) [] [.ref 0 0]), (5, .int .i64 x.1.1), (6, .int .i64 x.1.2.1)],
            [(2, .box [.c (.int .u64 (l.getD i default).hash), .c (.int .u64 (l.getD i default).n), .c (.int .u64 (l.getD i default).till), .c (.int .i64 (l.getD i default).state)]), (1, .vec true 4 117 (ivs x.1.2.2)), (0, .box [.c (.int .u64 tick)])], 3⟩) (fun x => l.length - x.1.2.1) ⟨(i, i + 1, l), by dsimp only; omega, by dsimp only; omega, rfl, hb1, rfl⟩ ?_ ?_))
      all_goals first | (simp [go_sem]; done) | skip
      all_goals
        rintro ⟨⟨k, j, m⟩, hkj, hj, hml, hmt, hmd⟩
        refine qb uf.toS jab _ _ _ rfl ?_
        simp -implicitDefEqProofs only [cdA, go_sem, reduceIte, reduceCtorEq, Nat.reduceEqDiff, Nat.reduceAdd, Nat.reduceLeDiff, Nat.reduceSub, Nat.reduceMul, Nat.reduceLT, Nat.reduceShiftRight, Nat.reduceMod, Int.reduceLE, Int.reduceLT, Int.reduceToNat, List.cons.injEq, cdB]
        dsimp only at hkj hj hml hmt hmd
        refine fun _ => ⟨fun h5 => ⟨by omega, ⟨hml.symm, by omega⟩, ?_⟩, fun h5 => ?_⟩
        · skip
          refine ubX uf (Nat.le_of_ble_eq_true rfl) ?_
          simp -implicitDefEqProofs only [cdA, go_sem, Go.Proofs.Tryz.f104, reduceIte, reduceCtorEq, Nat.reduceEqDiff, Nat.reduceAdd, Nat.reduceLeDiff, Nat.reduceSub, Nat.reduceMul, Nat.reduceLT, Nat.reduceShiftRight, Nat.reduceMod, Int.reduceLE, Int.reduceLT, Int.reduceToNat, List.cons.injEq, cdB]
          have hj' : j < l.length := by omega
          have hmj : m.getD j default = l.getD j default := by
            have h6 : (m.drop j)[0]? = (l.drop j)[0]? := by rw [hmd]
            rw [List.getElem?_drop, List.getElem?_drop, Nat.add_zero] at h6
            rw [List.getD_eq_getElem?_getD, h6, ← List.getD_eq_getElem?_getD]
          have hmd2 : m.drop (j + 1) = l.drop (j + 1) := by
            rw [← List.drop_drop, hmd, List.drop_drop]
          have hgo : uJ tick (l.getD j default) = true → m.take k = (l.take (j + 1)).filter (fun y => !uJ tick y) := fun hv => by
            rw [take_succ hj', List.filter_append, List.filter_cons_of_neg (by rw [hv]; decide), List.filter_nil, List.append_nil, hmt]
          have hkeep : ¬ uJ tick (l.getD j default) = true → (m.set k (l.getD j default)).take (k + 1) = (l.take (j + 1)).filter (fun y => !uJ tick y) := fun hv => by
            rw [take_succ hj', List.filter_append, List.filter_cons_of_pos (by simpa using hv), List.filter_nil, ← hmt, List.take_set, take_succ (by omega), List.set_append_right _ _ (by rw [List.length_take]; omega), List.length_take, show k - min k m.length = 0 by omega]
            rfl
          rw [hmj]
          refine ⟨fun h6 => ⟨fun h7 => ⟨⟨(k, j + 1, m), by dsimp only; omega, hj', hml, hgo ((hov _).2 (.inr h7)), hmd2⟩, by dsimp only; omega, ⟨rfl, i64_in _ (by omega)⟩, rfl⟩, fun h7 => ⟨by omega, ⟨hml.symm, by omega⟩, ⟨(k + 1, j + 1, m.set k (l.getD j default)), by dsimp only; omega, hj', by dsimp only; rw [List.length_set]; exact hml, hkeep (fun h => by rcases (hov _).1 h with h | h <;> first | exact h6 h | exact h7 h), ?_⟩, by dsimp only; omega, ⟨i64_in _ (by omega), i64_in _ (by omega)⟩, rfl⟩⟩,
            fun h6 => ⟨⟨(k, j + 1, m), by dsimp only; omega, hj', hml, hgo ((hov _).2 (.inl h6)), hmd2⟩, by dsimp only; omega, ⟨rfl, i64_in _ (by omega)⟩, rfl⟩⟩
          dsimp only
          rw [List.drop_set_of_lt (by omega)]; exact hmd2
        · have hj' : j = l.length := by omega
          subst hj'
          refine SWm.opn 1 rfl fun cp hc hcm => ?_
          rw [ug] at hc
          refine SWm.awp uf.toS jab rfl ?_
          simp -implicitDefEqProofs only [cdA, go_sem, List.map_cons, List.map_nil, hml, eq_self, reduceIte, reduceCtorEq, Nat.reduceEqDiff, Nat.reduceAdd, Nat.reduceLeDiff, Nat.reduceSub, Nat.reduceMul, Nat.reduceLT, Nat.reduceShiftRight, Nat.reduceMod, Int.reduceLE, Int.reduceLT, Int.reduceToNat, List.cons.injEq, cdB]
          have hsw : gl l tick = (m.take k, 0) := by rw [gl, if_pos hok, hmt, List.take_length]
          have hkl : (m.take k).length = k := by rw [List.length_take]; omega
          have hfin : ∀ Z : List (List C), List.take k (fit cp 4 (List.take k (fit cp 4 (ivs m)) ++ Z)) = ivs (m.take k) := fun Z => by
            rw [ko (by rw [List.length_append, List.length_take, zf]; omega) (by omega), List.take_append_of_le_length (by rw [List.length_take, zf]; omega), List.take_take, Nat.min_self, ko (by rw [ug]; omega) (by omega)]
            simp [ivs, List.map_take]
          rw [hfin, hsw]
          exact ⟨by omega, by omega, ⟨hkl.symm, _, _, _, rfl⟩, rfl⟩
    · have hi' : i = l.length := by omega
      subst hi'
      have hsw : gl l tick = (l, 0) := by
        rw [gl, if_pos hok, List.filter_eq_self.2 fun x hx => ?_]
        obtain ⟨j, hj, rfl⟩ := xb.1 hx
        rw [hall j (by omega)]; rfl
      refine SWm.seq (SWm.awp uf.toS jab rfl ?_)
      simp -implicitDefEqProofs only [cdA, go_sem, reduceIte, reduceCtorEq, Nat.reduceEqDiff, Nat.reduceAdd, Nat.reduceLeDiff, Nat.reduceSub, Nat.reduceMul, Nat.reduceLT, Nat.reduceShiftRight, Nat.reduceMod, Int.reduceLE, Int.reduceLT, Int.reduceToNat, List.cons.injEq, cdB]
      rw [hsw]
      exact ⟨⟨rfl, _, _, _, rfl⟩, rfl⟩
def qJ : List D → Option (Prop × D × Fr)
  | [.c (.sl z380), .c (.int .u64 z381)] => some (z380 = ivs (xm z380) ∧ z381 = (z381.toNat : Int), xaB (xm z380) z381.toNat, [])
  | _ => none
attribute [go_sem] qJ
theorem uai : ∀ rs p r fr, qJ rs = some (p, r, fr) → p → qg Tryz.prog 63 rs r fr := by
  intro rs p r fr h hp
  unfold qJ at h
  split at h <;> cases h
  obtain ⟨hc0, hc1⟩ := hp
  rename_i z380 z381
  obtain ⟨z380, rfl⟩ : ∃ m, z380 = ivs m := ⟨_, hc0⟩
  obtain ⟨z381, rfl⟩ : ∃ m : Nat, z381 = m := ⟨_, hc1⟩
  simp only [Int.toNat_natCast, qc]
  exact jaZ z380 z381
end Dm
namespace Dm
open Go Go.Proofs Go.IntWalk
theorem vbg {v : Wl} {hash n : Nat} (h : (yl v hash n).2.2 = 0) : ∃ p c, p < v.c.length ∧ v.c.getD p default = c ∧ gj c ∧ qm c v.next n = 0 ∧
    (yl v hash n).1.c = v.c.set p (qf c v.next n).1 ∧ (⟨v.next, hash, c.id, n, 1⟩ : Py) ∈ (yl v hash n).1.p := by
  rw [qaT] at h
  obtain ⟨hok, hn, hM, hf, hnx, hP, hC, hF⟩ := vbf h
  have e : yl v hash n = (⟨(wal v n).1, v.w, v.i, (gaf v hash n).1, (gaZ v n).1, v.next + 1, v.tick⟩, v.next, 0) := by rw [yl, if_pos h]
  rw [e]
  dsimp only
  have hids := zau hok
  unfold gaf at hP
  obtain ⟨-, q1, -, b, hb1, -⟩ := kam hP hids
  unfold wal at hC
  obtain ⟨hl, c, hc, hcid, hp, hcp, hw, he, eC⟩ := qaa hC
  refine ⟨_, c, hp, hcp, hl.2.1 c hc, he, ?_, ?_⟩
  · unfold wal; rw [eC]
  · unfold gaf; rw [hb1, hcid]; exact List.mem_append_right _ (.head _)
theorem kbU {α : Type} [Inhabited α] {key : α → Nat} {l : List α} (hu : Srt.Up key ltN l) {i j : Nat} (hi : i < l.length) (hj : j < l.length) (h : key (l.getD i default) = key (l.getD j default)) : i = j := by
  rcases Nat.lt_trichotomy i j with h1 | h1 | h1
  · have := Srt.ki.1 hu i j h1 hj
    simp only [ltN] at this; omega
  · exact h1
  · have := Srt.ki.1 hu j i h1 hi
    simp only [ltN] at this; omega
theorem xaX {l : List Hd} {p : Nat} {x : Hd} (hp : p ≤ l.length) : (Srt.ins l p x).eraseIdx p = l := by
  unfold Srt.ins
  rw [List.eraseIdx_append_of_length_le (by rw [List.length_take]; omega), List.length_take, show p - min p l.length = 0 by omega, List.eraseIdx_cons_zero, List.take_append_drop]
theorem ba3 {c : Ch} {h n : Nat} (paid : Bool) (he : qm c h n = 0) : gj c ∧ n ≤ c.loc ∧ c.op = true ∧ (⟨h, n⟩ : Hd) ∈ (qf c h n).1.holds ∧
    bw (qf c h n).1 h paid = (⟨c.id, if paid = true then c.loc - n else c.loc - n + n, if paid = true then c.rem + n else c.rem, c.res, c.most, c.holds, c.op⟩, n, 0) := by
  have hok : gj c := Decidable.byContradiction fun hn => by
    unfold qm at he; rw [if_pos (.inl hn)] at he; cases he
  have hop : c.op = true ∧ n ≤ c.loc := by
    have he := he
    unfold qm at he
    split at he
    · cases he
    split at he
    · cases he
    rename_i h2
    split at he
    · cases he
    split at he
    · cases he
    split at he
    · cases he
    split at he
    · cases he
    refine ⟨by simpa using h2, ?_⟩
    omega
  obtain ⟨hok', -⟩ := wW he hok
  have e : qf c h n = (⟨c.id, c.loc - n, c.rem, c.res, c.most, Srt.ins c.holds (Srt.pos Hd.key ltN c.holds h) ⟨h, n⟩, c.op⟩, 0) := by rw [qf, if_pos he]
  have hle : Srt.pos Hd.key ltN c.holds h ≤ c.holds.length := Srt.jam
  rw [e] at hok' ⊢
  have hmem : (⟨h, n⟩ : Hd) ∈ Srt.ins c.holds (Srt.pos Hd.key ltN c.holds h) ⟨h, n⟩ := vE.mem_iff.2 (.head _)
  refine ⟨hok, hop.2, hop.1, hmem, ?_⟩
  obtain ⟨q, hq, hql, hqx, ec⟩ := zah (paid := paid) hok' hmem rfl
  dsimp only at hq hql hqx ec
  have hu : Srt.Up Hd.key ltN (Srt.ins c.holds (Srt.pos Hd.key ltN c.holds h) ⟨h, n⟩) := (Srt.bf (lt := ltN) Srt.ue).1 hok'.2.2.2.2.2.1
  have hqp : q = Srt.pos Hd.key ltN c.holds h := by
    refine kbU hu hql (by rw [Srt.zj]; omega) ?_
    rw [hqx, Srt.gbb hle]
  rw [ec, hqp, xaX hle]
end Dm
namespace Dm
open Go Go.Proofs Go.IntWalk
theorem vbL {l : List Ch} {p : Nat} {d : Ch} (hp : p < l.length) (hh : d.holds = (l.getD p default).holds) : yM (l.set p d) = yM l := by
  conv => rhs; rw [qA hp]
  rw [qt hp]
  simp only [yM, List.flatMap_append, List.flatMap_cons, hh]
theorem zcG {l : List Ch} {p : Nat} {d : Ch} (hp : p < l.length) (hi : d.id = (l.getD p default).id) (hh : d.holds = (l.getD p default).holds) : hlL (l.set p d) = hlL l := by
  conv => rhs; rw [qA hp]
  rw [qt hp]
  simp only [hlL, hlC, List.flatMap_append, List.flatMap_cons, hh, hi]
theorem zaO {l : List Ch} {p : Nat} {d : Ch} (hok : zl l) (hp : p < l.length) (hd : gj d) (hi : d.id = (l.getD p default).id) (hh : d.holds = (l.getD p default).holds) (ha : uI d = uI (l.getD p default)) :
    zl (l.set p d) ∧ hlL (l.set p d) = hlL l := by
  have hu : Srt.Up Ch.id ltN l := (Srt.bf (lt := ltN) Srt.ue).1 hok.2.2.1
  refine ⟨⟨by rw [List.length_set]; exact hok.1, fun y hy => ?_, ?_, ?_, ?_⟩, zcG hp hi hh⟩
  · rcases List.mem_or_eq_of_mem_set hy with h | rfl
    · exact hok.2.1 y h
    · exact hd
  · exact (Srt.bf (lt := ltN) Srt.ue).2 (Srt.u6 hu hp hi)
  · rw [vbL hp hh]; exact hok.2.2.2.1
  · rw [zaa hp ha]; exact hok.2.2.2.2
theorem vbe {c : Ch} {n : Nat} (h : uav c n = 0) : gj c ∧ c.op = true ∧ n ≤ c.rem ∧ qM c n = (⟨c.id, c.loc + n, c.rem - n, c.res, c.most, c.holds, c.op⟩, 0) ∧ gj (qM c n).1 ∧ uI (qM c n).1 = uI c := by
  have e : qM c n = (⟨c.id, c.loc + n, c.rem - n, c.res, c.most, c.holds, c.op⟩, 0) := by rw [qM, if_pos h]
  unfold uav at h
  split at h
  · cases h
  rename_i h1
  split at h
  · cases h
  rename_i h2
  split at h
  · cases h
  rename_i h3
  have hok : gj c := Decidable.byContradiction fun hn => h1 (.inl hn)
  obtain ⟨o1, o2, o3, o4, o5, o6, o7, o8, o9, o10⟩ := hok
  have hok : gj c := ⟨o1, o2, o3, o4, o5, o6, o7, o8, o9, o10⟩
  have hok2 : gj (⟨c.id, c.loc + n, c.rem - n, c.res, c.most, c.holds, c.op⟩ : Ch) := by
    refine ⟨o1, o2, o3, o4, o5, o6, o7, ?_, ?_, ?_⟩
    · show c.loc + n ≤ MM; unfold MM at *; omega
    · show c.rem - n ≤ MM; unfold MM at *; omega
    · show held c.holds + (c.loc + n) + (c.rem - n) ≤ MM; unfold MM at *; omega
  refine ⟨hok, by simpa using h2, by omega, e, by rw [e]; exact hok2, ?_⟩
  rw [e]
  unfold uI vf
  rw [if_pos hok2, if_pos hok]
  show held c.holds + (c.loc + n) + (c.rem - n) = held c.holds + c.loc + c.rem
  omega
theorem ybh {c : Ch} (h : kaB c = 0) : gj c ∧ c.op = true ∧ c.holds = [] ∧ zM c = (⟨c.id, c.loc, c.rem, c.res, c.most, [], false⟩, 0) ∧ gj (zM c).1 ∧ uI (zM c).1 = uI c := by
  have e : zM c = (⟨c.id, c.loc, c.rem, c.res, c.most, [], false⟩, 0) := by rw [zM, if_pos h]
  unfold kaB at h
  split at h
  · cases h
  rename_i h1
  split at h
  · cases h
  rename_i h2
  split at h
  · cases h
  rename_i h3
  have hok : gj c := Decidable.byContradiction h1
  have hh : c.holds = [] := List.eq_nil_of_length_eq_zero (by omega)
  obtain ⟨o1, o2, o3, o4, o5, o6, o7, o8, o9, o10⟩ := hok
  have hok : gj c := ⟨o1, o2, o3, o4, o5, o6, o7, o8, o9, o10⟩
  rw [hh] at o3 o5 o6 o7 o10
  have hok2 : gj (⟨c.id, c.loc, c.rem, c.res, c.most, [], false⟩ : Ch) := ⟨o1, o2, o3, fun _ => rfl, o5, o6, o7, o8, o9, o10⟩
  refine ⟨hok, by simpa using h2, hh, e, by rw [e]; exact hok2, ?_⟩
  rw [e]
  unfold uI vf
  rw [if_pos hok2, if_pos hok, hh]
theorem xad {l : List Ch} {id n : Nat} (h : (bX l id n).2 = 0) : zl l ∧ ∃ p, p < l.length ∧ (l.getD p default).id = id ∧ uav (l.getD p default) n = 0 ∧ (bX l id n).1 = l.set p (qM (l.getD p default) n).1 ∧ zl (bX l id n).1 ∧ hlL (bX l id n).1 = hlL l := by
  unfold bX at h ⊢
  split at h
  · rename_i hok
    split at h
    · rename_i ht
      split at h
      · rename_i he
        obtain ⟨h1, h2⟩ := zT ht
        obtain ⟨g1, g2, g3, g4, g5, g6⟩ := vbe he
        rw [if_pos hok, if_pos ht, if_pos he]
        have h3 := zaO hok h1 g5 (by rw [g4]) (by rw [g4]) g6
        exact ⟨hok, _, h1, h2, he, rfl, h3⟩
      · rename_i he; exact absurd h he
    · cases h
  · cases h
theorem zac {l : List Ch} {id : Nat} (h : (yY l id).2 = 0) : zl l ∧ ∃ p, p < l.length ∧ (l.getD p default).id = id ∧ kaB (l.getD p default) = 0 ∧ (yY l id).1 = l.set p (zM (l.getD p default)).1 ∧ zl (yY l id).1 ∧ hlL (yY l id).1 = hlL l := by
  unfold yY at h ⊢
  split at h
  · rename_i hok
    split at h
    · rename_i ht
      split at h
      · rename_i he
        obtain ⟨h1, h2⟩ := zT ht
        obtain ⟨g1, g2, g3, g4, g5, g6⟩ := ybh he
        rw [if_pos hok, if_pos ht, if_pos he]
        have h3 := zaO hok h1 g5 (by rw [g4]) (by rw [g4, g3]) g6
        exact ⟨hok, _, h1, h2, he, rfl, h3⟩
      · rename_i he; exact absurd h he
    · cases h
  · cases h
theorem ja9 {l : List Ch} {id n : Nat} (h : (bX l id n).2 = 0) : zl (bX l id n).1 := by
  obtain ⟨_, _, _, _, _, _, h, _⟩ := xad h; exact h
theorem ka9 {l : List Ch} {id : Nat} (h : (yY l id).2 = 0) : zl (yY l id).1 := by
  obtain ⟨_, _, _, _, _, _, h, _⟩ := zac h; exact h
theorem jbe {l : List Iv} {hash tick n : Nat} {st : Int} : (qj l hash tick n st).2 = wE l hash tick n := by
  unfold qj
  split
  · rename_i h; exact h.symm
  · rfl
theorem qaY {l : List Iv} {hash tick n : Nat} (h : wE l hash tick n = 0) : xM l ∧ Srt.pos Iv.hash ltN l hash < l.length ∧ (l.getD (Srt.pos Iv.hash ltN l hash) default).hash = hash ∧ baJ (l.getD (Srt.pos Iv.hash ltN l hash) default) tick = 1 ∧ (l.getD (Srt.pos Iv.hash ltN l hash) default).n ≤ n := by
  unfold wE at h
  split at h
  · rename_i h1
    split at h
    · rename_i h2
      obtain ⟨g1, g2⟩ := zT h2
      split at h
      · cases h
      split at h
      · cases h
      rename_i h4
      split at h
      · cases h
      rename_i h5
      exact ⟨h1, g1, g2, Decidable.byContradiction h4, by omega⟩
    · cases h
  · cases h
theorem kaC {l : List Iv} {hash tick n : Nat} {st : Int} (h : (qj l hash tick n st).2 = 0) (hst : 1 ≤ st ∧ st ≤ 3) : xM l ∧ xM (qj l hash tick n st).1 ∧ ∃ p, p < l.length ∧ p = Srt.pos Iv.hash ltN l hash ∧ (l.getD p default).hash = hash ∧ baJ (l.getD p default) tick = 1 ∧ (qj l hash tick n st).1 = l.set p { l.getD p default with state := st } := by
  rw [jbe] at h
  obtain ⟨h1, h2, h3, h4, h5⟩ := qaY h
  have e : (qj l hash tick n st).1 = l.set (Srt.pos Iv.hash ltN l hash) { l.getD (Srt.pos Iv.hash ltN l hash) default with state := st } := by rw [qj, if_pos h]
  rw [e]
  refine ⟨h1, ⟨by rw [List.length_set]; exact h1.1, fun x hx => ?_, ?_⟩, _, h2, rfl, h3, h4, rfl⟩
  · rcases List.mem_or_eq_of_mem_set hx with h | rfl
    · exact h1.2.1 x h
    · exact ⟨(h1.2.1 _ (xb.2 ⟨_, h2, rfl⟩)).1, hst⟩
  · exact (Srt.bf (lt := ltN) Srt.ue).2 (Srt.u6 ((Srt.bf (lt := ltN) Srt.ue).1 h1.2.2) h2 rfl)
theorem xaz {l : List Iv} {hash tick n : Nat} {st : Int} (h : (qj l hash tick n st).2 = 0) : (qj l hash tick n st).1.length ≤ 256 := by
  rw [jbe] at h
  have := (qaY h).1.1
  rw [qj, if_pos h, List.length_set]; exact this
theorem yaA {l : List Iv} {tick : Nat} (h : (gl l tick).2 = 0) : xM l ∧ xM (gl l tick).1 ∧ (gl l tick).1 = l.filter fun x => !uJ tick x := by
  unfold gl at h ⊢
  split at h
  · rename_i h1
    rw [if_pos h1]
    have hs : (l.filter fun x => !uJ tick x).Sublist l := List.filter_sublist
    refine ⟨h1, ⟨Nat.le_trans hs.length_le h1.1, fun x hx => h1.2.1 x (hs.subset hx), ?_⟩, rfl⟩
    exact (Srt.bf (lt := ltN) Srt.ue).2 (List.Pairwise.sublist hs ((Srt.bf (lt := ltN) Srt.ue).1 h1.2.2))
  · cases h
end Dm
namespace Dm
open Go Go.Proofs Go.IntWalk
def vbd (v : Wl) (hash : Nat) (n : Nat) (ch : Nat) : List Iv × Int := qj v.i hash v.tick n 2
def gbd (v : Wl) (hash : Nat) (n : Nat) (ch : Nat) : List Ch × Int := bX v.c ch n
def ybk (v : Wl) (hash : Nat) (n : Nat) (ch : Nat) : Fd × Nat × Int := xu v.f 5 hash n
def gaJ (v : Wl) (hash : Nat) (n : Nat) (ch : Nat) : Int := if ¬ okW v then 1 else if (vbd v hash n ch).2 ≠ 0 then (vbd v hash n ch).2 else if (gbd v hash n ch).2 ≠ 0 then (gbd v hash n ch).2 else (ybk v hash n ch).2.2
def vB (v : Wl) (hash : Nat) (n : Nat) (ch : Nat) : Wl × Int := if gaJ v hash n ch = 0 then (⟨(gbd v hash n ch).1, v.w, (vbd v hash n ch).1, v.p, (ybk v hash n ch).1, v.next, v.tick⟩, 0) else (xy, gaJ v hash n ch)
@[go_sem] def x9 (v : Wl) (hash : Nat) (n : Nat) (ch : Nat) : D := .tup [.agg [.sl (chs (vB v hash n ch).1.c), .sl (wts (vB v hash n ch).1.w), .sl (ivs (vB v hash n ch).1.i), .sl (pys (vB v hash n ch).1.p), .int .u64 (vB v hash n ch).1.f.next, .sl (evs (vB v hash n ch).1.f.l), .int .u64 (vB v hash n ch).1.next, .int .u64 (vB v hash n ch).1.tick], .int .i64 (vB v hash n ch).2]
@[go_sem] abbrev ubC : FuncId := 21
@[go_sem] def xaI : Tab := [(9, jh), (57, bac), (59, vR), (80, uv), (81, vq)]
theorem zb : za Tryz.prog xaI := (za.cons xg (za.cons waG (za.cons yau (za.cons gn (za.cons kj za.nil)))))
set_option maxRecDepth 8000 in
set_option maxHeartbeats 1000000 in
theorem jat (v : Wl) (hash : Nat) (n : Nat) (ch : Nat) (h : v.f.next ≤ 18446744073709551615) : yb Tryz.prog 21 [.agg [.sl (chs v.c), .sl (wts v.w), .sl (ivs v.i), .sl (pys v.p), .c (.int .u64 (v.f.next : Int)), .sl (evs v.f.l), .c (.int .u64 (v.next : Int)), .c (.int .u64 (v.tick : Int))], .c (.int .u64 (hash : Int)), .c (.int .u64 (n : Int)), .c (.int .u64 (ch : Int))] (x9 v hash n ch) := by
  refine .of (vdj zb (Nat.le_of_ble_eq_true rfl) ?_)
  simp -implicitDefEqProofs only [cdA, go_sem, Go.Proofs.Tryz.f21, reduceIte, reduceCtorEq, Nat.reduceEqDiff, Nat.reduceAdd, Nat.reduceLeDiff, Nat.reduceSub, Nat.reduceMul, Nat.reduceLT, Nat.reduceShiftRight, Nat.reduceMod, Int.reduceLE, Int.reduceLT, Int.reduceToNat, List.cons.injEq, cdB]
  refine xa0 zb (Nat.le_of_ble_eq_true rfl) ?_
  simp -implicitDefEqProofs only [cdA, go_sem, Go.Proofs.Tryz.f33, reduceIte, reduceCtorEq, Nat.reduceEqDiff, Nat.reduceAdd, Nat.reduceLeDiff, Nat.reduceSub, Nat.reduceMul, Nat.reduceLT, Nat.reduceShiftRight, Nat.reduceMod, Int.reduceLE, Int.reduceLT, Int.reduceToNat, List.cons.injEq, cdB]
  refine uc.run wH zb qa (by kernel_rfl) (by kernel_rfl) ?_
  simp -implicitDefEqProofs only [cdA, go_sem, reduceIte, reduceCtorEq, Nat.reduceEqDiff, Nat.reduceAdd, Nat.reduceLeDiff, Nat.reduceSub, Nat.reduceMul, Nat.reduceLT, Nat.reduceShiftRight, Nat.reduceMod, Int.reduceLE, Int.reduceLT, Int.reduceToNat, List.cons.injEq, cdB]
  refine ⟨h, ?_⟩
  have hbad : ∀ e : Int, gaJ v hash n ch = e → ¬ e = 0 → (chs (vB v hash n ch).1.c = [] ∧ wts (vB v hash n ch).1.w = [] ∧ ivs (vB v hash n ch).1.i = [] ∧ pys (vB v hash n ch).1.p = [] ∧ 0 = ((vB v hash n ch).1.f.next : Int) ∧ evs (vB v hash n ch).1.f.l = [] ∧ 0 = ((vB v hash n ch).1.next : Int) ∧ 0 = ((vB v hash n ch).1.tick : Int)) ∧ e = (vB v hash n ch).2 := fun e h1 h2 => by
    have : vB v hash n ch = (xy, e) := by rw [vB, if_neg (by rw [h1]; exact h2), h1]
    rw [this]; exact ⟨⟨rfl, rfl, rfl, rfl, rfl, rfl, rfl, rfl⟩, rfl⟩
  by_cases hok : okW v
  rotate_left 1
  · have hck : (bt v = 0) = False := eq_false fun h => hok (ql.1 h)
    have he : gaJ v hash n ch = 1 := by rw [gaJ, if_pos hok]
    have hc1 : bt v = 1 := by rw [bt, if_neg hok]
    skip
    refine ka2 zb (Nat.le_of_ble_eq_true rfl) ?_
    simp -implicitDefEqProofs only [cdA, go_sem, Go.Proofs.Tryz.f51, hck, cdN, reduceIte, reduceCtorEq, Nat.reduceEqDiff, Nat.reduceAdd, Nat.reduceLeDiff, Nat.reduceSub, Nat.reduceMul, Nat.reduceLT, Nat.reduceShiftRight, Nat.reduceMod, Int.reduceLE, Int.reduceLT, Int.reduceToNat, List.cons.injEq, cdB]
    refine zZ zb (Nat.le_of_ble_eq_true rfl) ?_
    simp -implicitDefEqProofs only [cdA, go_sem, Go.Proofs.Tryz.f34, hck, cdN, reduceIte, reduceCtorEq, Nat.reduceEqDiff, Nat.reduceAdd, Nat.reduceLeDiff, Nat.reduceSub, Nat.reduceMul, Nat.reduceLT, Nat.reduceShiftRight, Nat.reduceMod, Int.reduceLE, Int.reduceLT, Int.reduceToNat, List.cons.injEq, cdB]
    refine bG zb (Nat.le_of_ble_eq_true rfl) ?_
    simp -implicitDefEqProofs only [cdA, go_sem, Go.Proofs.Tryz.f37, reduceIte, reduceCtorEq, Nat.reduceEqDiff, Nat.reduceAdd, Nat.reduceLeDiff, Nat.reduceSub, Nat.reduceMul, Nat.reduceLT, Nat.reduceShiftRight, Nat.reduceMod, Int.reduceLE, Int.reduceLT, Int.reduceToNat, List.cons.injEq, cdB]
    refine yH zb (Nat.le_of_ble_eq_true rfl) ?_
    simp -implicitDefEqProofs only [cdA, go_sem, Go.Proofs.Tryz.f78, hck, cdN, reduceIte, reduceCtorEq, Nat.reduceEqDiff, Nat.reduceAdd, Nat.reduceLeDiff, Nat.reduceSub, Nat.reduceMul, Nat.reduceLT, Nat.reduceShiftRight, Nat.reduceMod, Int.reduceLE, Int.reduceLT, Int.reduceToNat, List.cons.injEq, cdB]
    refine yu zb (Nat.le_of_ble_eq_true rfl) ?_
    simp -implicitDefEqProofs only [cdA, go_sem, Go.Proofs.Tryz.f38, hck, cdN, reduceIte, reduceCtorEq, Nat.reduceEqDiff, Nat.reduceAdd, Nat.reduceLeDiff, Nat.reduceSub, Nat.reduceMul, Nat.reduceLT, Nat.reduceShiftRight, Nat.reduceMod, Int.reduceLE, Int.reduceLT, Int.reduceToNat, List.cons.injEq, cdB]
    refine uc.run kf zb qa (by kernel_rfl) (by kernel_rfl) ?_
    simp -implicitDefEqProofs only [cdA, go_sem, hck, cdN, reduceIte, reduceCtorEq, Nat.reduceEqDiff, Nat.reduceAdd, Nat.reduceLeDiff, Nat.reduceSub, Nat.reduceMul, Nat.reduceLT, Nat.reduceShiftRight, Nat.reduceMod, Int.reduceLE, Int.reduceLT, Int.reduceToNat, List.cons.injEq, cdB]
    exact hbad _ (he.trans hc1.symm) (by rw [hc1]; decide)
  have hck : (bt v = 0) = True := eq_true (ql.2 hok)
  refine ka2 zb (Nat.le_of_ble_eq_true rfl) ?_
  simp -implicitDefEqProofs only [cdA, go_sem, Go.Proofs.Tryz.f51, hck, cdN, reduceIte, reduceCtorEq, Nat.reduceEqDiff, Nat.reduceAdd, Nat.reduceLeDiff, Nat.reduceSub, Nat.reduceMul, Nat.reduceLT, Nat.reduceShiftRight, Nat.reduceMod, Int.reduceLE, Int.reduceLT, Int.reduceToNat, List.cons.injEq, cdB]
  refine vdd zb (Nat.le_of_ble_eq_true rfl) ?_
  simp -implicitDefEqProofs only [cdA, go_sem, Go.Proofs.Tryz.f56, reduceIte, reduceCtorEq, Nat.reduceEqDiff, Nat.reduceAdd, Nat.reduceLeDiff, Nat.reduceSub, Nat.reduceMul, Nat.reduceLT, Nat.reduceShiftRight, Nat.reduceMod, Int.reduceLE, Int.reduceLT, Int.reduceToNat, List.cons.injEq, cdB]
  have eI : qj v.i hash v.tick n 2 = vbd v hash n ch := rfl
  rw [eI]
  refine ⟨fun hs0 => ?_, fun hs0 => ?_⟩
  rotate_left 1
  · skip
    refine zZ zb (Nat.le_of_ble_eq_true rfl) ?_
    simp -implicitDefEqProofs only [cdA, go_sem, Go.Proofs.Tryz.f34, hs0, cdN, reduceIte, reduceCtorEq, Nat.reduceEqDiff, Nat.reduceAdd, Nat.reduceLeDiff, Nat.reduceSub, Nat.reduceMul, Nat.reduceLT, Nat.reduceShiftRight, Nat.reduceMod, Int.reduceLE, Int.reduceLT, Int.reduceToNat, List.cons.injEq, cdB]
    refine bG zb (Nat.le_of_ble_eq_true rfl) ?_
    simp -implicitDefEqProofs only [cdA, go_sem, Go.Proofs.Tryz.f37, reduceIte, reduceCtorEq, Nat.reduceEqDiff, Nat.reduceAdd, Nat.reduceLeDiff, Nat.reduceSub, Nat.reduceMul, Nat.reduceLT, Nat.reduceShiftRight, Nat.reduceMod, Int.reduceLE, Int.reduceLT, Int.reduceToNat, List.cons.injEq, cdB]
    refine yH zb (Nat.le_of_ble_eq_true rfl) ?_
    simp -implicitDefEqProofs only [cdA, go_sem, Go.Proofs.Tryz.f78, hs0, cdN, reduceIte, reduceCtorEq, Nat.reduceEqDiff, Nat.reduceAdd, Nat.reduceLeDiff, Nat.reduceSub, Nat.reduceMul, Nat.reduceLT, Nat.reduceShiftRight, Nat.reduceMod, Int.reduceLE, Int.reduceLT, Int.reduceToNat, List.cons.injEq, cdB]
    refine yu zb (Nat.le_of_ble_eq_true rfl) ?_
    simp -implicitDefEqProofs only [cdA, go_sem, Go.Proofs.Tryz.f38, hs0, cdN, reduceIte, reduceCtorEq, Nat.reduceEqDiff, Nat.reduceAdd, Nat.reduceLeDiff, Nat.reduceSub, Nat.reduceMul, Nat.reduceLT, Nat.reduceShiftRight, Nat.reduceMod, Int.reduceLE, Int.reduceLT, Int.reduceToNat, List.cons.injEq, cdB]
    refine uc.run kf zb qa (by kernel_rfl) (by kernel_rfl) ?_
    simp -implicitDefEqProofs only [cdA, go_sem, hs0, cdN, reduceIte, reduceCtorEq, Nat.reduceEqDiff, Nat.reduceAdd, Nat.reduceLeDiff, Nat.reduceSub, Nat.reduceMul, Nat.reduceLT, Nat.reduceShiftRight, Nat.reduceMod, Int.reduceLE, Int.reduceLT, Int.reduceToNat, List.cons.injEq, cdB]
    exact hbad _ (by rw [gaJ, if_neg (fun h => h hok), if_pos hs0]) hs0
  refine zZ zb (Nat.le_of_ble_eq_true rfl) ?_
  simp -implicitDefEqProofs only [cdA, go_sem, Go.Proofs.Tryz.f34, hck, cdN, reduceIte, reduceCtorEq, Nat.reduceEqDiff, Nat.reduceAdd, Nat.reduceLeDiff, Nat.reduceSub, Nat.reduceMul, Nat.reduceLT, Nat.reduceShiftRight, Nat.reduceMod, Int.reduceLE, Int.reduceLT, Int.reduceToNat, List.cons.injEq, cdB]
  refine bdj zb (Nat.le_of_ble_eq_true rfl) ?_
  simp -implicitDefEqProofs only [cdA, go_sem, Go.Proofs.Tryz.f58, reduceIte, reduceCtorEq, Nat.reduceEqDiff, Nat.reduceAdd, Nat.reduceLeDiff, Nat.reduceSub, Nat.reduceMul, Nat.reduceLT, Nat.reduceShiftRight, Nat.reduceMod, Int.reduceLE, Int.reduceLT, Int.reduceToNat, List.cons.injEq, cdB]
  have eC : bX v.c ch n = gbd v hash n ch := rfl
  rw [eC]
  refine ⟨fun hs1 => ?_, fun hs1 => ?_⟩
  rotate_left 1
  · skip
    refine bG zb (Nat.le_of_ble_eq_true rfl) ?_
    simp -implicitDefEqProofs only [cdA, go_sem, Go.Proofs.Tryz.f37, reduceIte, reduceCtorEq, Nat.reduceEqDiff, Nat.reduceAdd, Nat.reduceLeDiff, Nat.reduceSub, Nat.reduceMul, Nat.reduceLT, Nat.reduceShiftRight, Nat.reduceMod, Int.reduceLE, Int.reduceLT, Int.reduceToNat, List.cons.injEq, cdB]
    refine yH zb (Nat.le_of_ble_eq_true rfl) ?_
    simp -implicitDefEqProofs only [cdA, go_sem, Go.Proofs.Tryz.f78, hs1, cdN, reduceIte, reduceCtorEq, Nat.reduceEqDiff, Nat.reduceAdd, Nat.reduceLeDiff, Nat.reduceSub, Nat.reduceMul, Nat.reduceLT, Nat.reduceShiftRight, Nat.reduceMod, Int.reduceLE, Int.reduceLT, Int.reduceToNat, List.cons.injEq, cdB]
    refine yu zb (Nat.le_of_ble_eq_true rfl) ?_
    simp -implicitDefEqProofs only [cdA, go_sem, Go.Proofs.Tryz.f38, hs1, cdN, reduceIte, reduceCtorEq, Nat.reduceEqDiff, Nat.reduceAdd, Nat.reduceLeDiff, Nat.reduceSub, Nat.reduceMul, Nat.reduceLT, Nat.reduceShiftRight, Nat.reduceMod, Int.reduceLE, Int.reduceLT, Int.reduceToNat, List.cons.injEq, cdB]
    refine uc.run kf zb qa (by kernel_rfl) (by kernel_rfl) ?_
    simp -implicitDefEqProofs only [cdA, go_sem, hs1, cdN, reduceIte, reduceCtorEq, Nat.reduceEqDiff, Nat.reduceAdd, Nat.reduceLeDiff, Nat.reduceSub, Nat.reduceMul, Nat.reduceLT, Nat.reduceShiftRight, Nat.reduceMod, Int.reduceLE, Int.reduceLT, Int.reduceToNat, List.cons.injEq, cdB]
    exact hbad _ (by rw [gaJ, if_neg (fun h => h hok), if_neg (fun h => h hs0), if_pos hs1]) hs1
  refine bG zb (Nat.le_of_ble_eq_true rfl) ?_
  simp -implicitDefEqProofs only [cdA, go_sem, Go.Proofs.Tryz.f37, reduceIte, reduceCtorEq, Nat.reduceEqDiff, Nat.reduceAdd, Nat.reduceLeDiff, Nat.reduceSub, Nat.reduceMul, Nat.reduceLT, Nat.reduceShiftRight, Nat.reduceMod, Int.reduceLE, Int.reduceLT, Int.reduceToNat, List.cons.injEq, cdB]
  refine yH zb (Nat.le_of_ble_eq_true rfl) ?_
  simp -implicitDefEqProofs only [cdA, go_sem, Go.Proofs.Tryz.f78, hck, cdN, reduceIte, reduceCtorEq, Nat.reduceEqDiff, Nat.reduceAdd, Nat.reduceLeDiff, Nat.reduceSub, Nat.reduceMul, Nat.reduceLT, Nat.reduceShiftRight, Nat.reduceMod, Int.reduceLE, Int.reduceLT, Int.reduceToNat, List.cons.injEq, cdB]
  refine wbf zb (Nat.le_of_ble_eq_true rfl) ?_
  simp -implicitDefEqProofs only [cdA, go_sem, Go.Proofs.Tryz.f79, reduceIte, reduceCtorEq, Nat.reduceEqDiff, Nat.reduceAdd, Nat.reduceLeDiff, Nat.reduceSub, Nat.reduceMul, Nat.reduceLT, Nat.reduceShiftRight, Nat.reduceMod, Int.reduceLE, Int.reduceLT, Int.reduceToNat, List.cons.injEq, cdB]
  have eF : xu v.f 5 hash n = ybk v hash n ch := rfl
  rw [eF]
  refine ⟨h, fun hfd => ?_, fun hfd => ?_⟩
  rotate_left 1
  · skip
    refine yu zb (Nat.le_of_ble_eq_true rfl) ?_
    simp -implicitDefEqProofs only [cdA, go_sem, Go.Proofs.Tryz.f38, hfd, cdN, reduceIte, reduceCtorEq, Nat.reduceEqDiff, Nat.reduceAdd, Nat.reduceLeDiff, Nat.reduceSub, Nat.reduceMul, Nat.reduceLT, Nat.reduceShiftRight, Nat.reduceMod, Int.reduceLE, Int.reduceLT, Int.reduceToNat, List.cons.injEq, cdB]
    refine uc.run kf zb qa (by kernel_rfl) (by kernel_rfl) ?_
    simp -implicitDefEqProofs only [cdA, go_sem, hfd, cdN, reduceIte, reduceCtorEq, Nat.reduceEqDiff, Nat.reduceAdd, Nat.reduceLeDiff, Nat.reduceSub, Nat.reduceMul, Nat.reduceLT, Nat.reduceShiftRight, Nat.reduceMod, Int.reduceLE, Int.reduceLT, Int.reduceToNat, List.cons.injEq, cdB]
    exact hbad _ (by rw [gaJ, if_neg (fun h => h hok), if_neg (fun h => h hs0), if_neg (fun h => h hs1)]) hfd
  have hsm : jx ⟨(gbd v hash n ch).1, v.w, (vbd v hash n ch).1, v.p, (ybk v hash n ch).1, v.next, v.tick⟩ := by
    have h2 := jo hok
    have h50 := xaz hs0
    have h51 := ja9 hs1
    exact ⟨(by have := h51.1; show (gbd v hash n ch).1.length ≤ _; unfold gbd; (try dsimp only); omega), (fun d hd => by have := (h51.2.1 d hd).2.2.1; omega), h2.2.2.1, (by show (vbd v hash n ch).1.length ≤ _; unfold vbd; omega), h2.2.2.2.2.1, (by show (ybk v hash n ch).1.l.length ≤ _; unfold ybk; exact Nat.le_trans yE (by decide))⟩
  have hfin : vB v hash n ch = (⟨(gbd v hash n ch).1, v.w, (vbd v hash n ch).1, v.p, (ybk v hash n ch).1, v.next, v.tick⟩, 0) := by
    have : gaJ v hash n ch = 0 := by rw [gaJ, if_neg (fun h => h hok), if_neg (fun h => h hs0), if_neg (fun h => h hs1)]; exact hfd
    rw [vB, if_pos this]
  refine yu zb (Nat.le_of_ble_eq_true rfl) ?_
  simp -implicitDefEqProofs only [cdA, go_sem, Go.Proofs.Tryz.f38, hck, eq_true hsm, cdN, reduceIte, reduceCtorEq, Nat.reduceEqDiff, Nat.reduceAdd, Nat.reduceLeDiff, Nat.reduceSub, Nat.reduceMul, Nat.reduceLT, Nat.reduceShiftRight, Nat.reduceMod, Int.reduceLE, Int.reduceLT, Int.reduceToNat, List.cons.injEq, cdB]
  rw [hfin]
  exact ⟨⟨rfl, rfl, rfl, rfl, rfl, rfl, rfl, rfl⟩, rfl⟩
@[go_sem] def y5 (v : Wl) (hash : Nat) (n : Nat) (ch : Nat) : Prop := (v.f.next ≤ 18446744073709551615)
def gz : List D → Option (Prop × D × Fr)
  | [.agg [.c (.sl z405), .c (.sl z406), .c (.sl z407), .c (.sl z408), .c (.int .u64 z410), .c (.sl z411), .c (.int .u64 z412), .c (.int .u64 z413)], .c (.int .u64 z414), .c (.int .u64 z415), .c (.int .u64 z416)] => some (z405 = chs (ji z405) ∧ z406 = wts (xl z406) ∧ z407 = ivs (xm z407) ∧ z408 = pys (vl z408) ∧ z410 = (z410.toNat : Int) ∧ z411 = evs (yo z411) ∧ z412 = (z412.toNat : Int) ∧ z413 = (z413.toNat : Int) ∧ z414 = (z414.toNat : Int) ∧ z415 = (z415.toNat : Int) ∧ z416 = (z416.toNat : Int) ∧ y5 (⟨(ji z405), (xl z406), (xm z407), (vl z408), (⟨z410.toNat, (yo z411)⟩ : Fd), z412.toNat, z413.toNat⟩ : Wl) z414.toNat z415.toNat z416.toNat, x9 (⟨(ji z405), (xl z406), (xm z407), (vl z408), (⟨z410.toNat, (yo z411)⟩ : Fd), z412.toNat, z413.toNat⟩ : Wl) z414.toNat z415.toNat z416.toNat, [])
  | _ => none
attribute [go_sem] gz
theorem qY : ∀ rs p r fr, gz rs = some (p, r, fr) → p → qg Tryz.prog 21 rs r fr := by
  intro rs p r fr h hp
  unfold gz at h
  split at h <;> cases h
  obtain ⟨hc0, hc1, hc2, hc3, hc4, hc5, hc6, hc7, hc8, hc9, hc10, hp⟩ := hp
  rename_i z405 z406 z407 z408 z410 z411 z412 z413 z414 z415 z416
  obtain ⟨z405, rfl⟩ : ∃ m, z405 = chs m := ⟨_, hc0⟩
  obtain ⟨z406, rfl⟩ : ∃ m, z406 = wts m := ⟨_, hc1⟩
  obtain ⟨z407, rfl⟩ : ∃ m, z407 = ivs m := ⟨_, hc2⟩
  obtain ⟨z408, rfl⟩ : ∃ m, z408 = pys m := ⟨_, hc3⟩
  obtain ⟨z410, rfl⟩ : ∃ m : Nat, z410 = m := ⟨_, hc4⟩
  obtain ⟨z411, rfl⟩ : ∃ m, z411 = evs m := ⟨_, hc5⟩
  obtain ⟨z412, rfl⟩ : ∃ m : Nat, z412 = m := ⟨_, hc6⟩
  obtain ⟨z413, rfl⟩ : ∃ m : Nat, z413 = m := ⟨_, hc7⟩
  obtain ⟨z414, rfl⟩ : ∃ m : Nat, z414 = m := ⟨_, hc8⟩
  obtain ⟨z415, rfl⟩ : ∃ m : Nat, z415 = m := ⟨_, hc9⟩
  obtain ⟨z416, rfl⟩ : ∃ m : Nat, z416 = m := ⟨_, hc10⟩
  simp only [Int.toNat_natCast, jb, jc, qc, yc, jd]
  simp only [Int.toNat_natCast, jb, jc, qc, yc, jd, y5] at hp
  exact jat ⟨z405, z406, z407, z408, ⟨z410, z411⟩, z412, z413⟩ z414 z415 z416 hp
end Dm
namespace Dm
open Go Go.Proofs Go.IntWalk
def ubh (v : Wl) (hash : Nat) : List Iv × Int := qj v.i hash v.tick MM 3
def jbk (v : Wl) (hash : Nat) : Fd × Nat × Int := xu v.f 4 hash 0
def kaP (v : Wl) (hash : Nat) : Int := if ¬ okW v then 1 else if (ubh v hash).2 ≠ 0 then (ubh v hash).2 else (jbk v hash).2.2
def jD (v : Wl) (hash : Nat) : Wl × Int := if kaP v hash = 0 then (⟨v.c, v.w, (ubh v hash).1, v.p, (jbk v hash).1, v.next, v.tick⟩, 0) else (xy, kaP v hash)
@[go_sem] def yao (v : Wl) (hash : Nat) : D := .tup [.agg [.sl (chs (jD v hash).1.c), .sl (wts (jD v hash).1.w), .sl (ivs (jD v hash).1.i), .sl (pys (jD v hash).1.p), .int .u64 (jD v hash).1.f.next, .sl (evs (jD v hash).1.f.l), .int .u64 (jD v hash).1.next, .int .u64 (jD v hash).1.tick], .int .i64 (jD v hash).2]
@[go_sem] abbrev kbR : FuncId := 20
@[go_sem] def yaQ : Tab := [(9, jh), (55, xG), (80, uv), (81, vq)]
theorem gb : za Tryz.prog yaQ := (za.cons xg (za.cons kae (za.cons gn (za.cons kj za.nil))))
set_option maxRecDepth 8000 in
set_option maxHeartbeats 1000000 in
theorem kaG (v : Wl) (hash : Nat) (h : v.f.next ≤ 18446744073709551615) : yb Tryz.prog 20 [.agg [.sl (chs v.c), .sl (wts v.w), .sl (ivs v.i), .sl (pys v.p), .c (.int .u64 (v.f.next : Int)), .sl (evs v.f.l), .c (.int .u64 (v.next : Int)), .c (.int .u64 (v.tick : Int))], .c (.int .u64 (hash : Int))] (yao v hash) := by
  refine .of (gda gb (Nat.le_of_ble_eq_true rfl) ?_)
  simp -implicitDefEqProofs only [cdA, go_sem, Go.Proofs.Tryz.f20, reduceIte, reduceCtorEq, Nat.reduceEqDiff, Nat.reduceAdd, Nat.reduceLeDiff, Nat.reduceSub, Nat.reduceMul, Nat.reduceLT, Nat.reduceShiftRight, Nat.reduceMod, Int.reduceLE, Int.reduceLT, Int.reduceToNat, List.cons.injEq, cdB]
  refine xa0 gb (Nat.le_of_ble_eq_true rfl) ?_
  simp -implicitDefEqProofs only [cdA, go_sem, Go.Proofs.Tryz.f33, reduceIte, reduceCtorEq, Nat.reduceEqDiff, Nat.reduceAdd, Nat.reduceLeDiff, Nat.reduceSub, Nat.reduceMul, Nat.reduceLT, Nat.reduceShiftRight, Nat.reduceMod, Int.reduceLE, Int.reduceLT, Int.reduceToNat, List.cons.injEq, cdB]
  refine uc.run wH gb qa (by kernel_rfl) (by kernel_rfl) ?_
  simp -implicitDefEqProofs only [cdA, go_sem, reduceIte, reduceCtorEq, Nat.reduceEqDiff, Nat.reduceAdd, Nat.reduceLeDiff, Nat.reduceSub, Nat.reduceMul, Nat.reduceLT, Nat.reduceShiftRight, Nat.reduceMod, Int.reduceLE, Int.reduceLT, Int.reduceToNat, List.cons.injEq, cdB]
  refine ⟨h, ?_⟩
  have hbad : ∀ e : Int, kaP v hash = e → ¬ e = 0 → (chs (jD v hash).1.c = [] ∧ wts (jD v hash).1.w = [] ∧ ivs (jD v hash).1.i = [] ∧ pys (jD v hash).1.p = [] ∧ 0 = ((jD v hash).1.f.next : Int) ∧ evs (jD v hash).1.f.l = [] ∧ 0 = ((jD v hash).1.next : Int) ∧ 0 = ((jD v hash).1.tick : Int)) ∧ e = (jD v hash).2 := fun e h1 h2 => by
    have : jD v hash = (xy, e) := by rw [jD, if_neg (by rw [h1]; exact h2), h1]
    rw [this]; exact ⟨⟨rfl, rfl, rfl, rfl, rfl, rfl, rfl, rfl⟩, rfl⟩
  by_cases hok : okW v
  rotate_left 1
  · have hck : (bt v = 0) = False := eq_false fun h => hok (ql.1 h)
    have he : kaP v hash = 1 := by rw [kaP, if_pos hok]
    have hc1 : bt v = 1 := by rw [bt, if_neg hok]
    skip
    refine ka2 gb (Nat.le_of_ble_eq_true rfl) ?_
    simp -implicitDefEqProofs only [cdA, go_sem, Go.Proofs.Tryz.f51, hck, cdN, reduceIte, reduceCtorEq, Nat.reduceEqDiff, Nat.reduceAdd, Nat.reduceLeDiff, Nat.reduceSub, Nat.reduceMul, Nat.reduceLT, Nat.reduceShiftRight, Nat.reduceMod, Int.reduceLE, Int.reduceLT, Int.reduceToNat, List.cons.injEq, cdB]
    refine bG gb (Nat.le_of_ble_eq_true rfl) ?_
    simp -implicitDefEqProofs only [cdA, go_sem, Go.Proofs.Tryz.f37, reduceIte, reduceCtorEq, Nat.reduceEqDiff, Nat.reduceAdd, Nat.reduceLeDiff, Nat.reduceSub, Nat.reduceMul, Nat.reduceLT, Nat.reduceShiftRight, Nat.reduceMod, Int.reduceLE, Int.reduceLT, Int.reduceToNat, List.cons.injEq, cdB]
    refine yH gb (Nat.le_of_ble_eq_true rfl) ?_
    simp -implicitDefEqProofs only [cdA, go_sem, Go.Proofs.Tryz.f78, hck, cdN, reduceIte, reduceCtorEq, Nat.reduceEqDiff, Nat.reduceAdd, Nat.reduceLeDiff, Nat.reduceSub, Nat.reduceMul, Nat.reduceLT, Nat.reduceShiftRight, Nat.reduceMod, Int.reduceLE, Int.reduceLT, Int.reduceToNat, List.cons.injEq, cdB]
    refine yu gb (Nat.le_of_ble_eq_true rfl) ?_
    simp -implicitDefEqProofs only [cdA, go_sem, Go.Proofs.Tryz.f38, hck, cdN, reduceIte, reduceCtorEq, Nat.reduceEqDiff, Nat.reduceAdd, Nat.reduceLeDiff, Nat.reduceSub, Nat.reduceMul, Nat.reduceLT, Nat.reduceShiftRight, Nat.reduceMod, Int.reduceLE, Int.reduceLT, Int.reduceToNat, List.cons.injEq, cdB]
    refine uc.run kf gb qa (by kernel_rfl) (by kernel_rfl) ?_
    simp -implicitDefEqProofs only [cdA, go_sem, hck, cdN, reduceIte, reduceCtorEq, Nat.reduceEqDiff, Nat.reduceAdd, Nat.reduceLeDiff, Nat.reduceSub, Nat.reduceMul, Nat.reduceLT, Nat.reduceShiftRight, Nat.reduceMod, Int.reduceLE, Int.reduceLT, Int.reduceToNat, List.cons.injEq, cdB]
    exact hbad _ (he.trans hc1.symm) (by rw [hc1]; decide)
  have hck : (bt v = 0) = True := eq_true (ql.2 hok)
  refine ka2 gb (Nat.le_of_ble_eq_true rfl) ?_
  simp -implicitDefEqProofs only [cdA, go_sem, Go.Proofs.Tryz.f51, hck, cdN, reduceIte, reduceCtorEq, Nat.reduceEqDiff, Nat.reduceAdd, Nat.reduceLeDiff, Nat.reduceSub, Nat.reduceMul, Nat.reduceLT, Nat.reduceShiftRight, Nat.reduceMod, Int.reduceLE, Int.reduceLT, Int.reduceToNat, List.cons.injEq, cdB]
  refine zdc gb (Nat.le_of_ble_eq_true rfl) ?_
  simp -implicitDefEqProofs only [cdA, go_sem, Go.Proofs.Tryz.f54, reduceIte, reduceCtorEq, Nat.reduceEqDiff, Nat.reduceAdd, Nat.reduceLeDiff, Nat.reduceSub, Nat.reduceMul, Nat.reduceLT, Nat.reduceShiftRight, Nat.reduceMod, Int.reduceLE, Int.reduceLT, Int.reduceToNat, List.cons.injEq, cdB]
  have eI : qj v.i hash v.tick MM 3 = ubh v hash := rfl
  rw [eI]
  refine ⟨fun hs0 => ?_, fun hs0 => ?_⟩
  rotate_left 1
  · skip
    refine bG gb (Nat.le_of_ble_eq_true rfl) ?_
    simp -implicitDefEqProofs only [cdA, go_sem, Go.Proofs.Tryz.f37, reduceIte, reduceCtorEq, Nat.reduceEqDiff, Nat.reduceAdd, Nat.reduceLeDiff, Nat.reduceSub, Nat.reduceMul, Nat.reduceLT, Nat.reduceShiftRight, Nat.reduceMod, Int.reduceLE, Int.reduceLT, Int.reduceToNat, List.cons.injEq, cdB]
    refine yH gb (Nat.le_of_ble_eq_true rfl) ?_
    simp -implicitDefEqProofs only [cdA, go_sem, Go.Proofs.Tryz.f78, hs0, cdN, reduceIte, reduceCtorEq, Nat.reduceEqDiff, Nat.reduceAdd, Nat.reduceLeDiff, Nat.reduceSub, Nat.reduceMul, Nat.reduceLT, Nat.reduceShiftRight, Nat.reduceMod, Int.reduceLE, Int.reduceLT, Int.reduceToNat, List.cons.injEq, cdB]
    refine yu gb (Nat.le_of_ble_eq_true rfl) ?_
    simp -implicitDefEqProofs only [cdA, go_sem, Go.Proofs.Tryz.f38, hs0, cdN, reduceIte, reduceCtorEq, Nat.reduceEqDiff, Nat.reduceAdd, Nat.reduceLeDiff, Nat.reduceSub, Nat.reduceMul, Nat.reduceLT, Nat.reduceShiftRight, Nat.reduceMod, Int.reduceLE, Int.reduceLT, Int.reduceToNat, List.cons.injEq, cdB]
    refine uc.run kf gb qa (by kernel_rfl) (by kernel_rfl) ?_
    simp -implicitDefEqProofs only [cdA, go_sem, hs0, cdN, reduceIte, reduceCtorEq, Nat.reduceEqDiff, Nat.reduceAdd, Nat.reduceLeDiff, Nat.reduceSub, Nat.reduceMul, Nat.reduceLT, Nat.reduceShiftRight, Nat.reduceMod, Int.reduceLE, Int.reduceLT, Int.reduceToNat, List.cons.injEq, cdB]
    exact hbad _ (by rw [kaP, if_neg (fun h => h hok), if_pos hs0]) hs0
  refine bG gb (Nat.le_of_ble_eq_true rfl) ?_
  simp -implicitDefEqProofs only [cdA, go_sem, Go.Proofs.Tryz.f37, reduceIte, reduceCtorEq, Nat.reduceEqDiff, Nat.reduceAdd, Nat.reduceLeDiff, Nat.reduceSub, Nat.reduceMul, Nat.reduceLT, Nat.reduceShiftRight, Nat.reduceMod, Int.reduceLE, Int.reduceLT, Int.reduceToNat, List.cons.injEq, cdB]
  refine yH gb (Nat.le_of_ble_eq_true rfl) ?_
  simp -implicitDefEqProofs only [cdA, go_sem, Go.Proofs.Tryz.f78, hck, cdN, reduceIte, reduceCtorEq, Nat.reduceEqDiff, Nat.reduceAdd, Nat.reduceLeDiff, Nat.reduceSub, Nat.reduceMul, Nat.reduceLT, Nat.reduceShiftRight, Nat.reduceMod, Int.reduceLE, Int.reduceLT, Int.reduceToNat, List.cons.injEq, cdB]
  refine wbf gb (Nat.le_of_ble_eq_true rfl) ?_
  simp -implicitDefEqProofs only [cdA, go_sem, Go.Proofs.Tryz.f79, reduceIte, reduceCtorEq, Nat.reduceEqDiff, Nat.reduceAdd, Nat.reduceLeDiff, Nat.reduceSub, Nat.reduceMul, Nat.reduceLT, Nat.reduceShiftRight, Nat.reduceMod, Int.reduceLE, Int.reduceLT, Int.reduceToNat, List.cons.injEq, cdB]
  have eF : xu v.f 4 hash 0 = jbk v hash := rfl
  rw [eF]
  refine ⟨h, fun hfd => ?_, fun hfd => ?_⟩
  rotate_left 1
  · skip
    refine yu gb (Nat.le_of_ble_eq_true rfl) ?_
    simp -implicitDefEqProofs only [cdA, go_sem, Go.Proofs.Tryz.f38, hfd, cdN, reduceIte, reduceCtorEq, Nat.reduceEqDiff, Nat.reduceAdd, Nat.reduceLeDiff, Nat.reduceSub, Nat.reduceMul, Nat.reduceLT, Nat.reduceShiftRight, Nat.reduceMod, Int.reduceLE, Int.reduceLT, Int.reduceToNat, List.cons.injEq, cdB]
    refine uc.run kf gb qa (by kernel_rfl) (by kernel_rfl) ?_
    simp -implicitDefEqProofs only [cdA, go_sem, hfd, cdN, reduceIte, reduceCtorEq, Nat.reduceEqDiff, Nat.reduceAdd, Nat.reduceLeDiff, Nat.reduceSub, Nat.reduceMul, Nat.reduceLT, Nat.reduceShiftRight, Nat.reduceMod, Int.reduceLE, Int.reduceLT, Int.reduceToNat, List.cons.injEq, cdB]
    exact hbad _ (by rw [kaP, if_neg (fun h => h hok), if_neg (fun h => h hs0)]) hfd
  have hsm : jx ⟨v.c, v.w, (ubh v hash).1, v.p, (jbk v hash).1, v.next, v.tick⟩ := by
    have h2 := jo hok
    have h50 := xaz hs0
    exact ⟨h2.1, h2.2.1, h2.2.2.1, (by show (ubh v hash).1.length ≤ _; unfold ubh; omega), h2.2.2.2.2.1, (by show (jbk v hash).1.l.length ≤ _; unfold jbk; exact Nat.le_trans yE (by decide))⟩
  have hfin : jD v hash = (⟨v.c, v.w, (ubh v hash).1, v.p, (jbk v hash).1, v.next, v.tick⟩, 0) := by
    have : kaP v hash = 0 := by rw [kaP, if_neg (fun h => h hok), if_neg (fun h => h hs0)]; exact hfd
    rw [jD, if_pos this]
  refine yu gb (Nat.le_of_ble_eq_true rfl) ?_
  simp -implicitDefEqProofs only [cdA, go_sem, Go.Proofs.Tryz.f38, hck, eq_true hsm, cdN, reduceIte, reduceCtorEq, Nat.reduceEqDiff, Nat.reduceAdd, Nat.reduceLeDiff, Nat.reduceSub, Nat.reduceMul, Nat.reduceLT, Nat.reduceShiftRight, Nat.reduceMod, Int.reduceLE, Int.reduceLT, Int.reduceToNat, List.cons.injEq, cdB]
  rw [hfin]
  exact ⟨⟨rfl, rfl, rfl, rfl, rfl, rfl, rfl, rfl⟩, rfl⟩
@[go_sem] def gao (v : Wl) (hash : Nat) : Prop := (v.f.next ≤ 18446744073709551615)
def gF : List D → Option (Prop × D × Fr)
  | [.agg [.c (.sl z418), .c (.sl z419), .c (.sl z420), .c (.sl z421), .c (.int .u64 z423), .c (.sl z424), .c (.int .u64 z425), .c (.int .u64 z426)], .c (.int .u64 z427)] => some (z418 = chs (ji z418) ∧ z419 = wts (xl z419) ∧ z420 = ivs (xm z420) ∧ z421 = pys (vl z421) ∧ z423 = (z423.toNat : Int) ∧ z424 = evs (yo z424) ∧ z425 = (z425.toNat : Int) ∧ z426 = (z426.toNat : Int) ∧ z427 = (z427.toNat : Int) ∧ gao (⟨(ji z418), (xl z419), (xm z420), (vl z421), (⟨z423.toNat, (yo z424)⟩ : Fd), z425.toNat, z426.toNat⟩ : Wl) z427.toNat, yao (⟨(ji z418), (xl z419), (xm z420), (vl z421), (⟨z423.toNat, (yo z424)⟩ : Fd), z425.toNat, z426.toNat⟩ : Wl) z427.toNat, [])
  | _ => none
attribute [go_sem] gF
theorem zae : ∀ rs p r fr, gF rs = some (p, r, fr) → p → qg Tryz.prog 20 rs r fr := by
  intro rs p r fr h hp
  unfold gF at h
  split at h <;> cases h
  obtain ⟨hc0, hc1, hc2, hc3, hc4, hc5, hc6, hc7, hc8, hp⟩ := hp
  rename_i z418 z419 z420 z421 z423 z424 z425 z426 z427
  obtain ⟨z418, rfl⟩ : ∃ m, z418 = chs m := ⟨_, hc0⟩
  obtain ⟨z419, rfl⟩ : ∃ m, z419 = wts m := ⟨_, hc1⟩
  obtain ⟨z420, rfl⟩ : ∃ m, z420 = ivs m := ⟨_, hc2⟩
  obtain ⟨z421, rfl⟩ : ∃ m, z421 = pys m := ⟨_, hc3⟩
  obtain ⟨z423, rfl⟩ : ∃ m : Nat, z423 = m := ⟨_, hc4⟩
  obtain ⟨z424, rfl⟩ : ∃ m, z424 = evs m := ⟨_, hc5⟩
  obtain ⟨z425, rfl⟩ : ∃ m : Nat, z425 = m := ⟨_, hc6⟩
  obtain ⟨z426, rfl⟩ : ∃ m : Nat, z426 = m := ⟨_, hc7⟩
  obtain ⟨z427, rfl⟩ : ∃ m : Nat, z427 = m := ⟨_, hc8⟩
  simp only [Int.toNat_natCast, jb, jc, qc, yc, jd]
  simp only [Int.toNat_natCast, jb, jc, qc, yc, jd, gao] at hp
  exact kaG ⟨z418, z419, z420, z421, ⟨z423, z424⟩, z425, z426⟩ z427 hp
end Dm
