import Derived.Test.YtceoichdaepegabGreatP8

set_option linter.unusedSimpArgs false
set_option linter.unusedVariables false
set_option linter.unusedSectionVars false
namespace Dm
open Go Go.Proofs Go.IntWalk
def gbe (v : Wl) (ch : Nat) : List Ch × Int := yY v.c ch
def qbq (v : Wl) (ch : Nat) : Fd × Nat × Int := xu v.f 7 ch 0
def gaU (v : Wl) (ch : Nat) : Int := if ¬ okW v then 1 else if (gbe v ch).2 ≠ 0 then (gbe v ch).2 else (qbq v ch).2.2
def xE (v : Wl) (ch : Nat) : Wl × Int := if gaU v ch = 0 then (⟨(gbe v ch).1, v.w, v.i, v.p, (qbq v ch).1, v.next, v.tick⟩, 0) else (xy, gaU v ch)
@[go_sem] def vaD (v : Wl) (ch : Nat) : D := .tup [.agg [.sl (chs (xE v ch).1.c), .sl (wts (xE v ch).1.w), .sl (ivs (xE v ch).1.i), .sl (pys (xE v ch).1.p), .int .u64 (xE v ch).1.f.next, .sl (evs (xE v ch).1.f.l), .int .u64 (xE v ch).1.next, .int .u64 (xE v ch).1.tick], .int .i64 (xE v ch).2]
@[go_sem] abbrev zch : FuncId := 22
@[go_sem] def zbc : Tab := [(9, jh), (61, gL), (80, uv), (81, vq)]
theorem qd : za Tryz.prog zbc := (za.cons xg (za.cons wan (za.cons gn (za.cons kj za.nil))))
set_option maxRecDepth 8000 in
set_option maxHeartbeats 1000000 in
theorem gaM (v : Wl) (ch : Nat) (h : v.f.next ≤ 18446744073709551615) : yb Tryz.prog 22 [.agg [.sl (chs v.c), .sl (wts v.w), .sl (ivs v.i), .sl (pys v.p), .c (.int .u64 (v.f.next : Int)), .sl (evs v.f.l), .c (.int .u64 (v.next : Int)), .c (.int .u64 (v.tick : Int))], .c (.int .u64 (ch : Int))] (vaD v ch) := by
  refine .of (wda qd (Nat.le_of_ble_eq_true rfl) ?_)
  simp -implicitDefEqProofs only [cdA, go_sem, Go.Proofs.Tryz.f22, reduceIte, reduceCtorEq, Nat.reduceEqDiff, Nat.reduceAdd, Nat.reduceLeDiff, Nat.reduceSub, Nat.reduceMul, Nat.reduceLT, Nat.reduceShiftRight, Nat.reduceMod, Int.reduceLE, Int.reduceLT, Int.reduceToNat, List.cons.injEq, cdB]
  refine xa0 qd (Nat.le_of_ble_eq_true rfl) ?_
  simp -implicitDefEqProofs only [cdA, go_sem, Go.Proofs.Tryz.f33, reduceIte, reduceCtorEq, Nat.reduceEqDiff, Nat.reduceAdd, Nat.reduceLeDiff, Nat.reduceSub, Nat.reduceMul, Nat.reduceLT, Nat.reduceShiftRight, Nat.reduceMod, Int.reduceLE, Int.reduceLT, Int.reduceToNat, List.cons.injEq, cdB]
  refine uc.run wH qd qa (by kernel_rfl) (by kernel_rfl) ?_
  simp -implicitDefEqProofs only [cdA, go_sem, reduceIte, reduceCtorEq, Nat.reduceEqDiff, Nat.reduceAdd, Nat.reduceLeDiff, Nat.reduceSub, Nat.reduceMul, Nat.reduceLT, Nat.reduceShiftRight, Nat.reduceMod, Int.reduceLE, Int.reduceLT, Int.reduceToNat, List.cons.injEq, cdB]
  refine ⟨h, ?_⟩
  have hbad : ∀ e : Int, gaU v ch = e → ¬ e = 0 → (chs (xE v ch).1.c = [] ∧ wts (xE v ch).1.w = [] ∧ ivs (xE v ch).1.i = [] ∧ pys (xE v ch).1.p = [] ∧ 0 = ((xE v ch).1.f.next : Int) ∧ evs (xE v ch).1.f.l = [] ∧ 0 = ((xE v ch).1.next : Int) ∧ 0 = ((xE v ch).1.tick : Int)) ∧ e = (xE v ch).2 := fun e h1 h2 => by
    have : xE v ch = (xy, e) := by rw [xE, if_neg (by rw [h1]; exact h2), h1]
    rw [this]; exact ⟨⟨rfl, rfl, rfl, rfl, rfl, rfl, rfl, rfl⟩, rfl⟩
  by_cases hok : okW v
  rotate_left 1
  · have hck : (bt v = 0) = False := eq_false fun h => hok (ql.1 h)
    have he : gaU v ch = 1 := by rw [gaU, if_pos hok]
    have hc1 : bt v = 1 := by rw [bt, if_neg hok]
    skip
    refine zZ qd (Nat.le_of_ble_eq_true rfl) ?_
    simp -implicitDefEqProofs only [cdA, go_sem, Go.Proofs.Tryz.f34, hck, cdN, reduceIte, reduceCtorEq, Nat.reduceEqDiff, Nat.reduceAdd, Nat.reduceLeDiff, Nat.reduceSub, Nat.reduceMul, Nat.reduceLT, Nat.reduceShiftRight, Nat.reduceMod, Int.reduceLE, Int.reduceLT, Int.reduceToNat, List.cons.injEq, cdB]
    refine bG qd (Nat.le_of_ble_eq_true rfl) ?_
    simp -implicitDefEqProofs only [cdA, go_sem, Go.Proofs.Tryz.f37, reduceIte, reduceCtorEq, Nat.reduceEqDiff, Nat.reduceAdd, Nat.reduceLeDiff, Nat.reduceSub, Nat.reduceMul, Nat.reduceLT, Nat.reduceShiftRight, Nat.reduceMod, Int.reduceLE, Int.reduceLT, Int.reduceToNat, List.cons.injEq, cdB]
    refine yH qd (Nat.le_of_ble_eq_true rfl) ?_
    simp -implicitDefEqProofs only [cdA, go_sem, Go.Proofs.Tryz.f78, hck, cdN, reduceIte, reduceCtorEq, Nat.reduceEqDiff, Nat.reduceAdd, Nat.reduceLeDiff, Nat.reduceSub, Nat.reduceMul, Nat.reduceLT, Nat.reduceShiftRight, Nat.reduceMod, Int.reduceLE, Int.reduceLT, Int.reduceToNat, List.cons.injEq, cdB]
    refine yu qd (Nat.le_of_ble_eq_true rfl) ?_
    simp -implicitDefEqProofs only [cdA, go_sem, Go.Proofs.Tryz.f38, hck, cdN, reduceIte, reduceCtorEq, Nat.reduceEqDiff, Nat.reduceAdd, Nat.reduceLeDiff, Nat.reduceSub, Nat.reduceMul, Nat.reduceLT, Nat.reduceShiftRight, Nat.reduceMod, Int.reduceLE, Int.reduceLT, Int.reduceToNat, List.cons.injEq, cdB]
    refine uc.run kf qd qa (by kernel_rfl) (by kernel_rfl) ?_
    simp -implicitDefEqProofs only [cdA, go_sem, hck, cdN, reduceIte, reduceCtorEq, Nat.reduceEqDiff, Nat.reduceAdd, Nat.reduceLeDiff, Nat.reduceSub, Nat.reduceMul, Nat.reduceLT, Nat.reduceShiftRight, Nat.reduceMod, Int.reduceLE, Int.reduceLT, Int.reduceToNat, List.cons.injEq, cdB]
    exact hbad _ (he.trans hc1.symm) (by rw [hc1]; decide)
  have hck : (bt v = 0) = True := eq_true (ql.2 hok)
  refine zZ qd (Nat.le_of_ble_eq_true rfl) ?_
  simp -implicitDefEqProofs only [cdA, go_sem, Go.Proofs.Tryz.f34, hck, cdN, reduceIte, reduceCtorEq, Nat.reduceEqDiff, Nat.reduceAdd, Nat.reduceLeDiff, Nat.reduceSub, Nat.reduceMul, Nat.reduceLT, Nat.reduceShiftRight, Nat.reduceMod, Int.reduceLE, Int.reduceLT, Int.reduceToNat, List.cons.injEq, cdB]
  refine wdf qd (Nat.le_of_ble_eq_true rfl) ?_
  simp -implicitDefEqProofs only [cdA, go_sem, Go.Proofs.Tryz.f60, reduceIte, reduceCtorEq, Nat.reduceEqDiff, Nat.reduceAdd, Nat.reduceLeDiff, Nat.reduceSub, Nat.reduceMul, Nat.reduceLT, Nat.reduceShiftRight, Nat.reduceMod, Int.reduceLE, Int.reduceLT, Int.reduceToNat, List.cons.injEq, cdB]
  have eC : yY v.c ch = gbe v ch := rfl
  rw [eC]
  refine ⟨fun hs0 => ?_, fun hs0 => ?_⟩
  rotate_left 1
  · skip
    refine bG qd (Nat.le_of_ble_eq_true rfl) ?_
    simp -implicitDefEqProofs only [cdA, go_sem, Go.Proofs.Tryz.f37, reduceIte, reduceCtorEq, Nat.reduceEqDiff, Nat.reduceAdd, Nat.reduceLeDiff, Nat.reduceSub, Nat.reduceMul, Nat.reduceLT, Nat.reduceShiftRight, Nat.reduceMod, Int.reduceLE, Int.reduceLT, Int.reduceToNat, List.cons.injEq, cdB]
    refine yH qd (Nat.le_of_ble_eq_true rfl) ?_
    simp -implicitDefEqProofs only [cdA, go_sem, Go.Proofs.Tryz.f78, hs0, cdN, reduceIte, reduceCtorEq, Nat.reduceEqDiff, Nat.reduceAdd, Nat.reduceLeDiff, Nat.reduceSub, Nat.reduceMul, Nat.reduceLT, Nat.reduceShiftRight, Nat.reduceMod, Int.reduceLE, Int.reduceLT, Int.reduceToNat, List.cons.injEq, cdB]
    refine yu qd (Nat.le_of_ble_eq_true rfl) ?_
    simp -implicitDefEqProofs only [cdA, go_sem, Go.Proofs.Tryz.f38, hs0, cdN, reduceIte, reduceCtorEq, Nat.reduceEqDiff, Nat.reduceAdd, Nat.reduceLeDiff, Nat.reduceSub, Nat.reduceMul, Nat.reduceLT, Nat.reduceShiftRight, Nat.reduceMod, Int.reduceLE, Int.reduceLT, Int.reduceToNat, List.cons.injEq, cdB]
    refine uc.run kf qd qa (by kernel_rfl) (by kernel_rfl) ?_
    simp -implicitDefEqProofs only [cdA, go_sem, hs0, cdN, reduceIte, reduceCtorEq, Nat.reduceEqDiff, Nat.reduceAdd, Nat.reduceLeDiff, Nat.reduceSub, Nat.reduceMul, Nat.reduceLT, Nat.reduceShiftRight, Nat.reduceMod, Int.reduceLE, Int.reduceLT, Int.reduceToNat, List.cons.injEq, cdB]
    exact hbad _ (by rw [gaU, if_neg (fun h => h hok), if_pos hs0]) hs0
  refine bG qd (Nat.le_of_ble_eq_true rfl) ?_
  simp -implicitDefEqProofs only [cdA, go_sem, Go.Proofs.Tryz.f37, reduceIte, reduceCtorEq, Nat.reduceEqDiff, Nat.reduceAdd, Nat.reduceLeDiff, Nat.reduceSub, Nat.reduceMul, Nat.reduceLT, Nat.reduceShiftRight, Nat.reduceMod, Int.reduceLE, Int.reduceLT, Int.reduceToNat, List.cons.injEq, cdB]
  refine yH qd (Nat.le_of_ble_eq_true rfl) ?_
  simp -implicitDefEqProofs only [cdA, go_sem, Go.Proofs.Tryz.f78, hck, cdN, reduceIte, reduceCtorEq, Nat.reduceEqDiff, Nat.reduceAdd, Nat.reduceLeDiff, Nat.reduceSub, Nat.reduceMul, Nat.reduceLT, Nat.reduceShiftRight, Nat.reduceMod, Int.reduceLE, Int.reduceLT, Int.reduceToNat, List.cons.injEq, cdB]
  refine wbf qd (Nat.le_of_ble_eq_true rfl) ?_
  simp -implicitDefEqProofs only [cdA, go_sem, Go.Proofs.Tryz.f79, reduceIte, reduceCtorEq, Nat.reduceEqDiff, Nat.reduceAdd, Nat.reduceLeDiff, Nat.reduceSub, Nat.reduceMul, Nat.reduceLT, Nat.reduceShiftRight, Nat.reduceMod, Int.reduceLE, Int.reduceLT, Int.reduceToNat, List.cons.injEq, cdB]
  have eF : xu v.f 7 ch 0 = qbq v ch := rfl
  rw [eF]
  refine ⟨h, fun hfd => ?_, fun hfd => ?_⟩
  rotate_left 1
  · skip
    refine yu qd (Nat.le_of_ble_eq_true rfl) ?_
    simp -implicitDefEqProofs only [cdA, go_sem, Go.Proofs.Tryz.f38, hfd, cdN, reduceIte, reduceCtorEq, Nat.reduceEqDiff, Nat.reduceAdd, Nat.reduceLeDiff, Nat.reduceSub, Nat.reduceMul, Nat.reduceLT, Nat.reduceShiftRight, Nat.reduceMod, Int.reduceLE, Int.reduceLT, Int.reduceToNat, List.cons.injEq, cdB]
    refine uc.run kf qd qa (by kernel_rfl) (by kernel_rfl) ?_
    simp -implicitDefEqProofs only [cdA, go_sem, hfd, cdN, reduceIte, reduceCtorEq, Nat.reduceEqDiff, Nat.reduceAdd, Nat.reduceLeDiff, Nat.reduceSub, Nat.reduceMul, Nat.reduceLT, Nat.reduceShiftRight, Nat.reduceMod, Int.reduceLE, Int.reduceLT, Int.reduceToNat, List.cons.injEq, cdB]
    exact hbad _ (by rw [gaU, if_neg (fun h => h hok), if_neg (fun h => h hs0)]) hfd
  have hsm : jx ⟨(gbe v ch).1, v.w, v.i, v.p, (qbq v ch).1, v.next, v.tick⟩ := by
    have h2 := jo hok
    have h50 := ka9 hs0
    exact ⟨(by have := h50.1; show (gbe v ch).1.length ≤ _; unfold gbe; (try dsimp only); omega), (fun d hd => by have := (h50.2.1 d hd).2.2.1; omega), h2.2.2.1, h2.2.2.2.1, h2.2.2.2.2.1, (by show (qbq v ch).1.l.length ≤ _; unfold qbq; exact Nat.le_trans yE (by decide))⟩
  have hfin : xE v ch = (⟨(gbe v ch).1, v.w, v.i, v.p, (qbq v ch).1, v.next, v.tick⟩, 0) := by
    have : gaU v ch = 0 := by rw [gaU, if_neg (fun h => h hok), if_neg (fun h => h hs0)]; exact hfd
    rw [xE, if_pos this]
  refine yu qd (Nat.le_of_ble_eq_true rfl) ?_
  simp -implicitDefEqProofs only [cdA, go_sem, Go.Proofs.Tryz.f38, hck, eq_true hsm, cdN, reduceIte, reduceCtorEq, Nat.reduceEqDiff, Nat.reduceAdd, Nat.reduceLeDiff, Nat.reduceSub, Nat.reduceMul, Nat.reduceLT, Nat.reduceShiftRight, Nat.reduceMod, Int.reduceLE, Int.reduceLT, Int.reduceToNat, List.cons.injEq, cdB]
  rw [hfin]
  exact ⟨⟨rfl, rfl, rfl, rfl, rfl, rfl, rfl, rfl⟩, rfl⟩
@[go_sem] def yaB (v : Wl) (ch : Nat) : Prop := (v.f.next ≤ 18446744073709551615)
def bI : List D → Option (Prop × D × Fr)
  | [.agg [.c (.sl z429), .c (.sl z430), .c (.sl z431), .c (.sl z432), .c (.int .u64 z434), .c (.sl z435), .c (.int .u64 z436), .c (.int .u64 z437)], .c (.int .u64 z438)] => some (z429 = chs (ji z429) ∧ z430 = wts (xl z430) ∧ z431 = ivs (xm z431) ∧ z432 = pys (vl z432) ∧ z434 = (z434.toNat : Int) ∧ z435 = evs (yo z435) ∧ z436 = (z436.toNat : Int) ∧ z437 = (z437.toNat : Int) ∧ z438 = (z438.toNat : Int) ∧ yaB (⟨(ji z429), (xl z430), (xm z431), (vl z432), (⟨z434.toNat, (yo z435)⟩ : Fd), z436.toNat, z437.toNat⟩ : Wl) z438.toNat, vaD (⟨(ji z429), (xl z430), (xm z431), (vl z432), (⟨z434.toNat, (yo z435)⟩ : Fd), z436.toNat, z437.toNat⟩ : Wl) z438.toNat, [])
  | _ => none
attribute [go_sem] bI
theorem xai : ∀ rs p r fr, bI rs = some (p, r, fr) → p → qg Tryz.prog 22 rs r fr := by
  intro rs p r fr h hp
  unfold bI at h
  split at h <;> cases h
  obtain ⟨hc0, hc1, hc2, hc3, hc4, hc5, hc6, hc7, hc8, hp⟩ := hp
  rename_i z429 z430 z431 z432 z434 z435 z436 z437 z438
  obtain ⟨z429, rfl⟩ : ∃ m, z429 = chs m := ⟨_, hc0⟩
  obtain ⟨z430, rfl⟩ : ∃ m, z430 = wts m := ⟨_, hc1⟩
  obtain ⟨z431, rfl⟩ : ∃ m, z431 = ivs m := ⟨_, hc2⟩
  obtain ⟨z432, rfl⟩ : ∃ m, z432 = pys m := ⟨_, hc3⟩
  obtain ⟨z434, rfl⟩ : ∃ m : Nat, z434 = m := ⟨_, hc4⟩
  obtain ⟨z435, rfl⟩ : ∃ m, z435 = evs m := ⟨_, hc5⟩
  obtain ⟨z436, rfl⟩ : ∃ m : Nat, z436 = m := ⟨_, hc6⟩
  obtain ⟨z437, rfl⟩ : ∃ m : Nat, z437 = m := ⟨_, hc7⟩
  obtain ⟨z438, rfl⟩ : ∃ m : Nat, z438 = m := ⟨_, hc8⟩
  simp only [Int.toNat_natCast, jb, jc, qc, yc, jd]
  simp only [Int.toNat_natCast, jb, jc, qc, yc, jd, yaB] at hp
  exact gaM ⟨z429, z430, z431, z432, ⟨z434, z435⟩, z436, z437⟩ z438 hp
end Dm
namespace Dm
open Go Go.Proofs Go.IntWalk
theorem ubl : ((13 : Int) = 0) = False := eq_false (by decide)
def va1 (v : Wl) (t : Nat) : Int := if ¬ okW v then 1 else if t < v.tick then 13 else 0
def xI (v : Wl) (t : Nat) : Wl × Int := if va1 v t = 0 then ({ v with i := (gl v.i t).1, tick := t }, 0) else (xy, va1 v t)
@[go_sem] def zax (v : Wl) (t : Nat) : D := .tup [.agg [.sl (chs (xI v t).1.c), .sl (wts (xI v t).1.w), .sl (ivs (xI v t).1.i), .sl (pys (xI v t).1.p), .int .u64 (xI v t).1.f.next, .sl (evs (xI v t).1.f.l), .int .u64 (xI v t).1.next, .int .u64 (xI v t).1.tick], .int .i64 (xI v t).2]
@[go_sem] abbrev zcf : FuncId := 24
@[go_sem] def wbb : Tab := [(9, jh), (63, qJ), (81, vq)]
theorem we : za Tryz.prog wbb := (za.cons xg (za.cons uai (za.cons kj za.nil)))
set_option maxRecDepth 8000 in
set_option maxHeartbeats 1000000 in
theorem uaV (v : Wl) (t : Nat) (h : v.f.next ≤ 18446744073709551615) : yb Tryz.prog 24 [.agg [.sl (chs v.c), .sl (wts v.w), .sl (ivs v.i), .sl (pys v.p), .c (.int .u64 (v.f.next : Int)), .sl (evs v.f.l), .c (.int .u64 (v.next : Int)), .c (.int .u64 (v.tick : Int))], .c (.int .u64 (t : Int))] (zax v t) := by
  refine .of (qda we (Nat.le_of_ble_eq_true rfl) ?_)
  simp -implicitDefEqProofs only [cdA, go_sem, Go.Proofs.Tryz.f24, reduceIte, reduceCtorEq, Nat.reduceEqDiff, Nat.reduceAdd, Nat.reduceLeDiff, Nat.reduceSub, Nat.reduceMul, Nat.reduceLT, Nat.reduceShiftRight, Nat.reduceMod, Int.reduceLE, Int.reduceLT, Int.reduceToNat, List.cons.injEq, cdB]
  refine xa0 we (Nat.le_of_ble_eq_true rfl) ?_
  simp -implicitDefEqProofs only [cdA, go_sem, Go.Proofs.Tryz.f33, reduceIte, reduceCtorEq, Nat.reduceEqDiff, Nat.reduceAdd, Nat.reduceLeDiff, Nat.reduceSub, Nat.reduceMul, Nat.reduceLT, Nat.reduceShiftRight, Nat.reduceMod, Int.reduceLE, Int.reduceLT, Int.reduceToNat, List.cons.injEq, cdB]
  refine uc.run wH we qa (by kernel_rfl) (by kernel_rfl) ?_
  simp -implicitDefEqProofs only [cdA, go_sem, reduceIte, reduceCtorEq, Nat.reduceEqDiff, Nat.reduceAdd, Nat.reduceLeDiff, Nat.reduceSub, Nat.reduceMul, Nat.reduceLT, Nat.reduceShiftRight, Nat.reduceMod, Int.reduceLE, Int.reduceLT, Int.reduceToNat, List.cons.injEq, cdB]
  refine ⟨h, ?_⟩
  have hbad : ∀ e : Int, va1 v t = e → ¬ e = 0 → (chs (xI v t).1.c = [] ∧ wts (xI v t).1.w = [] ∧ ivs (xI v t).1.i = [] ∧ pys (xI v t).1.p = [] ∧ 0 = ((xI v t).1.f.next : Int) ∧ evs (xI v t).1.f.l = [] ∧ 0 = ((xI v t).1.next : Int) ∧ 0 = ((xI v t).1.tick : Int)) ∧ e = (xI v t).2 := fun e h1 h2 => by
    have : xI v t = (xy, e) := by rw [xI, if_neg (by rw [h1]; exact h2), h1]
    rw [this]; exact ⟨⟨rfl, rfl, rfl, rfl, rfl, rfl, rfl, rfl⟩, rfl⟩
  by_cases hok : okW v
  rotate_left 1
  · have hc1 : bt v = 1 := by rw [bt, if_neg hok]
    rw [hc1]
    refine gQ we (Nat.le_of_ble_eq_true rfl) ?_
    simp -implicitDefEqProofs only [cdA, go_sem, Go.Proofs.Tryz.f39, wT, cdN, reduceIte, reduceCtorEq, Nat.reduceEqDiff, Nat.reduceAdd, Nat.reduceLeDiff, Nat.reduceSub, Nat.reduceMul, Nat.reduceLT, Nat.reduceShiftRight, Nat.reduceMod, Int.reduceLE, Int.reduceLT, Int.reduceToNat, List.cons.injEq, cdB]
    refine ka2 we (Nat.le_of_ble_eq_true rfl) ?_
    simp -implicitDefEqProofs only [cdA, go_sem, Go.Proofs.Tryz.f51, wT, cdN, reduceIte, reduceCtorEq, Nat.reduceEqDiff, Nat.reduceAdd, Nat.reduceLeDiff, Nat.reduceSub, Nat.reduceMul, Nat.reduceLT, Nat.reduceShiftRight, Nat.reduceMod, Int.reduceLE, Int.reduceLT, Int.reduceToNat, List.cons.injEq, cdB]
    refine yu we (Nat.le_of_ble_eq_true rfl) ?_
    simp -implicitDefEqProofs only [cdA, go_sem, Go.Proofs.Tryz.f38, wT, cdN, reduceIte, reduceCtorEq, Nat.reduceEqDiff, Nat.reduceAdd, Nat.reduceLeDiff, Nat.reduceSub, Nat.reduceMul, Nat.reduceLT, Nat.reduceShiftRight, Nat.reduceMod, Int.reduceLE, Int.reduceLT, Int.reduceToNat, List.cons.injEq, cdB]
    refine uc.run kf we qa (by kernel_rfl) (by kernel_rfl) ?_
    simp -implicitDefEqProofs only [cdA, go_sem, wT, cdN, reduceIte, reduceCtorEq, Nat.reduceEqDiff, Nat.reduceAdd, Nat.reduceLeDiff, Nat.reduceSub, Nat.reduceMul, Nat.reduceLT, Nat.reduceShiftRight, Nat.reduceMod, Int.reduceLE, Int.reduceLT, Int.reduceToNat, List.cons.injEq, cdB]
    exact hbad 1 (by rw [va1, if_pos hok]) (by decide)
  have hck : bt v = 0 := ql.2 hok
  rw [hck]
  by_cases hl : v.tick ≤ t
  rotate_left 1
  · have hl' : ((v.tick : Int) ≤ t) = False := eq_false (by omega)
    refine gQ we (Nat.le_of_ble_eq_true rfl) ?_
    simp -implicitDefEqProofs only [cdA, go_sem, Go.Proofs.Tryz.f39, hl', decide_false, cdN, reduceIte, reduceCtorEq, Nat.reduceEqDiff, Nat.reduceAdd, Nat.reduceLeDiff, Nat.reduceSub, Nat.reduceMul, Nat.reduceLT, Nat.reduceShiftRight, Nat.reduceMod, Int.reduceLE, Int.reduceLT, Int.reduceToNat, List.cons.injEq, cdB]
    refine ka2 we (Nat.le_of_ble_eq_true rfl) ?_
    simp -implicitDefEqProofs only [cdA, go_sem, Go.Proofs.Tryz.f51, ubl, cdN, reduceIte, reduceCtorEq, Nat.reduceEqDiff, Nat.reduceAdd, Nat.reduceLeDiff, Nat.reduceSub, Nat.reduceMul, Nat.reduceLT, Nat.reduceShiftRight, Nat.reduceMod, Int.reduceLE, Int.reduceLT, Int.reduceToNat, List.cons.injEq, cdB]
    refine yu we (Nat.le_of_ble_eq_true rfl) ?_
    simp -implicitDefEqProofs only [cdA, go_sem, Go.Proofs.Tryz.f38, ubl, cdN, reduceIte, reduceCtorEq, Nat.reduceEqDiff, Nat.reduceAdd, Nat.reduceLeDiff, Nat.reduceSub, Nat.reduceMul, Nat.reduceLT, Nat.reduceShiftRight, Nat.reduceMod, Int.reduceLE, Int.reduceLT, Int.reduceToNat, List.cons.injEq, cdB]
    refine uc.run kf we qa (by kernel_rfl) (by kernel_rfl) ?_
    simp -implicitDefEqProofs only [cdA, go_sem, ubl, cdN, reduceIte, reduceCtorEq, Nat.reduceEqDiff, Nat.reduceAdd, Nat.reduceLeDiff, Nat.reduceSub, Nat.reduceMul, Nat.reduceLT, Nat.reduceShiftRight, Nat.reduceMod, Int.reduceLE, Int.reduceLT, Int.reduceToNat, List.cons.injEq, cdB]
    exact hbad 13 (by rw [va1, if_neg (fun h => h hok), if_pos (by omega)]) (by decide)
  have hl' : ((v.tick : Int) ≤ t) = True := eq_true (by omega)
  have hsw : (gl v.i t).2 = 0 := by rw [gl, if_pos hok.2.1]
  refine gQ we (Nat.le_of_ble_eq_true rfl) ?_
  simp -implicitDefEqProofs only [cdA, go_sem, Go.Proofs.Tryz.f39, hl', decide_true, cdN, reduceIte, reduceCtorEq, Nat.reduceEqDiff, Nat.reduceAdd, Nat.reduceLeDiff, Nat.reduceSub, Nat.reduceMul, Nat.reduceLT, Nat.reduceShiftRight, Nat.reduceMod, Int.reduceLE, Int.reduceLT, Int.reduceToNat, List.cons.injEq, cdB]
  refine ka2 we (Nat.le_of_ble_eq_true rfl) ?_
  simp -implicitDefEqProofs only [cdA, go_sem, Go.Proofs.Tryz.f51, hsw, cdN, reduceIte, reduceCtorEq, Nat.reduceEqDiff, Nat.reduceAdd, Nat.reduceLeDiff, Nat.reduceSub, Nat.reduceMul, Nat.reduceLT, Nat.reduceShiftRight, Nat.reduceMod, Int.reduceLE, Int.reduceLT, Int.reduceToNat, List.cons.injEq, cdB]
  refine zdk we (Nat.le_of_ble_eq_true rfl) ?_
  simp -implicitDefEqProofs only [cdA, go_sem, Go.Proofs.Tryz.f62, hsw, cdN, reduceIte, reduceCtorEq, Nat.reduceEqDiff, Nat.reduceAdd, Nat.reduceLeDiff, Nat.reduceSub, Nat.reduceMul, Nat.reduceLT, Nat.reduceShiftRight, Nat.reduceMod, Int.reduceLE, Int.reduceLT, Int.reduceToNat, List.cons.injEq, cdB]
  have hsm : jx ⟨v.c, v.w, (gl v.i t).1, v.p, v.f, v.next, t⟩ := by
    have h2 := jo hok
    have h3 := (yaA hsw).2.1.1
    exact ⟨h2.1, h2.2.1, h2.2.2.1, by show (gl v.i t).1.length ≤ _; omega, h2.2.2.2.2.1, h2.2.2.2.2.2⟩
  have hfin : xI v t = (⟨v.c, v.w, (gl v.i t).1, v.p, v.f, v.next, t⟩, 0) := by
    have : va1 v t = 0 := by rw [va1, if_neg (fun h => h hok), if_neg (by omega)]
    rw [xI, if_pos this]
  refine yu we (Nat.le_of_ble_eq_true rfl) ?_
  simp -implicitDefEqProofs only [cdA, go_sem, Go.Proofs.Tryz.f38, eq_true hsm, cdN, reduceIte, reduceCtorEq, Nat.reduceEqDiff, Nat.reduceAdd, Nat.reduceLeDiff, Nat.reduceSub, Nat.reduceMul, Nat.reduceLT, Nat.reduceShiftRight, Nat.reduceMod, Int.reduceLE, Int.reduceLT, Int.reduceToNat, List.cons.injEq, cdB]
  rw [hfin]
  exact ⟨⟨rfl, rfl, rfl, rfl, rfl, rfl, rfl, rfl⟩, rfl⟩
@[go_sem] def kay (v : Wl) (t : Nat) : Prop := (v.f.next ≤ 18446744073709551615)
def xJ : List D → Option (Prop × D × Fr)
  | [.agg [.c (.sl z440), .c (.sl z441), .c (.sl z442), .c (.sl z443), .c (.int .u64 z445), .c (.sl z446), .c (.int .u64 z447), .c (.int .u64 z448)], .c (.int .u64 z449)] => some (z440 = chs (ji z440) ∧ z441 = wts (xl z441) ∧ z442 = ivs (xm z442) ∧ z443 = pys (vl z443) ∧ z445 = (z445.toNat : Int) ∧ z446 = evs (yo z446) ∧ z447 = (z447.toNat : Int) ∧ z448 = (z448.toNat : Int) ∧ z449 = (z449.toNat : Int) ∧ kay (⟨(ji z440), (xl z441), (xm z442), (vl z443), (⟨z445.toNat, (yo z446)⟩ : Fd), z447.toNat, z448.toNat⟩ : Wl) z449.toNat, zax (⟨(ji z440), (xl z441), (xm z442), (vl z443), (⟨z445.toNat, (yo z446)⟩ : Fd), z447.toNat, z448.toNat⟩ : Wl) z449.toNat, [])
  | _ => none
attribute [go_sem] xJ
theorem gai : ∀ rs p r fr, xJ rs = some (p, r, fr) → p → qg Tryz.prog 24 rs r fr := by
  intro rs p r fr h hp
  unfold xJ at h
  split at h <;> cases h
  obtain ⟨hc0, hc1, hc2, hc3, hc4, hc5, hc6, hc7, hc8, hp⟩ := hp
  rename_i z440 z441 z442 z443 z445 z446 z447 z448 z449
  obtain ⟨z440, rfl⟩ : ∃ m, z440 = chs m := ⟨_, hc0⟩
  obtain ⟨z441, rfl⟩ : ∃ m, z441 = wts m := ⟨_, hc1⟩
  obtain ⟨z442, rfl⟩ : ∃ m, z442 = ivs m := ⟨_, hc2⟩
  obtain ⟨z443, rfl⟩ : ∃ m, z443 = pys m := ⟨_, hc3⟩
  obtain ⟨z445, rfl⟩ : ∃ m : Nat, z445 = m := ⟨_, hc4⟩
  obtain ⟨z446, rfl⟩ : ∃ m, z446 = evs m := ⟨_, hc5⟩
  obtain ⟨z447, rfl⟩ : ∃ m : Nat, z447 = m := ⟨_, hc6⟩
  obtain ⟨z448, rfl⟩ : ∃ m : Nat, z448 = m := ⟨_, hc7⟩
  obtain ⟨z449, rfl⟩ : ∃ m : Nat, z449 = m := ⟨_, hc8⟩
  simp only [Int.toNat_natCast, jb, jc, qc, yc, jd]
  simp only [Int.toNat_natCast, jb, jc, qc, yc, jd, kay] at hp
  exact uaV ⟨z440, z441, z442, z443, ⟨z445, z446⟩, z447, z448⟩ z449 hp
end Dm
namespace Dm
open Go Go.Proofs Go.IntWalk
theorem xa7 {v : Wl} {l : List Iv} {f : Fd} (h : okW v) (hl : xM l) (hf : vaO f) : okW { v with i := l, f := f } := ⟨h.1, hl, hf, h.2.2.2⟩
theorem vbK {p : List Py} {c d : List Ch} (h : zY p c = (true, 0)) (hd : zl d) (e : hlL d = hlL c) : zY p d = (true, 0) := by
  obtain ⟨a1, a2, a3, a4, a5⟩ := bh.1 h
  exact bh.2 ⟨a1, hd.1, vQ hd, by rw [e]; exact a4, by rw [e]; exact a5⟩
theorem zbY {v : Wl} {l : List Ch} (h : okW v) (hl : zl l) (e : hlL l = hlL v.c) : okW { v with c := l } :=
  ⟨hl, h.2.1, h.2.2.1, h.2.2.2.1, h.2.2.2.2.1, h.2.2.2.2.2.1, h.2.2.2.2.2.2.1, vbK h.2.2.2.2.2.2.2 hl e⟩
theorem zbj {v : Wl} {hash n ch : Nat} : (vB v hash n ch).2 = gaJ v hash n ch := by
  unfold vB
  split
  · rename_i h; exact h.symm
  · rfl
theorem bbi {v : Wl} {hash : Nat} : (jD v hash).2 = kaP v hash := by
  unfold jD
  split
  · rename_i h; exact h.symm
  · rfl
theorem gbc {v : Wl} {ch : Nat} : (xE v ch).2 = gaU v ch := by
  unfold xE
  split
  · rename_i h; exact h.symm
  · rfl
theorem bbd {v : Wl} {t : Nat} : (xI v t).2 = va1 v t := by
  unfold xI
  split
  · rename_i h; exact h.symm
  · rfl
theorem gar {v : Wl} {hash n ch : Nat} (h : (vB v hash n ch).2 = 0) : okW v ∧ okW (vB v hash n ch).1 ∧ (qj v.i hash v.tick n 2).2 = 0 ∧ (bX v.c ch n).2 = 0 ∧ (xu v.f 5 hash n).2.2 = 0 ∧
    (vB v hash n ch).1 = ⟨(bX v.c ch n).1, v.w, (qj v.i hash v.tick n 2).1, v.p, (xu v.f 5 hash n).1, v.next, v.tick⟩ := by
  rw [zbj] at h
  have e : (vB v hash n ch).1 = ⟨(bX v.c ch n).1, v.w, (qj v.i hash v.tick n 2).1, v.p, (xu v.f 5 hash n).1, v.next, v.tick⟩ := by rw [vB, if_pos h]; rfl
  unfold gaJ at h
  split at h
  · cases h
  rename_i h1
  split at h
  · rename_i h2; exact absurd h h2
  rename_i h2
  split at h
  · rename_i h3; exact absurd h h3
  rename_i h3
  have hok : okW v := Decidable.byContradiction h1
  have hI : (qj v.i hash v.tick n 2).2 = 0 := Decidable.byContradiction h2
  have hC : (bX v.c ch n).2 = 0 := Decidable.byContradiction h3
  obtain ⟨-, i1, -⟩ := kaC hI (by decide)
  obtain ⟨-, _, -, -, -, -, c1, c2⟩ := xad hC
  rw [e]
  exact ⟨hok, xa7 (zbY hok c1 c2) i1 (zI h), hI, hC, h, rfl⟩
theorem uaF {v : Wl} {hash : Nat} (h : (jD v hash).2 = 0) : okW v ∧ okW (jD v hash).1 ∧ (qj v.i hash v.tick MM 3).2 = 0 ∧ (xu v.f 4 hash 0).2.2 = 0 ∧
    (jD v hash).1 = ⟨v.c, v.w, (qj v.i hash v.tick MM 3).1, v.p, (xu v.f 4 hash 0).1, v.next, v.tick⟩ := by
  rw [bbi] at h
  have e : (jD v hash).1 = ⟨v.c, v.w, (qj v.i hash v.tick MM 3).1, v.p, (xu v.f 4 hash 0).1, v.next, v.tick⟩ := by rw [jD, if_pos h]; rfl
  unfold kaP at h
  split at h
  · cases h
  rename_i h1
  split at h
  · rename_i h2; exact absurd h h2
  rename_i h2
  have hok : okW v := Decidable.byContradiction h1
  have hI : (qj v.i hash v.tick MM 3).2 = 0 := Decidable.byContradiction h2
  obtain ⟨-, i1, -⟩ := kaC hI (by decide)
  rw [e]
  exact ⟨hok, xa7 hok i1 (zI h), hI, h, rfl⟩
theorem uaN {v : Wl} {ch : Nat} (h : (xE v ch).2 = 0) : okW v ∧ okW (xE v ch).1 ∧ (yY v.c ch).2 = 0 ∧ (xu v.f 7 ch 0).2.2 = 0 ∧
    (xE v ch).1 = ⟨(yY v.c ch).1, v.w, v.i, v.p, (xu v.f 7 ch 0).1, v.next, v.tick⟩ := by
  rw [gbc] at h
  have e : (xE v ch).1 = ⟨(yY v.c ch).1, v.w, v.i, v.p, (xu v.f 7 ch 0).1, v.next, v.tick⟩ := by rw [xE, if_pos h]; rfl
  unfold gaU at h
  split at h
  · cases h
  rename_i h1
  split at h
  · rename_i h2; exact absurd h h2
  rename_i h2
  have hok : okW v := Decidable.byContradiction h1
  have hC : (yY v.c ch).2 = 0 := Decidable.byContradiction h2
  obtain ⟨-, _, -, -, -, -, c1, c2⟩ := zac hC
  rw [e]
  exact ⟨hok, xa7 (zbY hok c1 c2) hok.2.1 (zI h), hC, h, rfl⟩
theorem qaZ {v : Wl} {t : Nat} (h : (xI v t).2 = 0) : okW v ∧ okW (xI v t).1 ∧ v.tick ≤ t ∧ (xI v t).1 = { v with i := v.i.filter fun x => !uJ t x, tick := t } := by
  rw [bbd] at h
  have e : (xI v t).1 = { v with i := (gl v.i t).1, tick := t } := by rw [xI, if_pos h]
  unfold va1 at h
  split at h
  · cases h
  rename_i h1
  split at h
  · cases h
  rename_i h2
  have hok : okW v := Decidable.byContradiction h1
  obtain ⟨-, s1, s2⟩ := yaA (l := v.i) (tick := t) (by rw [gl, if_pos hok.2.1])
  rw [e, s2]
  rw [s2] at s1
  exact ⟨hok, ⟨hok.1, s1, hok.2.2⟩, by omega, rfl⟩
end Dm
namespace Dm
open Go Go.Proofs Go.IntWalk
@[go_sem] def ybs : Tab := [ovk 132]
theorem zN : za Tryz.prog ybs := .cons (uaH 132) .nil
@[go_sem] def jbl : Tab := [fg 12]
theorem baD : za Tryz.prog jbl := .cons (kav 12) .nil
theorem wap (l : List Iv) : gh 4 (ivs l) := of_eq_true (va4 l)
set_option maxRecDepth 8000 in
set_option maxHeartbeats 1000000 in
theorem gbx (l : List Iv) (x : Iv) (i : Nat) (hi : i ≤ l.length) (hl : l.length ≤ 1000000) :
    va Tryz.prog 98 [.vec 0 l.length, .int .i64 i, .vec 1 1] [(1, .vec true 4 117 (ivs [x])), (0, .vec true 4 117 (ivs l))] 2 fun d os _ => Grown 4 117 (ivs (Srt.ins l i x)) d os := by
  have hil : (Srt.ins l i x).length = l.length + 1 := Srt.zj
  have hq : ∀ j os, lk j os = some (.vec true 4 117 (ivs (Srt.ins l i x))) → Grown 4 117 (ivs (Srt.ins l i x)) (.vec j (l.length + 1)) os := fun j os h => ⟨j, by rw [ug, hil], h⟩
  by_cases hin : i = l.length
  · refine jc5 baD (Nat.le_of_ble_eq_true rfl) ?_
    have e4 : ((1 : Int) = 0) = False := eq_false (by decide)
    subst hin
    simp -implicitDefEqProofs only [cdA, go_sem, Go.Proofs.Tryz.f98, e4, decide_true, reduceIte, reduceCtorEq, Nat.reduceEqDiff, Nat.reduceAdd, Nat.reduceLeDiff, Nat.reduceSub, Nat.reduceMul, Nat.reduceLT, Nat.reduceShiftRight, Nat.reduceMod, Int.reduceLE, Int.reduceLT, Int.reduceToNat, List.cons.injEq, cdB]
    refine ⟨Int.le_refl _, fun h => h.elim, fun _ => ⟨by omega, hq _ _ ?_⟩⟩
    rw [vb, if_neg (by decide), jQ]
    simp [Srt.ins]
  · have hlt : i < l.length := by omega
    refine va.opn 0 rfl (by rw [ug]; omega) fun c hc hcm => ?_
    refine va.sld ?_
    rw [ug] at hc
    refine jc5 zN (Nat.le_of_ble_eq_true rfl) ?_
    have e1 : IntKind.i64.wrap ((l.length : Int) + 1) = ((l.length + 1 : Nat) : Int) := by rw [i64_in _ (by omega)]; omega
    have e2 : IntKind.i64.wrap ((i : Int) + 1) = ((i + 1 : Nat) : Int) := by rw [i64_in _ (by omega)]; omega
    have e3 : ((i : Int) = (l.length : Int)) = False := eq_false (by omega)
    have e4 : ((1 : Int) = 0) = False := eq_false (by decide)
    have e5 : IntKind.i64.wrap ((l.length : Int) + 1 - (i : Int)) = ((l.length + 1 - i : Nat) : Int) := by rw [i64_in _ (by omega)]; omega
    have e6 : ((l.length : Int) + 1).toNat = l.length + 1 := by omega
    have e7 : ((i : Int) + 1).toNat = i + 1 := by omega
    have e8 : i + (l.length + 1 - i) = l.length + 1 := by omega
    simp -implicitDefEqProofs only [cdA, go_sem, Go.Proofs.Tryz.f98, e3, e4, e1, e2, e5, e6, e7, e8, decide_false, reduceIte, reduceCtorEq, Nat.reduceEqDiff, Nat.reduceAdd, Nat.reduceLeDiff, Nat.reduceSub, Nat.reduceMul, Nat.reduceLT, Nat.reduceShiftRight, Nat.reduceMod, Int.reduceLE, Int.reduceLT, Int.reduceToNat, List.cons.injEq, cdB]
    refine ⟨by omega, fun _ => ⟨fun h1 => ⟨by omega, by omega, fun c1 h2 h3 => ⟨by omega, ?_⟩⟩, fun h1 => ⟨by omega, by omega, ?_, ?_⟩⟩⟩
    · refine uc.run ubw zN qa (by kernel_rfl) (by kernel_rfl) ?_
      simp -implicitDefEqProofs only [cdA, go_sem, e1, e2, e5, e6, e7, e8, reduceIte, reduceCtorEq, Nat.reduceEqDiff, Nat.reduceAdd, Nat.reduceLeDiff, Nat.reduceSub, Nat.reduceMul, Nat.reduceLT, Nat.reduceShiftRight, Nat.reduceMod, Int.reduceLE, Int.reduceLT, Int.reduceToNat, List.cons.injEq, cdB]
      refine ⟨by omega, by omega, fun y hy => qk (wap l) y (List.mem_of_mem_take (List.mem_of_mem_drop hy)), ?_⟩
      have := baa (sz := 4) (c := c) (c1 := c1) (i := i) (E := ivs l) (x := x.enc) (z := [C.int .u64 0, C.int .u64 0, C.int .u64 0, C.int .i64 0]) (by rw [ug]; exact hlt) (by rw [ug]; exact hc) (by rw [ug]; exact h2)
      rw [ug] at this
      refine hq _ _ ?_
      rw [jQ]
      congr 2
      rw [show ivs (List.take (l.length + 1 - i) [x]) = List.take (l.length + 1 - i) [x.enc] by simp [ivs], this]
      simp [ivs, Srt.ins]
    · exact ⟨_, 26, 4, _, rfl, rfl, rfl, rfl, by kernel_rfl, xbA⟩
    · refine uc.run gbu zN qa (by kernel_rfl) (by kernel_rfl) ?_
      simp -implicitDefEqProofs only [cdA, go_sem, e1, e2, e5, e6, e7, e8, reduceIte, reduceCtorEq, Nat.reduceEqDiff, Nat.reduceAdd, Nat.reduceLeDiff, Nat.reduceSub, Nat.reduceMul, Nat.reduceLT, Nat.reduceShiftRight, Nat.reduceMod, Int.reduceLE, Int.reduceLT, Int.reduceToNat, List.cons.injEq, cdB]
      refine ⟨by omega, by omega, fun y hy => qk (wap l) y (List.mem_of_mem_take (List.mem_of_mem_drop hy)), by omega, ?_⟩
      have := yad (sz := 4) (c := c) (i := i) (E := ivs l) (x := x.enc) (by rw [ug]; exact hlt) (by rw [ug]; omega)
      rw [ug] at this
      refine hq _ _ ?_
      rw [jQ]
      congr 2
      rw [show ivs (List.take (l.length + 1 - i) [x]) = List.take (l.length + 1 - i) [x.enc] by simp [ivs], this]
      simp [ivs, Srt.ins]

def za0 (l : List Iv) (hash n : Nat) : Int := if ¬ xM l ∨ n = 0 ∨ ¬ n ≤ MM then 1 else if Srt.thr Iv.hash ltN l hash = true then 6 else if l.length = 256 then 7 else 0
def jae (l : List Iv) (hash n till : Nat) : List Iv × Int := if za0 l hash n = 0 then (Srt.ins l (Srt.pos Iv.hash ltN l hash) ⟨hash, n, till, 1⟩, 0) else ([], za0 l hash n)
@[go_sem] def kaZ (l : List Iv) (hash : Nat) (n : Nat) (till : Nat) : D := .tup [.sl (ivs (jae l hash n till).1), .int .i64 (jae l hash n till).2]
@[go_sem] abbrev xcJ : FuncId := 53
@[go_sem] def ybA : Tab := [(97, yF), (68, qK), (99, jk)]
theorem baG : za Tryz.prog ybA := (za.cons kI (za.cons qU (za.cons xo za.nil)))
set_option maxRecDepth 8000 in
set_option maxHeartbeats 1000000 in
theorem zbb (l : List Iv) (hash : Nat) (n : Nat) (till : Nat)  : yb Tryz.prog 53 [.sl (ivs l), .c (.int .u64 (hash : Int)), .c (.int .u64 (n : Int)), .c (.int .u64 (till : Int))] (kaZ l hash n till) := by
  refine .of (qdc baG (Nat.le_of_ble_eq_true rfl) ?_)
  simp -implicitDefEqProofs only [cdA, go_sem, Go.Proofs.Tryz.f53, reduceIte, reduceCtorEq, Nat.reduceEqDiff, Nat.reduceAdd, Nat.reduceLeDiff, Nat.reduceSub, Nat.reduceMul, Nat.reduceLT, Nat.reduceShiftRight, Nat.reduceMod, Int.reduceLE, Int.reduceLT, Int.reduceToNat, List.cons.injEq, cdB]
  have hbad : ∀ e, za0 l hash n = e → ¬ e = 0 → ivs (jae l hash n till).1 = [] ∧ e = (jae l hash n till).2 := fun e h1 h2 => by
    rw [jae, if_neg (by rw [h1]; exact h2), h1]; exact ⟨rfl, rfl⟩
  by_cases hok : xM l
  rotate_left 1
  · have ef : ux l hash = (0, 1) := by rw [ux, if_neg hok]
    rw [ef]
    exact ⟨fun h => absurd rfl h, fun _ => hbad 1 (by rw [za0, if_pos (.inl hok)]) (by decide)⟩
  have ef : ux l hash = (((Srt.pos Iv.hash ltN l hash : Nat) : Int), if Srt.thr Iv.hash ltN l hash = true then 0 else 5) := by rw [ux, if_pos hok]
  have h256 := hok.1
  rw [ef]
  refine ⟨fun _ => ⟨fun h1 => ?_, fun h1 => hbad 1 (by rw [za0, if_pos (.inr (by
    by_cases hn : n = 0
    · exact .inl hn
    · exact .inr fun h => h1 ⟨hn, h⟩))]) (by decide)⟩, fun h => by dsimp only at h; split at h <;> cases h⟩
  have hA : ¬ (¬ xM l ∨ n = 0 ∨ ¬ n ≤ MM) := by
    rintro (h | h | h)
    · exact h hok
    · exact h1.1 h
    · exact h h1.2
  by_cases ht : Srt.thr Iv.hash ltN l hash = true
  · rw [if_pos ht]
    exact ⟨fun _ => hbad 6 (by rw [za0, if_neg hA, if_pos ht]) (by decide), fun h => absurd rfl h⟩
  rw [if_neg ht]
  refine ⟨fun h => absurd (show (5 : Int) = 0 from h) (by decide), fun _ _ => ⟨fun h3 => hbad 7 (by rw [za0, if_neg hA, if_neg ht, if_pos (by omega)]) (by decide), fun h3 => ⟨by omega, ?_⟩⟩⟩
  have hpos : Srt.pos Iv.hash ltN l hash ≤ l.length := Srt.jam
  refine va.grow (mid := [.int .i64 _]) (gbx l ⟨hash, n, till, 1⟩ (Srt.pos Iv.hash ltN l hash) hpos (by omega)) rfl rfl (by decide) (by simp [Srt.zj]) (fun d hd g g' w v hv => ?_) ?_
  · simp at hd; subst hd
    cases hv with
    | c _ _ h => cases h; exact .c _ _ (.int _ _)
  · simp -implicitDefEqProofs only [cdA, go_sem, reduceIte, reduceCtorEq, Nat.reduceEqDiff, Nat.reduceAdd, Nat.reduceLeDiff, Nat.reduceSub, Nat.reduceMul, Nat.reduceLT, Nat.reduceShiftRight, Nat.reduceMod, Int.reduceLE, Int.reduceLT, Int.reduceToNat, List.cons.injEq, cdB]
    rw [jae, if_pos (by rw [za0, if_neg hA, if_neg ht, if_neg (by omega)])]
    exact ⟨⟨rfl, _, _, _, rfl⟩, rfl⟩
def kQ : List D → Option (Prop × D × Fr)
  | [.c (.sl z450), .c (.int .u64 z451), .c (.int .u64 z452), .c (.int .u64 z453)] => some (z450 = ivs (xm z450) ∧ z451 = (z451.toNat : Int) ∧ z452 = (z452.toNat : Int) ∧ z453 = (z453.toNat : Int), kaZ (xm z450) z451.toNat z452.toNat z453.toNat, [])
  | _ => none
attribute [go_sem] kQ
theorem vat : ∀ rs p r fr, kQ rs = some (p, r, fr) → p → qg Tryz.prog 53 rs r fr := by
  intro rs p r fr h hp
  unfold kQ at h
  split at h <;> cases h
  obtain ⟨hc0, hc1, hc2, hc3⟩ := hp
  rename_i z450 z451 z452 z453
  obtain ⟨z450, rfl⟩ : ∃ m, z450 = ivs m := ⟨_, hc0⟩
  obtain ⟨z451, rfl⟩ : ∃ m : Nat, z451 = m := ⟨_, hc1⟩
  obtain ⟨z452, rfl⟩ : ∃ m : Nat, z452 = m := ⟨_, hc2⟩
  obtain ⟨z453, rfl⟩ : ∃ m : Nat, z453 = m := ⟨_, hc3⟩
  simp only [Int.toNat_natCast, qc]
  exact zbb z450 z451 z452 z453
theorem jcG {l : List Iv} {hash n till : Nat} : (jae l hash n till).2 = za0 l hash n := by
  unfold jae
  split
  · rename_i h; exact h.symm
  · rfl
theorem baY {l : List Iv} {hash n till : Nat} (h : (jae l hash n till).2 = 0) : xM l ∧ xM (jae l hash n till).1 := by
  rw [jcG] at h
  have e : (jae l hash n till).1 = Srt.ins l (Srt.pos Iv.hash ltN l hash) ⟨hash, n, till, 1⟩ := by rw [jae, if_pos h]
  rw [e]
  unfold za0 at h
  split at h
  · cases h
  rename_i h1
  split at h
  · cases h
  rename_i h2
  split at h
  · cases h
  rename_i h3
  have hok : xM l := Decidable.byContradiction fun hn => h1 (.inl hn)
  have hl := hok.1
  refine ⟨hok, ⟨by rw [Srt.zj]; omega, fun x hx => ?_, ?_⟩⟩
  · rcases List.mem_cons.1 (Srt.vz.mem_iff.1 hx) with rfl | hx
    · exact ⟨⟨fun h => h1 (.inr (.inl h)), Decidable.byContradiction fun h => h1 (.inr (.inr h))⟩, show (1 : Int) ≤ 1 by decide, show (1 : Int) ≤ 3 by decide⟩
    · exact hok.2.1 x hx
  · exact (Srt.bf (lt := ltN) Srt.ue).2 (Srt.uaP (key := Iv.hash) (x := ⟨hash, n, till, 1⟩) Srt.ue ((Srt.bf (lt := ltN) Srt.ue).1 hok.2.2) h2)
theorem bbu {l : List Iv} {hash n till : Nat} (h : (jae l hash n till).2 = 0) : (jae l hash n till).1.length ≤ 256 := (baY h).2.1
end Dm
namespace Dm
open Go Go.Proofs Go.IntWalk
def qbd (v : Wl) (hash : Nat) (n : Nat) (till : Nat) : List Iv × Int := jae v.i hash n till
def gbr (v : Wl) (hash : Nat) (n : Nat) (till : Nat) : Fd × Nat × Int := xu v.f 3 hash n
def zaY (v : Wl) (hash : Nat) (n : Nat) (till : Nat) : Int := if ¬ okW v then 1 else if (qbd v hash n till).2 ≠ 0 then (qbd v hash n till).2 else (gbr v hash n till).2.2
def gC (v : Wl) (hash : Nat) (n : Nat) (till : Nat) : Wl × Int := if zaY v hash n till = 0 then (⟨v.c, v.w, (qbd v hash n till).1, v.p, (gbr v hash n till).1, v.next, v.tick⟩, 0) else (xy, zaY v hash n till)
@[go_sem] def xaL (v : Wl) (hash : Nat) (n : Nat) (till : Nat) : D := .tup [.agg [.sl (chs (gC v hash n till).1.c), .sl (wts (gC v hash n till).1.w), .sl (ivs (gC v hash n till).1.i), .sl (pys (gC v hash n till).1.p), .int .u64 (gC v hash n till).1.f.next, .sl (evs (gC v hash n till).1.f.l), .int .u64 (gC v hash n till).1.next, .int .u64 (gC v hash n till).1.tick], .int .i64 (gC v hash n till).2]
@[go_sem] abbrev kcI : FuncId := 19
@[go_sem] def zbk : Tab := [(9, jh), (53, kQ), (80, uv), (81, vq)]
theorem xe : za Tryz.prog zbk := (za.cons xg (za.cons vat (za.cons gn (za.cons kj za.nil))))
set_option maxRecDepth 8000 in
set_option maxHeartbeats 1000000 in
theorem ba0 (v : Wl) (hash : Nat) (n : Nat) (till : Nat) (h : v.f.next ≤ 18446744073709551615) : yb Tryz.prog 19 [.agg [.sl (chs v.c), .sl (wts v.w), .sl (ivs v.i), .sl (pys v.p), .c (.int .u64 (v.f.next : Int)), .sl (evs v.f.l), .c (.int .u64 (v.next : Int)), .c (.int .u64 (v.tick : Int))], .c (.int .u64 (hash : Int)), .c (.int .u64 (n : Int)), .c (.int .u64 (till : Int))] (xaL v hash n till) := by
  refine .of (kdg xe (Nat.le_of_ble_eq_true rfl) ?_)
  simp -implicitDefEqProofs only [cdA, go_sem, Go.Proofs.Tryz.f19, reduceIte, reduceCtorEq, Nat.reduceEqDiff, Nat.reduceAdd, Nat.reduceLeDiff, Nat.reduceSub, Nat.reduceMul, Nat.reduceLT, Nat.reduceShiftRight, Nat.reduceMod, Int.reduceLE, Int.reduceLT, Int.reduceToNat, List.cons.injEq, cdB]
  refine xa0 xe (Nat.le_of_ble_eq_true rfl) ?_
  simp -implicitDefEqProofs only [cdA, go_sem, Go.Proofs.Tryz.f33, reduceIte, reduceCtorEq, Nat.reduceEqDiff, Nat.reduceAdd, Nat.reduceLeDiff, Nat.reduceSub, Nat.reduceMul, Nat.reduceLT, Nat.reduceShiftRight, Nat.reduceMod, Int.reduceLE, Int.reduceLT, Int.reduceToNat, List.cons.injEq, cdB]
  refine uc.run wH xe qa (by kernel_rfl) (by kernel_rfl) ?_
  simp -implicitDefEqProofs only [cdA, go_sem, reduceIte, reduceCtorEq, Nat.reduceEqDiff, Nat.reduceAdd, Nat.reduceLeDiff, Nat.reduceSub, Nat.reduceMul, Nat.reduceLT, Nat.reduceShiftRight, Nat.reduceMod, Int.reduceLE, Int.reduceLT, Int.reduceToNat, List.cons.injEq, cdB]
  refine ⟨h, ?_⟩
  have hbad : ∀ e : Int, zaY v hash n till = e → ¬ e = 0 → (chs (gC v hash n till).1.c = [] ∧ wts (gC v hash n till).1.w = [] ∧ ivs (gC v hash n till).1.i = [] ∧ pys (gC v hash n till).1.p = [] ∧ 0 = ((gC v hash n till).1.f.next : Int) ∧ evs (gC v hash n till).1.f.l = [] ∧ 0 = ((gC v hash n till).1.next : Int) ∧ 0 = ((gC v hash n till).1.tick : Int)) ∧ e = (gC v hash n till).2 := fun e h1 h2 => by
    have : gC v hash n till = (xy, e) := by rw [gC, if_neg (by rw [h1]; exact h2), h1]
    rw [this]; exact ⟨⟨rfl, rfl, rfl, rfl, rfl, rfl, rfl, rfl⟩, rfl⟩
  by_cases hok : okW v
  rotate_left 1
  · have hck : (bt v = 0) = False := eq_false fun h => hok (ql.1 h)
    have he : zaY v hash n till = 1 := by rw [zaY, if_pos hok]
    have hc1 : bt v = 1 := by rw [bt, if_neg hok]
    skip
    refine ka2 xe (Nat.le_of_ble_eq_true rfl) ?_
    simp -implicitDefEqProofs only [cdA, go_sem, Go.Proofs.Tryz.f51, hck, cdN, reduceIte, reduceCtorEq, Nat.reduceEqDiff, Nat.reduceAdd, Nat.reduceLeDiff, Nat.reduceSub, Nat.reduceMul, Nat.reduceLT, Nat.reduceShiftRight, Nat.reduceMod, Int.reduceLE, Int.reduceLT, Int.reduceToNat, List.cons.injEq, cdB]
    refine bG xe (Nat.le_of_ble_eq_true rfl) ?_
    simp -implicitDefEqProofs only [cdA, go_sem, Go.Proofs.Tryz.f37, reduceIte, reduceCtorEq, Nat.reduceEqDiff, Nat.reduceAdd, Nat.reduceLeDiff, Nat.reduceSub, Nat.reduceMul, Nat.reduceLT, Nat.reduceShiftRight, Nat.reduceMod, Int.reduceLE, Int.reduceLT, Int.reduceToNat, List.cons.injEq, cdB]
    refine yH xe (Nat.le_of_ble_eq_true rfl) ?_
    simp -implicitDefEqProofs only [cdA, go_sem, Go.Proofs.Tryz.f78, hck, cdN, reduceIte, reduceCtorEq, Nat.reduceEqDiff, Nat.reduceAdd, Nat.reduceLeDiff, Nat.reduceSub, Nat.reduceMul, Nat.reduceLT, Nat.reduceShiftRight, Nat.reduceMod, Int.reduceLE, Int.reduceLT, Int.reduceToNat, List.cons.injEq, cdB]
    refine yu xe (Nat.le_of_ble_eq_true rfl) ?_
    simp -implicitDefEqProofs only [cdA, go_sem, Go.Proofs.Tryz.f38, hck, cdN, reduceIte, reduceCtorEq, Nat.reduceEqDiff, Nat.reduceAdd, Nat.reduceLeDiff, Nat.reduceSub, Nat.reduceMul, Nat.reduceLT, Nat.reduceShiftRight, Nat.reduceMod, Int.reduceLE, Int.reduceLT, Int.reduceToNat, List.cons.injEq, cdB]
    refine uc.run kf xe qa (by kernel_rfl) (by kernel_rfl) ?_
    simp -implicitDefEqProofs only [cdA, go_sem, hck, cdN, reduceIte, reduceCtorEq, Nat.reduceEqDiff, Nat.reduceAdd, Nat.reduceLeDiff, Nat.reduceSub, Nat.reduceMul, Nat.reduceLT, Nat.reduceShiftRight, Nat.reduceMod, Int.reduceLE, Int.reduceLT, Int.reduceToNat, List.cons.injEq, cdB]
    exact hbad _ (he.trans hc1.symm) (by rw [hc1]; decide)
  have hck : (bt v = 0) = True := eq_true (ql.2 hok)
  refine ka2 xe (Nat.le_of_ble_eq_true rfl) ?_
  simp -implicitDefEqProofs only [cdA, go_sem, Go.Proofs.Tryz.f51, hck, cdN, reduceIte, reduceCtorEq, Nat.reduceEqDiff, Nat.reduceAdd, Nat.reduceLeDiff, Nat.reduceSub, Nat.reduceMul, Nat.reduceLT, Nat.reduceShiftRight, Nat.reduceMod, Int.reduceLE, Int.reduceLT, Int.reduceToNat, List.cons.injEq, cdB]
  refine qdj xe (Nat.le_of_ble_eq_true rfl) ?_
  simp -implicitDefEqProofs only [cdA, go_sem, Go.Proofs.Tryz.f52, reduceIte, reduceCtorEq, Nat.reduceEqDiff, Nat.reduceAdd, Nat.reduceLeDiff, Nat.reduceSub, Nat.reduceMul, Nat.reduceLT, Nat.reduceShiftRight, Nat.reduceMod, Int.reduceLE, Int.reduceLT, Int.reduceToNat, List.cons.injEq, cdB]
  have eI : jae v.i hash n till = qbd v hash n till := rfl
  rw [eI]
  refine ⟨fun hs0 => ?_, fun hs0 => ?_⟩
  rotate_left 1
  · skip
    refine bG xe (Nat.le_of_ble_eq_true rfl) ?_
    simp -implicitDefEqProofs only [cdA, go_sem, Go.Proofs.Tryz.f37, reduceIte, reduceCtorEq, Nat.reduceEqDiff, Nat.reduceAdd, Nat.reduceLeDiff, Nat.reduceSub, Nat.reduceMul, Nat.reduceLT, Nat.reduceShiftRight, Nat.reduceMod, Int.reduceLE, Int.reduceLT, Int.reduceToNat, List.cons.injEq, cdB]
    refine yH xe (Nat.le_of_ble_eq_true rfl) ?_
    simp -implicitDefEqProofs only [cdA, go_sem, Go.Proofs.Tryz.f78, hs0, cdN, reduceIte, reduceCtorEq, Nat.reduceEqDiff, Nat.reduceAdd, Nat.reduceLeDiff, Nat.reduceSub, Nat.reduceMul, Nat.reduceLT, Nat.reduceShiftRight, Nat.reduceMod, Int.reduceLE, Int.reduceLT, Int.reduceToNat, List.cons.injEq, cdB]
    refine yu xe (Nat.le_of_ble_eq_true rfl) ?_
    simp -implicitDefEqProofs only [cdA, go_sem, Go.Proofs.Tryz.f38, hs0, cdN, reduceIte, reduceCtorEq, Nat.reduceEqDiff, Nat.reduceAdd, Nat.reduceLeDiff, Nat.reduceSub, Nat.reduceMul, Nat.reduceLT, Nat.reduceShiftRight, Nat.reduceMod, Int.reduceLE, Int.reduceLT, Int.reduceToNat, List.cons.injEq, cdB]
    refine uc.run kf xe qa (by kernel_rfl) (by kernel_rfl) ?_
    simp -implicitDefEqProofs only [cdA, go_sem, hs0, cdN, reduceIte, reduceCtorEq, Nat.reduceEqDiff, Nat.reduceAdd, Nat.reduceLeDiff, Nat.reduceSub, Nat.reduceMul, Nat.reduceLT, Nat.reduceShiftRight, Nat.reduceMod, Int.reduceLE, Int.reduceLT, Int.reduceToNat, List.cons.injEq, cdB]
    exact hbad _ (by rw [zaY, if_neg (fun h => h hok), if_pos hs0]) hs0
  refine bG xe (Nat.le_of_ble_eq_true rfl) ?_
  simp -implicitDefEqProofs only [cdA, go_sem, Go.Proofs.Tryz.f37, reduceIte, reduceCtorEq, Nat.reduceEqDiff, Nat.reduceAdd, Nat.reduceLeDiff, Nat.reduceSub, Nat.reduceMul, Nat.reduceLT, Nat.reduceShiftRight, Nat.reduceMod, Int.reduceLE, Int.reduceLT, Int.reduceToNat, List.cons.injEq, cdB]
  refine yH xe (Nat.le_of_ble_eq_true rfl) ?_
  simp -implicitDefEqProofs only [cdA, go_sem, Go.Proofs.Tryz.f78, hck, cdN, reduceIte, reduceCtorEq, Nat.reduceEqDiff, Nat.reduceAdd, Nat.reduceLeDiff, Nat.reduceSub, Nat.reduceMul, Nat.reduceLT, Nat.reduceShiftRight, Nat.reduceMod, Int.reduceLE, Int.reduceLT, Int.reduceToNat, List.cons.injEq, cdB]
  refine wbf xe (Nat.le_of_ble_eq_true rfl) ?_
  simp -implicitDefEqProofs only [cdA, go_sem, Go.Proofs.Tryz.f79, reduceIte, reduceCtorEq, Nat.reduceEqDiff, Nat.reduceAdd, Nat.reduceLeDiff, Nat.reduceSub, Nat.reduceMul, Nat.reduceLT, Nat.reduceShiftRight, Nat.reduceMod, Int.reduceLE, Int.reduceLT, Int.reduceToNat, List.cons.injEq, cdB]
  have eF : xu v.f 3 hash n = gbr v hash n till := rfl
  rw [eF]
  refine ⟨h, fun hfd => ?_, fun hfd => ?_⟩
  rotate_left 1
  · skip
    refine yu xe (Nat.le_of_ble_eq_true rfl) ?_
    simp -implicitDefEqProofs only [cdA, go_sem, Go.Proofs.Tryz.f38, hfd, cdN, reduceIte, reduceCtorEq, Nat.reduceEqDiff, Nat.reduceAdd, Nat.reduceLeDiff, Nat.reduceSub, Nat.reduceMul, Nat.reduceLT, Nat.reduceShiftRight, Nat.reduceMod, Int.reduceLE, Int.reduceLT, Int.reduceToNat, List.cons.injEq, cdB]
    refine uc.run kf xe qa (by kernel_rfl) (by kernel_rfl) ?_
    simp -implicitDefEqProofs only [cdA, go_sem, hfd, cdN, reduceIte, reduceCtorEq, Nat.reduceEqDiff, Nat.reduceAdd, Nat.reduceLeDiff, Nat.reduceSub, Nat.reduceMul, Nat.reduceLT, Nat.reduceShiftRight, Nat.reduceMod, Int.reduceLE, Int.reduceLT, Int.reduceToNat, List.cons.injEq, cdB]
    exact hbad _ (by rw [zaY, if_neg (fun h => h hok), if_neg (fun h => h hs0)]) hfd
  have hsm : jx ⟨v.c, v.w, (qbd v hash n till).1, v.p, (gbr v hash n till).1, v.next, v.tick⟩ := by
    have h2 := jo hok
    have h50 := bbu hs0
    exact ⟨h2.1, h2.2.1, h2.2.2.1, (by show (qbd v hash n till).1.length ≤ _; unfold qbd; omega), h2.2.2.2.2.1, (by show (gbr v hash n till).1.l.length ≤ _; unfold gbr; exact Nat.le_trans yE (by decide))⟩
  have hfin : gC v hash n till = (⟨v.c, v.w, (qbd v hash n till).1, v.p, (gbr v hash n till).1, v.next, v.tick⟩, 0) := by
    have : zaY v hash n till = 0 := by rw [zaY, if_neg (fun h => h hok), if_neg (fun h => h hs0)]; exact hfd
    rw [gC, if_pos this]
  refine yu xe (Nat.le_of_ble_eq_true rfl) ?_
  simp -implicitDefEqProofs only [cdA, go_sem, Go.Proofs.Tryz.f38, hck, eq_true hsm, cdN, reduceIte, reduceCtorEq, Nat.reduceEqDiff, Nat.reduceAdd, Nat.reduceLeDiff, Nat.reduceSub, Nat.reduceMul, Nat.reduceLT, Nat.reduceShiftRight, Nat.reduceMod, Int.reduceLE, Int.reduceLT, Int.reduceToNat, List.cons.injEq, cdB]
  rw [hfin]
  exact ⟨⟨rfl, rfl, rfl, rfl, rfl, rfl, rfl, rfl⟩, rfl⟩
@[go_sem] def waM (v : Wl) (hash : Nat) (n : Nat) (till : Nat) : Prop := (v.f.next ≤ 18446744073709551615)
def qR : List D → Option (Prop × D × Fr)
  | [.agg [.c (.sl z455), .c (.sl z456), .c (.sl z457), .c (.sl z458), .c (.int .u64 z460), .c (.sl z461), .c (.int .u64 z462), .c (.int .u64 z463)], .c (.int .u64 z464), .c (.int .u64 z465), .c (.int .u64 z466)] => some (z455 = chs (ji z455) ∧ z456 = wts (xl z456) ∧ z457 = ivs (xm z457) ∧ z458 = pys (vl z458) ∧ z460 = (z460.toNat : Int) ∧ z461 = evs (yo z461) ∧ z462 = (z462.toNat : Int) ∧ z463 = (z463.toNat : Int) ∧ z464 = (z464.toNat : Int) ∧ z465 = (z465.toNat : Int) ∧ z466 = (z466.toNat : Int) ∧ waM (⟨(ji z455), (xl z456), (xm z457), (vl z458), (⟨z460.toNat, (yo z461)⟩ : Fd), z462.toNat, z463.toNat⟩ : Wl) z464.toNat z465.toNat z466.toNat, xaL (⟨(ji z455), (xl z456), (xm z457), (vl z458), (⟨z460.toNat, (yo z461)⟩ : Fd), z462.toNat, z463.toNat⟩ : Wl) z464.toNat z465.toNat z466.toNat, [])
  | _ => none
attribute [go_sem] qR
theorem wau : ∀ rs p r fr, qR rs = some (p, r, fr) → p → qg Tryz.prog 19 rs r fr := by
  intro rs p r fr h hp
  unfold qR at h
  split at h <;> cases h
  obtain ⟨hc0, hc1, hc2, hc3, hc4, hc5, hc6, hc7, hc8, hc9, hc10, hp⟩ := hp
  rename_i z455 z456 z457 z458 z460 z461 z462 z463 z464 z465 z466
  obtain ⟨z455, rfl⟩ : ∃ m, z455 = chs m := ⟨_, hc0⟩
  obtain ⟨z456, rfl⟩ : ∃ m, z456 = wts m := ⟨_, hc1⟩
  obtain ⟨z457, rfl⟩ : ∃ m, z457 = ivs m := ⟨_, hc2⟩
  obtain ⟨z458, rfl⟩ : ∃ m, z458 = pys m := ⟨_, hc3⟩
  obtain ⟨z460, rfl⟩ : ∃ m : Nat, z460 = m := ⟨_, hc4⟩
  obtain ⟨z461, rfl⟩ : ∃ m, z461 = evs m := ⟨_, hc5⟩
  obtain ⟨z462, rfl⟩ : ∃ m : Nat, z462 = m := ⟨_, hc6⟩
  obtain ⟨z463, rfl⟩ : ∃ m : Nat, z463 = m := ⟨_, hc7⟩
  obtain ⟨z464, rfl⟩ : ∃ m : Nat, z464 = m := ⟨_, hc8⟩
  obtain ⟨z465, rfl⟩ : ∃ m : Nat, z465 = m := ⟨_, hc9⟩
  obtain ⟨z466, rfl⟩ : ∃ m : Nat, z466 = m := ⟨_, hc10⟩
  simp only [Int.toNat_natCast, jb, jc, qc, yc, jd]
  simp only [Int.toNat_natCast, jb, jc, qc, yc, jd, waM] at hp
  exact ba0 ⟨z455, z456, z457, z458, ⟨z460, z461⟩, z462, z463⟩ z464 z465 z466 hp
end Dm
namespace Dm
open Go Go.Proofs Go.IntWalk
structure Opn where
  kind : Nat
  a : Nat
  b : Nat
  c : Nat
  tick : Nat
  paid : Bool
  chan : Ch
  w : List Wt
deriving DecidableEq, Inhabited
@[go_sem] def Opn.enc (e : Opn) : List C := [.int .u8 (e.kind : Int), .int .u64 (e.a : Int), .int .u64 (e.b : Int), .int .u64 (e.c : Int), .int .u64 (e.tick : Int), .bool e.paid, .int .u64 (e.chan.id : Int), .int .u64 (e.chan.loc : Int), .int .u64 (e.chan.rem : Int), .int .u64 (e.chan.res : Int), .int .u64 (e.chan.most : Int), .sl (hds e.chan.holds), .bool e.chan.op, .sl (wts e.w)]
def Opn.dec : List C → Opn
  | [.int .u8 z468, .int .u64 z469, .int .u64 z470, .int .u64 z471, .int .u64 z472, .bool z473, .int .u64 z475, .int .u64 z476, .int .u64 z477, .int .u64 z478, .int .u64 z479, .sl z480, .bool z481, .sl z482] => (⟨z468.toNat, z469.toNat, z470.toNat, z471.toNat, z472.toNat, z473, (⟨z475.toNat, z476.toNat, z477.toNat, z478.toNat, z479.toNat, (qq z480), z481⟩ : Ch), (xl z482)⟩ : Opn)
  | _ => default
def xH (l : List Opn) : List (List C) := l.map Opn.enc
def wah (l : List (List C)) : List Opn := l.map Opn.dec
@[simp, go_sem] theorem ybr (l : List Opn) : (xH l).length = l.length := by simp [xH]
@[go_sem] theorem bcp (l : List Opn) (i : Nat) : (xH l).getD i [.int .u8 0, .int .u64 0, .int .u64 0, .int .u64 0, .int .u64 0, .bool false, .int .u64 0, .int .u64 0, .int .u64 0, .int .u64 0, .int .u64 0, .sl [], .bool false, .sl []] = (l.getD i default).enc := by
  simp only [xH, List.getD_eq_getElem?_getD, List.getElem?_map]
  cases l[i]? <;> rfl
@[go_sem] theorem yb0 (l : List Opn) : gh 14 (xH l) = True := by
  simp [gh, xH, Opn.enc]
theorem Opn.vg (e : Opn) : Opn.dec e.enc = e := by
  simp [Opn.enc, Opn.dec, ze, jd]
@[go_sem] theorem yaJ (l : List Opn) : wah (xH l) = l := by
  simp only [wah, xH, List.map_map]
  exact List.map_id'' (fun e => Opn.vg e) l
@[go_sem] theorem uca (a b : List Opn) : xH a ++ xH b = xH (a ++ b) := by simp [xH]
@[go_sem] theorem kbS (l : List Opn) (k : Nat) : (xH l).drop k = xH (l.drop k) := by simp [xH]
@[go_sem] theorem ubL (l : List Opn) (k : Nat) : (xH l).take k = xH (l.take k) := by simp [xH]
@[go_sem] theorem zca (z483 : Int) (z484 : Int) (z485 : Int) (z486 : Int) (z487 : Int) (z488 : Bool) (z489 : Int) (z490 : Int) (z491 : Int) (z492 : Int) (z493 : Int) (z494 : List Hd) (z495 : Bool) (z496 : List Wt) (hz483 : 0 ≤ z483) (hz484 : 0 ≤ z484) (hz485 : 0 ≤ z485) (hz486 : 0 ≤ z486) (hz487 : 0 ≤ z487) (hz489 : 0 ≤ z489) (hz490 : 0 ≤ z490) (hz491 : 0 ≤ z491) (hz492 : 0 ≤ z492) (hz493 : 0 ≤ z493) : [[C.int .u8 z483, C.int .u64 z484, C.int .u64 z485, C.int .u64 z486, C.int .u64 z487, C.bool z488, C.int .u64 z489, C.int .u64 z490, C.int .u64 z491, C.int .u64 z492, C.int .u64 z493, C.sl (hds z494), C.bool z495, C.sl (wts z496)]] = xH [⟨z483.toNat, z484.toNat, z485.toNat, z486.toNat, z487.toNat, z488, ⟨z489.toNat, z490.toNat, z491.toNat, z492.toNat, z493.toNat, z494, z495⟩, z496⟩] := by simp [xH, Opn.enc, Int.toNat_of_nonneg hz483, Int.toNat_of_nonneg hz484, Int.toNat_of_nonneg hz485, Int.toNat_of_nonneg hz486, Int.toNat_of_nonneg hz487, Int.toNat_of_nonneg hz489, Int.toNat_of_nonneg hz490, Int.toNat_of_nonneg hz491, Int.toNat_of_nonneg hz492, Int.toNat_of_nonneg hz493]
@[go_sem] theorem vcd (l : List Opn) (i : Nat) (z483 : Int) (z484 : Int) (z485 : Int) (z486 : Int) (z487 : Int) (z488 : Bool) (z489 : Int) (z490 : Int) (z491 : Int) (z492 : Int) (z493 : Int) (z494 : List Hd) (z495 : Bool) (z496 : List Wt) (hz483 : 0 ≤ z483) (hz484 : 0 ≤ z484) (hz485 : 0 ≤ z485) (hz486 : 0 ≤ z486) (hz487 : 0 ≤ z487) (hz489 : 0 ≤ z489) (hz490 : 0 ≤ z490) (hz491 : 0 ≤ z491) (hz492 : 0 ≤ z492) (hz493 : 0 ≤ z493) : (xH l).set i [C.int .u8 z483, C.int .u64 z484, C.int .u64 z485, C.int .u64 z486, C.int .u64 z487, C.bool z488, C.int .u64 z489, C.int .u64 z490, C.int .u64 z491, C.int .u64 z492, C.int .u64 z493, C.sl (hds z494), C.bool z495, C.sl (wts z496)] = xH (l.set i ⟨z483.toNat, z484.toNat, z485.toNat, z486.toNat, z487.toNat, z488, ⟨z489.toNat, z490.toNat, z491.toNat, z492.toNat, z493.toNat, z494, z495⟩, z496⟩) := by simp [xH, List.map_set, Opn.enc, Int.toNat_of_nonneg hz483, Int.toNat_of_nonneg hz484, Int.toNat_of_nonneg hz485, Int.toNat_of_nonneg hz486, Int.toNat_of_nonneg hz487, Int.toNat_of_nonneg hz489, Int.toNat_of_nonneg hz490, Int.toNat_of_nonneg hz491, Int.toNat_of_nonneg hz492, Int.toNat_of_nonneg hz493]
@[go_sem] theorem qbW (l : List Opn) (z483 : Int) (z484 : Int) (z485 : Int) (z486 : Int) (z487 : Int) (z488 : Bool) (z489 : Int) (z490 : Int) (z491 : Int) (z492 : Int) (z493 : Int) (z494 : List Hd) (z495 : Bool) (z496 : List Wt) (hz483 : 0 ≤ z483) (hz484 : 0 ≤ z484) (hz485 : 0 ≤ z485) (hz486 : 0 ≤ z486) (hz487 : 0 ≤ z487) (hz489 : 0 ≤ z489) (hz490 : 0 ≤ z490) (hz491 : 0 ≤ z491) (hz492 : 0 ≤ z492) (hz493 : 0 ≤ z493) : [C.int .u8 z483, C.int .u64 z484, C.int .u64 z485, C.int .u64 z486, C.int .u64 z487, C.bool z488, C.int .u64 z489, C.int .u64 z490, C.int .u64 z491, C.int .u64 z492, C.int .u64 z493, C.sl (hds z494), C.bool z495, C.sl (wts z496)] :: xH l = xH (⟨z483.toNat, z484.toNat, z485.toNat, z486.toNat, z487.toNat, z488, ⟨z489.toNat, z490.toNat, z491.toNat, z492.toNat, z493.toNat, z494, z495⟩, z496⟩ :: l) := by simp [xH, Opn.enc, Int.toNat_of_nonneg hz483, Int.toNat_of_nonneg hz484, Int.toNat_of_nonneg hz485, Int.toNat_of_nonneg hz486, Int.toNat_of_nonneg hz487, Int.toNat_of_nonneg hz489, Int.toNat_of_nonneg hz490, Int.toNat_of_nonneg hz491, Int.toNat_of_nonneg hz492, Int.toNat_of_nonneg hz493]
@[go_sem] theorem Opn.eta {e : Opn} : (⟨e.kind, e.a, e.b, e.c, e.tick, e.paid, e.chan, e.w⟩ : Opn) = e := rfl
def doW (v : Wl) (o : Opn) : Wl × Int :=
  if o.kind % 9 = 0 ∨ o.kind % 9 = 8 then ((yl v o.a o.b).1, (yl v o.a o.b).2.2) else if o.kind % 9 = 1 then jq v o.a o.paid else if o.kind % 9 = 2 then gC v o.a o.b o.tick else if o.kind % 9 = 3 then jD v o.a else if o.kind % 9 = 4 then vB v o.a o.b o.c else if o.kind % 9 = 5 then yw v o.chan else if o.kind % 9 = 6 then xE v o.c else (if (bF v o.w).2 = 0 then xI (bF v o.w).1 o.tick else bF v o.w)
@[go_sem] def xbg (o : Opn) : D := .bool (decide (o.chan.holds.length ≤ 20 ∧ o.w.length ≤ 40))
@[go_sem] abbrev xc7 : FuncId := 6
@[go_sem] def bbR : Tab := []
theorem vaM : za Tryz.prog bbR := za.nil
set_option maxRecDepth 8000 in
set_option maxHeartbeats 1000000 in
theorem qbl (o : Opn)  : yb Tryz.prog 6 [.agg [.c (.int .u8 (o.kind : Int)), .c (.int .u64 (o.a : Int)), .c (.int .u64 (o.b : Int)), .c (.int .u64 (o.c : Int)), .c (.int .u64 (o.tick : Int)), .c (.bool o.paid), .c (.int .u64 (o.chan.id : Int)), .c (.int .u64 (o.chan.loc : Int)), .c (.int .u64 (o.chan.rem : Int)), .c (.int .u64 (o.chan.res : Int)), .c (.int .u64 (o.chan.most : Int)), .sl (hds o.chan.holds), .c (.bool o.chan.op), .sl (wts o.w)]] (xbg o) := by
  refine .of (ac6 vaM (Nat.le_of_ble_eq_true rfl) ?_)
  simp -implicitDefEqProofs only [cdA, go_sem, Go.Proofs.Tryz.f6, reduceIte, reduceCtorEq, Nat.reduceEqDiff, Nat.reduceAdd, Nat.reduceLeDiff, Nat.reduceSub, Nat.reduceMul, Nat.reduceLT, Nat.reduceShiftRight, Nat.reduceMod, Int.reduceLE, Int.reduceLT, Int.reduceToNat, List.cons.injEq, cdB]
  refine fun _ => ⟨fun h1 _ => ?_, fun h1 => (decide_eq_false fun h => by omega).symm⟩
  rw [decide_eq_decide]; omega
def jaf : List D → Option (Prop × D × Fr)
  | [.agg [.c (.int .u8 z498), .c (.int .u64 z499), .c (.int .u64 z500), .c (.int .u64 z501), .c (.int .u64 z502), .c (.bool z503), .c (.int .u64 z505), .c (.int .u64 z506), .c (.int .u64 z507), .c (.int .u64 z508), .c (.int .u64 z509), .c (.sl z510), .c (.bool z511), .c (.sl z512)]] => some (z498 = (z498.toNat : Int) ∧ z499 = (z499.toNat : Int) ∧ z500 = (z500.toNat : Int) ∧ z501 = (z501.toNat : Int) ∧ z502 = (z502.toNat : Int) ∧ z505 = (z505.toNat : Int) ∧ z506 = (z506.toNat : Int) ∧ z507 = (z507.toNat : Int) ∧ z508 = (z508.toNat : Int) ∧ z509 = (z509.toNat : Int) ∧ z510 = hds (qq z510) ∧ z512 = wts (xl z512), xbg (⟨z498.toNat, z499.toNat, z500.toNat, z501.toNat, z502.toNat, z503, (⟨z505.toNat, z506.toNat, z507.toNat, z508.toNat, z509.toNat, (qq z510), z511⟩ : Ch), (xl z512)⟩ : Opn), [])
  | _ => none
attribute [go_sem] jaf
theorem yaH : ∀ rs p r fr, jaf rs = some (p, r, fr) → p → qg Tryz.prog 6 rs r fr := by
  intro rs p r fr h hp
  unfold jaf at h
  split at h <;> cases h
  obtain ⟨hc0, hc1, hc2, hc3, hc4, hc5, hc6, hc7, hc8, hc9, hc10, hc11⟩ := hp
  rename_i z498 z499 z500 z501 z502 z503 z505 z506 z507 z508 z509 z510 z511 z512
  obtain ⟨z498, rfl⟩ : ∃ m : Nat, z498 = m := ⟨_, hc0⟩
  obtain ⟨z499, rfl⟩ : ∃ m : Nat, z499 = m := ⟨_, hc1⟩
  obtain ⟨z500, rfl⟩ : ∃ m : Nat, z500 = m := ⟨_, hc2⟩
  obtain ⟨z501, rfl⟩ : ∃ m : Nat, z501 = m := ⟨_, hc3⟩
  obtain ⟨z502, rfl⟩ : ∃ m : Nat, z502 = m := ⟨_, hc4⟩
  obtain ⟨z505, rfl⟩ : ∃ m : Nat, z505 = m := ⟨_, hc5⟩
  obtain ⟨z506, rfl⟩ : ∃ m : Nat, z506 = m := ⟨_, hc6⟩
  obtain ⟨z507, rfl⟩ : ∃ m : Nat, z507 = m := ⟨_, hc7⟩
  obtain ⟨z508, rfl⟩ : ∃ m : Nat, z508 = m := ⟨_, hc8⟩
  obtain ⟨z509, rfl⟩ : ∃ m : Nat, z509 = m := ⟨_, hc9⟩
  obtain ⟨z510, rfl⟩ : ∃ m, z510 = hds m := ⟨_, hc10⟩
  obtain ⟨z512, rfl⟩ : ∃ m, z512 = wts m := ⟨_, hc11⟩
  simp only [Int.toNat_natCast, ze, jd]
  exact qbl ⟨z498, z499, z500, z501, z502, z503, ⟨z505, z506, z507, z508, z509, z510, z511⟩, z512⟩
@[go_sem] def wbS (v : Wl) (o : Opn) : D := .tup [.agg [.sl (chs (doW v o).1.c), .sl (wts (doW v o).1.w), .sl (ivs (doW v o).1.i), .sl (pys (doW v o).1.p), .int .u64 (doW v o).1.f.next, .sl (evs (doW v o).1.f.l), .int .u64 (doW v o).1.next, .int .u64 (doW v o).1.tick], .int .i64 (doW v o).2]
@[go_sem] abbrev jdd : FuncId := 7
@[go_sem] def bcv : Tab := [(15, gT), (17, uW), (19, qR), (20, gF), (21, gz), (14, wJ), (22, bI), (23, zS), (24, xJ)]
theorem ja6 : za Tryz.prog bcv := (za.cons k6 (za.cons k7 (za.cons wau (za.cons zae (za.cons qY (za.cons kU (za.cons xai (za.cons zaw (za.cons gai za.nil)))))))))
set_option maxRecDepth 8000 in
set_option maxHeartbeats 1000000 in
theorem vbO (v : Wl) (o : Opn) (h : v.f.next ≤ 18446744073709551615 ∧ o.kind ≤ 255) : yb Tryz.prog 7 [.agg [.sl (chs v.c), .sl (wts v.w), .sl (ivs v.i), .sl (pys v.p), .c (.int .u64 (v.f.next : Int)), .sl (evs v.f.l), .c (.int .u64 (v.next : Int)), .c (.int .u64 (v.tick : Int))], .agg [.c (.int .u8 (o.kind : Int)), .c (.int .u64 (o.a : Int)), .c (.int .u64 (o.b : Int)), .c (.int .u64 (o.c : Int)), .c (.int .u64 (o.tick : Int)), .c (.bool o.paid), .c (.int .u64 (o.chan.id : Int)), .c (.int .u64 (o.chan.loc : Int)), .c (.int .u64 (o.chan.rem : Int)), .c (.int .u64 (o.chan.res : Int)), .c (.int .u64 (o.chan.most : Int)), .sl (hds o.chan.holds), .c (.bool o.chan.op), .sl (wts o.w)]] (wbS v o) := by
  refine .of (ac7 ja6 (Nat.le_of_ble_eq_true rfl) ?_)
  simp -implicitDefEqProofs only [cdA, go_sem, Go.Proofs.Tryz.f7, reduceIte, reduceCtorEq, Nat.reduceEqDiff, Nat.reduceAdd, Nat.reduceLeDiff, Nat.reduceSub, Nat.reduceMul, Nat.reduceLT, Nat.reduceShiftRight, Nat.reduceMod, Int.reduceLE, Int.reduceLT, Int.reduceToNat, List.cons.injEq, cdB]
  have hm : ((o.kind : Int).tmod 9) = ((o.kind % 9 : Nat) : Int) := by
    rw [Int.tmod_eq_emod_of_nonneg (by omega)]; omega
  have hlt : o.kind % 9 < 9 := Nat.mod_lt _ (by decide)
  rw [hm]
  unfold doW
  generalize o.kind % 9 = k at *
  have hf := h.1
  have hlf : (bF v o.w).2 = 0 → (bF v o.w).1.f.next ≤ 18446744073709551615 := fun h0 => by
    unfold bF at h0 ⊢
    split at h0
    · rename_i h1; rw [if_pos h1]; exact hf
    · cases h0
  clear hm h
  refine ⟨by decide, ?_⟩
  rcases (show k = 0 ∨ k = 1 ∨ k = 2 ∨ k = 3 ∨ k = 4 ∨ k = 5 ∨ k = 6 ∨ k = 7 ∨ k = 8 by omega) with rfl | rfl | rfl | rfl | rfl | rfl | rfl | rfl | rfl
  all_goals first | (simp [hf]; done) | skip
  by_cases h0 : (bF v o.w).2 = 0
  · simp [hf, h0, hlf h0]
  · simp [hf, h0]
@[go_sem] def xbV (v : Wl) (o : Opn) : Prop := (v.f.next ≤ 18446744073709551615 ∧ o.kind ≤ 255)
def qax : List D → Option (Prop × D × Fr)
  | [.agg [.c (.sl z514), .c (.sl z515), .c (.sl z516), .c (.sl z517), .c (.int .u64 z519), .c (.sl z520), .c (.int .u64 z521), .c (.int .u64 z522)], .agg [.c (.int .u8 z524), .c (.int .u64 z525), .c (.int .u64 z526), .c (.int .u64 z527), .c (.int .u64 z528), .c (.bool z529), .c (.int .u64 z531), .c (.int .u64 z532), .c (.int .u64 z533), .c (.int .u64 z534), .c (.int .u64 z535), .c (.sl z536), .c (.bool z537), .c (.sl z538)]] => some (z514 = chs (ji z514) ∧ z515 = wts (xl z515) ∧ z516 = ivs (xm z516) ∧ z517 = pys (vl z517) ∧ z519 = (z519.toNat : Int) ∧ z520 = evs (yo z520) ∧ z521 = (z521.toNat : Int) ∧ z522 = (z522.toNat : Int) ∧ z524 = (z524.toNat : Int) ∧ z525 = (z525.toNat : Int) ∧ z526 = (z526.toNat : Int) ∧ z527 = (z527.toNat : Int) ∧ z528 = (z528.toNat : Int) ∧ z531 = (z531.toNat : Int) ∧ z532 = (z532.toNat : Int) ∧ z533 = (z533.toNat : Int) ∧ z534 = (z534.toNat : Int) ∧ z535 = (z535.toNat : Int) ∧ z536 = hds (qq z536) ∧ z538 = wts (xl z538) ∧ xbV (⟨(ji z514), (xl z515), (xm z516), (vl z517), (⟨z519.toNat, (yo z520)⟩ : Fd), z521.toNat, z522.toNat⟩ : Wl) (⟨z524.toNat, z525.toNat, z526.toNat, z527.toNat, z528.toNat, z529, (⟨z531.toNat, z532.toNat, z533.toNat, z534.toNat, z535.toNat, (qq z536), z537⟩ : Ch), (xl z538)⟩ : Opn), wbS (⟨(ji z514), (xl z515), (xm z516), (vl z517), (⟨z519.toNat, (yo z520)⟩ : Fd), z521.toNat, z522.toNat⟩ : Wl) (⟨z524.toNat, z525.toNat, z526.toNat, z527.toNat, z528.toNat, z529, (⟨z531.toNat, z532.toNat, z533.toNat, z534.toNat, z535.toNat, (qq z536), z537⟩ : Ch), (xl z538)⟩ : Opn), [])
  | _ => none
attribute [go_sem] qax
theorem waU : ∀ rs p r fr, qax rs = some (p, r, fr) → p → qg Tryz.prog 7 rs r fr := by
  intro rs p r fr h hp
  unfold qax at h
  split at h <;> cases h
  obtain ⟨hc0, hc1, hc2, hc3, hc4, hc5, hc6, hc7, hc8, hc9, hc10, hc11, hc12, hc13, hc14, hc15, hc16, hc17, hc18, hc19, hp⟩ := hp
  rename_i z514 z515 z516 z517 z519 z520 z521 z522 z524 z525 z526 z527 z528 z529 z531 z532 z533 z534 z535 z536 z537 z538
  obtain ⟨z514, rfl⟩ : ∃ m, z514 = chs m := ⟨_, hc0⟩
  obtain ⟨z515, rfl⟩ : ∃ m, z515 = wts m := ⟨_, hc1⟩
  obtain ⟨z516, rfl⟩ : ∃ m, z516 = ivs m := ⟨_, hc2⟩
  obtain ⟨z517, rfl⟩ : ∃ m, z517 = pys m := ⟨_, hc3⟩
  obtain ⟨z519, rfl⟩ : ∃ m : Nat, z519 = m := ⟨_, hc4⟩
  obtain ⟨z520, rfl⟩ : ∃ m, z520 = evs m := ⟨_, hc5⟩
  obtain ⟨z521, rfl⟩ : ∃ m : Nat, z521 = m := ⟨_, hc6⟩
  obtain ⟨z522, rfl⟩ : ∃ m : Nat, z522 = m := ⟨_, hc7⟩
  obtain ⟨z524, rfl⟩ : ∃ m : Nat, z524 = m := ⟨_, hc8⟩
  obtain ⟨z525, rfl⟩ : ∃ m : Nat, z525 = m := ⟨_, hc9⟩
  obtain ⟨z526, rfl⟩ : ∃ m : Nat, z526 = m := ⟨_, hc10⟩
  obtain ⟨z527, rfl⟩ : ∃ m : Nat, z527 = m := ⟨_, hc11⟩
  obtain ⟨z528, rfl⟩ : ∃ m : Nat, z528 = m := ⟨_, hc12⟩
  obtain ⟨z531, rfl⟩ : ∃ m : Nat, z531 = m := ⟨_, hc13⟩
  obtain ⟨z532, rfl⟩ : ∃ m : Nat, z532 = m := ⟨_, hc14⟩
  obtain ⟨z533, rfl⟩ : ∃ m : Nat, z533 = m := ⟨_, hc15⟩
  obtain ⟨z534, rfl⟩ : ∃ m : Nat, z534 = m := ⟨_, hc16⟩
  obtain ⟨z535, rfl⟩ : ∃ m : Nat, z535 = m := ⟨_, hc17⟩
  obtain ⟨z536, rfl⟩ : ∃ m, z536 = hds m := ⟨_, hc18⟩
  obtain ⟨z538, rfl⟩ : ∃ m, z538 = wts m := ⟨_, hc19⟩
  simp only [Int.toNat_natCast, jb, jc, ze, qc, yc, jd]
  simp only [Int.toNat_natCast, jb, jc, ze, qc, yc, jd, xbV] at hp
  exact vbO ⟨z514, z515, z516, z517, ⟨z519, z520⟩, z521, z522⟩ ⟨z524, z525, z526, z527, z528, z529, ⟨z531, z532, z533, z534, z535, z536, z537⟩, z538⟩ hp
end Dm
namespace Dm
open Go Go.Proofs
set_option maxRecDepth 20000
theorem wf_u8 {n : Int} (h : (Lit.int .u8 n).wf = true) : 0 ≤ n ∧ n ≤ 255 := by
  simp [Lit.wf, IntKind.min, IntKind.max, IntKind.bits, IntKind.signed] at h
  omega
theorem wdg {k : Nat} {xs : List C} (h : Typ Tryz.prog (k + 1) 5 xs) : ∃ n : Nat, xs = [.int .u8 (n : Int)] ∧ n ≤ 255 := by
  simp only [Typ, Tryz.underlying5] at h
  obtain ⟨n, rfl, h1⟩ := h
  have := wf_u8 h1
  exact ⟨n.toNat, by rw [Int.toNat_of_nonneg (by omega)], by omega⟩
def Opn.rng (o : Opn) : Prop := o.kind ≤ 255 ∧ o.a ≤ 18446744073709551615 ∧ o.b ≤ 18446744073709551615 ∧ o.c ≤ 18446744073709551615 ∧ o.tick ≤ 18446744073709551615 ∧ o.chan.rng ∧ ∀ e ∈ o.w, e.rng
theorem kbK {k : Nat} {xs : List C} (h : Typ Tryz.prog (k + 6) 39 xs) : ∃ o : Opn, xs = o.enc ∧ o.rng := by
  rw [show k + 6 = (k + 5) + 1 from rfl, Typ, Tryz.underlying39] at h
  simp only [qav] at h
  obtain ⟨_, _, rfl, h0, _, _, rfl, h1, _, _, rfl, h2, _, _, rfl, h3, _, _, rfl, h4, _, _, rfl, h5, _, _, rfl, h6, _, _, rfl, h7, rfl⟩ := h
  obtain ⟨kd, rfl, q0⟩ := wdg (k := k + 4) h0
  obtain ⟨a, rfl, q1⟩ := qa4 (k := k + 4) h1
  obtain ⟨b, rfl, q2⟩ := qa4 (k := k + 4) h2
  obtain ⟨c, rfl, q3⟩ := qa4 (k := k + 4) h3
  obtain ⟨t, rfl, q4⟩ := qa4 (k := k + 4) h4
  obtain ⟨p, rfl⟩ := kdh (k := k + 4) h5
  obtain ⟨e6, q6⟩ := jcC (k := k + 1) h6
  obtain ⟨w, rfl, q7⟩ := wcq (k := k + 2) h7
  refine ⟨⟨kd, a, b, c, t, p, Ch.dec _, w⟩, ?_, q0, q1, q2, q3, q4, q6, q7⟩
  rw [← e6]
  simp [Opn.enc, Ch.enc, Ch.dec, ze]
end Dm
namespace Dm
open Go Go.Proofs
set_option maxRecDepth 20000
theorem bbT (o : Opn) : Opn.dec o.enc = o := by
  first | exact Opn.vg o | exact Opn.vg | (have := yaJ [o]; simpa [xH, wah] using this)
theorem xcM {k : Nat} {xs : List C} (h : Typ Tryz.prog (k + 7) 22 xs) : ∃ l, xs = [.sl (xH l)] ∧ ∀ e ∈ l, e.rng := by
  rw [show k + 7 = (k + 6) + 1 from rfl, Typ, Tryz.underlying22] at h
  obtain ⟨els, rfl, _, h2⟩ := h
  have h3 : ∀ x ∈ els, (Opn.dec x).enc = x ∧ (Opn.dec x).rng := fun x hx => by
    obtain ⟨o, rfl, ho⟩ := kbK (k := k) (h2 x hx)
    rw [bbT]; exact ⟨rfl, ho⟩
  refine ⟨wah els, by
    have : xH (wah els) = els := by
      show (els.map Opn.dec).map Opn.enc = els
      rw [List.map_map]
      conv => rhs; rw [← List.map_id els]
      exact List.map_congr_left fun x hx => (h3 x hx).1
    rw [this], fun e he => ?_⟩
  obtain ⟨x, hx, rfl⟩ := List.mem_map.1 he
  exact (h3 x hx).2
end Dm
namespace Dm
open Go Go.Proofs Go.IntWalk
theorem gba {v : Wl} {hash n t : Nat} (h : (gC v hash n t).2 = 0) : okW v ∧ okW (gC v hash n t).1 ∧ (xu v.f 3 hash n).2.2 = 0 ∧
    (gC v hash n t).1 = ⟨v.c, v.w, (jae v.i hash n t).1, v.p, (xu v.f 3 hash n).1, v.next, v.tick⟩ := by
  have he : (gC v hash n t).2 = zaY v hash n t := by
    unfold gC
    split
    · rename_i h; exact h.symm
    · rfl
  rw [he] at h
  have e : (gC v hash n t).1 = ⟨v.c, v.w, (jae v.i hash n t).1, v.p, (xu v.f 3 hash n).1, v.next, v.tick⟩ := by rw [gC, if_pos h]; rfl
  unfold zaY at h
  split at h
  · cases h
  rename_i h1
  split at h
  · rename_i h2; exact absurd h h2
  rename_i h2
  have hok : okW v := Decidable.byContradiction h1
  obtain ⟨-, i1⟩ := baY (Decidable.byContradiction h2 : (jae v.i hash n t).2 = 0)
  rw [e]
  exact ⟨hok, xa7 hok i1 (zI h), h, rfl⟩
theorem baS {l : List Ch} {c : Ch} (h : (bk l c).2 = 0) : zl l ∧ c.holds = [] ∧ (bk l c).1 = Srt.ins l (Srt.pos Ch.id ltN l c.id) c ∧ zl (bk l c).1 ∧ gj c ∧ ¬ Srt.thr Ch.id ltN l c.id = true := by
  have hf := qak h
  unfold bk at h hf ⊢
  split at h
  · cases h
  rename_i h1
  split at h
  · cases h
  rename_i h2
  split at h
  · cases h
  rename_i h3
  split at h
  rotate_left 1
  · cases h
  rename_i h4
  rw [if_neg h1, if_neg h2, if_neg h3, if_pos h4] at hf ⊢
  exact ⟨Decidable.byContradiction fun h => h1 (.inr (.inr (.inr h))), List.eq_nil_of_length_eq_zero (Nat.eq_zero_of_not_pos fun h => h1 (.inr (.inr (.inl h)))), rfl, hf, Decidable.byContradiction fun h => h1 (.inl h), h2⟩
theorem qbB {a b : List Ch} (h : a.Perm b) : (hlL a).Perm (hlL b) := h.flatMap_right _
theorem ya9 {v : Wl} {c : Ch} (h : (yw v c).2 = 0) : okW v ∧ okW (yw v c).1 ∧ (xu v.f 6 c.id c.loc).2.2 = 0 ∧ (bk v.c c).2 = 0 ∧
    (yw v c).1 = ⟨(bk v.c c).1, v.w, v.i, v.p, (xu v.f 6 c.id c.loc).1, v.next, v.tick⟩ := by
  have he : (yw v c).2 = jaT v c := by
    unfold yw
    split
    · rename_i h; exact h.symm
    · rfl
  rw [he] at h
  have e : (yw v c).1 = ⟨(bk v.c c).1, v.w, v.i, v.p, (xu v.f 6 c.id c.loc).1, v.next, v.tick⟩ := by rw [yw, if_pos h]; rfl
  unfold jaT at h
  split at h
  · cases h
  rename_i h1
  split at h
  · rename_i h2; exact absurd h h2
  rename_i h2
  have hok : okW v := Decidable.byContradiction h1
  have hC : (bk v.c c).2 = 0 := Decidable.byContradiction h2
  obtain ⟨-, o1, o2, o3, -⟩ := baS hC
  have hp : (hlL (bk v.c c).1).Perm (hlL v.c) := by
    rw [o2]
    have h1 : (hlL (Srt.ins v.c (Srt.pos Ch.id ltN v.c c.id) c)).Perm (hlL (c :: v.c)) := qbB Srt.vz
    have h2 : hlL (c :: v.c) = hlL v.c := by simp [hlL, hlC, o1]
    rw [h2] at h1; exact h1
  obtain ⟨a1, a2, a3, a4, a5⟩ := bh.1 hok.2.2.2.2.2.2.2
  have ha : zY v.p (bk v.c c).1 = (true, 0) := bh.2 ⟨a1, o3.1, vQ o3, fun q hq => hp.mem_iff.2 (a4 q hq), by rw [hp.length_eq]; exact a5⟩
  rw [e]
  exact ⟨hok, ⟨o3, hok.2.1, zI h, hok.2.2.2.1, hok.2.2.2.2.1, hok.2.2.2.2.2.1, hok.2.2.2.2.2.2.1, ha⟩, h, hC, rfl⟩
theorem ka5 {v : Wl} {l : List Wt} (h : (bF v l).2 = 0) : okW v ∧ okW (bF v l).1 ∧ (bF v l).1 = { v with w := l } := by
  unfold bF at h ⊢
  split at h
  · rename_i h1
    obtain ⟨⟨o1, o2, o3, o4, o5⟩, hl⟩ := h1
    rw [if_pos ⟨⟨o1, o2, o3, o4, o5⟩, hl⟩]
    exact ⟨⟨o1, o2, o3, o4, o5⟩, ⟨o1, o2, o3, hl, o5⟩, rfl⟩
  · cases h
theorem wb3 {v : Wl} {o : Opn} (h : ¬ (doW v o).2 = 0) : (doW v o).1 = xy := by
  unfold doW at h ⊢
  generalize o.kind % 9 = k at *
  split at h
  · rename_i h1
    rw [if_pos h1]
    dsimp only at h ⊢
    rw [qaT] at h
    rw [yl, if_neg h]
  rename_i h1
  rw [if_neg h1]
  split at h
  · rename_i h2; rw [if_pos h2]; rw [ubd] at h; rw [jq, if_neg h]
  rename_i h2
  rw [if_neg h2]
  split at h
  · rename_i h3; rw [if_pos h3]
    unfold gC at h ⊢
    split at h
    · exact absurd rfl h
    · rename_i h4; rw [if_neg h4]
  rename_i h3
  rw [if_neg h3]
  split at h
  · rename_i h4; rw [if_pos h4]; rw [bbi] at h; rw [jD, if_neg h]
  rename_i h4
  rw [if_neg h4]
  split at h
  · rename_i h5; rw [if_pos h5]; rw [zbj] at h; rw [vB, if_neg h]
  rename_i h5
  rw [if_neg h5]
  split at h
  · rename_i h6; rw [if_pos h6]
    unfold yw at h ⊢
    split at h
    · exact absurd rfl h
    · rename_i h4; rw [if_neg h4]
  rename_i h6
  rw [if_neg h6]
  split at h
  · rename_i h7; rw [if_pos h7]; rw [gbc] at h; rw [xE, if_neg h]
  rename_i h7
  rw [if_neg h7]
  split at h
  · rename_i h8; rw [if_pos h8]; rw [bbd] at h; rw [xI, if_neg h]
  · rename_i h8; rw [if_neg h8]
    unfold bF at h ⊢
    split at h
    · exact absurd rfl h
    · rename_i h9; rw [if_neg h9]
end Dm
namespace Dm
open Go Go.Proofs Go.IntWalk
def vi (c d : Ch) : Prop := d.id = c.id ∧ uI d = uI c ∧ ¬ (d.loc < c.loc ∧ d.loc < d.res)
theorem qC (c : Ch) : vi c c := ⟨rfl, rfl, fun h => absurd h.1 (Nat.lt_irrefl _)⟩
theorem uQ {l : List Ch} {p : Nat} {e : Ch} (hp : p < l.length) (h : vi (l.getD p default) e) : ∀ c ∈ l, ∃ d ∈ l.set p e, vi c d := fun c hc => by
  obtain ⟨i, hi, rfl⟩ := xb.1 hc
  by_cases hip : i = p
  · subst hip; exact ⟨e, List.mem_set hi _, h⟩
  · refine ⟨l.getD i default, xb.2 ⟨i, by rw [List.length_set]; exact hi, ?_⟩, qC _⟩
    rw [Srt.uu hp, if_neg hip]
theorem waE {c : Ch} {h n : Nat} (he : qm c h n = 0) : vi c (qf c h n).1 := by
  have hok := (ba3 false he).1
  obtain ⟨-, ha⟩ := wW he hok
  have e : (qf c h n).1 = ⟨c.id, c.loc - n, c.rem, c.res, c.most, Srt.ins c.holds (Srt.pos Hd.key ltN c.holds h) ⟨h, n⟩, c.op⟩ := by rw [qf, if_pos he]
  refine ⟨by rw [e], ha, ?_⟩
  rw [e]
  dsimp only
  unfold qm at he
  split at he
  · cases he
  split at he
  · cases he
  split at he
  · cases he
  split at he
  · cases he
  split at he
  · cases he
  omega
theorem qa8 {v : Wl} {hash n : Nat} (h : (yl v hash n).2.2 = 0) : ∀ c ∈ v.c, ∃ d ∈ (yl v hash n).1.c, vi c d := by
  obtain ⟨p, c, hp, hc, -, he, e, -⟩ := vbg h
  rw [e]
  exact uQ hp (by rw [hc]; exact waE he)
theorem qba {v : Wl} {id : Nat} {paid : Bool} (h : (jq v id paid).2 = 0) : ∀ c ∈ v.c, ∃ d ∈ (jq v id paid).1.c, vi c d := by
  obtain ⟨-, -, e, -, hC, -⟩ := kaN h
  obtain ⟨-, c, hc, x, hx, hk, p, hp, -, hpc, hcc, e2⟩ := b9 paid (uaD.1 hC)
  rw [e, e2]
  refine uQ hp ?_
  rw [hpc]
  obtain ⟨-, c2, c3, -⟩ := ubj (paid := paid) hcc hx hk
  refine ⟨c3, c2, ?_⟩
  obtain ⟨q, -, -, -, e3⟩ := zah (paid := paid) hcc hx hk
  rw [e3]
  dsimp only
  rintro ⟨h1, -⟩
  split at h1 <;> omega
theorem kW {l : List Ch} : ∀ c ∈ l, ∃ d ∈ l, vi c d := fun c hc => ⟨c, hc, qC c⟩
theorem ya4 {l : List Ch} {id n : Nat} (h : (bX l id n).2 = 0) : ∀ c ∈ l, ∃ d ∈ (bX l id n).1, vi c d := by
  obtain ⟨-, p, hp, -, he, e, -⟩ := xad h
  obtain ⟨-, -, -, e2, -, ha⟩ := vbe he
  rw [e]
  refine uQ hp ⟨by rw [e2], ha, ?_⟩
  rw [e2]
  rintro ⟨h1, -⟩
  dsimp only at h1
  omega
theorem ka7 {l : List Ch} {id : Nat} (h : (yY l id).2 = 0) : ∀ c ∈ l, ∃ d ∈ (yY l id).1, vi c d := by
  obtain ⟨-, p, hp, -, he, e, -⟩ := zac h
  obtain ⟨-, -, -, e2, -, ha⟩ := ybh he
  rw [e]
  refine uQ hp ⟨by rw [e2], ha, ?_⟩
  rw [e2]
  rintro ⟨h1, -⟩
  dsimp only at h1
  omega
theorem uaW {l : List Ch} {c : Ch} (h : (bk l c).2 = 0) : (∀ c' ∈ l, ∃ d ∈ (bk l c).1, vi c' d) ∧ l.length ≤ (bk l c).1.length := by
  obtain ⟨-, -, e, -⟩ := baS h
  rw [e]
  exact ⟨fun c' hc => ⟨c', Srt.vz.mem_iff.2 (.tail _ hc), qC c'⟩, by rw [Srt.zj]; omega⟩
theorem xbQ {v : Wl} {o : Opn} (h : (doW v o).2 = 0) : okW (doW v o).1 ∧ v.next ≤ (doW v o).1.next ∧ v.tick ≤ (doW v o).1.tick ∧ v.c.length ≤ (doW v o).1.c.length ∧ ∀ c ∈ v.c, ∃ d ∈ (doW v o).1.c, vi c d := by
  have hpay : (yl v o.a o.b).2.2 = 0 → okW (yl v o.a o.b).1 ∧ v.next ≤ (yl v o.a o.b).1.next ∧ v.tick ≤ (yl v o.a o.b).1.tick ∧ v.c.length ≤ (yl v o.a o.b).1.c.length ∧ ∀ c ∈ v.c, ∃ d ∈ (yl v o.a o.b).1.c, vi c d := fun h => by
    obtain ⟨-, h1, -, h2, -, -, -, -, -, h3, -⟩ := wbx h
    obtain ⟨p, c, -, -, -, -, e, -⟩ := vbg h
    exact ⟨h1, by omega, by omega, by rw [e, List.length_set]; exact Nat.le_refl _, qa8 h⟩
  have hlt : o.kind % 9 < 9 := Nat.mod_lt _ (by decide)
  unfold doW at h ⊢
  generalize o.kind % 9 = k at *
  rcases (show k = 0 ∨ k = 1 ∨ k = 2 ∨ k = 3 ∨ k = 4 ∨ k = 5 ∨ k = 6 ∨ k = 7 ∨ k = 8 by omega) with rfl | rfl | rfl | rfl | rfl | rfl | rfl | rfl | rfl
  · exact hpay h
  · have hc := qba h
    obtain ⟨-, h1, e, -, hC, -⟩ := kaN h
    obtain ⟨-, c, hc', x, hx, hk, p, hp, -, hpc, hcc, e2⟩ := b9 o.paid (uaD.1 hC)
    refine ⟨h1, ?_, ?_, ?_, hc⟩
    · show _ ≤ (jq v o.a o.paid).1.next; rw [e]; exact Nat.le_refl _
    · show _ ≤ (jq v o.a o.paid).1.tick; rw [e]; exact Nat.le_refl _
    · show _ ≤ (jq v o.a o.paid).1.c.length; rw [e, e2, List.length_set]; exact Nat.le_refl _
  · obtain ⟨-, h1, -, e⟩ := gba h
    refine ⟨h1, ?_⟩
    show _ ≤ (gC v o.a o.b o.tick).1.next ∧ _ ≤ (gC v o.a o.b o.tick).1.tick ∧ _ ≤ (gC v o.a o.b o.tick).1.c.length ∧ ∀ c ∈ v.c, ∃ d ∈ (gC v o.a o.b o.tick).1.c, vi c d
    rw [e]
    exact ⟨Nat.le_refl _, Nat.le_refl _, Nat.le_refl _, kW⟩
  · obtain ⟨-, h1, -, -, e⟩ := uaF h
    refine ⟨h1, ?_⟩
    show _ ≤ (jD v o.a).1.next ∧ _ ≤ (jD v o.a).1.tick ∧ _ ≤ (jD v o.a).1.c.length ∧ ∀ c ∈ v.c, ∃ d ∈ (jD v o.a).1.c, vi c d
    rw [e]
    exact ⟨Nat.le_refl _, Nat.le_refl _, Nat.le_refl _, kW⟩
  · obtain ⟨-, h1, -, hC, -, e⟩ := gar h
    refine ⟨h1, ?_⟩
    show _ ≤ (vB v o.a o.b o.c).1.next ∧ _ ≤ (vB v o.a o.b o.c).1.tick ∧ _ ≤ (vB v o.a o.b o.c).1.c.length ∧ ∀ c ∈ v.c, ∃ d ∈ (vB v o.a o.b o.c).1.c, vi c d
    rw [e]
    obtain ⟨-, p, -, -, -, e2, -⟩ := xad hC
    exact ⟨Nat.le_refl _, Nat.le_refl _, by dsimp only; rw [e2, List.length_set]; exact Nat.le_refl _, ya4 hC⟩
  · obtain ⟨-, h1, -, hC, e⟩ := ya9 h
    refine ⟨h1, ?_⟩
    show _ ≤ (yw v o.chan).1.next ∧ _ ≤ (yw v o.chan).1.tick ∧ _ ≤ (yw v o.chan).1.c.length ∧ ∀ c ∈ v.c, ∃ d ∈ (yw v o.chan).1.c, vi c d
    rw [e]
    obtain ⟨h2, h3⟩ := uaW hC
    exact ⟨Nat.le_refl _, Nat.le_refl _, h3, h2⟩
  · obtain ⟨-, h1, hC, -, e⟩ := uaN h
    refine ⟨h1, ?_⟩
    show _ ≤ (xE v o.c).1.next ∧ _ ≤ (xE v o.c).1.tick ∧ _ ≤ (xE v o.c).1.c.length ∧ ∀ c ∈ v.c, ∃ d ∈ (xE v o.c).1.c, vi c d
    rw [e]
    obtain ⟨-, p, -, -, -, e2, -⟩ := zac hC
    exact ⟨Nat.le_refl _, Nat.le_refl _, by dsimp only; rw [e2, List.length_set]; exact Nat.le_refl _, ka7 hC⟩
  · simp only [show ¬ (7 = 0 ∨ 7 = 8) by decide, if_false, show ¬ 7 = 1 by decide, show ¬ 7 = 2 by decide, show ¬ 7 = 3 by decide, show ¬ 7 = 4 by decide, show ¬ 7 = 5 by decide, show ¬ 7 = 6 by decide] at h ⊢
    split at h
    · rename_i h8
      rw [if_pos h8]
      obtain ⟨-, h1, h2, e⟩ := qaZ h
      obtain ⟨-, -, e2⟩ := ka5 h8
      refine ⟨h1, ?_⟩
      rw [e2] at h2
      rw [e, e2]
      exact ⟨Nat.le_refl _, h2, Nat.le_refl _, kW⟩
    · rename_i h8; exact absurd h h8
  · exact hpay h
theorem bay {α : Type} [DecidableEq α] : ∀ {l m : List α}, l.Nodup → (∀ x ∈ l, x ∈ m) → m.length ≤ l.length → l.Perm m
  | [], m, _, _, hl => by
    have : m = [] := List.eq_nil_of_length_eq_zero (by simpa using hl)
    rw [this]
  | a :: l, m, hd, hs, hl => by
    rw [List.nodup_cons] at hd
    have ha : a ∈ m := hs a (.head _)
    have hle := List.length_erase_of_mem ha
    rw [List.length_cons] at hl
    have ih := bay (l := l) (m := m.erase a) hd.2 (fun y hy => (List.mem_erase_of_ne fun he : y = a => hd.1 (he ▸ hy)).2 (hs y (.tail _ hy))) (by omega)
    exact (ih.cons a).trans (List.perm_cons_erase ha).symm
def k3 (q : Py) : K3 := (q.chan, q.id, q.n)
theorem ubu {p : List Py} {c : List Ch} (h : zY p c = (true, 0)) : ((wu p).map k3).Perm (hlL c) := by
  obtain ⟨a1, a2, a3, a4, a5⟩ := bh.1 h
  refine bay ?_ (fun x hx => ?_) (by rw [List.length_map, a5]; exact Nat.le_refl _)
  · have h1 := k4 a1
    have h2 : (((wu p).map k3).map fun x => x.2.1).Nodup := by rw [List.map_map]; exact h1
    exact List.Pairwise.of_map _ (fun a b hab he => hab (by rw [he])) h2
  · obtain ⟨q, hq, rfl⟩ := List.mem_map.1 hx
    exact a4 q hq
theorem y9 : ∀ {l : List Ch} {d : Ch}, (l.map Ch.id).Nodup → d ∈ l → (hlL l).filter (fun x => decide (x.1 = d.id)) = hlC d
  | [], _, _, h => absurd h (by simp)
  | c :: l, d, hn, h => by
    rw [List.map_cons, List.nodup_cons] at hn
    have e : hlL (c :: l) = hlC c ++ hlL l := rfl
    have hall : ∀ (c : Ch), ∀ x ∈ hlC c, x.1 = c.id := fun c x hx => by
      obtain ⟨y, _, rfl⟩ := List.mem_map.1 hx; rfl
    rw [e, List.filter_append]
    rcases List.mem_cons.1 h with rfl | h
    · rw [List.filter_eq_self.2 (fun x hx => decide_eq_true (hall _ x hx)), List.filter_eq_nil_iff.2 (fun x hx he => ?_), List.append_nil]
      obtain ⟨c, hc, hx⟩ := List.mem_flatMap.1 hx
      have h1 := hall c x hx
      exact hn.1 (List.mem_map.2 ⟨c, hc, by rw [← h1]; exact of_decide_eq_true he⟩)
    · rw [List.filter_eq_nil_iff.2 (fun x hx he => ?_), List.nil_append, y9 hn.2 h]
      have h1 := hall c x hx
      exact hn.1 (List.mem_map.2 ⟨d, h, by rw [← h1]; exact (of_decide_eq_true he).symm⟩)
def wB (l : List Py) (id : Nat) : Nat := (((wu l).filter fun q => decide (q.chan = id)).map Py.n).sum
theorem vaH {p : List Py} {c : List Ch} {d : Ch} (h : zY p c = (true, 0)) (hd : d ∈ c) : wB p d.id = held d.holds := by
  have h1 := (ubu h).filter fun x => decide (x.1 = d.id)
  rw [y9 (bh.1 h).2.2.1 hd, List.filter_map] at h1
  have h2 := (h1.map fun x => x.2.2).sum_nat
  rw [List.map_map, hlC, List.map_map] at h2
  exact h2
end Dm
namespace Dm
open Go Go.Proofs Go.IntWalk
def vX (l : List Py) (id : Nat) : Nat × Int := if zB l then (if wB l id ≤ MM then (wB l id, 0) else (0, 1)) else (0, 1)
theorem kaH {l : List Py} {i id : Nat} (h : i < l.length) : wB (l.take (i + 1)) id = wB (l.take i) id + (if (l.getD i default).state = 1 ∧ (l.getD i default).chan = id then (l.getD i default).n else 0) := by
  rw [take_succ h, wB, kK, List.filter_append, List.map_append, List.sum_append]
  congr 1
  unfold wu
  by_cases h1 : (l.getD i default).state = 1
  · rw [List.filter_cons_of_pos (by simpa using h1), List.filter_nil]
    by_cases h2 : (l.getD i default).chan = id
    · rw [List.filter_cons_of_pos (by simpa using h2), if_pos ⟨h1, h2⟩]; simp
    · rw [List.filter_cons_of_neg (by simpa using h2), if_neg (fun h => h2 h.2)]; simp
  · rw [List.filter_cons_of_neg (by simpa using h1), if_neg (fun h => h1 h.1)]; simp
theorem ba8 {l : List Py} {i id : Nat} : wB (l.take i) id ≤ wB l id := by
  conv => rhs; rw [← List.take_append_drop i l, wB, kK, List.filter_append, List.map_append, List.sum_append]
  exact Nat.le_add_right _ _
@[go_sem] def yaU (l : List Py) (id : Nat) : D := .tup [.int .u64 ((vX l id).1 : Int), .int .i64 (vX l id).2]
@[go_sem] abbrev kcw : FuncId := 13
@[go_sem] def kbw : Tab := [(25, zy), (32, xx)]
theorem v8 : za Tryz.prog kbw := (za.cons uD (za.cons bB za.nil))
set_option maxRecDepth 8000 in
set_option maxHeartbeats 1000000 in
theorem zba (l : List Py) (id : Nat)  : yb Tryz.prog 13 [.sl (pys l), .c (.int .u64 (id : Int))] (yaU l id) := by
  refine .of (qde v8 (Nat.le_of_ble_eq_true rfl) ?_)
  simp -implicitDefEqProofs only [cdA, go_sem, Go.Proofs.Tryz.f13, reduceIte, reduceCtorEq, Nat.reduceEqDiff, Nat.reduceAdd, Nat.reduceLeDiff, Nat.reduceSub, Nat.reduceMul, Nat.reduceLT, Nat.reduceShiftRight, Nat.reduceMod, Int.reduceLE, Int.reduceLT, Int.reduceToNat, List.cons.injEq, cdB]
  have hcz : yaK l = 0 ↔ zB l := by unfold yaK; split <;> rename_i h <;> simp only [h] <;> decide
  refine ⟨fun h0 _ => ?_, fun h0 => by
    have hno : ¬ zB l := fun h => h0 (hcz.2 h)
    rw [vX, yaK, if_neg hno, if_neg hno]; exact ⟨rfl, rfl⟩⟩
  have hok := hcz.1 h0
  have hl := hok.1
  refine SWp.loop (ι := { i : Nat // i ≤ l.length ∧ wB (l.take i) id ≤ MM }) (fun i => ⟨[(1, .c (.int .u64 id)), (4, .int .u64 (wB (l.take i.1) id : Nat)), (13, .sl (pys l)), (14, .int .i64 l.length), (15, .int .i64 i.1)], [], 0⟩) (fun i => l.length - i.1) ⟨0, by omega, by simp [wB, wu]⟩ ?_ ?_
  · simp [go_sem, wB, wu]
  · rintro ⟨i, hi, hs⟩
    refine qb v8.toS vcM _ _ _ rfl ?_
    simp -implicitDefEqProofs only [cdA, go_sem, reduceIte, reduceCtorEq, Nat.reduceEqDiff, Nat.reduceAdd, Nat.reduceLeDiff, Nat.reduceSub, Nat.reduceMul, Nat.reduceLT, Nat.reduceShiftRight, Nat.reduceMod, Int.reduceLE, Int.reduceLT, Int.reduceToNat, List.cons.injEq, cdB]
    refine ⟨fun h1 => ?_, fun h1 => ?_⟩
    · have hi' : i < l.length := by omega
      have hsu := kaH (id := id) hi'
      have hle := ba8 (l := l) (i := i + 1) (id := id)
      have hn := (hok.2.1 _ (xb.2 ⟨i, hi', rfl⟩)).1.2
      generalize hq : l.getD i default = q at *
      have hskip : ¬ (q.state = 1 ∧ q.chan = id) → ∃ j : { i : Nat // i ≤ l.length ∧ wB (l.take i) id ≤ MM }, l.length - j.1 < l.length - i ∧ ((wB (l.take i) id : Nat) : Int) = (wB (l.take j.1) id : Nat) ∧ IntKind.i64.wrap ((i : Int) + 1) = j.1 := fun hno => by
        rw [if_neg hno, Nat.add_zero] at hsu
        exact ⟨⟨i + 1, hi', by rw [hsu]; exact hs⟩, by dsimp only; omega, by dsimp only; omega, i64_in _ (by omega)⟩
      refine ⟨by omega, fun h2 => ⟨fun h3 => ⟨fun h4 => ?_, fun h4 => ?_⟩, fun h3 => hskip fun h => h3 (by omega)⟩, fun h2 => hskip fun h => h2 h.1⟩
      · rw [if_pos ⟨h2, by omega⟩] at hsu
        have h5 := vay h4
        have h6 := (uP.1 h4).2
        simp only [List.sum_cons, List.sum_nil, Nat.add_zero] at h5 h6
        exact ⟨⟨i + 1, hi', by rw [hsu]; exact h6⟩, by dsimp only; omega, by rw [h5]; dsimp only; rw [hsu], i64_in _ (by omega)⟩
      · rw [if_pos ⟨h2, by omega⟩] at hsu
        have hno : ¬ wB l id ≤ MM := fun hle2 => h4 (uP.2 ⟨fun x hx => by
          simp only [List.mem_cons, List.not_mem_nil, or_false] at hx
          rcases hx with rfl | rfl
          · exact hs
          · exact hn, by simp only [List.sum_cons, List.sum_nil, Nat.add_zero]; unfold MM at *; omega⟩)
        rw [vX, if_pos hok, if_neg hno]; exact ⟨rfl, rfl⟩
    · have hi' : i = l.length := by omega
      subst hi'
      rw [List.take_length] at hs ⊢
      rw [vX, if_pos hok, if_pos hs]; exact ⟨rfl, rfl⟩
def vS : List D → Option (Prop × D × Fr)
  | [.c (.sl z539), .c (.int .u64 z540)] => some (z539 = pys (vl z539) ∧ z540 = (z540.toNat : Int), yaU (vl z539) z540.toNat, [])
  | _ => none
attribute [go_sem] vS
theorem qau : ∀ rs p r fr, vS rs = some (p, r, fr) → p → qg Tryz.prog 13 rs r fr := by
  intro rs p r fr h hp
  unfold vS at h
  split at h <;> cases h
  obtain ⟨hc0, hc1⟩ := hp
  rename_i z539 z540
  obtain ⟨z539, rfl⟩ : ∃ m, z539 = pys m := ⟨_, hc0⟩
  obtain ⟨z540, rfl⟩ : ∃ m : Nat, z540 = m := ⟨_, hc1⟩
  simp only [Int.toNat_natCast, yc]
  exact zba z539 z540
end Dm
namespace Dm
open Go Go.Proofs Go.IntWalk
theorem za3 {l : List Ch} {c : Ch} (hok : zl l) (hc : c ∈ l) : bap l c.id = (c, 0) := by
  have hu : Srt.Up Ch.id ltN l := (Srt.bf (lt := ltN) Srt.ue).1 hok.2.2.1
  have ht : Srt.thr Ch.id ltN l c.id = true := (Srt.xN Srt.ue hu).2 ⟨c, hc, rfl⟩
  obtain ⟨h1, h2⟩ := zT ht
  rw [bap, if_pos hok, if_pos ht, Srt.qaC (key := Ch.id) (lt := ltN) Srt.ue hu (xb.2 ⟨_, h1, rfl⟩) hc h2]
@[go_sem] def vH (l : List Opn) : D := .bool true
@[go_sem] abbrev uaZ : FuncId := 3
@[go_sem] def vY : Tab := [(4, kaa), (6, jaf), (7, qax), (5, xV), (9, jh), (8, gE), (10, yab), (11, kN), (12, jK), (13, vS)]
theorem zo : za Tryz.prog vY := (za.cons uaI (za.cons yaH (za.cons waU (za.cons x8 (za.cons xg (za.cons wO (za.cons yaI (za.cons jM (za.cons gV (za.cons qau za.nil))))))))))
set_option maxRecDepth 8000 in
set_option maxHeartbeats 1000000 in
theorem jU (l : List Opn) (h : ∀ o ∈ l, o.kind ≤ 255) : yb Tryz.prog 3 [.sl (xH l)] (vH l) := by
  refine .of (ac3 zo (Nat.le_of_ble_eq_true rfl) ?_)
  simp -implicitDefEqProofs only [cdA, go_sem, Go.Proofs.Tryz.f3, reduceIte, reduceCtorEq, Nat.reduceEqDiff, Nat.reduceAdd, Nat.reduceLeDiff, Nat.reduceSub, Nat.reduceMul, Nat.reduceLT, Nat.reduceShiftRight, Nat.reduceMod, Int.reduceLE, Int.reduceLT, Int.reduceToNat, List.cons.injEq, cdB]
  refine fun _ => ⟨fun _ => trivial, fun h30 _ => ?_⟩
  refine SWp.loop (ι := { x : Nat × Wl // x.1 ≤ l.length ∧ x.2.f.next ≤ 18446744073709551615 ∧ ∀ c ∈ x.2.c, gj c }) (fun x => ⟨[(3, .ref 0 0), (28, .sl (xH l)), (29, .int .i64 l.length), (30, .int .i64 x.1.1)],
    [(0, .box [.sl (chs x.1.2.c), .sl (wts x.1.2.w), .sl (ivs x.1.2.i), .sl (pys x.1.2.p), .int .u64 (x.1.2.f.next : Nat), .sl (evs x.1.2.f.l), .int .u64 (x.1.2.next : Nat), .int .u64 (x.1.2.tick : Nat)])], 1⟩) (fun x => l.length - x.1.1) ⟨(0, jH), Nat.zero_le _, by decide, fun c hc => by cases hc⟩ ?_ ?_
  · simp [go_sem, jH]
  · rintro ⟨⟨i, w⟩, hi, hf, hwc⟩
    refine qb zo.toS lv3 _ _ _ rfl ?_
    simp -implicitDefEqProofs only [cdA, go_sem, reduceIte, reduceCtorEq, Nat.reduceEqDiff, Nat.reduceAdd, Nat.reduceLeDiff, Nat.reduceSub, Nat.reduceMul, Nat.reduceLT, Nat.reduceShiftRight, Nat.reduceMod, Int.reduceLE, Int.reduceLT, Int.reduceToNat, List.cons.injEq, cdB]
    dsimp only at hi hf hwc
    refine ⟨fun h1 => ⟨by omega, fun hof => ?_, fun _ => trivial⟩, fun _ => trivial⟩
    have hi' : i < l.length := by omega
    have hkd := h _ (xb.2 ⟨i, hi', rfl⟩)
    generalize l.getD i default = o at *
    refine ⟨⟨hf, hkd⟩, fun h0 => ?_, fun h0 => ?_⟩
    rotate_left 1
    · rw [wb3 h0]
      refine fun _ => ⟨fun _ _ => ⟨fun _ => ⟨fun _ => ⟨⟨(i + 1, w), hi', hf, hwc⟩, by dsimp only; omega, i64_in _ (by omega), rfl, rfl, rfl, rfl, rfl, rfl, rfl, rfl⟩, fun h => h rfl⟩, fun h => h rfl⟩, fun h => h rfl⟩
    obtain ⟨d1, d2, d3, d4, d5⟩ := xbQ h0
    generalize (doW w o).1 = x at *
    have ha := d1.2.2.2.2.2.2.2
    have hfx : x.f.next ≤ 18446744073709551615 := by have := d1.2.2.1.2.1; unfold MM at this; omega
    rw [ha]
    refine ⟨fun c hc => by have := (d1.1.2.1 c hc).2.2.1; omega, hfx, fun _ => ⟨fun _ => ⟨fun _ => ⟨fun _ => ⟨fun _ _ _ => ⟨fun h => by omega, fun _ _ => ?_⟩, fun h => by omega⟩, fun h => by omega⟩, fun h => by cases h⟩, fun h => h rfl⟩, fun h => h (ql.2 d1)⟩
    refine SWp.loop (ι := { k : Nat // k ≤ w.c.length }) (fun k => ⟨[(3, .ref 0 0), (5, .ref 1 0), (6, .ref 2 0), (28, .sl (xH l)), (29, .int .i64 l.length), (30, .int .i64 i), (103, .sl (chs w.c)), (104, .int .i64 w.c.length), (105, .int .i64 k.1)],
      [(2, .box [.sl (chs x.c), .sl (wts x.w), .sl (ivs x.i), .sl (pys x.p), .int .u64 (x.f.next : Nat), .sl (evs x.f.l), .int .u64 (x.next : Nat), .int .u64 (x.tick : Nat)]), (1, .box [.c (.int .u8 o.kind), .c (.int .u64 o.a), .c (.int .u64 o.b), .c (.int .u64 o.c), .c (.int .u64 o.tick), .c (.bool o.paid), .c (.int .u64 o.chan.id), .c (.int .u64 o.chan.loc), .c (.int .u64 o.chan.rem), .c (.int .u64 o.chan.res), .c (.int .u64 o.chan.most), .c (.sl (hds o.chan.holds)), .c (.bool o.chan.op), .c (.sl (wts o.w))]), (0, .box [.sl (chs w.c), .sl (wts w.w), .sl (ivs w.i), .sl (pys w.p), .int .u64 (w.f.next : Nat), .sl (evs w.f.l), .int .u64 (w.next : Nat), .int .u64 (w.tick : Nat)])], 3⟩) (fun k => w.c.length - k.1) ⟨0, Nat.zero_le _⟩ ?_ ?_
    · simp [go_sem]
    · rintro ⟨k, hk⟩
      refine qb zo.toS lv3 _ _ _ rfl ?_
      simp -implicitDefEqProofs only [cdA, go_sem, reduceIte, reduceCtorEq, Nat.reduceEqDiff, Nat.reduceAdd, Nat.reduceLeDiff, Nat.reduceSub, Nat.reduceMul, Nat.reduceLT, Nat.reduceShiftRight, Nat.reduceMod, Int.reduceLE, Int.reduceLT, Int.reduceToNat, List.cons.injEq, cdB]
      refine ⟨fun h2 => ?_, fun h2 => ⟨⟨(i + 1, x), hi', hfx, d1.1.2.1⟩, by dsimp only; omega, i64_in _ (by omega), rfl, rfl, rfl, rfl, rfl, rfl, rfl, rfl⟩⟩
      have hk' : k < w.c.length := by omega
      have hcm := xb.2 ⟨k, hk', rfl⟩
      have hcc := hwc _ hcm
      obtain ⟨d, hd, e1, e2, e3⟩ := d5 _ hcm
      generalize w.c.getD k default = c at *
      have hg := za3 d1.1 hd
      rw [e1] at hg
      have hdd := d1.1.2.1 d hd
      have s1 : vf c = (held c.holds, uI c, 0) := by rw [uI, vf, if_pos hcc]
      have s2 : vf d = (held d.holds, uI d, 0) := by rw [uI, vf, if_pos hdd]
      have hps := vaH ha hd
      rw [e1] at hps
      have hp : vX x.p c.id = (held d.holds, 0) := by
        rw [vX, if_pos (bh.1 ha).1, hps, if_pos]
        have := hdd.2.2.2.2.2.2.1
        have := hdd.2.1
        omega
      have hgo : ∃ j : { k : Nat // k ≤ w.c.length }, w.c.length - j.1 < w.c.length - k ∧ IntKind.i64.wrap ((k : Int) + 1) = j.1 := ⟨⟨k + 1, hk'⟩, by dsimp only; omega, i64_in _ (by omega)⟩
      rw [hg]
      dsimp only
      rw [s1, s2, hp]
      dsimp only
      refine ⟨by omega, fun _ => ⟨fun _ => ⟨fun _ => ⟨fun _ => ⟨fun _ => ⟨fun _ => ⟨fun _ => ⟨fun h3 => ⟨by decide, fun _ => ⟨fun h4 => e3 ⟨by omega, by omega⟩, fun _ => hgo⟩, fun _ => hgo⟩, fun _ => hgo⟩, fun h => h rfl⟩, fun h => h (by rw [e2])⟩, fun h => h rfl⟩, fun h => h rfl⟩, fun h => h rfl⟩, fun h => h rfl⟩, fun h => h rfl⟩
@[go_sem] def uY (l : List Opn) : Prop := (∀ o ∈ l, o.kind ≤ 255)
def bU : List D → Option (Prop × D × Fr)
  | [.c (.sl z541)] => some (z541 = xH (wah z541) ∧ uY (wah z541), vH (wah z541), [])
  | _ => none
attribute [go_sem] bU
end Dm
