import Derived.Test.YtceoichdaepegabGreatP8

set_option linter.unusedSimpArgs false
set_option linter.unusedVariables false
set_option linter.unusedSectionVars false
namespace Dm
open Go Go.Proofs Go.IntWalk
def wclC (v : Wl) (ch : Nat) : List Ch × Int := lclL v.c ch
def wclF (v : Wl) (ch : Nat) : Fd × Nat × Int := addF v.f 7 ch 0
def wclE (v : Wl) (ch : Nat) : Int := if ¬ okW v then 1 else if (wclC v ch).2 ≠ 0 then (wclC v ch).2 else (wclF v ch).2.2
def wclW (v : Wl) (ch : Nat) : Wl × Int := if wclE v ch = 0 then (⟨(wclC v ch).1, v.w, v.i, v.p, (wclF v ch).1, v.next, v.tick⟩, 0) else (zeroW, wclE v ch)
@[go_sem] def wclose_r (v : Wl) (ch : Nat) : D := .tup [.agg [.sl (chs (wclW v ch).1.c), .sl (wts (wclW v ch).1.w), .sl (ivs (wclW v ch).1.i), .sl (pys (wclW v ch).1.p), .int .u64 (wclW v ch).1.f.next, .sl (evs (wclW v ch).1.f.l), .int .u64 (wclW v ch).1.next, .int .u64 (wclW v ch).1.tick], .int .i64 (wclW v ch).2]
@[go_sem] abbrev n_wclose : FuncId := 22
@[go_sem] def wclose_T : Tab := [(9, sp_wcheck), (61, sp_lclose), (80, sp_fadd), (81, sp_wown)]
theorem wclose_T_ok : TabOk Tryz.prog wclose_T := (TabOk.cons sp_wcheck_ok (TabOk.cons sp_lclose_ok (TabOk.cons sp_fadd_ok (TabOk.cons sp_wown_ok TabOk.nil))))
set_option maxRecDepth 8000 in
set_option maxHeartbeats 1000000 in
theorem wclose_ok (v : Wl) (ch : Nat) (h : v.f.next ≤ 18446744073709551615) : PureFn Tryz.prog 22 [.agg [.sl (chs v.c), .sl (wts v.w), .sl (ivs v.i), .sl (pys v.p), .c (.int .u64 (v.f.next : Int)), .sl (evs v.f.l), .c (.int .u64 (v.next : Int)), .c (.int .u64 (v.tick : Int))], .c (.int .u64 (ch : Int))] (wclose_r v ch) := by
  refine .of (ac22 wclose_T_ok (Nat.le_of_ble_eq_true rfl) ?_)
  simp -implicitDefEqProofs only [cdA, go_sem, Go.Proofs.Tryz.f22, reduceIte, List.cons.injEq, cdB]
  refine ac33 wclose_T_ok (Nat.le_of_ble_eq_true rfl) ?_
  simp -implicitDefEqProofs only [cdA, go_sem, Go.Proofs.Tryz.f33, reduceIte, List.cons.injEq, cdB]
  refine ADraw.run us33_1 wclose_T_ok follows_mixed (by kernel_rfl) (by kernel_rfl) ?_
  simp -implicitDefEqProofs only [cdA, go_sem, reduceIte, List.cons.injEq, cdB]
  refine ⟨h, ?_⟩
  have hbad : ∀ e : Int, wclE v ch = e → ¬ e = 0 → (chs (wclW v ch).1.c = [] ∧ wts (wclW v ch).1.w = [] ∧ ivs (wclW v ch).1.i = [] ∧ pys (wclW v ch).1.p = [] ∧ 0 = ((wclW v ch).1.f.next : Int) ∧ evs (wclW v ch).1.f.l = [] ∧ 0 = ((wclW v ch).1.next : Int) ∧ 0 = ((wclW v ch).1.tick : Int)) ∧ e = (wclW v ch).2 := fun e h1 h2 => by
    have : wclW v ch = (zeroW, e) := by rw [wclW, if_neg (by rw [h1]; exact h2), h1]
    rw [this]; exact ⟨⟨rfl, rfl, rfl, rfl, rfl, rfl, rfl, rfl⟩, rfl⟩
  by_cases hok : okW v
  rotate_left 1
  · have hck : (chkW v = 0) = False := eq_false fun h => hok (chkW_0.1 h)
    have he : wclE v ch = 1 := by rw [wclE, if_pos hok]
    have hc1 : chkW v = 1 := by rw [chkW, if_neg hok]
    skip
    refine ac34 wclose_T_ok (Nat.le_of_ble_eq_true rfl) ?_
    simp -implicitDefEqProofs only [cdA, go_sem, Go.Proofs.Tryz.f34, hck, cdN, reduceIte, List.cons.injEq, cdB]
    refine ac37 wclose_T_ok (Nat.le_of_ble_eq_true rfl) ?_
    simp -implicitDefEqProofs only [cdA, go_sem, Go.Proofs.Tryz.f37, reduceIte, List.cons.injEq, cdB]
    refine ac78 wclose_T_ok (Nat.le_of_ble_eq_true rfl) ?_
    simp -implicitDefEqProofs only [cdA, go_sem, Go.Proofs.Tryz.f78, hck, cdN, reduceIte, List.cons.injEq, cdB]
    refine ac38 wclose_T_ok (Nat.le_of_ble_eq_true rfl) ?_
    simp -implicitDefEqProofs only [cdA, go_sem, Go.Proofs.Tryz.f38, hck, cdN, reduceIte, List.cons.injEq, cdB]
    refine ADraw.run us38_2 wclose_T_ok follows_mixed (by kernel_rfl) (by kernel_rfl) ?_
    simp -implicitDefEqProofs only [cdA, go_sem, hck, cdN, reduceIte, List.cons.injEq, cdB]
    exact hbad _ (he.trans hc1.symm) (by rw [hc1]; decide)
  have hck : (chkW v = 0) = True := eq_true (chkW_0.2 hok)
  refine ac34 wclose_T_ok (Nat.le_of_ble_eq_true rfl) ?_
  simp -implicitDefEqProofs only [cdA, go_sem, Go.Proofs.Tryz.f34, hck, cdN, reduceIte, List.cons.injEq, cdB]
  refine ac60 wclose_T_ok (Nat.le_of_ble_eq_true rfl) ?_
  simp -implicitDefEqProofs only [cdA, go_sem, Go.Proofs.Tryz.f60, reduceIte, List.cons.injEq, cdB]
  have eC : lclL v.c ch = wclC v ch := rfl
  rw [eC]
  refine ⟨fun hs0 => ?_, fun hs0 => ?_⟩
  rotate_left 1
  · skip
    refine ac37 wclose_T_ok (Nat.le_of_ble_eq_true rfl) ?_
    simp -implicitDefEqProofs only [cdA, go_sem, Go.Proofs.Tryz.f37, reduceIte, List.cons.injEq, cdB]
    refine ac78 wclose_T_ok (Nat.le_of_ble_eq_true rfl) ?_
    simp -implicitDefEqProofs only [cdA, go_sem, Go.Proofs.Tryz.f78, hs0, cdN, reduceIte, List.cons.injEq, cdB]
    refine ac38 wclose_T_ok (Nat.le_of_ble_eq_true rfl) ?_
    simp -implicitDefEqProofs only [cdA, go_sem, Go.Proofs.Tryz.f38, hs0, cdN, reduceIte, List.cons.injEq, cdB]
    refine ADraw.run us38_2 wclose_T_ok follows_mixed (by kernel_rfl) (by kernel_rfl) ?_
    simp -implicitDefEqProofs only [cdA, go_sem, hs0, cdN, reduceIte, List.cons.injEq, cdB]
    exact hbad _ (by rw [wclE, if_neg (fun h => h hok), if_pos hs0]) hs0
  refine ac37 wclose_T_ok (Nat.le_of_ble_eq_true rfl) ?_
  simp -implicitDefEqProofs only [cdA, go_sem, Go.Proofs.Tryz.f37, reduceIte, List.cons.injEq, cdB]
  refine ac78 wclose_T_ok (Nat.le_of_ble_eq_true rfl) ?_
  simp -implicitDefEqProofs only [cdA, go_sem, Go.Proofs.Tryz.f78, hck, cdN, reduceIte, List.cons.injEq, cdB]
  refine ac79 wclose_T_ok (Nat.le_of_ble_eq_true rfl) ?_
  simp -implicitDefEqProofs only [cdA, go_sem, Go.Proofs.Tryz.f79, reduceIte, List.cons.injEq, cdB]
  have eF : addF v.f 7 ch 0 = wclF v ch := rfl
  rw [eF]
  refine ⟨h, fun hfd => ?_, fun hfd => ?_⟩
  rotate_left 1
  · skip
    refine ac38 wclose_T_ok (Nat.le_of_ble_eq_true rfl) ?_
    simp -implicitDefEqProofs only [cdA, go_sem, Go.Proofs.Tryz.f38, hfd, cdN, reduceIte, List.cons.injEq, cdB]
    refine ADraw.run us38_2 wclose_T_ok follows_mixed (by kernel_rfl) (by kernel_rfl) ?_
    simp -implicitDefEqProofs only [cdA, go_sem, hfd, cdN, reduceIte, List.cons.injEq, cdB]
    exact hbad _ (by rw [wclE, if_neg (fun h => h hok), if_neg (fun h => h hs0)]) hfd
  have hsm : smallW ⟨(wclC v ch).1, v.w, v.i, v.p, (wclF v ch).1, v.next, v.tick⟩ := by
    have h2 := small_ok hok
    have h50 := lcl_fine hs0
    exact ⟨(by have := h50.1; show (wclC v ch).1.length ≤ _; unfold wclC; (try dsimp only); omega), (fun d hd => by have := (h50.2.1 d hd).2.2.1; omega), h2.2.2.1, h2.2.2.2.1, h2.2.2.2.2.1, (by show (wclF v ch).1.l.length ≤ _; unfold wclF; exact Nat.le_trans add_len (by decide))⟩
  have hfin : wclW v ch = (⟨(wclC v ch).1, v.w, v.i, v.p, (wclF v ch).1, v.next, v.tick⟩, 0) := by
    have : wclE v ch = 0 := by rw [wclE, if_neg (fun h => h hok), if_neg (fun h => h hs0)]; exact hfd
    rw [wclW, if_pos this]
  refine ac38 wclose_T_ok (Nat.le_of_ble_eq_true rfl) ?_
  simp -implicitDefEqProofs only [cdA, go_sem, Go.Proofs.Tryz.f38, hck, eq_true hsm, cdN, reduceIte, List.cons.injEq, cdB]
  rw [hfin]
  exact ⟨⟨rfl, rfl, rfl, rfl, rfl, rfl, rfl, rfl⟩, rfl⟩
@[go_sem] def wclose_p (v : Wl) (ch : Nat) : Prop := (v.f.next ≤ 18446744073709551615)
def sp_wclose : List D → Option (Prop × D × Fr)
  | [.agg [.c (.sl z429), .c (.sl z430), .c (.sl z431), .c (.sl z432), .c (.int .u64 z434), .c (.sl z435), .c (.int .u64 z436), .c (.int .u64 z437)], .c (.int .u64 z438)] => some (z429 = chs (dchs z429) ∧ z430 = wts (dwts z430) ∧ z431 = ivs (divs z431) ∧ z432 = pys (dpys z432) ∧ z434 = (z434.toNat : Int) ∧ z435 = evs (devs z435) ∧ z436 = (z436.toNat : Int) ∧ z437 = (z437.toNat : Int) ∧ z438 = (z438.toNat : Int) ∧ wclose_p (⟨(dchs z429), (dwts z430), (divs z431), (dpys z432), (⟨z434.toNat, (devs z435)⟩ : Fd), z436.toNat, z437.toNat⟩ : Wl) z438.toNat, wclose_r (⟨(dchs z429), (dwts z430), (divs z431), (dpys z432), (⟨z434.toNat, (devs z435)⟩ : Fd), z436.toNat, z437.toNat⟩ : Wl) z438.toNat, [])
  | _ => none
attribute [go_sem] sp_wclose
theorem sp_wclose_ok : ∀ rs p r fr, sp_wclose rs = some (p, r, fr) → p → FnOk Tryz.prog 22 rs r fr := by
  intro rs p r fr h hp
  unfold sp_wclose at h
  split at h <;> cases h
  obtain ⟨hc0, hc1, hc2, hc3, hc4, hc5, hc6, hc7, hc8, hp⟩ := hp
  rename_i z429 z430 z431 z432 z434 z435 z436 z437 z438
  obtain ⟨z429, rfl⟩ : ∃ m, z429 = chs m := ⟨_, hc0⟩
  obtain ⟨z430, rfl⟩ : ∃ m, z430 = wts m := ⟨_, hc1⟩
  obtain ⟨z431, rfl⟩ : ∃ m, z431 = ivs m := ⟨_, hc2⟩
  obtain ⟨z432, rfl⟩ : ∃ m, z432 = pys m := ⟨_, hc3⟩
  obtain ⟨z434, rfl⟩ : ∃ m : Nat, z434 = m := ⟨_, hc4⟩
  obtain ⟨z435, rfl⟩ : ∃ m, z435 = evs m := ⟨_, hc5⟩
  obtain ⟨z436, rfl⟩ : ∃ m : Nat, z436 = m := ⟨_, hc6⟩
  obtain ⟨z437, rfl⟩ : ∃ m : Nat, z437 = m := ⟨_, hc7⟩
  obtain ⟨z438, rfl⟩ : ∃ m : Nat, z438 = m := ⟨_, hc8⟩
  simp only [Int.toNat_natCast, dchs_chs, devs_evs, divs_ivs, dpys_pys, dwts_wts]
  simp only [Int.toNat_natCast, dchs_chs, devs_evs, divs_ivs, dpys_pys, dwts_wts, wclose_p] at hp
  exact wclose_ok ⟨z429, z430, z431, z432, ⟨z434, z435⟩, z436, z437⟩ z438 hp
end Dm
namespace Dm
open Go Go.Proofs Go.IntWalk
theorem i13_0 : ((13 : Int) = 0) = False := eq_false (by decide)
def wlaE (v : Wl) (t : Nat) : Int := if ¬ okW v then 1 else if t < v.tick then 13 else 0
def wlaW (v : Wl) (t : Nat) : Wl × Int := if wlaE v t = 0 then ({ v with i := (sweepI v.i t).1, tick := t }, 0) else (zeroW, wlaE v t)
@[go_sem] def wlater_r (v : Wl) (t : Nat) : D := .tup [.agg [.sl (chs (wlaW v t).1.c), .sl (wts (wlaW v t).1.w), .sl (ivs (wlaW v t).1.i), .sl (pys (wlaW v t).1.p), .int .u64 (wlaW v t).1.f.next, .sl (evs (wlaW v t).1.f.l), .int .u64 (wlaW v t).1.next, .int .u64 (wlaW v t).1.tick], .int .i64 (wlaW v t).2]
@[go_sem] abbrev n_wlater : FuncId := 24
@[go_sem] def wlater_T : Tab := [(9, sp_wcheck), (63, sp_isweep), (81, sp_wown)]
theorem wlater_T_ok : TabOk Tryz.prog wlater_T := (TabOk.cons sp_wcheck_ok (TabOk.cons sp_isweep_ok (TabOk.cons sp_wown_ok TabOk.nil)))
set_option maxRecDepth 8000 in
set_option maxHeartbeats 1000000 in
theorem wlater_ok (v : Wl) (t : Nat) (h : v.f.next ≤ 18446744073709551615) : PureFn Tryz.prog 24 [.agg [.sl (chs v.c), .sl (wts v.w), .sl (ivs v.i), .sl (pys v.p), .c (.int .u64 (v.f.next : Int)), .sl (evs v.f.l), .c (.int .u64 (v.next : Int)), .c (.int .u64 (v.tick : Int))], .c (.int .u64 (t : Int))] (wlater_r v t) := by
  refine .of (ac24 wlater_T_ok (Nat.le_of_ble_eq_true rfl) ?_)
  simp -implicitDefEqProofs only [cdA, go_sem, Go.Proofs.Tryz.f24, reduceIte, List.cons.injEq, cdB]
  refine ac33 wlater_T_ok (Nat.le_of_ble_eq_true rfl) ?_
  simp -implicitDefEqProofs only [cdA, go_sem, Go.Proofs.Tryz.f33, reduceIte, List.cons.injEq, cdB]
  refine ADraw.run us33_1 wlater_T_ok follows_mixed (by kernel_rfl) (by kernel_rfl) ?_
  simp -implicitDefEqProofs only [cdA, go_sem, reduceIte, List.cons.injEq, cdB]
  refine ⟨h, ?_⟩
  have hbad : ∀ e : Int, wlaE v t = e → ¬ e = 0 → (chs (wlaW v t).1.c = [] ∧ wts (wlaW v t).1.w = [] ∧ ivs (wlaW v t).1.i = [] ∧ pys (wlaW v t).1.p = [] ∧ 0 = ((wlaW v t).1.f.next : Int) ∧ evs (wlaW v t).1.f.l = [] ∧ 0 = ((wlaW v t).1.next : Int) ∧ 0 = ((wlaW v t).1.tick : Int)) ∧ e = (wlaW v t).2 := fun e h1 h2 => by
    have : wlaW v t = (zeroW, e) := by rw [wlaW, if_neg (by rw [h1]; exact h2), h1]
    rw [this]; exact ⟨⟨rfl, rfl, rfl, rfl, rfl, rfl, rfl, rfl⟩, rfl⟩
  by_cases hok : okW v
  rotate_left 1
  · have hc1 : chkW v = 1 := by rw [chkW, if_neg hok]
    rw [hc1]
    refine ac39 wlater_T_ok (Nat.le_of_ble_eq_true rfl) ?_
    simp -implicitDefEqProofs only [cdA, go_sem, Go.Proofs.Tryz.f39, i1_0, cdN, reduceIte, List.cons.injEq, cdB]
    refine ac51 wlater_T_ok (Nat.le_of_ble_eq_true rfl) ?_
    simp -implicitDefEqProofs only [cdA, go_sem, Go.Proofs.Tryz.f51, i1_0, cdN, reduceIte, List.cons.injEq, cdB]
    refine ac38 wlater_T_ok (Nat.le_of_ble_eq_true rfl) ?_
    simp -implicitDefEqProofs only [cdA, go_sem, Go.Proofs.Tryz.f38, i1_0, cdN, reduceIte, List.cons.injEq, cdB]
    refine ADraw.run us38_2 wlater_T_ok follows_mixed (by kernel_rfl) (by kernel_rfl) ?_
    simp -implicitDefEqProofs only [cdA, go_sem, i1_0, cdN, reduceIte, List.cons.injEq, cdB]
    exact hbad 1 (by rw [wlaE, if_pos hok]) (by decide)
  have hck : chkW v = 0 := chkW_0.2 hok
  rw [hck]
  by_cases hl : v.tick ≤ t
  rotate_left 1
  · have hl' : ((v.tick : Int) ≤ t) = False := eq_false (by omega)
    refine ac39 wlater_T_ok (Nat.le_of_ble_eq_true rfl) ?_
    simp -implicitDefEqProofs only [cdA, go_sem, Go.Proofs.Tryz.f39, hl', decide_false, cdN, reduceIte, List.cons.injEq, cdB]
    refine ac51 wlater_T_ok (Nat.le_of_ble_eq_true rfl) ?_
    simp -implicitDefEqProofs only [cdA, go_sem, Go.Proofs.Tryz.f51, i13_0, cdN, reduceIte, List.cons.injEq, cdB]
    refine ac38 wlater_T_ok (Nat.le_of_ble_eq_true rfl) ?_
    simp -implicitDefEqProofs only [cdA, go_sem, Go.Proofs.Tryz.f38, i13_0, cdN, reduceIte, List.cons.injEq, cdB]
    refine ADraw.run us38_2 wlater_T_ok follows_mixed (by kernel_rfl) (by kernel_rfl) ?_
    simp -implicitDefEqProofs only [cdA, go_sem, i13_0, cdN, reduceIte, List.cons.injEq, cdB]
    exact hbad 13 (by rw [wlaE, if_neg (fun h => h hok), if_pos (by omega)]) (by decide)
  have hl' : ((v.tick : Int) ≤ t) = True := eq_true (by omega)
  have hsw : (sweepI v.i t).2 = 0 := by rw [sweepI, if_pos hok.2.1]
  refine ac39 wlater_T_ok (Nat.le_of_ble_eq_true rfl) ?_
  simp -implicitDefEqProofs only [cdA, go_sem, Go.Proofs.Tryz.f39, hl', decide_true, cdN, reduceIte, List.cons.injEq, cdB]
  refine ac51 wlater_T_ok (Nat.le_of_ble_eq_true rfl) ?_
  simp -implicitDefEqProofs only [cdA, go_sem, Go.Proofs.Tryz.f51, hsw, cdN, reduceIte, List.cons.injEq, cdB]
  refine ac62 wlater_T_ok (Nat.le_of_ble_eq_true rfl) ?_
  simp -implicitDefEqProofs only [cdA, go_sem, Go.Proofs.Tryz.f62, hsw, cdN, reduceIte, List.cons.injEq, cdB]
  have hsm : smallW ⟨v.c, v.w, (sweepI v.i t).1, v.p, v.f, v.next, t⟩ := by
    have h2 := small_ok hok
    have h3 := (sweep_ok hsw).2.1.1
    exact ⟨h2.1, h2.2.1, h2.2.2.1, by show (sweepI v.i t).1.length ≤ _; omega, h2.2.2.2.2.1, h2.2.2.2.2.2⟩
  have hfin : wlaW v t = (⟨v.c, v.w, (sweepI v.i t).1, v.p, v.f, v.next, t⟩, 0) := by
    have : wlaE v t = 0 := by rw [wlaE, if_neg (fun h => h hok), if_neg (by omega)]
    rw [wlaW, if_pos this]
  refine ac38 wlater_T_ok (Nat.le_of_ble_eq_true rfl) ?_
  simp -implicitDefEqProofs only [cdA, go_sem, Go.Proofs.Tryz.f38, eq_true hsm, cdN, reduceIte, List.cons.injEq, cdB]
  rw [hfin]
  exact ⟨⟨rfl, rfl, rfl, rfl, rfl, rfl, rfl, rfl⟩, rfl⟩
@[go_sem] def wlater_p (v : Wl) (t : Nat) : Prop := (v.f.next ≤ 18446744073709551615)
def sp_wlater : List D → Option (Prop × D × Fr)
  | [.agg [.c (.sl z440), .c (.sl z441), .c (.sl z442), .c (.sl z443), .c (.int .u64 z445), .c (.sl z446), .c (.int .u64 z447), .c (.int .u64 z448)], .c (.int .u64 z449)] => some (z440 = chs (dchs z440) ∧ z441 = wts (dwts z441) ∧ z442 = ivs (divs z442) ∧ z443 = pys (dpys z443) ∧ z445 = (z445.toNat : Int) ∧ z446 = evs (devs z446) ∧ z447 = (z447.toNat : Int) ∧ z448 = (z448.toNat : Int) ∧ z449 = (z449.toNat : Int) ∧ wlater_p (⟨(dchs z440), (dwts z441), (divs z442), (dpys z443), (⟨z445.toNat, (devs z446)⟩ : Fd), z447.toNat, z448.toNat⟩ : Wl) z449.toNat, wlater_r (⟨(dchs z440), (dwts z441), (divs z442), (dpys z443), (⟨z445.toNat, (devs z446)⟩ : Fd), z447.toNat, z448.toNat⟩ : Wl) z449.toNat, [])
  | _ => none
attribute [go_sem] sp_wlater
theorem sp_wlater_ok : ∀ rs p r fr, sp_wlater rs = some (p, r, fr) → p → FnOk Tryz.prog 24 rs r fr := by
  intro rs p r fr h hp
  unfold sp_wlater at h
  split at h <;> cases h
  obtain ⟨hc0, hc1, hc2, hc3, hc4, hc5, hc6, hc7, hc8, hp⟩ := hp
  rename_i z440 z441 z442 z443 z445 z446 z447 z448 z449
  obtain ⟨z440, rfl⟩ : ∃ m, z440 = chs m := ⟨_, hc0⟩
  obtain ⟨z441, rfl⟩ : ∃ m, z441 = wts m := ⟨_, hc1⟩
  obtain ⟨z442, rfl⟩ : ∃ m, z442 = ivs m := ⟨_, hc2⟩
  obtain ⟨z443, rfl⟩ : ∃ m, z443 = pys m := ⟨_, hc3⟩
  obtain ⟨z445, rfl⟩ : ∃ m : Nat, z445 = m := ⟨_, hc4⟩
  obtain ⟨z446, rfl⟩ : ∃ m, z446 = evs m := ⟨_, hc5⟩
  obtain ⟨z447, rfl⟩ : ∃ m : Nat, z447 = m := ⟨_, hc6⟩
  obtain ⟨z448, rfl⟩ : ∃ m : Nat, z448 = m := ⟨_, hc7⟩
  obtain ⟨z449, rfl⟩ : ∃ m : Nat, z449 = m := ⟨_, hc8⟩
  simp only [Int.toNat_natCast, dchs_chs, devs_evs, divs_ivs, dpys_pys, dwts_wts]
  simp only [Int.toNat_natCast, dchs_chs, devs_evs, divs_ivs, dpys_pys, dwts_wts, wlater_p] at hp
  exact wlater_ok ⟨z440, z441, z442, z443, ⟨z445, z446⟩, z447, z448⟩ z449 hp
end Dm
namespace Dm
open Go Go.Proofs Go.IntWalk
theorem okW_i {v : Wl} {l : List Iv} {f : Fd} (h : okW v) (hl : okIv l) (hf : okFd f) : okW { v with i := l, f := f } := ⟨h.1, hl, hf, h.2.2.2⟩
theorem agr_hl {p : List Py} {c d : List Ch} (h : agrL p c = (true, 0)) (hd : okLd d) (e : hlL d = hlL c) : agrL p d = (true, 0) := by
  obtain ⟨a1, a2, a3, a4, a5⟩ := agr_parts.1 h
  exact agr_parts.2 ⟨a1, hd.1, okLd_ids hd, by rw [e]; exact a4, by rw [e]; exact a5⟩
theorem okW_c {v : Wl} {l : List Ch} (h : okW v) (hl : okLd l) (e : hlL l = hlL v.c) : okW { v with c := l } :=
  ⟨hl, h.2.1, h.2.2.1, h.2.2.2.1, h.2.2.2.2.1, h.2.2.2.2.2.1, h.2.2.2.2.2.2.1, agr_hl h.2.2.2.2.2.2.2 hl e⟩
theorem wreW_e {v : Wl} {hash n ch : Nat} : (wreW v hash n ch).2 = wreE v hash n ch := by
  unfold wreW
  split
  · rename_i h; exact h.symm
  · rfl
theorem wcaW_e {v : Wl} {hash : Nat} : (wcaW v hash).2 = wcaE v hash := by
  unfold wcaW
  split
  · rename_i h; exact h.symm
  · rfl
theorem wclW_e {v : Wl} {ch : Nat} : (wclW v ch).2 = wclE v ch := by
  unfold wclW
  split
  · rename_i h; exact h.symm
  · rfl
theorem wlaW_e {v : Wl} {t : Nat} : (wlaW v t).2 = wlaE v t := by
  unfold wlaW
  split
  · rename_i h; exact h.symm
  · rfl
theorem receive_all {v : Wl} {hash n ch : Nat} (h : (wreW v hash n ch).2 = 0) : okW v ∧ okW (wreW v hash n ch).1 ∧ (iendL v.i hash v.tick n 2).2 = 0 ∧ (lpuL v.c ch n).2 = 0 ∧ (addF v.f 5 hash n).2.2 = 0 ∧
    (wreW v hash n ch).1 = ⟨(lpuL v.c ch n).1, v.w, (iendL v.i hash v.tick n 2).1, v.p, (addF v.f 5 hash n).1, v.next, v.tick⟩ := by
  rw [wreW_e] at h
  have e : (wreW v hash n ch).1 = ⟨(lpuL v.c ch n).1, v.w, (iendL v.i hash v.tick n 2).1, v.p, (addF v.f 5 hash n).1, v.next, v.tick⟩ := by rw [wreW, if_pos h]; rfl
  unfold wreE at h
  split at h
  · cases h
  rename_i h1
  split at h
  · rename_i h2; exact absurd h h2
  rename_i h2
  split at h
  · rename_i h3; exact absurd h h3
  rename_i h3
  have hok : okW v := Decidable.byContradiction h1
  have hI : (iendL v.i hash v.tick n 2).2 = 0 := Decidable.byContradiction h2
  have hC : (lpuL v.c ch n).2 = 0 := Decidable.byContradiction h3
  obtain ⟨-, i1, -⟩ := iend_all hI (by decide)
  obtain ⟨-, _, -, -, -, -, c1, c2⟩ := lpu_all hC
  rw [e]
  exact ⟨hok, okW_i (okW_c hok c1 c2) i1 (addF_ok h), hI, hC, h, rfl⟩
theorem cancel_all {v : Wl} {hash : Nat} (h : (wcaW v hash).2 = 0) : okW v ∧ okW (wcaW v hash).1 ∧ (iendL v.i hash v.tick MM 3).2 = 0 ∧ (addF v.f 4 hash 0).2.2 = 0 ∧
    (wcaW v hash).1 = ⟨v.c, v.w, (iendL v.i hash v.tick MM 3).1, v.p, (addF v.f 4 hash 0).1, v.next, v.tick⟩ := by
  rw [wcaW_e] at h
  have e : (wcaW v hash).1 = ⟨v.c, v.w, (iendL v.i hash v.tick MM 3).1, v.p, (addF v.f 4 hash 0).1, v.next, v.tick⟩ := by rw [wcaW, if_pos h]; rfl
  unfold wcaE at h
  split at h
  · cases h
  rename_i h1
  split at h
  · rename_i h2; exact absurd h h2
  rename_i h2
  have hok : okW v := Decidable.byContradiction h1
  have hI : (iendL v.i hash v.tick MM 3).2 = 0 := Decidable.byContradiction h2
  obtain ⟨-, i1, -⟩ := iend_all hI (by decide)
  rw [e]
  exact ⟨hok, okW_i hok i1 (addF_ok h), hI, h, rfl⟩
theorem close_all {v : Wl} {ch : Nat} (h : (wclW v ch).2 = 0) : okW v ∧ okW (wclW v ch).1 ∧ (lclL v.c ch).2 = 0 ∧ (addF v.f 7 ch 0).2.2 = 0 ∧
    (wclW v ch).1 = ⟨(lclL v.c ch).1, v.w, v.i, v.p, (addF v.f 7 ch 0).1, v.next, v.tick⟩ := by
  rw [wclW_e] at h
  have e : (wclW v ch).1 = ⟨(lclL v.c ch).1, v.w, v.i, v.p, (addF v.f 7 ch 0).1, v.next, v.tick⟩ := by rw [wclW, if_pos h]; rfl
  unfold wclE at h
  split at h
  · cases h
  rename_i h1
  split at h
  · rename_i h2; exact absurd h h2
  rename_i h2
  have hok : okW v := Decidable.byContradiction h1
  have hC : (lclL v.c ch).2 = 0 := Decidable.byContradiction h2
  obtain ⟨-, _, -, -, -, -, c1, c2⟩ := lcl_all hC
  rw [e]
  exact ⟨hok, okW_i (okW_c hok c1 c2) hok.2.1 (addF_ok h), hC, h, rfl⟩
theorem later_all {v : Wl} {t : Nat} (h : (wlaW v t).2 = 0) : okW v ∧ okW (wlaW v t).1 ∧ v.tick ≤ t ∧ (wlaW v t).1 = { v with i := v.i.filter fun x => !overI t x, tick := t } := by
  rw [wlaW_e] at h
  have e : (wlaW v t).1 = { v with i := (sweepI v.i t).1, tick := t } := by rw [wlaW, if_pos h]
  unfold wlaE at h
  split at h
  · cases h
  rename_i h1
  split at h
  · cases h
  rename_i h2
  have hok : okW v := Decidable.byContradiction h1
  obtain ⟨-, s1, s2⟩ := sweep_ok (l := v.i) (tick := t) (by rw [sweepI, if_pos hok.2.1])
  rw [e, s2]
  rw [s2] at s1
  exact ⟨hok, ⟨hok.1, s1, hok.2.2⟩, by omega, rfl⟩
end Dm
namespace Dm
open Go Go.Proofs Go.IntWalk
@[go_sem] def iins_T2 : Tab := [ovk 132]
theorem iins_T2_ok : TabOk Tryz.prog iins_T2 := .cons (ov_ok 132) .nil
@[go_sem] def iins_T3 : Tab := [fg 12]
theorem iins_T3_ok : TabOk Tryz.prog iins_T3 := .cons (fg_ok 12) .nil
theorem iins_wide (l : List Iv) : Wide 4 (ivs l) := of_eq_true (ivs_wide l)
set_option maxRecDepth 8000 in
set_option maxHeartbeats 1000000 in
theorem iins_ok (l : List Iv) (x : Iv) (i : Nat) (hi : i ≤ l.length) (hl : l.length ≤ 1000000) :
    ACall Tryz.prog 98 [.vec 0 l.length, .int .i64 i, .vec 1 1] [(1, .vec true 4 117 (ivs [x])), (0, .vec true 4 117 (ivs l))] 2 fun d os _ => Grown 4 117 (ivs (Srt.ins l i x)) d os := by
  have hil : (Srt.ins l i x).length = l.length + 1 := Srt.ins_len
  have hq : ∀ j os, lk j os = some (.vec true 4 117 (ivs (Srt.ins l i x))) → Grown 4 117 (ivs (Srt.ins l i x)) (.vec j (l.length + 1)) os := fun j os h => ⟨j, by rw [ivs_length, hil], h⟩
  by_cases hin : i = l.length
  · refine ac98 iins_T3_ok (Nat.le_of_ble_eq_true rfl) ?_
    have e4 : ((1 : Int) = 0) = False := eq_false (by decide)
    subst hin
    simp -implicitDefEqProofs only [cdA, go_sem, Go.Proofs.Tryz.f98, e4, decide_true, reduceIte, List.cons.injEq, cdB]
    refine ⟨Int.le_refl _, fun h => h.elim, fun _ => ⟨by omega, hq _ _ ?_⟩⟩
    rw [lk_cons, if_neg (by decide), lk_hd]
    simp [Srt.ins]
  · have hlt : i < l.length := by omega
    refine ACall.opn 0 rfl (by rw [ivs_length]; omega) fun c hc hcm => ?_
    refine ACall.seal ?_
    rw [ivs_length] at hc
    refine ac98 iins_T2_ok (Nat.le_of_ble_eq_true rfl) ?_
    have e1 : IntKind.i64.wrap ((l.length : Int) + 1) = ((l.length + 1 : Nat) : Int) := by rw [i64_in _ (by omega)]; omega
    have e2 : IntKind.i64.wrap ((i : Int) + 1) = ((i + 1 : Nat) : Int) := by rw [i64_in _ (by omega)]; omega
    have e3 : ((i : Int) = (l.length : Int)) = False := eq_false (by omega)
    have e4 : ((1 : Int) = 0) = False := eq_false (by decide)
    have e5 : IntKind.i64.wrap ((l.length : Int) + 1 - (i : Int)) = ((l.length + 1 - i : Nat) : Int) := by rw [i64_in _ (by omega)]; omega
    have e6 : ((l.length : Int) + 1).toNat = l.length + 1 := by omega
    have e7 : ((i : Int) + 1).toNat = i + 1 := by omega
    have e8 : i + (l.length + 1 - i) = l.length + 1 := by omega
    simp -implicitDefEqProofs only [cdA, go_sem, Go.Proofs.Tryz.f98, e3, e4, e1, e2, e5, e6, e7, e8, decide_false, reduceIte, List.cons.injEq, cdB]
    refine ⟨by omega, fun _ => ⟨fun h1 => ⟨by omega, by omega, fun c1 h2 h3 => ⟨by omega, ?_⟩⟩, fun h1 => ⟨by omega, by omega, ?_, ?_⟩⟩⟩
    · refine ADraw.run us98_11 iins_T2_ok follows_mixed (by kernel_rfl) (by kernel_rfl) ?_
      simp -implicitDefEqProofs only [cdA, go_sem, e1, e2, e5, e6, e7, e8, reduceIte, List.cons.injEq, cdB]
      refine ⟨by omega, by omega, fun y hy => fit_wide (iins_wide l) y (List.mem_of_mem_take (List.mem_of_mem_drop hy)), ?_⟩
      have := ins_new (sz := 4) (c := c) (c1 := c1) (i := i) (E := ivs l) (x := x.enc) (z := [C.int .u64 0, C.int .u64 0, C.int .u64 0, C.int .i64 0]) (by rw [ivs_length]; exact hlt) (by rw [ivs_length]; exact hc) (by rw [ivs_length]; exact h2)
      rw [ivs_length] at this
      refine hq _ _ ?_
      rw [lk_hd]
      congr 2
      rw [show ivs (List.take (l.length + 1 - i) [x]) = List.take (l.length + 1 - i) [x.enc] by simp [ivs], this]
      simp [ivs, Srt.ins]
    · exact ⟨_, 26, 4, _, rfl, rfl, rfl, rfl, by kernel_rfl, elOf_26⟩
    · refine ADraw.run us98_15 iins_T2_ok follows_mixed (by kernel_rfl) (by kernel_rfl) ?_
      simp -implicitDefEqProofs only [cdA, go_sem, e1, e2, e5, e6, e7, e8, reduceIte, List.cons.injEq, cdB]
      refine ⟨by omega, by omega, fun y hy => fit_wide (iins_wide l) y (List.mem_of_mem_take (List.mem_of_mem_drop hy)), by omega, ?_⟩
      have := ins_old (sz := 4) (c := c) (i := i) (E := ivs l) (x := x.enc) (by rw [ivs_length]; exact hlt) (by rw [ivs_length]; omega)
      rw [ivs_length] at this
      refine hq _ _ ?_
      rw [lk_hd]
      congr 2
      rw [show ivs (List.take (l.length + 1 - i) [x]) = List.take (l.length + 1 - i) [x.enc] by simp [ivs], this]
      simp [ivs, Srt.ins]

def imkE (l : List Iv) (hash n : Nat) : Int := if ¬ okIv l ∨ n = 0 ∨ ¬ n ≤ MM then 1 else if Srt.thr Iv.hash ltN l hash = true then 6 else if l.length = 256 then 7 else 0
def imkL (l : List Iv) (hash n till : Nat) : List Iv × Int := if imkE l hash n = 0 then (Srt.ins l (Srt.pos Iv.hash ltN l hash) ⟨hash, n, till, 1⟩, 0) else ([], imkE l hash n)
@[go_sem] def imake_r (l : List Iv) (hash : Nat) (n : Nat) (till : Nat) : D := .tup [.sl (ivs (imkL l hash n till).1), .int .i64 (imkL l hash n till).2]
@[go_sem] abbrev n_imake : FuncId := 53
@[go_sem] def imake_T : Tab := [(97, sp_ifind), (68, sp_ibill), (99, sp_ivclonef)]
theorem imake_T_ok : TabOk Tryz.prog imake_T := (TabOk.cons sp_ifind_ok (TabOk.cons sp_ibill_ok (TabOk.cons sp_ivclonef_ok TabOk.nil)))
set_option maxRecDepth 8000 in
set_option maxHeartbeats 1000000 in
theorem imake_ok (l : List Iv) (hash : Nat) (n : Nat) (till : Nat)  : PureFn Tryz.prog 53 [.sl (ivs l), .c (.int .u64 (hash : Int)), .c (.int .u64 (n : Int)), .c (.int .u64 (till : Int))] (imake_r l hash n till) := by
  refine .of (ac53 imake_T_ok (Nat.le_of_ble_eq_true rfl) ?_)
  simp -implicitDefEqProofs only [cdA, go_sem, Go.Proofs.Tryz.f53, reduceIte, List.cons.injEq, cdB]
  have hbad : ∀ e, imkE l hash n = e → ¬ e = 0 → ivs (imkL l hash n till).1 = [] ∧ e = (imkL l hash n till).2 := fun e h1 h2 => by
    rw [imkL, if_neg (by rw [h1]; exact h2), h1]; exact ⟨rfl, rfl⟩
  by_cases hok : okIv l
  rotate_left 1
  · have ef : findI l hash = (0, 1) := by rw [findI, if_neg hok]
    rw [ef]
    exact ⟨fun h => absurd rfl h, fun _ => hbad 1 (by rw [imkE, if_pos (.inl hok)]) (by decide)⟩
  have ef : findI l hash = (((Srt.pos Iv.hash ltN l hash : Nat) : Int), if Srt.thr Iv.hash ltN l hash = true then 0 else 5) := by rw [findI, if_pos hok]
  have h256 := hok.1
  rw [ef]
  refine ⟨fun _ => ⟨fun h1 => ?_, fun h1 => hbad 1 (by rw [imkE, if_pos (.inr (by
    by_cases hn : n = 0
    · exact .inl hn
    · exact .inr fun h => h1 ⟨hn, h⟩))]) (by decide)⟩, fun h => by dsimp only at h; split at h <;> cases h⟩
  have hA : ¬ (¬ okIv l ∨ n = 0 ∨ ¬ n ≤ MM) := by
    rintro (h | h | h)
    · exact h hok
    · exact h1.1 h
    · exact h h1.2
  by_cases ht : Srt.thr Iv.hash ltN l hash = true
  · rw [if_pos ht]
    exact ⟨fun _ => hbad 6 (by rw [imkE, if_neg hA, if_pos ht]) (by decide), fun h => absurd rfl h⟩
  rw [if_neg ht]
  refine ⟨fun h => absurd (show (5 : Int) = 0 from h) (by decide), fun _ _ => ⟨fun h3 => hbad 7 (by rw [imkE, if_neg hA, if_neg ht, if_pos (by omega)]) (by decide), fun h3 => ⟨by omega, ?_⟩⟩⟩
  have hpos : Srt.pos Iv.hash ltN l hash ≤ l.length := Srt.pos_le
  refine ACall.grow (mid := [.int .i64 _]) (iins_ok l ⟨hash, n, till, 1⟩ (Srt.pos Iv.hash ltN l hash) hpos (by omega)) rfl rfl (by decide) (by simp [Srt.ins_len]) (fun d hd g g' w v hv => ?_) ?_
  · simp at hd; subst hd
    cases hv with
    | c _ _ h => cases h; exact .c _ _ (.int _ _)
  · simp -implicitDefEqProofs only [cdA, go_sem, reduceIte, List.cons.injEq, cdB]
    rw [imkL, if_pos (by rw [imkE, if_neg hA, if_neg ht, if_neg (by omega)])]
    exact ⟨⟨rfl, _, _, _, rfl⟩, rfl⟩
def sp_imake : List D → Option (Prop × D × Fr)
  | [.c (.sl z450), .c (.int .u64 z451), .c (.int .u64 z452), .c (.int .u64 z453)] => some (z450 = ivs (divs z450) ∧ z451 = (z451.toNat : Int) ∧ z452 = (z452.toNat : Int) ∧ z453 = (z453.toNat : Int), imake_r (divs z450) z451.toNat z452.toNat z453.toNat, [])
  | _ => none
attribute [go_sem] sp_imake
theorem sp_imake_ok : ∀ rs p r fr, sp_imake rs = some (p, r, fr) → p → FnOk Tryz.prog 53 rs r fr := by
  intro rs p r fr h hp
  unfold sp_imake at h
  split at h <;> cases h
  obtain ⟨hc0, hc1, hc2, hc3⟩ := hp
  rename_i z450 z451 z452 z453
  obtain ⟨z450, rfl⟩ : ∃ m, z450 = ivs m := ⟨_, hc0⟩
  obtain ⟨z451, rfl⟩ : ∃ m : Nat, z451 = m := ⟨_, hc1⟩
  obtain ⟨z452, rfl⟩ : ∃ m : Nat, z452 = m := ⟨_, hc2⟩
  obtain ⟨z453, rfl⟩ : ∃ m : Nat, z453 = m := ⟨_, hc3⟩
  simp only [Int.toNat_natCast, divs_ivs]
  exact imake_ok z450 z451 z452 z453
theorem imk_2 {l : List Iv} {hash n till : Nat} : (imkL l hash n till).2 = imkE l hash n := by
  unfold imkL
  split
  · rename_i h; exact h.symm
  · rfl
theorem imk_all {l : List Iv} {hash n till : Nat} (h : (imkL l hash n till).2 = 0) : okIv l ∧ okIv (imkL l hash n till).1 := by
  rw [imk_2] at h
  have e : (imkL l hash n till).1 = Srt.ins l (Srt.pos Iv.hash ltN l hash) ⟨hash, n, till, 1⟩ := by rw [imkL, if_pos h]
  rw [e]
  unfold imkE at h
  split at h
  · cases h
  rename_i h1
  split at h
  · cases h
  rename_i h2
  split at h
  · cases h
  rename_i h3
  have hok : okIv l := Decidable.byContradiction fun hn => h1 (.inl hn)
  have hl := hok.1
  refine ⟨hok, ⟨by rw [Srt.ins_len]; omega, fun x hx => ?_, ?_⟩⟩
  · rcases List.mem_cons.1 (Srt.ins_perm.mem_iff.1 hx) with rfl | hx
    · exact ⟨⟨fun h => h1 (.inr (.inl h)), Decidable.byContradiction fun h => h1 (.inr (.inr h))⟩, show (1 : Int) ≤ 1 by decide, show (1 : Int) ≤ 3 by decide⟩
    · exact hok.2.1 x hx
  · exact (Srt.chn_up (lt := ltN) Srt.totNat).2 (Srt.ins_up (key := Iv.hash) (x := ⟨hash, n, till, 1⟩) Srt.totNat ((Srt.chn_up (lt := ltN) Srt.totNat).1 hok.2.2) h2)
theorem imk_len {l : List Iv} {hash n till : Nat} (h : (imkL l hash n till).2 = 0) : (imkL l hash n till).1.length ≤ 256 := (imk_all h).2.1
end Dm
namespace Dm
open Go Go.Proofs Go.IntWalk
def wmkI (v : Wl) (hash : Nat) (n : Nat) (till : Nat) : List Iv × Int := imkL v.i hash n till
def wmkF (v : Wl) (hash : Nat) (n : Nat) (till : Nat) : Fd × Nat × Int := addF v.f 3 hash n
def wmkE (v : Wl) (hash : Nat) (n : Nat) (till : Nat) : Int := if ¬ okW v then 1 else if (wmkI v hash n till).2 ≠ 0 then (wmkI v hash n till).2 else (wmkF v hash n till).2.2
def wmkW (v : Wl) (hash : Nat) (n : Nat) (till : Nat) : Wl × Int := if wmkE v hash n till = 0 then (⟨v.c, v.w, (wmkI v hash n till).1, v.p, (wmkF v hash n till).1, v.next, v.tick⟩, 0) else (zeroW, wmkE v hash n till)
@[go_sem] def wmake_r (v : Wl) (hash : Nat) (n : Nat) (till : Nat) : D := .tup [.agg [.sl (chs (wmkW v hash n till).1.c), .sl (wts (wmkW v hash n till).1.w), .sl (ivs (wmkW v hash n till).1.i), .sl (pys (wmkW v hash n till).1.p), .int .u64 (wmkW v hash n till).1.f.next, .sl (evs (wmkW v hash n till).1.f.l), .int .u64 (wmkW v hash n till).1.next, .int .u64 (wmkW v hash n till).1.tick], .int .i64 (wmkW v hash n till).2]
@[go_sem] abbrev n_wmake : FuncId := 19
@[go_sem] def wmake_T : Tab := [(9, sp_wcheck), (53, sp_imake), (80, sp_fadd), (81, sp_wown)]
theorem wmake_T_ok : TabOk Tryz.prog wmake_T := (TabOk.cons sp_wcheck_ok (TabOk.cons sp_imake_ok (TabOk.cons sp_fadd_ok (TabOk.cons sp_wown_ok TabOk.nil))))
set_option maxRecDepth 8000 in
set_option maxHeartbeats 1000000 in
theorem wmake_ok (v : Wl) (hash : Nat) (n : Nat) (till : Nat) (h : v.f.next ≤ 18446744073709551615) : PureFn Tryz.prog 19 [.agg [.sl (chs v.c), .sl (wts v.w), .sl (ivs v.i), .sl (pys v.p), .c (.int .u64 (v.f.next : Int)), .sl (evs v.f.l), .c (.int .u64 (v.next : Int)), .c (.int .u64 (v.tick : Int))], .c (.int .u64 (hash : Int)), .c (.int .u64 (n : Int)), .c (.int .u64 (till : Int))] (wmake_r v hash n till) := by
  refine .of (ac19 wmake_T_ok (Nat.le_of_ble_eq_true rfl) ?_)
  simp -implicitDefEqProofs only [cdA, go_sem, Go.Proofs.Tryz.f19, reduceIte, List.cons.injEq, cdB]
  refine ac33 wmake_T_ok (Nat.le_of_ble_eq_true rfl) ?_
  simp -implicitDefEqProofs only [cdA, go_sem, Go.Proofs.Tryz.f33, reduceIte, List.cons.injEq, cdB]
  refine ADraw.run us33_1 wmake_T_ok follows_mixed (by kernel_rfl) (by kernel_rfl) ?_
  simp -implicitDefEqProofs only [cdA, go_sem, reduceIte, List.cons.injEq, cdB]
  refine ⟨h, ?_⟩
  have hbad : ∀ e : Int, wmkE v hash n till = e → ¬ e = 0 → (chs (wmkW v hash n till).1.c = [] ∧ wts (wmkW v hash n till).1.w = [] ∧ ivs (wmkW v hash n till).1.i = [] ∧ pys (wmkW v hash n till).1.p = [] ∧ 0 = ((wmkW v hash n till).1.f.next : Int) ∧ evs (wmkW v hash n till).1.f.l = [] ∧ 0 = ((wmkW v hash n till).1.next : Int) ∧ 0 = ((wmkW v hash n till).1.tick : Int)) ∧ e = (wmkW v hash n till).2 := fun e h1 h2 => by
    have : wmkW v hash n till = (zeroW, e) := by rw [wmkW, if_neg (by rw [h1]; exact h2), h1]
    rw [this]; exact ⟨⟨rfl, rfl, rfl, rfl, rfl, rfl, rfl, rfl⟩, rfl⟩
  by_cases hok : okW v
  rotate_left 1
  · have hck : (chkW v = 0) = False := eq_false fun h => hok (chkW_0.1 h)
    have he : wmkE v hash n till = 1 := by rw [wmkE, if_pos hok]
    have hc1 : chkW v = 1 := by rw [chkW, if_neg hok]
    skip
    refine ac51 wmake_T_ok (Nat.le_of_ble_eq_true rfl) ?_
    simp -implicitDefEqProofs only [cdA, go_sem, Go.Proofs.Tryz.f51, hck, cdN, reduceIte, List.cons.injEq, cdB]
    refine ac37 wmake_T_ok (Nat.le_of_ble_eq_true rfl) ?_
    simp -implicitDefEqProofs only [cdA, go_sem, Go.Proofs.Tryz.f37, reduceIte, List.cons.injEq, cdB]
    refine ac78 wmake_T_ok (Nat.le_of_ble_eq_true rfl) ?_
    simp -implicitDefEqProofs only [cdA, go_sem, Go.Proofs.Tryz.f78, hck, cdN, reduceIte, List.cons.injEq, cdB]
    refine ac38 wmake_T_ok (Nat.le_of_ble_eq_true rfl) ?_
    simp -implicitDefEqProofs only [cdA, go_sem, Go.Proofs.Tryz.f38, hck, cdN, reduceIte, List.cons.injEq, cdB]
    refine ADraw.run us38_2 wmake_T_ok follows_mixed (by kernel_rfl) (by kernel_rfl) ?_
    simp -implicitDefEqProofs only [cdA, go_sem, hck, cdN, reduceIte, List.cons.injEq, cdB]
    exact hbad _ (he.trans hc1.symm) (by rw [hc1]; decide)
  have hck : (chkW v = 0) = True := eq_true (chkW_0.2 hok)
  refine ac51 wmake_T_ok (Nat.le_of_ble_eq_true rfl) ?_
  simp -implicitDefEqProofs only [cdA, go_sem, Go.Proofs.Tryz.f51, hck, cdN, reduceIte, List.cons.injEq, cdB]
  refine ac52 wmake_T_ok (Nat.le_of_ble_eq_true rfl) ?_
  simp -implicitDefEqProofs only [cdA, go_sem, Go.Proofs.Tryz.f52, reduceIte, List.cons.injEq, cdB]
  have eI : imkL v.i hash n till = wmkI v hash n till := rfl
  rw [eI]
  refine ⟨fun hs0 => ?_, fun hs0 => ?_⟩
  rotate_left 1
  · skip
    refine ac37 wmake_T_ok (Nat.le_of_ble_eq_true rfl) ?_
    simp -implicitDefEqProofs only [cdA, go_sem, Go.Proofs.Tryz.f37, reduceIte, List.cons.injEq, cdB]
    refine ac78 wmake_T_ok (Nat.le_of_ble_eq_true rfl) ?_
    simp -implicitDefEqProofs only [cdA, go_sem, Go.Proofs.Tryz.f78, hs0, cdN, reduceIte, List.cons.injEq, cdB]
    refine ac38 wmake_T_ok (Nat.le_of_ble_eq_true rfl) ?_
    simp -implicitDefEqProofs only [cdA, go_sem, Go.Proofs.Tryz.f38, hs0, cdN, reduceIte, List.cons.injEq, cdB]
    refine ADraw.run us38_2 wmake_T_ok follows_mixed (by kernel_rfl) (by kernel_rfl) ?_
    simp -implicitDefEqProofs only [cdA, go_sem, hs0, cdN, reduceIte, List.cons.injEq, cdB]
    exact hbad _ (by rw [wmkE, if_neg (fun h => h hok), if_pos hs0]) hs0
  refine ac37 wmake_T_ok (Nat.le_of_ble_eq_true rfl) ?_
  simp -implicitDefEqProofs only [cdA, go_sem, Go.Proofs.Tryz.f37, reduceIte, List.cons.injEq, cdB]
  refine ac78 wmake_T_ok (Nat.le_of_ble_eq_true rfl) ?_
  simp -implicitDefEqProofs only [cdA, go_sem, Go.Proofs.Tryz.f78, hck, cdN, reduceIte, List.cons.injEq, cdB]
  refine ac79 wmake_T_ok (Nat.le_of_ble_eq_true rfl) ?_
  simp -implicitDefEqProofs only [cdA, go_sem, Go.Proofs.Tryz.f79, reduceIte, List.cons.injEq, cdB]
  have eF : addF v.f 3 hash n = wmkF v hash n till := rfl
  rw [eF]
  refine ⟨h, fun hfd => ?_, fun hfd => ?_⟩
  rotate_left 1
  · skip
    refine ac38 wmake_T_ok (Nat.le_of_ble_eq_true rfl) ?_
    simp -implicitDefEqProofs only [cdA, go_sem, Go.Proofs.Tryz.f38, hfd, cdN, reduceIte, List.cons.injEq, cdB]
    refine ADraw.run us38_2 wmake_T_ok follows_mixed (by kernel_rfl) (by kernel_rfl) ?_
    simp -implicitDefEqProofs only [cdA, go_sem, hfd, cdN, reduceIte, List.cons.injEq, cdB]
    exact hbad _ (by rw [wmkE, if_neg (fun h => h hok), if_neg (fun h => h hs0)]) hfd
  have hsm : smallW ⟨v.c, v.w, (wmkI v hash n till).1, v.p, (wmkF v hash n till).1, v.next, v.tick⟩ := by
    have h2 := small_ok hok
    have h50 := imk_len hs0
    exact ⟨h2.1, h2.2.1, h2.2.2.1, (by show (wmkI v hash n till).1.length ≤ _; unfold wmkI; omega), h2.2.2.2.2.1, (by show (wmkF v hash n till).1.l.length ≤ _; unfold wmkF; exact Nat.le_trans add_len (by decide))⟩
  have hfin : wmkW v hash n till = (⟨v.c, v.w, (wmkI v hash n till).1, v.p, (wmkF v hash n till).1, v.next, v.tick⟩, 0) := by
    have : wmkE v hash n till = 0 := by rw [wmkE, if_neg (fun h => h hok), if_neg (fun h => h hs0)]; exact hfd
    rw [wmkW, if_pos this]
  refine ac38 wmake_T_ok (Nat.le_of_ble_eq_true rfl) ?_
  simp -implicitDefEqProofs only [cdA, go_sem, Go.Proofs.Tryz.f38, hck, eq_true hsm, cdN, reduceIte, List.cons.injEq, cdB]
  rw [hfin]
  exact ⟨⟨rfl, rfl, rfl, rfl, rfl, rfl, rfl, rfl⟩, rfl⟩
@[go_sem] def wmake_p (v : Wl) (hash : Nat) (n : Nat) (till : Nat) : Prop := (v.f.next ≤ 18446744073709551615)
def sp_wmake : List D → Option (Prop × D × Fr)
  | [.agg [.c (.sl z455), .c (.sl z456), .c (.sl z457), .c (.sl z458), .c (.int .u64 z460), .c (.sl z461), .c (.int .u64 z462), .c (.int .u64 z463)], .c (.int .u64 z464), .c (.int .u64 z465), .c (.int .u64 z466)] => some (z455 = chs (dchs z455) ∧ z456 = wts (dwts z456) ∧ z457 = ivs (divs z457) ∧ z458 = pys (dpys z458) ∧ z460 = (z460.toNat : Int) ∧ z461 = evs (devs z461) ∧ z462 = (z462.toNat : Int) ∧ z463 = (z463.toNat : Int) ∧ z464 = (z464.toNat : Int) ∧ z465 = (z465.toNat : Int) ∧ z466 = (z466.toNat : Int) ∧ wmake_p (⟨(dchs z455), (dwts z456), (divs z457), (dpys z458), (⟨z460.toNat, (devs z461)⟩ : Fd), z462.toNat, z463.toNat⟩ : Wl) z464.toNat z465.toNat z466.toNat, wmake_r (⟨(dchs z455), (dwts z456), (divs z457), (dpys z458), (⟨z460.toNat, (devs z461)⟩ : Fd), z462.toNat, z463.toNat⟩ : Wl) z464.toNat z465.toNat z466.toNat, [])
  | _ => none
attribute [go_sem] sp_wmake
theorem sp_wmake_ok : ∀ rs p r fr, sp_wmake rs = some (p, r, fr) → p → FnOk Tryz.prog 19 rs r fr := by
  intro rs p r fr h hp
  unfold sp_wmake at h
  split at h <;> cases h
  obtain ⟨hc0, hc1, hc2, hc3, hc4, hc5, hc6, hc7, hc8, hc9, hc10, hp⟩ := hp
  rename_i z455 z456 z457 z458 z460 z461 z462 z463 z464 z465 z466
  obtain ⟨z455, rfl⟩ : ∃ m, z455 = chs m := ⟨_, hc0⟩
  obtain ⟨z456, rfl⟩ : ∃ m, z456 = wts m := ⟨_, hc1⟩
  obtain ⟨z457, rfl⟩ : ∃ m, z457 = ivs m := ⟨_, hc2⟩
  obtain ⟨z458, rfl⟩ : ∃ m, z458 = pys m := ⟨_, hc3⟩
  obtain ⟨z460, rfl⟩ : ∃ m : Nat, z460 = m := ⟨_, hc4⟩
  obtain ⟨z461, rfl⟩ : ∃ m, z461 = evs m := ⟨_, hc5⟩
  obtain ⟨z462, rfl⟩ : ∃ m : Nat, z462 = m := ⟨_, hc6⟩
  obtain ⟨z463, rfl⟩ : ∃ m : Nat, z463 = m := ⟨_, hc7⟩
  obtain ⟨z464, rfl⟩ : ∃ m : Nat, z464 = m := ⟨_, hc8⟩
  obtain ⟨z465, rfl⟩ : ∃ m : Nat, z465 = m := ⟨_, hc9⟩
  obtain ⟨z466, rfl⟩ : ∃ m : Nat, z466 = m := ⟨_, hc10⟩
  simp only [Int.toNat_natCast, dchs_chs, devs_evs, divs_ivs, dpys_pys, dwts_wts]
  simp only [Int.toNat_natCast, dchs_chs, devs_evs, divs_ivs, dpys_pys, dwts_wts, wmake_p] at hp
  exact wmake_ok ⟨z455, z456, z457, z458, ⟨z460, z461⟩, z462, z463⟩ z464 z465 z466 hp
end Dm
namespace Dm
open Go Go.Proofs Go.IntWalk
structure Opn where
  kind : Nat
  a : Nat
  b : Nat
  c : Nat
  tick : Nat
  paid : Bool
  chan : Ch
  w : List Wt
deriving DecidableEq, Inhabited
@[go_sem] def Opn.enc (e : Opn) : List C := [.int .u8 (e.kind : Int), .int .u64 (e.a : Int), .int .u64 (e.b : Int), .int .u64 (e.c : Int), .int .u64 (e.tick : Int), .bool e.paid, .int .u64 (e.chan.id : Int), .int .u64 (e.chan.loc : Int), .int .u64 (e.chan.rem : Int), .int .u64 (e.chan.res : Int), .int .u64 (e.chan.most : Int), .sl (hds e.chan.holds), .bool e.chan.op, .sl (wts e.w)]
def Opn.dec : List C → Opn
  | [.int .u8 z468, .int .u64 z469, .int .u64 z470, .int .u64 z471, .int .u64 z472, .bool z473, .int .u64 z475, .int .u64 z476, .int .u64 z477, .int .u64 z478, .int .u64 z479, .sl z480, .bool z481, .sl z482] => (⟨z468.toNat, z469.toNat, z470.toNat, z471.toNat, z472.toNat, z473, (⟨z475.toNat, z476.toNat, z477.toNat, z478.toNat, z479.toNat, (dhds z480), z481⟩ : Ch), (dwts z482)⟩ : Opn)
  | _ => default
def opns (l : List Opn) : List (List C) := l.map Opn.enc
def dopns (l : List (List C)) : List Opn := l.map Opn.dec
@[simp, go_sem] theorem opns_length (l : List Opn) : (opns l).length = l.length := by simp [opns]
@[go_sem] theorem opns_get (l : List Opn) (i : Nat) : (opns l).getD i [.int .u8 0, .int .u64 0, .int .u64 0, .int .u64 0, .int .u64 0, .bool false, .int .u64 0, .int .u64 0, .int .u64 0, .int .u64 0, .int .u64 0, .sl [], .bool false, .sl []] = (l.getD i default).enc := by
  simp only [opns, List.getD_eq_getElem?_getD, List.getElem?_map]
  cases l[i]? <;> rfl
@[go_sem] theorem opns_wide (l : List Opn) : Wide 14 (opns l) = True := by
  simp [Wide, opns, Opn.enc]
theorem Opn.dec_enc (e : Opn) : Opn.dec e.enc = e := by
  simp [Opn.enc, Opn.dec, dhds_hds, dwts_wts]
@[go_sem] theorem dopns_opns (l : List Opn) : dopns (opns l) = l := by
  simp only [dopns, opns, List.map_map]
  exact List.map_id'' (fun e => Opn.dec_enc e) l
@[go_sem] theorem opns_app (a b : List Opn) : opns a ++ opns b = opns (a ++ b) := by simp [opns]
@[go_sem] theorem opns_drop (l : List Opn) (k : Nat) : (opns l).drop k = opns (l.drop k) := by simp [opns]
@[go_sem] theorem opns_take (l : List Opn) (k : Nat) : (opns l).take k = opns (l.take k) := by simp [opns]
@[go_sem] theorem opns_one (z483 : Int) (z484 : Int) (z485 : Int) (z486 : Int) (z487 : Int) (z488 : Bool) (z489 : Int) (z490 : Int) (z491 : Int) (z492 : Int) (z493 : Int) (z494 : List Hd) (z495 : Bool) (z496 : List Wt) (hz483 : 0 ≤ z483) (hz484 : 0 ≤ z484) (hz485 : 0 ≤ z485) (hz486 : 0 ≤ z486) (hz487 : 0 ≤ z487) (hz489 : 0 ≤ z489) (hz490 : 0 ≤ z490) (hz491 : 0 ≤ z491) (hz492 : 0 ≤ z492) (hz493 : 0 ≤ z493) : [[C.int .u8 z483, C.int .u64 z484, C.int .u64 z485, C.int .u64 z486, C.int .u64 z487, C.bool z488, C.int .u64 z489, C.int .u64 z490, C.int .u64 z491, C.int .u64 z492, C.int .u64 z493, C.sl (hds z494), C.bool z495, C.sl (wts z496)]] = opns [⟨z483.toNat, z484.toNat, z485.toNat, z486.toNat, z487.toNat, z488, ⟨z489.toNat, z490.toNat, z491.toNat, z492.toNat, z493.toNat, z494, z495⟩, z496⟩] := by simp [opns, Opn.enc, Int.toNat_of_nonneg hz483, Int.toNat_of_nonneg hz484, Int.toNat_of_nonneg hz485, Int.toNat_of_nonneg hz486, Int.toNat_of_nonneg hz487, Int.toNat_of_nonneg hz489, Int.toNat_of_nonneg hz490, Int.toNat_of_nonneg hz491, Int.toNat_of_nonneg hz492, Int.toNat_of_nonneg hz493]
@[go_sem] theorem opns_set (l : List Opn) (i : Nat) (z483 : Int) (z484 : Int) (z485 : Int) (z486 : Int) (z487 : Int) (z488 : Bool) (z489 : Int) (z490 : Int) (z491 : Int) (z492 : Int) (z493 : Int) (z494 : List Hd) (z495 : Bool) (z496 : List Wt) (hz483 : 0 ≤ z483) (hz484 : 0 ≤ z484) (hz485 : 0 ≤ z485) (hz486 : 0 ≤ z486) (hz487 : 0 ≤ z487) (hz489 : 0 ≤ z489) (hz490 : 0 ≤ z490) (hz491 : 0 ≤ z491) (hz492 : 0 ≤ z492) (hz493 : 0 ≤ z493) : (opns l).set i [C.int .u8 z483, C.int .u64 z484, C.int .u64 z485, C.int .u64 z486, C.int .u64 z487, C.bool z488, C.int .u64 z489, C.int .u64 z490, C.int .u64 z491, C.int .u64 z492, C.int .u64 z493, C.sl (hds z494), C.bool z495, C.sl (wts z496)] = opns (l.set i ⟨z483.toNat, z484.toNat, z485.toNat, z486.toNat, z487.toNat, z488, ⟨z489.toNat, z490.toNat, z491.toNat, z492.toNat, z493.toNat, z494, z495⟩, z496⟩) := by simp [opns, List.map_set, Opn.enc, Int.toNat_of_nonneg hz483, Int.toNat_of_nonneg hz484, Int.toNat_of_nonneg hz485, Int.toNat_of_nonneg hz486, Int.toNat_of_nonneg hz487, Int.toNat_of_nonneg hz489, Int.toNat_of_nonneg hz490, Int.toNat_of_nonneg hz491, Int.toNat_of_nonneg hz492, Int.toNat_of_nonneg hz493]
@[go_sem] theorem opns_cons (l : List Opn) (z483 : Int) (z484 : Int) (z485 : Int) (z486 : Int) (z487 : Int) (z488 : Bool) (z489 : Int) (z490 : Int) (z491 : Int) (z492 : Int) (z493 : Int) (z494 : List Hd) (z495 : Bool) (z496 : List Wt) (hz483 : 0 ≤ z483) (hz484 : 0 ≤ z484) (hz485 : 0 ≤ z485) (hz486 : 0 ≤ z486) (hz487 : 0 ≤ z487) (hz489 : 0 ≤ z489) (hz490 : 0 ≤ z490) (hz491 : 0 ≤ z491) (hz492 : 0 ≤ z492) (hz493 : 0 ≤ z493) : [C.int .u8 z483, C.int .u64 z484, C.int .u64 z485, C.int .u64 z486, C.int .u64 z487, C.bool z488, C.int .u64 z489, C.int .u64 z490, C.int .u64 z491, C.int .u64 z492, C.int .u64 z493, C.sl (hds z494), C.bool z495, C.sl (wts z496)] :: opns l = opns (⟨z483.toNat, z484.toNat, z485.toNat, z486.toNat, z487.toNat, z488, ⟨z489.toNat, z490.toNat, z491.toNat, z492.toNat, z493.toNat, z494, z495⟩, z496⟩ :: l) := by simp [opns, Opn.enc, Int.toNat_of_nonneg hz483, Int.toNat_of_nonneg hz484, Int.toNat_of_nonneg hz485, Int.toNat_of_nonneg hz486, Int.toNat_of_nonneg hz487, Int.toNat_of_nonneg hz489, Int.toNat_of_nonneg hz490, Int.toNat_of_nonneg hz491, Int.toNat_of_nonneg hz492, Int.toNat_of_nonneg hz493]
@[go_sem] theorem Opn.eta {e : Opn} : (⟨e.kind, e.a, e.b, e.c, e.tick, e.paid, e.chan, e.w⟩ : Opn) = e := rfl
def doW (v : Wl) (o : Opn) : Wl × Int :=
  if o.kind % 9 = 0 ∨ o.kind % 9 = 8 then ((payW v o.a o.b).1, (payW v o.a o.b).2.2) else if o.kind % 9 = 1 then wenW v o.a o.paid else if o.kind % 9 = 2 then wmkW v o.a o.b o.tick else if o.kind % 9 = 3 then wcaW v o.a else if o.kind % 9 = 4 then wreW v o.a o.b o.c else if o.kind % 9 = 5 then wopW v o.chan else if o.kind % 9 = 6 then wclW v o.c else (if (likW v o.w).2 = 0 then wlaW (likW v o.w).1 o.tick else likW v o.w)
@[go_sem] def lfew_r (o : Opn) : D := .bool (decide (o.chan.holds.length ≤ 20 ∧ o.w.length ≤ 40))
@[go_sem] abbrev n_lfew : FuncId := 6
@[go_sem] def lfew_T : Tab := []
theorem lfew_T_ok : TabOk Tryz.prog lfew_T := TabOk.nil
set_option maxRecDepth 8000 in
set_option maxHeartbeats 1000000 in
theorem lfew_ok (o : Opn)  : PureFn Tryz.prog 6 [.agg [.c (.int .u8 (o.kind : Int)), .c (.int .u64 (o.a : Int)), .c (.int .u64 (o.b : Int)), .c (.int .u64 (o.c : Int)), .c (.int .u64 (o.tick : Int)), .c (.bool o.paid), .c (.int .u64 (o.chan.id : Int)), .c (.int .u64 (o.chan.loc : Int)), .c (.int .u64 (o.chan.rem : Int)), .c (.int .u64 (o.chan.res : Int)), .c (.int .u64 (o.chan.most : Int)), .sl (hds o.chan.holds), .c (.bool o.chan.op), .sl (wts o.w)]] (lfew_r o) := by
  refine .of (ac6 lfew_T_ok (Nat.le_of_ble_eq_true rfl) ?_)
  simp -implicitDefEqProofs only [cdA, go_sem, Go.Proofs.Tryz.f6, reduceIte, List.cons.injEq, cdB]
  refine fun _ => ⟨fun h1 _ => ?_, fun h1 => (decide_eq_false fun h => by omega).symm⟩
  rw [decide_eq_decide]; omega
def sp_lfew : List D → Option (Prop × D × Fr)
  | [.agg [.c (.int .u8 z498), .c (.int .u64 z499), .c (.int .u64 z500), .c (.int .u64 z501), .c (.int .u64 z502), .c (.bool z503), .c (.int .u64 z505), .c (.int .u64 z506), .c (.int .u64 z507), .c (.int .u64 z508), .c (.int .u64 z509), .c (.sl z510), .c (.bool z511), .c (.sl z512)]] => some (z498 = (z498.toNat : Int) ∧ z499 = (z499.toNat : Int) ∧ z500 = (z500.toNat : Int) ∧ z501 = (z501.toNat : Int) ∧ z502 = (z502.toNat : Int) ∧ z505 = (z505.toNat : Int) ∧ z506 = (z506.toNat : Int) ∧ z507 = (z507.toNat : Int) ∧ z508 = (z508.toNat : Int) ∧ z509 = (z509.toNat : Int) ∧ z510 = hds (dhds z510) ∧ z512 = wts (dwts z512), lfew_r (⟨z498.toNat, z499.toNat, z500.toNat, z501.toNat, z502.toNat, z503, (⟨z505.toNat, z506.toNat, z507.toNat, z508.toNat, z509.toNat, (dhds z510), z511⟩ : Ch), (dwts z512)⟩ : Opn), [])
  | _ => none
attribute [go_sem] sp_lfew
theorem sp_lfew_ok : ∀ rs p r fr, sp_lfew rs = some (p, r, fr) → p → FnOk Tryz.prog 6 rs r fr := by
  intro rs p r fr h hp
  unfold sp_lfew at h
  split at h <;> cases h
  obtain ⟨hc0, hc1, hc2, hc3, hc4, hc5, hc6, hc7, hc8, hc9, hc10, hc11⟩ := hp
  rename_i z498 z499 z500 z501 z502 z503 z505 z506 z507 z508 z509 z510 z511 z512
  obtain ⟨z498, rfl⟩ : ∃ m : Nat, z498 = m := ⟨_, hc0⟩
  obtain ⟨z499, rfl⟩ : ∃ m : Nat, z499 = m := ⟨_, hc1⟩
  obtain ⟨z500, rfl⟩ : ∃ m : Nat, z500 = m := ⟨_, hc2⟩
  obtain ⟨z501, rfl⟩ : ∃ m : Nat, z501 = m := ⟨_, hc3⟩
  obtain ⟨z502, rfl⟩ : ∃ m : Nat, z502 = m := ⟨_, hc4⟩
  obtain ⟨z505, rfl⟩ : ∃ m : Nat, z505 = m := ⟨_, hc5⟩
  obtain ⟨z506, rfl⟩ : ∃ m : Nat, z506 = m := ⟨_, hc6⟩
  obtain ⟨z507, rfl⟩ : ∃ m : Nat, z507 = m := ⟨_, hc7⟩
  obtain ⟨z508, rfl⟩ : ∃ m : Nat, z508 = m := ⟨_, hc8⟩
  obtain ⟨z509, rfl⟩ : ∃ m : Nat, z509 = m := ⟨_, hc9⟩
  obtain ⟨z510, rfl⟩ : ∃ m, z510 = hds m := ⟨_, hc10⟩
  obtain ⟨z512, rfl⟩ : ∃ m, z512 = wts m := ⟨_, hc11⟩
  simp only [Int.toNat_natCast, dhds_hds, dwts_wts]
  exact lfew_ok ⟨z498, z499, z500, z501, z502, z503, ⟨z505, z506, z507, z508, z509, z510, z511⟩, z512⟩
@[go_sem] def ldo_r (v : Wl) (o : Opn) : D := .tup [.agg [.sl (chs (doW v o).1.c), .sl (wts (doW v o).1.w), .sl (ivs (doW v o).1.i), .sl (pys (doW v o).1.p), .int .u64 (doW v o).1.f.next, .sl (evs (doW v o).1.f.l), .int .u64 (doW v o).1.next, .int .u64 (doW v o).1.tick], .int .i64 (doW v o).2]
@[go_sem] abbrev n_ldo : FuncId := 7
@[go_sem] def ldo_T : Tab := [(15, sp_wpay), (17, sp_wend), (19, sp_wmake), (20, sp_wcancel), (21, sp_wreceive), (14, sp_wopen), (22, sp_wclose), (23, sp_wlike), (24, sp_wlater)]
theorem ldo_T_ok : TabOk Tryz.prog ldo_T := (TabOk.cons sp_wpay_ok (TabOk.cons sp_wend_ok (TabOk.cons sp_wmake_ok (TabOk.cons sp_wcancel_ok (TabOk.cons sp_wreceive_ok (TabOk.cons sp_wopen_ok (TabOk.cons sp_wclose_ok (TabOk.cons sp_wlike_ok (TabOk.cons sp_wlater_ok TabOk.nil)))))))))
set_option maxRecDepth 8000 in
set_option maxHeartbeats 1000000 in
theorem ldo_ok (v : Wl) (o : Opn) (h : v.f.next ≤ 18446744073709551615 ∧ o.kind ≤ 255) : PureFn Tryz.prog 7 [.agg [.sl (chs v.c), .sl (wts v.w), .sl (ivs v.i), .sl (pys v.p), .c (.int .u64 (v.f.next : Int)), .sl (evs v.f.l), .c (.int .u64 (v.next : Int)), .c (.int .u64 (v.tick : Int))], .agg [.c (.int .u8 (o.kind : Int)), .c (.int .u64 (o.a : Int)), .c (.int .u64 (o.b : Int)), .c (.int .u64 (o.c : Int)), .c (.int .u64 (o.tick : Int)), .c (.bool o.paid), .c (.int .u64 (o.chan.id : Int)), .c (.int .u64 (o.chan.loc : Int)), .c (.int .u64 (o.chan.rem : Int)), .c (.int .u64 (o.chan.res : Int)), .c (.int .u64 (o.chan.most : Int)), .sl (hds o.chan.holds), .c (.bool o.chan.op), .sl (wts o.w)]] (ldo_r v o) := by
  refine .of (ac7 ldo_T_ok (Nat.le_of_ble_eq_true rfl) ?_)
  simp -implicitDefEqProofs only [cdA, go_sem, Go.Proofs.Tryz.f7, reduceIte, List.cons.injEq, cdB]
  have hm : ((o.kind : Int).tmod 9) = ((o.kind % 9 : Nat) : Int) := by
    rw [Int.tmod_eq_emod_of_nonneg (by omega)]; omega
  have hlt : o.kind % 9 < 9 := Nat.mod_lt _ (by decide)
  rw [hm]
  unfold doW
  generalize o.kind % 9 = k at *
  have hf := h.1
  have hlf : (likW v o.w).2 = 0 → (likW v o.w).1.f.next ≤ 18446744073709551615 := fun h0 => by
    unfold likW at h0 ⊢
    split at h0
    · rename_i h1; rw [if_pos h1]; exact hf
    · cases h0
  clear hm h
  refine ⟨by decide, ?_⟩
  rcases (show k = 0 ∨ k = 1 ∨ k = 2 ∨ k = 3 ∨ k = 4 ∨ k = 5 ∨ k = 6 ∨ k = 7 ∨ k = 8 by omega) with rfl | rfl | rfl | rfl | rfl | rfl | rfl | rfl | rfl
  all_goals first | (simp [hf]; done) | skip
  by_cases h0 : (likW v o.w).2 = 0
  · simp [hf, h0, hlf h0]
  · simp [hf, h0]
@[go_sem] def ldo_p (v : Wl) (o : Opn) : Prop := (v.f.next ≤ 18446744073709551615 ∧ o.kind ≤ 255)
def sp_ldo : List D → Option (Prop × D × Fr)
  | [.agg [.c (.sl z514), .c (.sl z515), .c (.sl z516), .c (.sl z517), .c (.int .u64 z519), .c (.sl z520), .c (.int .u64 z521), .c (.int .u64 z522)], .agg [.c (.int .u8 z524), .c (.int .u64 z525), .c (.int .u64 z526), .c (.int .u64 z527), .c (.int .u64 z528), .c (.bool z529), .c (.int .u64 z531), .c (.int .u64 z532), .c (.int .u64 z533), .c (.int .u64 z534), .c (.int .u64 z535), .c (.sl z536), .c (.bool z537), .c (.sl z538)]] => some (z514 = chs (dchs z514) ∧ z515 = wts (dwts z515) ∧ z516 = ivs (divs z516) ∧ z517 = pys (dpys z517) ∧ z519 = (z519.toNat : Int) ∧ z520 = evs (devs z520) ∧ z521 = (z521.toNat : Int) ∧ z522 = (z522.toNat : Int) ∧ z524 = (z524.toNat : Int) ∧ z525 = (z525.toNat : Int) ∧ z526 = (z526.toNat : Int) ∧ z527 = (z527.toNat : Int) ∧ z528 = (z528.toNat : Int) ∧ z531 = (z531.toNat : Int) ∧ z532 = (z532.toNat : Int) ∧ z533 = (z533.toNat : Int) ∧ z534 = (z534.toNat : Int) ∧ z535 = (z535.toNat : Int) ∧ z536 = hds (dhds z536) ∧ z538 = wts (dwts z538) ∧ ldo_p (⟨(dchs z514), (dwts z515), (divs z516), (dpys z517), (⟨z519.toNat, (devs z520)⟩ : Fd), z521.toNat, z522.toNat⟩ : Wl) (⟨z524.toNat, z525.toNat, z526.toNat, z527.toNat, z528.toNat, z529, (⟨z531.toNat, z532.toNat, z533.toNat, z534.toNat, z535.toNat, (dhds z536), z537⟩ : Ch), (dwts z538)⟩ : Opn), ldo_r (⟨(dchs z514), (dwts z515), (divs z516), (dpys z517), (⟨z519.toNat, (devs z520)⟩ : Fd), z521.toNat, z522.toNat⟩ : Wl) (⟨z524.toNat, z525.toNat, z526.toNat, z527.toNat, z528.toNat, z529, (⟨z531.toNat, z532.toNat, z533.toNat, z534.toNat, z535.toNat, (dhds z536), z537⟩ : Ch), (dwts z538)⟩ : Opn), [])
  | _ => none
attribute [go_sem] sp_ldo
theorem sp_ldo_ok : ∀ rs p r fr, sp_ldo rs = some (p, r, fr) → p → FnOk Tryz.prog 7 rs r fr := by
  intro rs p r fr h hp
  unfold sp_ldo at h
  split at h <;> cases h
  obtain ⟨hc0, hc1, hc2, hc3, hc4, hc5, hc6, hc7, hc8, hc9, hc10, hc11, hc12, hc13, hc14, hc15, hc16, hc17, hc18, hc19, hp⟩ := hp
  rename_i z514 z515 z516 z517 z519 z520 z521 z522 z524 z525 z526 z527 z528 z529 z531 z532 z533 z534 z535 z536 z537 z538
  obtain ⟨z514, rfl⟩ : ∃ m, z514 = chs m := ⟨_, hc0⟩
  obtain ⟨z515, rfl⟩ : ∃ m, z515 = wts m := ⟨_, hc1⟩
  obtain ⟨z516, rfl⟩ : ∃ m, z516 = ivs m := ⟨_, hc2⟩
  obtain ⟨z517, rfl⟩ : ∃ m, z517 = pys m := ⟨_, hc3⟩
  obtain ⟨z519, rfl⟩ : ∃ m : Nat, z519 = m := ⟨_, hc4⟩
  obtain ⟨z520, rfl⟩ : ∃ m, z520 = evs m := ⟨_, hc5⟩
  obtain ⟨z521, rfl⟩ : ∃ m : Nat, z521 = m := ⟨_, hc6⟩
  obtain ⟨z522, rfl⟩ : ∃ m : Nat, z522 = m := ⟨_, hc7⟩
  obtain ⟨z524, rfl⟩ : ∃ m : Nat, z524 = m := ⟨_, hc8⟩
  obtain ⟨z525, rfl⟩ : ∃ m : Nat, z525 = m := ⟨_, hc9⟩
  obtain ⟨z526, rfl⟩ : ∃ m : Nat, z526 = m := ⟨_, hc10⟩
  obtain ⟨z527, rfl⟩ : ∃ m : Nat, z527 = m := ⟨_, hc11⟩
  obtain ⟨z528, rfl⟩ : ∃ m : Nat, z528 = m := ⟨_, hc12⟩
  obtain ⟨z531, rfl⟩ : ∃ m : Nat, z531 = m := ⟨_, hc13⟩
  obtain ⟨z532, rfl⟩ : ∃ m : Nat, z532 = m := ⟨_, hc14⟩
  obtain ⟨z533, rfl⟩ : ∃ m : Nat, z533 = m := ⟨_, hc15⟩
  obtain ⟨z534, rfl⟩ : ∃ m : Nat, z534 = m := ⟨_, hc16⟩
  obtain ⟨z535, rfl⟩ : ∃ m : Nat, z535 = m := ⟨_, hc17⟩
  obtain ⟨z536, rfl⟩ : ∃ m, z536 = hds m := ⟨_, hc18⟩
  obtain ⟨z538, rfl⟩ : ∃ m, z538 = wts m := ⟨_, hc19⟩
  simp only [Int.toNat_natCast, dchs_chs, devs_evs, dhds_hds, divs_ivs, dpys_pys, dwts_wts]
  simp only [Int.toNat_natCast, dchs_chs, devs_evs, dhds_hds, divs_ivs, dpys_pys, dwts_wts, ldo_p] at hp
  exact ldo_ok ⟨z514, z515, z516, z517, ⟨z519, z520⟩, z521, z522⟩ ⟨z524, z525, z526, z527, z528, z529, ⟨z531, z532, z533, z534, z535, z536, z537⟩, z538⟩ hp
end Dm
namespace Dm
open Go Go.Proofs
set_option maxRecDepth 20000
theorem wf_u8 {n : Int} (h : (Lit.int .u8 n).wf = true) : 0 ≤ n ∧ n ≤ 255 := by
  simp [Lit.wf, IntKind.min, IntKind.max, IntKind.bits, IntKind.signed] at h
  omega
theorem typ5 {k : Nat} {xs : List C} (h : Typ Tryz.prog (k + 1) 5 xs) : ∃ n : Nat, xs = [.int .u8 (n : Int)] ∧ n ≤ 255 := by
  simp only [Typ, Tryz.underlying5] at h
  obtain ⟨n, rfl, h1⟩ := h
  have := wf_u8 h1
  exact ⟨n.toNat, by rw [Int.toNat_of_nonneg (by omega)], by omega⟩
def Opn.rng (o : Opn) : Prop := o.kind ≤ 255 ∧ o.a ≤ 18446744073709551615 ∧ o.b ≤ 18446744073709551615 ∧ o.c ≤ 18446744073709551615 ∧ o.tick ≤ 18446744073709551615 ∧ o.chan.rng ∧ ∀ e ∈ o.w, e.rng
theorem typ39x {k : Nat} {xs : List C} (h : Typ Tryz.prog (k + 6) 39 xs) : ∃ o : Opn, xs = o.enc ∧ o.rng := by
  rw [show k + 6 = (k + 5) + 1 from rfl, Typ, Tryz.underlying39] at h
  simp only [TypFs] at h
  obtain ⟨_, _, rfl, h0, _, _, rfl, h1, _, _, rfl, h2, _, _, rfl, h3, _, _, rfl, h4, _, _, rfl, h5, _, _, rfl, h6, _, _, rfl, h7, rfl⟩ := h
  obtain ⟨kd, rfl, q0⟩ := typ5 (k := k + 4) h0
  obtain ⟨a, rfl, q1⟩ := typ28 (k := k + 4) h1
  obtain ⟨b, rfl, q2⟩ := typ28 (k := k + 4) h2
  obtain ⟨c, rfl, q3⟩ := typ28 (k := k + 4) h3
  obtain ⟨t, rfl, q4⟩ := typ28 (k := k + 4) h4
  obtain ⟨p, rfl⟩ := typ4 (k := k + 4) h5
  obtain ⟨e6, q6⟩ := typ37 (k := k + 1) h6
  obtain ⟨w, rfl, q7⟩ := typ25 (k := k + 2) h7
  refine ⟨⟨kd, a, b, c, t, p, Ch.dec _, w⟩, ?_, q0, q1, q2, q3, q4, q6, q7⟩
  rw [← e6]
  simp [Opn.enc, Ch.enc, Ch.dec, dhds_hds]
end Dm
namespace Dm
open Go Go.Proofs
set_option maxRecDepth 20000
theorem opn_de (o : Opn) : Opn.dec o.enc = o := by
  first | exact Opn.dec_enc o | exact Opn.dec_enc | (have := dopns_opns [o]; simpa [opns, dopns] using this)
theorem typ22 {k : Nat} {xs : List C} (h : Typ Tryz.prog (k + 7) 22 xs) : ∃ l, xs = [.sl (opns l)] ∧ ∀ e ∈ l, e.rng := by
  rw [show k + 7 = (k + 6) + 1 from rfl, Typ, Tryz.underlying22] at h
  obtain ⟨els, rfl, _, h2⟩ := h
  have h3 : ∀ x ∈ els, (Opn.dec x).enc = x ∧ (Opn.dec x).rng := fun x hx => by
    obtain ⟨o, rfl, ho⟩ := typ39x (k := k) (h2 x hx)
    rw [opn_de]; exact ⟨rfl, ho⟩
  refine ⟨dopns els, by
    have : opns (dopns els) = els := by
      show (els.map Opn.dec).map Opn.enc = els
      rw [List.map_map]
      conv => rhs; rw [← List.map_id els]
      exact List.map_congr_left fun x hx => (h3 x hx).1
    rw [this], fun e he => ?_⟩
  obtain ⟨x, hx, rfl⟩ := List.mem_map.1 he
  exact (h3 x hx).2
end Dm
namespace Dm
open Go Go.Proofs Go.IntWalk
theorem make_all {v : Wl} {hash n t : Nat} (h : (wmkW v hash n t).2 = 0) : okW v ∧ okW (wmkW v hash n t).1 ∧ (addF v.f 3 hash n).2.2 = 0 ∧
    (wmkW v hash n t).1 = ⟨v.c, v.w, (imkL v.i hash n t).1, v.p, (addF v.f 3 hash n).1, v.next, v.tick⟩ := by
  have he : (wmkW v hash n t).2 = wmkE v hash n t := by
    unfold wmkW
    split
    · rename_i h; exact h.symm
    · rfl
  rw [he] at h
  have e : (wmkW v hash n t).1 = ⟨v.c, v.w, (imkL v.i hash n t).1, v.p, (addF v.f 3 hash n).1, v.next, v.tick⟩ := by rw [wmkW, if_pos h]; rfl
  unfold wmkE at h
  split at h
  · cases h
  rename_i h1
  split at h
  · rename_i h2; exact absurd h h2
  rename_i h2
  have hok : okW v := Decidable.byContradiction h1
  obtain ⟨-, i1⟩ := imk_all (Decidable.byContradiction h2 : (imkL v.i hash n t).2 = 0)
  rw [e]
  exact ⟨hok, okW_i hok i1 (addF_ok h), h, rfl⟩
theorem open_hl {l : List Ch} {c : Ch} (h : (openL l c).2 = 0) : okLd l ∧ c.holds = [] ∧ (openL l c).1 = Srt.ins l (Srt.pos Ch.id ltN l c.id) c ∧ okLd (openL l c).1 ∧ okCh c ∧ ¬ Srt.thr Ch.id ltN l c.id = true := by
  have hf := open_fine h
  unfold openL at h hf ⊢
  split at h
  · cases h
  rename_i h1
  split at h
  · cases h
  rename_i h2
  split at h
  · cases h
  rename_i h3
  split at h
  rotate_left 1
  · cases h
  rename_i h4
  rw [if_neg h1, if_neg h2, if_neg h3, if_pos h4] at hf ⊢
  exact ⟨Decidable.byContradiction fun h => h1 (.inr (.inr (.inr h))), List.eq_nil_of_length_eq_zero (Nat.eq_zero_of_not_pos fun h => h1 (.inr (.inr (.inl h)))), rfl, hf, Decidable.byContradiction fun h => h1 (.inl h), h2⟩
theorem hl_perm {a b : List Ch} (h : a.Perm b) : (hlL a).Perm (hlL b) := h.flatMap_right _
theorem open_all {v : Wl} {c : Ch} (h : (wopW v c).2 = 0) : okW v ∧ okW (wopW v c).1 ∧ (addF v.f 6 c.id c.loc).2.2 = 0 ∧ (openL v.c c).2 = 0 ∧
    (wopW v c).1 = ⟨(openL v.c c).1, v.w, v.i, v.p, (addF v.f 6 c.id c.loc).1, v.next, v.tick⟩ := by
  have he : (wopW v c).2 = wopE v c := by
    unfold wopW
    split
    · rename_i h; exact h.symm
    · rfl
  rw [he] at h
  have e : (wopW v c).1 = ⟨(openL v.c c).1, v.w, v.i, v.p, (addF v.f 6 c.id c.loc).1, v.next, v.tick⟩ := by rw [wopW, if_pos h]; rfl
  unfold wopE at h
  split at h
  · cases h
  rename_i h1
  split at h
  · rename_i h2; exact absurd h h2
  rename_i h2
  have hok : okW v := Decidable.byContradiction h1
  have hC : (openL v.c c).2 = 0 := Decidable.byContradiction h2
  obtain ⟨-, o1, o2, o3, -⟩ := open_hl hC
  have hp : (hlL (openL v.c c).1).Perm (hlL v.c) := by
    rw [o2]
    have h1 : (hlL (Srt.ins v.c (Srt.pos Ch.id ltN v.c c.id) c)).Perm (hlL (c :: v.c)) := hl_perm Srt.ins_perm
    have h2 : hlL (c :: v.c) = hlL v.c := by simp [hlL, hlC, o1]
    rw [h2] at h1; exact h1
  obtain ⟨a1, a2, a3, a4, a5⟩ := agr_parts.1 hok.2.2.2.2.2.2.2
  have ha : agrL v.p (openL v.c c).1 = (true, 0) := agr_parts.2 ⟨a1, o3.1, okLd_ids o3, fun q hq => hp.mem_iff.2 (a4 q hq), by rw [hp.length_eq]; exact a5⟩
  rw [e]
  exact ⟨hok, ⟨o3, hok.2.1, addF_ok h, hok.2.2.2.1, hok.2.2.2.2.1, hok.2.2.2.2.2.1, hok.2.2.2.2.2.2.1, ha⟩, h, hC, rfl⟩
theorem like_all {v : Wl} {l : List Wt} (h : (likW v l).2 = 0) : okW v ∧ okW (likW v l).1 ∧ (likW v l).1 = { v with w := l } := by
  unfold likW at h ⊢
  split at h
  · rename_i h1
    obtain ⟨⟨o1, o2, o3, o4, o5⟩, hl⟩ := h1
    rw [if_pos ⟨⟨o1, o2, o3, o4, o5⟩, hl⟩]
    exact ⟨⟨o1, o2, o3, o4, o5⟩, ⟨o1, o2, o3, hl, o5⟩, rfl⟩
  · cases h
theorem do_bad {v : Wl} {o : Opn} (h : ¬ (doW v o).2 = 0) : (doW v o).1 = zeroW := by
  unfold doW at h ⊢
  generalize o.kind % 9 = k at *
  split at h
  · rename_i h1
    rw [if_pos h1]
    dsimp only at h ⊢
    rw [payW_e] at h
    rw [payW, if_neg h]
  rename_i h1
  rw [if_neg h1]
  split at h
  · rename_i h2; rw [if_pos h2]; rw [wenW_e] at h; rw [wenW, if_neg h]
  rename_i h2
  rw [if_neg h2]
  split at h
  · rename_i h3; rw [if_pos h3]
    unfold wmkW at h ⊢
    split at h
    · exact absurd rfl h
    · rename_i h4; rw [if_neg h4]
  rename_i h3
  rw [if_neg h3]
  split at h
  · rename_i h4; rw [if_pos h4]; rw [wcaW_e] at h; rw [wcaW, if_neg h]
  rename_i h4
  rw [if_neg h4]
  split at h
  · rename_i h5; rw [if_pos h5]; rw [wreW_e] at h; rw [wreW, if_neg h]
  rename_i h5
  rw [if_neg h5]
  split at h
  · rename_i h6; rw [if_pos h6]
    unfold wopW at h ⊢
    split at h
    · exact absurd rfl h
    · rename_i h4; rw [if_neg h4]
  rename_i h6
  rw [if_neg h6]
  split at h
  · rename_i h7; rw [if_pos h7]; rw [wclW_e] at h; rw [wclW, if_neg h]
  rename_i h7
  rw [if_neg h7]
  split at h
  · rename_i h8; rw [if_pos h8]; rw [wlaW_e] at h; rw [wlaW, if_neg h]
  · rename_i h8; rw [if_neg h8]
    unfold likW at h ⊢
    split at h
    · exact absurd rfl h
    · rename_i h9; rw [if_neg h9]
end Dm
namespace Dm
open Go Go.Proofs Go.IntWalk
def becomes (c d : Ch) : Prop := d.id = c.id ∧ allC d = allC c ∧ ¬ (d.loc < c.loc ∧ d.loc < d.res)
theorem becomes_self (c : Ch) : becomes c c := ⟨rfl, rfl, fun h => absurd h.1 (Nat.lt_irrefl _)⟩
theorem chan_set {l : List Ch} {p : Nat} {e : Ch} (hp : p < l.length) (h : becomes (l.getD p default) e) : ∀ c ∈ l, ∃ d ∈ l.set p e, becomes c d := fun c hc => by
  obtain ⟨i, hi, rfl⟩ := mem_getD.1 hc
  by_cases hip : i = p
  · subst hip; exact ⟨e, List.mem_set hi _, h⟩
  · refine ⟨l.getD i default, mem_getD.2 ⟨i, by rw [List.length_set]; exact hi, ?_⟩, becomes_self _⟩
    rw [Srt.set_getD hp, if_neg hip]
theorem hold_keeps {c : Ch} {h n : Nat} (he : holdE c h n = 0) : becomes c (holdC c h n).1 := by
  have hok := (hold_cen false he).1
  obtain ⟨-, ha⟩ := hold_okCh he hok
  have e : (holdC c h n).1 = ⟨c.id, c.loc - n, c.rem, c.res, c.most, Srt.ins c.holds (Srt.pos Hd.key ltN c.holds h) ⟨h, n⟩, c.op⟩ := by rw [holdC, if_pos he]
  refine ⟨by rw [e], ha, ?_⟩
  rw [e]
  dsimp only
  unfold holdE at he
  split at he
  · cases he
  split at he
  · cases he
  split at he
  · cases he
  split at he
  · cases he
  split at he
  · cases he
  omega
theorem pay_chan {v : Wl} {hash n : Nat} (h : (payW v hash n).2.2 = 0) : ∀ c ∈ v.c, ∃ d ∈ (payW v hash n).1.c, becomes c d := by
  obtain ⟨p, c, hp, hc, -, he, e, -⟩ := pay_in h
  rw [e]
  exact chan_set hp (by rw [hc]; exact hold_keeps he)
theorem end_chan {v : Wl} {id : Nat} {paid : Bool} (h : (wenW v id paid).2 = 0) : ∀ c ∈ v.c, ∃ d ∈ (wenW v id paid).1.c, becomes c d := by
  obtain ⟨-, -, e, -, hC, -⟩ := end_all h
  obtain ⟨-, c, hc, x, hx, hk, p, hp, -, hpc, hcc, e2⟩ := lend_at paid (lend_0.1 hC)
  rw [e, e2]
  refine chan_set hp ?_
  rw [hpc]
  obtain ⟨-, c2, c3, -⟩ := cen_ok (paid := paid) hcc hx hk
  refine ⟨c3, c2, ?_⟩
  obtain ⟨q, -, -, -, e3⟩ := cen_at (paid := paid) hcc hx hk
  rw [e3]
  dsimp only
  rintro ⟨h1, -⟩
  split at h1 <;> omega
theorem same_chan {l : List Ch} : ∀ c ∈ l, ∃ d ∈ l, becomes c d := fun c hc => ⟨c, hc, becomes_self c⟩
theorem lpu_chan {l : List Ch} {id n : Nat} (h : (lpuL l id n).2 = 0) : ∀ c ∈ l, ∃ d ∈ (lpuL l id n).1, becomes c d := by
  obtain ⟨-, p, hp, -, he, e, -⟩ := lpu_all h
  obtain ⟨-, -, -, e2, -, ha⟩ := cpu_ok he
  rw [e]
  refine chan_set hp ⟨by rw [e2], ha, ?_⟩
  rw [e2]
  rintro ⟨h1, -⟩
  dsimp only at h1
  omega
theorem lcl_chan {l : List Ch} {id : Nat} (h : (lclL l id).2 = 0) : ∀ c ∈ l, ∃ d ∈ (lclL l id).1, becomes c d := by
  obtain ⟨-, p, hp, -, he, e, -⟩ := lcl_all h
  obtain ⟨-, -, -, e2, -, ha⟩ := ccl_ok he
  rw [e]
  refine chan_set hp ⟨by rw [e2], ha, ?_⟩
  rw [e2]
  rintro ⟨h1, -⟩
  dsimp only at h1
  omega
theorem open_chan {l : List Ch} {c : Ch} (h : (openL l c).2 = 0) : (∀ c' ∈ l, ∃ d ∈ (openL l c).1, becomes c' d) ∧ l.length ≤ (openL l c).1.length := by
  obtain ⟨-, -, e, -⟩ := open_hl h
  rw [e]
  exact ⟨fun c' hc => ⟨c', Srt.ins_perm.mem_iff.2 (.tail _ hc), becomes_self c'⟩, by rw [Srt.ins_len]; omega⟩
theorem do_all {v : Wl} {o : Opn} (h : (doW v o).2 = 0) : okW (doW v o).1 ∧ v.next ≤ (doW v o).1.next ∧ v.tick ≤ (doW v o).1.tick ∧ v.c.length ≤ (doW v o).1.c.length ∧ ∀ c ∈ v.c, ∃ d ∈ (doW v o).1.c, becomes c d := by
  have hpay : (payW v o.a o.b).2.2 = 0 → okW (payW v o.a o.b).1 ∧ v.next ≤ (payW v o.a o.b).1.next ∧ v.tick ≤ (payW v o.a o.b).1.tick ∧ v.c.length ≤ (payW v o.a o.b).1.c.length ∧ ∀ c ∈ v.c, ∃ d ∈ (payW v o.a o.b).1.c, becomes c d := fun h => by
    obtain ⟨-, h1, -, h2, -, -, -, -, -, h3, -⟩ := pay_all h
    obtain ⟨p, c, -, -, -, -, e, -⟩ := pay_in h
    exact ⟨h1, by omega, by omega, by rw [e, List.length_set]; exact Nat.le_refl _, pay_chan h⟩
  have hlt : o.kind % 9 < 9 := Nat.mod_lt _ (by decide)
  unfold doW at h ⊢
  generalize o.kind % 9 = k at *
  rcases (show k = 0 ∨ k = 1 ∨ k = 2 ∨ k = 3 ∨ k = 4 ∨ k = 5 ∨ k = 6 ∨ k = 7 ∨ k = 8 by omega) with rfl | rfl | rfl | rfl | rfl | rfl | rfl | rfl | rfl
  · exact hpay h
  · have hc := end_chan h
    obtain ⟨-, h1, e, -, hC, -⟩ := end_all h
    obtain ⟨-, c, hc', x, hx, hk, p, hp, -, hpc, hcc, e2⟩ := lend_at o.paid (lend_0.1 hC)
    refine ⟨h1, ?_, ?_, ?_, hc⟩
    · show _ ≤ (wenW v o.a o.paid).1.next; rw [e]; exact Nat.le_refl _
    · show _ ≤ (wenW v o.a o.paid).1.tick; rw [e]; exact Nat.le_refl _
    · show _ ≤ (wenW v o.a o.paid).1.c.length; rw [e, e2, List.length_set]; exact Nat.le_refl _
  · obtain ⟨-, h1, -, e⟩ := make_all h
    refine ⟨h1, ?_⟩
    show _ ≤ (wmkW v o.a o.b o.tick).1.next ∧ _ ≤ (wmkW v o.a o.b o.tick).1.tick ∧ _ ≤ (wmkW v o.a o.b o.tick).1.c.length ∧ ∀ c ∈ v.c, ∃ d ∈ (wmkW v o.a o.b o.tick).1.c, becomes c d
    rw [e]
    exact ⟨Nat.le_refl _, Nat.le_refl _, Nat.le_refl _, same_chan⟩
  · obtain ⟨-, h1, -, -, e⟩ := cancel_all h
    refine ⟨h1, ?_⟩
    show _ ≤ (wcaW v o.a).1.next ∧ _ ≤ (wcaW v o.a).1.tick ∧ _ ≤ (wcaW v o.a).1.c.length ∧ ∀ c ∈ v.c, ∃ d ∈ (wcaW v o.a).1.c, becomes c d
    rw [e]
    exact ⟨Nat.le_refl _, Nat.le_refl _, Nat.le_refl _, same_chan⟩
  · obtain ⟨-, h1, -, hC, -, e⟩ := receive_all h
    refine ⟨h1, ?_⟩
    show _ ≤ (wreW v o.a o.b o.c).1.next ∧ _ ≤ (wreW v o.a o.b o.c).1.tick ∧ _ ≤ (wreW v o.a o.b o.c).1.c.length ∧ ∀ c ∈ v.c, ∃ d ∈ (wreW v o.a o.b o.c).1.c, becomes c d
    rw [e]
    obtain ⟨-, p, -, -, -, e2, -⟩ := lpu_all hC
    exact ⟨Nat.le_refl _, Nat.le_refl _, by dsimp only; rw [e2, List.length_set]; exact Nat.le_refl _, lpu_chan hC⟩
  · obtain ⟨-, h1, -, hC, e⟩ := open_all h
    refine ⟨h1, ?_⟩
    show _ ≤ (wopW v o.chan).1.next ∧ _ ≤ (wopW v o.chan).1.tick ∧ _ ≤ (wopW v o.chan).1.c.length ∧ ∀ c ∈ v.c, ∃ d ∈ (wopW v o.chan).1.c, becomes c d
    rw [e]
    obtain ⟨h2, h3⟩ := open_chan hC
    exact ⟨Nat.le_refl _, Nat.le_refl _, h3, h2⟩
  · obtain ⟨-, h1, hC, -, e⟩ := close_all h
    refine ⟨h1, ?_⟩
    show _ ≤ (wclW v o.c).1.next ∧ _ ≤ (wclW v o.c).1.tick ∧ _ ≤ (wclW v o.c).1.c.length ∧ ∀ c ∈ v.c, ∃ d ∈ (wclW v o.c).1.c, becomes c d
    rw [e]
    obtain ⟨-, p, -, -, -, e2, -⟩ := lcl_all hC
    exact ⟨Nat.le_refl _, Nat.le_refl _, by dsimp only; rw [e2, List.length_set]; exact Nat.le_refl _, lcl_chan hC⟩
  · simp only [show ¬ (7 = 0 ∨ 7 = 8) by decide, if_false, show ¬ 7 = 1 by decide, show ¬ 7 = 2 by decide, show ¬ 7 = 3 by decide, show ¬ 7 = 4 by decide, show ¬ 7 = 5 by decide, show ¬ 7 = 6 by decide] at h ⊢
    split at h
    · rename_i h8
      rw [if_pos h8]
      obtain ⟨-, h1, h2, e⟩ := later_all h
      obtain ⟨-, -, e2⟩ := like_all h8
      refine ⟨h1, ?_⟩
      rw [e2] at h2
      rw [e, e2]
      exact ⟨Nat.le_refl _, h2, Nat.le_refl _, same_chan⟩
    · rename_i h8; exact absurd h h8
  · exact hpay h
theorem sub_perm {α : Type} [DecidableEq α] : ∀ {l m : List α}, l.Nodup → (∀ x ∈ l, x ∈ m) → m.length ≤ l.length → l.Perm m
  | [], m, _, _, hl => by
    have : m = [] := List.eq_nil_of_length_eq_zero (by simpa using hl)
    rw [this]
  | a :: l, m, hd, hs, hl => by
    rw [List.nodup_cons] at hd
    have ha : a ∈ m := hs a (.head _)
    have hle := List.length_erase_of_mem ha
    rw [List.length_cons] at hl
    have ih := sub_perm (l := l) (m := m.erase a) hd.2 (fun y hy => (List.mem_erase_of_ne fun he : y = a => hd.1 (he ▸ hy)).2 (hs y (.tail _ hy))) (by omega)
    exact (ih.cons a).trans (List.perm_cons_erase ha).symm
def k3 (q : Py) : K3 := (q.chan, q.id, q.n)
theorem pend_k3 {p : List Py} {c : List Ch} (h : agrL p c = (true, 0)) : ((pend p).map k3).Perm (hlL c) := by
  obtain ⟨a1, a2, a3, a4, a5⟩ := agr_parts.1 h
  refine sub_perm ?_ (fun x hx => ?_) (by rw [List.length_map, a5]; exact Nat.le_refl _)
  · have h1 := pend_nodup a1
    have h2 : (((pend p).map k3).map fun x => x.2.1).Nodup := by rw [List.map_map]; exact h1
    exact List.Pairwise.of_map _ (fun a b hab he => hab (by rw [he])) h2
  · obtain ⟨q, hq, rfl⟩ := List.mem_map.1 hx
    exact a4 q hq
theorem hlL_filter : ∀ {l : List Ch} {d : Ch}, (l.map Ch.id).Nodup → d ∈ l → (hlL l).filter (fun x => decide (x.1 = d.id)) = hlC d
  | [], _, _, h => absurd h (by simp)
  | c :: l, d, hn, h => by
    rw [List.map_cons, List.nodup_cons] at hn
    have e : hlL (c :: l) = hlC c ++ hlL l := rfl
    have hall : ∀ (c : Ch), ∀ x ∈ hlC c, x.1 = c.id := fun c x hx => by
      obtain ⟨y, _, rfl⟩ := List.mem_map.1 hx; rfl
    rw [e, List.filter_append]
    rcases List.mem_cons.1 h with rfl | h
    · rw [List.filter_eq_self.2 (fun x hx => decide_eq_true (hall _ x hx)), List.filter_eq_nil_iff.2 (fun x hx he => ?_), List.append_nil]
      obtain ⟨c, hc, hx⟩ := List.mem_flatMap.1 hx
      have h1 := hall c x hx
      exact hn.1 (List.mem_map.2 ⟨c, hc, by rw [← h1]; exact of_decide_eq_true he⟩)
    · rw [List.filter_eq_nil_iff.2 (fun x hx he => ?_), List.nil_append, hlL_filter hn.2 h]
      have h1 := hall c x hx
      exact hn.1 (List.mem_map.2 ⟨d, h, by rw [← h1]; exact (of_decide_eq_true he).symm⟩)
def pendS (l : List Py) (id : Nat) : Nat := (((pend l).filter fun q => decide (q.chan = id)).map Py.n).sum
theorem pendS_held {p : List Py} {c : List Ch} {d : Ch} (h : agrL p c = (true, 0)) (hd : d ∈ c) : pendS p d.id = held d.holds := by
  have h1 := (pend_k3 h).filter fun x => decide (x.1 = d.id)
  rw [hlL_filter (agr_parts.1 h).2.2.1 hd, List.filter_map] at h1
  have h2 := (h1.map fun x => x.2.2).sum_nat
  rw [List.map_map, hlC, List.map_map] at h2
  exact h2
end Dm
namespace Dm
open Go Go.Proofs Go.IntWalk
def pheldL (l : List Py) (id : Nat) : Nat × Int := if okPy l then (if pendS l id ≤ MM then (pendS l id, 0) else (0, 1)) else (0, 1)
theorem pendS_succ {l : List Py} {i id : Nat} (h : i < l.length) : pendS (l.take (i + 1)) id = pendS (l.take i) id + (if (l.getD i default).state = 1 ∧ (l.getD i default).chan = id then (l.getD i default).n else 0) := by
  rw [take_succ h, pendS, pend_app, List.filter_append, List.map_append, List.sum_append]
  congr 1
  unfold pend
  by_cases h1 : (l.getD i default).state = 1
  · rw [List.filter_cons_of_pos (by simpa using h1), List.filter_nil]
    by_cases h2 : (l.getD i default).chan = id
    · rw [List.filter_cons_of_pos (by simpa using h2), if_pos ⟨h1, h2⟩]; simp
    · rw [List.filter_cons_of_neg (by simpa using h2), if_neg (fun h => h2 h.2)]; simp
  · rw [List.filter_cons_of_neg (by simpa using h1), if_neg (fun h => h1 h.1)]; simp
theorem pendS_le {l : List Py} {i id : Nat} : pendS (l.take i) id ≤ pendS l id := by
  conv => rhs; rw [← List.take_append_drop i l, pendS, pend_app, List.filter_append, List.map_append, List.sum_append]
  exact Nat.le_add_right _ _
@[go_sem] def pheld_r (l : List Py) (id : Nat) : D := .tup [.int .u64 ((pheldL l id).1 : Int), .int .i64 (pheldL l id).2]
@[go_sem] abbrev n_pheld : FuncId := 13
@[go_sem] def pheld_T : Tab := [(25, sp_pcheck), (32, sp_monadd)]
theorem pheld_T_ok : TabOk Tryz.prog pheld_T := (TabOk.cons sp_pcheck_ok (TabOk.cons sp_monadd_ok TabOk.nil))
set_option maxRecDepth 8000 in
set_option maxHeartbeats 1000000 in
theorem pheld_ok (l : List Py) (id : Nat)  : PureFn Tryz.prog 13 [.sl (pys l), .c (.int .u64 (id : Int))] (pheld_r l id) := by
  refine .of (ac13 pheld_T_ok (Nat.le_of_ble_eq_true rfl) ?_)
  simp -implicitDefEqProofs only [cdA, go_sem, Go.Proofs.Tryz.f13, reduceIte, List.cons.injEq, cdB]
  have hcz : chkP l = 0 ↔ okPy l := by unfold chkP; split <;> rename_i h <;> simp only [h] <;> decide
  refine ⟨fun h0 _ => ?_, fun h0 => by
    have hno : ¬ okPy l := fun h => h0 (hcz.2 h)
    rw [pheldL, chkP, if_neg hno, if_neg hno]; exact ⟨rfl, rfl⟩⟩
  have hok := hcz.1 h0
  have hl := hok.1
  refine SWp.loop (ι := { i : Nat // i ≤ l.length ∧ pendS (l.take i) id ≤ MM }) (fun i => ⟨[(1, .c (.int .u64 id)), (4, .int .u64 (pendS (l.take i.1) id : Nat)), (13, .sl (pys l)), (14, .int .i64 l.length), (15, .int .i64 i.1)], [], 0⟩) (fun i => l.length - i.1) ⟨0, by omega, by simp [pendS, pend]⟩ ?_ ?_
  · simp [go_sem, pendS, pend]
  · rintro ⟨i, hi, hs⟩
    refine awp_sound pheld_T_ok.toS lv13 _ _ _ rfl ?_
    simp -implicitDefEqProofs only [cdA, go_sem, reduceIte, List.cons.injEq, cdB]
    refine ⟨fun h1 => ?_, fun h1 => ?_⟩
    · have hi' : i < l.length := by omega
      have hsu := pendS_succ (id := id) hi'
      have hle := pendS_le (l := l) (i := i + 1) (id := id)
      have hn := (hok.2.1 _ (mem_getD.2 ⟨i, hi', rfl⟩)).1.2
      generalize hq : l.getD i default = q at *
      have hskip : ¬ (q.state = 1 ∧ q.chan = id) → ∃ j : { i : Nat // i ≤ l.length ∧ pendS (l.take i) id ≤ MM }, l.length - j.1 < l.length - i ∧ ((pendS (l.take i) id : Nat) : Int) = (pendS (l.take j.1) id : Nat) ∧ IntKind.i64.wrap ((i : Int) + 1) = j.1 := fun hno => by
        rw [if_neg hno, Nat.add_zero] at hsu
        exact ⟨⟨i + 1, hi', by rw [hsu]; exact hs⟩, by dsimp only; omega, by dsimp only; omega, i64_in _ (by omega)⟩
      refine ⟨by omega, fun h2 => ⟨fun h3 => ⟨fun h4 => ?_, fun h4 => ?_⟩, fun h3 => hskip fun h => h3 (by omega)⟩, fun h2 => hskip fun h => h2 h.1⟩
      · rw [if_pos ⟨h2, by omega⟩] at hsu
        have h5 := addM_1 h4
        have h6 := (addM_0.1 h4).2
        simp only [List.sum_cons, List.sum_nil, Nat.add_zero] at h5 h6
        exact ⟨⟨i + 1, hi', by rw [hsu]; exact h6⟩, by dsimp only; omega, by rw [h5]; dsimp only; rw [hsu], i64_in _ (by omega)⟩
      · rw [if_pos ⟨h2, by omega⟩] at hsu
        have hno : ¬ pendS l id ≤ MM := fun hle2 => h4 (addM_0.2 ⟨fun x hx => by
          simp only [List.mem_cons, List.not_mem_nil, or_false] at hx
          rcases hx with rfl | rfl
          · exact hs
          · exact hn, by simp only [List.sum_cons, List.sum_nil, Nat.add_zero]; unfold MM at *; omega⟩)
        rw [pheldL, if_pos hok, if_neg hno]; exact ⟨rfl, rfl⟩
    · have hi' : i = l.length := by omega
      subst hi'
      rw [List.take_length] at hs ⊢
      rw [pheldL, if_pos hok, if_pos hs]; exact ⟨rfl, rfl⟩
def sp_pheld : List D → Option (Prop × D × Fr)
  | [.c (.sl z539), .c (.int .u64 z540)] => some (z539 = pys (dpys z539) ∧ z540 = (z540.toNat : Int), pheld_r (dpys z539) z540.toNat, [])
  | _ => none
attribute [go_sem] sp_pheld
theorem sp_pheld_ok : ∀ rs p r fr, sp_pheld rs = some (p, r, fr) → p → FnOk Tryz.prog 13 rs r fr := by
  intro rs p r fr h hp
  unfold sp_pheld at h
  split at h <;> cases h
  obtain ⟨hc0, hc1⟩ := hp
  rename_i z539 z540
  obtain ⟨z539, rfl⟩ : ∃ m, z539 = pys m := ⟨_, hc0⟩
  obtain ⟨z540, rfl⟩ : ∃ m : Nat, z540 = m := ⟨_, hc1⟩
  simp only [Int.toNat_natCast, dpys_pys]
  exact pheld_ok z539 z540
end Dm
namespace Dm
open Go Go.Proofs Go.IntWalk
theorem getL_mem {l : List Ch} {c : Ch} (hok : okLd l) (hc : c ∈ l) : getL l c.id = (c, 0) := by
  have hu : Srt.Up Ch.id ltN l := (Srt.chn_up (lt := ltN) Srt.totNat).1 hok.2.2.1
  have ht : Srt.thr Ch.id ltN l c.id = true := (Srt.thr_iff Srt.totNat hu).2 ⟨c, hc, rfl⟩
  obtain ⟨h1, h2⟩ := thr_at ht
  rw [getL, if_pos hok, if_pos ht, Srt.up_inj (key := Ch.id) (lt := ltN) Srt.totNat hu (mem_getD.2 ⟨_, h1, rfl⟩) hc h2]
@[go_sem] def WalletAgrees_r (l : List Opn) : D := .bool true
@[go_sem] abbrev n_WalletAgrees : FuncId := 3
@[go_sem] def WalletAgrees_T : Tab := [(4, sp_live), (6, sp_lfew), (7, sp_ldo), (5, sp_wnew), (9, sp_wcheck), (8, sp_pagree), (10, sp_lget), (11, sp_call), (12, sp_cheld), (13, sp_pheld)]
theorem WalletAgrees_T_ok : TabOk Tryz.prog WalletAgrees_T := (TabOk.cons sp_live_ok (TabOk.cons sp_lfew_ok (TabOk.cons sp_ldo_ok (TabOk.cons sp_wnew_ok (TabOk.cons sp_wcheck_ok (TabOk.cons sp_pagree_ok (TabOk.cons sp_lget_ok (TabOk.cons sp_call_ok (TabOk.cons sp_cheld_ok (TabOk.cons sp_pheld_ok TabOk.nil))))))))))
set_option maxRecDepth 8000 in
set_option maxHeartbeats 1000000 in
theorem WalletAgrees_ok (l : List Opn) (h : ∀ o ∈ l, o.kind ≤ 255) : PureFn Tryz.prog 3 [.sl (opns l)] (WalletAgrees_r l) := by
  refine .of (ac3 WalletAgrees_T_ok (Nat.le_of_ble_eq_true rfl) ?_)
  simp -implicitDefEqProofs only [cdA, go_sem, Go.Proofs.Tryz.f3, reduceIte, List.cons.injEq, cdB]
  refine fun _ => ⟨fun _ => trivial, fun h30 _ => ?_⟩
  refine SWp.loop (ι := { x : Nat × Wl // x.1 ≤ l.length ∧ x.2.f.next ≤ 18446744073709551615 ∧ ∀ c ∈ x.2.c, okCh c }) (fun x => ⟨[(3, .ref 0 0), (28, .sl (opns l)), (29, .int .i64 l.length), (30, .int .i64 x.1.1)],
    [(0, .box [.sl (chs x.1.2.c), .sl (wts x.1.2.w), .sl (ivs x.1.2.i), .sl (pys x.1.2.p), .int .u64 (x.1.2.f.next : Nat), .sl (evs x.1.2.f.l), .int .u64 (x.1.2.next : Nat), .int .u64 (x.1.2.tick : Nat)])], 1⟩) (fun x => l.length - x.1.1) ⟨(0, emptyW), Nat.zero_le _, by decide, fun c hc => by cases hc⟩ ?_ ?_
  · simp [go_sem, emptyW]
  · rintro ⟨⟨i, w⟩, hi, hf, hwc⟩
    refine awp_sound WalletAgrees_T_ok.toS lv3 _ _ _ rfl ?_
    simp -implicitDefEqProofs only [cdA, go_sem, reduceIte, List.cons.injEq, cdB]
    dsimp only at hi hf hwc
    refine ⟨fun h1 => ⟨by omega, fun hof => ?_, fun _ => trivial⟩, fun _ => trivial⟩
    have hi' : i < l.length := by omega
    have hkd := h _ (mem_getD.2 ⟨i, hi', rfl⟩)
    generalize l.getD i default = o at *
    refine ⟨⟨hf, hkd⟩, fun h0 => ?_, fun h0 => ?_⟩
    rotate_left 1
    · rw [do_bad h0]
      refine fun _ => ⟨fun _ _ => ⟨fun _ => ⟨fun _ => ⟨⟨(i + 1, w), hi', hf, hwc⟩, by dsimp only; omega, i64_in _ (by omega), rfl, rfl, rfl, rfl, rfl, rfl, rfl, rfl⟩, fun h => h rfl⟩, fun h => h rfl⟩, fun h => h rfl⟩
    obtain ⟨d1, d2, d3, d4, d5⟩ := do_all h0
    generalize (doW w o).1 = x at *
    have ha := d1.2.2.2.2.2.2.2
    have hfx : x.f.next ≤ 18446744073709551615 := by have := d1.2.2.1.2.1; unfold MM at this; omega
    rw [ha]
    refine ⟨fun c hc => by have := (d1.1.2.1 c hc).2.2.1; omega, hfx, fun _ => ⟨fun _ => ⟨fun _ => ⟨fun _ => ⟨fun _ _ _ => ⟨fun h => by omega, fun _ _ => ?_⟩, fun h => by omega⟩, fun h => by omega⟩, fun h => by cases h⟩, fun h => h rfl⟩, fun h => h (chkW_0.2 d1)⟩
    refine SWp.loop (ι := { k : Nat // k ≤ w.c.length }) (fun k => ⟨[(3, .ref 0 0), (5, .ref 1 0), (6, .ref 2 0), (28, .sl (opns l)), (29, .int .i64 l.length), (30, .int .i64 i), (103, .sl (chs w.c)), (104, .int .i64 w.c.length), (105, .int .i64 k.1)],
      [(2, .box [.sl (chs x.c), .sl (wts x.w), .sl (ivs x.i), .sl (pys x.p), .int .u64 (x.f.next : Nat), .sl (evs x.f.l), .int .u64 (x.next : Nat), .int .u64 (x.tick : Nat)]), (1, .box [.c (.int .u8 o.kind), .c (.int .u64 o.a), .c (.int .u64 o.b), .c (.int .u64 o.c), .c (.int .u64 o.tick), .c (.bool o.paid), .c (.int .u64 o.chan.id), .c (.int .u64 o.chan.loc), .c (.int .u64 o.chan.rem), .c (.int .u64 o.chan.res), .c (.int .u64 o.chan.most), .c (.sl (hds o.chan.holds)), .c (.bool o.chan.op), .c (.sl (wts o.w))]), (0, .box [.sl (chs w.c), .sl (wts w.w), .sl (ivs w.i), .sl (pys w.p), .int .u64 (w.f.next : Nat), .sl (evs w.f.l), .int .u64 (w.next : Nat), .int .u64 (w.tick : Nat)])], 3⟩) (fun k => w.c.length - k.1) ⟨0, Nat.zero_le _⟩ ?_ ?_
    · simp [go_sem]
    · rintro ⟨k, hk⟩
      refine awp_sound WalletAgrees_T_ok.toS lv3 _ _ _ rfl ?_
      simp -implicitDefEqProofs only [cdA, go_sem, reduceIte, List.cons.injEq, cdB]
      refine ⟨fun h2 => ?_, fun h2 => ⟨⟨(i + 1, x), hi', hfx, d1.1.2.1⟩, by dsimp only; omega, i64_in _ (by omega), rfl, rfl, rfl, rfl, rfl, rfl, rfl, rfl⟩⟩
      have hk' : k < w.c.length := by omega
      have hcm := mem_getD.2 ⟨k, hk', rfl⟩
      have hcc := hwc _ hcm
      obtain ⟨d, hd, e1, e2, e3⟩ := d5 _ hcm
      generalize w.c.getD k default = c at *
      have hg := getL_mem d1.1 hd
      rw [e1] at hg
      have hdd := d1.1.2.1 d hd
      have s1 : sumsC c = (held c.holds, allC c, 0) := by rw [allC, sumsC, if_pos hcc]
      have s2 : sumsC d = (held d.holds, allC d, 0) := by rw [allC, sumsC, if_pos hdd]
      have hps := pendS_held ha hd
      rw [e1] at hps
      have hp : pheldL x.p c.id = (held d.holds, 0) := by
        rw [pheldL, if_pos (agr_parts.1 ha).1, hps, if_pos]
        have := hdd.2.2.2.2.2.2.1
        have := hdd.2.1
        omega
      have hgo : ∃ j : { k : Nat // k ≤ w.c.length }, w.c.length - j.1 < w.c.length - k ∧ IntKind.i64.wrap ((k : Int) + 1) = j.1 := ⟨⟨k + 1, hk'⟩, by dsimp only; omega, i64_in _ (by omega)⟩
      rw [hg]
      dsimp only
      rw [s1, s2, hp]
      dsimp only
      refine ⟨by omega, fun _ => ⟨fun _ => ⟨fun _ => ⟨fun _ => ⟨fun _ => ⟨fun _ => ⟨fun _ => ⟨fun h3 => ⟨by decide, fun _ => ⟨fun h4 => e3 ⟨by omega, by omega⟩, fun _ => hgo⟩, fun _ => hgo⟩, fun _ => hgo⟩, fun h => h rfl⟩, fun h => h (by rw [e2])⟩, fun h => h rfl⟩, fun h => h rfl⟩, fun h => h rfl⟩, fun h => h rfl⟩, fun h => h rfl⟩
@[go_sem] def WalletAgrees_p (l : List Opn) : Prop := (∀ o ∈ l, o.kind ≤ 255)
def sp_WalletAgrees : List D → Option (Prop × D × Fr)
  | [.c (.sl z541)] => some (z541 = opns (dopns z541) ∧ WalletAgrees_p (dopns z541), WalletAgrees_r (dopns z541), [])
  | _ => none
attribute [go_sem] sp_WalletAgrees
end Dm
