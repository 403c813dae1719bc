import Derived.Test.YtceoichdaepegabGreatP7

set_option linter.unusedSimpArgs false
set_option linter.unusedVariables false
set_option linter.unusedSectionVars false
namespace Dm
open Go Go.Proofs Go.IntWalk
def wenP (v : Wl) (id : Nat) (paid : Bool) : List Py × Int := pendL v.p id paid
def wenC (v : Wl) (id : Nat) (paid : Bool) : List Ch × Int := ((lendL v.c id paid).1, (lendL v.c id paid).2.2)
def wenF (v : Wl) (id : Nat) (paid : Bool) : Fd × Nat × Int := addF v.f (if paid = true then 1 else 2) id (lendL v.c id paid).2.1
def wenE (v : Wl) (id : Nat) (paid : Bool) : Int := if ¬ okW v then 1 else if (wenP v id paid).2 ≠ 0 then (wenP v id paid).2 else if (wenC v id paid).2 ≠ 0 then (wenC v id paid).2 else (wenF v id paid).2.2
def wenW (v : Wl) (id : Nat) (paid : Bool) : Wl × Int := if wenE v id paid = 0 then (⟨(wenC v id paid).1, v.w, v.i, (wenP v id paid).1, (wenF v id paid).1, v.next, v.tick⟩, 0) else (zeroW, wenE v id paid)
@[go_sem] def wend_r (v : Wl) (id : Nat) (paid : Bool) : D := .tup [.agg [.sl (chs (wenW v id paid).1.c), .sl (wts (wenW v id paid).1.w), .sl (ivs (wenW v id paid).1.i), .sl (pys (wenW v id paid).1.p), .int .u64 (wenW v id paid).1.f.next, .sl (evs (wenW v id paid).1.f.l), .int .u64 (wenW v id paid).1.next, .int .u64 (wenW v id paid).1.tick], .int .i64 (wenW v id paid).2]
@[go_sem] abbrev n_wend : FuncId := 17
@[go_sem] def wend_T : Tab := [(9, sp_wcheck), (48, sp_pend), (50, sp_lendc), (80, sp_fadd), (81, sp_wown)]
theorem wend_T_ok : TabOk Tryz.prog wend_T := (TabOk.cons sp_wcheck_ok (TabOk.cons sp_pend_ok (TabOk.cons sp_lendc_ok (TabOk.cons sp_fadd_ok (TabOk.cons sp_wown_ok TabOk.nil)))))
set_option maxRecDepth 8000 in
set_option maxHeartbeats 1000000 in
theorem wend_ok (v : Wl) (id : Nat) (paid : Bool) (h : v.f.next ≤ 18446744073709551615) : PureFn Tryz.prog 17 [.agg [.sl (chs v.c), .sl (wts v.w), .sl (ivs v.i), .sl (pys v.p), .c (.int .u64 (v.f.next : Int)), .sl (evs v.f.l), .c (.int .u64 (v.next : Int)), .c (.int .u64 (v.tick : Int))], .c (.int .u64 (id : Int)), .c (.bool paid)] (wend_r v id paid) := by
  refine .of (ac17 wend_T_ok (Nat.le_of_ble_eq_true rfl) ?_)
  simp -implicitDefEqProofs only [cdA, go_sem, Go.Proofs.Tryz.f17, reduceIte, List.cons.injEq, cdB]
  cases paid
  · skip
    refine ac33 wend_T_ok (Nat.le_of_ble_eq_true rfl) ?_
    simp -implicitDefEqProofs only [cdA, go_sem, Go.Proofs.Tryz.f33, reduceIte, List.cons.injEq, cdB]
    refine ADraw.run us33_1 wend_T_ok follows_mixed (by kernel_rfl) (by kernel_rfl) ?_
    simp -implicitDefEqProofs only [cdA, go_sem, reduceIte, List.cons.injEq, cdB]
    refine ⟨h, ?_⟩
    have hbad : ∀ e : Int, wenE v id false = e → ¬ e = 0 → (chs (wenW v id false).1.c = [] ∧ wts (wenW v id false).1.w = [] ∧ ivs (wenW v id false).1.i = [] ∧ pys (wenW v id false).1.p = [] ∧ 0 = ((wenW v id false).1.f.next : Int) ∧ evs (wenW v id false).1.f.l = [] ∧ 0 = ((wenW v id false).1.next : Int) ∧ 0 = ((wenW v id false).1.tick : Int)) ∧ e = (wenW v id false).2 := fun e h1 h2 => by
      have : wenW v id false = (zeroW, e) := by rw [wenW, if_neg (by rw [h1]; exact h2), h1]
      rw [this]; exact ⟨⟨rfl, rfl, rfl, rfl, rfl, rfl, rfl, rfl⟩, rfl⟩
    by_cases hok : okW v
    rotate_left 1
    · have hck : (chkW v = 0) = False := eq_false fun h => hok (chkW_0.1 h)
      have he : wenE v id false = 1 := by rw [wenE, if_pos hok]
      have hc1 : chkW v = 1 := by rw [chkW, if_neg hok]
      skip
      refine ac42 wend_T_ok (Nat.le_of_ble_eq_true rfl) ?_
      simp -implicitDefEqProofs only [cdA, go_sem, Go.Proofs.Tryz.f42, hck, cdN, reduceIte, List.cons.injEq, cdB]
      refine ac34 wend_T_ok (Nat.le_of_ble_eq_true rfl) ?_
      simp -implicitDefEqProofs only [cdA, go_sem, Go.Proofs.Tryz.f34, hck, cdN, reduceIte, List.cons.injEq, cdB]
      refine ac37 wend_T_ok (Nat.le_of_ble_eq_true rfl) ?_
      simp -implicitDefEqProofs only [cdA, go_sem, Go.Proofs.Tryz.f37, reduceIte, List.cons.injEq, cdB]
      refine ac78 wend_T_ok (Nat.le_of_ble_eq_true rfl) ?_
      simp -implicitDefEqProofs only [cdA, go_sem, Go.Proofs.Tryz.f78, hck, cdN, reduceIte, List.cons.injEq, cdB]
      refine ac38 wend_T_ok (Nat.le_of_ble_eq_true rfl) ?_
      simp -implicitDefEqProofs only [cdA, go_sem, Go.Proofs.Tryz.f38, hck, cdN, reduceIte, List.cons.injEq, cdB]
      refine ADraw.run us38_2 wend_T_ok follows_mixed (by kernel_rfl) (by kernel_rfl) ?_
      simp -implicitDefEqProofs only [cdA, go_sem, hck, cdN, reduceIte, List.cons.injEq, cdB]
      exact hbad _ (he.trans hc1.symm) (by rw [hc1]; decide)
    have hck : (chkW v = 0) = True := eq_true (chkW_0.2 hok)
    refine ac42 wend_T_ok (Nat.le_of_ble_eq_true rfl) ?_
    simp -implicitDefEqProofs only [cdA, go_sem, Go.Proofs.Tryz.f42, hck, cdN, reduceIte, List.cons.injEq, cdB]
    refine ac47 wend_T_ok (Nat.le_of_ble_eq_true rfl) ?_
    simp -implicitDefEqProofs only [cdA, go_sem, Go.Proofs.Tryz.f47, reduceIte, List.cons.injEq, cdB]
    have eP : pendL v.p id false = wenP v id false := rfl
    rw [eP]
    refine ⟨fun hs0 => ?_, fun hs0 => ?_⟩
    rotate_left 1
    · skip
      refine ac34 wend_T_ok (Nat.le_of_ble_eq_true rfl) ?_
      simp -implicitDefEqProofs only [cdA, go_sem, Go.Proofs.Tryz.f34, hs0, cdN, reduceIte, List.cons.injEq, cdB]
      refine ac37 wend_T_ok (Nat.le_of_ble_eq_true rfl) ?_
      simp -implicitDefEqProofs only [cdA, go_sem, Go.Proofs.Tryz.f37, reduceIte, List.cons.injEq, cdB]
      refine ac78 wend_T_ok (Nat.le_of_ble_eq_true rfl) ?_
      simp -implicitDefEqProofs only [cdA, go_sem, Go.Proofs.Tryz.f78, hs0, cdN, reduceIte, List.cons.injEq, cdB]
      refine ac38 wend_T_ok (Nat.le_of_ble_eq_true rfl) ?_
      simp -implicitDefEqProofs only [cdA, go_sem, Go.Proofs.Tryz.f38, hs0, cdN, reduceIte, List.cons.injEq, cdB]
      refine ADraw.run us38_2 wend_T_ok follows_mixed (by kernel_rfl) (by kernel_rfl) ?_
      simp -implicitDefEqProofs only [cdA, go_sem, hs0, cdN, reduceIte, List.cons.injEq, cdB]
      exact hbad _ (by rw [wenE, if_neg (fun h => h hok), if_pos hs0]) hs0
    refine ac34 wend_T_ok (Nat.le_of_ble_eq_true rfl) ?_
    simp -implicitDefEqProofs only [cdA, go_sem, Go.Proofs.Tryz.f34, hck, cdN, reduceIte, List.cons.injEq, cdB]
    refine ac49 wend_T_ok (Nat.le_of_ble_eq_true rfl) ?_
    simp -implicitDefEqProofs only [cdA, go_sem, Go.Proofs.Tryz.f49, reduceIte, List.cons.injEq, cdB]
    have eC1 : (lendL v.c id false).1 = (wenC v id false).1 := rfl
    have eC2 : (lendL v.c id false).2.2 = (wenC v id false).2 := rfl
    rw [eC1, eC2]
    refine ⟨fun hs1 => ?_, fun hs1 => ?_⟩
    rotate_left 1
    · skip
      refine ac37 wend_T_ok (Nat.le_of_ble_eq_true rfl) ?_
      simp -implicitDefEqProofs only [cdA, go_sem, Go.Proofs.Tryz.f37, reduceIte, List.cons.injEq, cdB]
      refine ac78 wend_T_ok (Nat.le_of_ble_eq_true rfl) ?_
      simp -implicitDefEqProofs only [cdA, go_sem, Go.Proofs.Tryz.f78, hs1, cdN, reduceIte, List.cons.injEq, cdB]
      refine ac38 wend_T_ok (Nat.le_of_ble_eq_true rfl) ?_
      simp -implicitDefEqProofs only [cdA, go_sem, Go.Proofs.Tryz.f38, hs1, cdN, reduceIte, List.cons.injEq, cdB]
      refine ADraw.run us38_2 wend_T_ok follows_mixed (by kernel_rfl) (by kernel_rfl) ?_
      simp -implicitDefEqProofs only [cdA, go_sem, hs1, cdN, reduceIte, List.cons.injEq, cdB]
      exact hbad _ (by rw [wenE, if_neg (fun h => h hok), if_neg (fun h => h hs0), if_pos hs1]) hs1
    refine ac37 wend_T_ok (Nat.le_of_ble_eq_true rfl) ?_
    simp -implicitDefEqProofs only [cdA, go_sem, Go.Proofs.Tryz.f37, reduceIte, List.cons.injEq, cdB]
    refine ac78 wend_T_ok (Nat.le_of_ble_eq_true rfl) ?_
    simp -implicitDefEqProofs only [cdA, go_sem, Go.Proofs.Tryz.f78, hck, cdN, reduceIte, List.cons.injEq, cdB]
    refine ac79 wend_T_ok (Nat.le_of_ble_eq_true rfl) ?_
    simp -implicitDefEqProofs only [cdA, go_sem, Go.Proofs.Tryz.f79, reduceIte, List.cons.injEq, cdB]
    have eF : addF v.f 2 id (lendL v.c id false).2.1 = wenF v id false := rfl
    rw [eF]
    refine ⟨h, fun hfd => ?_, fun hfd => ?_⟩
    rotate_left 1
    · skip
      refine ac38 wend_T_ok (Nat.le_of_ble_eq_true rfl) ?_
      simp -implicitDefEqProofs only [cdA, go_sem, Go.Proofs.Tryz.f38, hfd, cdN, reduceIte, List.cons.injEq, cdB]
      refine ADraw.run us38_2 wend_T_ok follows_mixed (by kernel_rfl) (by kernel_rfl) ?_
      simp -implicitDefEqProofs only [cdA, go_sem, hfd, cdN, reduceIte, List.cons.injEq, cdB]
      exact hbad _ (by rw [wenE, if_neg (fun h => h hok), if_neg (fun h => h hs0), if_neg (fun h => h hs1)]) hfd
    have hsm : smallW ⟨(wenC v id false).1, v.w, v.i, (wenP v id false).1, (wenF v id false).1, v.next, v.tick⟩ := by
      have h2 := small_ok hok
      have h50 := pend_len hs0
      have h51 := lend_fine hs1
      exact ⟨(by have := h51.1; show (wenC v id false).1.length ≤ _; unfold wenC; (try dsimp only); omega), (fun d hd => by have := (h51.2.1 d hd).2.2.1; omega), h2.2.2.1, h2.2.2.2.1, (by show (wenP v id false).1.length ≤ _; unfold wenP; omega), (by show (wenF v id false).1.l.length ≤ _; unfold wenF; exact Nat.le_trans add_len (by decide))⟩
    have hfin : wenW v id false = (⟨(wenC v id false).1, v.w, v.i, (wenP v id false).1, (wenF v id false).1, v.next, v.tick⟩, 0) := by
      have : wenE v id false = 0 := by rw [wenE, if_neg (fun h => h hok), if_neg (fun h => h hs0), if_neg (fun h => h hs1)]; exact hfd
      rw [wenW, if_pos this]
    refine ac38 wend_T_ok (Nat.le_of_ble_eq_true rfl) ?_
    simp -implicitDefEqProofs only [cdA, go_sem, Go.Proofs.Tryz.f38, hck, eq_true hsm, cdN, reduceIte, List.cons.injEq, cdB]
    rw [hfin]
    exact ⟨⟨rfl, rfl, rfl, rfl, rfl, rfl, rfl, rfl⟩, rfl⟩
  · skip
    refine ac33 wend_T_ok (Nat.le_of_ble_eq_true rfl) ?_
    simp -implicitDefEqProofs only [cdA, go_sem, Go.Proofs.Tryz.f33, reduceIte, List.cons.injEq, cdB]
    refine ADraw.run us33_1 wend_T_ok follows_mixed (by kernel_rfl) (by kernel_rfl) ?_
    simp -implicitDefEqProofs only [cdA, go_sem, reduceIte, List.cons.injEq, cdB]
    refine ⟨h, ?_⟩
    have hbad : ∀ e : Int, wenE v id true = e → ¬ e = 0 → (chs (wenW v id true).1.c = [] ∧ wts (wenW v id true).1.w = [] ∧ ivs (wenW v id true).1.i = [] ∧ pys (wenW v id true).1.p = [] ∧ 0 = ((wenW v id true).1.f.next : Int) ∧ evs (wenW v id true).1.f.l = [] ∧ 0 = ((wenW v id true).1.next : Int) ∧ 0 = ((wenW v id true).1.tick : Int)) ∧ e = (wenW v id true).2 := fun e h1 h2 => by
      have : wenW v id true = (zeroW, e) := by rw [wenW, if_neg (by rw [h1]; exact h2), h1]
      rw [this]; exact ⟨⟨rfl, rfl, rfl, rfl, rfl, rfl, rfl, rfl⟩, rfl⟩
    by_cases hok : okW v
    rotate_left 1
    · have hck : (chkW v = 0) = False := eq_false fun h => hok (chkW_0.1 h)
      have he : wenE v id true = 1 := by rw [wenE, if_pos hok]
      have hc1 : chkW v = 1 := by rw [chkW, if_neg hok]
      skip
      refine ac42 wend_T_ok (Nat.le_of_ble_eq_true rfl) ?_
      simp -implicitDefEqProofs only [cdA, go_sem, Go.Proofs.Tryz.f42, hck, cdN, reduceIte, List.cons.injEq, cdB]
      refine ac34 wend_T_ok (Nat.le_of_ble_eq_true rfl) ?_
      simp -implicitDefEqProofs only [cdA, go_sem, Go.Proofs.Tryz.f34, hck, cdN, reduceIte, List.cons.injEq, cdB]
      refine ac37 wend_T_ok (Nat.le_of_ble_eq_true rfl) ?_
      simp -implicitDefEqProofs only [cdA, go_sem, Go.Proofs.Tryz.f37, reduceIte, List.cons.injEq, cdB]
      refine ac78 wend_T_ok (Nat.le_of_ble_eq_true rfl) ?_
      simp -implicitDefEqProofs only [cdA, go_sem, Go.Proofs.Tryz.f78, hck, cdN, reduceIte, List.cons.injEq, cdB]
      refine ac38 wend_T_ok (Nat.le_of_ble_eq_true rfl) ?_
      simp -implicitDefEqProofs only [cdA, go_sem, Go.Proofs.Tryz.f38, hck, cdN, reduceIte, List.cons.injEq, cdB]
      refine ADraw.run us38_2 wend_T_ok follows_mixed (by kernel_rfl) (by kernel_rfl) ?_
      simp -implicitDefEqProofs only [cdA, go_sem, hck, cdN, reduceIte, List.cons.injEq, cdB]
      exact hbad _ (he.trans hc1.symm) (by rw [hc1]; decide)
    have hck : (chkW v = 0) = True := eq_true (chkW_0.2 hok)
    refine ac42 wend_T_ok (Nat.le_of_ble_eq_true rfl) ?_
    simp -implicitDefEqProofs only [cdA, go_sem, Go.Proofs.Tryz.f42, hck, cdN, reduceIte, List.cons.injEq, cdB]
    refine ac47 wend_T_ok (Nat.le_of_ble_eq_true rfl) ?_
    simp -implicitDefEqProofs only [cdA, go_sem, Go.Proofs.Tryz.f47, reduceIte, List.cons.injEq, cdB]
    have eP : pendL v.p id true = wenP v id true := rfl
    rw [eP]
    refine ⟨fun hs0 => ?_, fun hs0 => ?_⟩
    rotate_left 1
    · skip
      refine ac34 wend_T_ok (Nat.le_of_ble_eq_true rfl) ?_
      simp -implicitDefEqProofs only [cdA, go_sem, Go.Proofs.Tryz.f34, hs0, cdN, reduceIte, List.cons.injEq, cdB]
      refine ac37 wend_T_ok (Nat.le_of_ble_eq_true rfl) ?_
      simp -implicitDefEqProofs only [cdA, go_sem, Go.Proofs.Tryz.f37, reduceIte, List.cons.injEq, cdB]
      refine ac78 wend_T_ok (Nat.le_of_ble_eq_true rfl) ?_
      simp -implicitDefEqProofs only [cdA, go_sem, Go.Proofs.Tryz.f78, hs0, cdN, reduceIte, List.cons.injEq, cdB]
      refine ac38 wend_T_ok (Nat.le_of_ble_eq_true rfl) ?_
      simp -implicitDefEqProofs only [cdA, go_sem, Go.Proofs.Tryz.f38, hs0, cdN, reduceIte, List.cons.injEq, cdB]
      refine ADraw.run us38_2 wend_T_ok follows_mixed (by kernel_rfl) (by kernel_rfl) ?_
      simp -implicitDefEqProofs only [cdA, go_sem, hs0, cdN, reduceIte, List.cons.injEq, cdB]
      exact hbad _ (by rw [wenE, if_neg (fun h => h hok), if_pos hs0]) hs0
    refine ac34 wend_T_ok (Nat.le_of_ble_eq_true rfl) ?_
    simp -implicitDefEqProofs only [cdA, go_sem, Go.Proofs.Tryz.f34, hck, cdN, reduceIte, List.cons.injEq, cdB]
    refine ac49 wend_T_ok (Nat.le_of_ble_eq_true rfl) ?_
    simp -implicitDefEqProofs only [cdA, go_sem, Go.Proofs.Tryz.f49, reduceIte, List.cons.injEq, cdB]
    have eC1 : (lendL v.c id true).1 = (wenC v id true).1 := rfl
    have eC2 : (lendL v.c id true).2.2 = (wenC v id true).2 := rfl
    rw [eC1, eC2]
    refine ⟨fun hs1 => ?_, fun hs1 => ?_⟩
    rotate_left 1
    · skip
      refine ac37 wend_T_ok (Nat.le_of_ble_eq_true rfl) ?_
      simp -implicitDefEqProofs only [cdA, go_sem, Go.Proofs.Tryz.f37, reduceIte, List.cons.injEq, cdB]
      refine ac78 wend_T_ok (Nat.le_of_ble_eq_true rfl) ?_
      simp -implicitDefEqProofs only [cdA, go_sem, Go.Proofs.Tryz.f78, hs1, cdN, reduceIte, List.cons.injEq, cdB]
      refine ac38 wend_T_ok (Nat.le_of_ble_eq_true rfl) ?_
      simp -implicitDefEqProofs only [cdA, go_sem, Go.Proofs.Tryz.f38, hs1, cdN, reduceIte, List.cons.injEq, cdB]
      refine ADraw.run us38_2 wend_T_ok follows_mixed (by kernel_rfl) (by kernel_rfl) ?_
      simp -implicitDefEqProofs only [cdA, go_sem, hs1, cdN, reduceIte, List.cons.injEq, cdB]
      exact hbad _ (by rw [wenE, if_neg (fun h => h hok), if_neg (fun h => h hs0), if_pos hs1]) hs1
    refine ac37 wend_T_ok (Nat.le_of_ble_eq_true rfl) ?_
    simp -implicitDefEqProofs only [cdA, go_sem, Go.Proofs.Tryz.f37, reduceIte, List.cons.injEq, cdB]
    refine ac78 wend_T_ok (Nat.le_of_ble_eq_true rfl) ?_
    simp -implicitDefEqProofs only [cdA, go_sem, Go.Proofs.Tryz.f78, hck, cdN, reduceIte, List.cons.injEq, cdB]
    refine ac79 wend_T_ok (Nat.le_of_ble_eq_true rfl) ?_
    simp -implicitDefEqProofs only [cdA, go_sem, Go.Proofs.Tryz.f79, reduceIte, List.cons.injEq, cdB]
    have eF : addF v.f 1 id (lendL v.c id true).2.1 = wenF v id true := rfl
    rw [eF]
    refine ⟨h, fun hfd => ?_, fun hfd => ?_⟩
    rotate_left 1
    · skip
      refine ac38 wend_T_ok (Nat.le_of_ble_eq_true rfl) ?_
      simp -implicitDefEqProofs only [cdA, go_sem, Go.Proofs.Tryz.f38, hfd, cdN, reduceIte, List.cons.injEq, cdB]
      refine ADraw.run us38_2 wend_T_ok follows_mixed (by kernel_rfl) (by kernel_rfl) ?_
      simp -implicitDefEqProofs only [cdA, go_sem, hfd, cdN, reduceIte, List.cons.injEq, cdB]
      exact hbad _ (by rw [wenE, if_neg (fun h => h hok), if_neg (fun h => h hs0), if_neg (fun h => h hs1)]) hfd
    have hsm : smallW ⟨(wenC v id true).1, v.w, v.i, (wenP v id true).1, (wenF v id true).1, v.next, v.tick⟩ := by
      have h2 := small_ok hok
      have h50 := pend_len hs0
      have h51 := lend_fine hs1
      exact ⟨(by have := h51.1; show (wenC v id true).1.length ≤ _; unfold wenC; (try dsimp only); omega), (fun d hd => by have := (h51.2.1 d hd).2.2.1; omega), h2.2.2.1, h2.2.2.2.1, (by show (wenP v id true).1.length ≤ _; unfold wenP; omega), (by show (wenF v id true).1.l.length ≤ _; unfold wenF; exact Nat.le_trans add_len (by decide))⟩
    have hfin : wenW v id true = (⟨(wenC v id true).1, v.w, v.i, (wenP v id true).1, (wenF v id true).1, v.next, v.tick⟩, 0) := by
      have : wenE v id true = 0 := by rw [wenE, if_neg (fun h => h hok), if_neg (fun h => h hs0), if_neg (fun h => h hs1)]; exact hfd
      rw [wenW, if_pos this]
    refine ac38 wend_T_ok (Nat.le_of_ble_eq_true rfl) ?_
    simp -implicitDefEqProofs only [cdA, go_sem, Go.Proofs.Tryz.f38, hck, eq_true hsm, cdN, reduceIte, List.cons.injEq, cdB]
    rw [hfin]
    exact ⟨⟨rfl, rfl, rfl, rfl, rfl, rfl, rfl, rfl⟩, rfl⟩
@[go_sem] def wend_p (v : Wl) (id : Nat) (paid : Bool) : Prop := (v.f.next ≤ 18446744073709551615)
def sp_wend : List D → Option (Prop × D × Fr)
  | [.agg [.c (.sl z342), .c (.sl z343), .c (.sl z344), .c (.sl z345), .c (.int .u64 z347), .c (.sl z348), .c (.int .u64 z349), .c (.int .u64 z350)], .c (.int .u64 z351), .c (.bool z352)] => some (z342 = chs (dchs z342) ∧ z343 = wts (dwts z343) ∧ z344 = ivs (divs z344) ∧ z345 = pys (dpys z345) ∧ z347 = (z347.toNat : Int) ∧ z348 = evs (devs z348) ∧ z349 = (z349.toNat : Int) ∧ z350 = (z350.toNat : Int) ∧ z351 = (z351.toNat : Int) ∧ wend_p (⟨(dchs z342), (dwts z343), (divs z344), (dpys z345), (⟨z347.toNat, (devs z348)⟩ : Fd), z349.toNat, z350.toNat⟩ : Wl) z351.toNat z352, wend_r (⟨(dchs z342), (dwts z343), (divs z344), (dpys z345), (⟨z347.toNat, (devs z348)⟩ : Fd), z349.toNat, z350.toNat⟩ : Wl) z351.toNat z352, [])
  | _ => none
attribute [go_sem] sp_wend
theorem sp_wend_ok : ∀ rs p r fr, sp_wend rs = some (p, r, fr) → p → FnOk Tryz.prog 17 rs r fr := by
  intro rs p r fr h hp
  unfold sp_wend at h
  split at h <;> cases h
  obtain ⟨hc0, hc1, hc2, hc3, hc4, hc5, hc6, hc7, hc8, hp⟩ := hp
  rename_i z342 z343 z344 z345 z347 z348 z349 z350 z351 z352
  obtain ⟨z342, rfl⟩ : ∃ m, z342 = chs m := ⟨_, hc0⟩
  obtain ⟨z343, rfl⟩ : ∃ m, z343 = wts m := ⟨_, hc1⟩
  obtain ⟨z344, rfl⟩ : ∃ m, z344 = ivs m := ⟨_, hc2⟩
  obtain ⟨z345, rfl⟩ : ∃ m, z345 = pys m := ⟨_, hc3⟩
  obtain ⟨z347, rfl⟩ : ∃ m : Nat, z347 = m := ⟨_, hc4⟩
  obtain ⟨z348, rfl⟩ : ∃ m, z348 = evs m := ⟨_, hc5⟩
  obtain ⟨z349, rfl⟩ : ∃ m : Nat, z349 = m := ⟨_, hc6⟩
  obtain ⟨z350, rfl⟩ : ∃ m : Nat, z350 = m := ⟨_, hc7⟩
  obtain ⟨z351, rfl⟩ : ∃ m : Nat, z351 = m := ⟨_, hc8⟩
  simp only [Int.toNat_natCast, dchs_chs, devs_evs, divs_ivs, dpys_pys, dwts_wts]
  simp only [Int.toNat_natCast, dchs_chs, devs_evs, divs_ivs, dpys_pys, dwts_wts, wend_p] at hp
  exact wend_ok ⟨z342, z343, z344, z345, ⟨z347, z348⟩, z349, z350⟩ z351 z352 hp
end Dm
namespace Dm
open Go Go.Proofs Go.IntWalk
theorem wenW_e {v : Wl} {id : Nat} {paid : Bool} : (wenW v id paid).2 = wenE v id paid := by
  unfold wenW
  split
  · rename_i h; exact h.symm
  · rfl
theorem wenE_0 {v : Wl} {id : Nat} {paid : Bool} (h : wenE v id paid = 0) : okW v ∧ (wenP v id paid).2 = 0 ∧ (wenC v id paid).2 = 0 ∧ (wenF v id paid).2.2 = 0 := by
  unfold wenE at h
  split at h
  · cases h
  rename_i h1
  split at h
  · rename_i h2; exact absurd h h2
  rename_i h2
  split at h
  · rename_i h3; exact absurd h h3
  rename_i h3
  exact ⟨Decidable.byContradiction h1, Decidable.byContradiction h2, Decidable.byContradiction h3, h⟩
theorem last_lt {l : List Py} {k : Nat} (h : ∀ x ∈ l, x.id < k) : 0 < l.length → (l.getD (l.length - 1) default).id < k := fun h0 => h _ (mem_getD.2 ⟨_, by omega, rfl⟩)
theorem end_all {v : Wl} {id : Nat} {paid : Bool} (h : (wenW v id paid).2 = 0) : okW v ∧ okW (wenW v id paid).1 ∧ (wenW v id paid).1 = ⟨(lendL v.c id paid).1, v.w, v.i, (pendL v.p id paid).1, (wenF v id paid).1, v.next, v.tick⟩ ∧ (pendL v.p id paid).2 = 0 ∧ (lendL v.c id paid).2.2 = 0 ∧ (wenF v id paid).2.2 = 0 := by
  rw [wenW_e] at h
  obtain ⟨hok, hP, hC, hF⟩ := wenE_0 h
  have e : wenW v id paid = (⟨(wenC v id paid).1, v.w, v.i, (wenP v id paid).1, (wenF v id paid).1, v.next, v.tick⟩, 0) := by rw [wenW, if_pos h]
  rw [e]
  have hids := okW_ids hok
  obtain ⟨o1, o2, o3, o4, o5, o6, o7, o8⟩ := hok
  obtain ⟨h1, h2, -⟩ := agr_end (paid := paid) o8 o1 hP
  obtain ⟨-, l1, -⟩ := lend_all h1
  obtain ⟨-, -, p1, -⟩ := pend_all hP
  refine ⟨⟨o1, o2, o3, o4, o5, o6, o7, o8⟩, ⟨l1, o2, addF_ok hF, o4, o5, o6, last_lt fun x hx => ?_, h2⟩, rfl, hP, h1, hF⟩
  have : x.id ∈ (pendL v.p id paid).1.map Py.id := List.mem_map.2 ⟨x, hx, rfl⟩
  rw [p1] at this
  obtain ⟨y, hy, he⟩ := List.mem_map.1 this
  rw [← he]; exact hids y hy
end Dm
namespace Dm
open Go Go.Proofs Go.IntWalk
end Dm
namespace Dm
open Go Go.Proofs Go.IntWalk
def likW (v : Wl) (l : List Wt) : Wl × Int := if okW v ∧ l.length ≤ 32 then ({ v with w := l }, 0) else (zeroW, 1)
@[go_sem] def wlike_r (v : Wl) (l : List Wt) : D := .tup [.agg [.sl (chs (likW v l).1.c), .sl (wts (likW v l).1.w), .sl (ivs (likW v l).1.i), .sl (pys (likW v l).1.p), .int .u64 (likW v l).1.f.next, .sl (evs (likW v l).1.f.l), .int .u64 (likW v l).1.next, .int .u64 (likW v l).1.tick], .int .i64 (likW v l).2]
@[go_sem] abbrev n_wlike : FuncId := 23
@[go_sem] def wlike_T : Tab := [(9, sp_wcheck), (81, sp_wown)]
theorem wlike_T_ok : TabOk Tryz.prog wlike_T := (TabOk.cons sp_wcheck_ok (TabOk.cons sp_wown_ok TabOk.nil))
set_option maxRecDepth 8000 in
set_option maxHeartbeats 1000000 in
theorem wlike_ok (v : Wl) (l : List Wt) (h : v.f.next ≤ 18446744073709551615) : PureFn Tryz.prog 23 [.agg [.sl (chs v.c), .sl (wts v.w), .sl (ivs v.i), .sl (pys v.p), .c (.int .u64 (v.f.next : Int)), .sl (evs v.f.l), .c (.int .u64 (v.next : Int)), .c (.int .u64 (v.tick : Int))], .sl (wts l)] (wlike_r v l) := by
  refine .of (ac23 wlike_T_ok (Nat.le_of_ble_eq_true rfl) ?_)
  simp -implicitDefEqProofs only [cdA, go_sem, Go.Proofs.Tryz.f23, reduceIte, List.cons.injEq, cdB]
  refine ac33 wlike_T_ok (Nat.le_of_ble_eq_true rfl) ?_
  simp -implicitDefEqProofs only [cdA, go_sem, Go.Proofs.Tryz.f33, reduceIte, List.cons.injEq, cdB]
  refine ADraw.run us33_1 wlike_T_ok follows_mixed (by kernel_rfl) (by kernel_rfl) ?_
  simp -implicitDefEqProofs only [cdA, go_sem, reduceIte, List.cons.injEq, cdB]
  refine ⟨h, ?_⟩
  intro hll
  have hbad : ¬ (okW v ∧ l.length ≤ 32) → (chs (likW v l).1.c = [] ∧ wts (likW v l).1.w = [] ∧ ivs (likW v l).1.i = [] ∧ pys (likW v l).1.p = [] ∧ 0 = ((likW v l).1.f.next : Int) ∧ evs (likW v l).1.f.l = [] ∧ 0 = ((likW v l).1.next : Int) ∧ 0 = ((likW v l).1.tick : Int)) ∧ 1 = (likW v l).2 := fun h => by
    have : likW v l = (zeroW, 1) := by rw [likW, if_neg h]
    rw [this]; exact ⟨⟨rfl, rfl, rfl, rfl, rfl, rfl, rfl, rfl⟩, rfl⟩
  by_cases hok : okW v
  rotate_left 1
  · have hc1 : chkW v = 1 := by rw [chkW, if_neg hok]
    rw [hc1]
    refine ac39 wlike_T_ok (Nat.le_of_ble_eq_true rfl) ?_
    simp -implicitDefEqProofs only [cdA, go_sem, Go.Proofs.Tryz.f39, i1_0, cdN, reduceIte, List.cons.injEq, cdB]
    refine ac38 wlike_T_ok (Nat.le_of_ble_eq_true rfl) ?_
    simp -implicitDefEqProofs only [cdA, go_sem, Go.Proofs.Tryz.f38, i1_0, cdN, reduceIte, List.cons.injEq, cdB]
    refine ADraw.run us38_2 wlike_T_ok follows_mixed (by kernel_rfl) (by kernel_rfl) ?_
    simp -implicitDefEqProofs only [cdA, go_sem, i1_0, cdN, reduceIte, List.cons.injEq, cdB]
    exact hbad fun h => hok h.1
  have hck : chkW v = 0 := chkW_0.2 hok
  rw [hck]
  by_cases hl : l.length ≤ 32
  rotate_left 1
  · have hl' : ((l.length : Int) ≤ 32) = False := eq_false (by omega)
    refine ac39 wlike_T_ok (Nat.le_of_ble_eq_true rfl) ?_
    simp -implicitDefEqProofs only [cdA, go_sem, Go.Proofs.Tryz.f39, hl', decide_false, cdN, reduceIte, List.cons.injEq, cdB]
    refine ac38 wlike_T_ok (Nat.le_of_ble_eq_true rfl) ?_
    simp -implicitDefEqProofs only [cdA, go_sem, Go.Proofs.Tryz.f38, i1_0, cdN, reduceIte, List.cons.injEq, cdB]
    refine ADraw.run us38_2 wlike_T_ok follows_mixed (by kernel_rfl) (by kernel_rfl) ?_
    simp -implicitDefEqProofs only [cdA, go_sem, i1_0, cdN, reduceIte, List.cons.injEq, cdB]
    exact hbad fun h => hl h.2
  have hl' : ((l.length : Int) ≤ 32) = True := eq_true (by omega)
  refine ac39 wlike_T_ok (Nat.le_of_ble_eq_true rfl) ?_
  simp -implicitDefEqProofs only [cdA, go_sem, Go.Proofs.Tryz.f39, hl', decide_true, cdN, reduceIte, List.cons.injEq, cdB]
  have hsm : smallW ⟨v.c, l, v.i, v.p, v.f, v.next, v.tick⟩ := by
    have h2 := small_ok hok
    exact ⟨h2.1, h2.2.1, by show l.length ≤ _; omega, h2.2.2.2.1, h2.2.2.2.2.1, h2.2.2.2.2.2⟩
  have hfin : likW v l = (⟨v.c, l, v.i, v.p, v.f, v.next, v.tick⟩, 0) := by rw [likW, if_pos ⟨hok, hl⟩]
  refine ac38 wlike_T_ok (Nat.le_of_ble_eq_true rfl) ?_
  simp -implicitDefEqProofs only [cdA, go_sem, Go.Proofs.Tryz.f38, eq_true hsm, cdN, reduceIte, List.cons.injEq, cdB]
  rw [hfin]
  exact ⟨⟨rfl, rfl, rfl, rfl, rfl, rfl, rfl, rfl⟩, rfl⟩
@[go_sem] def wlike_p (v : Wl) (l : List Wt) : Prop := (v.f.next ≤ 18446744073709551615)
def sp_wlike : List D → Option (Prop × D × Fr)
  | [.agg [.c (.sl z354), .c (.sl z355), .c (.sl z356), .c (.sl z357), .c (.int .u64 z359), .c (.sl z360), .c (.int .u64 z361), .c (.int .u64 z362)], .c (.sl z363)] => some (z354 = chs (dchs z354) ∧ z355 = wts (dwts z355) ∧ z356 = ivs (divs z356) ∧ z357 = pys (dpys z357) ∧ z359 = (z359.toNat : Int) ∧ z360 = evs (devs z360) ∧ z361 = (z361.toNat : Int) ∧ z362 = (z362.toNat : Int) ∧ z363 = wts (dwts z363) ∧ wlike_p (⟨(dchs z354), (dwts z355), (divs z356), (dpys z357), (⟨z359.toNat, (devs z360)⟩ : Fd), z361.toNat, z362.toNat⟩ : Wl) (dwts z363), wlike_r (⟨(dchs z354), (dwts z355), (divs z356), (dpys z357), (⟨z359.toNat, (devs z360)⟩ : Fd), z361.toNat, z362.toNat⟩ : Wl) (dwts z363), [])
  | _ => none
attribute [go_sem] sp_wlike
theorem sp_wlike_ok : ∀ rs p r fr, sp_wlike rs = some (p, r, fr) → p → FnOk Tryz.prog 23 rs r fr := by
  intro rs p r fr h hp
  unfold sp_wlike at h
  split at h <;> cases h
  obtain ⟨hc0, hc1, hc2, hc3, hc4, hc5, hc6, hc7, hc8, hp⟩ := hp
  rename_i z354 z355 z356 z357 z359 z360 z361 z362 z363
  obtain ⟨z354, rfl⟩ : ∃ m, z354 = chs m := ⟨_, hc0⟩
  obtain ⟨z355, rfl⟩ : ∃ m, z355 = wts m := ⟨_, hc1⟩
  obtain ⟨z356, rfl⟩ : ∃ m, z356 = ivs m := ⟨_, hc2⟩
  obtain ⟨z357, rfl⟩ : ∃ m, z357 = pys m := ⟨_, hc3⟩
  obtain ⟨z359, rfl⟩ : ∃ m : Nat, z359 = m := ⟨_, hc4⟩
  obtain ⟨z360, rfl⟩ : ∃ m, z360 = evs m := ⟨_, hc5⟩
  obtain ⟨z361, rfl⟩ : ∃ m : Nat, z361 = m := ⟨_, hc6⟩
  obtain ⟨z362, rfl⟩ : ∃ m : Nat, z362 = m := ⟨_, hc7⟩
  obtain ⟨z363, rfl⟩ : ∃ m, z363 = wts m := ⟨_, hc8⟩
  simp only [Int.toNat_natCast, dchs_chs, devs_evs, divs_ivs, dpys_pys, dwts_wts]
  simp only [Int.toNat_natCast, dchs_chs, devs_evs, divs_ivs, dpys_pys, dwts_wts, wlike_p] at hp
  exact wlike_ok ⟨z354, z355, z356, z357, ⟨z359, z360⟩, z361, z362⟩ z363 hp
end Dm
namespace Dm
open Go Go.Proofs Go.IntWalk
def emptyW : Wl := ⟨[], [], [], [], ⟨1, []⟩, 1, 0⟩
def liveC : Ch := ⟨1, 10, 0, 0, 10, [], true⟩
theorem live1 : (wopW emptyW liveC).2 = 0 := by decide
theorem live2 : (wopW emptyW liveC).1.f.next ≤ 18446744073709551615 := by decide
set_option maxRecDepth 100000 in
theorem live3 : (payW (wopW emptyW liveC).1 7 4).2 = (1, 0) := by decide
set_option maxRecDepth 100000 in
theorem live4 : (payW (wopW emptyW liveC).1 7 4).1.f.next ≤ 18446744073709551615 ∧ oursL (payW (wopW emptyW liveC).1 7 4).1.c = (6, 4, 0) := by decide
set_option maxRecDepth 100000 in
theorem live5 : (wenW (payW (wopW emptyW liveC).1 7 4).1 1 false).2 = 0 := by decide
set_option maxRecDepth 100000 in
theorem live6 : oursL (wenW (payW (wopW emptyW liveC).1 7 4).1 1 false).1.c = (10, 0, 0) := by decide
@[go_sem] def live_r  : D := .bool true
@[go_sem] abbrev n_live : FuncId := 4
@[go_sem] def live_T : Tab := [(5, sp_wnew), (14, sp_wopen), (15, sp_wpay), (16, sp_ours), (17, sp_wend)]
theorem live_T_ok : TabOk Tryz.prog live_T := (TabOk.cons sp_wnew_ok (TabOk.cons sp_wopen_ok (TabOk.cons sp_wpay_ok (TabOk.cons sp_ours_ok (TabOk.cons sp_wend_ok TabOk.nil)))))
set_option maxRecDepth 8000 in
set_option maxHeartbeats 1000000 in
theorem live_ok   : PureFn Tryz.prog 4 [] (live_r ) := by
  refine .of (ac4 live_T_ok (Nat.le_of_ble_eq_true rfl) ?_)
  simp -implicitDefEqProofs only [cdA, go_sem, Go.Proofs.Tryz.f4, reduceIte, List.cons.injEq, cdB]
  have a1 := live1
  have a2 := live2
  have a3 := live3
  obtain ⟨a4, a5⟩ := live4
  have a6 := live5
  have a7 := live6
  unfold emptyW liveC at a1 a2 a3 a4 a5 a6 a7
  simp only [show dhds [] = [] from rfl]
  refine ⟨rfl, ?_⟩
  generalize wopW _ _ = x at *
  generalize payW x.1 7 4 = y at *
  have b1 : y.2.1 = 1 := congrArg Prod.fst a3
  have b2 : y.2.2 = 0 := congrArg Prod.snd a3
  rw [b1, b2, a5]
  generalize wenW y.1 1 false = z at *
  rw [a1, a6, a7]
  exact ⟨a2, a4, by simp⟩
def sp_live : List D → Option (Prop × D × Fr)
  | [] => some (True, live_r , [])
  | _ => none
attribute [go_sem] sp_live
theorem sp_live_ok : ∀ rs p r fr, sp_live rs = some (p, r, fr) → p → FnOk Tryz.prog 4 rs r fr := by
  intro rs p r fr h hp
  unfold sp_live at h
  split at h <;> cases h
  exact live_ok 
end Dm
namespace Dm
open Go Go.Proofs
set_option maxRecDepth 20000
theorem wf_u64 {n : Int} (h : (Lit.int .u64 n).wf = true) : 0 ≤ n ∧ n ≤ 18446744073709551615 := by
  simp [Lit.wf, IntKind.min, IntKind.max, IntKind.bits, IntKind.signed] at h
  omega
theorem typ28 {k : Nat} {xs : List C} (h : Typ Tryz.prog (k + 1) 28 xs) : ∃ n : Nat, xs = [.int .u64 (n : Int)] ∧ n ≤ 18446744073709551615 := by
  simp only [Typ, Tryz.underlying28] at h
  obtain ⟨n, rfl, h1⟩ := h
  have := wf_u64 h1
  exact ⟨n.toNat, by rw [Int.toNat_of_nonneg (by omega)], by omega⟩
theorem typ4 {k : Nat} {xs : List C} (h : Typ Tryz.prog (k + 1) 4 xs) : ∃ b, xs = [.bool b] := by
  simp only [Typ, Tryz.underlying4] at h
  exact h
def Hd.rng (e : Hd) : Prop := e.id ≤ 18446744073709551615 ∧ e.n ≤ 18446744073709551615
theorem typ67 {k : Nat} {xs : List C} (h : Typ Tryz.prog (k + 2) 67 xs) : (Hd.dec xs).enc = xs ∧ (Hd.dec xs).rng := by
  simp only [Typ, Tryz.underlying67, TypFs, Tryz.underlying28] at h
  obtain ⟨_, _, rfl, ⟨s0, rfl, h0⟩, _, _, rfl, ⟨s1, rfl, h1⟩, rfl⟩ := h
  have q0 := wf_u64 h0
  have q1 := wf_u64 h1
  simp only [List.cons_append, List.nil_append, List.append_nil]
  refine ⟨by simp [Hd.dec, Hd.enc, Int.toNat_of_nonneg q0.1, Int.toNat_of_nonneg q1.1], ?_⟩
  simp only [Hd.dec, Hd.rng]
  exact ⟨by omega, by omega⟩
theorem hds_dhds {els : List (List C)} (h : ∀ x ∈ els, (Hd.dec x).enc = x) : hds (dhds els) = els := by
  simp only [hds, dhds, List.map_map]
  refine (List.map_congr_left fun x hx => ?_).trans (List.map_id _)
  exact h x hx
theorem typ35 {k : Nat} {xs : List C} (h : Typ Tryz.prog (k + 3) 35 xs) : ∃ l, xs = [.sl (hds l)] ∧ ∀ e ∈ l, e.rng := by
  simp only [Typ, Tryz.underlying35] at h
  obtain ⟨els, rfl, _, h2⟩ := h
  have h3 : ∀ x ∈ els, (Hd.dec x).enc = x ∧ (Hd.dec x).rng := fun x hx => typ67 (k := k) (h2 x hx)
  refine ⟨dhds els, by rw [hds_dhds fun x hx => (h3 x hx).1], fun e he => ?_⟩
  obtain ⟨x, hx, rfl⟩ := List.mem_map.1 he
  exact (h3 x hx).2
def Ch.rng (e : Ch) : Prop := e.id ≤ 18446744073709551615 ∧ e.loc ≤ 18446744073709551615 ∧ e.rem ≤ 18446744073709551615 ∧ e.res ≤ 18446744073709551615 ∧ e.most ≤ 18446744073709551615 ∧ (∀ q ∈ e.holds, q.rng) ∧ True
theorem typ37 {k : Nat} {xs : List C} (h : Typ Tryz.prog (k + 4) 37 xs) : (Ch.dec xs).enc = xs ∧ (Ch.dec xs).rng := by
  simp only [Typ, Tryz.underlying37, TypFs, Tryz.underlying4, Tryz.underlying28] at h
  obtain ⟨_, _, rfl, ⟨s0, rfl, h0⟩, _, _, rfl, ⟨s1, rfl, h1⟩, _, _, rfl, ⟨s2, rfl, h2⟩, _, _, rfl, ⟨s3, rfl, h3⟩, _, _, rfl, ⟨s4, rfl, h4⟩, _, _, rfl, hs5, _, _, rfl, ⟨s6, rfl⟩, rfl⟩ := h
  have q0 := wf_u64 h0
  have q1 := wf_u64 h1
  have q2 := wf_u64 h2
  have q3 := wf_u64 h3
  have q4 := wf_u64 h4
  obtain ⟨s5, rfl, q5⟩ := typ35 (k := k + 0) hs5
  simp only [List.cons_append, List.nil_append, List.append_nil]
  refine ⟨by simp [Ch.dec, Ch.enc, Int.toNat_of_nonneg q0.1, Int.toNat_of_nonneg q1.1, Int.toNat_of_nonneg q2.1, Int.toNat_of_nonneg q3.1, Int.toNat_of_nonneg q4.1, dhds_hds], ?_⟩
  simp only [Ch.dec, Ch.rng, dhds_hds]
  exact ⟨by omega, by omega, by omega, by omega, by omega, q5, trivial⟩
def Wt.rng (e : Wt) : Prop := e.id ≤ 18446744073709551615 ∧ True
theorem typ172 {k : Nat} {xs : List C} (h : Typ Tryz.prog (k + 2) 172 xs) : (Wt.dec xs).enc = xs ∧ (Wt.dec xs).rng := by
  simp only [Typ, Tryz.underlying172, TypFs, Tryz.underlying28, Tryz.underlying170] at h
  obtain ⟨_, _, rfl, ⟨s0, rfl, h0⟩, _, _, rfl, ⟨s1, rfl, h1⟩, rfl⟩ := h
  have q0 := wf_u64 h0
  simp only [List.cons_append, List.nil_append, List.append_nil]
  refine ⟨by simp [Wt.dec, Wt.enc, Int.toNat_of_nonneg q0.1], ?_⟩
  simp only [Wt.dec, Wt.rng]
  exact ⟨by omega, trivial⟩
theorem wts_dwts {els : List (List C)} (h : ∀ x ∈ els, (Wt.dec x).enc = x) : wts (dwts els) = els := by
  simp only [wts, dwts, List.map_map]
  refine (List.map_congr_left fun x hx => ?_).trans (List.map_id _)
  exact h x hx
theorem typ25 {k : Nat} {xs : List C} (h : Typ Tryz.prog (k + 3) 25 xs) : ∃ l, xs = [.sl (wts l)] ∧ ∀ e ∈ l, e.rng := by
  simp only [Typ, Tryz.underlying25] at h
  obtain ⟨els, rfl, _, h2⟩ := h
  have h3 : ∀ x ∈ els, (Wt.dec x).enc = x ∧ (Wt.dec x).rng := fun x hx => typ172 (k := k) (h2 x hx)
  refine ⟨dwts els, by rw [wts_dwts fun x hx => (h3 x hx).1], fun e he => ?_⟩
  obtain ⟨x, hx, rfl⟩ := List.mem_map.1 he
  exact (h3 x hx).2
def Iv.rng (e : Iv) : Prop := e.hash ≤ 18446744073709551615 ∧ e.n ≤ 18446744073709551615 ∧ e.till ≤ 18446744073709551615 ∧ (-9223372036854775808 ≤ e.state ∧ e.state ≤ 9223372036854775807)
def Py.rng (e : Py) : Prop := e.id ≤ 18446744073709551615 ∧ e.hash ≤ 18446744073709551615 ∧ e.chan ≤ 18446744073709551615 ∧ e.n ≤ 18446744073709551615 ∧ (-9223372036854775808 ≤ e.state ∧ e.state ≤ 9223372036854775807)
def Ev.rng (e : Ev) : Prop := e.seq ≤ 18446744073709551615 ∧ (-9223372036854775808 ≤ e.kind ∧ e.kind ≤ 9223372036854775807) ∧ e.a ≤ 18446744073709551615 ∧ e.n ≤ 18446744073709551615
def Fd.rng (e : Fd) : Prop := e.next ≤ 18446744073709551615 ∧ (∀ q ∈ e.l, q.rng)
def Wl.rng (w : Wl) : Prop := (∀ e ∈ w.c, e.rng) ∧ (∀ e ∈ w.w, e.rng) ∧ (∀ e ∈ w.i, e.rng) ∧ (∀ e ∈ w.p, e.rng) ∧ w.f.rng ∧ w.next ≤ 18446744073709551615 ∧ w.tick ≤ 18446744073709551615
end Dm
namespace Dm
open Go Go.Proofs Go.IntWalk
def cpuE (c : Ch) (n : Nat) : Int := if ¬ okCh c ∨ ¬ n ≤ MM then 1 else if c.op = false then 14 else if c.rem < n then 9 else 0
def cpuC (c : Ch) (n : Nat) : Ch × Int := if cpuE c n = 0 then (⟨c.id, c.loc + n, c.rem - n, c.res, c.most, c.holds, c.op⟩, 0) else (default, cpuE c n)
theorem cpuC_2 {c : Ch} {n : Nat} : (cpuC c n).2 = cpuE c n := by
  unfold cpuC
  split
  · rename_i h; exact h.symm
  · rfl
@[go_sem] def cpush_r (c : Ch) (n : Nat) : D := .tup [.agg [.int .u64 (cpuC c n).1.id, .int .u64 (cpuC c n).1.loc, .int .u64 (cpuC c n).1.rem, .int .u64 (cpuC c n).1.res, .int .u64 (cpuC c n).1.most, .sl (hds (cpuC c n).1.holds), .bool (cpuC c n).1.op], .int .i64 (cpuC c n).2]
@[go_sem] abbrev n_cpush : FuncId := 102
@[go_sem] def cpush_T : Tab := [(75, sp_ccheck), (40, sp_moncheck), (134, sp_monsub), (73, sp_hclone)]
theorem cpush_T_ok : TabOk Tryz.prog cpush_T := (TabOk.cons sp_ccheck_ok (TabOk.cons sp_moncheck_ok (TabOk.cons sp_monsub_ok (TabOk.cons sp_hclone_ok TabOk.nil))))
set_option maxRecDepth 8000 in
set_option maxHeartbeats 1000000 in
theorem cpush_ok (c : Ch) (n : Nat)  : PureFn Tryz.prog 102 [.agg [.c (.int .u64 (c.id : Int)), .c (.int .u64 (c.loc : Int)), .c (.int .u64 (c.rem : Int)), .c (.int .u64 (c.res : Int)), .c (.int .u64 (c.most : Int)), .sl (hds c.holds), .c (.bool c.op)], .c (.int .u64 (n : Int))] (cpush_r c n) := by
  refine .of (ac102 cpush_T_ok (Nat.le_of_ble_eq_true rfl) ?_)
  simp -implicitDefEqProofs only [cdA, go_sem, Go.Proofs.Tryz.f102, reduceIte, List.cons.injEq, cdB]
  have hc0 : chkC c = 0 ↔ okCh c := by unfold chkC; split <;> rename_i h <;> simp only [h] <;> decide
  have hm : monS [n] = 0 ↔ n ≤ MM := mon1_0
  have hbad : ∀ k, cpuE c n = k → ¬ k = 0 → (0 = ((cpuC c n).1.id : Int) ∧ 0 = ((cpuC c n).1.loc : Int) ∧ 0 = ((cpuC c n).1.rem : Int) ∧ 0 = ((cpuC c n).1.res : Int) ∧ 0 = ((cpuC c n).1.most : Int) ∧ hds (cpuC c n).1.holds = [] ∧ false = (cpuC c n).1.op) ∧ k = (cpuC c n).2 := fun k hk h0 => by
    have : cpuC c n = (default, k) := by rw [cpuC, if_neg (by rw [hk]; exact h0), hk]
    rw [this]; exact ⟨⟨rfl, rfl, rfl, rfl, rfl, rfl, rfl⟩, rfl⟩
  refine ⟨fun h1 => ⟨fun h2 => ?_, fun h2 => hbad 1 (by rw [cpuE, if_pos (.inr fun h => h2 (hm.2 h))]) (by decide)⟩, fun h1 => hbad 1 (by rw [cpuE, if_pos (.inl fun h => h1 (hc0.2 h))]) (by decide)⟩
  have hok := hc0.1 h1
  have hn := hm.1 h2
  have hr : c.rem ≤ MM := hok.2.2.2.2.2.2.2.2.1
  have hl : c.loc ≤ MM := hok.2.2.2.2.2.2.2.1
  have hA : ¬ (¬ okCh c ∨ ¬ n ≤ MM) := by rintro (h | h) <;> first | exact h hok | exact h hn
  unfold MM at hn hr hl
  rw [subM, if_pos ⟨hr, hn⟩]
  refine ⟨fun h3 => ?_, fun h3 => hbad 14 (by rw [cpuE, if_neg hA, if_pos h3]) (by decide)⟩
  have h3' : ¬ c.op = false := by rw [h3]; decide
  by_cases h4 : n ≤ c.rem
  · have e : cpuE c n = 0 := by rw [cpuE, if_neg hA, if_neg h3', if_neg (by omega)]
    rw [if_pos h4, cpuC, if_pos e]
    refine ⟨fun _ => ⟨by have := hok.2.2.1; omega, ⟨rfl, by rw [u64_in _ (by omega)]; dsimp only; omega, rfl, rfl, rfl, rfl, rfl⟩, rfl⟩, fun h => absurd rfl h⟩
  · rw [if_neg h4]
    exact ⟨fun h => absurd (show (9 : Int) = 0 from h) (by decide), fun _ => hbad 9 (by rw [cpuE, if_neg hA, if_neg h3', if_pos (by omega)]) (by decide)⟩
def sp_cpush : List D → Option (Prop × D × Fr)
  | [.agg [.c (.int .u64 z383), .c (.int .u64 z384), .c (.int .u64 z385), .c (.int .u64 z386), .c (.int .u64 z387), .c (.sl z388), .c (.bool z389)], .c (.int .u64 z390)] => some (z383 = (z383.toNat : Int) ∧ z384 = (z384.toNat : Int) ∧ z385 = (z385.toNat : Int) ∧ z386 = (z386.toNat : Int) ∧ z387 = (z387.toNat : Int) ∧ z388 = hds (dhds z388) ∧ z390 = (z390.toNat : Int), cpush_r (⟨z383.toNat, z384.toNat, z385.toNat, z386.toNat, z387.toNat, (dhds z388), z389⟩ : Ch) z390.toNat, [])
  | _ => none
attribute [go_sem] sp_cpush
theorem sp_cpush_ok : ∀ rs p r fr, sp_cpush rs = some (p, r, fr) → p → FnOk Tryz.prog 102 rs r fr := by
  intro rs p r fr h hp
  unfold sp_cpush at h
  split at h <;> cases h
  obtain ⟨hc0, hc1, hc2, hc3, hc4, hc5, hc6⟩ := hp
  rename_i z383 z384 z385 z386 z387 z388 z389 z390
  obtain ⟨z383, rfl⟩ : ∃ m : Nat, z383 = m := ⟨_, hc0⟩
  obtain ⟨z384, rfl⟩ : ∃ m : Nat, z384 = m := ⟨_, hc1⟩
  obtain ⟨z385, rfl⟩ : ∃ m : Nat, z385 = m := ⟨_, hc2⟩
  obtain ⟨z386, rfl⟩ : ∃ m : Nat, z386 = m := ⟨_, hc3⟩
  obtain ⟨z387, rfl⟩ : ∃ m : Nat, z387 = m := ⟨_, hc4⟩
  obtain ⟨z388, rfl⟩ : ∃ m, z388 = hds m := ⟨_, hc5⟩
  obtain ⟨z390, rfl⟩ : ∃ m : Nat, z390 = m := ⟨_, hc6⟩
  simp only [Int.toNat_natCast, dhds_hds]
  exact cpush_ok ⟨z383, z384, z385, z386, z387, z388, z389⟩ z390
def cclE (c : Ch) : Int := if ¬ okCh c then 1 else if c.op = false then 14 else if c.holds.length ≠ 0 then 10 else 0
def cclC (c : Ch) : Ch × Int := if cclE c = 0 then (⟨c.id, c.loc, c.rem, c.res, c.most, [], false⟩, 0) else (default, cclE c)
theorem cclC_2 {c : Ch} : (cclC c).2 = cclE c := by
  unfold cclC
  split
  · rename_i h; exact h.symm
  · rfl
@[go_sem] def cclose_r (c : Ch) : D := .tup [.agg [.int .u64 (cclC c).1.id, .int .u64 (cclC c).1.loc, .int .u64 (cclC c).1.rem, .int .u64 (cclC c).1.res, .int .u64 (cclC c).1.most, .sl (hds (cclC c).1.holds), .bool (cclC c).1.op], .int .i64 (cclC c).2]
@[go_sem] abbrev n_cclose : FuncId := 103
@[go_sem] def cclose_T : Tab := [(75, sp_ccheck)]
theorem cclose_T_ok : TabOk Tryz.prog cclose_T := (TabOk.cons sp_ccheck_ok TabOk.nil)
set_option maxRecDepth 8000 in
set_option maxHeartbeats 1000000 in
theorem cclose_ok (c : Ch)  : PureFn Tryz.prog 103 [.agg [.c (.int .u64 (c.id : Int)), .c (.int .u64 (c.loc : Int)), .c (.int .u64 (c.rem : Int)), .c (.int .u64 (c.res : Int)), .c (.int .u64 (c.most : Int)), .sl (hds c.holds), .c (.bool c.op)]] (cclose_r c) := by
  refine .of (ac103 cclose_T_ok (Nat.le_of_ble_eq_true rfl) ?_)
  simp -implicitDefEqProofs only [cdA, go_sem, Go.Proofs.Tryz.f103, reduceIte, List.cons.injEq, cdB]
  have hc0 : chkC c = 0 ↔ okCh c := by unfold chkC; split <;> rename_i h <;> simp only [h] <;> decide
  have hbad : ∀ k, cclE c = k → ¬ k = 0 → (0 = ((cclC c).1.id : Int) ∧ 0 = ((cclC c).1.loc : Int) ∧ 0 = ((cclC c).1.rem : Int) ∧ 0 = ((cclC c).1.res : Int) ∧ 0 = ((cclC c).1.most : Int) ∧ hds (cclC c).1.holds = [] ∧ false = (cclC c).1.op) ∧ k = (cclC c).2 := fun k hk h0 => by
    have : cclC c = (default, k) := by rw [cclC, if_neg (by rw [hk]; exact h0), hk]
    rw [this]; exact ⟨⟨rfl, rfl, rfl, rfl, rfl, rfl, rfl⟩, rfl⟩
  refine ⟨fun h1 => ?_, fun h1 => hbad 1 (by rw [cclE, if_pos fun h => h1 (hc0.2 h)]) (by decide)⟩
  have hok := hc0.1 h1
  refine ⟨fun h3 _ => ?_, fun h3 => hbad 14 (by rw [cclE, if_neg (fun h => h hok), if_pos h3]) (by decide)⟩
  have h3' : ¬ c.op = false := by rw [h3]; decide
  refine ⟨fun h4 => hbad 10 (by rw [cclE, if_neg (fun h => h hok), if_neg h3', if_pos (by omega)]) (by decide), fun h4 => ?_⟩
  have e : cclE c = 0 := by rw [cclE, if_neg (fun h => h hok), if_neg h3', if_neg (by omega)]
  rw [cclC, if_pos e]
  exact ⟨⟨rfl, rfl, rfl, rfl, rfl, rfl, rfl⟩, rfl⟩
def sp_cclose : List D → Option (Prop × D × Fr)
  | [.agg [.c (.int .u64 z392), .c (.int .u64 z393), .c (.int .u64 z394), .c (.int .u64 z395), .c (.int .u64 z396), .c (.sl z397), .c (.bool z398)]] => some (z392 = (z392.toNat : Int) ∧ z393 = (z393.toNat : Int) ∧ z394 = (z394.toNat : Int) ∧ z395 = (z395.toNat : Int) ∧ z396 = (z396.toNat : Int) ∧ z397 = hds (dhds z397), cclose_r (⟨z392.toNat, z393.toNat, z394.toNat, z395.toNat, z396.toNat, (dhds z397), z398⟩ : Ch), [])
  | _ => none
attribute [go_sem] sp_cclose
theorem sp_cclose_ok : ∀ rs p r fr, sp_cclose rs = some (p, r, fr) → p → FnOk Tryz.prog 103 rs r fr := by
  intro rs p r fr h hp
  unfold sp_cclose at h
  split at h <;> cases h
  obtain ⟨hc0, hc1, hc2, hc3, hc4, hc5⟩ := hp
  rename_i z392 z393 z394 z395 z396 z397 z398
  obtain ⟨z392, rfl⟩ : ∃ m : Nat, z392 = m := ⟨_, hc0⟩
  obtain ⟨z393, rfl⟩ : ∃ m : Nat, z393 = m := ⟨_, hc1⟩
  obtain ⟨z394, rfl⟩ : ∃ m : Nat, z394 = m := ⟨_, hc2⟩
  obtain ⟨z395, rfl⟩ : ∃ m : Nat, z395 = m := ⟨_, hc3⟩
  obtain ⟨z396, rfl⟩ : ∃ m : Nat, z396 = m := ⟨_, hc4⟩
  obtain ⟨z397, rfl⟩ : ∃ m, z397 = hds m := ⟨_, hc5⟩
  simp only [Int.toNat_natCast, dhds_hds]
  exact cclose_ok ⟨z392, z393, z394, z395, z396, z397, z398⟩
def lpuL (l : List Ch) (id n : Nat) : List Ch × Int :=
  if okLd l then (if Srt.thr Ch.id ltN l id = true then (if cpuE (l.getD (Srt.pos Ch.id ltN l id) default) n = 0 then (l.set (Srt.pos Ch.id ltN l id) (cpuC (l.getD (Srt.pos Ch.id ltN l id) default) n).1, 0) else ([], cpuE (l.getD (Srt.pos Ch.id ltN l id) default) n)) else ([], 5)) else ([], 1)
@[go_sem] def lpush_r (l : List Ch) (id : Nat) (n : Nat) : D := .tup [.sl (chs (lpuL l id n).1), .int .i64 (lpuL l id n).2]
@[go_sem] abbrev n_lpush : FuncId := 59
@[go_sem] def lpush_T : Tab := [(29, sp_place), (102, sp_cpush), (77, sp_owns)]
theorem lpush_T_ok : TabOk Tryz.prog lpush_T := (TabOk.cons sp_place_ok (TabOk.cons sp_cpush_ok (TabOk.cons sp_owns_ok TabOk.nil)))
set_option maxRecDepth 8000 in
set_option maxHeartbeats 1000000 in
theorem lpush_ok (l : List Ch) (id : Nat) (n : Nat)  : PureFn Tryz.prog 59 [.sl (chs l), .c (.int .u64 (id : Int)), .c (.int .u64 (n : Int))] (lpush_r l id n) := by
  refine .of (ac59 lpush_T_ok (Nat.le_of_ble_eq_true rfl) ?_)
  simp -implicitDefEqProofs only [cdA, go_sem, Go.Proofs.Tryz.f59, reduceIte, List.cons.injEq, cdB]
  refine ac90 lpush_T_ok (Nat.le_of_ble_eq_true rfl) ?_
  simp -implicitDefEqProofs only [cdA, go_sem, Go.Proofs.Tryz.f90, reduceIte, List.cons.injEq, cdB]
  by_cases hok : okLd l
  · by_cases ht : Srt.thr Ch.id ltN l id = true
    · have e1 : placeL l id = (((Srt.pos Ch.id ltN l id : Nat) : Int), 0) := by rw [placeL, if_pos hok, if_pos ht]
      have hp : Srt.pos Ch.id ltN l id < l.length := by
        unfold Srt.thr at ht
        exact (of_decide_eq_true ht).1
      rw [e1, Int.toNat_natCast, lpuL, if_pos hok, if_pos ht]
      refine ⟨fun _ => ⟨⟨by omega, by omega⟩, ?_⟩, fun h => absurd rfl h⟩
      refine ac101 lpush_T_ok (Nat.le_of_ble_eq_true rfl) ?_
      simp -implicitDefEqProofs only [cdA, go_sem, Go.Proofs.Tryz.f101, reduceIte, List.cons.injEq, cdB]
      have h32 : l.length ≤ 1000000 ∧ ∀ c ∈ l, c.holds.length ≤ 1000000 := ⟨by have := hok.1; omega, fun c hc => by have := (hok.2.1 c hc).2.2.1; omega⟩
      rw [cpuC_2]
      refine ⟨fun h0 => ?_, fun h0 => ?_⟩
      · rw [if_pos h0]
        exact ⟨h32, by omega, hp, ⟨by simp, _, _, _, rfl⟩, rfl⟩
      · rw [if_neg h0]
        exact ⟨rfl, rfl⟩
    · have e1 : placeL l id = (0, 5) := by rw [placeL, if_pos hok, if_neg ht]
      have e2 : lpuL l id n = ([], 5) := by rw [lpuL, if_pos hok, if_neg ht]
      rw [e1, e2]
      exact ⟨fun h => absurd h (by decide), fun _ => ⟨rfl, rfl⟩⟩
  · have e1 : placeL l id = (0, 1) := by rw [placeL, if_neg hok]
    have e2 : lpuL l id n = ([], 1) := by rw [lpuL, if_neg hok]
    rw [e1, e2]
    exact ⟨fun h => absurd h (by decide), fun _ => ⟨rfl, rfl⟩⟩
def sp_lpush : List D → Option (Prop × D × Fr)
  | [.c (.sl z399), .c (.int .u64 z400), .c (.int .u64 z401)] => some (z399 = chs (dchs z399) ∧ z400 = (z400.toNat : Int) ∧ z401 = (z401.toNat : Int), lpush_r (dchs z399) z400.toNat z401.toNat, [])
  | _ => none
attribute [go_sem] sp_lpush
theorem sp_lpush_ok : ∀ rs p r fr, sp_lpush rs = some (p, r, fr) → p → FnOk Tryz.prog 59 rs r fr := by
  intro rs p r fr h hp
  unfold sp_lpush at h
  split at h <;> cases h
  obtain ⟨hc0, hc1, hc2⟩ := hp
  rename_i z399 z400 z401
  obtain ⟨z399, rfl⟩ : ∃ m, z399 = chs m := ⟨_, hc0⟩
  obtain ⟨z400, rfl⟩ : ∃ m : Nat, z400 = m := ⟨_, hc1⟩
  obtain ⟨z401, rfl⟩ : ∃ m : Nat, z401 = m := ⟨_, hc2⟩
  simp only [Int.toNat_natCast, dchs_chs]
  exact lpush_ok z399 z400 z401
def lclL (l : List Ch) (id : Nat) : List Ch × Int :=
  if okLd l then (if Srt.thr Ch.id ltN l id = true then (if cclE (l.getD (Srt.pos Ch.id ltN l id) default) = 0 then (l.set (Srt.pos Ch.id ltN l id) (cclC (l.getD (Srt.pos Ch.id ltN l id) default)).1, 0) else ([], cclE (l.getD (Srt.pos Ch.id ltN l id) default))) else ([], 5)) else ([], 1)
@[go_sem] def lclose_r (l : List Ch) (id : Nat) : D := .tup [.sl (chs (lclL l id).1), .int .i64 (lclL l id).2]
@[go_sem] abbrev n_lclose : FuncId := 61
@[go_sem] def lclose_T : Tab := [(29, sp_place), (103, sp_cclose), (77, sp_owns)]
theorem lclose_T_ok : TabOk Tryz.prog lclose_T := (TabOk.cons sp_place_ok (TabOk.cons sp_cclose_ok (TabOk.cons sp_owns_ok TabOk.nil)))
set_option maxRecDepth 8000 in
set_option maxHeartbeats 1000000 in
theorem lclose_ok (l : List Ch) (id : Nat)  : PureFn Tryz.prog 61 [.sl (chs l), .c (.int .u64 (id : Int))] (lclose_r l id) := by
  refine .of (ac61 lclose_T_ok (Nat.le_of_ble_eq_true rfl) ?_)
  simp -implicitDefEqProofs only [cdA, go_sem, Go.Proofs.Tryz.f61, reduceIte, List.cons.injEq, cdB]
  refine ac90 lclose_T_ok (Nat.le_of_ble_eq_true rfl) ?_
  simp -implicitDefEqProofs only [cdA, go_sem, Go.Proofs.Tryz.f90, reduceIte, List.cons.injEq, cdB]
  by_cases hok : okLd l
  · by_cases ht : Srt.thr Ch.id ltN l id = true
    · have e1 : placeL l id = (((Srt.pos Ch.id ltN l id : Nat) : Int), 0) := by rw [placeL, if_pos hok, if_pos ht]
      have hp : Srt.pos Ch.id ltN l id < l.length := by
        unfold Srt.thr at ht
        exact (of_decide_eq_true ht).1
      rw [e1, Int.toNat_natCast, lclL, if_pos hok, if_pos ht]
      have h32 : l.length ≤ 1000000 ∧ ∀ c ∈ l, c.holds.length ≤ 1000000 := ⟨by have := hok.1; omega, fun c hc => by have := (hok.2.1 c hc).2.2.1; omega⟩
      rw [cclC_2]
      refine ⟨fun _ => ⟨⟨by omega, by omega⟩, fun h0 => ?_, fun h0 => ?_⟩, fun h => absurd rfl h⟩
      · rw [if_pos h0]
        exact ⟨h32, by omega, hp, ⟨by simp, _, _, _, rfl⟩, rfl⟩
      · rw [if_neg h0]
        exact ⟨rfl, rfl⟩
    · have e1 : placeL l id = (0, 5) := by rw [placeL, if_pos hok, if_neg ht]
      have e2 : lclL l id = ([], 5) := by rw [lclL, if_pos hok, if_neg ht]
      rw [e1, e2]
      exact ⟨fun h => absurd h (by decide), fun _ => ⟨rfl, rfl⟩⟩
  · have e1 : placeL l id = (0, 1) := by rw [placeL, if_neg hok]
    have e2 : lclL l id = ([], 1) := by rw [lclL, if_neg hok]
    rw [e1, e2]
    exact ⟨fun h => absurd h (by decide), fun _ => ⟨rfl, rfl⟩⟩
def sp_lclose : List D → Option (Prop × D × Fr)
  | [.c (.sl z402), .c (.int .u64 z403)] => some (z402 = chs (dchs z402) ∧ z403 = (z403.toNat : Int), lclose_r (dchs z402) z403.toNat, [])
  | _ => none
attribute [go_sem] sp_lclose
theorem sp_lclose_ok : ∀ rs p r fr, sp_lclose rs = some (p, r, fr) → p → FnOk Tryz.prog 61 rs r fr := by
  intro rs p r fr h hp
  unfold sp_lclose at h
  split at h <;> cases h
  obtain ⟨hc0, hc1⟩ := hp
  rename_i z402 z403
  obtain ⟨z402, rfl⟩ : ∃ m, z402 = chs m := ⟨_, hc0⟩
  obtain ⟨z403, rfl⟩ : ∃ m : Nat, z403 = m := ⟨_, hc1⟩
  simp only [Int.toNat_natCast, dchs_chs]
  exact lclose_ok z402 z403
end Dm
namespace Dm
open Go Go.Proofs Go.IntWalk
def findI (l : List Iv) (id : Nat) : Int × Int := if okIv l then ((Srt.pos Iv.hash ltN l id : Nat), if Srt.thr Iv.hash ltN l id = true then 0 else 5) else (0, 1)
@[go_sem] def ifind_r (l : List Iv) (id : Nat) : D := .tup [.int .i64 (findI l id).1, .int .i64 (findI l id).2]
@[go_sem] abbrev n_ifind : FuncId := 97
@[go_sem] def ifind_T : Tab := [(27, sp_icheck), (67, sp_iorder)]
theorem ifind_T_ok : TabOk Tryz.prog ifind_T := (TabOk.cons sp_icheck_ok (TabOk.cons sp_iorder_ok TabOk.nil))
set_option maxRecDepth 8000 in
set_option maxHeartbeats 1000000 in
theorem ifind_ok (l : List Iv) (id : Nat)  : PureFn Tryz.prog 97 [.sl (ivs l), .c (.int .u64 (id : Int))] (ifind_r l id) := by
  refine .of (ac97 ifind_T_ok (Nat.le_of_ble_eq_true rfl) ?_)
  simp -implicitDefEqProofs only [cdA, go_sem, Go.Proofs.Tryz.f97, reduceIte, List.cons.injEq, cdB]
  have hcz : chkI l = 0 ↔ okIv l := by unfold chkI; split <;> simp_all
  refine ⟨fun hok0 => ?_, fun hno0 => by
    have hno : ¬ okIv l := fun h => hno0 (hcz.2 h)
    rw [findI, chkI, if_neg hno, if_neg hno]; exact ⟨rfl, rfl⟩⟩
  have hok := hcz.1 hok0
  have hu : Srt.Up Iv.hash ltN l := (Srt.chn_up (lt := ltN) Srt.totNat).1 hok.2.2
  have hl32 := hok.1
  refine ac131 ifind_T_ok (Nat.le_of_ble_eq_true rfl) ?_
  simp -implicitDefEqProofs only [cdA, go_sem, Go.Proofs.Tryz.f131, reduceIte, List.cons.injEq, cdB]
  refine fun _ => SWp.loop (ι := { x : Nat × Nat // x.1 ≤ x.2 ∧ x.2 ≤ l.length ∧ (∀ k, k < x.1 → (l.getD k default).hash < id) ∧ ∀ k, x.2 ≤ k → k < l.length → ¬ (l.getD k default).hash < id }) (fun x => ⟨[(0, .sl (ivs l)), (1, .int .u64 id), (2, .fn (.func 67) [] []), (8, .int .i64 l.length), (9, .int .i64 x.1.1), (10, .int .i64 x.1.2)], [], 0⟩) (fun x => x.1.2 - x.1.1) ⟨(0, l.length), by simp, by simp, fun k hk => absurd hk (by simp), fun k h1 h2 => absurd h1 (by simpa using h2)⟩ ?_ ?_
  · simp [go_sem]
  · rintro ⟨⟨i, j⟩, hij, hj, hlo, hup⟩
    dsimp only at hij hj hlo hup
    refine awp_sound ifind_T_ok.toS lv131 _ _ _ rfl ?_
    simp -implicitDefEqProofs only [cdA, go_sem, reduceIte, List.cons.injEq, cdB]
    rw [mid_eq hij hj ‹_›]
    refine ⟨fun h4 => ?_, fun h4 => ?_⟩
    · have hm : (i + j) / 2 < l.length := by omega
      rw [cmpS_neg, Int.toNat_natCast]
      refine ⟨by omega, fun h5 => ⟨⟨((i + j) / 2 + 1, j), by dsimp only; omega, hj, fun k hk => ?_, hup⟩, by dsimp only; omega, i64_in _ (by omega), rfl⟩, fun h5 => ⟨⟨(i, (i + j) / 2), by dsimp only; omega, by dsimp only; omega, hlo, fun k hk1 hk2 => ?_⟩, by dsimp only; omega, rfl, rfl⟩⟩
      · dsimp only at hk
        by_cases hkm : k = (i + j) / 2
        · rw [hkm]; omega
        · have := Srt.up_get.1 hu k _ (by omega) hm
          simp only [ltN] at this; omega
      · dsimp only at hk1
        by_cases hkm : k = (i + j) / 2
        · rw [hkm]; omega
        · have := Srt.up_get.1 hu ((i + j) / 2) k (by omega) hk2
          simp only [ltN] at this; omega
    · have hp : Srt.pos Iv.hash ltN l id = i := Srt.pos_eq (by omega) hlo (fun h => hup i (by omega) h)
      rw [findI, if_pos hok, Srt.thr, hp, cmpS_0]
      refine ⟨fun h5 => ⟨by omega, fun h6 => ?_, fun h6 => ?_⟩, fun h5 => ?_⟩
      · rw [if_pos (decide_eq_true ⟨by omega, by omega⟩)]; exact ⟨rfl, rfl⟩
      · rw [if_neg (by rw [decide_eq_true_iff]; omega)]; exact ⟨rfl, rfl⟩
      · rw [if_neg (by rw [decide_eq_true_iff]; omega)]; exact ⟨rfl, rfl⟩
def sp_ifind : List D → Option (Prop × D × Fr)
  | [.c (.sl z364), .c (.int .u64 z365)] => some (z364 = ivs (divs z364) ∧ z365 = (z365.toNat : Int), ifind_r (divs z364) z365.toNat, [])
  | _ => none
attribute [go_sem] sp_ifind
theorem sp_ifind_ok : ∀ rs p r fr, sp_ifind rs = some (p, r, fr) → p → FnOk Tryz.prog 97 rs r fr := by
  intro rs p r fr h hp
  unfold sp_ifind at h
  split at h <;> cases h
  obtain ⟨hc0, hc1⟩ := hp
  rename_i z364 z365
  obtain ⟨z364, rfl⟩ : ∃ m, z364 = ivs m := ⟨_, hc0⟩
  obtain ⟨z365, rfl⟩ : ∃ m : Nat, z365 = m := ⟨_, hc1⟩
  simp only [Int.toNat_natCast, divs_ivs]
  exact ifind_ok z364 z365
def nowI (x : Iv) (tick : Nat) : Int := if x.state = 1 ∧ x.till < tick then 4 else x.state
@[go_sem] def inow_r (x : Iv) (tick : Nat) : D := .int .i64 (nowI x tick)
@[go_sem] abbrev n_inow : FuncId := 105
@[go_sem] def inow_T : Tab := []
theorem inow_T_ok : TabOk Tryz.prog inow_T := TabOk.nil
set_option maxRecDepth 8000 in
set_option maxHeartbeats 1000000 in
theorem inow_ok (x : Iv) (tick : Nat)  : PureFn Tryz.prog 105 [.agg [.c (.int .u64 (x.hash : Int)), .c (.int .u64 (x.n : Int)), .c (.int .u64 (x.till : Int)), .c (.int .i64 x.state)], .c (.int .u64 (tick : Int))] (inow_r x tick) := by
  refine .of (ac105 inow_T_ok (Nat.le_of_ble_eq_true rfl) ?_)
  simp -implicitDefEqProofs only [cdA, go_sem, Go.Proofs.Tryz.f105, reduceIte, List.cons.injEq, cdB]
  unfold nowI
  refine ⟨fun h1 => ⟨fun h2 => ?_, fun h2 => ?_⟩, fun h1 => ?_⟩
  · rw [if_pos ⟨h1, by omega⟩]
  · rw [if_neg (by rintro ⟨_, h⟩; omega)]
  · rw [if_neg (by rintro ⟨h, _⟩; exact h1 h)]
def sp_inow : List D → Option (Prop × D × Fr)
  | [.agg [.c (.int .u64 z367), .c (.int .u64 z368), .c (.int .u64 z369), .c (.int .i64 z370)], .c (.int .u64 z371)] => some (z367 = (z367.toNat : Int) ∧ z368 = (z368.toNat : Int) ∧ z369 = (z369.toNat : Int) ∧ z371 = (z371.toNat : Int), inow_r (⟨z367.toNat, z368.toNat, z369.toNat, z370⟩ : Iv) z371.toNat, [])
  | _ => none
attribute [go_sem] sp_inow
theorem sp_inow_ok : ∀ rs p r fr, sp_inow rs = some (p, r, fr) → p → FnOk Tryz.prog 105 rs r fr := by
  intro rs p r fr h hp
  unfold sp_inow at h
  split at h <;> cases h
  obtain ⟨hc0, hc1, hc2, hc3⟩ := hp
  rename_i z367 z368 z369 z370 z371
  obtain ⟨z367, rfl⟩ : ∃ m : Nat, z367 = m := ⟨_, hc0⟩
  obtain ⟨z368, rfl⟩ : ∃ m : Nat, z368 = m := ⟨_, hc1⟩
  obtain ⟨z369, rfl⟩ : ∃ m : Nat, z369 = m := ⟨_, hc2⟩
  obtain ⟨z371, rfl⟩ : ∃ m : Nat, z371 = m := ⟨_, hc3⟩
  simp only [Int.toNat_natCast]
  exact inow_ok ⟨z367, z368, z369, z370⟩ z371
@[go_sem] def ivclonef_r (l : List Iv) : D := .vec 0 l.length
@[go_sem] def ivclonef_fr (l : List Iv) : Fr := [(4, 117, true, ivs l)]
@[go_sem] abbrev n_ivclonef : FuncId := 99
@[go_sem] def ivclonef_T : Tab := []
theorem ivclonef_T_ok : TabOk Tryz.prog ivclonef_T := TabOk.nil
set_option maxRecDepth 8000 in
set_option maxHeartbeats 1000000 in
theorem ivclonef_ok (l : List Iv) (hl : l.length ≤ 1000000) : FreshFn Tryz.prog 99 [.sl (ivs l)] (ivclonef_r l) (ivclonef_fr l) := by
  refine .of (ac99 ivclonef_T_ok (Nat.le_of_ble_eq_true rfl) ?_)
  simp -implicitDefEqProofs only [cdA, go_sem, Go.Proofs.Tryz.f99, reduceIte, List.cons.injEq, cdB]
  refine fun b hb => ⟨fun h => ?_, fun h => ?_⟩
  · exact ⟨[none], by simp [go_sem, hb h], by cases l <;> simp_all [go_sem, ivs]⟩
  · exact ⟨by omega, [some 0], by simp [go_sem]⟩
@[go_sem] def ivclonef_p (l : List Iv) : Prop := (l.length ≤ 1000000)
def sp_ivclonef : List D → Option (Prop × D × Fr)
  | [.c (.sl z372)] => some (z372 = ivs (divs z372) ∧ ivclonef_p (divs z372), ivclonef_r (divs z372), ivclonef_fr (divs z372))
  | _ => none
attribute [go_sem] sp_ivclonef
theorem sp_ivclonef_ok : ∀ rs p r fr, sp_ivclonef rs = some (p, r, fr) → p → FnOk Tryz.prog 99 rs r fr := by
  intro rs p r fr h hp
  unfold sp_ivclonef at h
  split at h <;> cases h
  obtain ⟨hc0, hp⟩ := hp
  rename_i z372
  obtain ⟨z372, rfl⟩ : ∃ m, z372 = ivs m := ⟨_, hc0⟩
  simp only [divs_ivs]
  simp only [divs_ivs, ivclonef_p] at hp
  exact (show FnOk _ _ _ _ _ from And.intro rfl (ivclonef_ok z372 hp))
def iendE (l : List Iv) (hash tick n : Nat) : Int :=
  if okIv l then (if Srt.thr Iv.hash ltN l hash = true then (if nowI (l.getD (Srt.pos Iv.hash ltN l hash) default) tick = 4 then 13 else if nowI (l.getD (Srt.pos Iv.hash ltN l hash) default) tick ≠ 1 then 10 else if n < (l.getD (Srt.pos Iv.hash ltN l hash) default).n then 9 else 0) else 5) else 1
def iendL (l : List Iv) (hash tick n : Nat) (st : Int) : List Iv × Int :=
  if iendE l hash tick n = 0 then (l.set (Srt.pos Iv.hash ltN l hash) { l.getD (Srt.pos Iv.hash ltN l hash) default with state := st }, 0) else ([], iendE l hash tick n)
@[go_sem] def icancel_r (l : List Iv) (hash : Nat) (tick : Nat) : D := .tup [.sl (ivs (iendL l hash tick MM 3).1), .int .i64 (iendL l hash tick MM 3).2]
@[go_sem] abbrev n_icancel : FuncId := 55
@[go_sem] def icancel_T : Tab := [(97, sp_ifind), (105, sp_inow), (99, sp_ivclonef)]
theorem icancel_T_ok : TabOk Tryz.prog icancel_T := (TabOk.cons sp_ifind_ok (TabOk.cons sp_inow_ok (TabOk.cons sp_ivclonef_ok TabOk.nil)))
set_option maxRecDepth 8000 in
set_option maxHeartbeats 1000000 in
theorem icancel_ok (l : List Iv) (hash : Nat) (tick : Nat)  : PureFn Tryz.prog 55 [.sl (ivs l), .c (.int .u64 (hash : Int)), .c (.int .u64 (tick : Int))] (icancel_r l hash tick) := by
  refine .of (ac55 icancel_T_ok (Nat.le_of_ble_eq_true rfl) ?_)
  simp -implicitDefEqProofs only [cdA, go_sem, Go.Proofs.Tryz.f55, reduceIte, List.cons.injEq, cdB]
  refine ac100 icancel_T_ok (Nat.le_of_ble_eq_true rfl) ?_
  simp -implicitDefEqProofs only [cdA, go_sem, Go.Proofs.Tryz.f100, reduceIte, List.cons.injEq, cdB]
  have hbad : ∀ e, iendE l hash tick MM = e → ¬ e = 0 → ivs (iendL l hash tick MM 3).1 = [] ∧ e = (iendL l hash tick MM 3).2 := fun e h1 h2 => by
    rw [iendL, if_neg (by rw [h1]; exact h2), h1]; exact ⟨rfl, rfl⟩
  by_cases hok : okIv l
  rotate_left 1
  · have ef : findI l hash = (0, 1) := by rw [findI, if_neg hok]
    rw [ef]
    exact ⟨fun h => absurd (show (1 : Int) = 0 from h) (by decide), fun _ => hbad 1 (by rw [iendE, if_neg hok]) (by decide)⟩
  by_cases ht : Srt.thr Iv.hash ltN l hash = true
  rotate_left 1
  · have ef : findI l hash = (((Srt.pos Iv.hash ltN l hash : Nat) : Int), 5) := by rw [findI, if_pos hok, if_neg ht]
    rw [ef]
    exact ⟨fun h => absurd (show (5 : Int) = 0 from h) (by decide), fun _ => hbad 5 (by rw [iendE, if_pos hok, if_neg ht]) (by decide)⟩
  have ef : findI l hash = (((Srt.pos Iv.hash ltN l hash : Nat) : Int), 0) := by rw [findI, if_pos hok, if_pos ht]
  have hp : Srt.pos Iv.hash ltN l hash < l.length := by
    have ht := ht
    unfold Srt.thr at ht
    exact (of_decide_eq_true ht).1
  have h256 := hok.1
  have he : iendE l hash tick MM = if nowI (l.getD (Srt.pos Iv.hash ltN l hash) default) tick = 4 then 13 else if nowI (l.getD (Srt.pos Iv.hash ltN l hash) default) tick ≠ 1 then 10 else if MM < (l.getD (Srt.pos Iv.hash ltN l hash) default).n then 9 else 0 := by rw [iendE, if_pos hok, if_pos ht]
  rw [ef]
  dsimp only
  rw [Int.toNat_natCast]
  refine ⟨fun _ => ⟨⟨by omega, by omega⟩, fun h1 => hbad 13 (by rw [he, if_pos h1]) (by decide), fun h1 => ⟨fun h2 => ⟨⟨by omega, by omega⟩, fun h3 => hbad 9 (by rw [he, if_neg h1, if_neg (fun h => h h2), if_pos (by unfold MM; omega)]) (by decide), fun h3 => ?_⟩, fun h2 => hbad 10 (by rw [he, if_neg h1, if_pos h2]) (by decide)⟩⟩, fun h => absurd rfl h⟩
  have h0 : iendE l hash tick MM = 0 := by rw [he, if_neg h1, if_neg (fun h => h h2), if_neg (by unfold MM; omega)]
  rw [iendL, if_pos h0]
  exact ⟨by omega, ⟨by omega, by omega⟩, hp, ⟨by rw [List.length_set], _, _, _, rfl⟩, rfl⟩
def sp_icancel : List D → Option (Prop × D × Fr)
  | [.c (.sl z373), .c (.int .u64 z374), .c (.int .u64 z375)] => some (z373 = ivs (divs z373) ∧ z374 = (z374.toNat : Int) ∧ z375 = (z375.toNat : Int), icancel_r (divs z373) z374.toNat z375.toNat, [])
  | _ => none
attribute [go_sem] sp_icancel
theorem sp_icancel_ok : ∀ rs p r fr, sp_icancel rs = some (p, r, fr) → p → FnOk Tryz.prog 55 rs r fr := by
  intro rs p r fr h hp
  unfold sp_icancel at h
  split at h <;> cases h
  obtain ⟨hc0, hc1, hc2⟩ := hp
  rename_i z373 z374 z375
  obtain ⟨z373, rfl⟩ : ∃ m, z373 = ivs m := ⟨_, hc0⟩
  obtain ⟨z374, rfl⟩ : ∃ m : Nat, z374 = m := ⟨_, hc1⟩
  obtain ⟨z375, rfl⟩ : ∃ m : Nat, z375 = m := ⟨_, hc2⟩
  simp only [Int.toNat_natCast, divs_ivs]
  exact icancel_ok z373 z374 z375
@[go_sem] def ipay_r (l : List Iv) (hash : Nat) (n : Nat) (tick : Nat) : D := .tup [.sl (ivs (iendL l hash tick n 2).1), .int .i64 (iendL l hash tick n 2).2]
@[go_sem] abbrev n_ipay : FuncId := 57
@[go_sem] def ipay_T : Tab := [(97, sp_ifind), (105, sp_inow), (99, sp_ivclonef)]
theorem ipay_T_ok : TabOk Tryz.prog ipay_T := (TabOk.cons sp_ifind_ok (TabOk.cons sp_inow_ok (TabOk.cons sp_ivclonef_ok TabOk.nil)))
set_option maxRecDepth 8000 in
set_option maxHeartbeats 1000000 in
theorem ipay_ok (l : List Iv) (hash : Nat) (n : Nat) (tick : Nat)  : PureFn Tryz.prog 57 [.sl (ivs l), .c (.int .u64 (hash : Int)), .c (.int .u64 (n : Int)), .c (.int .u64 (tick : Int))] (ipay_r l hash n tick) := by
  refine .of (ac57 ipay_T_ok (Nat.le_of_ble_eq_true rfl) ?_)
  simp -implicitDefEqProofs only [cdA, go_sem, Go.Proofs.Tryz.f57, reduceIte, List.cons.injEq, cdB]
  refine ac100 ipay_T_ok (Nat.le_of_ble_eq_true rfl) ?_
  simp -implicitDefEqProofs only [cdA, go_sem, Go.Proofs.Tryz.f100, reduceIte, List.cons.injEq, cdB]
  have hbad : ∀ e, iendE l hash tick n = e → ¬ e = 0 → ivs (iendL l hash tick n 2).1 = [] ∧ e = (iendL l hash tick n 2).2 := fun e h1 h2 => by
    rw [iendL, if_neg (by rw [h1]; exact h2), h1]; exact ⟨rfl, rfl⟩
  by_cases hok : okIv l
  rotate_left 1
  · have ef : findI l hash = (0, 1) := by rw [findI, if_neg hok]
    rw [ef]
    exact ⟨fun h => absurd (show (1 : Int) = 0 from h) (by decide), fun _ => hbad 1 (by rw [iendE, if_neg hok]) (by decide)⟩
  by_cases ht : Srt.thr Iv.hash ltN l hash = true
  rotate_left 1
  · have ef : findI l hash = (((Srt.pos Iv.hash ltN l hash : Nat) : Int), 5) := by rw [findI, if_pos hok, if_neg ht]
    rw [ef]
    exact ⟨fun h => absurd (show (5 : Int) = 0 from h) (by decide), fun _ => hbad 5 (by rw [iendE, if_pos hok, if_neg ht]) (by decide)⟩
  have ef : findI l hash = (((Srt.pos Iv.hash ltN l hash : Nat) : Int), 0) := by rw [findI, if_pos hok, if_pos ht]
  have hp : Srt.pos Iv.hash ltN l hash < l.length := by
    have ht := ht
    unfold Srt.thr at ht
    exact (of_decide_eq_true ht).1
  have h256 := hok.1
  have he : iendE l hash tick n = if nowI (l.getD (Srt.pos Iv.hash ltN l hash) default) tick = 4 then 13 else if nowI (l.getD (Srt.pos Iv.hash ltN l hash) default) tick ≠ 1 then 10 else if n < (l.getD (Srt.pos Iv.hash ltN l hash) default).n then 9 else 0 := by rw [iendE, if_pos hok, if_pos ht]
  rw [ef]
  dsimp only
  rw [Int.toNat_natCast]
  refine ⟨fun _ => ⟨⟨by omega, by omega⟩, fun h1 => hbad 13 (by rw [he, if_pos h1]) (by decide), fun h1 => ⟨fun h2 => ⟨⟨by omega, by omega⟩, fun h3 => hbad 9 (by rw [he, if_neg h1, if_neg (fun h => h h2), if_pos (by skip; omega)]) (by decide), fun h3 => ?_⟩, fun h2 => hbad 10 (by rw [he, if_neg h1, if_pos h2]) (by decide)⟩⟩, fun h => absurd rfl h⟩
  have h0 : iendE l hash tick n = 0 := by rw [he, if_neg h1, if_neg (fun h => h h2), if_neg (by skip; omega)]
  rw [iendL, if_pos h0]
  exact ⟨by omega, ⟨by omega, by omega⟩, hp, ⟨by rw [List.length_set], _, _, _, rfl⟩, rfl⟩
def sp_ipay : List D → Option (Prop × D × Fr)
  | [.c (.sl z376), .c (.int .u64 z377), .c (.int .u64 z378), .c (.int .u64 z379)] => some (z376 = ivs (divs z376) ∧ z377 = (z377.toNat : Int) ∧ z378 = (z378.toNat : Int) ∧ z379 = (z379.toNat : Int), ipay_r (divs z376) z377.toNat z378.toNat z379.toNat, [])
  | _ => none
attribute [go_sem] sp_ipay
theorem sp_ipay_ok : ∀ rs p r fr, sp_ipay rs = some (p, r, fr) → p → FnOk Tryz.prog 57 rs r fr := by
  intro rs p r fr h hp
  unfold sp_ipay at h
  split at h <;> cases h
  obtain ⟨hc0, hc1, hc2, hc3⟩ := hp
  rename_i z376 z377 z378 z379
  obtain ⟨z376, rfl⟩ : ∃ m, z376 = ivs m := ⟨_, hc0⟩
  obtain ⟨z377, rfl⟩ : ∃ m : Nat, z377 = m := ⟨_, hc1⟩
  obtain ⟨z378, rfl⟩ : ∃ m : Nat, z378 = m := ⟨_, hc2⟩
  obtain ⟨z379, rfl⟩ : ∃ m : Nat, z379 = m := ⟨_, hc3⟩
  simp only [Int.toNat_natCast, divs_ivs]
  exact ipay_ok z376 z377 z378 z379
def overI (tick : Nat) (x : Iv) : Bool := decide (nowI x tick = 4 ∨ x.state = 3)
def sweepI (l : List Iv) (tick : Nat) : List Iv × Int := if okIv l then (l.filter fun x => !overI tick x, 0) else ([], 1)
@[go_sem] def isweep_r (l : List Iv) (tick : Nat) : D := .tup [.sl (ivs (sweepI l tick).1), .int .i64 (sweepI l tick).2]
@[go_sem] abbrev n_isweep : FuncId := 63
@[go_sem] def isweep_T : Tab := [(27, sp_icheck), (105, sp_inow), (99, sp_ivclonef)]
theorem isweep_T_ok : TabOk Tryz.prog isweep_T := (TabOk.cons sp_icheck_ok (TabOk.cons sp_inow_ok (TabOk.cons sp_ivclonef_ok TabOk.nil)))
set_option maxRecDepth 8000 in
set_option maxHeartbeats 1000000 in
theorem isweep_ok (l : List Iv) (tick : Nat)  : PureFn Tryz.prog 63 [.sl (ivs l), .c (.int .u64 (tick : Int))] (isweep_r l tick) := by
  refine .of (ac63 isweep_T_ok (Nat.le_of_ble_eq_true rfl) ?_)
  simp -implicitDefEqProofs only [cdA, go_sem, Go.Proofs.Tryz.f63, reduceIte, List.cons.injEq, cdB]
  have hcz : chkI l = 0 ↔ okIv l := by unfold chkI; split <;> rename_i h <;> simp only [h] <;> decide
  refine ⟨fun h0 => ?_, fun h0 => by
    have hno : ¬ okIv l := fun h => h0 (hcz.2 h)
    rw [sweepI, chkI, if_neg hno, if_neg hno]; exact ⟨rfl, rfl⟩⟩
  have hok := hcz.1 h0
  have h256 := hok.1
  refine ⟨by omega, ?_⟩
  refine ACall.seal ?_
  refine acall_introM (n := 42) (fn := Tryz.f106) (by kernel_rfl) rfl rfl rfl (Nat.le_of_ble_eq_true rfl) (rs := [.tmp 4]) rfl ?_
  refine SWm.seq (SWm.awp isweep_T_ok.toS lv106 rfl ?_)
  simp -implicitDefEqProofs only [cdA, go_sem, reduceIte, List.cons.injEq, cdB]
  refine SWm.seq (SWm.awp isweep_T_ok.toS lv106 rfl ?_)
  simp -implicitDefEqProofs only [cdA, go_sem, reduceIte, List.cons.injEq, cdB]
  refine ac135 isweep_T_ok (Nat.le_of_ble_eq_true rfl) ?_
  simp -implicitDefEqProofs only [cdA, go_sem, Go.Proofs.Tryz.f135, reduceIte, List.cons.injEq, cdB]
  refine fun _ => SWp.loop (ι := { i : Nat // i ≤ l.length ∧ ∀ j, j < i → overI tick (l.getD j default) = false }) (fun i => ⟨[(0, .vec 1 l.length), (1, .fn (.func 104) [] [.ref 0 0]), (7, .int .i64 l.length), (8, .int .i64 i.1)],
    [(1, .vec true 4 117 (ivs l)), (0, .box [.c (.int .u64 tick)])], 2⟩) (fun i => l.length - i.1) ⟨0, by simp⟩ ?_ ?_
  · simp [go_sem]
  · rintro ⟨i, hi, hall⟩
    refine awp_sound isweep_T_ok.toS lv135 _ _ _ rfl ?_
    simp -implicitDefEqProofs only [cdA, go_sem, reduceIte, List.cons.injEq, cdB]
    refine ⟨fun h4 => ⟨by omega, by omega, ?_⟩, fun h4 => ?_⟩
    · skip
      refine ac104 isweep_T_ok (Nat.le_of_ble_eq_true rfl) ?_
      simp -implicitDefEqProofs only [cdA, go_sem, Go.Proofs.Tryz.f104, reduceIte, List.cons.injEq, cdB]
      have hi' : i < l.length := by omega
      have hov : ∀ x : Iv, overI tick x = true ↔ nowI x tick = 4 ∨ x.state = 3 := fun x => decide_eq_true_iff
      have hb0 : overI tick (l.getD i default) = true → l.take i = (l.take (i + 1)).filter (fun y => !overI tick y) := fun hv => by
        rw [take_succ hi', List.filter_append, List.filter_eq_self.2 (fun x hx => ?_), List.filter_cons_of_neg (by rw [hv]; decide), List.filter_nil, List.append_nil]
        obtain ⟨j, hj, rfl⟩ := mem_getD.1 hx
        rw [List.length_take] at hj
        rw [List.getD_eq_getElem?_getD, List.getElem?_take_of_lt (by omega), ← List.getD_eq_getElem?_getD, hall j (by omega)]; rfl
      refine ⟨fun h1 => ⟨fun h2 => ?_, fun h2 => ⟨⟨i + 1, by omega, fun j hj => ?_⟩, by dsimp only; omega, i64_in _ (by omega)⟩⟩, fun h1 => ?_⟩
      rotate_left 1
      · by_cases hji : j = i
        · subst hji
          have : ¬ overI tick (l.getD j default) = true := fun h => by
            rcases (hov _).1 h with h | h
            · exact h1 h
            · exact h2 h
          simpa using this
        · exact hall j (by omega)
      all_goals
        have hb1 := hb0 ((hov _).2 (by first | exact .inl h1 | exact .inr h2))
        refine SWm.seq (SWm.awp isweep_T_ok.toS lv106 rfl ?_)
        simp -implicitDefEqProofs only [cdA, go_sem, reduceIte, List.cons.injEq, cdB]
        refine ⟨fun h => h.elim, ?_⟩
        refine SWm.seq (SWm.seq (SWm.awp isweep_T_ok.toS lv106 rfl ?_))
        simp -implicitDefEqProofs only [cdA, go_sem, reduceIte, List.cons.injEq, cdB]
        rw [i64_in _ (by omega)]
        refine SWm.block (SWm.of (SWp.loop (ι := { x : Nat × Nat × List Iv // x.1 < x.2.1 ∧ x.2.1 ≤ l.length ∧ x.2.2.length = l.length ∧ x.2.2.take x.1 = (l.take x.2.1).filter (fun y => !overI tick y) ∧ x.2.2.drop x.2.1 = l.drop x.2.1 })
          (fun x => ⟨[(0, .vec 1 l.length), (1, .fn (.func 104) [] [.ref 0 0]), (5, .int .i64 x.1.1), (6, .int .i64 x.1.2.1)],
            [(2, .box [.c (.int .u64 (l.getD i default).hash), .c (.int .u64 (l.getD i default).n), .c (.int .u64 (l.getD i default).till), .c (.int .i64 (l.getD i default).state)]), (1, .vec true 4 117 (ivs x.1.2.2)), (0, .box [.c (.int .u64 tick)])], 3⟩) (fun x => l.length - x.1.2.1) ⟨(i, i + 1, l), by dsimp only; omega, by dsimp only; omega, rfl, hb1, rfl⟩ ?_ ?_))
      all_goals first | (simp [go_sem]; done) | skip
      all_goals
        rintro ⟨⟨k, j, m⟩, hkj, hj, hml, hmt, hmd⟩
        refine awp_sound isweep_T_ok.toS lv106 _ _ _ rfl ?_
        simp -implicitDefEqProofs only [cdA, go_sem, reduceIte, List.cons.injEq, cdB]
        dsimp only at hkj hj hml hmt hmd
        refine fun _ => ⟨fun h5 => ⟨by omega, ⟨hml.symm, by omega⟩, ?_⟩, fun h5 => ?_⟩
        · skip
          refine ac104 isweep_T_ok (Nat.le_of_ble_eq_true rfl) ?_
          simp -implicitDefEqProofs only [cdA, go_sem, Go.Proofs.Tryz.f104, reduceIte, List.cons.injEq, cdB]
          have hj' : j < l.length := by omega
          have hmj : m.getD j default = l.getD j default := by
            have h6 : (m.drop j)[0]? = (l.drop j)[0]? := by rw [hmd]
            rw [List.getElem?_drop, List.getElem?_drop, Nat.add_zero] at h6
            rw [List.getD_eq_getElem?_getD, h6, ← List.getD_eq_getElem?_getD]
          have hmd2 : m.drop (j + 1) = l.drop (j + 1) := by
            rw [← List.drop_drop, hmd, List.drop_drop]
          have hgo : overI tick (l.getD j default) = true → m.take k = (l.take (j + 1)).filter (fun y => !overI tick y) := fun hv => by
            rw [take_succ hj', List.filter_append, List.filter_cons_of_neg (by rw [hv]; decide), List.filter_nil, List.append_nil, hmt]
          have hkeep : ¬ overI tick (l.getD j default) = true → (m.set k (l.getD j default)).take (k + 1) = (l.take (j + 1)).filter (fun y => !overI tick y) := fun hv => by
            rw [take_succ hj', List.filter_append, List.filter_cons_of_pos (by simpa using hv), List.filter_nil, ← hmt, List.take_set, take_succ (by omega), List.set_append_right _ _ (by rw [List.length_take]; omega), List.length_take, show k - min k m.length = 0 by omega]
            rfl
          rw [hmj]
          refine ⟨fun h6 => ⟨fun h7 => ⟨⟨(k, j + 1, m), by dsimp only; omega, hj', hml, hgo ((hov _).2 (.inr h7)), hmd2⟩, by dsimp only; omega, ⟨rfl, i64_in _ (by omega)⟩, rfl⟩, fun h7 => ⟨by omega, ⟨hml.symm, by omega⟩, ⟨(k + 1, j + 1, m.set k (l.getD j default)), by dsimp only; omega, hj', by dsimp only; rw [List.length_set]; exact hml, hkeep (fun h => by rcases (hov _).1 h with h | h <;> first | exact h6 h | exact h7 h), ?_⟩, by dsimp only; omega, ⟨i64_in _ (by omega), i64_in _ (by omega)⟩, rfl⟩⟩,
            fun h6 => ⟨⟨(k, j + 1, m), by dsimp only; omega, hj', hml, hgo ((hov _).2 (.inl h6)), hmd2⟩, by dsimp only; omega, ⟨rfl, i64_in _ (by omega)⟩, rfl⟩⟩
          dsimp only
          rw [List.drop_set_of_lt (by omega)]; exact hmd2
        · have hj' : j = l.length := by omega
          subst hj'
          refine SWm.opn 1 rfl fun cp hc hcm => ?_
          rw [ivs_length] at hc
          refine SWm.awp isweep_T_ok.toS lv106 rfl ?_
          simp -implicitDefEqProofs only [cdA, go_sem, List.map_cons, List.map_nil, hml, eq_self, reduceIte, List.cons.injEq, cdB]
          have hsw : sweepI l tick = (m.take k, 0) := by rw [sweepI, if_pos hok, hmt, List.take_length]
          have hkl : (m.take k).length = k := by rw [List.length_take]; omega
          have hfin : ∀ Z : List (List C), List.take k (fit cp 4 (List.take k (fit cp 4 (ivs m)) ++ Z)) = ivs (m.take k) := fun Z => by
            rw [fit_take (by rw [List.length_append, List.length_take, fit_length]; omega) (by omega), List.take_append_of_le_length (by rw [List.length_take, fit_length]; omega), List.take_take, Nat.min_self, fit_take (by rw [ivs_length]; omega) (by omega)]
            simp [ivs, List.map_take]
          rw [hfin, hsw]
          exact ⟨by omega, by omega, ⟨hkl.symm, _, _, _, rfl⟩, rfl⟩
    · have hi' : i = l.length := by omega
      subst hi'
      have hsw : sweepI l tick = (l, 0) := by
        rw [sweepI, if_pos hok, List.filter_eq_self.2 fun x hx => ?_]
        obtain ⟨j, hj, rfl⟩ := mem_getD.1 hx
        rw [hall j (by omega)]; rfl
      refine SWm.seq (SWm.awp isweep_T_ok.toS lv106 rfl ?_)
      simp -implicitDefEqProofs only [cdA, go_sem, reduceIte, List.cons.injEq, cdB]
      rw [hsw]
      exact ⟨⟨rfl, _, _, _, rfl⟩, rfl⟩
def sp_isweep : List D → Option (Prop × D × Fr)
  | [.c (.sl z380), .c (.int .u64 z381)] => some (z380 = ivs (divs z380) ∧ z381 = (z381.toNat : Int), isweep_r (divs z380) z381.toNat, [])
  | _ => none
attribute [go_sem] sp_isweep
theorem sp_isweep_ok : ∀ rs p r fr, sp_isweep rs = some (p, r, fr) → p → FnOk Tryz.prog 63 rs r fr := by
  intro rs p r fr h hp
  unfold sp_isweep at h
  split at h <;> cases h
  obtain ⟨hc0, hc1⟩ := hp
  rename_i z380 z381
  obtain ⟨z380, rfl⟩ : ∃ m, z380 = ivs m := ⟨_, hc0⟩
  obtain ⟨z381, rfl⟩ : ∃ m : Nat, z381 = m := ⟨_, hc1⟩
  simp only [Int.toNat_natCast, divs_ivs]
  exact isweep_ok z380 z381
end Dm
namespace Dm
open Go Go.Proofs Go.IntWalk
theorem pay_in {v : Wl} {hash n : Nat} (h : (payW v hash n).2.2 = 0) : ∃ p c, p < v.c.length ∧ v.c.getD p default = c ∧ okCh c ∧ holdE c v.next n = 0 ∧
    (payW v hash n).1.c = v.c.set p (holdC c v.next n).1 ∧ (⟨v.next, hash, c.id, n, 1⟩ : Py) ∈ (payW v hash n).1.p := by
  rw [payW_e] at h
  obtain ⟨hok, hn, hM, hf, hnx, hP, hC, hF⟩ := payE_0 h
  have e : payW v hash n = (⟨(payC v n).1, v.w, v.i, (payP v hash n).1, (payF v n).1, v.next + 1, v.tick⟩, v.next, 0) := by rw [payW, if_pos h]
  rw [e]
  dsimp only
  have hids := okW_ids hok
  unfold payP at hP
  obtain ⟨-, q1, -, b, hb1, -⟩ := start_app hP hids
  unfold payC at hC
  obtain ⟨hl, c, hc, hcid, hp, hcp, hw, he, eC⟩ := lhold_at hC
  refine ⟨_, c, hp, hcp, hl.2.1 c hc, he, ?_, ?_⟩
  · unfold payC; rw [eC]
  · unfold payP; rw [hb1, hcid]; exact List.mem_append_right _ (.head _)
theorem up_idx {α : Type} [Inhabited α] {key : α → Nat} {l : List α} (hu : Srt.Up key ltN l) {i j : Nat} (hi : i < l.length) (hj : j < l.length) (h : key (l.getD i default) = key (l.getD j default)) : i = j := by
  rcases Nat.lt_trichotomy i j with h1 | h1 | h1
  · have := Srt.up_get.1 hu i j h1 hj
    simp only [ltN] at this; omega
  · exact h1
  · have := Srt.up_get.1 hu j i h1 hi
    simp only [ltN] at this; omega
theorem ins_erase {l : List Hd} {p : Nat} {x : Hd} (hp : p ≤ l.length) : (Srt.ins l p x).eraseIdx p = l := by
  unfold Srt.ins
  rw [List.eraseIdx_append_of_length_le (by rw [List.length_take]; omega), List.length_take, show p - min p l.length = 0 by omega, List.eraseIdx_cons_zero, List.take_append_drop]
theorem hold_cen {c : Ch} {h n : Nat} (paid : Bool) (he : holdE c h n = 0) : okCh c ∧ n ≤ c.loc ∧ c.op = true ∧ (⟨h, n⟩ : Hd) ∈ (holdC c h n).1.holds ∧
    cenC (holdC c h n).1 h paid = (⟨c.id, if paid = true then c.loc - n else c.loc - n + n, if paid = true then c.rem + n else c.rem, c.res, c.most, c.holds, c.op⟩, n, 0) := by
  have hok : okCh c := Decidable.byContradiction fun hn => by
    unfold holdE at he; rw [if_pos (.inl hn)] at he; cases he
  have hop : c.op = true ∧ n ≤ c.loc := by
    have he := he
    unfold holdE at he
    split at he
    · cases he
    split at he
    · cases he
    rename_i h2
    split at he
    · cases he
    split at he
    · cases he
    split at he
    · cases he
    split at he
    · cases he
    refine ⟨by simpa using h2, ?_⟩
    omega
  obtain ⟨hok', -⟩ := hold_okCh he hok
  have e : holdC c h n = (⟨c.id, c.loc - n, c.rem, c.res, c.most, Srt.ins c.holds (Srt.pos Hd.key ltN c.holds h) ⟨h, n⟩, c.op⟩, 0) := by rw [holdC, if_pos he]
  have hle : Srt.pos Hd.key ltN c.holds h ≤ c.holds.length := Srt.pos_le
  rw [e] at hok' ⊢
  have hmem : (⟨h, n⟩ : Hd) ∈ Srt.ins c.holds (Srt.pos Hd.key ltN c.holds h) ⟨h, n⟩ := hold_perm.mem_iff.2 (.head _)
  refine ⟨hok, hop.2, hop.1, hmem, ?_⟩
  obtain ⟨q, hq, hql, hqx, ec⟩ := cen_at (paid := paid) hok' hmem rfl
  dsimp only at hq hql hqx ec
  have hu : Srt.Up Hd.key ltN (Srt.ins c.holds (Srt.pos Hd.key ltN c.holds h) ⟨h, n⟩) := (Srt.chn_up (lt := ltN) Srt.totNat).1 hok'.2.2.2.2.2.1
  have hqp : q = Srt.pos Hd.key ltN c.holds h := by
    refine up_idx hu hql (by rw [Srt.ins_len]; omega) ?_
    rw [hqx, Srt.ins_getD hle]
  rw [ec, hqp, ins_erase hle]
end Dm
namespace Dm
open Go Go.Proofs Go.IntWalk
theorem hid_eq {l : List Ch} {p : Nat} {d : Ch} (hp : p < l.length) (hh : d.holds = (l.getD p default).holds) : hidL (l.set p d) = hidL l := by
  conv => rhs; rw [split_at hp]
  rw [split_set hp]
  simp only [hidL, List.flatMap_append, List.flatMap_cons, hh]
theorem hl_eq {l : List Ch} {p : Nat} {d : Ch} (hp : p < l.length) (hi : d.id = (l.getD p default).id) (hh : d.holds = (l.getD p default).holds) : hlL (l.set p d) = hlL l := by
  conv => rhs; rw [split_at hp]
  rw [split_set hp]
  simp only [hlL, hlC, List.flatMap_append, List.flatMap_cons, hh, hi]
theorem led_set {l : List Ch} {p : Nat} {d : Ch} (hok : okLd l) (hp : p < l.length) (hd : okCh d) (hi : d.id = (l.getD p default).id) (hh : d.holds = (l.getD p default).holds) (ha : allC d = allC (l.getD p default)) :
    okLd (l.set p d) ∧ hlL (l.set p d) = hlL l := by
  have hu : Srt.Up Ch.id ltN l := (Srt.chn_up (lt := ltN) Srt.totNat).1 hok.2.2.1
  refine ⟨⟨by rw [List.length_set]; exact hok.1, fun y hy => ?_, ?_, ?_, ?_⟩, hl_eq hp hi hh⟩
  · rcases List.mem_or_eq_of_mem_set hy with h | rfl
    · exact hok.2.1 y h
    · exact hd
  · exact (Srt.chn_up (lt := ltN) Srt.totNat).2 (Srt.set_up hu hp hi)
  · rw [hid_eq hp hh]; exact hok.2.2.2.1
  · rw [totL_set hp ha]; exact hok.2.2.2.2
theorem cpu_ok {c : Ch} {n : Nat} (h : cpuE c n = 0) : okCh c ∧ c.op = true ∧ n ≤ c.rem ∧ cpuC c n = (⟨c.id, c.loc + n, c.rem - n, c.res, c.most, c.holds, c.op⟩, 0) ∧ okCh (cpuC c n).1 ∧ allC (cpuC c n).1 = allC c := by
  have e : cpuC c n = (⟨c.id, c.loc + n, c.rem - n, c.res, c.most, c.holds, c.op⟩, 0) := by rw [cpuC, if_pos h]
  unfold cpuE at h
  split at h
  · cases h
  rename_i h1
  split at h
  · cases h
  rename_i h2
  split at h
  · cases h
  rename_i h3
  have hok : okCh c := Decidable.byContradiction fun hn => h1 (.inl hn)
  obtain ⟨o1, o2, o3, o4, o5, o6, o7, o8, o9, o10⟩ := hok
  have hok : okCh c := ⟨o1, o2, o3, o4, o5, o6, o7, o8, o9, o10⟩
  have hok2 : okCh (⟨c.id, c.loc + n, c.rem - n, c.res, c.most, c.holds, c.op⟩ : Ch) := by
    refine ⟨o1, o2, o3, o4, o5, o6, o7, ?_, ?_, ?_⟩
    · show c.loc + n ≤ MM; unfold MM at *; omega
    · show c.rem - n ≤ MM; unfold MM at *; omega
    · show held c.holds + (c.loc + n) + (c.rem - n) ≤ MM; unfold MM at *; omega
  refine ⟨hok, by simpa using h2, by omega, e, by rw [e]; exact hok2, ?_⟩
  rw [e]
  unfold allC sumsC
  rw [if_pos hok2, if_pos hok]
  show held c.holds + (c.loc + n) + (c.rem - n) = held c.holds + c.loc + c.rem
  omega
theorem ccl_ok {c : Ch} (h : cclE c = 0) : okCh c ∧ c.op = true ∧ c.holds = [] ∧ cclC c = (⟨c.id, c.loc, c.rem, c.res, c.most, [], false⟩, 0) ∧ okCh (cclC c).1 ∧ allC (cclC c).1 = allC c := by
  have e : cclC c = (⟨c.id, c.loc, c.rem, c.res, c.most, [], false⟩, 0) := by rw [cclC, if_pos h]
  unfold cclE at h
  split at h
  · cases h
  rename_i h1
  split at h
  · cases h
  rename_i h2
  split at h
  · cases h
  rename_i h3
  have hok : okCh c := Decidable.byContradiction h1
  have hh : c.holds = [] := List.eq_nil_of_length_eq_zero (by omega)
  obtain ⟨o1, o2, o3, o4, o5, o6, o7, o8, o9, o10⟩ := hok
  have hok : okCh c := ⟨o1, o2, o3, o4, o5, o6, o7, o8, o9, o10⟩
  rw [hh] at o3 o5 o6 o7 o10
  have hok2 : okCh (⟨c.id, c.loc, c.rem, c.res, c.most, [], false⟩ : Ch) := ⟨o1, o2, o3, fun _ => rfl, o5, o6, o7, o8, o9, o10⟩
  refine ⟨hok, by simpa using h2, hh, e, by rw [e]; exact hok2, ?_⟩
  rw [e]
  unfold allC sumsC
  rw [if_pos hok2, if_pos hok, hh]
theorem lpu_all {l : List Ch} {id n : Nat} (h : (lpuL l id n).2 = 0) : okLd l ∧ ∃ p, p < l.length ∧ (l.getD p default).id = id ∧ cpuE (l.getD p default) n = 0 ∧ (lpuL l id n).1 = l.set p (cpuC (l.getD p default) n).1 ∧ okLd (lpuL l id n).1 ∧ hlL (lpuL l id n).1 = hlL l := by
  unfold lpuL at h ⊢
  split at h
  · rename_i hok
    split at h
    · rename_i ht
      split at h
      · rename_i he
        obtain ⟨h1, h2⟩ := thr_at ht
        obtain ⟨g1, g2, g3, g4, g5, g6⟩ := cpu_ok he
        rw [if_pos hok, if_pos ht, if_pos he]
        have h3 := led_set hok h1 g5 (by rw [g4]) (by rw [g4]) g6
        exact ⟨hok, _, h1, h2, he, rfl, h3⟩
      · rename_i he; exact absurd h he
    · cases h
  · cases h
theorem lcl_all {l : List Ch} {id : Nat} (h : (lclL l id).2 = 0) : okLd l ∧ ∃ p, p < l.length ∧ (l.getD p default).id = id ∧ cclE (l.getD p default) = 0 ∧ (lclL l id).1 = l.set p (cclC (l.getD p default)).1 ∧ okLd (lclL l id).1 ∧ hlL (lclL l id).1 = hlL l := by
  unfold lclL at h ⊢
  split at h
  · rename_i hok
    split at h
    · rename_i ht
      split at h
      · rename_i he
        obtain ⟨h1, h2⟩ := thr_at ht
        obtain ⟨g1, g2, g3, g4, g5, g6⟩ := ccl_ok he
        rw [if_pos hok, if_pos ht, if_pos he]
        have h3 := led_set hok h1 g5 (by rw [g4]) (by rw [g4, g3]) g6
        exact ⟨hok, _, h1, h2, he, rfl, h3⟩
      · rename_i he; exact absurd h he
    · cases h
  · cases h
theorem lpu_fine {l : List Ch} {id n : Nat} (h : (lpuL l id n).2 = 0) : okLd (lpuL l id n).1 := by
  obtain ⟨_, _, _, _, _, _, h, _⟩ := lpu_all h; exact h
theorem lcl_fine {l : List Ch} {id : Nat} (h : (lclL l id).2 = 0) : okLd (lclL l id).1 := by
  obtain ⟨_, _, _, _, _, _, h, _⟩ := lcl_all h; exact h
theorem iend_2 {l : List Iv} {hash tick n : Nat} {st : Int} : (iendL l hash tick n st).2 = iendE l hash tick n := by
  unfold iendL
  split
  · rename_i h; exact h.symm
  · rfl
theorem iendE_0 {l : List Iv} {hash tick n : Nat} (h : iendE l hash tick n = 0) : okIv l ∧ Srt.pos Iv.hash ltN l hash < l.length ∧ (l.getD (Srt.pos Iv.hash ltN l hash) default).hash = hash ∧ nowI (l.getD (Srt.pos Iv.hash ltN l hash) default) tick = 1 ∧ (l.getD (Srt.pos Iv.hash ltN l hash) default).n ≤ n := by
  unfold iendE at h
  split at h
  · rename_i h1
    split at h
    · rename_i h2
      obtain ⟨g1, g2⟩ := thr_at h2
      split at h
      · cases h
      split at h
      · cases h
      rename_i h4
      split at h
      · cases h
      rename_i h5
      exact ⟨h1, g1, g2, Decidable.byContradiction h4, by omega⟩
    · cases h
  · cases h
theorem iend_all {l : List Iv} {hash tick n : Nat} {st : Int} (h : (iendL l hash tick n st).2 = 0) (hst : 1 ≤ st ∧ st ≤ 3) : okIv l ∧ okIv (iendL l hash tick n st).1 ∧ ∃ p, p < l.length ∧ p = Srt.pos Iv.hash ltN l hash ∧ (l.getD p default).hash = hash ∧ nowI (l.getD p default) tick = 1 ∧ (iendL l hash tick n st).1 = l.set p { l.getD p default with state := st } := by
  rw [iend_2] at h
  obtain ⟨h1, h2, h3, h4, h5⟩ := iendE_0 h
  have e : (iendL l hash tick n st).1 = l.set (Srt.pos Iv.hash ltN l hash) { l.getD (Srt.pos Iv.hash ltN l hash) default with state := st } := by rw [iendL, if_pos h]
  rw [e]
  refine ⟨h1, ⟨by rw [List.length_set]; exact h1.1, fun x hx => ?_, ?_⟩, _, h2, rfl, h3, h4, rfl⟩
  · rcases List.mem_or_eq_of_mem_set hx with h | rfl
    · exact h1.2.1 x h
    · exact ⟨(h1.2.1 _ (mem_getD.2 ⟨_, h2, rfl⟩)).1, hst⟩
  · exact (Srt.chn_up (lt := ltN) Srt.totNat).2 (Srt.set_up ((Srt.chn_up (lt := ltN) Srt.totNat).1 h1.2.2) h2 rfl)
theorem iend_len {l : List Iv} {hash tick n : Nat} {st : Int} (h : (iendL l hash tick n st).2 = 0) : (iendL l hash tick n st).1.length ≤ 256 := by
  rw [iend_2] at h
  have := (iendE_0 h).1.1
  rw [iendL, if_pos h, List.length_set]; exact this
theorem sweep_ok {l : List Iv} {tick : Nat} (h : (sweepI l tick).2 = 0) : okIv l ∧ okIv (sweepI l tick).1 ∧ (sweepI l tick).1 = l.filter fun x => !overI tick x := by
  unfold sweepI at h ⊢
  split at h
  · rename_i h1
    rw [if_pos h1]
    have hs : (l.filter fun x => !overI tick x).Sublist l := List.filter_sublist
    refine ⟨h1, ⟨Nat.le_trans hs.length_le h1.1, fun x hx => h1.2.1 x (hs.subset hx), ?_⟩, rfl⟩
    exact (Srt.chn_up (lt := ltN) Srt.totNat).2 (List.Pairwise.sublist hs ((Srt.chn_up (lt := ltN) Srt.totNat).1 h1.2.2))
  · cases h
end Dm
namespace Dm
open Go Go.Proofs Go.IntWalk
def wreI (v : Wl) (hash : Nat) (n : Nat) (ch : Nat) : List Iv × Int := iendL v.i hash v.tick n 2
def wreC (v : Wl) (hash : Nat) (n : Nat) (ch : Nat) : List Ch × Int := lpuL v.c ch n
def wreF (v : Wl) (hash : Nat) (n : Nat) (ch : Nat) : Fd × Nat × Int := addF v.f 5 hash n
def wreE (v : Wl) (hash : Nat) (n : Nat) (ch : Nat) : Int := if ¬ okW v then 1 else if (wreI v hash n ch).2 ≠ 0 then (wreI v hash n ch).2 else if (wreC v hash n ch).2 ≠ 0 then (wreC v hash n ch).2 else (wreF v hash n ch).2.2
def wreW (v : Wl) (hash : Nat) (n : Nat) (ch : Nat) : Wl × Int := if wreE v hash n ch = 0 then (⟨(wreC v hash n ch).1, v.w, (wreI v hash n ch).1, v.p, (wreF v hash n ch).1, v.next, v.tick⟩, 0) else (zeroW, wreE v hash n ch)
@[go_sem] def wreceive_r (v : Wl) (hash : Nat) (n : Nat) (ch : Nat) : D := .tup [.agg [.sl (chs (wreW v hash n ch).1.c), .sl (wts (wreW v hash n ch).1.w), .sl (ivs (wreW v hash n ch).1.i), .sl (pys (wreW v hash n ch).1.p), .int .u64 (wreW v hash n ch).1.f.next, .sl (evs (wreW v hash n ch).1.f.l), .int .u64 (wreW v hash n ch).1.next, .int .u64 (wreW v hash n ch).1.tick], .int .i64 (wreW v hash n ch).2]
@[go_sem] abbrev n_wreceive : FuncId := 21
@[go_sem] def wreceive_T : Tab := [(9, sp_wcheck), (57, sp_ipay), (59, sp_lpush), (80, sp_fadd), (81, sp_wown)]
theorem wreceive_T_ok : TabOk Tryz.prog wreceive_T := (TabOk.cons sp_wcheck_ok (TabOk.cons sp_ipay_ok (TabOk.cons sp_lpush_ok (TabOk.cons sp_fadd_ok (TabOk.cons sp_wown_ok TabOk.nil)))))
set_option maxRecDepth 8000 in
set_option maxHeartbeats 1000000 in
theorem wreceive_ok (v : Wl) (hash : Nat) (n : Nat) (ch : Nat) (h : v.f.next ≤ 18446744073709551615) : PureFn Tryz.prog 21 [.agg [.sl (chs v.c), .sl (wts v.w), .sl (ivs v.i), .sl (pys v.p), .c (.int .u64 (v.f.next : Int)), .sl (evs v.f.l), .c (.int .u64 (v.next : Int)), .c (.int .u64 (v.tick : Int))], .c (.int .u64 (hash : Int)), .c (.int .u64 (n : Int)), .c (.int .u64 (ch : Int))] (wreceive_r v hash n ch) := by
  refine .of (ac21 wreceive_T_ok (Nat.le_of_ble_eq_true rfl) ?_)
  simp -implicitDefEqProofs only [cdA, go_sem, Go.Proofs.Tryz.f21, reduceIte, List.cons.injEq, cdB]
  refine ac33 wreceive_T_ok (Nat.le_of_ble_eq_true rfl) ?_
  simp -implicitDefEqProofs only [cdA, go_sem, Go.Proofs.Tryz.f33, reduceIte, List.cons.injEq, cdB]
  refine ADraw.run us33_1 wreceive_T_ok follows_mixed (by kernel_rfl) (by kernel_rfl) ?_
  simp -implicitDefEqProofs only [cdA, go_sem, reduceIte, List.cons.injEq, cdB]
  refine ⟨h, ?_⟩
  have hbad : ∀ e : Int, wreE v hash n ch = e → ¬ e = 0 → (chs (wreW v hash n ch).1.c = [] ∧ wts (wreW v hash n ch).1.w = [] ∧ ivs (wreW v hash n ch).1.i = [] ∧ pys (wreW v hash n ch).1.p = [] ∧ 0 = ((wreW v hash n ch).1.f.next : Int) ∧ evs (wreW v hash n ch).1.f.l = [] ∧ 0 = ((wreW v hash n ch).1.next : Int) ∧ 0 = ((wreW v hash n ch).1.tick : Int)) ∧ e = (wreW v hash n ch).2 := fun e h1 h2 => by
    have : wreW v hash n ch = (zeroW, e) := by rw [wreW, if_neg (by rw [h1]; exact h2), h1]
    rw [this]; exact ⟨⟨rfl, rfl, rfl, rfl, rfl, rfl, rfl, rfl⟩, rfl⟩
  by_cases hok : okW v
  rotate_left 1
  · have hck : (chkW v = 0) = False := eq_false fun h => hok (chkW_0.1 h)
    have he : wreE v hash n ch = 1 := by rw [wreE, if_pos hok]
    have hc1 : chkW v = 1 := by rw [chkW, if_neg hok]
    skip
    refine ac51 wreceive_T_ok (Nat.le_of_ble_eq_true rfl) ?_
    simp -implicitDefEqProofs only [cdA, go_sem, Go.Proofs.Tryz.f51, hck, cdN, reduceIte, List.cons.injEq, cdB]
    refine ac34 wreceive_T_ok (Nat.le_of_ble_eq_true rfl) ?_
    simp -implicitDefEqProofs only [cdA, go_sem, Go.Proofs.Tryz.f34, hck, cdN, reduceIte, List.cons.injEq, cdB]
    refine ac37 wreceive_T_ok (Nat.le_of_ble_eq_true rfl) ?_
    simp -implicitDefEqProofs only [cdA, go_sem, Go.Proofs.Tryz.f37, reduceIte, List.cons.injEq, cdB]
    refine ac78 wreceive_T_ok (Nat.le_of_ble_eq_true rfl) ?_
    simp -implicitDefEqProofs only [cdA, go_sem, Go.Proofs.Tryz.f78, hck, cdN, reduceIte, List.cons.injEq, cdB]
    refine ac38 wreceive_T_ok (Nat.le_of_ble_eq_true rfl) ?_
    simp -implicitDefEqProofs only [cdA, go_sem, Go.Proofs.Tryz.f38, hck, cdN, reduceIte, List.cons.injEq, cdB]
    refine ADraw.run us38_2 wreceive_T_ok follows_mixed (by kernel_rfl) (by kernel_rfl) ?_
    simp -implicitDefEqProofs only [cdA, go_sem, hck, cdN, reduceIte, List.cons.injEq, cdB]
    exact hbad _ (he.trans hc1.symm) (by rw [hc1]; decide)
  have hck : (chkW v = 0) = True := eq_true (chkW_0.2 hok)
  refine ac51 wreceive_T_ok (Nat.le_of_ble_eq_true rfl) ?_
  simp -implicitDefEqProofs only [cdA, go_sem, Go.Proofs.Tryz.f51, hck, cdN, reduceIte, List.cons.injEq, cdB]
  refine ac56 wreceive_T_ok (Nat.le_of_ble_eq_true rfl) ?_
  simp -implicitDefEqProofs only [cdA, go_sem, Go.Proofs.Tryz.f56, reduceIte, List.cons.injEq, cdB]
  have eI : iendL v.i hash v.tick n 2 = wreI v hash n ch := rfl
  rw [eI]
  refine ⟨fun hs0 => ?_, fun hs0 => ?_⟩
  rotate_left 1
  · skip
    refine ac34 wreceive_T_ok (Nat.le_of_ble_eq_true rfl) ?_
    simp -implicitDefEqProofs only [cdA, go_sem, Go.Proofs.Tryz.f34, hs0, cdN, reduceIte, List.cons.injEq, cdB]
    refine ac37 wreceive_T_ok (Nat.le_of_ble_eq_true rfl) ?_
    simp -implicitDefEqProofs only [cdA, go_sem, Go.Proofs.Tryz.f37, reduceIte, List.cons.injEq, cdB]
    refine ac78 wreceive_T_ok (Nat.le_of_ble_eq_true rfl) ?_
    simp -implicitDefEqProofs only [cdA, go_sem, Go.Proofs.Tryz.f78, hs0, cdN, reduceIte, List.cons.injEq, cdB]
    refine ac38 wreceive_T_ok (Nat.le_of_ble_eq_true rfl) ?_
    simp -implicitDefEqProofs only [cdA, go_sem, Go.Proofs.Tryz.f38, hs0, cdN, reduceIte, List.cons.injEq, cdB]
    refine ADraw.run us38_2 wreceive_T_ok follows_mixed (by kernel_rfl) (by kernel_rfl) ?_
    simp -implicitDefEqProofs only [cdA, go_sem, hs0, cdN, reduceIte, List.cons.injEq, cdB]
    exact hbad _ (by rw [wreE, if_neg (fun h => h hok), if_pos hs0]) hs0
  refine ac34 wreceive_T_ok (Nat.le_of_ble_eq_true rfl) ?_
  simp -implicitDefEqProofs only [cdA, go_sem, Go.Proofs.Tryz.f34, hck, cdN, reduceIte, List.cons.injEq, cdB]
  refine ac58 wreceive_T_ok (Nat.le_of_ble_eq_true rfl) ?_
  simp -implicitDefEqProofs only [cdA, go_sem, Go.Proofs.Tryz.f58, reduceIte, List.cons.injEq, cdB]
  have eC : lpuL v.c ch n = wreC v hash n ch := rfl
  rw [eC]
  refine ⟨fun hs1 => ?_, fun hs1 => ?_⟩
  rotate_left 1
  · skip
    refine ac37 wreceive_T_ok (Nat.le_of_ble_eq_true rfl) ?_
    simp -implicitDefEqProofs only [cdA, go_sem, Go.Proofs.Tryz.f37, reduceIte, List.cons.injEq, cdB]
    refine ac78 wreceive_T_ok (Nat.le_of_ble_eq_true rfl) ?_
    simp -implicitDefEqProofs only [cdA, go_sem, Go.Proofs.Tryz.f78, hs1, cdN, reduceIte, List.cons.injEq, cdB]
    refine ac38 wreceive_T_ok (Nat.le_of_ble_eq_true rfl) ?_
    simp -implicitDefEqProofs only [cdA, go_sem, Go.Proofs.Tryz.f38, hs1, cdN, reduceIte, List.cons.injEq, cdB]
    refine ADraw.run us38_2 wreceive_T_ok follows_mixed (by kernel_rfl) (by kernel_rfl) ?_
    simp -implicitDefEqProofs only [cdA, go_sem, hs1, cdN, reduceIte, List.cons.injEq, cdB]
    exact hbad _ (by rw [wreE, if_neg (fun h => h hok), if_neg (fun h => h hs0), if_pos hs1]) hs1
  refine ac37 wreceive_T_ok (Nat.le_of_ble_eq_true rfl) ?_
  simp -implicitDefEqProofs only [cdA, go_sem, Go.Proofs.Tryz.f37, reduceIte, List.cons.injEq, cdB]
  refine ac78 wreceive_T_ok (Nat.le_of_ble_eq_true rfl) ?_
  simp -implicitDefEqProofs only [cdA, go_sem, Go.Proofs.Tryz.f78, hck, cdN, reduceIte, List.cons.injEq, cdB]
  refine ac79 wreceive_T_ok (Nat.le_of_ble_eq_true rfl) ?_
  simp -implicitDefEqProofs only [cdA, go_sem, Go.Proofs.Tryz.f79, reduceIte, List.cons.injEq, cdB]
  have eF : addF v.f 5 hash n = wreF v hash n ch := rfl
  rw [eF]
  refine ⟨h, fun hfd => ?_, fun hfd => ?_⟩
  rotate_left 1
  · skip
    refine ac38 wreceive_T_ok (Nat.le_of_ble_eq_true rfl) ?_
    simp -implicitDefEqProofs only [cdA, go_sem, Go.Proofs.Tryz.f38, hfd, cdN, reduceIte, List.cons.injEq, cdB]
    refine ADraw.run us38_2 wreceive_T_ok follows_mixed (by kernel_rfl) (by kernel_rfl) ?_
    simp -implicitDefEqProofs only [cdA, go_sem, hfd, cdN, reduceIte, List.cons.injEq, cdB]
    exact hbad _ (by rw [wreE, if_neg (fun h => h hok), if_neg (fun h => h hs0), if_neg (fun h => h hs1)]) hfd
  have hsm : smallW ⟨(wreC v hash n ch).1, v.w, (wreI v hash n ch).1, v.p, (wreF v hash n ch).1, v.next, v.tick⟩ := by
    have h2 := small_ok hok
    have h50 := iend_len hs0
    have h51 := lpu_fine hs1
    exact ⟨(by have := h51.1; show (wreC v hash n ch).1.length ≤ _; unfold wreC; (try dsimp only); omega), (fun d hd => by have := (h51.2.1 d hd).2.2.1; omega), h2.2.2.1, (by show (wreI v hash n ch).1.length ≤ _; unfold wreI; omega), h2.2.2.2.2.1, (by show (wreF v hash n ch).1.l.length ≤ _; unfold wreF; exact Nat.le_trans add_len (by decide))⟩
  have hfin : wreW v hash n ch = (⟨(wreC v hash n ch).1, v.w, (wreI v hash n ch).1, v.p, (wreF v hash n ch).1, v.next, v.tick⟩, 0) := by
    have : wreE v hash n ch = 0 := by rw [wreE, if_neg (fun h => h hok), if_neg (fun h => h hs0), if_neg (fun h => h hs1)]; exact hfd
    rw [wreW, if_pos this]
  refine ac38 wreceive_T_ok (Nat.le_of_ble_eq_true rfl) ?_
  simp -implicitDefEqProofs only [cdA, go_sem, Go.Proofs.Tryz.f38, hck, eq_true hsm, cdN, reduceIte, List.cons.injEq, cdB]
  rw [hfin]
  exact ⟨⟨rfl, rfl, rfl, rfl, rfl, rfl, rfl, rfl⟩, rfl⟩
@[go_sem] def wreceive_p (v : Wl) (hash : Nat) (n : Nat) (ch : Nat) : Prop := (v.f.next ≤ 18446744073709551615)
def sp_wreceive : List D → Option (Prop × D × Fr)
  | [.agg [.c (.sl z405), .c (.sl z406), .c (.sl z407), .c (.sl z408), .c (.int .u64 z410), .c (.sl z411), .c (.int .u64 z412), .c (.int .u64 z413)], .c (.int .u64 z414), .c (.int .u64 z415), .c (.int .u64 z416)] => some (z405 = chs (dchs z405) ∧ z406 = wts (dwts z406) ∧ z407 = ivs (divs z407) ∧ z408 = pys (dpys z408) ∧ z410 = (z410.toNat : Int) ∧ z411 = evs (devs z411) ∧ z412 = (z412.toNat : Int) ∧ z413 = (z413.toNat : Int) ∧ z414 = (z414.toNat : Int) ∧ z415 = (z415.toNat : Int) ∧ z416 = (z416.toNat : Int) ∧ wreceive_p (⟨(dchs z405), (dwts z406), (divs z407), (dpys z408), (⟨z410.toNat, (devs z411)⟩ : Fd), z412.toNat, z413.toNat⟩ : Wl) z414.toNat z415.toNat z416.toNat, wreceive_r (⟨(dchs z405), (dwts z406), (divs z407), (dpys z408), (⟨z410.toNat, (devs z411)⟩ : Fd), z412.toNat, z413.toNat⟩ : Wl) z414.toNat z415.toNat z416.toNat, [])
  | _ => none
attribute [go_sem] sp_wreceive
theorem sp_wreceive_ok : ∀ rs p r fr, sp_wreceive rs = some (p, r, fr) → p → FnOk Tryz.prog 21 rs r fr := by
  intro rs p r fr h hp
  unfold sp_wreceive at h
  split at h <;> cases h
  obtain ⟨hc0, hc1, hc2, hc3, hc4, hc5, hc6, hc7, hc8, hc9, hc10, hp⟩ := hp
  rename_i z405 z406 z407 z408 z410 z411 z412 z413 z414 z415 z416
  obtain ⟨z405, rfl⟩ : ∃ m, z405 = chs m := ⟨_, hc0⟩
  obtain ⟨z406, rfl⟩ : ∃ m, z406 = wts m := ⟨_, hc1⟩
  obtain ⟨z407, rfl⟩ : ∃ m, z407 = ivs m := ⟨_, hc2⟩
  obtain ⟨z408, rfl⟩ : ∃ m, z408 = pys m := ⟨_, hc3⟩
  obtain ⟨z410, rfl⟩ : ∃ m : Nat, z410 = m := ⟨_, hc4⟩
  obtain ⟨z411, rfl⟩ : ∃ m, z411 = evs m := ⟨_, hc5⟩
  obtain ⟨z412, rfl⟩ : ∃ m : Nat, z412 = m := ⟨_, hc6⟩
  obtain ⟨z413, rfl⟩ : ∃ m : Nat, z413 = m := ⟨_, hc7⟩
  obtain ⟨z414, rfl⟩ : ∃ m : Nat, z414 = m := ⟨_, hc8⟩
  obtain ⟨z415, rfl⟩ : ∃ m : Nat, z415 = m := ⟨_, hc9⟩
  obtain ⟨z416, rfl⟩ : ∃ m : Nat, z416 = m := ⟨_, hc10⟩
  simp only [Int.toNat_natCast, dchs_chs, devs_evs, divs_ivs, dpys_pys, dwts_wts]
  simp only [Int.toNat_natCast, dchs_chs, devs_evs, divs_ivs, dpys_pys, dwts_wts, wreceive_p] at hp
  exact wreceive_ok ⟨z405, z406, z407, z408, ⟨z410, z411⟩, z412, z413⟩ z414 z415 z416 hp
end Dm
namespace Dm
open Go Go.Proofs Go.IntWalk
def wcaI (v : Wl) (hash : Nat) : List Iv × Int := iendL v.i hash v.tick MM 3
def wcaF (v : Wl) (hash : Nat) : Fd × Nat × Int := addF v.f 4 hash 0
def wcaE (v : Wl) (hash : Nat) : Int := if ¬ okW v then 1 else if (wcaI v hash).2 ≠ 0 then (wcaI v hash).2 else (wcaF v hash).2.2
def wcaW (v : Wl) (hash : Nat) : Wl × Int := if wcaE v hash = 0 then (⟨v.c, v.w, (wcaI v hash).1, v.p, (wcaF v hash).1, v.next, v.tick⟩, 0) else (zeroW, wcaE v hash)
@[go_sem] def wcancel_r (v : Wl) (hash : Nat) : D := .tup [.agg [.sl (chs (wcaW v hash).1.c), .sl (wts (wcaW v hash).1.w), .sl (ivs (wcaW v hash).1.i), .sl (pys (wcaW v hash).1.p), .int .u64 (wcaW v hash).1.f.next, .sl (evs (wcaW v hash).1.f.l), .int .u64 (wcaW v hash).1.next, .int .u64 (wcaW v hash).1.tick], .int .i64 (wcaW v hash).2]
@[go_sem] abbrev n_wcancel : FuncId := 20
@[go_sem] def wcancel_T : Tab := [(9, sp_wcheck), (55, sp_icancel), (80, sp_fadd), (81, sp_wown)]
theorem wcancel_T_ok : TabOk Tryz.prog wcancel_T := (TabOk.cons sp_wcheck_ok (TabOk.cons sp_icancel_ok (TabOk.cons sp_fadd_ok (TabOk.cons sp_wown_ok TabOk.nil))))
set_option maxRecDepth 8000 in
set_option maxHeartbeats 1000000 in
theorem wcancel_ok (v : Wl) (hash : Nat) (h : v.f.next ≤ 18446744073709551615) : PureFn Tryz.prog 20 [.agg [.sl (chs v.c), .sl (wts v.w), .sl (ivs v.i), .sl (pys v.p), .c (.int .u64 (v.f.next : Int)), .sl (evs v.f.l), .c (.int .u64 (v.next : Int)), .c (.int .u64 (v.tick : Int))], .c (.int .u64 (hash : Int))] (wcancel_r v hash) := by
  refine .of (ac20 wcancel_T_ok (Nat.le_of_ble_eq_true rfl) ?_)
  simp -implicitDefEqProofs only [cdA, go_sem, Go.Proofs.Tryz.f20, reduceIte, List.cons.injEq, cdB]
  refine ac33 wcancel_T_ok (Nat.le_of_ble_eq_true rfl) ?_
  simp -implicitDefEqProofs only [cdA, go_sem, Go.Proofs.Tryz.f33, reduceIte, List.cons.injEq, cdB]
  refine ADraw.run us33_1 wcancel_T_ok follows_mixed (by kernel_rfl) (by kernel_rfl) ?_
  simp -implicitDefEqProofs only [cdA, go_sem, reduceIte, List.cons.injEq, cdB]
  refine ⟨h, ?_⟩
  have hbad : ∀ e : Int, wcaE v hash = e → ¬ e = 0 → (chs (wcaW v hash).1.c = [] ∧ wts (wcaW v hash).1.w = [] ∧ ivs (wcaW v hash).1.i = [] ∧ pys (wcaW v hash).1.p = [] ∧ 0 = ((wcaW v hash).1.f.next : Int) ∧ evs (wcaW v hash).1.f.l = [] ∧ 0 = ((wcaW v hash).1.next : Int) ∧ 0 = ((wcaW v hash).1.tick : Int)) ∧ e = (wcaW v hash).2 := fun e h1 h2 => by
    have : wcaW v hash = (zeroW, e) := by rw [wcaW, if_neg (by rw [h1]; exact h2), h1]
    rw [this]; exact ⟨⟨rfl, rfl, rfl, rfl, rfl, rfl, rfl, rfl⟩, rfl⟩
  by_cases hok : okW v
  rotate_left 1
  · have hck : (chkW v = 0) = False := eq_false fun h => hok (chkW_0.1 h)
    have he : wcaE v hash = 1 := by rw [wcaE, if_pos hok]
    have hc1 : chkW v = 1 := by rw [chkW, if_neg hok]
    skip
    refine ac51 wcancel_T_ok (Nat.le_of_ble_eq_true rfl) ?_
    simp -implicitDefEqProofs only [cdA, go_sem, Go.Proofs.Tryz.f51, hck, cdN, reduceIte, List.cons.injEq, cdB]
    refine ac37 wcancel_T_ok (Nat.le_of_ble_eq_true rfl) ?_
    simp -implicitDefEqProofs only [cdA, go_sem, Go.Proofs.Tryz.f37, reduceIte, List.cons.injEq, cdB]
    refine ac78 wcancel_T_ok (Nat.le_of_ble_eq_true rfl) ?_
    simp -implicitDefEqProofs only [cdA, go_sem, Go.Proofs.Tryz.f78, hck, cdN, reduceIte, List.cons.injEq, cdB]
    refine ac38 wcancel_T_ok (Nat.le_of_ble_eq_true rfl) ?_
    simp -implicitDefEqProofs only [cdA, go_sem, Go.Proofs.Tryz.f38, hck, cdN, reduceIte, List.cons.injEq, cdB]
    refine ADraw.run us38_2 wcancel_T_ok follows_mixed (by kernel_rfl) (by kernel_rfl) ?_
    simp -implicitDefEqProofs only [cdA, go_sem, hck, cdN, reduceIte, List.cons.injEq, cdB]
    exact hbad _ (he.trans hc1.symm) (by rw [hc1]; decide)
  have hck : (chkW v = 0) = True := eq_true (chkW_0.2 hok)
  refine ac51 wcancel_T_ok (Nat.le_of_ble_eq_true rfl) ?_
  simp -implicitDefEqProofs only [cdA, go_sem, Go.Proofs.Tryz.f51, hck, cdN, reduceIte, List.cons.injEq, cdB]
  refine ac54 wcancel_T_ok (Nat.le_of_ble_eq_true rfl) ?_
  simp -implicitDefEqProofs only [cdA, go_sem, Go.Proofs.Tryz.f54, reduceIte, List.cons.injEq, cdB]
  have eI : iendL v.i hash v.tick MM 3 = wcaI v hash := rfl
  rw [eI]
  refine ⟨fun hs0 => ?_, fun hs0 => ?_⟩
  rotate_left 1
  · skip
    refine ac37 wcancel_T_ok (Nat.le_of_ble_eq_true rfl) ?_
    simp -implicitDefEqProofs only [cdA, go_sem, Go.Proofs.Tryz.f37, reduceIte, List.cons.injEq, cdB]
    refine ac78 wcancel_T_ok (Nat.le_of_ble_eq_true rfl) ?_
    simp -implicitDefEqProofs only [cdA, go_sem, Go.Proofs.Tryz.f78, hs0, cdN, reduceIte, List.cons.injEq, cdB]
    refine ac38 wcancel_T_ok (Nat.le_of_ble_eq_true rfl) ?_
    simp -implicitDefEqProofs only [cdA, go_sem, Go.Proofs.Tryz.f38, hs0, cdN, reduceIte, List.cons.injEq, cdB]
    refine ADraw.run us38_2 wcancel_T_ok follows_mixed (by kernel_rfl) (by kernel_rfl) ?_
    simp -implicitDefEqProofs only [cdA, go_sem, hs0, cdN, reduceIte, List.cons.injEq, cdB]
    exact hbad _ (by rw [wcaE, if_neg (fun h => h hok), if_pos hs0]) hs0
  refine ac37 wcancel_T_ok (Nat.le_of_ble_eq_true rfl) ?_
  simp -implicitDefEqProofs only [cdA, go_sem, Go.Proofs.Tryz.f37, reduceIte, List.cons.injEq, cdB]
  refine ac78 wcancel_T_ok (Nat.le_of_ble_eq_true rfl) ?_
  simp -implicitDefEqProofs only [cdA, go_sem, Go.Proofs.Tryz.f78, hck, cdN, reduceIte, List.cons.injEq, cdB]
  refine ac79 wcancel_T_ok (Nat.le_of_ble_eq_true rfl) ?_
  simp -implicitDefEqProofs only [cdA, go_sem, Go.Proofs.Tryz.f79, reduceIte, List.cons.injEq, cdB]
  have eF : addF v.f 4 hash 0 = wcaF v hash := rfl
  rw [eF]
  refine ⟨h, fun hfd => ?_, fun hfd => ?_⟩
  rotate_left 1
  · skip
    refine ac38 wcancel_T_ok (Nat.le_of_ble_eq_true rfl) ?_
    simp -implicitDefEqProofs only [cdA, go_sem, Go.Proofs.Tryz.f38, hfd, cdN, reduceIte, List.cons.injEq, cdB]
    refine ADraw.run us38_2 wcancel_T_ok follows_mixed (by kernel_rfl) (by kernel_rfl) ?_
    simp -implicitDefEqProofs only [cdA, go_sem, hfd, cdN, reduceIte, List.cons.injEq, cdB]
    exact hbad _ (by rw [wcaE, if_neg (fun h => h hok), if_neg (fun h => h hs0)]) hfd
  have hsm : smallW ⟨v.c, v.w, (wcaI v hash).1, v.p, (wcaF v hash).1, v.next, v.tick⟩ := by
    have h2 := small_ok hok
    have h50 := iend_len hs0
    exact ⟨h2.1, h2.2.1, h2.2.2.1, (by show (wcaI v hash).1.length ≤ _; unfold wcaI; omega), h2.2.2.2.2.1, (by show (wcaF v hash).1.l.length ≤ _; unfold wcaF; exact Nat.le_trans add_len (by decide))⟩
  have hfin : wcaW v hash = (⟨v.c, v.w, (wcaI v hash).1, v.p, (wcaF v hash).1, v.next, v.tick⟩, 0) := by
    have : wcaE v hash = 0 := by rw [wcaE, if_neg (fun h => h hok), if_neg (fun h => h hs0)]; exact hfd
    rw [wcaW, if_pos this]
  refine ac38 wcancel_T_ok (Nat.le_of_ble_eq_true rfl) ?_
  simp -implicitDefEqProofs only [cdA, go_sem, Go.Proofs.Tryz.f38, hck, eq_true hsm, cdN, reduceIte, List.cons.injEq, cdB]
  rw [hfin]
  exact ⟨⟨rfl, rfl, rfl, rfl, rfl, rfl, rfl, rfl⟩, rfl⟩
@[go_sem] def wcancel_p (v : Wl) (hash : Nat) : Prop := (v.f.next ≤ 18446744073709551615)
def sp_wcancel : List D → Option (Prop × D × Fr)
  | [.agg [.c (.sl z418), .c (.sl z419), .c (.sl z420), .c (.sl z421), .c (.int .u64 z423), .c (.sl z424), .c (.int .u64 z425), .c (.int .u64 z426)], .c (.int .u64 z427)] => some (z418 = chs (dchs z418) ∧ z419 = wts (dwts z419) ∧ z420 = ivs (divs z420) ∧ z421 = pys (dpys z421) ∧ z423 = (z423.toNat : Int) ∧ z424 = evs (devs z424) ∧ z425 = (z425.toNat : Int) ∧ z426 = (z426.toNat : Int) ∧ z427 = (z427.toNat : Int) ∧ wcancel_p (⟨(dchs z418), (dwts z419), (divs z420), (dpys z421), (⟨z423.toNat, (devs z424)⟩ : Fd), z425.toNat, z426.toNat⟩ : Wl) z427.toNat, wcancel_r (⟨(dchs z418), (dwts z419), (divs z420), (dpys z421), (⟨z423.toNat, (devs z424)⟩ : Fd), z425.toNat, z426.toNat⟩ : Wl) z427.toNat, [])
  | _ => none
attribute [go_sem] sp_wcancel
theorem sp_wcancel_ok : ∀ rs p r fr, sp_wcancel rs = some (p, r, fr) → p → FnOk Tryz.prog 20 rs r fr := by
  intro rs p r fr h hp
  unfold sp_wcancel at h
  split at h <;> cases h
  obtain ⟨hc0, hc1, hc2, hc3, hc4, hc5, hc6, hc7, hc8, hp⟩ := hp
  rename_i z418 z419 z420 z421 z423 z424 z425 z426 z427
  obtain ⟨z418, rfl⟩ : ∃ m, z418 = chs m := ⟨_, hc0⟩
  obtain ⟨z419, rfl⟩ : ∃ m, z419 = wts m := ⟨_, hc1⟩
  obtain ⟨z420, rfl⟩ : ∃ m, z420 = ivs m := ⟨_, hc2⟩
  obtain ⟨z421, rfl⟩ : ∃ m, z421 = pys m := ⟨_, hc3⟩
  obtain ⟨z423, rfl⟩ : ∃ m : Nat, z423 = m := ⟨_, hc4⟩
  obtain ⟨z424, rfl⟩ : ∃ m, z424 = evs m := ⟨_, hc5⟩
  obtain ⟨z425, rfl⟩ : ∃ m : Nat, z425 = m := ⟨_, hc6⟩
  obtain ⟨z426, rfl⟩ : ∃ m : Nat, z426 = m := ⟨_, hc7⟩
  obtain ⟨z427, rfl⟩ : ∃ m : Nat, z427 = m := ⟨_, hc8⟩
  simp only [Int.toNat_natCast, dchs_chs, devs_evs, divs_ivs, dpys_pys, dwts_wts]
  simp only [Int.toNat_natCast, dchs_chs, devs_evs, divs_ivs, dpys_pys, dwts_wts, wcancel_p] at hp
  exact wcancel_ok ⟨z418, z419, z420, z421, ⟨z423, z424⟩, z425, z426⟩ z427 hp
end Dm
