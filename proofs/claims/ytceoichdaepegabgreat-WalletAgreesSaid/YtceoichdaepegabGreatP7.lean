import Derived.Test.YtceoichdaepegabGreatP6

set_option linter.unusedSimpArgs false
set_option linter.unusedVariables false
set_option linter.unusedSectionVars false
namespace Dm
open Go Go.Proofs Go.IntWalk
theorem i1_0 : ((1 : Int) = 0) = False := eq_false (by decide)
theorem i7_0 : ((7 : Int) = 0) = False := eq_false (by decide)
theorem i9_0 : ((9 : Int) = 0) = False := eq_false (by decide)
def payP (v : Wl) (hash n : Nat) : List Py × Int := startP v.p ⟨v.next, hash, (firstL v.c v.w n).1, n, 1⟩
def payC (v : Wl) (n : Nat) : List Ch × Int := lholdL v.c (firstL v.c v.w n).1 v.next n
def payF (v : Wl) (n : Nat) : Fd × Nat × Int := addF v.f 0 v.next n
def payE (v : Wl) (hash n : Nat) : Int := if ¬ okW v ∨ n = 0 ∨ ¬ n ≤ MM then 1 else if (firstL v.c v.w n).2 ≠ 0 then 9 else if v.next = MM then 7 else if (payP v hash n).2 ≠ 0 then (payP v hash n).2 else if (payC v n).2 ≠ 0 then (payC v n).2 else (payF v n).2.2
def zeroW : Wl := ⟨[], [], [], [], ⟨0, []⟩, 0, 0⟩
def payW (v : Wl) (hash n : Nat) : Wl × Nat × Int := if payE v hash n = 0 then (⟨(payC v n).1, v.w, v.i, (payP v hash n).1, (payF v n).1, v.next + 1, v.tick⟩, v.next, 0) else (zeroW, 0, payE v hash n)
@[go_sem] def wpay_r (v : Wl) (hash : Nat) (n : Nat) : D := .tup [.agg [.sl (chs (payW v hash n).1.c), .sl (wts (payW v hash n).1.w), .sl (ivs (payW v hash n).1.i), .sl (pys (payW v hash n).1.p), .int .u64 (payW v hash n).1.f.next, .sl (evs (payW v hash n).1.f.l), .int .u64 (payW v hash n).1.next, .int .u64 (payW v hash n).1.tick], .int .u64 (payW v hash n).2.1, .int .i64 (payW v hash n).2.2]
@[go_sem] abbrev n_wpay : FuncId := 15
@[go_sem] def wpay_T : Tab := [(9, sp_wcheck), (40, sp_moncheck), (41, sp_first), (44, sp_pstart), (46, sp_lhold), (80, sp_fadd), (81, sp_wown)]
theorem wpay_T_ok : TabOk Tryz.prog wpay_T := (TabOk.cons sp_wcheck_ok (TabOk.cons sp_moncheck_ok (TabOk.cons sp_first_ok (TabOk.cons sp_pstart_ok (TabOk.cons sp_lhold_ok (TabOk.cons sp_fadd_ok (TabOk.cons sp_wown_ok TabOk.nil)))))))
set_option maxRecDepth 8000 in
set_option maxHeartbeats 1000000 in
theorem wpay_ok (v : Wl) (hash : Nat) (n : Nat) (h : v.f.next ≤ 18446744073709551615) : PureFn Tryz.prog 15 [.agg [.sl (chs v.c), .sl (wts v.w), .sl (ivs v.i), .sl (pys v.p), .c (.int .u64 (v.f.next : Int)), .sl (evs v.f.l), .c (.int .u64 (v.next : Int)), .c (.int .u64 (v.tick : Int))], .c (.int .u64 (hash : Int)), .c (.int .u64 (n : Int))] (wpay_r v hash n) := by
  refine .of (ac15 wpay_T_ok (Nat.le_of_ble_eq_true rfl) ?_)
  simp -implicitDefEqProofs only [cdA, go_sem, Go.Proofs.Tryz.f15, reduceIte, List.cons.injEq, cdB]
  refine ac33 wpay_T_ok (Nat.le_of_ble_eq_true rfl) ?_
  simp -implicitDefEqProofs only [cdA, go_sem, Go.Proofs.Tryz.f33, reduceIte, List.cons.injEq, cdB]
  refine ADraw.run us33_1 wpay_T_ok follows_mixed (by kernel_rfl) (by kernel_rfl) ?_
  simp -implicitDefEqProofs only [cdA, go_sem, reduceIte, List.cons.injEq, cdB]
  refine ⟨h, ?_⟩
  have hbad : ∀ e : Int, payE v hash n = e → ¬ e = 0 → (chs (payW v hash n).1.c = [] ∧ wts (payW v hash n).1.w = [] ∧ ivs (payW v hash n).1.i = [] ∧ pys (payW v hash n).1.p = [] ∧ 0 = ((payW v hash n).1.f.next : Int) ∧ evs (payW v hash n).1.f.l = [] ∧ 0 = ((payW v hash n).1.next : Int) ∧ 0 = ((payW v hash n).1.tick : Int)) ∧ 0 = ((payW v hash n).2.1 : Int) ∧ e = (payW v hash n).2.2 := fun e h1 h2 => by
    have : payW v hash n = (zeroW, 0, e) := by rw [payW, if_neg (by rw [h1]; exact h2), h1]
    rw [this]; exact ⟨⟨rfl, rfl, rfl, rfl, rfl, rfl, rfl, rfl⟩, rfl, rfl⟩
  by_cases hok : okW v
  rotate_left 1
  · have hck : (chkW v = 0) = False := eq_false fun h => hok (chkW_0.1 h)
    have he : payE v hash n = 1 := by rw [payE, if_pos (.inl hok)]
    have hc1 : chkW v = 1 := by rw [chkW, if_neg hok]
    refine ⟨fun hn => ?_, fun hn => ?_⟩
    · skip
      refine ac39 wpay_T_ok (Nat.le_of_ble_eq_true rfl) ?_
      simp -implicitDefEqProofs only [cdA, go_sem, Go.Proofs.Tryz.f39, hck, cdN, reduceIte, List.cons.injEq, cdB]
      refine ac39 wpay_T_ok (Nat.le_of_ble_eq_true rfl) ?_
      simp -implicitDefEqProofs only [cdA, go_sem, Go.Proofs.Tryz.f39, hck, cdN, reduceIte, List.cons.injEq, cdB]
      refine ac39 wpay_T_ok (Nat.le_of_ble_eq_true rfl) ?_
      simp -implicitDefEqProofs only [cdA, go_sem, Go.Proofs.Tryz.f39, hck, cdN, reduceIte, List.cons.injEq, cdB]
      refine ac42 wpay_T_ok (Nat.le_of_ble_eq_true rfl) ?_
      simp -implicitDefEqProofs only [cdA, go_sem, Go.Proofs.Tryz.f42, hck, cdN, reduceIte, List.cons.injEq, cdB]
      refine ac34 wpay_T_ok (Nat.le_of_ble_eq_true rfl) ?_
      simp -implicitDefEqProofs only [cdA, go_sem, Go.Proofs.Tryz.f34, hck, cdN, reduceIte, List.cons.injEq, cdB]
      refine ac37 wpay_T_ok (Nat.le_of_ble_eq_true rfl) ?_
      simp -implicitDefEqProofs only [cdA, go_sem, Go.Proofs.Tryz.f37, reduceIte, List.cons.injEq, cdB]
      refine ac78 wpay_T_ok (Nat.le_of_ble_eq_true rfl) ?_
      simp -implicitDefEqProofs only [cdA, go_sem, Go.Proofs.Tryz.f78, hck, cdN, reduceIte, List.cons.injEq, cdB]
      refine ac38 wpay_T_ok (Nat.le_of_ble_eq_true rfl) ?_
      simp -implicitDefEqProofs only [cdA, go_sem, Go.Proofs.Tryz.f38, hck, cdN, reduceIte, List.cons.injEq, cdB]
      refine ADraw.run us38_2 wpay_T_ok follows_mixed (by kernel_rfl) (by kernel_rfl) ?_
      simp -implicitDefEqProofs only [cdA, go_sem, hck, cdN, reduceIte, List.cons.injEq, cdB]
      exact hbad _ (he.trans hc1.symm) (by rw [hc1]; decide)
    · skip
      refine ac39 wpay_T_ok (Nat.le_of_ble_eq_true rfl) ?_
      simp -implicitDefEqProofs only [cdA, go_sem, Go.Proofs.Tryz.f39, hck, cdN, reduceIte, List.cons.injEq, cdB]
      refine ac39 wpay_T_ok (Nat.le_of_ble_eq_true rfl) ?_
      simp -implicitDefEqProofs only [cdA, go_sem, Go.Proofs.Tryz.f39, hck, cdN, reduceIte, List.cons.injEq, cdB]
      refine ac39 wpay_T_ok (Nat.le_of_ble_eq_true rfl) ?_
      simp -implicitDefEqProofs only [cdA, go_sem, Go.Proofs.Tryz.f39, hck, cdN, reduceIte, List.cons.injEq, cdB]
      refine ac42 wpay_T_ok (Nat.le_of_ble_eq_true rfl) ?_
      simp -implicitDefEqProofs only [cdA, go_sem, Go.Proofs.Tryz.f42, hck, cdN, reduceIte, List.cons.injEq, cdB]
      refine ac34 wpay_T_ok (Nat.le_of_ble_eq_true rfl) ?_
      simp -implicitDefEqProofs only [cdA, go_sem, Go.Proofs.Tryz.f34, hck, cdN, reduceIte, List.cons.injEq, cdB]
      refine ac37 wpay_T_ok (Nat.le_of_ble_eq_true rfl) ?_
      simp -implicitDefEqProofs only [cdA, go_sem, Go.Proofs.Tryz.f37, reduceIte, List.cons.injEq, cdB]
      refine ac78 wpay_T_ok (Nat.le_of_ble_eq_true rfl) ?_
      simp -implicitDefEqProofs only [cdA, go_sem, Go.Proofs.Tryz.f78, hck, cdN, reduceIte, List.cons.injEq, cdB]
      refine ac38 wpay_T_ok (Nat.le_of_ble_eq_true rfl) ?_
      simp -implicitDefEqProofs only [cdA, go_sem, Go.Proofs.Tryz.f38, hck, cdN, reduceIte, List.cons.injEq, cdB]
      refine ADraw.run us38_2 wpay_T_ok follows_mixed (by kernel_rfl) (by kernel_rfl) ?_
      simp -implicitDefEqProofs only [cdA, go_sem, hck, cdN, reduceIte, List.cons.injEq, cdB]
      exact hbad _ (he.trans hc1.symm) (by rw [hc1]; decide)
  have hck : (chkW v = 0) = True := eq_true (chkW_0.2 hok)
  refine ⟨fun hn => ?_, fun hn => ?_⟩
  rotate_left 1
  · skip
    refine ac39 wpay_T_ok (Nat.le_of_ble_eq_true rfl) ?_
    simp -implicitDefEqProofs only [cdA, go_sem, Go.Proofs.Tryz.f39, hck, cdN, reduceIte, List.cons.injEq, cdB]
    skip
    refine ac39 wpay_T_ok (Nat.le_of_ble_eq_true rfl) ?_
    simp -implicitDefEqProofs only [cdA, go_sem, Go.Proofs.Tryz.f39, i1_0, cdN, reduceIte, List.cons.injEq, cdB]
    refine ac39 wpay_T_ok (Nat.le_of_ble_eq_true rfl) ?_
    simp -implicitDefEqProofs only [cdA, go_sem, Go.Proofs.Tryz.f39, i1_0, cdN, reduceIte, List.cons.injEq, cdB]
    refine ac42 wpay_T_ok (Nat.le_of_ble_eq_true rfl) ?_
    simp -implicitDefEqProofs only [cdA, go_sem, Go.Proofs.Tryz.f42, i1_0, cdN, reduceIte, List.cons.injEq, cdB]
    refine ac34 wpay_T_ok (Nat.le_of_ble_eq_true rfl) ?_
    simp -implicitDefEqProofs only [cdA, go_sem, Go.Proofs.Tryz.f34, i1_0, cdN, reduceIte, List.cons.injEq, cdB]
    refine ac37 wpay_T_ok (Nat.le_of_ble_eq_true rfl) ?_
    simp -implicitDefEqProofs only [cdA, go_sem, Go.Proofs.Tryz.f37, reduceIte, List.cons.injEq, cdB]
    refine ac78 wpay_T_ok (Nat.le_of_ble_eq_true rfl) ?_
    simp -implicitDefEqProofs only [cdA, go_sem, Go.Proofs.Tryz.f78, i1_0, cdN, reduceIte, List.cons.injEq, cdB]
    refine ac38 wpay_T_ok (Nat.le_of_ble_eq_true rfl) ?_
    simp -implicitDefEqProofs only [cdA, go_sem, Go.Proofs.Tryz.f38, i1_0, cdN, reduceIte, List.cons.injEq, cdB]
    refine ADraw.run us38_2 wpay_T_ok follows_mixed (by kernel_rfl) (by kernel_rfl) ?_
    simp -implicitDefEqProofs only [cdA, go_sem, i1_0, cdN, reduceIte, List.cons.injEq, cdB]
    exact hbad _ (by rw [payE, if_pos (.inr (.inl (by omega)))]) (by decide)
  have hmon : monS [n] = 0 ↔ n ≤ MM := mon1_0
  by_cases hm : monS [n] = 0
  rotate_left 1
  · skip
    refine ac39 wpay_T_ok (Nat.le_of_ble_eq_true rfl) ?_
    simp -implicitDefEqProofs only [cdA, go_sem, Go.Proofs.Tryz.f39, hck, hm, cdN, reduceIte, List.cons.injEq, cdB]
    skip
    refine ac39 wpay_T_ok (Nat.le_of_ble_eq_true rfl) ?_
    simp -implicitDefEqProofs only [cdA, go_sem, Go.Proofs.Tryz.f39, i1_0, cdN, reduceIte, List.cons.injEq, cdB]
    refine ac39 wpay_T_ok (Nat.le_of_ble_eq_true rfl) ?_
    simp -implicitDefEqProofs only [cdA, go_sem, Go.Proofs.Tryz.f39, i1_0, cdN, reduceIte, List.cons.injEq, cdB]
    refine ac42 wpay_T_ok (Nat.le_of_ble_eq_true rfl) ?_
    simp -implicitDefEqProofs only [cdA, go_sem, Go.Proofs.Tryz.f42, i1_0, cdN, reduceIte, List.cons.injEq, cdB]
    refine ac34 wpay_T_ok (Nat.le_of_ble_eq_true rfl) ?_
    simp -implicitDefEqProofs only [cdA, go_sem, Go.Proofs.Tryz.f34, i1_0, cdN, reduceIte, List.cons.injEq, cdB]
    refine ac37 wpay_T_ok (Nat.le_of_ble_eq_true rfl) ?_
    simp -implicitDefEqProofs only [cdA, go_sem, Go.Proofs.Tryz.f37, reduceIte, List.cons.injEq, cdB]
    refine ac78 wpay_T_ok (Nat.le_of_ble_eq_true rfl) ?_
    simp -implicitDefEqProofs only [cdA, go_sem, Go.Proofs.Tryz.f78, i1_0, cdN, reduceIte, List.cons.injEq, cdB]
    refine ac38 wpay_T_ok (Nat.le_of_ble_eq_true rfl) ?_
    simp -implicitDefEqProofs only [cdA, go_sem, Go.Proofs.Tryz.f38, i1_0, cdN, reduceIte, List.cons.injEq, cdB]
    refine ADraw.run us38_2 wpay_T_ok follows_mixed (by kernel_rfl) (by kernel_rfl) ?_
    simp -implicitDefEqProofs only [cdA, go_sem, i1_0, cdN, reduceIte, List.cons.injEq, cdB]
    exact hbad _ (by rw [payE, if_pos (.inr (.inr fun h => hm (hmon.2 h)))]) (by decide)
  have hA : ¬ (¬ okW v ∨ n = 0 ∨ ¬ n ≤ MM) := by
    rintro (h | h | h)
    · exact h hok
    · omega
    · exact h (hmon.1 hm)
  refine ac39 wpay_T_ok (Nat.le_of_ble_eq_true rfl) ?_
  simp -implicitDefEqProofs only [cdA, go_sem, Go.Proofs.Tryz.f39, hck, hm, cdN, reduceIte, List.cons.injEq, cdB]
  by_cases hfe : (firstL v.c v.w n).2 = 0
  rotate_left 1
  · skip
    refine ac39 wpay_T_ok (Nat.le_of_ble_eq_true rfl) ?_
    simp -implicitDefEqProofs only [cdA, go_sem, Go.Proofs.Tryz.f39, hck, hfe, cdN, reduceIte, List.cons.injEq, cdB]
    skip
    refine ac39 wpay_T_ok (Nat.le_of_ble_eq_true rfl) ?_
    simp -implicitDefEqProofs only [cdA, go_sem, Go.Proofs.Tryz.f39, i9_0, cdN, reduceIte, List.cons.injEq, cdB]
    refine ac42 wpay_T_ok (Nat.le_of_ble_eq_true rfl) ?_
    simp -implicitDefEqProofs only [cdA, go_sem, Go.Proofs.Tryz.f42, i9_0, cdN, reduceIte, List.cons.injEq, cdB]
    refine ac34 wpay_T_ok (Nat.le_of_ble_eq_true rfl) ?_
    simp -implicitDefEqProofs only [cdA, go_sem, Go.Proofs.Tryz.f34, i9_0, cdN, reduceIte, List.cons.injEq, cdB]
    refine ac37 wpay_T_ok (Nat.le_of_ble_eq_true rfl) ?_
    simp -implicitDefEqProofs only [cdA, go_sem, Go.Proofs.Tryz.f37, reduceIte, List.cons.injEq, cdB]
    refine ac78 wpay_T_ok (Nat.le_of_ble_eq_true rfl) ?_
    simp -implicitDefEqProofs only [cdA, go_sem, Go.Proofs.Tryz.f78, i9_0, cdN, reduceIte, List.cons.injEq, cdB]
    refine ac38 wpay_T_ok (Nat.le_of_ble_eq_true rfl) ?_
    simp -implicitDefEqProofs only [cdA, go_sem, Go.Proofs.Tryz.f38, i9_0, cdN, reduceIte, List.cons.injEq, cdB]
    refine ADraw.run us38_2 wpay_T_ok follows_mixed (by kernel_rfl) (by kernel_rfl) ?_
    simp -implicitDefEqProofs only [cdA, go_sem, i9_0, cdN, reduceIte, List.cons.injEq, cdB]
    exact hbad _ (by rw [payE, if_neg hA, if_pos hfe]) (by decide)
  refine ac39 wpay_T_ok (Nat.le_of_ble_eq_true rfl) ?_
  simp -implicitDefEqProofs only [cdA, go_sem, Go.Proofs.Tryz.f39, hck, hfe, cdN, reduceIte, List.cons.injEq, cdB]
  by_cases hnx : v.next = MM
  · have hnx' : ((v.next : Int) = 4611686018427387904) = True := eq_true (by unfold MM at hnx; omega)
    refine ac39 wpay_T_ok (Nat.le_of_ble_eq_true rfl) ?_
    simp -implicitDefEqProofs only [cdA, go_sem, Go.Proofs.Tryz.f39, hck, hnx', decide_false, cdN, reduceIte, List.cons.injEq, cdB]
    skip
    refine ac42 wpay_T_ok (Nat.le_of_ble_eq_true rfl) ?_
    simp -implicitDefEqProofs only [cdA, go_sem, Go.Proofs.Tryz.f42, i7_0, cdN, reduceIte, List.cons.injEq, cdB]
    refine ac34 wpay_T_ok (Nat.le_of_ble_eq_true rfl) ?_
    simp -implicitDefEqProofs only [cdA, go_sem, Go.Proofs.Tryz.f34, i7_0, cdN, reduceIte, List.cons.injEq, cdB]
    refine ac37 wpay_T_ok (Nat.le_of_ble_eq_true rfl) ?_
    simp -implicitDefEqProofs only [cdA, go_sem, Go.Proofs.Tryz.f37, reduceIte, List.cons.injEq, cdB]
    refine ac78 wpay_T_ok (Nat.le_of_ble_eq_true rfl) ?_
    simp -implicitDefEqProofs only [cdA, go_sem, Go.Proofs.Tryz.f78, i7_0, cdN, reduceIte, List.cons.injEq, cdB]
    refine ac38 wpay_T_ok (Nat.le_of_ble_eq_true rfl) ?_
    simp -implicitDefEqProofs only [cdA, go_sem, Go.Proofs.Tryz.f38, i7_0, cdN, reduceIte, List.cons.injEq, cdB]
    refine ADraw.run us38_2 wpay_T_ok follows_mixed (by kernel_rfl) (by kernel_rfl) ?_
    simp -implicitDefEqProofs only [cdA, go_sem, i7_0, cdN, reduceIte, List.cons.injEq, cdB]
    exact hbad _ (by rw [payE, if_neg hA, if_neg (fun h => h hfe), if_pos hnx]) (by decide)
  have hnx' : ((v.next : Int) = 4611686018427387904) = False := eq_false (by unfold MM at hnx; omega)
  refine ac39 wpay_T_ok (Nat.le_of_ble_eq_true rfl) ?_
  simp -implicitDefEqProofs only [cdA, go_sem, Go.Proofs.Tryz.f39, hck, hnx', decide_true, cdN, reduceIte, List.cons.injEq, cdB]
  refine ac42 wpay_T_ok (Nat.le_of_ble_eq_true rfl) ?_
  simp -implicitDefEqProofs only [cdA, go_sem, Go.Proofs.Tryz.f42, hck, cdN, reduceIte, List.cons.injEq, cdB]
  refine ac43 wpay_T_ok (Nat.le_of_ble_eq_true rfl) ?_
  simp -implicitDefEqProofs only [cdA, go_sem, Go.Proofs.Tryz.f43, reduceIte, List.cons.injEq, cdB]
  have eP : startP v.p ⟨v.next, hash, (firstL v.c v.w n).1, n, 1⟩ = payP v hash n := rfl
  rw [eP]
  refine ⟨fun hst => ?_, fun hst => ?_⟩
  rotate_left 1
  · skip
    refine ac34 wpay_T_ok (Nat.le_of_ble_eq_true rfl) ?_
    simp -implicitDefEqProofs only [cdA, go_sem, Go.Proofs.Tryz.f34, hst, cdN, reduceIte, List.cons.injEq, cdB]
    refine ac37 wpay_T_ok (Nat.le_of_ble_eq_true rfl) ?_
    simp -implicitDefEqProofs only [cdA, go_sem, Go.Proofs.Tryz.f37, reduceIte, List.cons.injEq, cdB]
    refine ac78 wpay_T_ok (Nat.le_of_ble_eq_true rfl) ?_
    simp -implicitDefEqProofs only [cdA, go_sem, Go.Proofs.Tryz.f78, hst, cdN, reduceIte, List.cons.injEq, cdB]
    refine ac38 wpay_T_ok (Nat.le_of_ble_eq_true rfl) ?_
    simp -implicitDefEqProofs only [cdA, go_sem, Go.Proofs.Tryz.f38, hst, cdN, reduceIte, List.cons.injEq, cdB]
    refine ADraw.run us38_2 wpay_T_ok follows_mixed (by kernel_rfl) (by kernel_rfl) ?_
    simp -implicitDefEqProofs only [cdA, go_sem, hst, cdN, reduceIte, List.cons.injEq, cdB]
    exact hbad _ (by rw [payE, if_neg hA, if_neg (fun h => h hfe), if_neg hnx, if_pos hst]) hst
  refine ac34 wpay_T_ok (Nat.le_of_ble_eq_true rfl) ?_
  simp -implicitDefEqProofs only [cdA, go_sem, Go.Proofs.Tryz.f34, hck, cdN, reduceIte, List.cons.injEq, cdB]
  refine ac45 wpay_T_ok (Nat.le_of_ble_eq_true rfl) ?_
  simp -implicitDefEqProofs only [cdA, go_sem, Go.Proofs.Tryz.f45, reduceIte, List.cons.injEq, cdB]
  have eC : lholdL v.c (firstL v.c v.w n).1 v.next n = payC v n := rfl
  rw [eC]
  refine ⟨fun hho => ?_, fun hho => ?_⟩
  rotate_left 1
  · skip
    refine ac37 wpay_T_ok (Nat.le_of_ble_eq_true rfl) ?_
    simp -implicitDefEqProofs only [cdA, go_sem, Go.Proofs.Tryz.f37, reduceIte, List.cons.injEq, cdB]
    refine ac78 wpay_T_ok (Nat.le_of_ble_eq_true rfl) ?_
    simp -implicitDefEqProofs only [cdA, go_sem, Go.Proofs.Tryz.f78, hho, cdN, reduceIte, List.cons.injEq, cdB]
    refine ac38 wpay_T_ok (Nat.le_of_ble_eq_true rfl) ?_
    simp -implicitDefEqProofs only [cdA, go_sem, Go.Proofs.Tryz.f38, hho, cdN, reduceIte, List.cons.injEq, cdB]
    refine ADraw.run us38_2 wpay_T_ok follows_mixed (by kernel_rfl) (by kernel_rfl) ?_
    simp -implicitDefEqProofs only [cdA, go_sem, hho, cdN, reduceIte, List.cons.injEq, cdB]
    exact hbad _ (by rw [payE, if_neg hA, if_neg (fun h => h hfe), if_neg hnx, if_neg (fun h => h hst), if_pos hho]) hho
  refine ac37 wpay_T_ok (Nat.le_of_ble_eq_true rfl) ?_
  simp -implicitDefEqProofs only [cdA, go_sem, Go.Proofs.Tryz.f37, reduceIte, List.cons.injEq, cdB]
  refine ac78 wpay_T_ok (Nat.le_of_ble_eq_true rfl) ?_
  simp -implicitDefEqProofs only [cdA, go_sem, Go.Proofs.Tryz.f78, hck, cdN, reduceIte, List.cons.injEq, cdB]
  refine ac79 wpay_T_ok (Nat.le_of_ble_eq_true rfl) ?_
  simp -implicitDefEqProofs only [cdA, go_sem, Go.Proofs.Tryz.f79, reduceIte, List.cons.injEq, cdB]
  have eF : addF v.f 0 v.next n = payF v n := rfl
  have hv := hok.2.2.2.2.2.1
  unfold MM at hv
  rw [eF, show IntKind.u64.wrap ((v.next : Int) + 1) = ((v.next + 1 : Nat) : Int) by rw [u64_in _ (by omega)]; omega]
  refine ⟨h, fun hfd => ?_, fun hfd => ?_⟩
  rotate_left 1
  · skip
    refine ac38 wpay_T_ok (Nat.le_of_ble_eq_true rfl) ?_
    simp -implicitDefEqProofs only [cdA, go_sem, Go.Proofs.Tryz.f38, hfd, cdN, reduceIte, List.cons.injEq, cdB]
    refine ADraw.run us38_2 wpay_T_ok follows_mixed (by kernel_rfl) (by kernel_rfl) ?_
    simp -implicitDefEqProofs only [cdA, go_sem, hfd, cdN, reduceIte, List.cons.injEq, cdB]
    exact hbad _ (by rw [payE, if_neg hA, if_neg (fun h => h hfe), if_neg hnx, if_neg (fun h => h hst), if_neg (fun h => h hho)]) hfd
  have hsm : smallW ⟨(payC v n).1, v.w, v.i, (payP v hash n).1, (payF v n).1, v.next + 1, v.tick⟩ := by
    have h1 := lhold_fine hho
    have h2 := small_ok hok
    have h3 := start_len (l := v.p) (p := ⟨v.next, hash, (firstL v.c v.w n).1, n, 1⟩)
    have h4 := add_len (f := v.f) (k := 0) (a := v.next) (n := n)
    refine ⟨by have := h1.1; show (payC v n).1.length ≤ _; unfold payC; omega, fun c hc => by have := (h1.2.1 c hc).2.2.1; omega, h2.2.2.1, h2.2.2.2.1, by show (payP v hash n).1.length ≤ _; unfold payP; omega, by show (payF v n).1.l.length ≤ _; unfold payF; omega⟩
  have hfin : payW v hash n = (⟨(payC v n).1, v.w, v.i, (payP v hash n).1, (payF v n).1, v.next + 1, v.tick⟩, v.next, 0) := by
    have : payE v hash n = 0 := by rw [payE, if_neg hA, if_neg (fun h => h hfe), if_neg hnx, if_neg (fun h => h hst), if_neg (fun h => h hho)]; exact hfd
    rw [payW, if_pos this]
  have en : ((v.next : Int) + 1).toNat = v.next + 1 := by omega
  have en2 : ((v.next : Int) + 1 = ((v.next + 1 : Nat) : Int)) = True := eq_true (by omega)
  refine ac38 wpay_T_ok (Nat.le_of_ble_eq_true rfl) ?_
  simp -implicitDefEqProofs only [cdA, go_sem, Go.Proofs.Tryz.f38, hck, en, en2, eq_true hsm, cdN, reduceIte, List.cons.injEq, cdB]
  refine ADraw.run us15_13 wpay_T_ok follows_mixed (by kernel_rfl) (by kernel_rfl) ?_
  simp -implicitDefEqProofs only [cdA, go_sem, reduceIte, List.cons.injEq, cdB]
  rw [hfin]
  exact ⟨⟨rfl, rfl, rfl, rfl, rfl, rfl, by dsimp only; omega, rfl⟩, rfl, rfl⟩
@[go_sem] def wpay_p (v : Wl) (hash : Nat) (n : Nat) : Prop := (v.f.next ≤ 18446744073709551615)
def sp_wpay : List D → Option (Prop × D × Fr)
  | [.agg [.c (.sl z262), .c (.sl z263), .c (.sl z264), .c (.sl z265), .c (.int .u64 z267), .c (.sl z268), .c (.int .u64 z269), .c (.int .u64 z270)], .c (.int .u64 z271), .c (.int .u64 z272)] => some (z262 = chs (dchs z262) ∧ z263 = wts (dwts z263) ∧ z264 = ivs (divs z264) ∧ z265 = pys (dpys z265) ∧ z267 = (z267.toNat : Int) ∧ z268 = evs (devs z268) ∧ z269 = (z269.toNat : Int) ∧ z270 = (z270.toNat : Int) ∧ z271 = (z271.toNat : Int) ∧ z272 = (z272.toNat : Int) ∧ wpay_p (⟨(dchs z262), (dwts z263), (divs z264), (dpys z265), (⟨z267.toNat, (devs z268)⟩ : Fd), z269.toNat, z270.toNat⟩ : Wl) z271.toNat z272.toNat, wpay_r (⟨(dchs z262), (dwts z263), (divs z264), (dpys z265), (⟨z267.toNat, (devs z268)⟩ : Fd), z269.toNat, z270.toNat⟩ : Wl) z271.toNat z272.toNat, [])
  | _ => none
attribute [go_sem] sp_wpay
theorem sp_wpay_ok : ∀ rs p r fr, sp_wpay rs = some (p, r, fr) → p → FnOk Tryz.prog 15 rs r fr := by
  intro rs p r fr h hp
  unfold sp_wpay at h
  split at h <;> cases h
  obtain ⟨hc0, hc1, hc2, hc3, hc4, hc5, hc6, hc7, hc8, hc9, hp⟩ := hp
  rename_i z262 z263 z264 z265 z267 z268 z269 z270 z271 z272
  obtain ⟨z262, rfl⟩ : ∃ m, z262 = chs m := ⟨_, hc0⟩
  obtain ⟨z263, rfl⟩ : ∃ m, z263 = wts m := ⟨_, hc1⟩
  obtain ⟨z264, rfl⟩ : ∃ m, z264 = ivs m := ⟨_, hc2⟩
  obtain ⟨z265, rfl⟩ : ∃ m, z265 = pys m := ⟨_, hc3⟩
  obtain ⟨z267, rfl⟩ : ∃ m : Nat, z267 = m := ⟨_, hc4⟩
  obtain ⟨z268, rfl⟩ : ∃ m, z268 = evs m := ⟨_, hc5⟩
  obtain ⟨z269, rfl⟩ : ∃ m : Nat, z269 = m := ⟨_, hc6⟩
  obtain ⟨z270, rfl⟩ : ∃ m : Nat, z270 = m := ⟨_, hc7⟩
  obtain ⟨z271, rfl⟩ : ∃ m : Nat, z271 = m := ⟨_, hc8⟩
  obtain ⟨z272, rfl⟩ : ∃ m : Nat, z272 = m := ⟨_, hc9⟩
  simp only [Int.toNat_natCast, dchs_chs, devs_evs, divs_ivs, dpys_pys, dwts_wts]
  simp only [Int.toNat_natCast, dchs_chs, devs_evs, divs_ivs, dpys_pys, dwts_wts, wpay_p] at hp
  exact wpay_ok ⟨z262, z263, z264, z265, ⟨z267, z268⟩, z269, z270⟩ z271 z272 hp
end Dm
namespace Dm
open Go Go.Proofs Go.IntWalk
theorem addF_ok {f : Fd} {k : Int} {a n : Nat} (h : (addF f k a n).2.2 = 0) : okFd (addF f k a n).1 := by
  unfold addF at h ⊢
  split at h
  rotate_left 1
  · cases h
  rename_i h1
  obtain ⟨⟨o1, o2, o3, o4⟩, hk⟩ := h1
  split at h
  · cases h
  rename_i h2
  rw [if_pos ⟨⟨o1, o2, o3, o4⟩, hk⟩, if_neg h2]
  have h5 := (okEv_get f.next f.l).1 o4
  have hlen : ((f.l ++ [(⟨f.next, k, a, n⟩ : Ev)]).drop (f.l.length + 1 - 64)).length = min f.next 64 := by
    rw [List.length_drop, List.length_append, List.length_singleton]; omega
  refine ⟨by dsimp only; omega, by dsimp only; unfold MM at *; omega, by dsimp only; rw [hlen]; omega, ?_⟩
  dsimp only
  rw [okEv_get]
  intro i hi
  have e : ((f.l ++ [(⟨f.next, k, a, n⟩ : Ev)]).drop (f.l.length + 1 - 64)).getD i default = (f.l ++ [(⟨f.next, k, a, n⟩ : Ev)]).getD (f.l.length + 1 - 64 + i) default := by
    rw [List.getD_eq_getElem?_getD, List.getElem?_drop, ← List.getD_eq_getElem?_getD]
  rw [e]
  rw [hlen] at hi ⊢
  by_cases hj : f.l.length + 1 - 64 + i < f.l.length
  · rw [List.getD_eq_getElem?_getD, List.getElem?_append_left hj, ← List.getD_eq_getElem?_getD]
    have := h5 _ hj
    refine ⟨?_, this.2⟩
    rw [this.1]; omega
  · rw [List.getD_eq_getElem?_getD, List.getElem?_append_right (by omega), show f.l.length + 1 - 64 + i - f.l.length = 0 by omega]
    refine ⟨?_, hk⟩
    show ((f.next : Nat) : Int) = _
    omega
theorem pos_last {l : List Py} {k : Nat} (h : ∀ x ∈ l, x.id < k) : Srt.pos Py.id ltN l k = l.length :=
  Srt.pos_eq (Nat.le_refl _) (fun j hj => h _ (mem_getD.2 ⟨j, hj, rfl⟩)) (fun h => absurd h (by omega))
theorem ins_last {l : List Py} {x : Py} : Srt.ins l l.length x = l ++ [x] := by
  unfold Srt.ins; rw [List.take_length, List.drop_length]
theorem pend_app {a b : List Py} : pend (a ++ b) = pend a ++ pend b := by simp [pend]
theorem start_app {l : List Py} {p : Py} (h : (startP l p).2 = 0) (hlt : ∀ x ∈ l, x.id < p.id) : okPy l ∧ okPy1 p ∧ p.state = 1 ∧ ∃ b, (startP l p).1 = b ++ [p] ∧ b.Sublist l ∧ pend b = pend l ∧ b.length ≤ 255 := by
  unfold startP at h ⊢
  split at h
  · cases h
  rename_i hA
  have hok : okPy l := Decidable.byContradiction fun h => hA (.inl h)
  have hp1 : okPy1 p := Decidable.byContradiction fun h => hA (.inr (.inl h))
  have hs : p.state = 1 := Decidable.byContradiction fun h => hA (.inr (.inr h))
  refine ⟨hok, hp1, hs, ?_⟩
  split at h
  · cases h
  rename_i ht
  rw [if_neg hA, if_neg ht]
  have hl := hok.1
  split at h
  · rename_i h256
    rw [if_pos h256]
    cases hi : idle l with
    | none => rw [hi] at h; cases h
    | some k =>
      dsimp only
      unfold idle at hi
      obtain ⟨hk, hks, hkl⟩ := List.findIdx?_eq_some_iff_getElem.1 hi
      have hlen : (l.eraseIdx k).length = l.length - 1 := List.length_eraseIdx_of_lt hk
      have hpos := pos_last hlt
      refine ⟨l.eraseIdx k, ?_, List.eraseIdx_sublist _ _, ?_, by omega⟩
      · rw [hpos, if_pos hk, ← hlen, ins_last]
      · have e : l = l.take k ++ l[k] :: l.drop (k + 1) := by rw [List.getElem_cons_drop, List.take_append_drop]
        have hst : ¬ l[k].state = 1 := by simpa using hks
        rw [List.eraseIdx_eq_take_drop_succ]
        conv => rhs; rw [e]
        rw [pend_app, pend_app]
        congr 1
        unfold pend
        rw [List.filter_cons_of_neg (by simpa using hst)]
  · rename_i h256
    rw [if_neg h256]
    refine ⟨l, ?_, List.Sublist.refl _, rfl, by omega⟩
    dsimp only
    rw [pos_last hlt, ins_last]
theorem okPy_up {l : List Py} (h : okPy l) : Srt.Up Py.id ltN l := (Srt.chn_up (lt := ltN) Srt.totNat).1 h.2.2
theorem start_ok {l b : List Py} {p : Py} (hok : okPy l) (hb : b.Sublist l) (hl : b.length ≤ 255) (hp : okPy1 p) (hlt : ∀ x ∈ l, x.id < p.id) : okPy (b ++ [p]) := by
  refine ⟨by rw [List.length_append, List.length_singleton]; omega, fun x hx => ?_, (Srt.chn_up (lt := ltN) Srt.totNat).2 ?_⟩
  · rcases List.mem_append.1 hx with h | h
    · exact hok.2.1 x (hb.subset h)
    · rw [List.mem_singleton] at h; subst h; exact hp
  · unfold Srt.Up
    rw [List.pairwise_append]
    refine ⟨(okPy_up hok).sublist hb, List.pairwise_singleton _ _, fun x hx y hy => ?_⟩
    rw [List.mem_singleton] at hy; subst hy
    exact hlt x (hb.subset hx)
theorem up_last {l : List Py} {k : Nat} (hu : Srt.Up Py.id ltN l) (h : 0 < l.length → (l.getD (l.length - 1) default).id < k) : ∀ x ∈ l, x.id < k := fun x hx => by
  obtain ⟨i, hi, rfl⟩ := mem_getD.1 hx
  by_cases hl : i = l.length - 1
  · rw [hl]; exact h (by omega)
  · have := Srt.up_get.1 hu i (l.length - 1) (by omega) (by omega)
    have h2 := h (by omega)
    simp only [ltN] at this; omega
theorem hlL_set {l : List Ch} {p : Nat} {d : Ch} {x : Hd} (hp : p < l.length) (hi : d.id = (l.getD p default).id) (hd : d.holds.Perm (x :: (l.getD p default).holds)) : (hlL (l.set p d)).Perm ((d.id, x.id, x.n) :: hlL l) := by
  conv => rhs; rw [split_at hp]
  rw [split_set hp]
  simp only [hlL, List.flatMap_append, List.flatMap_cons]
  have h1 : (hlC d).Perm ((d.id, x.id, x.n) :: hlC (l.getD p default)) := by
    unfold hlC
    rw [← hi]
    exact hd.map fun h => (d.id, h.id, h.n)
  refine (List.Perm.append_left _ (h1.append_right _)).trans ?_
  exact List.perm_middle
def ourC (c : Ch) : Nat := if c.op = true then c.loc else 0
def ourS (l : List Ch) : Nat := (l.map ourC).sum
def heldS (l : List Ch) : Nat := (l.map fun c => held c.holds).sum
theorem ourS_set {l : List Ch} {p : Nat} {d : Ch} (hp : p < l.length) : ourS (l.set p d) + ourC (l.getD p default) = ourS l + ourC d := by
  conv => rhs; rw [split_at hp]
  rw [split_set hp]
  simp only [ourS, List.map_append, List.map_cons, List.sum_append, List.sum_cons]
  omega
theorem heldS_set {l : List Ch} {p : Nat} {d : Ch} (hp : p < l.length) : heldS (l.set p d) + held (l.getD p default).holds = heldS l + held d.holds := by
  conv => rhs; rw [split_at hp]
  rw [split_set hp]
  simp only [heldS, List.map_append, List.map_cons, List.sum_append, List.sum_cons]
  omega
theorem agr_parts {p : List Py} {c : List Ch} : agrL p c = (true, 0) ↔ okPy p ∧ c.length ≤ 32 ∧ (c.map Ch.id).Nodup ∧ (∀ q ∈ pend p, (q.chan, q.id, q.n) ∈ hlL c) ∧ (hlL c).length = (pend p).length := by
  unfold agrL
  split
  · rename_i h
    rw [Prod.mk.injEq]
    refine ⟨fun h1 => ⟨h.1, h.2.1, h.2.2, of_decide_eq_true h1.1⟩, fun h1 => ⟨decide_eq_true h1.2.2.2, rfl⟩⟩
  · rename_i h
    refine ⟨fun h1 => (by cases h1), fun h1 => absurd ⟨h1.1, h1.2.1, h1.2.2.1⟩ h⟩
theorem okLd_ids {l : List Ch} (h : okLd l) : (l.map Ch.id).Nodup := by
  have h1 := (Srt.chn_up (lt := ltN) Srt.totNat).1 h.2.2.1
  unfold Srt.Up at h1
  rw [List.Nodup, List.pairwise_map]
  exact h1.imp fun hlt he => by simp only [ltN] at hlt; omega
theorem payE_0 {v : Wl} {hash n : Nat} (h : payE v hash n = 0) : okW v ∧ n ≠ 0 ∧ n ≤ MM ∧ (firstL v.c v.w n).2 = 0 ∧ v.next ≠ MM ∧ (payP v hash n).2 = 0 ∧ (payC v n).2 = 0 ∧ (payF v n).2.2 = 0 := by
  unfold payE at h
  split at h
  · cases h
  rename_i h1
  split at h
  · cases h
  rename_i h2
  split at h
  · cases h
  rename_i h3
  split at h
  · rename_i h4; exact absurd h h4
  rename_i h4
  split at h
  · rename_i h5; exact absurd h h5
  rename_i h5
  refine ⟨Decidable.byContradiction fun h => h1 (.inl h), fun h => h1 (.inr (.inl h)), Decidable.byContradiction fun h => h1 (.inr (.inr h)), Decidable.byContradiction h2, h3, Decidable.byContradiction h4, Decidable.byContradiction h5, h⟩
theorem payW_e {v : Wl} {hash n : Nat} : (payW v hash n).2.2 = payE v hash n := by
  unfold payW
  split
  · rename_i h; exact h.symm
  · rfl
theorem okW_ids {w : Wl} (h : okW w) : ∀ x ∈ w.p, x.id < w.next := by
  have h1 := (agr_parts.1 h.2.2.2.2.2.2.2).1
  exact up_last (okPy_up h1) h.2.2.2.2.2.2.1
theorem pay_all {v : Wl} {hash n : Nat} (h : (payW v hash n).2.2 = 0) :
    okW v ∧ okW (payW v hash n).1 ∧ (payW v hash n).2.1 = v.next ∧ (payW v hash n).1.next = v.next + 1 ∧ n ≠ 0 ∧ n ≤ MM ∧
    ourS (payW v hash n).1.c + n = ourS v.c ∧ heldS (payW v hash n).1.c = heldS v.c + n ∧
    (∃ ch, pend (payW v hash n).1.p = pend v.p ++ [⟨v.next, hash, ch, n, 1⟩]) ∧ (payW v hash n).1.tick = v.tick ∧ (payW v hash n).1.w = v.w ∧ (payW v hash n).1.i = v.i := by
  rw [payW_e] at h
  obtain ⟨hok, hn, hM, hf, hnx, hP, hC, hF⟩ := payE_0 h
  have e : payW v hash n = (⟨(payC v n).1, v.w, v.i, (payP v hash n).1, (payF v n).1, v.next + 1, v.tick⟩, v.next, 0) := by rw [payW, if_pos h]
  rw [e]
  dsimp only
  have hids := okW_ids hok
  obtain ⟨o1, o2, o3, o4, o5, o6, o7, o8⟩ := hok
  obtain ⟨a1, a2, a3, a4, a5⟩ := agr_parts.1 o8
  have hP' := hP
  unfold payP at hP'
  obtain ⟨-, q1, -, b, hb1, hb2, hb3, hb4⟩ := start_app hP' hids
  have hC' := hC
  unfold payC at hC'
  have hC2 := lhold_fine hC'
  obtain ⟨-, c, hc, hcid, hp, hcp, hw, he, eC⟩ := lhold_at hC'
  have eid : (holdC c v.next n).1.id = c.id := by rw [holdC, if_pos he]
  have ehl : (holdC c v.next n).1.holds.Perm (⟨v.next, n⟩ :: c.holds) := by rw [holdC, if_pos he]; exact hold_perm
  have hop : c.op = true ∧ n ≤ c.loc := by
    have he := he
    unfold holdE at he
    split at he
    · cases he
    split at he
    · cases he
    rename_i h2
    split at he
    · cases he
    split at he
    · cases he
    split at he
    · cases he
    split at he
    · cases he
    refine ⟨by simpa using h2, ?_⟩
    omega
  have eloc : (holdC c v.next n).1.loc = c.loc - n ∧ (holdC c v.next n).1.op = c.op ∧ held (holdC c v.next n).1.holds = n + held c.holds := by rw [holdC, if_pos he]; exact ⟨rfl, rfl, held_ins⟩
  have eC' : (payC v n).1 = v.c.set (Srt.pos Ch.id ltN v.c (firstL v.c v.w n).1) (holdC c v.next n).1 := by unfold payC; rw [eC]
  have eP' : (payP v hash n).1 = b ++ [⟨v.next, hash, (firstL v.c v.w n).1, n, 1⟩] := by unfold payP; exact hb1
  have hpe : pend (payP v hash n).1 = pend v.p ++ [⟨v.next, hash, (firstL v.c v.w n).1, n, 1⟩] := by
    rw [eP', pend_app, hb3]; rfl
  have hset := hlL_set (l := v.c) (p := Srt.pos Ch.id ltN v.c (firstL v.c v.w n).1) (d := (holdC c v.next n).1) (x := ⟨v.next, n⟩) hp (by rw [hcp, eid]) (by rw [hcp]; exact ehl)
  have hcc : okLd (payC v n).1 := hC2
  have hpp : okPy (payP v hash n).1 := by rw [eP']; exact start_ok a1 hb2 hb4 q1 hids
  have hou := ourS_set (l := v.c) (p := Srt.pos Ch.id ltN v.c (firstL v.c v.w n).1) (d := (holdC c v.next n).1) hp
  have hhe := heldS_set (l := v.c) (p := Srt.pos Ch.id ltN v.c (firstL v.c v.w n).1) (d := (holdC c v.next n).1) hp
  rw [hcp] at hou hhe
  rw [eloc.2.2] at hhe
  have hoc : ourC (holdC c v.next n).1 + n = ourC c := by
    unfold ourC
    rw [eloc.2.1, eloc.1, if_pos hop.1, if_pos hop.1]; omega
  refine ⟨⟨o1, o2, o3, o4, o5, o6, o7, o8⟩, ⟨hcc, o2, addF_ok hF, o4, by dsimp only; omega, by dsimp only; unfold MM at *; omega, fun _ => ?_, agr_parts.2 ⟨hpp, hcc.1, okLd_ids hcc, ?_, ?_⟩⟩, rfl, rfl, hn, hM, by rw [eC']; omega, by rw [eC']; omega, ⟨_, hpe⟩, rfl, rfl, rfl⟩
  · dsimp only
    rw [eP', List.length_append, List.length_singleton, Nat.add_sub_cancel, List.getD_eq_getElem?_getD, List.getElem?_append_right (Nat.le_refl _), Nat.sub_self]
    show v.next < v.next + 1; omega
  · intro q hq
    dsimp only at hq ⊢
    rw [hpe, List.mem_append, List.mem_singleton] at hq
    rw [eC', hset.mem_iff]
    rcases hq with hq | rfl
    · exact .tail _ (a4 q hq)
    · rw [eid, hcid]; exact .head _
  · dsimp only
    rw [eC', hset.length_eq, hpe, List.length_cons, List.length_append, List.length_singleton, a5]
end Dm
namespace Dm
open Go Go.Proofs Go.IntWalk
@[go_sem] def cheld_r (c : Ch) : D := .tup [.int .u64 ((sumsC c).1 : Int), .int .i64 (sumsC c).2.2]
@[go_sem] abbrev n_cheld : FuncId := 12
@[go_sem] def cheld_T : Tab := [(31, sp_csums)]
theorem cheld_T_ok : TabOk Tryz.prog cheld_T := (TabOk.cons sp_csums_ok TabOk.nil)
set_option maxRecDepth 8000 in
set_option maxHeartbeats 1000000 in
theorem cheld_ok (c : Ch)  : PureFn Tryz.prog 12 [.agg [.c (.int .u64 (c.id : Int)), .c (.int .u64 (c.loc : Int)), .c (.int .u64 (c.rem : Int)), .c (.int .u64 (c.res : Int)), .c (.int .u64 (c.most : Int)), .sl (hds c.holds), .c (.bool c.op)]] (cheld_r c) := by
  refine .of (ac12 cheld_T_ok (Nat.le_of_ble_eq_true rfl) ?_)
  simp -implicitDefEqProofs only [cdA, go_sem, Go.Proofs.Tryz.f12, reduceIte, List.cons.injEq, cdB]
def sp_cheld : List D → Option (Prop × D × Fr)
  | [.agg [.c (.int .u64 z309), .c (.int .u64 z310), .c (.int .u64 z311), .c (.int .u64 z312), .c (.int .u64 z313), .c (.sl z314), .c (.bool z315)]] => some (z309 = (z309.toNat : Int) ∧ z310 = (z310.toNat : Int) ∧ z311 = (z311.toNat : Int) ∧ z312 = (z312.toNat : Int) ∧ z313 = (z313.toNat : Int) ∧ z314 = hds (dhds z314), cheld_r (⟨z309.toNat, z310.toNat, z311.toNat, z312.toNat, z313.toNat, (dhds z314), z315⟩ : Ch), [])
  | _ => none
attribute [go_sem] sp_cheld
theorem sp_cheld_ok : ∀ rs p r fr, sp_cheld rs = some (p, r, fr) → p → FnOk Tryz.prog 12 rs r fr := by
  intro rs p r fr h hp
  unfold sp_cheld at h
  split at h <;> cases h
  obtain ⟨hc0, hc1, hc2, hc3, hc4, hc5⟩ := hp
  rename_i z309 z310 z311 z312 z313 z314 z315
  obtain ⟨z309, rfl⟩ : ∃ m : Nat, z309 = m := ⟨_, hc0⟩
  obtain ⟨z310, rfl⟩ : ∃ m : Nat, z310 = m := ⟨_, hc1⟩
  obtain ⟨z311, rfl⟩ : ∃ m : Nat, z311 = m := ⟨_, hc2⟩
  obtain ⟨z312, rfl⟩ : ∃ m : Nat, z312 = m := ⟨_, hc3⟩
  obtain ⟨z313, rfl⟩ : ∃ m : Nat, z313 = m := ⟨_, hc4⟩
  obtain ⟨z314, rfl⟩ : ∃ m, z314 = hds m := ⟨_, hc5⟩
  simp only [Int.toNat_natCast, dhds_hds]
  exact cheld_ok ⟨z309, z310, z311, z312, z313, z314, z315⟩
def oursL (l : List Ch) : Nat × Nat × Int := if okLd l then (ourS l, heldS l, 0) else (0, 0, 1)
theorem our_le : ∀ {l : List Ch}, (∀ c ∈ l, okCh c) → ourS l + heldS l ≤ totL l
  | [], _ => Nat.le_refl 0
  | c :: l, h => by
    have h1 := our_le (l := l) fun d hd => h d (.tail _ hd)
    have h2 := h c (.head _)
    have e1 : ourS (c :: l) = ourC c + ourS l := by simp [ourS]
    have e2 : heldS (c :: l) = held c.holds + heldS l := by simp [heldS]
    have e3 : totL (c :: l) = (held c.holds + c.loc + c.rem) + totL l := by
      simp only [totL, List.map_cons, List.sum_cons]
      rw [allC, sumsC, if_pos h2]
    have h4 : ourC c ≤ c.loc := by unfold ourC; split <;> omega
    omega
theorem our_succ {l : List Ch} {i : Nat} (h : i < l.length) : ourS (l.take (i + 1)) = ourS (l.take i) + ourC (l.getD i default) ∧ heldS (l.take (i + 1)) = heldS (l.take i) + held (l.getD i default).holds := by
  rw [take_succ h, ourS, heldS, List.map_append, List.sum_append, List.map_append, List.sum_append]; simp [ourS, heldS]
theorem our_take {l : List Ch} {i : Nat} : ourS (l.take i) ≤ ourS l ∧ heldS (l.take i) ≤ heldS l := by
  have e1 : ourS l = ourS (l.take i) + ourS (l.drop i) := by
    conv => lhs; rw [← List.take_append_drop i l]
    rw [ourS, List.map_append, List.sum_append]; rfl
  have e2 : heldS l = heldS (l.take i) + heldS (l.drop i) := by
    conv => lhs; rw [← List.take_append_drop i l]
    rw [heldS, List.map_append, List.sum_append]; rfl
  omega
@[go_sem] def ours_r (l : List Ch) : D := .tup [.int .u64 ((oursL l).1 : Int), .int .u64 ((oursL l).2.1 : Int), .int .i64 (oursL l).2.2]
@[go_sem] abbrev n_ours : FuncId := 16
@[go_sem] def ours_T : Tab := [(26, sp_lcheck), (12, sp_cheld)]
theorem ours_T_ok : TabOk Tryz.prog ours_T := (TabOk.cons sp_lcheck_ok (TabOk.cons sp_cheld_ok TabOk.nil))
set_option maxRecDepth 8000 in
set_option maxHeartbeats 1000000 in
theorem ours_ok (l : List Ch)  : PureFn Tryz.prog 16 [.sl (chs l)] (ours_r l) := by
  refine .of (ac16 ours_T_ok (Nat.le_of_ble_eq_true rfl) ?_)
  simp -implicitDefEqProofs only [cdA, go_sem, Go.Proofs.Tryz.f16, reduceIte, List.cons.injEq, cdB]
  have hl0 : chkL l = 0 ↔ okLd l := by unfold chkL; split <;> rename_i h <;> simp only [h] <;> decide
  refine ⟨fun h0 hl => ?_, fun h0 => by
    have hno : ¬ okLd l := fun h => h0 (hl0.2 h)
    rw [oursL, chkL, if_neg hno, if_neg hno]; exact ⟨rfl, rfl, rfl⟩⟩
  have hok := hl0.1 h0
  have hle := our_le hok.2.1
  have htl := hok.2.2.2.2
  have e : oursL l = (ourS l, heldS l, 0) := by rw [oursL, if_pos hok]
  rw [e]
  refine SWp.loop (ι := { i : Nat // i ≤ l.length }) (fun i => ⟨[(2, .int .u64 (ourS (l.take i.1) : Nat)), (3, .int .u64 (heldS (l.take i.1) : Nat)), (14, .sl (chs l)), (15, .int .i64 l.length), (16, .int .i64 i.1)], [], 0⟩) (fun i => l.length - i.1) ⟨0, by omega⟩ ?_ ?_
  · simp [go_sem, ourS, heldS]
  · rintro ⟨i, hi⟩
    refine awp_sound ours_T_ok.toS lv16 _ _ _ rfl ?_
    simp -implicitDefEqProofs only [cdA, go_sem, reduceIte, List.cons.injEq, cdB]
    refine ⟨fun h1 => ⟨by omega, ?_⟩, fun h1 => ?_⟩
    · have hi' : i < l.length := by omega
      obtain ⟨s1, s2⟩ := our_succ hi'
      obtain ⟨t1, t2⟩ := our_take (l := l) (i := i + 1)
      have hc := hok.2.1 _ (mem_getD.2 ⟨i, hi', rfl⟩)
      have e1 : (sumsC (l.getD i default)).1 = held (l.getD i default).holds := by rw [sumsC, if_pos hc]
      have hs := sumsC_0.2 hc
      unfold MM ourC at *
      rw [e1, hs]
      refine ⟨fun _ => ⟨fun h2 => ?_, fun h2 => ?_⟩, fun h => absurd rfl h⟩
      · rw [if_pos h2] at s1
        exact ⟨⟨i + 1, hi'⟩, by dsimp only; omega, by rw [u64_in _ (by omega)]; dsimp only; omega, by rw [u64_in _ (by omega)]; dsimp only; omega, i64_in _ (by omega)⟩
      · rw [if_neg (by rw [h2]; decide)] at s1
        exact ⟨⟨i + 1, hi'⟩, by dsimp only; omega, by dsimp only; omega, by rw [u64_in _ (by omega)]; dsimp only; omega, i64_in _ (by omega)⟩
    · have hi' : i = l.length := by omega
      subst hi'
      rw [List.take_length]; exact ⟨rfl, rfl⟩
def sp_ours : List D → Option (Prop × D × Fr)
  | [.c (.sl z316)] => some (z316 = chs (dchs z316), ours_r (dchs z316), [])
  | _ => none
attribute [go_sem] sp_ours
theorem sp_ours_ok : ∀ rs p r fr, sp_ours rs = some (p, r, fr) → p → FnOk Tryz.prog 16 rs r fr := by
  intro rs p r fr h hp
  unfold sp_ours at h
  split at h <;> cases h
  have hc0 := hp
  rename_i z316
  obtain ⟨z316, rfl⟩ : ∃ m, z316 = chs m := ⟨_, hc0⟩
  simp only [dchs_chs]
  exact ours_ok z316
end Dm
namespace Dm
open Go Go.Proofs Go.IntWalk
@[go_sem] def lins_T2 : Tab := [ovk 109]
theorem lins_T2_ok : TabOk Tryz.prog lins_T2 := .cons (ov_ok 109) .nil
@[go_sem] def lins_T3 : Tab := [fg 12]
theorem lins_T3_ok : TabOk Tryz.prog lins_T3 := .cons (fg_ok 12) .nil
theorem lins_wide (l : List Ch) : Wide 7 (chs l) := of_eq_true (chs_wide l)
set_option maxRecDepth 8000 in
set_option maxHeartbeats 1000000 in
theorem lins_ok (l : List Ch) (x : Ch) (i : Nat) (hi : i ≤ l.length) (hl : l.length ≤ 1000000) :
    ACall Tryz.prog 76 [.vec 0 l.length, .int .i64 i, .vec 1 1] [(1, .vec true 7 37 (chs [x])), (0, .vec true 7 37 (chs l))] 2 fun d os _ => Grown 7 37 (chs (Srt.ins l i x)) d os := by
  have hil : (Srt.ins l i x).length = l.length + 1 := Srt.ins_len
  have hq : ∀ j os, lk j os = some (.vec true 7 37 (chs (Srt.ins l i x))) → Grown 7 37 (chs (Srt.ins l i x)) (.vec j (l.length + 1)) os := fun j os h => ⟨j, by rw [chs_length, hil], h⟩
  by_cases hin : i = l.length
  · refine ac76 lins_T3_ok (Nat.le_of_ble_eq_true rfl) ?_
    have e4 : ((1 : Int) = 0) = False := eq_false (by decide)
    subst hin
    simp -implicitDefEqProofs only [cdA, go_sem, Go.Proofs.Tryz.f76, e4, decide_true, reduceIte, List.cons.injEq, cdB]
    refine ⟨Int.le_refl _, fun h => h.elim, fun _ => ⟨by omega, hq _ _ ?_⟩⟩
    rw [lk_cons, if_neg (by decide), lk_hd]
    simp [Srt.ins]
  · have hlt : i < l.length := by omega
    refine ACall.opn 0 rfl (by rw [chs_length]; omega) fun c hc hcm => ?_
    refine ACall.seal ?_
    rw [chs_length] at hc
    refine ac76 lins_T2_ok (Nat.le_of_ble_eq_true rfl) ?_
    have e1 : IntKind.i64.wrap ((l.length : Int) + 1) = ((l.length + 1 : Nat) : Int) := by rw [i64_in _ (by omega)]; omega
    have e2 : IntKind.i64.wrap ((i : Int) + 1) = ((i + 1 : Nat) : Int) := by rw [i64_in _ (by omega)]; omega
    have e3 : ((i : Int) = (l.length : Int)) = False := eq_false (by omega)
    have e4 : ((1 : Int) = 0) = False := eq_false (by decide)
    have e5 : IntKind.i64.wrap ((l.length : Int) + 1 - (i : Int)) = ((l.length + 1 - i : Nat) : Int) := by rw [i64_in _ (by omega)]; omega
    have e6 : ((l.length : Int) + 1).toNat = l.length + 1 := by omega
    have e7 : ((i : Int) + 1).toNat = i + 1 := by omega
    have e8 : i + (l.length + 1 - i) = l.length + 1 := by omega
    simp -implicitDefEqProofs only [cdA, go_sem, Go.Proofs.Tryz.f76, e3, e4, e1, e2, e5, e6, e7, e8, decide_false, reduceIte, List.cons.injEq, cdB]
    refine ⟨by omega, fun _ => ⟨fun h1 => ⟨by omega, by omega, fun c1 h2 h3 => ⟨by omega, ?_⟩⟩, fun h1 => ⟨by omega, by omega, ?_, ?_⟩⟩⟩
    · refine ADraw.run us76_11 lins_T2_ok follows_mixed (by kernel_rfl) (by kernel_rfl) ?_
      simp -implicitDefEqProofs only [cdA, go_sem, e1, e2, e5, e6, e7, e8, reduceIte, List.cons.injEq, cdB]
      refine ⟨by omega, by omega, fun y hy => fit_wide (lins_wide l) y (List.mem_of_mem_take (List.mem_of_mem_drop hy)), ?_⟩
      have := ins_new (sz := 7) (c := c) (c1 := c1) (i := i) (E := chs l) (x := x.enc) (z := [C.int .u64 0, C.int .u64 0, C.int .u64 0, C.int .u64 0, C.int .u64 0, C.sl [], C.bool false]) (by rw [chs_length]; exact hlt) (by rw [chs_length]; exact hc) (by rw [chs_length]; exact h2)
      rw [chs_length] at this
      refine hq _ _ ?_
      rw [lk_hd]
      congr 2
      rw [show chs (List.take (l.length + 1 - i) [x]) = List.take (l.length + 1 - i) [x.enc] by simp [chs], this]
      simp [chs, Srt.ins]
    · exact ⟨_, 24, 4, _, rfl, rfl, rfl, rfl, by kernel_rfl, elOf_24⟩
    · refine ADraw.run us76_15 lins_T2_ok follows_mixed (by kernel_rfl) (by kernel_rfl) ?_
      simp -implicitDefEqProofs only [cdA, go_sem, e1, e2, e5, e6, e7, e8, reduceIte, List.cons.injEq, cdB]
      refine ⟨by omega, by omega, fun y hy => fit_wide (lins_wide l) y (List.mem_of_mem_take (List.mem_of_mem_drop hy)), by omega, ?_⟩
      have := ins_old (sz := 7) (c := c) (i := i) (E := chs l) (x := x.enc) (by rw [chs_length]; exact hlt) (by rw [chs_length]; omega)
      rw [chs_length] at this
      refine hq _ _ ?_
      rw [lk_hd]
      congr 2
      rw [show chs (List.take (l.length + 1 - i) [x]) = List.take (l.length + 1 - i) [x.enc] by simp [chs], this]
      simp [chs, Srt.ins]

def chkC (c : Ch) : Int := if okCh c then 0 else 1
@[go_sem] def ccheck_r (c : Ch) : D := .int .i64 (chkC c)
@[go_sem] abbrev n_ccheck : FuncId := 75
@[go_sem] def ccheck_T : Tab := [(31, sp_csums)]
theorem ccheck_T_ok : TabOk Tryz.prog ccheck_T := (TabOk.cons sp_csums_ok TabOk.nil)
set_option maxRecDepth 8000 in
set_option maxHeartbeats 1000000 in
theorem ccheck_ok (c : Ch)  : PureFn Tryz.prog 75 [.agg [.c (.int .u64 (c.id : Int)), .c (.int .u64 (c.loc : Int)), .c (.int .u64 (c.rem : Int)), .c (.int .u64 (c.res : Int)), .c (.int .u64 (c.most : Int)), .sl (hds c.holds), .c (.bool c.op)]] (ccheck_r c) := by
  refine .of (ac75 ccheck_T_ok (Nat.le_of_ble_eq_true rfl) ?_)
  simp -implicitDefEqProofs only [cdA, go_sem, Go.Proofs.Tryz.f75, reduceIte, List.cons.injEq, cdB]
  unfold sumsC chkC
  split <;> rfl
def sp_ccheck : List D → Option (Prop × D × Fr)
  | [.agg [.c (.int .u64 z274), .c (.int .u64 z275), .c (.int .u64 z276), .c (.int .u64 z277), .c (.int .u64 z278), .c (.sl z279), .c (.bool z280)]] => some (z274 = (z274.toNat : Int) ∧ z275 = (z275.toNat : Int) ∧ z276 = (z276.toNat : Int) ∧ z277 = (z277.toNat : Int) ∧ z278 = (z278.toNat : Int) ∧ z279 = hds (dhds z279), ccheck_r (⟨z274.toNat, z275.toNat, z276.toNat, z277.toNat, z278.toNat, (dhds z279), z280⟩ : Ch), [])
  | _ => none
attribute [go_sem] sp_ccheck
theorem sp_ccheck_ok : ∀ rs p r fr, sp_ccheck rs = some (p, r, fr) → p → FnOk Tryz.prog 75 rs r fr := by
  intro rs p r fr h hp
  unfold sp_ccheck at h
  split at h <;> cases h
  obtain ⟨hc0, hc1, hc2, hc3, hc4, hc5⟩ := hp
  rename_i z274 z275 z276 z277 z278 z279 z280
  obtain ⟨z274, rfl⟩ : ∃ m : Nat, z274 = m := ⟨_, hc0⟩
  obtain ⟨z275, rfl⟩ : ∃ m : Nat, z275 = m := ⟨_, hc1⟩
  obtain ⟨z276, rfl⟩ : ∃ m : Nat, z276 = m := ⟨_, hc2⟩
  obtain ⟨z277, rfl⟩ : ∃ m : Nat, z277 = m := ⟨_, hc3⟩
  obtain ⟨z278, rfl⟩ : ∃ m : Nat, z278 = m := ⟨_, hc4⟩
  obtain ⟨z279, rfl⟩ : ∃ m, z279 = hds m := ⟨_, hc5⟩
  simp only [Int.toNat_natCast, dhds_hds]
  exact ccheck_ok ⟨z274, z275, z276, z277, z278, z279, z280⟩
def openL (l : List Ch) (c : Ch) : List Ch × Int :=
  if ¬ okCh c ∨ c.op = false ∨ 0 < c.holds.length ∨ ¬ okLd l then ([], 1) else if Srt.thr Ch.id ltN l c.id = true then ([], 6) else if l.length = 32 then ([], 7) else if okLd (Srt.ins l (Srt.pos Ch.id ltN l c.id) c) then (Srt.ins l (Srt.pos Ch.id ltN l c.id) c, 0) else ([], 8)
@[go_sem] def lopen_r (l : List Ch) (c : Ch) : D := .tup [.sl (chs (openL l c).1), .int .i64 (openL l c).2]
@[go_sem] abbrev n_lopen : FuncId := 36
@[go_sem] def lopen_T : Tab := [(75, sp_ccheck), (26, sp_lcheck), (72, sp_lorder), (30, sp_own), (77, sp_owns)]
theorem lopen_T_ok : TabOk Tryz.prog lopen_T := (TabOk.cons sp_ccheck_ok (TabOk.cons sp_lcheck_ok (TabOk.cons sp_lorder_ok (TabOk.cons sp_own_ok (TabOk.cons sp_owns_ok TabOk.nil)))))
set_option maxRecDepth 8000 in
set_option maxHeartbeats 1000000 in
theorem lopen_ok (l : List Ch) (c : Ch)  : PureFn Tryz.prog 36 [.sl (chs l), .agg [.c (.int .u64 (c.id : Int)), .c (.int .u64 (c.loc : Int)), .c (.int .u64 (c.rem : Int)), .c (.int .u64 (c.res : Int)), .c (.int .u64 (c.most : Int)), .sl (hds c.holds), .c (.bool c.op)]] (lopen_r l c) := by
  refine .of (ac36 lopen_T_ok (Nat.le_of_ble_eq_true rfl) ?_)
  simp -implicitDefEqProofs only [cdA, go_sem, Go.Proofs.Tryz.f36, reduceIte, List.cons.injEq, cdB]
  have hbad : (¬ okCh c ∨ c.op = false ∨ 0 < c.holds.length ∨ ¬ okLd l) → chs (openL l c).1 = [] ∧ 1 = (openL l c).2 := fun h => by rw [openL, if_pos h]; exact ⟨rfl, rfl⟩
  have hc0 : chkC c = 0 ↔ okCh c := by unfold chkC; split <;> rename_i h <;> simp only [h] <;> decide
  have hl0 : chkL l = 0 ↔ okLd l := by unfold chkL; split <;> rename_i h <;> simp only [h] <;> decide
  refine ⟨fun h1 => ⟨fun h2 _ => ⟨fun h3 => ⟨fun h4 => ?_, fun h4 => hbad (.inr (.inr (.inr fun h => h4 (hl0.2 h))))⟩, fun h3 => hbad (.inr (.inr (.inl (by omega))))⟩, fun h2 => hbad (.inr (.inl (by simpa using h2)))⟩, fun h1 => hbad (.inl fun h => h1 (hc0.2 h))⟩
  have hok := hl0.1 h4
  have hcc := hc0.1 h1
  have hop : c.op = true := by simpa using h2
  have hA : ¬ (¬ okCh c ∨ c.op = false ∨ 0 < c.holds.length ∨ ¬ okLd l) := by
    rintro (h | h | h | h)
    · exact h hcc
    · rw [hop] at h; cases h
    · omega
    · exact h hok
  have hu : Srt.Up Ch.id ltN l := (Srt.chn_up (lt := ltN) Srt.totNat).1 hok.2.2.1
  have hl32 := hok.1
  refine ac71 lopen_T_ok (Nat.le_of_ble_eq_true rfl) ?_
  simp -implicitDefEqProofs only [cdA, go_sem, Go.Proofs.Tryz.f71, reduceIte, List.cons.injEq, cdB]
  refine fun _ => SWp.loop (ι := { x : Nat × Nat // x.1 ≤ x.2 ∧ x.2 ≤ l.length ∧ (∀ k, k < x.1 → (l.getD k default).id < c.id) ∧ ∀ k, x.2 ≤ k → k < l.length → ¬ (l.getD k default).id < c.id }) (fun x => ⟨[(0, .sl (chs l)), (1, .c (.int .u64 c.id)), (2, .fn (.func 72) [] []), (8, .int .i64 l.length), (9, .int .i64 x.1.1), (10, .int .i64 x.1.2)],
    [(0, .box [.c (.int .u64 c.id), .c (.int .u64 c.loc), .c (.int .u64 c.rem), .c (.int .u64 c.res), .c (.int .u64 c.most), .sl (hds c.holds), .c (.bool c.op)])], 1⟩) (fun x => x.1.2 - x.1.1) ⟨(0, l.length), by simp, by simp, fun k hk => absurd hk (by simp), fun k h1 h2 => absurd h1 (by simpa using h2)⟩ ?_ ?_
  · simp [go_sem]
  · rintro ⟨⟨i, j⟩, hij, hj, hlo, hup⟩
    dsimp only at hij hj hlo hup
    refine awp_sound lopen_T_ok.toS lv71 _ _ _ rfl ?_
    simp -implicitDefEqProofs only [cdA, go_sem, reduceIte, List.cons.injEq, cdB]
    rw [mid_eq hij hj ‹_›]
    refine ⟨fun h4 => ?_, fun h4 => ?_⟩
    · have hm : (i + j) / 2 < l.length := by omega
      rw [cmpS_neg, Int.toNat_natCast]
      refine ⟨by omega, fun h5 => ⟨⟨((i + j) / 2 + 1, j), by dsimp only; omega, hj, fun k hk => ?_, hup⟩, by dsimp only; omega, i64_in _ (by omega), rfl⟩, fun h5 => ⟨⟨(i, (i + j) / 2), by dsimp only; omega, by dsimp only; omega, hlo, fun k hk1 hk2 => ?_⟩, by dsimp only; omega, rfl, rfl⟩⟩
      · dsimp only at hk
        by_cases hkm : k = (i + j) / 2
        · rw [hkm]; omega
        · have := Srt.up_get.1 hu k _ (by omega) hm
          simp only [ltN] at this; omega
      · dsimp only at hk1
        by_cases hkm : k = (i + j) / 2
        · rw [hkm]; omega
        · have := Srt.up_get.1 hu ((i + j) / 2) k (by omega) hk2
          simp only [ltN] at this; omega
    · have hp : Srt.pos Ch.id ltN l c.id = i := Srt.pos_eq (by omega) hlo (fun h => hup i (by omega) h)
      have hth : Srt.thr Ch.id ltN l c.id = decide (i < l.length ∧ (l.getD i default).id = c.id) := by rw [Srt.thr, hp]
      refine ⟨fun h5 => ⟨by omega, fun h6 => ?_, fun h6 _ => ⟨fun h7 => ?_, fun h7 => ?_⟩⟩, fun h5 _ => ⟨fun h7 => ?_, fun h7 => ?_⟩⟩
      · rw [openL, if_neg hA, if_pos (by rw [hth]; exact decide_eq_true ⟨by omega, by have := cmpS_0.1 h6; omega⟩)]; exact ⟨rfl, rfl⟩
      · have ht : ¬ Srt.thr Ch.id ltN l c.id = true := by rw [hth, decide_eq_true_eq]; rintro ⟨h8, h9⟩; exact h6 (cmpS_0.2 (by omega))
        rw [openL, if_neg hA, if_neg ht, if_pos (by omega)]; exact ⟨rfl, rfl⟩
      · have ht : ¬ Srt.thr Ch.id ltN l c.id = true := by rw [hth, decide_eq_true_eq]; rintro ⟨h8, h9⟩; exact h6 (cmpS_0.2 (by omega))
        refine ADraw.tail 6 us36_8 lopen_T_ok follows_mixed (by kernel_rfl) (by kernel_rfl) (by kernel_rfl) (by kernel_rfl) ?_
        simp -implicitDefEqProofs only [cdA, go_sem, List.take_succ_cons, List.take_zero, List.drop_succ_cons, List.drop_zero, reduceIte, List.cons.injEq, cdB]
        refine ⟨⟨by omega, fun d hd => by have := (hok.2.1 d hd).2.2.1; omega⟩, by omega, ?_⟩
        refine ACall.grow (mid := [.int .i64 _]) (lins_ok l c i (by omega) (by omega)) rfl rfl (by decide) (by simp [Srt.ins_len]) (fun d hd g g' w v hv => ?_) ?_
        · simp at hd; subst hd
          cases hv with
          | c _ _ h => cases h; exact .c _ _ (.int _ _)
        · simp -implicitDefEqProofs only [cdA, go_sem, reduceIte, List.cons.injEq, cdB]
          have hl0' : chkL (Srt.ins l i c) = 0 ↔ okLd (Srt.ins l i c) := by unfold chkL; split <;> rename_i h <;> simp only [h] <;> decide
          refine ⟨fun h8 => ?_, fun h8 => ?_⟩
          · rw [openL, if_neg hA, if_neg ht, if_neg (by omega), hp, if_pos (hl0'.1 h8)]; exact ⟨⟨rfl, _, _, _, rfl⟩, rfl⟩
          · rw [openL, if_neg hA, if_neg ht, if_neg (by omega), hp, if_neg fun h => h8 (hl0'.2 h)]; exact ⟨rfl, rfl⟩
      · have ht : ¬ Srt.thr Ch.id ltN l c.id = true := by rw [hth, decide_eq_true_eq]; omega
        rw [openL, if_neg hA, if_neg ht, if_pos (by omega)]; exact ⟨rfl, rfl⟩
      · have ht : ¬ Srt.thr Ch.id ltN l c.id = true := by rw [hth, decide_eq_true_eq]; omega
        refine ADraw.tail 6 us36_8 lopen_T_ok follows_mixed (by kernel_rfl) (by kernel_rfl) (by kernel_rfl) (by kernel_rfl) ?_
        simp -implicitDefEqProofs only [cdA, go_sem, List.take_succ_cons, List.take_zero, List.drop_succ_cons, List.drop_zero, reduceIte, List.cons.injEq, cdB]
        refine ⟨⟨by omega, fun d hd => by have := (hok.2.1 d hd).2.2.1; omega⟩, by omega, ?_⟩
        refine ACall.grow (mid := [.int .i64 _]) (lins_ok l c i (by omega) (by omega)) rfl rfl (by decide) (by simp [Srt.ins_len]) (fun d hd g g' w v hv => ?_) ?_
        · simp at hd; subst hd
          cases hv with
          | c _ _ h => cases h; exact .c _ _ (.int _ _)
        · simp -implicitDefEqProofs only [cdA, go_sem, reduceIte, List.cons.injEq, cdB]
          have hl0' : chkL (Srt.ins l i c) = 0 ↔ okLd (Srt.ins l i c) := by unfold chkL; split <;> rename_i h <;> simp only [h] <;> decide
          refine ⟨fun h8 => ?_, fun h8 => ?_⟩
          · rw [openL, if_neg hA, if_neg ht, if_neg (by omega), hp, if_pos (hl0'.1 h8)]; exact ⟨⟨rfl, _, _, _, rfl⟩, rfl⟩
          · rw [openL, if_neg hA, if_neg ht, if_neg (by omega), hp, if_neg fun h => h8 (hl0'.2 h)]; exact ⟨rfl, rfl⟩
def sp_lopen : List D → Option (Prop × D × Fr)
  | [.c (.sl z281), .agg [.c (.int .u64 z283), .c (.int .u64 z284), .c (.int .u64 z285), .c (.int .u64 z286), .c (.int .u64 z287), .c (.sl z288), .c (.bool z289)]] => some (z281 = chs (dchs z281) ∧ z283 = (z283.toNat : Int) ∧ z284 = (z284.toNat : Int) ∧ z285 = (z285.toNat : Int) ∧ z286 = (z286.toNat : Int) ∧ z287 = (z287.toNat : Int) ∧ z288 = hds (dhds z288), lopen_r (dchs z281) (⟨z283.toNat, z284.toNat, z285.toNat, z286.toNat, z287.toNat, (dhds z288), z289⟩ : Ch), [])
  | _ => none
attribute [go_sem] sp_lopen
theorem sp_lopen_ok : ∀ rs p r fr, sp_lopen rs = some (p, r, fr) → p → FnOk Tryz.prog 36 rs r fr := by
  intro rs p r fr h hp
  unfold sp_lopen at h
  split at h <;> cases h
  obtain ⟨hc0, hc1, hc2, hc3, hc4, hc5, hc6⟩ := hp
  rename_i z281 z283 z284 z285 z286 z287 z288 z289
  obtain ⟨z281, rfl⟩ : ∃ m, z281 = chs m := ⟨_, hc0⟩
  obtain ⟨z283, rfl⟩ : ∃ m : Nat, z283 = m := ⟨_, hc1⟩
  obtain ⟨z284, rfl⟩ : ∃ m : Nat, z284 = m := ⟨_, hc2⟩
  obtain ⟨z285, rfl⟩ : ∃ m : Nat, z285 = m := ⟨_, hc3⟩
  obtain ⟨z286, rfl⟩ : ∃ m : Nat, z286 = m := ⟨_, hc4⟩
  obtain ⟨z287, rfl⟩ : ∃ m : Nat, z287 = m := ⟨_, hc5⟩
  obtain ⟨z288, rfl⟩ : ∃ m, z288 = hds m := ⟨_, hc6⟩
  simp only [Int.toNat_natCast, dchs_chs, dhds_hds]
  exact lopen_ok z281 ⟨z283, z284, z285, z286, z287, z288, z289⟩
end Dm
namespace Dm
open Go Go.Proofs Go.IntWalk
def cenC (c : Ch) (id : Nat) (paid : Bool) : Ch × Nat × Int :=
  if okCh c then (if Srt.thr Hd.key ltN c.holds id = true then
    (⟨c.id, if paid = true then c.loc else c.loc + (c.holds.getD (Srt.pos Hd.key ltN c.holds id) default).n, if paid = true then c.rem + (c.holds.getD (Srt.pos Hd.key ltN c.holds id) default).n else c.rem, c.res, c.most, c.holds.eraseIdx (Srt.pos Hd.key ltN c.holds id), c.op⟩, (c.holds.getD (Srt.pos Hd.key ltN c.holds id) default).n, 0)
    else (default, 0, 5)) else (default, 0, 1)
theorem hds_erase (l : List Hd) (i : Nat) : (hds l).eraseIdx i = hds (l.eraseIdx i) := by
  simp [hds, List.eraseIdx_eq_take_drop_succ]
theorem erase_perm {l : List Hd} {q : Nat} {x : Hd} (hq : q < l.length) (hx : l.getD q default = x) : l.Perm (x :: l.eraseIdx q) := by
  rw [getD_lt hq] at hx
  subst hx
  rw [List.eraseIdx_eq_take_drop_succ]
  conv => lhs; rw [show l = l.take q ++ l[q] :: l.drop (q + 1) by rw [List.getElem_cons_drop, List.take_append_drop]]
  exact List.perm_middle
theorem held_ge {l : List Hd} {q : Nat} (hq : q < l.length) : (l.getD q default).n ≤ held l := by
  have hpm := erase_perm hq rfl
  unfold held
  rw [(hpm.map Hd.n).sum_nat, List.map_cons, List.sum_cons]
  exact Nat.le_add_right _ _
@[go_sem] def cfail_r (c : Ch) (id : Nat) : D := .tup [.agg [.int .u64 (cenC c id false).1.id, .int .u64 (cenC c id false).1.loc, .int .u64 (cenC c id false).1.rem, .int .u64 (cenC c id false).1.res, .int .u64 (cenC c id false).1.most, .sl (hds (cenC c id false).1.holds), .bool (cenC c id false).1.op], .int .u64 (cenC c id false).2.1, .int .i64 (cenC c id false).2.2]
@[go_sem] abbrev n_cfail : FuncId := 95
@[go_sem] def cfail_T : Tab := [(75, sp_ccheck), (73, sp_hclonef), (74, sp_horder), fg 13]
theorem cfail_T_ok : TabOk Tryz.prog cfail_T := (TabOk.cons sp_ccheck_ok (TabOk.cons sp_hclonef_ok (TabOk.cons sp_horder_ok (TabOk.cons (fg_ok 13) TabOk.nil))))
set_option maxRecDepth 8000 in
set_option maxHeartbeats 1000000 in
theorem cfail_ok (c : Ch) (id : Nat)  : PureFn Tryz.prog 95 [.agg [.c (.int .u64 (c.id : Int)), .c (.int .u64 (c.loc : Int)), .c (.int .u64 (c.rem : Int)), .c (.int .u64 (c.res : Int)), .c (.int .u64 (c.most : Int)), .sl (hds c.holds), .c (.bool c.op)], .c (.int .u64 (id : Int))] (cfail_r c id) := by
  refine .of (ac95 cfail_T_ok (Nat.le_of_ble_eq_true rfl) ?_)
  simp -implicitDefEqProofs only [cdA, go_sem, Go.Proofs.Tryz.f95, reduceIte, List.cons.injEq, cdB]
  refine ac128 cfail_T_ok (Nat.le_of_ble_eq_true rfl) ?_
  simp -implicitDefEqProofs only [cdA, go_sem, Go.Proofs.Tryz.f128, reduceIte, List.cons.injEq, cdB]
  have hc0 : chkC c = 0 ↔ okCh c := by unfold chkC; split <;> rename_i h <;> simp only [h] <;> decide
  refine ⟨fun h0 => ?_, fun h0 => by
    have hno : ¬ okCh c := fun h => h0 (hc0.2 h)
    rw [cenC, chkC, if_neg hno, if_neg hno]; exact ⟨⟨rfl, rfl, rfl, rfl, rfl, rfl, rfl⟩, rfl, rfl⟩⟩
  have hok := hc0.1 h0
  have hu : Srt.Up Hd.key ltN c.holds := (Srt.chn_up (lt := ltN) Srt.totNat).1 hok.2.2.2.2.2.1
  have h64 := hok.2.2.1
  refine ac126 cfail_T_ok (Nat.le_of_ble_eq_true rfl) ?_
  simp -implicitDefEqProofs only [cdA, go_sem, Go.Proofs.Tryz.f126, reduceIte, List.cons.injEq, cdB]
  refine fun _ => SWp.loop (ι := { x : Nat × Nat // x.1 ≤ x.2 ∧ x.2 ≤ c.holds.length ∧ (∀ k, k < x.1 → (c.holds.getD k default).id < id) ∧ ∀ k, x.2 ≤ k → k < c.holds.length → ¬ (c.holds.getD k default).id < id }) (fun x => ⟨[(0, .sl (hds c.holds)), (1, .c (.int .u64 id)), (2, .fn (.func 74) [] []), (8, .int .i64 c.holds.length), (9, .int .i64 x.1.1), (10, .int .i64 x.1.2)],
    [(3, .box [.c (.int .u64 0), .c (.int .u64 0), .c (.int .u64 0), .c (.int .u64 0), .c (.int .u64 0), .nil, .c (.bool false)]), (2, .box [.c (.int .u64 c.id), .c (.int .u64 c.loc), .c (.int .u64 c.rem), .c (.int .u64 c.res), .c (.int .u64 c.most), .sl (hds c.holds), .c (.bool c.op)]), (1, .box [.c (.int .u64 0), .c (.int .u64 0), .c (.int .u64 0), .c (.int .u64 0), .c (.int .u64 0), .nil, .c (.bool false)]), (0, .box [.c (.int .u64 c.id), .c (.int .u64 c.loc), .c (.int .u64 c.rem), .c (.int .u64 c.res), .c (.int .u64 c.most), .sl (hds c.holds), .c (.bool c.op)])], 4⟩) (fun x => x.1.2 - x.1.1) ⟨(0, c.holds.length), by simp, by simp, fun k hk => absurd hk (by simp), fun k h1 h2 => absurd h1 (by simpa using h2)⟩ ?_ ?_
  · simp [go_sem]
  · rintro ⟨⟨i, j⟩, hij, hj, hlo, hup⟩
    dsimp only at hij hj hlo hup
    refine awp_sound cfail_T_ok.toS lv126 _ _ _ rfl ?_
    simp -implicitDefEqProofs only [cdA, go_sem, reduceIte, List.cons.injEq, cdB]
    rw [mid_eq hij hj ‹_›]
    refine ⟨fun h4 => ?_, fun h4 => ?_⟩
    · have hm : (i + j) / 2 < c.holds.length := by omega
      rw [cmpS_neg, Int.toNat_natCast]
      refine ⟨⟨by omega, by omega⟩, fun h5 => ⟨⟨((i + j) / 2 + 1, j), by dsimp only; omega, hj, fun k hk => ?_, hup⟩, by dsimp only; omega, i64_in _ (by omega), rfl⟩, fun h5 => ⟨⟨(i, (i + j) / 2), by dsimp only; omega, by dsimp only; omega, hlo, fun k hk1 hk2 => ?_⟩, by dsimp only; omega, rfl, rfl⟩⟩
      · dsimp only at hk
        by_cases hkm : k = (i + j) / 2
        · rw [hkm]; omega
        · have := Srt.up_get.1 hu k _ (by omega) hm
          simp only [ltN, Hd.key] at this; omega
      · dsimp only at hk1
        by_cases hkm : k = (i + j) / 2
        · rw [hkm]; omega
        · have := Srt.up_get.1 hu ((i + j) / 2) k (by omega) hk2
          simp only [ltN, Hd.key] at this; omega
    · have hp : Srt.pos Hd.key ltN c.holds id = i := Srt.pos_eq (by omega) hlo (fun h => hup i (by omega) h)
      have hth : Srt.thr Hd.key ltN c.holds id = decide (i < c.holds.length ∧ (c.holds.getD i default).id = id) := by rw [Srt.thr, hp]; rfl
      have hno : ¬ (i < c.holds.length ∧ (c.holds.getD i default).id = id) → cenC c id false = (default, 0, 5) := fun h => by
        rw [cenC, if_pos hok, if_neg (by rw [hth, decide_eq_true_eq]; exact h)]
      refine ⟨fun h5 => ⟨by omega, fun h6 => ⟨by omega, by omega, ?_⟩, fun h6 => ?_⟩, fun h5 => ?_⟩
      rotate_left 1
      · rw [hno fun h => h6 (cmpS_0.2 (by omega))]; exact ⟨⟨rfl, rfl, rfl, rfl, rfl, rfl, rfl⟩, rfl, rfl⟩
      · rw [hno fun h => h5 (by omega)]; exact ⟨⟨rfl, rfl, rfl, rfl, rfl, rfl, rfl⟩, rfl, rfl⟩
      have hi' : i < c.holds.length := by omega
      have ht : Srt.thr Hd.key ltN c.holds id = true := by rw [hth]; exact decide_eq_true ⟨hi', by have := cmpS_0.1 h6; omega⟩
      rw [i64_in _ (by omega)]
      refine ACall.opn 4 rfl (by rw [hds_length]; omega) fun cp hc hcm => ?_
      refine ACall.seal ?_
      rw [hds_length] at hc
      refine ac147 cfail_T_ok (Nat.le_of_ble_eq_true rfl) ?_
      simp -implicitDefEqProofs only [cdA, go_sem, Go.Proofs.Tryz.f147, reduceIte, List.cons.injEq, cdB]
      refine fun _ => ⟨⟨by omega, by omega, by omega⟩, fun h => absurd h (by omega), fun _ _ => ?_⟩
      refine ADraw.run us147_5 cfail_T_ok follows_mixed (by kernel_rfl) (by kernel_rfl) ?_
      simp -implicitDefEqProofs only [cdA, go_sem, reduceIte, List.cons.injEq, cdB]
      have eF : List.take c.holds.length (fit cp 2 (hds c.holds)) = hds c.holds := by rw [fit_take (by rw [hds_length]; exact Nat.le_refl _) hc, List.take_of_length_le (by rw [hds_length]; exact Nat.le_refl _)]
      have e2 : ((i : Int) + 1).toNat = i + 1 := by omega
      rw [eF, e2]
      have hD : ((hds c.holds).drop (i + 1)).length = c.holds.length - (i + 1) := by rw [List.length_drop, hds_length]
      have e3 : ((i : Int) + (((hds c.holds).drop (i + 1)).length : Int)).toNat = i + ((hds c.holds).drop (i + 1)).length := by omega
      simp only [e3]
      have hE : ∀ Z : List (List C), (fit cp 2 ((fit cp 2 ((fit cp 2 (hds c.holds)).take i ++ ((hds c.holds).drop (i + 1) ++ (fit cp 2 (hds c.holds)).drop (i + ((hds c.holds).drop (i + 1)).length)))).take (i + ((hds c.holds).drop (i + 1)).length) ++ Z)).take (i + ((hds c.holds).drop (i + 1)).length) = hds (c.holds.eraseIdx i) := fun Z => by
        rw [del_old (by rw [hds_length]; exact hi') (by rw [hds_length]; exact hc), hds_erase]
      rw [hE, hD]
      have hl1 : i + (c.holds.length - (i + 1)) = (c.holds.eraseIdx i).length := by rw [List.length_eraseIdx_of_lt hi']; omega
      rw [hl1]
      have hl2 : (c.holds.eraseIdx i).length = c.holds.length - 1 := List.length_eraseIdx_of_lt hi'
      refine ⟨by omega, ⟨by omega, by omega⟩, ⟨fun x hx => (of_eq_true (hds_wide c.holds)) x (List.mem_of_mem_drop hx), by omega⟩, fun _ => ⟨⟨by omega, by omega, by omega⟩, ?_⟩⟩
      refine ac129 cfail_T_ok (Nat.le_of_ble_eq_true rfl) ?_
      simp -implicitDefEqProofs only [cdA, go_sem, Go.Proofs.Tryz.f129, reduceIte, List.cons.injEq, cdB]
      have ec : cenC c id false = (⟨c.id, if (false : Bool) = true then c.loc else c.loc + (c.holds.getD i default).n, if (false : Bool) = true then c.rem + (c.holds.getD i default).n else c.rem, c.res, c.most, c.holds.eraseIdx i, c.op⟩, (c.holds.getD i default).n, 0) := by
        rw [cenC, if_pos hok, if_pos ht, hp]
      have hge := held_ge hi'
      have hsum := hok.2.2.2.2.2.2.2.2.2
      unfold MM at hsum
      rw [ec]
      dsimp only
      rw [if_neg (by decide), if_neg (by decide), u64_in _ (by omega)]
      exact ⟨⟨rfl, by omega, by omega, rfl, rfl, ⟨rfl, _, _, _, rfl⟩, rfl⟩, rfl, rfl⟩
def sp_cfail : List D → Option (Prop × D × Fr)
  | [.agg [.c (.int .u64 z321), .c (.int .u64 z322), .c (.int .u64 z323), .c (.int .u64 z324), .c (.int .u64 z325), .c (.sl z326), .c (.bool z327)], .c (.int .u64 z328)] => some (z321 = (z321.toNat : Int) ∧ z322 = (z322.toNat : Int) ∧ z323 = (z323.toNat : Int) ∧ z324 = (z324.toNat : Int) ∧ z325 = (z325.toNat : Int) ∧ z326 = hds (dhds z326) ∧ z328 = (z328.toNat : Int), cfail_r (⟨z321.toNat, z322.toNat, z323.toNat, z324.toNat, z325.toNat, (dhds z326), z327⟩ : Ch) z328.toNat, [])
  | _ => none
attribute [go_sem] sp_cfail
theorem sp_cfail_ok : ∀ rs p r fr, sp_cfail rs = some (p, r, fr) → p → FnOk Tryz.prog 95 rs r fr := by
  intro rs p r fr h hp
  unfold sp_cfail at h
  split at h <;> cases h
  obtain ⟨hc0, hc1, hc2, hc3, hc4, hc5, hc6⟩ := hp
  rename_i z321 z322 z323 z324 z325 z326 z327 z328
  obtain ⟨z321, rfl⟩ : ∃ m : Nat, z321 = m := ⟨_, hc0⟩
  obtain ⟨z322, rfl⟩ : ∃ m : Nat, z322 = m := ⟨_, hc1⟩
  obtain ⟨z323, rfl⟩ : ∃ m : Nat, z323 = m := ⟨_, hc2⟩
  obtain ⟨z324, rfl⟩ : ∃ m : Nat, z324 = m := ⟨_, hc3⟩
  obtain ⟨z325, rfl⟩ : ∃ m : Nat, z325 = m := ⟨_, hc4⟩
  obtain ⟨z326, rfl⟩ : ∃ m, z326 = hds m := ⟨_, hc5⟩
  obtain ⟨z328, rfl⟩ : ∃ m : Nat, z328 = m := ⟨_, hc6⟩
  simp only [Int.toNat_natCast, dhds_hds]
  exact cfail_ok ⟨z321, z322, z323, z324, z325, z326, z327⟩ z328
@[go_sem] def csettle_r (c : Ch) (id : Nat) : D := .tup [.agg [.int .u64 (cenC c id true).1.id, .int .u64 (cenC c id true).1.loc, .int .u64 (cenC c id true).1.rem, .int .u64 (cenC c id true).1.res, .int .u64 (cenC c id true).1.most, .sl (hds (cenC c id true).1.holds), .bool (cenC c id true).1.op], .int .u64 (cenC c id true).2.1, .int .i64 (cenC c id true).2.2]
@[go_sem] abbrev n_csettle : FuncId := 96
@[go_sem] def csettle_T : Tab := [(75, sp_ccheck), (73, sp_hclonef), (74, sp_horder), fg 13]
theorem csettle_T_ok : TabOk Tryz.prog csettle_T := (TabOk.cons sp_ccheck_ok (TabOk.cons sp_hclonef_ok (TabOk.cons sp_horder_ok (TabOk.cons (fg_ok 13) TabOk.nil))))
set_option maxRecDepth 8000 in
set_option maxHeartbeats 1000000 in
theorem csettle_ok (c : Ch) (id : Nat)  : PureFn Tryz.prog 96 [.agg [.c (.int .u64 (c.id : Int)), .c (.int .u64 (c.loc : Int)), .c (.int .u64 (c.rem : Int)), .c (.int .u64 (c.res : Int)), .c (.int .u64 (c.most : Int)), .sl (hds c.holds), .c (.bool c.op)], .c (.int .u64 (id : Int))] (csettle_r c id) := by
  refine .of (ac96 csettle_T_ok (Nat.le_of_ble_eq_true rfl) ?_)
  simp -implicitDefEqProofs only [cdA, go_sem, Go.Proofs.Tryz.f96, reduceIte, List.cons.injEq, cdB]
  refine ac128 csettle_T_ok (Nat.le_of_ble_eq_true rfl) ?_
  simp -implicitDefEqProofs only [cdA, go_sem, Go.Proofs.Tryz.f128, reduceIte, List.cons.injEq, cdB]
  have hc0 : chkC c = 0 ↔ okCh c := by unfold chkC; split <;> rename_i h <;> simp only [h] <;> decide
  refine ⟨fun h0 => ?_, fun h0 => by
    have hno : ¬ okCh c := fun h => h0 (hc0.2 h)
    rw [cenC, chkC, if_neg hno, if_neg hno]; exact ⟨⟨rfl, rfl, rfl, rfl, rfl, rfl, rfl⟩, rfl, rfl⟩⟩
  have hok := hc0.1 h0
  have hu : Srt.Up Hd.key ltN c.holds := (Srt.chn_up (lt := ltN) Srt.totNat).1 hok.2.2.2.2.2.1
  have h64 := hok.2.2.1
  refine ac126 csettle_T_ok (Nat.le_of_ble_eq_true rfl) ?_
  simp -implicitDefEqProofs only [cdA, go_sem, Go.Proofs.Tryz.f126, reduceIte, List.cons.injEq, cdB]
  refine fun _ => SWp.loop (ι := { x : Nat × Nat // x.1 ≤ x.2 ∧ x.2 ≤ c.holds.length ∧ (∀ k, k < x.1 → (c.holds.getD k default).id < id) ∧ ∀ k, x.2 ≤ k → k < c.holds.length → ¬ (c.holds.getD k default).id < id }) (fun x => ⟨[(0, .sl (hds c.holds)), (1, .c (.int .u64 id)), (2, .fn (.func 74) [] []), (8, .int .i64 c.holds.length), (9, .int .i64 x.1.1), (10, .int .i64 x.1.2)],
    [(3, .box [.c (.int .u64 0), .c (.int .u64 0), .c (.int .u64 0), .c (.int .u64 0), .c (.int .u64 0), .nil, .c (.bool false)]), (2, .box [.c (.int .u64 c.id), .c (.int .u64 c.loc), .c (.int .u64 c.rem), .c (.int .u64 c.res), .c (.int .u64 c.most), .sl (hds c.holds), .c (.bool c.op)]), (1, .box [.c (.int .u64 0), .c (.int .u64 0), .c (.int .u64 0), .c (.int .u64 0), .c (.int .u64 0), .nil, .c (.bool false)]), (0, .box [.c (.int .u64 c.id), .c (.int .u64 c.loc), .c (.int .u64 c.rem), .c (.int .u64 c.res), .c (.int .u64 c.most), .sl (hds c.holds), .c (.bool c.op)])], 4⟩) (fun x => x.1.2 - x.1.1) ⟨(0, c.holds.length), by simp, by simp, fun k hk => absurd hk (by simp), fun k h1 h2 => absurd h1 (by simpa using h2)⟩ ?_ ?_
  · simp [go_sem]
  · rintro ⟨⟨i, j⟩, hij, hj, hlo, hup⟩
    dsimp only at hij hj hlo hup
    refine awp_sound csettle_T_ok.toS lv126 _ _ _ rfl ?_
    simp -implicitDefEqProofs only [cdA, go_sem, reduceIte, List.cons.injEq, cdB]
    rw [mid_eq hij hj ‹_›]
    refine ⟨fun h4 => ?_, fun h4 => ?_⟩
    · have hm : (i + j) / 2 < c.holds.length := by omega
      rw [cmpS_neg, Int.toNat_natCast]
      refine ⟨⟨by omega, by omega⟩, fun h5 => ⟨⟨((i + j) / 2 + 1, j), by dsimp only; omega, hj, fun k hk => ?_, hup⟩, by dsimp only; omega, i64_in _ (by omega), rfl⟩, fun h5 => ⟨⟨(i, (i + j) / 2), by dsimp only; omega, by dsimp only; omega, hlo, fun k hk1 hk2 => ?_⟩, by dsimp only; omega, rfl, rfl⟩⟩
      · dsimp only at hk
        by_cases hkm : k = (i + j) / 2
        · rw [hkm]; omega
        · have := Srt.up_get.1 hu k _ (by omega) hm
          simp only [ltN, Hd.key] at this; omega
      · dsimp only at hk1
        by_cases hkm : k = (i + j) / 2
        · rw [hkm]; omega
        · have := Srt.up_get.1 hu ((i + j) / 2) k (by omega) hk2
          simp only [ltN, Hd.key] at this; omega
    · have hp : Srt.pos Hd.key ltN c.holds id = i := Srt.pos_eq (by omega) hlo (fun h => hup i (by omega) h)
      have hth : Srt.thr Hd.key ltN c.holds id = decide (i < c.holds.length ∧ (c.holds.getD i default).id = id) := by rw [Srt.thr, hp]; rfl
      have hno : ¬ (i < c.holds.length ∧ (c.holds.getD i default).id = id) → cenC c id true = (default, 0, 5) := fun h => by
        rw [cenC, if_pos hok, if_neg (by rw [hth, decide_eq_true_eq]; exact h)]
      refine ⟨fun h5 => ⟨by omega, fun h6 => ⟨by omega, by omega, ?_⟩, fun h6 => ?_⟩, fun h5 => ?_⟩
      rotate_left 1
      · rw [hno fun h => h6 (cmpS_0.2 (by omega))]; exact ⟨⟨rfl, rfl, rfl, rfl, rfl, rfl, rfl⟩, rfl, rfl⟩
      · rw [hno fun h => h5 (by omega)]; exact ⟨⟨rfl, rfl, rfl, rfl, rfl, rfl, rfl⟩, rfl, rfl⟩
      have hi' : i < c.holds.length := by omega
      have ht : Srt.thr Hd.key ltN c.holds id = true := by rw [hth]; exact decide_eq_true ⟨hi', by have := cmpS_0.1 h6; omega⟩
      rw [i64_in _ (by omega)]
      refine ACall.opn 4 rfl (by rw [hds_length]; omega) fun cp hc hcm => ?_
      refine ACall.seal ?_
      rw [hds_length] at hc
      refine ac147 csettle_T_ok (Nat.le_of_ble_eq_true rfl) ?_
      simp -implicitDefEqProofs only [cdA, go_sem, Go.Proofs.Tryz.f147, reduceIte, List.cons.injEq, cdB]
      refine fun _ => ⟨⟨by omega, by omega, by omega⟩, fun h => absurd h (by omega), fun _ _ => ?_⟩
      refine ADraw.run us147_5 csettle_T_ok follows_mixed (by kernel_rfl) (by kernel_rfl) ?_
      simp -implicitDefEqProofs only [cdA, go_sem, reduceIte, List.cons.injEq, cdB]
      have eF : List.take c.holds.length (fit cp 2 (hds c.holds)) = hds c.holds := by rw [fit_take (by rw [hds_length]; exact Nat.le_refl _) hc, List.take_of_length_le (by rw [hds_length]; exact Nat.le_refl _)]
      have e2 : ((i : Int) + 1).toNat = i + 1 := by omega
      rw [eF, e2]
      have hD : ((hds c.holds).drop (i + 1)).length = c.holds.length - (i + 1) := by rw [List.length_drop, hds_length]
      have e3 : ((i : Int) + (((hds c.holds).drop (i + 1)).length : Int)).toNat = i + ((hds c.holds).drop (i + 1)).length := by omega
      simp only [e3]
      have hE : ∀ Z : List (List C), (fit cp 2 ((fit cp 2 ((fit cp 2 (hds c.holds)).take i ++ ((hds c.holds).drop (i + 1) ++ (fit cp 2 (hds c.holds)).drop (i + ((hds c.holds).drop (i + 1)).length)))).take (i + ((hds c.holds).drop (i + 1)).length) ++ Z)).take (i + ((hds c.holds).drop (i + 1)).length) = hds (c.holds.eraseIdx i) := fun Z => by
        rw [del_old (by rw [hds_length]; exact hi') (by rw [hds_length]; exact hc), hds_erase]
      rw [hE, hD]
      have hl1 : i + (c.holds.length - (i + 1)) = (c.holds.eraseIdx i).length := by rw [List.length_eraseIdx_of_lt hi']; omega
      rw [hl1]
      have hl2 : (c.holds.eraseIdx i).length = c.holds.length - 1 := List.length_eraseIdx_of_lt hi'
      refine ⟨by omega, ⟨by omega, by omega⟩, ⟨fun x hx => (of_eq_true (hds_wide c.holds)) x (List.mem_of_mem_drop hx), by omega⟩, fun _ => ⟨⟨by omega, by omega, by omega⟩, ?_⟩⟩
      refine ac130 csettle_T_ok (Nat.le_of_ble_eq_true rfl) ?_
      simp -implicitDefEqProofs only [cdA, go_sem, Go.Proofs.Tryz.f130, reduceIte, List.cons.injEq, cdB]
      have ec : cenC c id true = (⟨c.id, if (true : Bool) = true then c.loc else c.loc + (c.holds.getD i default).n, if (true : Bool) = true then c.rem + (c.holds.getD i default).n else c.rem, c.res, c.most, c.holds.eraseIdx i, c.op⟩, (c.holds.getD i default).n, 0) := by
        rw [cenC, if_pos hok, if_pos ht, hp]
      have hge := held_ge hi'
      have hsum := hok.2.2.2.2.2.2.2.2.2
      unfold MM at hsum
      rw [ec]
      dsimp only
      rw [if_pos (by decide), if_pos (by decide), u64_in _ (by omega)]
      exact ⟨⟨rfl, by omega, by omega, rfl, rfl, ⟨rfl, _, _, _, rfl⟩, rfl⟩, rfl, rfl⟩
def sp_csettle : List D → Option (Prop × D × Fr)
  | [.agg [.c (.int .u64 z330), .c (.int .u64 z331), .c (.int .u64 z332), .c (.int .u64 z333), .c (.int .u64 z334), .c (.sl z335), .c (.bool z336)], .c (.int .u64 z337)] => some (z330 = (z330.toNat : Int) ∧ z331 = (z331.toNat : Int) ∧ z332 = (z332.toNat : Int) ∧ z333 = (z333.toNat : Int) ∧ z334 = (z334.toNat : Int) ∧ z335 = hds (dhds z335) ∧ z337 = (z337.toNat : Int), csettle_r (⟨z330.toNat, z331.toNat, z332.toNat, z333.toNat, z334.toNat, (dhds z335), z336⟩ : Ch) z337.toNat, [])
  | _ => none
attribute [go_sem] sp_csettle
theorem sp_csettle_ok : ∀ rs p r fr, sp_csettle rs = some (p, r, fr) → p → FnOk Tryz.prog 96 rs r fr := by
  intro rs p r fr h hp
  unfold sp_csettle at h
  split at h <;> cases h
  obtain ⟨hc0, hc1, hc2, hc3, hc4, hc5, hc6⟩ := hp
  rename_i z330 z331 z332 z333 z334 z335 z336 z337
  obtain ⟨z330, rfl⟩ : ∃ m : Nat, z330 = m := ⟨_, hc0⟩
  obtain ⟨z331, rfl⟩ : ∃ m : Nat, z331 = m := ⟨_, hc1⟩
  obtain ⟨z332, rfl⟩ : ∃ m : Nat, z332 = m := ⟨_, hc2⟩
  obtain ⟨z333, rfl⟩ : ∃ m : Nat, z333 = m := ⟨_, hc3⟩
  obtain ⟨z334, rfl⟩ : ∃ m : Nat, z334 = m := ⟨_, hc4⟩
  obtain ⟨z335, rfl⟩ : ∃ m, z335 = hds m := ⟨_, hc5⟩
  obtain ⟨z337, rfl⟩ : ∃ m : Nat, z337 = m := ⟨_, hc6⟩
  simp only [Int.toNat_natCast, dhds_hds]
  exact csettle_ok ⟨z330, z331, z332, z333, z334, z335, z336⟩ z337
end Dm
namespace Dm
open Go Go.Proofs Go.IntWalk
theorem thr_at {α κ : Type} [Inhabited α] [DecidableEq κ] {key : α → κ} {lt : κ → κ → Prop} [DecidableRel lt] {l : List α} {k : κ} (h : Srt.thr key lt l k = true) : Srt.pos key lt l k < l.length ∧ key (l.getD (Srt.pos key lt l k) default) = k := by
  unfold Srt.thr at h; exact of_decide_eq_true h
theorem hm_in : ∀ {l : List Ch} {s : Int} {k : Nat} {a : Int}, (k, a) ∈ hm s l → ∃ i : Nat, i < l.length ∧ a = s + i ∧ ∃ x ∈ (l.getD i default).holds, x.id = k
  | [], _, _, _, h => absurd h (by simp [hm])
  | c :: l, s, k, a, h => by
    rw [hm, List.mem_append] at h
    rcases h with h | h
    · obtain ⟨x, hx, he⟩ := List.mem_map.1 h
      rw [Prod.mk.injEq] at he
      exact ⟨0, by simp, by rw [← he.2]; simp, x, by simpa using hx, he.1⟩
    · obtain ⟨i, hi, ha, x, hx, hk⟩ := hm_in h
      exact ⟨i + 1, by simpa using hi, by omega, x, by simpa using hx, hk⟩
theorem where_at {l : List Ch} {h : Nat} (h0 : (whereI l h).2 = 0) : okLd l ∧ ∃ c ∈ l, (whereI l h).1 = c.id ∧ ∃ x ∈ c.holds, x.id = h := by
  unfold whereI at h0 ⊢
  split at h0
  · rename_i hok
    rw [if_pos hok]
    refine ⟨hok, ?_⟩
    split at h0
    · rename_i a ha
      have hnd : ((hm 0 l).map (·.1)).Nodup := by rw [hm_keys]; exact hok.2.2.2.1
      obtain ⟨i, hi, rfl, x, hx, hk⟩ := hm_in ((nlk_some hnd).1 ha)
      refine ⟨l.getD i default, mem_getD.2 ⟨i, hi, rfl⟩, ?_, x, hx, hk⟩
      simp only [ha]
      rw [show ((0 : Int) + (i : Int)).toNat = i by omega]
    · cases h0
  · cases h0
theorem cen_at {c : Ch} {h : Nat} {paid : Bool} {x : Hd} (hok : okCh c) (hx : x ∈ c.holds) (hk : x.id = h) : ∃ q, q = Srt.pos Hd.key ltN c.holds h ∧ q < c.holds.length ∧ c.holds.getD q default = x ∧
    cenC c h paid = (⟨c.id, if paid = true then c.loc else c.loc + x.n, if paid = true then c.rem + x.n else c.rem, c.res, c.most, c.holds.eraseIdx q, c.op⟩, x.n, 0) := by
  have hu : Srt.Up Hd.key ltN c.holds := (Srt.chn_up (lt := ltN) Srt.totNat).1 hok.2.2.2.2.2.1
  have ht : Srt.thr Hd.key ltN c.holds h = true := (Srt.thr_iff Srt.totNat hu).2 ⟨x, hx, hk⟩
  obtain ⟨h1, h2⟩ := thr_at ht
  have h3 := Srt.up_inj (key := Hd.key) (lt := ltN) Srt.totNat hu (mem_getD.2 ⟨_, h1, rfl⟩) hx (h2.trans hk.symm)
  refine ⟨_, rfl, h1, h3, ?_⟩
  rw [cenC, if_pos hok, if_pos ht, h3]
theorem place_at {l : List Ch} {c : Ch} (hok : okLd l) (hc : c ∈ l) : ∃ p : Nat, p = Srt.pos Ch.id ltN l c.id ∧ p < l.length ∧ l.getD p default = c ∧ placeL l c.id = ((p : Int), 0) := by
  have hu : Srt.Up Ch.id ltN l := (Srt.chn_up (lt := ltN) Srt.totNat).1 hok.2.2.1
  have ht : Srt.thr Ch.id ltN l c.id = true := (Srt.thr_iff Srt.totNat hu).2 ⟨c, hc, rfl⟩
  obtain ⟨h1, h2⟩ := thr_at ht
  have h3 := Srt.up_inj (key := Ch.id) (lt := ltN) Srt.totNat hu (mem_getD.2 ⟨_, h1, rfl⟩) hc h2
  exact ⟨_, rfl, h1, h3, by rw [placeL, if_pos hok, if_pos ht]⟩
def lendL (l : List Ch) (h : Nat) (paid : Bool) : List Ch × Nat × Int :=
  if (whereI l h).2 = 0 then (if (placeL l (whereI l h).1).2 = 0 then (if (cenC (l.getD (placeL l (whereI l h).1).1.toNat default) h paid).2.2 = 0 then (l.set (placeL l (whereI l h).1).1.toNat (cenC (l.getD (placeL l (whereI l h).1).1.toNat default) h paid).1, (cenC (l.getD (placeL l (whereI l h).1).1.toNat default) h paid).2.1, 0) else ([], 0, (cenC (l.getD (placeL l (whereI l h).1).1.toNat default) h paid).2.2)) else ([], 0, (placeL l (whereI l h).1).2)) else ([], 0, (whereI l h).2)
@[go_sem] def lendc_r (l : List Ch) (h : Nat) (paid : Bool) : D := .tup [.sl (chs (lendL l h paid).1), .int .u64 ((lendL l h paid).2.1 : Int), .int .i64 (lendL l h paid).2.2]
@[go_sem] abbrev n_lendc : FuncId := 50
@[go_sem] def lendc_T : Tab := [(92, sp_lwhere), (29, sp_place), (95, sp_cfail), (96, sp_csettle), (77, sp_owns)]
theorem lendc_T_ok : TabOk Tryz.prog lendc_T := (TabOk.cons sp_lwhere_ok (TabOk.cons sp_place_ok (TabOk.cons sp_cfail_ok (TabOk.cons sp_csettle_ok (TabOk.cons sp_owns_ok TabOk.nil)))))
set_option maxRecDepth 8000 in
set_option maxHeartbeats 1000000 in
theorem lendc_ok (l : List Ch) (h : Nat) (paid : Bool)  : PureFn Tryz.prog 50 [.sl (chs l), .c (.int .u64 (h : Int)), .c (.bool paid)] (lendc_r l h paid) := by
  refine .of (ac50 lendc_T_ok (Nat.le_of_ble_eq_true rfl) ?_)
  simp -implicitDefEqProofs only [cdA, go_sem, Go.Proofs.Tryz.f50, reduceIte, List.cons.injEq, cdB]
  refine ⟨fun hw => ?_, fun hw => by rw [lendL, if_neg hw]; exact ⟨rfl, rfl, rfl⟩⟩
  rw [lendL, if_pos hw]
  obtain ⟨hok, c, hc, hwc, x, hx, hk⟩ := where_at hw
  rw [hwc]
  obtain ⟨p, hpp, hp, hpc, ep⟩ := place_at hok hc
  have hcc := hok.2.1 c hc
  rw [ep]
  dsimp only
  rw [if_pos rfl, Int.toNat_natCast, hpc]
  have e2 : (cenC c h paid).2.2 = 0 := by
    obtain ⟨q, _, _, _, e⟩ := cen_at (paid := paid) hcc hx hk
    rw [e]
  rw [if_pos e2]
  refine ac90 lendc_T_ok (Nat.le_of_ble_eq_true rfl) ?_
  simp -implicitDefEqProofs only [cdA, go_sem, Go.Proofs.Tryz.f90, reduceIte, List.cons.injEq, cdB]
  rw [ep]
  refine ⟨fun _ => ⟨⟨by omega, by omega⟩, ?_⟩, fun h => absurd rfl h⟩
  refine ac94 lendc_T_ok (Nat.le_of_ble_eq_true rfl) ?_
  simp -implicitDefEqProofs only [cdA, go_sem, Go.Proofs.Tryz.f94, reduceIte, List.cons.injEq, cdB]
  rw [hpc]
  have h32 : l.length ≤ 1000000 ∧ ∀ c ∈ l, c.holds.length ≤ 1000000 := ⟨by have := hok.1; omega, fun c hc => by have := (hok.2.1 c hc).2.2.1; omega⟩
  refine ⟨fun hpd => ?_, fun hpd => ?_⟩
  · subst hpd
    refine ⟨fun _ => ⟨h32, by omega, hp, ?_⟩, fun h => absurd e2 h⟩
    refine ADraw.run us50_5 lendc_T_ok follows_mixed (by kernel_rfl) (by kernel_rfl) ?_
    simp -implicitDefEqProofs only [cdA, go_sem, reduceIte, List.cons.injEq, cdB]
    exact ⟨_, _, _, rfl⟩
  · subst hpd
    refine ⟨fun _ => ⟨h32, by omega, hp, ?_⟩, fun h => absurd e2 h⟩
    refine ADraw.run us50_5 lendc_T_ok follows_mixed (by kernel_rfl) (by kernel_rfl) ?_
    simp -implicitDefEqProofs only [cdA, go_sem, reduceIte, List.cons.injEq, cdB]
    exact ⟨_, _, _, rfl⟩
def sp_lendc : List D → Option (Prop × D × Fr)
  | [.c (.sl z338), .c (.int .u64 z339), .c (.bool z340)] => some (z338 = chs (dchs z338) ∧ z339 = (z339.toNat : Int), lendc_r (dchs z338) z339.toNat z340, [])
  | _ => none
attribute [go_sem] sp_lendc
theorem sp_lendc_ok : ∀ rs p r fr, sp_lendc rs = some (p, r, fr) → p → FnOk Tryz.prog 50 rs r fr := by
  intro rs p r fr h hp
  unfold sp_lendc at h
  split at h <;> cases h
  obtain ⟨hc0, hc1⟩ := hp
  rename_i z338 z339 z340
  obtain ⟨z338, rfl⟩ : ∃ m, z338 = chs m := ⟨_, hc0⟩
  obtain ⟨z339, rfl⟩ : ∃ m : Nat, z339 = m := ⟨_, hc1⟩
  simp only [Int.toNat_natCast, dchs_chs]
  exact lendc_ok z338 z339 z340
end Dm
namespace Dm
open Go Go.Proofs Go.IntWalk
theorem pend_len {l : List Py} {id : Nat} {paid : Bool} (h : (pendL l id paid).2 = 0) : (pendL l id paid).1.length ≤ 256 := by
  unfold pendL at h ⊢
  split at h
  · rename_i h1
    split at h
    · rename_i h2
      split at h
      · rename_i h3
        rw [if_pos h1, if_pos h2, if_pos h3, List.length_set]; exact h1.1
      · cases h
    · cases h
  · cases h
theorem cen_ok {c : Ch} {h : Nat} {paid : Bool} {x : Hd} (hok : okCh c) (hx : x ∈ c.holds) (hk : x.id = h) : okCh (cenC c h paid).1 ∧ allC (cenC c h paid).1 = allC c ∧ (cenC c h paid).1.id = c.id ∧ c.holds.Perm (x :: (cenC c h paid).1.holds) := by
  obtain ⟨q, hq, hl, hg, e⟩ := cen_at (paid := paid) hok hx hk
  have hpm := erase_perm hl hg
  obtain ⟨o1, o2, o3, o4, o5, o6, o7, o8, o9, o10⟩ := hok
  have hok : okCh c := ⟨o1, o2, o3, o4, o5, o6, o7, o8, o9, o10⟩
  have hh : held c.holds = x.n + held (c.holds.eraseIdx q) := by
    unfold held
    rw [(hpm.map Hd.n).sum_nat, List.map_cons, List.sum_cons]
  have hop : ¬ c.op = false := fun h => by rw [o4 h] at hx; cases hx
  rw [e]
  dsimp only
  have hok2 : okCh (⟨c.id, if paid = true then c.loc else c.loc + x.n, if paid = true then c.rem + x.n else c.rem, c.res, c.most, c.holds.eraseIdx q, c.op⟩ : Ch) := by
    refine ⟨o1, o2, ?_, fun h => absurd h hop, fun y hy => o5 y (List.mem_of_mem_eraseIdx hy), (Srt.chn_up (lt := ltN) Srt.totNat).2 ?_, ?_, ?_, ?_, ?_⟩
    · show (c.holds.eraseIdx q).length ≤ 64
      rw [List.length_eraseIdx_of_lt hl]; omega
    · exact List.Pairwise.sublist (List.eraseIdx_sublist _ _) ((Srt.chn_up (lt := ltN) Srt.totNat).1 o6)
    · show held (c.holds.eraseIdx q) ≤ c.most; omega
    · show (if paid = true then c.loc else c.loc + x.n) ≤ MM
      unfold MM at *; split <;> omega
    · show (if paid = true then c.rem + x.n else c.rem) ≤ MM
      unfold MM at *; split <;> omega
    · show held (c.holds.eraseIdx q) + (if paid = true then c.loc else c.loc + x.n) + (if paid = true then c.rem + x.n else c.rem) ≤ MM
      unfold MM at *; split <;> omega
  refine ⟨hok2, ?_, rfl, hpm⟩
  unfold allC sumsC
  rw [if_pos hok2, if_pos hok]
  show held (c.holds.eraseIdx q) + (if paid = true then c.loc else c.loc + x.n) + (if paid = true then c.rem + x.n else c.rem) = held c.holds + c.loc + c.rem
  split <;> omega
theorem lend_at {l : List Ch} {h : Nat} (paid : Bool) (h0 : (whereI l h).2 = 0) : okLd l ∧ ∃ c ∈ l, ∃ x ∈ c.holds, x.id = h ∧ ∃ p, p < l.length ∧ p = Srt.pos Ch.id ltN l c.id ∧ l.getD p default = c ∧ okCh c ∧ lendL l h paid = (l.set p (cenC c h paid).1, x.n, 0) := by
  obtain ⟨hok, c, hc, hw, x, hx, hk⟩ := where_at h0
  obtain ⟨p, hp, hpl, hpc, e⟩ := place_at hok hc
  have hcc := hok.2.1 c hc
  obtain ⟨q, _, _, _, e2⟩ := cen_at (paid := paid) hcc hx hk
  refine ⟨hok, c, hc, x, hx, hk, p, hpl, hp, hpc, hcc, ?_⟩
  have e3 : (placeL l c.id).1.toNat = p := by rw [e]; rfl
  rw [lendL, if_pos h0, hw, if_pos (by rw [e]), e3, hpc, if_pos (by rw [e2])]
  rw [e2]
theorem lend_0 {l : List Ch} {h : Nat} {paid : Bool} : (lendL l h paid).2.2 = 0 ↔ (whereI l h).2 = 0 := by
  refine ⟨fun h0 => Decidable.byContradiction fun hn => ?_, fun h0 => ?_⟩
  · rw [lendL, if_neg hn] at h0; exact hn h0
  · obtain ⟨_, c, _, x, _, _, p, _, _, _, _, e⟩ := lend_at paid h0
    rw [e]
theorem set_set_self {l : List Ch} {p : Nat} {d : Ch} (hp : p < l.length) : (l.set p d).set p (l.getD p default) = l := by
  rw [List.set_set, getD_lt hp]; exact List.set_getElem_self hp
theorem lend_all {l : List Ch} {h : Nat} {paid : Bool} (h0 : (lendL l h paid).2.2 = 0) : okLd l ∧ okLd (lendL l h paid).1 ∧ totL (lendL l h paid).1 = totL l ∧ ∃ c ∈ l, ∃ x ∈ c.holds, x.id = h ∧ (lendL l h paid).2.1 = x.n ∧ (hlL l).Perm ((c.id, h, x.n) :: hlL (lendL l h paid).1) ∧ (hidL l).Perm (h :: hidL (lendL l h paid).1) := by
  obtain ⟨hok, c, hc, x, hx, hk, p, hp, hpp, hpc, hcc, e⟩ := lend_at paid (lend_0.1 h0)
  obtain ⟨c1, c2, c3, c4⟩ := cen_ok (paid := paid) hcc hx hk
  have hu : Srt.Up Ch.id ltN l := (Srt.chn_up (lt := ltN) Srt.totNat).1 hok.2.2.1
  rw [e]
  dsimp only
  generalize (cenC c h paid).1 = d at *
  have hpl : p < (l.set p d).length := by rw [List.length_set]; exact hp
  have hgd : (l.set p d).getD p default = d := by rw [Srt.set_getD hp, if_pos rfl]
  have hss := set_set_self (d := d) hp
  rw [hpc] at hss
  have hh := hlL_set (l := l.set p d) (p := p) (d := c) (x := x) hpl (by rw [hgd]; exact c3.symm) (by rw [hgd]; exact c4)
  have hi := hidL_set (l := l.set p d) (p := p) (d := c) (x := x) hpl (by rw [hgd]; exact c4)
  rw [hss] at hh hi
  rw [hk] at hh hi
  have ht := totL_set (l := l) (p := p) (d := d) hp (by rw [hpc]; exact c2)
  refine ⟨hok, ⟨by rw [List.length_set]; exact hok.1, fun y hy => ?_, ?_, ?_, by rw [ht]; exact hok.2.2.2.2⟩, ht, c, hc, x, hx, hk, rfl, hh, hi⟩
  · rcases List.mem_or_eq_of_mem_set hy with h | rfl
    · exact hok.2.1 y h
    · exact c1
  · exact (Srt.chn_up (lt := ltN) Srt.totNat).2 (Srt.set_up hu hp (by rw [hpc]; exact c3))
  · have := hok.2.2.2.1
    rw [hi.nodup_iff, List.nodup_cons] at this
    exact this.2
theorem lend_fine {l : List Ch} {h : Nat} {paid : Bool} (h0 : ((lendL l h paid).1, (lendL l h paid).2.2).2 = 0) : okLd (lendL l h paid).1 := (lend_all h0).2.1
end Dm
namespace Dm
open Go Go.Proofs Go.IntWalk
theorem hl_hid {l : List Ch} {a b n : Nat} (h : (a, b, n) ∈ hlL l) : b ∈ hidL l := by
  obtain ⟨c, hc, hm⟩ := List.mem_flatMap.1 h
  obtain ⟨x, hx, he⟩ := List.mem_map.1 hm
  simp only [Prod.mk.injEq] at he
  exact List.mem_flatMap.2 ⟨c, hc, List.mem_map.2 ⟨x, hx, he.2.1⟩⟩
theorem pend_at {l : List Py} {id : Nat} {paid : Bool} (h : (pendL l id paid).2 = 0) : okPy l ∧ ∃ r q, r < l.length ∧ l.getD r default = q ∧ q.id = id ∧ q.state = 1 ∧ r = Srt.pos Py.id ltN l id ∧ (pendL l id paid).1 = l.set r { q with state := if paid = true then 2 else 3 } := by
  unfold pendL at h ⊢
  split at h
  · rename_i h1
    split at h
    · rename_i h2
      split at h
      · rename_i h3
        obtain ⟨g1, g2⟩ := thr_at h2
        rw [if_pos h1, if_pos h2, if_pos h3]
        exact ⟨h1, _, _, g1, rfl, g2, h3, rfl, rfl⟩
      · cases h
    · cases h
  · cases h
theorem psplit_at {l : List Py} {p : Nat} (hp : p < l.length) : l = l.take p ++ l.getD p default :: l.drop (p + 1) := by
  rw [getD_lt hp, List.getElem_cons_drop, List.take_append_drop]
theorem pend_cons {a b : List Py} {q : Py} : pend (a ++ q :: b) = pend a ++ (if q.state = 1 then q :: pend b else pend b) := by
  unfold pend
  rw [List.filter_append]
  congr 1
  split
  · rename_i h; rw [List.filter_cons_of_pos (by simpa using h)]
  · rename_i h; rw [List.filter_cons_of_neg (by simpa using h)]
theorem set_py {l : List Py} {r : Nat} {q : Py} (hok : okPy l) (hr : r < l.length) (hid : q.id = (l.getD r default).id) (hq : okPy1 q) : okPy (l.set r q) := by
  refine ⟨by rw [List.length_set]; exact hok.1, fun x hx => ?_, (Srt.chn_up (lt := ltN) Srt.totNat).2 (Srt.set_up (okPy_up hok) hr hid)⟩
  rcases List.mem_or_eq_of_mem_set hx with h | rfl
  · exact hok.2.1 x h
  · exact hq
theorem pend_all {l : List Py} {id : Nat} {paid : Bool} (h : (pendL l id paid).2 = 0) : okPy l ∧ okPy (pendL l id paid).1 ∧ (pendL l id paid).1.map Py.id = l.map Py.id ∧ ∃ q ∈ l, q.id = id ∧ q.state = 1 ∧ (pend l).Perm (q :: pend (pendL l id paid).1) ∧ { q with state := if paid = true then 2 else 3 } ∈ (pendL l id paid).1 := by
  obtain ⟨hok, r, q, hr, hq, hid, hs, -, e⟩ := pend_at h
  have hmem : q ∈ l := mem_getD.2 ⟨r, hr, hq⟩
  have hq1 := hok.2.1 q hmem
  rw [e]
  refine ⟨hok, set_py hok hr (by rw [hq]) ⟨hq1.1, ?_⟩, ?_, q, hmem, hid, hs, ?_, ?_⟩
  · show 1 ≤ (if paid = true then (2 : Int) else 3) ∧ (if paid = true then (2 : Int) else 3) ≤ 3
    split <;> decide
  · rw [List.map_set]
    show (l.map Py.id).set r q.id = _
    have : (l.map Py.id)[r]'(by simpa using hr) = q.id := by rw [List.getElem_map, ← getD_lt hr, hq]
    rw [← this]; exact List.set_getElem_self _
  · have e1 := psplit_at hr
    rw [hq] at e1
    rw [List.set_eq_take_append_cons_drop, if_pos hr]
    conv => lhs; rw [e1]
    rw [pend_cons, pend_cons, if_pos hs, if_neg (by show ¬ (if paid = true then (2 : Int) else 3) = 1; split <;> decide)]
    exact List.perm_middle
  · exact List.mem_set hr _
theorem pend_nodup {l : List Py} (h : okPy l) : ((pend l).map Py.id).Nodup := by
  have h1 : Srt.Up Py.id ltN (pend l) := List.Pairwise.sublist List.filter_sublist (okPy_up h)
  unfold Srt.Up at h1
  rw [List.Nodup, List.pairwise_map]
  exact h1.imp fun hlt he => by simp only [ltN] at hlt; omega
theorem mem_pend {l : List Py} {q : Py} : q ∈ pend l ↔ q ∈ l ∧ q.state = 1 := by
  unfold pend; rw [List.mem_filter, decide_eq_true_eq]
theorem agr_end {p : List Py} {c : List Ch} {id : Nat} {paid : Bool} (ha : agrL p c = (true, 0)) (hok : okLd c) (hp : (pendL p id paid).2 = 0) : (lendL c id paid).2.2 = 0 ∧ agrL (pendL p id paid).1 (lendL c id paid).1 = (true, 0) ∧
    ∃ q ∈ p, q.id = id ∧ q.state = 1 ∧ (lendL c id paid).2.1 = q.n ∧ (q.chan, id, q.n) ∈ hlL c := by
  obtain ⟨a1, a2, a3, a4, a5⟩ := agr_parts.1 ha
  obtain ⟨-, hok', -, q, hq, hid, hs, hpm, -⟩ := pend_all hp
  have hqc := a4 q (mem_pend.2 ⟨hq, hs⟩)
  rw [hid] at hqc
  have hl0 : (lendL c id paid).2.2 = 0 := lend_0.2 ((where_0 hok).2 (hl_hid hqc))
  obtain ⟨-, l1, -, c0, -, x, -, hx, hn, hh, hi⟩ := lend_all hl0
  have hnin : id ∉ hidL (lendL c id paid).1 := by
    have := hok.2.2.2.1
    rw [hi.nodup_iff, List.nodup_cons] at this
    exact this.1
  have heq : (q.chan, id, q.n) = (c0.id, id, x.n) := by
    rcases List.mem_cons.1 (hh.mem_iff.1 hqc) with h | h
    · exact h
    · exact absurd (hl_hid h) hnin
  simp only [Prod.mk.injEq] at heq
  refine ⟨hl0, agr_parts.2 ⟨hok', l1.1, okLd_ids l1, fun r hr => ?_, ?_⟩, q, hq, hid, hs, by rw [hn]; exact heq.2.2.symm, hqc⟩
  · have h1 : r ∈ pend p := hpm.mem_iff.2 (.tail _ hr)
    have h2 := a4 r h1
    have hne : r.id ≠ id := fun he => by
      have hnd := pend_nodup a1
      rw [(hpm.map Py.id).nodup_iff, List.map_cons, List.nodup_cons] at hnd
      exact hnd.1 (List.mem_map.2 ⟨r, hr, by rw [he, hid]⟩)
    rcases List.mem_cons.1 (hh.mem_iff.1 h2) with h | h
    · simp only [Prod.mk.injEq] at h
      exact absurd h.2.1 hne
    · exact h
  · have h1 := hh.length_eq
    have h2 := hpm.length_eq
    rw [List.length_cons] at h1 h2
    omega
end Dm
namespace Dm
open Go Go.Proofs Go.IntWalk
def wopC (v : Wl) (c : Ch) : List Ch × Int := openL v.c c
def wopF (v : Wl) (c : Ch) : Fd × Nat × Int := addF v.f 6 c.id c.loc
def wopE (v : Wl) (c : Ch) : Int := if ¬ okW v then 1 else if (wopC v c).2 ≠ 0 then (wopC v c).2 else (wopF v c).2.2
def wopW (v : Wl) (c : Ch) : Wl × Int := if wopE v c = 0 then (⟨(wopC v c).1, v.w, v.i, v.p, (wopF v c).1, v.next, v.tick⟩, 0) else (zeroW, wopE v c)
theorem open_fine {l : List Ch} {c : Ch} (h : (openL l c).2 = 0) : okLd (openL l c).1 := by
  unfold openL at h ⊢
  split at h
  · cases h
  split at h
  · cases h
  split at h
  · cases h
  split at h
  · rename_i h1 h2 h3 h4
    rw [if_neg h1, if_neg h2, if_neg h3, if_pos h4]; exact h4
  · cases h
@[go_sem] def wopen_r (v : Wl) (c : Ch) : D := .tup [.agg [.sl (chs (wopW v c).1.c), .sl (wts (wopW v c).1.w), .sl (ivs (wopW v c).1.i), .sl (pys (wopW v c).1.p), .int .u64 (wopW v c).1.f.next, .sl (evs (wopW v c).1.f.l), .int .u64 (wopW v c).1.next, .int .u64 (wopW v c).1.tick], .int .i64 (wopW v c).2]
@[go_sem] abbrev n_wopen : FuncId := 14
@[go_sem] def wopen_T : Tab := [(9, sp_wcheck), (36, sp_lopen), (80, sp_fadd), (81, sp_wown)]
theorem wopen_T_ok : TabOk Tryz.prog wopen_T := (TabOk.cons sp_wcheck_ok (TabOk.cons sp_lopen_ok (TabOk.cons sp_fadd_ok (TabOk.cons sp_wown_ok TabOk.nil))))
set_option maxRecDepth 8000 in
set_option maxHeartbeats 1000000 in
theorem wopen_ok (v : Wl) (c : Ch) (h : v.f.next ≤ 18446744073709551615) : PureFn Tryz.prog 14 [.agg [.sl (chs v.c), .sl (wts v.w), .sl (ivs v.i), .sl (pys v.p), .c (.int .u64 (v.f.next : Int)), .sl (evs v.f.l), .c (.int .u64 (v.next : Int)), .c (.int .u64 (v.tick : Int))], .agg [.c (.int .u64 (c.id : Int)), .c (.int .u64 (c.loc : Int)), .c (.int .u64 (c.rem : Int)), .c (.int .u64 (c.res : Int)), .c (.int .u64 (c.most : Int)), .sl (hds c.holds), .c (.bool c.op)]] (wopen_r v c) := by
  refine .of (ac14 wopen_T_ok (Nat.le_of_ble_eq_true rfl) ?_)
  simp -implicitDefEqProofs only [cdA, go_sem, Go.Proofs.Tryz.f14, reduceIte, List.cons.injEq, cdB]
  refine ac33 wopen_T_ok (Nat.le_of_ble_eq_true rfl) ?_
  simp -implicitDefEqProofs only [cdA, go_sem, Go.Proofs.Tryz.f33, reduceIte, List.cons.injEq, cdB]
  refine ADraw.run us33_1 wopen_T_ok follows_mixed (by kernel_rfl) (by kernel_rfl) ?_
  simp -implicitDefEqProofs only [cdA, go_sem, reduceIte, List.cons.injEq, cdB]
  refine ⟨h, ?_⟩
  have hbad : ∀ e : Int, wopE v c = e → ¬ e = 0 → (chs (wopW v c).1.c = [] ∧ wts (wopW v c).1.w = [] ∧ ivs (wopW v c).1.i = [] ∧ pys (wopW v c).1.p = [] ∧ 0 = ((wopW v c).1.f.next : Int) ∧ evs (wopW v c).1.f.l = [] ∧ 0 = ((wopW v c).1.next : Int) ∧ 0 = ((wopW v c).1.tick : Int)) ∧ e = (wopW v c).2 := fun e h1 h2 => by
    have : wopW v c = (zeroW, e) := by rw [wopW, if_neg (by rw [h1]; exact h2), h1]
    rw [this]; exact ⟨⟨rfl, rfl, rfl, rfl, rfl, rfl, rfl, rfl⟩, rfl⟩
  by_cases hok : okW v
  rotate_left 1
  · have hck : (chkW v = 0) = False := eq_false fun h => hok (chkW_0.1 h)
    have he : wopE v c = 1 := by rw [wopE, if_pos hok]
    have hc1 : chkW v = 1 := by rw [chkW, if_neg hok]
    skip
    refine ac34 wopen_T_ok (Nat.le_of_ble_eq_true rfl) ?_
    simp -implicitDefEqProofs only [cdA, go_sem, Go.Proofs.Tryz.f34, hck, cdN, reduceIte, List.cons.injEq, cdB]
    refine ac37 wopen_T_ok (Nat.le_of_ble_eq_true rfl) ?_
    simp -implicitDefEqProofs only [cdA, go_sem, Go.Proofs.Tryz.f37, reduceIte, List.cons.injEq, cdB]
    refine ac78 wopen_T_ok (Nat.le_of_ble_eq_true rfl) ?_
    simp -implicitDefEqProofs only [cdA, go_sem, Go.Proofs.Tryz.f78, hck, cdN, reduceIte, List.cons.injEq, cdB]
    refine ac38 wopen_T_ok (Nat.le_of_ble_eq_true rfl) ?_
    simp -implicitDefEqProofs only [cdA, go_sem, Go.Proofs.Tryz.f38, hck, cdN, reduceIte, List.cons.injEq, cdB]
    refine ADraw.run us38_2 wopen_T_ok follows_mixed (by kernel_rfl) (by kernel_rfl) ?_
    simp -implicitDefEqProofs only [cdA, go_sem, hck, cdN, reduceIte, List.cons.injEq, cdB]
    exact hbad _ (he.trans hc1.symm) (by rw [hc1]; decide)
  have hck : (chkW v = 0) = True := eq_true (chkW_0.2 hok)
  refine ac34 wopen_T_ok (Nat.le_of_ble_eq_true rfl) ?_
  simp -implicitDefEqProofs only [cdA, go_sem, Go.Proofs.Tryz.f34, hck, cdN, reduceIte, List.cons.injEq, cdB]
  refine ac35 wopen_T_ok (Nat.le_of_ble_eq_true rfl) ?_
  simp -implicitDefEqProofs only [cdA, go_sem, Go.Proofs.Tryz.f35, reduceIte, List.cons.injEq, cdB]
  have eC : openL v.c c = wopC v c := rfl
  rw [eC]
  refine ⟨fun hst => ?_, fun hst => ?_⟩
  rotate_left 1
  · skip
    refine ac37 wopen_T_ok (Nat.le_of_ble_eq_true rfl) ?_
    simp -implicitDefEqProofs only [cdA, go_sem, Go.Proofs.Tryz.f37, reduceIte, List.cons.injEq, cdB]
    refine ac78 wopen_T_ok (Nat.le_of_ble_eq_true rfl) ?_
    simp -implicitDefEqProofs only [cdA, go_sem, Go.Proofs.Tryz.f78, hst, cdN, reduceIte, List.cons.injEq, cdB]
    refine ac38 wopen_T_ok (Nat.le_of_ble_eq_true rfl) ?_
    simp -implicitDefEqProofs only [cdA, go_sem, Go.Proofs.Tryz.f38, hst, cdN, reduceIte, List.cons.injEq, cdB]
    refine ADraw.run us38_2 wopen_T_ok follows_mixed (by kernel_rfl) (by kernel_rfl) ?_
    simp -implicitDefEqProofs only [cdA, go_sem, hst, cdN, reduceIte, List.cons.injEq, cdB]
    exact hbad _ (by rw [wopE, if_neg (fun h => h hok), if_pos hst]) hst
  refine ac37 wopen_T_ok (Nat.le_of_ble_eq_true rfl) ?_
  simp -implicitDefEqProofs only [cdA, go_sem, Go.Proofs.Tryz.f37, reduceIte, List.cons.injEq, cdB]
  refine ac78 wopen_T_ok (Nat.le_of_ble_eq_true rfl) ?_
  simp -implicitDefEqProofs only [cdA, go_sem, Go.Proofs.Tryz.f78, hck, cdN, reduceIte, List.cons.injEq, cdB]
  refine ac79 wopen_T_ok (Nat.le_of_ble_eq_true rfl) ?_
  simp -implicitDefEqProofs only [cdA, go_sem, Go.Proofs.Tryz.f79, reduceIte, List.cons.injEq, cdB]
  have eF : addF v.f 6 c.id c.loc = wopF v c := rfl
  rw [eF]
  refine ⟨h, fun hfd => ?_, fun hfd => ?_⟩
  rotate_left 1
  · skip
    refine ac38 wopen_T_ok (Nat.le_of_ble_eq_true rfl) ?_
    simp -implicitDefEqProofs only [cdA, go_sem, Go.Proofs.Tryz.f38, hfd, cdN, reduceIte, List.cons.injEq, cdB]
    refine ADraw.run us38_2 wopen_T_ok follows_mixed (by kernel_rfl) (by kernel_rfl) ?_
    simp -implicitDefEqProofs only [cdA, go_sem, hfd, cdN, reduceIte, List.cons.injEq, cdB]
    exact hbad _ (by rw [wopE, if_neg (fun h => h hok), if_neg (fun h => h hst)]) hfd
  have hsm : smallW ⟨(wopC v c).1, v.w, v.i, v.p, (wopF v c).1, v.next, v.tick⟩ := by
    have h1 := open_fine hst
    have h2 := small_ok hok
    have h4 := add_len (f := v.f) (k := 6) (a := c.id) (n := c.loc)
    refine ⟨by have := h1.1; show (wopC v c).1.length ≤ _; unfold wopC; omega, fun d hd => by have := (h1.2.1 d hd).2.2.1; omega, h2.2.2.1, h2.2.2.2.1, h2.2.2.2.2.1, by show (wopF v c).1.l.length ≤ _; unfold wopF; omega⟩
  have hfin : wopW v c = (⟨(wopC v c).1, v.w, v.i, v.p, (wopF v c).1, v.next, v.tick⟩, 0) := by
    have : wopE v c = 0 := by rw [wopE, if_neg (fun h => h hok), if_neg (fun h => h hst)]; exact hfd
    rw [wopW, if_pos this]
  refine ac38 wopen_T_ok (Nat.le_of_ble_eq_true rfl) ?_
  simp -implicitDefEqProofs only [cdA, go_sem, Go.Proofs.Tryz.f38, hck, eq_true hsm, cdN, reduceIte, List.cons.injEq, cdB]
  rw [hfin]
  exact ⟨⟨rfl, rfl, rfl, rfl, rfl, rfl, rfl, rfl⟩, rfl⟩
@[go_sem] def wopen_p (v : Wl) (c : Ch) : Prop := (v.f.next ≤ 18446744073709551615)
def sp_wopen : List D → Option (Prop × D × Fr)
  | [.agg [.c (.sl z291), .c (.sl z292), .c (.sl z293), .c (.sl z294), .c (.int .u64 z296), .c (.sl z297), .c (.int .u64 z298), .c (.int .u64 z299)], .agg [.c (.int .u64 z301), .c (.int .u64 z302), .c (.int .u64 z303), .c (.int .u64 z304), .c (.int .u64 z305), .c (.sl z306), .c (.bool z307)]] => some (z291 = chs (dchs z291) ∧ z292 = wts (dwts z292) ∧ z293 = ivs (divs z293) ∧ z294 = pys (dpys z294) ∧ z296 = (z296.toNat : Int) ∧ z297 = evs (devs z297) ∧ z298 = (z298.toNat : Int) ∧ z299 = (z299.toNat : Int) ∧ z301 = (z301.toNat : Int) ∧ z302 = (z302.toNat : Int) ∧ z303 = (z303.toNat : Int) ∧ z304 = (z304.toNat : Int) ∧ z305 = (z305.toNat : Int) ∧ z306 = hds (dhds z306) ∧ wopen_p (⟨(dchs z291), (dwts z292), (divs z293), (dpys z294), (⟨z296.toNat, (devs z297)⟩ : Fd), z298.toNat, z299.toNat⟩ : Wl) (⟨z301.toNat, z302.toNat, z303.toNat, z304.toNat, z305.toNat, (dhds z306), z307⟩ : Ch), wopen_r (⟨(dchs z291), (dwts z292), (divs z293), (dpys z294), (⟨z296.toNat, (devs z297)⟩ : Fd), z298.toNat, z299.toNat⟩ : Wl) (⟨z301.toNat, z302.toNat, z303.toNat, z304.toNat, z305.toNat, (dhds z306), z307⟩ : Ch), [])
  | _ => none
attribute [go_sem] sp_wopen
theorem sp_wopen_ok : ∀ rs p r fr, sp_wopen rs = some (p, r, fr) → p → FnOk Tryz.prog 14 rs r fr := by
  intro rs p r fr h hp
  unfold sp_wopen at h
  split at h <;> cases h
  obtain ⟨hc0, hc1, hc2, hc3, hc4, hc5, hc6, hc7, hc8, hc9, hc10, hc11, hc12, hc13, hp⟩ := hp
  rename_i z291 z292 z293 z294 z296 z297 z298 z299 z301 z302 z303 z304 z305 z306 z307
  obtain ⟨z291, rfl⟩ : ∃ m, z291 = chs m := ⟨_, hc0⟩
  obtain ⟨z292, rfl⟩ : ∃ m, z292 = wts m := ⟨_, hc1⟩
  obtain ⟨z293, rfl⟩ : ∃ m, z293 = ivs m := ⟨_, hc2⟩
  obtain ⟨z294, rfl⟩ : ∃ m, z294 = pys m := ⟨_, hc3⟩
  obtain ⟨z296, rfl⟩ : ∃ m : Nat, z296 = m := ⟨_, hc4⟩
  obtain ⟨z297, rfl⟩ : ∃ m, z297 = evs m := ⟨_, hc5⟩
  obtain ⟨z298, rfl⟩ : ∃ m : Nat, z298 = m := ⟨_, hc6⟩
  obtain ⟨z299, rfl⟩ : ∃ m : Nat, z299 = m := ⟨_, hc7⟩
  obtain ⟨z301, rfl⟩ : ∃ m : Nat, z301 = m := ⟨_, hc8⟩
  obtain ⟨z302, rfl⟩ : ∃ m : Nat, z302 = m := ⟨_, hc9⟩
  obtain ⟨z303, rfl⟩ : ∃ m : Nat, z303 = m := ⟨_, hc10⟩
  obtain ⟨z304, rfl⟩ : ∃ m : Nat, z304 = m := ⟨_, hc11⟩
  obtain ⟨z305, rfl⟩ : ∃ m : Nat, z305 = m := ⟨_, hc12⟩
  obtain ⟨z306, rfl⟩ : ∃ m, z306 = hds m := ⟨_, hc13⟩
  simp only [Int.toNat_natCast, dchs_chs, devs_evs, dhds_hds, divs_ivs, dpys_pys, dwts_wts]
  simp only [Int.toNat_natCast, dchs_chs, devs_evs, dhds_hds, divs_ivs, dpys_pys, dwts_wts, wopen_p] at hp
  exact wopen_ok ⟨z291, z292, z293, z294, ⟨z296, z297⟩, z298, z299⟩ ⟨z301, z302, z303, z304, z305, z306, z307⟩ hp
end Dm
