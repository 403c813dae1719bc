import Derived.Test.YthcioaapafehhaaGreatDoorP8

set_option linter.unusedSimpArgs false
set_option linter.unusedVariables false
set_option linter.unusedSectionVars false
namespace Dm
open Go Go.Proofs Go.IntWalk
theorem Cv.eqD {a b : Cv} : eqD Tryz.prog 59 [D.c (.int .i64 a.kind), D.c (.int .u64 a.a), D.c (.int .u64 a.b)] [D.c (.int .i64 b.kind), D.c (.int .u64 b.a), D.c (.int .u64 b.b)] = some (decide (a = b)) := by
  cases a; cases b
  simp only [Dm.eqD, eqOf_59, eqCells, eqC, List.getElem?_cons_zero, List.getElem?_cons_succ, if_true, Option.some.injEq, Cv.mk.injEq]
  rw [Bool.eq_iff_iff]
  simp [Int.ofNat_inj]
attribute [go_sem] Cv.eqD
@[go_sem] def cveq_r (a : List Cv) (b : List Cv) : D := .bool (decide (a = b))
@[go_sem] abbrev n_cveq : FuncId := 62
@[go_sem] def cveq_T : Tab := []
theorem cveq_T_ok : TabOk Tryz.prog cveq_T := TabOk.nil
set_option maxRecDepth 8000 in
set_option maxHeartbeats 1000000 in
theorem cveq_ok (a : List Cv) (b : List Cv)  : PureFn Tryz.prog 62 [.sl (cvs a), .sl (cvs b)] (cveq_r a b) := by
  refine .of (ac62 cveq_T_ok (Nat.le_of_ble_eq_true rfl) ?_)
  simp -implicitDefEqProofs only [cdA, go_sem, Go.Proofs.Tryz.f62, reduceIte, reduceCtorEq, Nat.reduceEqDiff, Nat.reduceAdd, Nat.reduceLeDiff, Nat.reduceSub, Nat.reduceMul, Nat.reduceLT, Nat.reduceShiftRight, Nat.reduceMod, Int.reduceLE, Int.reduceLT, Int.reduceToNat, List.cons.injEq, cdB]
  refine fun ha hb => ⟨fun hl _ => ?_, fun h => ?_⟩
  · refine SWp.loop (ι := { i : Nat // i ≤ a.length ∧ a.take i = b.take i }) (fun i => ⟨[(0, .sl (cvs a)), (1, .sl (cvs b)), (12, .int .i64 a.length), (13, .int .i64 i.1)], [], 0⟩) (fun i => a.length - i.1) ⟨0, by simp⟩ ?_ ?_
    · simp [go_sem]
    · rintro ⟨i, hi, hab⟩
      refine awp_sound cveq_T_ok.toS lv62 _ _ _ rfl ?_
      simp -implicitDefEqProofs only [cdA, go_sem, reduceIte, reduceCtorEq, Nat.reduceEqDiff, Nat.reduceAdd, Nat.reduceLeDiff, Nat.reduceSub, Nat.reduceMul, Nat.reduceLT, Nat.reduceShiftRight, Nat.reduceMod, Int.reduceLE, Int.reduceLT, Int.reduceToNat, List.cons.injEq, cdB]
      refine ⟨fun h => ?_, fun h => ?_⟩
      · refine ADraw.run us62_6 cveq_T_ok follows_mixed (by kernel_rfl) (by kernel_rfl) ?_
        simp -implicitDefEqProofs only [cdA, go_sem, reduceIte, reduceCtorEq, Nat.reduceEqDiff, Nat.reduceAdd, Nat.reduceLeDiff, Nat.reduceSub, Nat.reduceMul, Nat.reduceLT, Nat.reduceShiftRight, Nat.reduceMod, Int.reduceLE, Int.reduceLT, Int.reduceToNat, List.cons.injEq, cdB]
        have h1 : i < a.length := by omega
        have h2 : i < b.length := by omega
        have ht := take_succ_iff h1 h2 hab
        refine ⟨by omega, by omega, fun he => ⟨⟨i + 1, h1, ht.2 he⟩, by dsimp only; omega, i64_in _ (by omega)⟩, fun he => ?_⟩
        rw [eq_comm, decide_eq_false_iff_not]
        rintro rfl
        exact he rfl
      · have e : i = a.length := by omega
        have : a = b := by
          rw [e, List.take_length] at hab
          rw [hab, List.take_of_length_le (by omega)]
        simp [this]
  · have : a ≠ b := by rintro rfl; exact h rfl
    simp [this]
def sp_cveq : List D → Option (Prop × D × Fr)
  | [.c (.sl z1), .c (.sl z2)] => some (z1 = cvs (dcvs z1) ∧ z2 = cvs (dcvs z2), cveq_r (dcvs z1) (dcvs z2), [])
  | _ => none
attribute [go_sem] sp_cveq
theorem sp_cveq_ok : ∀ rs p r fr, sp_cveq rs = some (p, r, fr) → p → FnOk Tryz.prog 62 rs r fr := by
  intro rs p r fr h hp
  unfold sp_cveq at h
  split at h <;> cases h
  obtain ⟨hc0, hc1⟩ := hp
  rename_i z1 z2
  obtain ⟨z1, rfl⟩ : ∃ m, z1 = cvs m := ⟨_, hc0⟩
  obtain ⟨z2, rfl⟩ : ∃ m, z2 = cvs m := ⟨_, hc1⟩
  simp only [dcvs_cvs]
  exact cveq_ok z1 z2
def sameT (a b : Tk) : Bool := decide (a.root = b.root ∧ a.tag = b.tag ∧ a.l = b.l)
@[go_sem] def tsame_r (a : Tk) (b : Tk) : D := .bool (sameT a b)
@[go_sem] abbrev n_tsame : FuncId := 20
@[go_sem] def tsame_T : Tab := [(62, sp_cveq)]
theorem tsame_T_ok : TabOk Tryz.prog tsame_T := (TabOk.cons sp_cveq_ok TabOk.nil)
set_option maxRecDepth 8000 in
set_option maxHeartbeats 1000000 in
theorem tsame_ok (a : Tk) (b : Tk)  : PureFn Tryz.prog 20 [.agg [.c (.int .u64 (a.root : Int)), .sl (cvs a.l), .c (.int .i64 a.tag)], .agg [.c (.int .u64 (b.root : Int)), .sl (cvs b.l), .c (.int .i64 b.tag)]] (tsame_r a b) := by
  refine .of (ac20 tsame_T_ok (Nat.le_of_ble_eq_true rfl) ?_)
  simp -implicitDefEqProofs only [cdA, go_sem, Go.Proofs.Tryz.f20, reduceIte, reduceCtorEq, Nat.reduceEqDiff, Nat.reduceAdd, Nat.reduceLeDiff, Nat.reduceSub, Nat.reduceMul, Nat.reduceLT, Nat.reduceShiftRight, Nat.reduceMod, Int.reduceLE, Int.reduceLT, Int.reduceToNat, List.cons.injEq, cdB]
  unfold sameT
  refine ⟨fun h1 => ⟨fun h2 => decide_eq_decide.2 ⟨fun h => ⟨by omega, h2, h⟩, fun h => h.2.2⟩, fun h2 => (decide_eq_false fun h => h2 h.2.1).symm⟩, fun h1 => (decide_eq_false fun h => h1 (by omega)).symm⟩
def sp_tsame : List D → Option (Prop × D × Fr)
  | [.agg [.c (.int .u64 z4), .c (.sl z5), .c (.int .i64 z6)], .agg [.c (.int .u64 z8), .c (.sl z9), .c (.int .i64 z10)]] => some (z4 = (z4.toNat : Int) ∧ z5 = cvs (dcvs z5) ∧ z8 = (z8.toNat : Int) ∧ z9 = cvs (dcvs z9), tsame_r (⟨z4.toNat, (dcvs z5), z6⟩ : Tk) (⟨z8.toNat, (dcvs z9), z10⟩ : Tk), [])
  | _ => none
attribute [go_sem] sp_tsame
theorem sp_tsame_ok : ∀ rs p r fr, sp_tsame rs = some (p, r, fr) → p → FnOk Tryz.prog 20 rs r fr := by
  intro rs p r fr h hp
  unfold sp_tsame at h
  split at h <;> cases h
  obtain ⟨hc0, hc1, hc2, hc3⟩ := hp
  rename_i z4 z5 z6 z8 z9 z10
  obtain ⟨z4, rfl⟩ : ∃ m : Nat, z4 = m := ⟨_, hc0⟩
  obtain ⟨z5, rfl⟩ : ∃ m, z5 = cvs m := ⟨_, hc1⟩
  obtain ⟨z8, rfl⟩ : ∃ m : Nat, z8 = m := ⟨_, hc2⟩
  obtain ⟨z9, rfl⟩ : ∃ m, z9 = cvs m := ⟨_, hc3⟩
  simp only [Int.toNat_natCast, dcvs_cvs]
  exact tsame_ok ⟨z4, z5, z6⟩ ⟨z8, z9, z10⟩
@[go_sem] def GuardForged_r (b : Bk) (r : Rq) (t : Tk) (who : Nat) : D := .bool true
@[go_sem] abbrev n_GuardForged : FuncId := 5
@[go_sem] def GuardForged_T : Tab := [(8, sp_glive), (15, sp_few21), (9, sp_few19), (14, sp_gmay), (19, sp_tmint), (16, sp_tbind), (20, sp_tsame)]
theorem GuardForged_T_ok : TabOk Tryz.prog GuardForged_T := (TabOk.cons sp_glive_ok (TabOk.cons sp_few21_ok (TabOk.cons sp_few19_ok (TabOk.cons sp_gmay_ok (TabOk.cons sp_tmint_ok (TabOk.cons sp_tbind_ok (TabOk.cons sp_tsame_ok TabOk.nil)))))))
set_option maxRecDepth 8000 in
set_option maxHeartbeats 1000000 in
theorem GuardForged_ok (b : Bk) (r : Rq) (t : Tk) (who : Nat) (h : b.w.f.next ≤ 18446744073709551615) : PureFn Tryz.prog 5 [.agg [.sl (chs b.w.c), .sl (wts b.w.w), .sl (ivs b.w.i), .sl (pys b.w.p), .c (.int .u64 (b.w.f.next : Int)), .sl (evs b.w.f.l), .c (.int .u64 (b.w.next : Int)), .c (.int .u64 (b.w.tick : Int)), .sl (tms b.a.l), .sl (rks b.r), .sl (kys b.k), .sl (cts b.s)], .agg [.c (.int .u64 (r.id : Int)), .c (.int .i64 r.method), .c (.int .u64 (r.key : Int)), .c (.int .u64 (r.t.root : Int)), .sl (cvs r.t.l), .c (.int .i64 r.t.tag), .c (.int .u64 (r.a : Int)), .c (.int .u64 (r.n : Int)), .c (.int .u64 (r.till : Int)), .sl (its r.items), .sl (cvs r.l)], .agg [.c (.int .u64 (t.root : Int)), .sl (cvs t.l), .c (.int .i64 t.tag)], .c (.int .u64 (who : Int))] (GuardForged_r b r t who) := by
  refine .of (ac5 GuardForged_T_ok (Nat.le_of_ble_eq_true rfl) ?_)
  simp -implicitDefEqProofs only [cdA, go_sem, Go.Proofs.Tryz.f5, reduceIte, reduceCtorEq, Nat.reduceEqDiff, Nat.reduceAdd, Nat.reduceLeDiff, Nat.reduceSub, Nat.reduceMul, Nat.reduceLT, Nat.reduceShiftRight, Nat.reduceMod, Int.reduceLE, Int.reduceLT, Int.reduceToNat, List.cons.injEq, cdB]
  refine ⟨fun _ => ⟨fun _ => ?_, fun _ => trivial⟩, fun _ => trivial⟩
  refine fun _ => ⟨fun _ => trivial, fun hl20 => ⟨h, fun h0 => ⟨fun h1 _ => ?_, fun h1 => by rw [h1]; rfl⟩, fun h0 => ?_⟩⟩
  rotate_left 1
  · rw [may_bad fun h => h0 (may_2.2 h)]; rfl
  obtain ⟨hr, hb⟩ := may_2.1 h0
  have ha := (chkB_0.1 hb).2.1
  have hrk := (chkB_0.1 hb).2.2.1
  obtain ⟨k, hk, hway, _⟩ := (free_key hrk).1 ((may_ok hr hb).2.1 h1)
  dsimp only at hk hway
  have ht : okTk t := hr.2.2
  have h16 := ht.1
  refine SWp.loop (ι := { i : Nat // i ≤ b.r.length ∧ ∀ j, j < i → b.r.getD j default ≠ ⟨t.root, k, false⟩ }) (fun i => ⟨[(4, .ref 0 0), (6, .ref 2 0), (52, .sl (rks b.r)), (53, .int .i64 b.r.length), (54, .int .i64 i.1)], [(2, .box [.c (.int .u64 t.root), .sl (cvs t.l), .c (.int .i64 t.tag)]), (0, .box [.sl (chs b.w.c), .sl (wts b.w.w), .sl (ivs b.w.i), .sl (pys b.w.p), .c (.int .u64 b.w.f.next), .sl (evs b.w.f.l), .c (.int .u64 b.w.next), .c (.int .u64 b.w.tick), .sl (tms b.a.l), .sl (rks b.r), .sl (kys b.k), .sl (cts b.s)])], 3⟩) (fun i => b.r.length - i.1) ⟨0, by simp, fun j hj => absurd hj (by omega)⟩ ?_ ?_
  · simp [go_sem]
  · rintro ⟨i, hi, hall⟩
    refine awp_sound GuardForged_T_ok.toS lv5 _ _ _ rfl ?_
    simp -implicitDefEqProofs only [cdA, go_sem, reduceIte, reduceCtorEq, Nat.reduceEqDiff, Nat.reduceAdd, Nat.reduceLeDiff, Nat.reduceSub, Nat.reduceMul, Nat.reduceLT, Nat.reduceShiftRight, Nat.reduceMod, Int.reduceLE, Int.reduceLT, Int.reduceToNat, List.cons.injEq, cdB]
    have hkey : i < b.r.length → (b.r.getD i default).id = t.root → (b.r.getD i default).gone = false → b.r.getD i default = ⟨t.root, k, false⟩ := fun h1 h2 _ => Srt.up_inj (lt := ltN) Srt.totNat (rk_up hrk) (mem_getD.2 ⟨i, h1, rfl⟩) hk h2
    have hnext : i < b.r.length → b.r.getD i default ≠ ⟨t.root, k, false⟩ → ∃ i_1 : { i : Nat // i ≤ b.r.length ∧ ∀ j, j < i → b.r.getD j default ≠ ⟨t.root, k, false⟩ }, b.r.length - i_1.val < b.r.length - i ∧ IntKind.i64.wrap ((i : Int) + 1) = i_1.val := fun h1 h2 => ⟨⟨i + 1, h1, fun j hj => by
      by_cases hji : j = i
      · rw [hji]; exact h2
      · exact hall j (by omega)⟩, by dsimp only; omega, i64_in _ (by omega)⟩
    refine ⟨fun h2 => ⟨h2, fun h3 => ⟨fun h4 => hnext (by omega) (fun e => by rw [e] at h4; exact Bool.noConfusion h4), fun h4 _ => ?_⟩, fun h3 => hnext (by omega) fun e => h3 (by rw [e])⟩, fun h2 => ?_⟩
    rotate_left 1
    · obtain ⟨j, hj, e⟩ := mem_getD.1 hk
      exact hall j (by omega) e
    have e := hkey (by omega) (by omega) h4
    rw [show (b.r.getD i default).key = k from congrArg Rk.key e, forged_mint ha hway]
    dsimp only
    rw [if_pos rfl]
    refine SWp.loop (ι := { j : Nat // j ≤ t.l.length }) (fun j => ⟨[(4, .ref 0 0), (6, .ref 2 0), (13, .ref 4 0), (14, .ref 5 0), (15, .int .i64 0), (79, .sl (cvs t.l)), (80, .int .i64 t.l.length), (81, .int .i64 j.1)], [(5, .box [.int .u64 t.root, .sl (cvs (t.l.take j.1)), .int .i64 (wayT b.a.l k t j.1)]), (4, .box [.sl (tms b.a.l)]), (2, .box [.c (.int .u64 t.root), .sl (cvs t.l), .c (.int .i64 t.tag)]), (0, .box [.sl (chs b.w.c), .sl (wts b.w.w), .sl (ivs b.w.i), .sl (pys b.w.p), .c (.int .u64 b.w.f.next), .sl (evs b.w.f.l), .c (.int .u64 b.w.next), .c (.int .u64 b.w.tick), .sl (tms b.a.l), .sl (rks b.r), .sl (kys b.k), .sl (cts b.s)])], 6⟩) (fun j => t.l.length - j.1) ⟨0, by simp⟩ ?_ ?_
    · simp [go_sem]
    · rintro ⟨j, hj⟩
      by_cases hjl : j < t.l.length
      · have hbj : ((j : Int) < (t.l.length : Int)) = True := eq_true (by omega)
        have hbind := forged_bind ha ht hway hjl
        refine awp_sound GuardForged_T_ok.toS lv5 _ _ _ rfl ?_
        simp -implicitDefEqProofs only [cdA, go_sem, hbj, hbind, cdN, reduceIte, reduceCtorEq, Nat.reduceEqDiff, Nat.reduceAdd, Nat.reduceLeDiff, Nat.reduceSub, Nat.reduceMul, Nat.reduceLT, Nat.reduceShiftRight, Nat.reduceMod, Int.reduceLE, Int.reduceLT, Int.reduceToNat, List.cons.injEq, cdB]
        exact ⟨⟨j + 1, hjl⟩, by dsimp only; omega, i64_in _ (by omega), rfl, rfl⟩
      · have hje : j = t.l.length := by omega
        subst hje
        have hbj : ((t.l.length : Int) < (t.l.length : Int)) = False := eq_false (by omega)
        refine awp_sound GuardForged_T_ok.toS lv5 _ _ _ rfl ?_
        simp -implicitDefEqProofs only [cdA, go_sem, hbj, cdN, reduceIte, reduceCtorEq, Nat.reduceEqDiff, Nat.reduceAdd, Nat.reduceLeDiff, Nat.reduceSub, Nat.reduceMul, Nat.reduceLT, Nat.reduceShiftRight, Nat.reduceMod, Int.reduceLE, Int.reduceLT, Int.reduceToNat, List.cons.injEq, cdB]
        have hs : sameT ⟨t.root, t.l.take t.l.length, wayT b.a.l k t t.l.length⟩ t = true := decide_eq_true ⟨rfl, wayT_all hway, by rw [List.take_length]⟩
        exact ⟨fun _ _ _ => trivial, fun h => by rw [hs] at h; cases h⟩
@[go_sem] def GuardForged_p (b : Bk) (r : Rq) (t : Tk) (who : Nat) : Prop := (b.w.f.next ≤ 18446744073709551615)
def sp_GuardForged : List D → Option (Prop × D × Fr)
  | [.agg [.c (.sl z13), .c (.sl z14), .c (.sl z15), .c (.sl z16), .c (.int .u64 z18), .c (.sl z19), .c (.int .u64 z20), .c (.int .u64 z21), .c (.sl z23), .c (.sl z24), .c (.sl z25), .c (.sl z26)], .agg [.c (.int .u64 z28), .c (.int .i64 z29), .c (.int .u64 z30), .c (.int .u64 z32), .c (.sl z33), .c (.int .i64 z34), .c (.int .u64 z35), .c (.int .u64 z36), .c (.int .u64 z37), .c (.sl z38), .c (.sl z39)], .agg [.c (.int .u64 z41), .c (.sl z42), .c (.int .i64 z43)], .c (.int .u64 z44)] => some (z13 = chs (dchs z13) ∧ z14 = wts (dwts z14) ∧ z15 = ivs (divs z15) ∧ z16 = pys (dpys z16) ∧ z18 = (z18.toNat : Int) ∧ z19 = evs (devs z19) ∧ z20 = (z20.toNat : Int) ∧ z21 = (z21.toNat : Int) ∧ z23 = tms (dtms z23) ∧ z24 = rks (drks z24) ∧ z25 = kys (dkys z25) ∧ z26 = cts (dcts z26) ∧ z28 = (z28.toNat : Int) ∧ z30 = (z30.toNat : Int) ∧ z32 = (z32.toNat : Int) ∧ z33 = cvs (dcvs z33) ∧ z35 = (z35.toNat : Int) ∧ z36 = (z36.toNat : Int) ∧ z37 = (z37.toNat : Int) ∧ z38 = its (dits z38) ∧ z39 = cvs (dcvs z39) ∧ z41 = (z41.toNat : Int) ∧ z42 = cvs (dcvs z42) ∧ z44 = (z44.toNat : Int) ∧ GuardForged_p (⟨(⟨(dchs z13), (dwts z14), (divs z15), (dpys z16), (⟨z18.toNat, (devs z19)⟩ : Fd), z20.toNat, z21.toNat⟩ : Wl), (⟨(dtms z23)⟩ : Ar), (drks z24), (dkys z25), (dcts z26)⟩ : Bk) (⟨z28.toNat, z29, z30.toNat, (⟨z32.toNat, (dcvs z33), z34⟩ : Tk), z35.toNat, z36.toNat, z37.toNat, (dits z38), (dcvs z39)⟩ : Rq) (⟨z41.toNat, (dcvs z42), z43⟩ : Tk) z44.toNat, GuardForged_r (⟨(⟨(dchs z13), (dwts z14), (divs z15), (dpys z16), (⟨z18.toNat, (devs z19)⟩ : Fd), z20.toNat, z21.toNat⟩ : Wl), (⟨(dtms z23)⟩ : Ar), (drks z24), (dkys z25), (dcts z26)⟩ : Bk) (⟨z28.toNat, z29, z30.toNat, (⟨z32.toNat, (dcvs z33), z34⟩ : Tk), z35.toNat, z36.toNat, z37.toNat, (dits z38), (dcvs z39)⟩ : Rq) (⟨z41.toNat, (dcvs z42), z43⟩ : Tk) z44.toNat, [])
  | _ => none
attribute [go_sem] sp_GuardForged
end Dm
