import Derived.Test.YtceoichdaepegaaGreatP6
import Derived.StillTail
set_option linter.unusedSimpArgs false
set_option linter.unusedVariables false
set_option linter.unusedSectionVars false
namespace Dm
open Go Go.Proofs Go.IntWalk
@[go_sem] def wtclone_r (l : List Wt) : D := .sl (wts l)
@[go_sem] abbrev n_wtclone : FuncId := 205
@[go_sem] def wtclone_T : Tab := []
theorem wtclone_T_ok : TabOk Tryz.prog wtclone_T := TabOk.nil
set_option maxRecDepth 8000 in
set_option maxHeartbeats 1000000 in
theorem wtclone_ok (l : List Wt) (h : l.length ≤ 1000000) : PureFn Tryz.prog 205 [.sl (wts l)] (wtclone_r l) := by
  refine .of (ac205 wtclone_T_ok (Nat.le_of_ble_eq_true rfl) ?_)
  simp -implicitDefEqProofs only [cdA, go_sem, Go.Proofs.Tryz.f205, reduceIte, reduceCtorEq, Nat.reduceEqDiff, Nat.reduceAdd, Nat.reduceLeDiff, Nat.reduceSub, Nat.reduceMul, Nat.reduceLT, Nat.reduceShiftRight, Nat.reduceMod, Int.reduceLE, Int.reduceLT, Int.reduceToNat, cdB, List.cons.injEq, true_and, and_true]
  exact fun b hb => ⟨hb, fun _ => ⟨by omega, _, _, _, rfl⟩⟩
@[go_sem] def wtclone_p (l : List Wt) : Prop := (l.length ≤ 1000000)
def sp_wtclone : List D → Option (Prop × D × Fr)
  | [.c (.sl z309)] => some (z309 = wts (dwts z309) ∧ wtclone_p (dwts z309), wtclone_r (dwts z309), [])
  | _ => none
attribute [go_sem] sp_wtclone
theorem sp_wtclone_ok : ∀ rs p r fr, sp_wtclone rs = some (p, r, fr) → p → FnOk Tryz.prog 205 rs r fr := by
  intro rs p r fr h hp
  unfold sp_wtclone at h
  split at h <;> cases h
  obtain ⟨hc0, hp⟩ := hp
  rename_i z309
  obtain ⟨z309, rfl⟩ : ∃ m, z309 = wts m := ⟨_, hc0⟩
  simp only [dwts_wts]
  simp only [dwts_wts, wtclone_p] at hp
  exact wtclone_ok z309 hp
@[go_sem] def ivclone_r (l : List Iv) : D := .sl (ivs l)
@[go_sem] abbrev n_ivclone : FuncId := 172
@[go_sem] def ivclone_T : Tab := []
theorem ivclone_T_ok : TabOk Tryz.prog ivclone_T := TabOk.nil
set_option maxRecDepth 8000 in
set_option maxHeartbeats 1000000 in
theorem ivclone_ok (l : List Iv) (h : l.length ≤ 1000000) : PureFn Tryz.prog 172 [.sl (ivs l)] (ivclone_r l) := by
  refine .of (ac172 ivclone_T_ok (Nat.le_of_ble_eq_true rfl) ?_)
  simp -implicitDefEqProofs only [cdA, go_sem, Go.Proofs.Tryz.f172, reduceIte, reduceCtorEq, Nat.reduceEqDiff, Nat.reduceAdd, Nat.reduceLeDiff, Nat.reduceSub, Nat.reduceMul, Nat.reduceLT, Nat.reduceShiftRight, Nat.reduceMod, Int.reduceLE, Int.reduceLT, Int.reduceToNat, cdB, List.cons.injEq, true_and, and_true]
  exact fun b hb => ⟨hb, fun _ => ⟨by omega, _, _, _, rfl⟩⟩
@[go_sem] def ivclone_p (l : List Iv) : Prop := (l.length ≤ 1000000)
def sp_ivclone : List D → Option (Prop × D × Fr)
  | [.c (.sl z310)] => some (z310 = ivs (divs z310) ∧ ivclone_p (divs z310), ivclone_r (divs z310), [])
  | _ => none
attribute [go_sem] sp_ivclone
theorem sp_ivclone_ok : ∀ rs p r fr, sp_ivclone rs = some (p, r, fr) → p → FnOk Tryz.prog 172 rs r fr := by
  intro rs p r fr h hp
  unfold sp_ivclone at h
  split at h <;> cases h
  obtain ⟨hc0, hp⟩ := hp
  rename_i z310
  obtain ⟨z310, rfl⟩ : ∃ m, z310 = ivs m := ⟨_, hc0⟩
  simp only [divs_ivs]
  simp only [divs_ivs, ivclone_p] at hp
  exact ivclone_ok z310 hp
@[go_sem] def pyclone_r (l : List Py) : D := .sl (pys l)
@[go_sem] abbrev n_pyclone : FuncId := 132
@[go_sem] def pyclone_T : Tab := []
theorem pyclone_T_ok : TabOk Tryz.prog pyclone_T := TabOk.nil
set_option maxRecDepth 8000 in
set_option maxHeartbeats 1000000 in
theorem pyclone_ok (l : List Py) (h : l.length ≤ 1000000) : PureFn Tryz.prog 132 [.sl (pys l)] (pyclone_r l) := by
  refine .of (ac132 pyclone_T_ok (Nat.le_of_ble_eq_true rfl) ?_)
  simp -implicitDefEqProofs only [cdA, go_sem, Go.Proofs.Tryz.f132, reduceIte, reduceCtorEq, Nat.reduceEqDiff, Nat.reduceAdd, Nat.reduceLeDiff, Nat.reduceSub, Nat.reduceMul, Nat.reduceLT, Nat.reduceShiftRight, Nat.reduceMod, Int.reduceLE, Int.reduceLT, Int.reduceToNat, cdB, List.cons.injEq, true_and, and_true]
  exact fun b hb => ⟨hb, fun _ => ⟨by omega, _, _, _, rfl⟩⟩
@[go_sem] def pyclone_p (l : List Py) : Prop := (l.length ≤ 1000000)
def sp_pyclone : List D → Option (Prop × D × Fr)
  | [.c (.sl z311)] => some (z311 = pys (dpys z311) ∧ pyclone_p (dpys z311), pyclone_r (dpys z311), [])
  | _ => none
attribute [go_sem] sp_pyclone
theorem sp_pyclone_ok : ∀ rs p r fr, sp_pyclone rs = some (p, r, fr) → p → FnOk Tryz.prog 132 rs r fr := by
  intro rs p r fr h hp
  unfold sp_pyclone at h
  split at h <;> cases h
  obtain ⟨hc0, hp⟩ := hp
  rename_i z311
  obtain ⟨z311, rfl⟩ : ∃ m, z311 = pys m := ⟨_, hc0⟩
  simp only [dpys_pys]
  simp only [dpys_pys, pyclone_p] at hp
  exact pyclone_ok z311 hp
@[go_sem] def evclonep_r (l : List Ev) : D := .sl (evs l)
@[go_sem] abbrev n_evclonep : FuncId := 206
@[go_sem] def evclonep_T : Tab := []
theorem evclonep_T_ok : TabOk Tryz.prog evclonep_T := TabOk.nil
set_option maxRecDepth 8000 in
set_option maxHeartbeats 1000000 in
theorem evclonep_ok (l : List Ev) (h : l.length ≤ 1000000) : PureFn Tryz.prog 206 [.sl (evs l)] (evclonep_r l) := by
  refine .of (ac206 evclonep_T_ok (Nat.le_of_ble_eq_true rfl) ?_)
  simp -implicitDefEqProofs only [cdA, go_sem, Go.Proofs.Tryz.f206, reduceIte, reduceCtorEq, Nat.reduceEqDiff, Nat.reduceAdd, Nat.reduceLeDiff, Nat.reduceSub, Nat.reduceMul, Nat.reduceLT, Nat.reduceShiftRight, Nat.reduceMod, Int.reduceLE, Int.reduceLT, Int.reduceToNat, cdB, List.cons.injEq, true_and, and_true]
  exact fun b hb => ⟨hb, fun _ => ⟨by omega, _, _, _, rfl⟩⟩
@[go_sem] def evclonep_p (l : List Ev) : Prop := (l.length ≤ 1000000)
def sp_evclonep : List D → Option (Prop × D × Fr)
  | [.c (.sl z312)] => some (z312 = evs (devs z312) ∧ evclonep_p (devs z312), evclonep_r (devs z312), [])
  | _ => none
attribute [go_sem] sp_evclonep
theorem sp_evclonep_ok : ∀ rs p r fr, sp_evclonep rs = some (p, r, fr) → p → FnOk Tryz.prog 206 rs r fr := by
  intro rs p r fr h hp
  unfold sp_evclonep at h
  split at h <;> cases h
  obtain ⟨hc0, hp⟩ := hp
  rename_i z312
  obtain ⟨z312, rfl⟩ : ∃ m, z312 = evs m := ⟨_, hc0⟩
  simp only [devs_evs]
  simp only [devs_evs, evclonep_p] at hp
  exact evclonep_ok z312 hp
def smallW (w : Wl) : Prop := w.c.length ≤ 1000000 ∧ (∀ c ∈ w.c, c.holds.length ≤ 1000000) ∧ w.w.length ≤ 1000000 ∧ w.i.length ≤ 1000000 ∧ w.p.length ≤ 1000000 ∧ w.f.l.length ≤ 1000000
@[go_sem] def wown_r (w : Wl) : D := .agg [.sl (chs w.c), .sl (wts w.w), .sl (ivs w.i), .sl (pys w.p), .int .u64 w.f.next, .sl (evs w.f.l), .int .u64 w.next, .int .u64 w.tick]
@[go_sem] abbrev n_wown : FuncId := 119
@[go_sem] def wown_T : Tab := [(204, sp_cclone), (153, sp_hclone), (205, sp_wtclone), (172, sp_ivclone), (132, sp_pyclone), (206, sp_evclonep)]
theorem wown_T_ok : TabOk Tryz.prog wown_T := (TabOk.cons sp_cclone_ok (TabOk.cons sp_hclone_ok (TabOk.cons sp_wtclone_ok (TabOk.cons sp_ivclone_ok (TabOk.cons sp_pyclone_ok (TabOk.cons sp_evclonep_ok TabOk.nil))))))
set_option maxRecDepth 8000 in
set_option maxHeartbeats 1000000 in
theorem wown_ok (w : Wl) (h : smallW w) : PureFn Tryz.prog 119 [.agg [.sl (chs w.c), .sl (wts w.w), .sl (ivs w.i), .sl (pys w.p), .c (.int .u64 (w.f.next : Int)), .sl (evs w.f.l), .c (.int .u64 (w.next : Int)), .c (.int .u64 (w.tick : Int))]] (wown_r w) := by
  refine .of (ac119 wown_T_ok (Nat.le_of_ble_eq_true rfl) ?_)
  simp -implicitDefEqProofs only [cdA, go_sem, Go.Proofs.Tryz.f119, reduceIte, reduceCtorEq, Nat.reduceEqDiff, Nat.reduceAdd, Nat.reduceLeDiff, Nat.reduceSub, Nat.reduceMul, Nat.reduceLT, Nat.reduceShiftRight, Nat.reduceMod, Int.reduceLE, Int.reduceLT, Int.reduceToNat, cdB, List.cons.injEq, true_and, and_true]
  refine ADraw.run us119_1 wown_T_ok follows_mixed (by kernel_rfl) (by kernel_rfl) ?_
  simp -implicitDefEqProofs only [cdA, go_sem, reduceIte, reduceCtorEq, Nat.reduceEqDiff, Nat.reduceAdd, Nat.reduceLeDiff, Nat.reduceSub, Nat.reduceMul, Nat.reduceLT, Nat.reduceShiftRight, Nat.reduceMod, Int.reduceLE, Int.reduceLT, Int.reduceToNat, cdB, List.cons.injEq, true_and, and_true]
  obtain ⟨h1, h2, h3, h4, h5, h6⟩ := h
  refine ⟨h1, h3, h4, h5, h6, fun _ => SWp.loop (ι := { i : Nat // i ≤ w.c.length }) (fun i => ⟨[(1, .ref 0 0), (2, .ref 1 0), (28, .vec 2 w.c.length), (29, .int .i64 w.c.length), (30, .int .i64 i.1)],
    [(2, .vec true 7 50 (chs w.c)), (0, .box [.vec 2 w.c.length, .sl (wts w.w), .sl (ivs w.i), .sl (pys w.p), .c (.int .u64 w.f.next), .sl (evs w.f.l), .c (.int .u64 w.next), .c (.int .u64 w.tick)]),
      (1, .box [.nil, .nil, .nil, .nil, .c (.int .u64 0), .nil, .c (.int .u64 0), .c (.int .u64 0)])], 3⟩) (fun i => w.c.length - i.1) ⟨0, by omega⟩ ?_ ?_⟩
  · simp [go_sem]
  · rintro ⟨i, hi⟩
    refine awp_sound wown_T_ok.toS lv119 _ _ _ rfl ?_
    simp -implicitDefEqProofs only [cdA, go_sem, reduceIte, reduceCtorEq, Nat.reduceEqDiff, Nat.reduceAdd, Nat.reduceLeDiff, Nat.reduceSub, Nat.reduceMul, Nat.reduceLT, Nat.reduceShiftRight, Nat.reduceMod, Int.reduceLE, Int.reduceLT, Int.reduceToNat, cdB, List.cons.injEq, true_and, and_true]
    refine ⟨fun h7 => ⟨by omega, by omega, ?_⟩, fun _ => ⟨_, _, _, rfl⟩⟩
    have hi' : i < w.c.length := by omega
    have hself : w.c.set i (w.c.getD i default) = w.c := by
      rw [getD_lt hi']; exact List.set_getElem_self hi'
    have hhl := h2 _ (mem_getD.2 ⟨i, hi', rfl⟩)
    refine ADraw.run us119_5 wown_T_ok follows_mixed (by kernel_rfl) (by kernel_rfl) ?_
    simp -implicitDefEqProofs only [cdA, go_sem, reduceIte, reduceCtorEq, Nat.reduceEqDiff, Nat.reduceAdd, Nat.reduceLeDiff, Nat.reduceSub, Nat.reduceMul, Nat.reduceLT, Nat.reduceShiftRight, Nat.reduceMod, Int.reduceLE, Int.reduceLT, Int.reduceToNat, cdB, List.cons.injEq, true_and, and_true]
    exact ⟨hhl, by omega, hi', ⟨i + 1, hi'⟩, by dsimp only; omega, i64_in _ (by omega), by rw [hself]⟩
@[go_sem] def wown_p (w : Wl) : Prop := (smallW w)
def sp_wown : List D → Option (Prop × D × Fr)
  | [.agg [.c (.sl z314), .c (.sl z315), .c (.sl z316), .c (.sl z317), .c (.int .u64 z319), .c (.sl z320), .c (.int .u64 z321), .c (.int .u64 z322)]] => some (z314 = chs (dchs z314) ∧ z315 = wts (dwts z315) ∧ z316 = ivs (divs z316) ∧ z317 = pys (dpys z317) ∧ z319 = (z319.toNat : Int) ∧ z320 = evs (devs z320) ∧ z321 = (z321.toNat : Int) ∧ z322 = (z322.toNat : Int) ∧ wown_p (⟨(dchs z314), (dwts z315), (divs z316), (dpys z317), (⟨z319.toNat, (devs z320)⟩ : Fd), z321.toNat, z322.toNat⟩ : Wl), wown_r (⟨(dchs z314), (dwts z315), (divs z316), (dpys z317), (⟨z319.toNat, (devs z320)⟩ : Fd), z321.toNat, z322.toNat⟩ : Wl), [])
  | _ => none
attribute [go_sem] sp_wown
theorem sp_wown_ok : ∀ rs p r fr, sp_wown rs = some (p, r, fr) → p → FnOk Tryz.prog 119 rs r fr := by
  intro rs p r fr h hp
  unfold sp_wown at h
  split at h <;> cases h
  obtain ⟨hc0, hc1, hc2, hc3, hc4, hc5, hc6, hc7, hp⟩ := hp
  rename_i z314 z315 z316 z317 z319 z320 z321 z322
  obtain ⟨z314, rfl⟩ : ∃ m, z314 = chs m := ⟨_, hc0⟩
  obtain ⟨z315, rfl⟩ : ∃ m, z315 = wts m := ⟨_, hc1⟩
  obtain ⟨z316, rfl⟩ : ∃ m, z316 = ivs m := ⟨_, hc2⟩
  obtain ⟨z317, rfl⟩ : ∃ m, z317 = pys m := ⟨_, hc3⟩
  obtain ⟨z319, rfl⟩ : ∃ m : Nat, z319 = m := ⟨_, hc4⟩
  obtain ⟨z320, rfl⟩ : ∃ m, z320 = evs m := ⟨_, hc5⟩
  obtain ⟨z321, rfl⟩ : ∃ m : Nat, z321 = m := ⟨_, hc6⟩
  obtain ⟨z322, rfl⟩ : ∃ m : Nat, z322 = m := ⟨_, hc7⟩
  simp only [Int.toNat_natCast, dchs_chs, devs_evs, divs_ivs, dpys_pys, dwts_wts]
  simp only [Int.toNat_natCast, dchs_chs, devs_evs, divs_ivs, dpys_pys, dwts_wts, wown_p] at hp
  exact wown_ok ⟨z314, z315, z316, z317, ⟨z319, z320⟩, z321, z322⟩ hp
end Dm
namespace Dm
open Go Go.Proofs Go.IntWalk
@[go_sem] def hins_T2 : Tab := [ovk 252]
theorem hins_T2_ok : TabOk Tryz.prog hins_T2 := .cons (ov_ok 252) .nil
@[go_sem] def hins_T3 : Tab := [fg 12]
theorem hins_T3_ok : TabOk Tryz.prog hins_T3 := .cons (fg_ok 12) .nil
theorem hins_wide (l : List Hd) : Wide 2 (hds l) := of_eq_true (hds_wide l)
set_option maxRecDepth 8000 in
set_option maxHeartbeats 1000000 in
theorem hins_ok (l : List Hd) (x : Hd) (i : Nat) (hi : i ≤ l.length) (hl : l.length ≤ 1000000) :
    ACall Tryz.prog 219 [.vec 0 l.length, .int .i64 i, .vec 1 1] [(1, .vec true 2 62 (hds [x])), (0, .vec true 2 62 (hds l))] 2 fun d os _ => Grown 2 62 (hds (Srt.ins l i x)) d os := by
  have hil : (Srt.ins l i x).length = l.length + 1 := Srt.ins_len
  have hq : ∀ j os, lk j os = some (.vec true 2 62 (hds (Srt.ins l i x))) → Grown 2 62 (hds (Srt.ins l i x)) (.vec j (l.length + 1)) os := fun j os h => ⟨j, by rw [hds_length, hil], h⟩
  by_cases hin : i = l.length
  · refine ac219 hins_T3_ok (Nat.le_of_ble_eq_true rfl) ?_
    have e4 : ((1 : Int) = 0) = False := eq_false (by decide)
    subst hin
    simp -implicitDefEqProofs only [cdA, go_sem, Go.Proofs.Tryz.f219, e4, decide_true, reduceIte, reduceCtorEq, Nat.reduceEqDiff, Nat.reduceAdd, Nat.reduceLeDiff, Nat.reduceSub, Nat.reduceMul, Nat.reduceLT, Nat.reduceShiftRight, Nat.reduceMod, Int.reduceLE, Int.reduceLT, Int.reduceToNat, cdB, List.cons.injEq, true_and, and_true]
    refine ⟨Int.le_refl _, fun h => h.elim, fun _ => ⟨by omega, hq _ _ ?_⟩⟩
    rw [lk_cons, if_neg (by decide), lk_hd]
    simp [Srt.ins]
  · have hlt : i < l.length := by omega
    refine ACall.opn 0 rfl (by rw [hds_length]; omega) fun c hc hcm => ?_
    refine ACall.sld ?_
    rw [hds_length] at hc
    refine ac219 hins_T2_ok (Nat.le_of_ble_eq_true rfl) ?_
    have e1 : IntKind.i64.wrap ((l.length : Int) + 1) = ((l.length + 1 : Nat) : Int) := by rw [i64_in _ (by omega)]; omega
    have e2 : IntKind.i64.wrap ((i : Int) + 1) = ((i + 1 : Nat) : Int) := by rw [i64_in _ (by omega)]; omega
    have e3 : ((i : Int) = (l.length : Int)) = False := eq_false (by omega)
    have e4 : ((1 : Int) = 0) = False := eq_false (by decide)
    have e5 : IntKind.i64.wrap ((l.length : Int) + 1 - (i : Int)) = ((l.length + 1 - i : Nat) : Int) := by rw [i64_in _ (by omega)]; omega
    have e6 : ((l.length : Int) + 1).toNat = l.length + 1 := by omega
    have e7 : ((i : Int) + 1).toNat = i + 1 := by omega
    have e8 : i + (l.length + 1 - i) = l.length + 1 := by omega
    simp -implicitDefEqProofs only [cdA, go_sem, Go.Proofs.Tryz.f219, e3, e4, e1, e2, e5, e6, e7, e8, decide_false, reduceIte, reduceCtorEq, Nat.reduceEqDiff, Nat.reduceAdd, Nat.reduceLeDiff, Nat.reduceSub, Nat.reduceMul, Nat.reduceLT, Nat.reduceShiftRight, Nat.reduceMod, Int.reduceLE, Int.reduceLT, Int.reduceToNat, cdB, List.cons.injEq, true_and, and_true]
    refine ⟨by omega, fun _ => ⟨fun h1 => ⟨by omega, by omega, fun c1 h2 h3 => ⟨by omega, ?_⟩⟩, fun h1 => ⟨by omega, by omega, ?_, ?_⟩⟩⟩
    · refine ADraw.run us219_11 hins_T2_ok follows_mixed (by kernel_rfl) (by kernel_rfl) ?_
      simp -implicitDefEqProofs only [cdA, go_sem, e1, e2, e5, e6, e7, e8, reduceIte, reduceCtorEq, Nat.reduceEqDiff, Nat.reduceAdd, Nat.reduceLeDiff, Nat.reduceSub, Nat.reduceMul, Nat.reduceLT, Nat.reduceShiftRight, Nat.reduceMod, Int.reduceLE, Int.reduceLT, Int.reduceToNat, cdB, List.cons.injEq, true_and, and_true]
      refine ⟨by omega, by omega, fun y hy => fit_wide (hins_wide l) y (List.mem_of_mem_take (List.mem_of_mem_drop hy)), ?_⟩
      have := ins_new (sz := 2) (c := c) (c1 := c1) (i := i) (E := hds l) (x := x.enc) (z := [C.int .u64 0, C.int .u64 0]) (by rw [hds_length]; exact hlt) (by rw [hds_length]; exact hc) (by rw [hds_length]; exact h2)
      rw [hds_length] at this
      refine hq _ _ ?_
      rw [lk_hd]
      congr 2
      rw [show hds (List.take (l.length + 1 - i) [x]) = List.take (l.length + 1 - i) [x.enc] by simp [hds], this]
      simp [hds, Srt.ins]
    · exact ⟨_, 48, 4, _, rfl, rfl, rfl, rfl, by kernel_rfl, elOf_48⟩
    · refine ADraw.run us219_15 hins_T2_ok follows_mixed (by kernel_rfl) (by kernel_rfl) ?_
      simp -implicitDefEqProofs only [cdA, go_sem, e1, e2, e5, e6, e7, e8, reduceIte, reduceCtorEq, Nat.reduceEqDiff, Nat.reduceAdd, Nat.reduceLeDiff, Nat.reduceSub, Nat.reduceMul, Nat.reduceLT, Nat.reduceShiftRight, Nat.reduceMod, Int.reduceLE, Int.reduceLT, Int.reduceToNat, cdB, List.cons.injEq, true_and, and_true]
      refine ⟨by omega, by omega, fun y hy => fit_wide (hins_wide l) y (List.mem_of_mem_take (List.mem_of_mem_drop hy)), by omega, ?_⟩
      have := ins_old (sz := 2) (c := c) (i := i) (E := hds l) (x := x.enc) (by rw [hds_length]; exact hlt) (by rw [hds_length]; omega)
      rw [hds_length] at this
      refine hq _ _ ?_
      rw [lk_hd]
      congr 2
      rw [show hds (List.take (l.length + 1 - i) [x]) = List.take (l.length + 1 - i) [x.enc] by simp [hds], this]
      simp [hds, Srt.ins]

@[go_sem] def hclonef_r (l : List Hd) : D := .vec 0 l.length
@[go_sem] def hclonef_fr (l : List Hd) : Fr := [(2, 62, true, hds l)]
@[go_sem] abbrev n_hclonef : FuncId := 153
@[go_sem] def hclonef_T : Tab := []
theorem hclonef_T_ok : TabOk Tryz.prog hclonef_T := TabOk.nil
set_option maxRecDepth 8000 in
set_option maxHeartbeats 1000000 in
theorem hclonef_ok (l : List Hd) (hl : l.length ≤ 1000000) : FreshFn Tryz.prog 153 [.sl (hds l)] (hclonef_r l) (hclonef_fr l) := by
  refine .of (ac153 hclonef_T_ok (Nat.le_of_ble_eq_true rfl) ?_)
  simp -implicitDefEqProofs only [cdA, go_sem, Go.Proofs.Tryz.f153, reduceIte, reduceCtorEq, Nat.reduceEqDiff, Nat.reduceAdd, Nat.reduceLeDiff, Nat.reduceSub, Nat.reduceMul, Nat.reduceLT, Nat.reduceShiftRight, Nat.reduceMod, Int.reduceLE, Int.reduceLT, Int.reduceToNat, cdB, List.cons.injEq, true_and, and_true]
  refine fun b hb => ⟨fun h => ?_, fun h => ?_⟩
  · exact ⟨[none], by simp [go_sem, hb h], by cases l <;> simp_all [go_sem, hds]⟩
  · exact ⟨by omega, [some 0], by simp [go_sem]⟩
@[go_sem] def hclonef_p (l : List Hd) : Prop := (l.length ≤ 1000000)
def sp_hclonef : List D → Option (Prop × D × Fr)
  | [.c (.sl z186)] => some (z186 = hds (dhds z186) ∧ hclonef_p (dhds z186), hclonef_r (dhds z186), hclonef_fr (dhds z186))
  | _ => none
attribute [go_sem] sp_hclonef
theorem sp_hclonef_ok : ∀ rs p r fr, sp_hclonef rs = some (p, r, fr) → p → FnOk Tryz.prog 153 rs r fr := by
  intro rs p r fr h hp
  unfold sp_hclonef at h
  split at h <;> cases h
  obtain ⟨hc0, hp⟩ := hp
  rename_i z186
  obtain ⟨z186, rfl⟩ : ∃ m, z186 = hds m := ⟨_, hc0⟩
  simp only [dhds_hds]
  simp only [dhds_hds, hclonef_p] at hp
  exact (show FnOk _ _ _ _ _ from And.intro rfl (hclonef_ok z186 hp))
def bsH (l : List Hd) (id : Nat) (i j : Nat) : Nat :=
  if h : i < j then (if (l.getD ((i + j) / 2) default).id < id then bsH l id ((i + j) / 2 + 1) j else bsH l id i ((i + j) / 2)) else i
termination_by j - i
decreasing_by all_goals omega
theorem bsH_pos {l : List Hd} {id : Nat} (hu : Srt.Up Hd.key ltN l) : ∀ (m i j : Nat), j - i ≤ m → i ≤ j → j ≤ l.length → (∀ k, k < i → (l.getD k default).id < id) → (∀ k, j ≤ k → k < l.length → ¬ (l.getD k default).id < id) → bsH l id i j = Srt.pos Hd.key ltN l id := by
  intro m
  induction m with
  | zero =>
    intro i j hm hij hj hlo hup
    rw [bsH, dif_neg (by omega)]
    exact (Srt.pos_eq (by omega) hlo (fun h => hup i (by omega) h)).symm
  | succ m ih =>
    intro i j hm hij hj hlo hup
    rw [bsH]
    split
    · rename_i hlt
      have hup2 := Srt.up_get.1 hu
      split
      · rename_i h5
        refine ih _ _ (by omega) (by omega) hj (fun k hk => ?_) hup
        by_cases hkm : k = (i + j) / 2
        · rw [hkm]; exact h5
        · have := hup2 k ((i + j) / 2) (by omega) (by omega)
          simp only [ltN, Hd.key] at this; omega
      · rename_i h5
        refine ih _ _ (by omega) (by omega) (by omega) hlo (fun k hk1 hk2 => ?_)
        by_cases hkm : k = (i + j) / 2
        · rw [hkm]; exact h5
        · have := hup2 ((i + j) / 2) k (by omega) (by omega)
          simp only [ltN, Hd.key] at this; omega
    · exact (Srt.pos_eq (by omega) hlo (fun h => hup i (by omega) h)).symm
def holdE (c : Ch) (id n : Nat) : Int :=
  if ¬ okCh c ∨ n = 0 ∨ ¬ n ≤ MM then 1 else if c.op = false then 14 else if Srt.thr Hd.key ltN c.holds id = true then 6 else if c.holds.length = 64 then 7 else if c.loc < c.res ∨ c.loc - c.res < n then 9 else if c.most - held c.holds < n then 8 else 0
def holdC (c : Ch) (id n : Nat) : Ch × Int := if holdE c id n = 0 then (⟨c.id, c.loc - n, c.rem, c.res, c.most, Srt.ins c.holds (Srt.pos Hd.key ltN c.holds id) ⟨id, n⟩, c.op⟩, 0) else (default, holdE c id n)
@[go_sem] def chold_r (c : Ch) (id : Nat) (n : Nat) : D := .tup [.agg [.int .u64 (holdC c id n).1.id, .int .u64 (holdC c id n).1.loc, .int .u64 (holdC c id n).1.rem, .int .u64 (holdC c id n).1.res, .int .u64 (holdC c id n).1.most, .sl (hds (holdC c id n).1.holds), .bool (holdC c id n).1.op], .int .i64 (holdC c id n).2]
@[go_sem] abbrev n_chold : FuncId := 139
@[go_sem] def chold_T : Tab := [(203, sp_csums), (49, sp_moncheck), (153, sp_hclonef), (218, sp_horder)]
theorem chold_T_ok : TabOk Tryz.prog chold_T := (TabOk.cons sp_csums_ok (TabOk.cons sp_moncheck_ok (TabOk.cons sp_hclonef_ok (TabOk.cons sp_horder_ok TabOk.nil))))
set_option maxRecDepth 8000 in
set_option maxHeartbeats 1000000 in
theorem chold_ok (c : Ch) (id : Nat) (n : Nat)  : PureFn Tryz.prog 139 [.agg [.c (.int .u64 (c.id : Int)), .c (.int .u64 (c.loc : Int)), .c (.int .u64 (c.rem : Int)), .c (.int .u64 (c.res : Int)), .c (.int .u64 (c.most : Int)), .sl (hds c.holds), .c (.bool c.op)], .c (.int .u64 (id : Int)), .c (.int .u64 (n : Int))] (chold_r c id n) := by
  refine .of (ac139 chold_T_ok (Nat.le_of_ble_eq_true rfl) ?_)
  simp -implicitDefEqProofs only [cdA, go_sem, Go.Proofs.Tryz.f139, reduceIte, reduceCtorEq, Nat.reduceEqDiff, Nat.reduceAdd, Nat.reduceLeDiff, Nat.reduceSub, Nat.reduceMul, Nat.reduceLT, Nat.reduceShiftRight, Nat.reduceMod, Int.reduceLE, Int.reduceLT, Int.reduceToNat, cdB, List.cons.injEq, true_and, and_true]
  refine ac217 chold_T_ok (Nat.le_of_ble_eq_true rfl) ?_
  simp -implicitDefEqProofs only [cdA, go_sem, Go.Proofs.Tryz.f217, reduceIte, reduceCtorEq, Nat.reduceEqDiff, Nat.reduceAdd, Nat.reduceLeDiff, Nat.reduceSub, Nat.reduceMul, Nat.reduceLT, Nat.reduceShiftRight, Nat.reduceMod, Int.reduceLE, Int.reduceLT, Int.reduceToNat, cdB, List.cons.injEq, true_and, and_true]
  refine fun _ => SWp.loop (ι := { x : Nat × Nat // x.1 ≤ x.2 ∧ x.2 ≤ c.holds.length ∧ bsH c.holds id x.1 x.2 = bsH c.holds id 0 c.holds.length }) (fun x => ⟨[(0, .sl (hds c.holds)), (1, .int .u64 id), (2, .fn (.func 218) [] []), (8, .int .i64 c.holds.length), (9, .int .i64 x.1.1), (10, .int .i64 x.1.2)], [(0, .box [.int .u64 c.id, .int .u64 c.loc, .int .u64 c.rem, .int .u64 c.res, .int .u64 c.most, .sl (hds c.holds), .bool c.op]), (1, .box [.int .u64 0, .int .u64 0, .int .u64 0, .int .u64 0, .int .u64 0, .nil, .bool false])], 2⟩) (fun x => x.1.2 - x.1.1) ⟨(0, c.holds.length), by simp⟩ ?_ ?_
  · simp [go_sem]
  · rintro ⟨⟨i, j⟩, hij, hj, hb⟩
    dsimp only at hij hj hb
    refine awp_sound chold_T_ok.toS lv217 _ _ _ rfl ?_
    simp -implicitDefEqProofs only [cdA, go_sem, reduceIte, reduceCtorEq, Nat.reduceEqDiff, Nat.reduceAdd, Nat.reduceLeDiff, Nat.reduceSub, Nat.reduceMul, Nat.reduceLT, Nat.reduceShiftRight, Nat.reduceMod, Int.reduceLE, Int.reduceLT, Int.reduceToNat, cdB, List.cons.injEq, true_and, and_true]
    rw [mid_eq hij hj ‹_›]
    have hbad : ∀ k, holdE c id n = k → ¬ k = 0 → (0 = ((holdC c id n).1.id : Int) ∧ 0 = ((holdC c id n).1.loc : Int) ∧ 0 = ((holdC c id n).1.rem : Int) ∧ 0 = ((holdC c id n).1.res : Int) ∧ 0 = ((holdC c id n).1.most : Int) ∧ hds (holdC c id n).1.holds = [] ∧ false = (holdC c id n).1.op) ∧ k = (holdC c id n).2 := fun k hk h0 => by
      have : holdC c id n = (default, k) := by rw [holdC, if_neg (by rw [hk]; exact h0), hk]
      rw [this]; exact ⟨⟨rfl, rfl, rfl, rfl, rfl, rfl, rfl⟩, rfl⟩
    refine ⟨fun h4 => ?_, fun h4 => ?_⟩
    · have hm : (i + j) / 2 < c.holds.length := by omega
      rw [bsH, dif_pos (by omega)] at hb
      rw [cmpS_neg, Int.toNat_natCast]
      refine ⟨⟨by omega, by omega⟩, fun h5 => ?_, fun h5 => ?_⟩
      · rw [if_pos (by omega)] at hb
        exact ⟨⟨((i + j) / 2 + 1, j), by dsimp only; omega, hj, hb⟩, by dsimp only; omega, i64_in _ (by omega), rfl⟩
      · rw [if_neg (by omega)] at hb
        exact ⟨⟨(i, (i + j) / 2), by dsimp only; omega, by dsimp only; omega, hb⟩, by dsimp only; omega, rfl, rfl⟩
    · rw [bsH, dif_neg (by omega)] at hb
      have hok : (sumsC c).2.2 = 0 ↔ okCh c := sumsC_0
      have hpos : okCh c → Srt.pos Hd.key ltN c.holds id = i := fun h => by
        rw [hb]
        exact (bsH_pos ((Srt.chn_up (lt := ltN) Srt.totNat).1 h.2.2.2.2.2.1) _ 0 c.holds.length (Nat.le_refl _) (by omega) (Nat.le_refl _) (fun k hk => absurd hk (by omega)) (fun k h1 h2 => by omega)).symm
      rw [hok]
      have hthr : okCh c → Srt.thr Hd.key ltN c.holds id = decide (i < c.holds.length ∧ (c.holds.getD i default).id = id) := fun h => by rw [Srt.thr, hpos h]; rfl
      have hmon : monS [n] = 0 ↔ n ≤ MM := mon1_0
      have e1 : ∀ h : okCh c, (sumsC c).1 = held c.holds := fun h => by rw [sumsC, if_pos h]
      refine ⟨fun h6 => ⟨h6, fun ho => ⟨fun hn => ⟨fun hm => ⟨fun hop => ⟨fun ht => hbad 6 ?_ (by decide), fun ht _ => ⟨fun h64 => hbad 7 ?_ (by decide), fun h64 => ⟨fun hl => ⟨fun hx => hbad 9 ?_ (by decide), fun hx => ⟨fun hy => hbad 8 ?_ (by decide), fun hy => ⟨by have := ho.2.2.1; omega, ?_⟩⟩⟩, fun hl => hbad 9 ?_ (by decide)⟩⟩⟩, fun hop => hbad 14 ?_ (by decide)⟩, fun hm => hbad 1 ?_ (by decide)⟩, fun hn => hbad 1 ?_ (by decide)⟩, fun ho => hbad 1 ?_ (by decide)⟩,
        fun h6 => ⟨fun ho => ⟨fun hn => ⟨fun hm => ⟨fun hop _ => ⟨fun h64 => hbad 7 ?_ (by decide), fun h64 => ⟨fun hl => ⟨fun hx => hbad 9 ?_ (by decide), fun hx => ⟨fun hy => hbad 8 ?_ (by decide), fun hy => ⟨by have := ho.2.2.1; omega, ?_⟩⟩⟩, fun hl => hbad 9 ?_ (by decide)⟩⟩, fun hop => hbad 14 ?_ (by decide)⟩, fun hm => hbad 1 ?_ (by decide)⟩, fun hn => hbad 1 ?_ (by decide)⟩, fun ho => hbad 1 ?_ (by decide)⟩⟩
      all_goals first | (unfold holdE; rw [if_pos (.inl ho)]; done) | skip
      all_goals first | (unfold holdE; rw [if_pos (.inr (.inl (by omega)))]; done) | skip
      all_goals first | (unfold holdE; rw [if_pos (.inr (.inr fun h => hm (hmon.2 h)))]; done) | skip
      all_goals
        have hA : ¬ (¬ okCh c ∨ n = 0 ∨ ¬ n ≤ MM) := by
          rintro (h | h | h)
          · exact h ho
          · exact hn (by omega)
          · exact h (hmon.1 hm)
        have q4 : held c.holds ≤ c.most := ho.2.2.2.2.2.2.1
        have q2 : c.most ≤ MM := ho.2.1
        have q3 : c.loc ≤ MM := ho.2.2.2.2.2.2.2.1
        have e2 := e1 ho
        unfold MM at q2 q3
      all_goals first | (unfold holdE; rw [if_neg hA, if_pos (by simpa using hop)]; done) | skip
      all_goals have hop' : ¬ c.op = false := by rw [hop]; decide
      all_goals first
        | (unfold holdE; rw [if_neg hA, if_neg hop', if_pos (by rw [hthr ho]; exact decide_eq_true ⟨by omega, by have := cmpS_0.1 ht; omega⟩)]; done)
        | skip
      all_goals
        have ht' : ¬ Srt.thr Hd.key ltN c.holds id = true := by
          rw [hthr ho, decide_eq_true_eq]
          rintro ⟨h1, h2⟩
          first | exact ht (cmpS_0.2 (by omega)) | omega
      all_goals first
        | (unfold holdE; rw [if_neg hA, if_neg hop', if_neg ht', if_pos (by omega)]; done)
        | skip
      all_goals have h64' : ¬ c.holds.length = 64 := by omega
      all_goals first
        | (unfold holdE; rw [if_neg hA, if_neg hop', if_neg ht', if_neg h64', if_pos (.inl (by omega))]; done)
        | (rw [u64_in ((c.loc : Int) - _) (by omega)] at hx; unfold holdE; rw [if_neg hA, if_neg hop', if_neg ht', if_neg h64', if_pos (by omega)]; done)
        | skip
      all_goals
        rw [u64_in ((c.loc : Int) - _) (by omega)] at hx
        have h9' : ¬ (c.loc < c.res ∨ c.loc - c.res < n) := by omega
        rw [e2, u64_in ((c.most : Int) - _) (by omega)] at hy
      all_goals first
        | (unfold holdE; rw [if_neg hA, if_neg hop', if_neg ht', if_neg h64', if_neg h9', if_pos (by omega)]; done)
        | skip
      all_goals
        have h0 : holdE c id n = 0 := by unfold holdE; rw [if_neg hA, if_neg hop', if_neg ht', if_neg h64', if_neg h9', if_neg (by omega)]
        have h20 := ho.2.2.1
        refine ACall.grow (mid := [.int .i64 _]) (hins_ok c.holds ⟨id, n⟩ i (by omega) (by omega)) rfl rfl (by decide) (by simp [Srt.ins_len]) (fun d hd g g' w v hv => ?_) ?_
      all_goals first
        | (simp at hd; subst hd
           cases hv with
           | c _ _ h => cases h; exact .c _ _ (.int _ _))
        | skip
      all_goals
        simp -implicitDefEqProofs only [cdA, go_sem, reduceIte, reduceCtorEq, Nat.reduceEqDiff, Nat.reduceAdd, Nat.reduceLeDiff, Nat.reduceSub, Nat.reduceMul, Nat.reduceLT, Nat.reduceShiftRight, Nat.reduceMod, Int.reduceLE, Int.reduceLT, Int.reduceToNat, cdB, List.cons.injEq, true_and, and_true]
        rw [holdC, if_pos h0, hpos ho, u64_in ((c.loc : Int) - _) (by omega)]
        exact ⟨⟨rfl, by dsimp only; omega, rfl, rfl, rfl, ⟨rfl, _, _, _, rfl⟩, rfl⟩, rfl⟩
def sp_chold : List D → Option (Prop × D × Fr)
  | [.agg [.c (.int .u64 z188), .c (.int .u64 z189), .c (.int .u64 z190), .c (.int .u64 z191), .c (.int .u64 z192), .c (.sl z193), .c (.bool z194)], .c (.int .u64 z195), .c (.int .u64 z196)] => some (z188 = (z188.toNat : Int) ∧ z189 = (z189.toNat : Int) ∧ z190 = (z190.toNat : Int) ∧ z191 = (z191.toNat : Int) ∧ z192 = (z192.toNat : Int) ∧ z193 = hds (dhds z193) ∧ z195 = (z195.toNat : Int) ∧ z196 = (z196.toNat : Int), chold_r (⟨z188.toNat, z189.toNat, z190.toNat, z191.toNat, z192.toNat, (dhds z193), z194⟩ : Ch) z195.toNat z196.toNat, [])
  | _ => none
attribute [go_sem] sp_chold
theorem sp_chold_ok : ∀ rs p r fr, sp_chold rs = some (p, r, fr) → p → FnOk Tryz.prog 139 rs r fr := by
  intro rs p r fr h hp
  unfold sp_chold at h
  split at h <;> cases h
  obtain ⟨hc0, hc1, hc2, hc3, hc4, hc5, hc6, hc7⟩ := hp
  rename_i z188 z189 z190 z191 z192 z193 z194 z195 z196
  obtain ⟨z188, rfl⟩ : ∃ m : Nat, z188 = m := ⟨_, hc0⟩
  obtain ⟨z189, rfl⟩ : ∃ m : Nat, z189 = m := ⟨_, hc1⟩
  obtain ⟨z190, rfl⟩ : ∃ m : Nat, z190 = m := ⟨_, hc2⟩
  obtain ⟨z191, rfl⟩ : ∃ m : Nat, z191 = m := ⟨_, hc3⟩
  obtain ⟨z192, rfl⟩ : ∃ m : Nat, z192 = m := ⟨_, hc4⟩
  obtain ⟨z193, rfl⟩ : ∃ m, z193 = hds m := ⟨_, hc5⟩
  obtain ⟨z195, rfl⟩ : ∃ m : Nat, z195 = m := ⟨_, hc6⟩
  obtain ⟨z196, rfl⟩ : ∃ m : Nat, z196 = m := ⟨_, hc7⟩
  simp only [Int.toNat_natCast, dhds_hds]
  exact chold_ok ⟨z188, z189, z190, z191, z192, z193, z194⟩ z195 z196
end Dm
namespace Dm
open Go Go.Proofs Go.IntWalk
def lholdL (l : List Ch) (id h n : Nat) : List Ch × Int :=
  if okLd l then (if Srt.thr Ch.id ltN l id = true then (if (whereI l h).2 = 0 then ([], 6) else if holdE (l.getD (Srt.pos Ch.id ltN l id) default) h n = 0 then (l.set (Srt.pos Ch.id ltN l id) (holdC (l.getD (Srt.pos Ch.id ltN l id) default) h n).1, 0) else ([], holdE (l.getD (Srt.pos Ch.id ltN l id) default) h n)) else ([], 5)) else ([], 1)
theorem holdC_2 {c : Ch} {id n : Nat} : (holdC c id n).2 = holdE c id n := by
  unfold holdC
  split
  · rename_i h; exact h.symm
  · rfl
@[go_sem] def lhold_r (l : List Ch) (id : Nat) (h : Nat) (n : Nat) : D := .tup [.sl (chs (lholdL l id h n).1), .int .i64 (lholdL l id h n).2]
@[go_sem] abbrev n_lhold : FuncId := 55
@[go_sem] def lhold_T : Tab := [(63, sp_place), (14, sp_lwhere), (139, sp_chold), (185, sp_owns)]
theorem lhold_T_ok : TabOk Tryz.prog lhold_T := (TabOk.cons sp_place_ok (TabOk.cons sp_lwhere_ok (TabOk.cons sp_chold_ok (TabOk.cons sp_owns_ok TabOk.nil))))
set_option maxRecDepth 8000 in
set_option maxHeartbeats 1000000 in
theorem lhold_ok (l : List Ch) (id : Nat) (h : Nat) (n : Nat)  : PureFn Tryz.prog 55 [.sl (chs l), .c (.int .u64 (id : Int)), .c (.int .u64 (h : Int)), .c (.int .u64 (n : Int))] (lhold_r l id h n) := by
  refine .of (ac55 lhold_T_ok (Nat.le_of_ble_eq_true rfl) ?_)
  simp -implicitDefEqProofs only [cdA, go_sem, Go.Proofs.Tryz.f55, reduceIte, reduceCtorEq, Nat.reduceEqDiff, Nat.reduceAdd, Nat.reduceLeDiff, Nat.reduceSub, Nat.reduceMul, Nat.reduceLT, Nat.reduceShiftRight, Nat.reduceMod, Int.reduceLE, Int.reduceLT, Int.reduceToNat, cdB, List.cons.injEq, true_and, and_true]
  refine ac137 lhold_T_ok (Nat.le_of_ble_eq_true rfl) ?_
  simp -implicitDefEqProofs only [cdA, go_sem, Go.Proofs.Tryz.f137, reduceIte, reduceCtorEq, Nat.reduceEqDiff, Nat.reduceAdd, Nat.reduceLeDiff, Nat.reduceSub, Nat.reduceMul, Nat.reduceLT, Nat.reduceShiftRight, Nat.reduceMod, Int.reduceLE, Int.reduceLT, Int.reduceToNat, cdB, List.cons.injEq, true_and, and_true]
  by_cases hok : okLd l
  · by_cases ht : Srt.thr Ch.id ltN l id = true
    · have e1 : placeL l id = (((Srt.pos Ch.id ltN l id : Nat) : Int), 0) := by rw [placeL, if_pos hok, if_pos ht]
      have hp : Srt.pos Ch.id ltN l id < l.length := by
        unfold Srt.thr at ht
        exact (of_decide_eq_true ht).1
      rw [e1, Int.toNat_natCast, lholdL, if_pos hok, if_pos ht]
      refine ⟨fun _ => ⟨⟨by omega, by omega⟩, ?_⟩, fun h => absurd rfl h⟩
      refine ac138 lhold_T_ok (Nat.le_of_ble_eq_true rfl) ?_
      simp -implicitDefEqProofs only [cdA, go_sem, Go.Proofs.Tryz.f138, reduceIte, reduceCtorEq, Nat.reduceEqDiff, Nat.reduceAdd, Nat.reduceLeDiff, Nat.reduceSub, Nat.reduceMul, Nat.reduceLT, Nat.reduceShiftRight, Nat.reduceMod, Int.reduceLE, Int.reduceLT, Int.reduceToNat, cdB, List.cons.injEq, true_and, and_true]
      have h32 : l.length ≤ 1000000 ∧ ∀ c ∈ l, c.holds.length ≤ 1000000 := ⟨by have := hok.1; omega, fun c hc => by have := (hok.2.1 c hc).2.2.1; omega⟩
      refine ⟨fun hw => ⟨fun h6 => absurd h6 (by decide), fun _ => ?_⟩, fun hw => ⟨fun h0 => ?_, fun h0 => ?_⟩⟩
      · rw [if_pos hw]; exact ⟨rfl, rfl⟩
      · rw [holdC_2] at h0
        rw [if_neg hw, if_pos h0]
        exact ⟨h32, by omega, hp, ⟨by simp, _, _, _, rfl⟩, rfl⟩
      · rw [holdC_2] at h0 ⊢
        rw [if_neg hw, if_neg h0]
        exact ⟨rfl, rfl⟩
    · have e1 : placeL l id = (0, 5) := by rw [placeL, if_pos hok, if_neg ht]
      have e2 : lholdL l id h n = ([], 5) := by rw [lholdL, if_pos hok, if_neg ht]
      rw [e1, e2]
      exact ⟨fun h => absurd h (by decide), fun _ => ⟨rfl, rfl⟩⟩
  · have e1 : placeL l id = (0, 1) := by rw [placeL, if_neg hok]
    have e2 : lholdL l id h n = ([], 1) := by rw [lholdL, if_neg hok]
    rw [e1, e2]
    exact ⟨fun h => absurd h (by decide), fun _ => ⟨rfl, rfl⟩⟩
def sp_lhold : List D → Option (Prop × D × Fr)
  | [.c (.sl z197), .c (.int .u64 z198), .c (.int .u64 z199), .c (.int .u64 z200)] => some (z197 = chs (dchs z197) ∧ z198 = (z198.toNat : Int) ∧ z199 = (z199.toNat : Int) ∧ z200 = (z200.toNat : Int), lhold_r (dchs z197) z198.toNat z199.toNat z200.toNat, [])
  | _ => none
attribute [go_sem] sp_lhold
theorem sp_lhold_ok : ∀ rs p r fr, sp_lhold rs = some (p, r, fr) → p → FnOk Tryz.prog 55 rs r fr := by
  intro rs p r fr h hp
  unfold sp_lhold at h
  split at h <;> cases h
  obtain ⟨hc0, hc1, hc2, hc3⟩ := hp
  rename_i z197 z198 z199 z200
  obtain ⟨z197, rfl⟩ : ∃ m, z197 = chs m := ⟨_, hc0⟩
  obtain ⟨z198, rfl⟩ : ∃ m : Nat, z198 = m := ⟨_, hc1⟩
  obtain ⟨z199, rfl⟩ : ∃ m : Nat, z199 = m := ⟨_, hc2⟩
  obtain ⟨z200, rfl⟩ : ∃ m : Nat, z200 = m := ⟨_, hc3⟩
  simp only [Int.toNat_natCast, dchs_chs]
  exact lhold_ok z197 z198 z199 z200
end Dm
namespace Dm
open Go Go.Proofs Go.IntWalk
theorem hold_perm {l : List Hd} {i : Nat} {x : Hd} : List.Perm (Srt.ins l i x) (x :: l) := Srt.ins_perm
theorem split_at {l : List Ch} {p : Nat} (hp : p < l.length) : l = l.take p ++ l.getD p default :: l.drop (p + 1) := by
  rw [getD_lt hp, List.getElem_cons_drop, List.take_append_drop]
theorem split_set {l : List Ch} {p : Nat} {d : Ch} (hp : p < l.length) : l.set p d = l.take p ++ d :: l.drop (p + 1) := by
  rw [List.set_eq_take_append_cons_drop, if_pos hp]
theorem hidL_set {l : List Ch} {p : Nat} {d : Ch} {x : Hd} (hp : p < l.length) (hd : d.holds.Perm (x :: (l.getD p default).holds)) : (hidL (l.set p d)).Perm (x.id :: hidL l) := by
  conv => rhs; rw [split_at hp]
  rw [split_set hp]
  simp only [hidL, List.flatMap_append, List.flatMap_cons]
  have h1 := hd.map Hd.id
  rw [List.map_cons] at h1
  refine (List.Perm.append_left _ (h1.append_right _)).trans ?_
  exact List.perm_middle
theorem held_ins {l : List Hd} {i : Nat} {x : Hd} : held (Srt.ins l i x) = x.n + held l := by
  unfold held
  rw [((hold_perm (l := l) (i := i) (x := x)).map Hd.n).sum_nat, List.map_cons, List.sum_cons]
theorem totL_set {l : List Ch} {p : Nat} {d : Ch} (hp : p < l.length) (hd : allC d = allC (l.getD p default)) : totL (l.set p d) = totL l := by
  conv => rhs; rw [split_at hp]
  rw [split_set hp]
  simp only [totL, List.map_append, List.map_cons, List.sum_append, List.sum_cons, hd]
theorem hold_okCh {c : Ch} {h n : Nat} (he : holdE c h n = 0) (hok : okCh c) : okCh (holdC c h n).1 ∧ allC (holdC c h n).1 = allC c := by
  have e : holdC c h n = (⟨c.id, c.loc - n, c.rem, c.res, c.most, Srt.ins c.holds (Srt.pos Hd.key ltN c.holds h) ⟨h, n⟩, c.op⟩, 0) := by rw [holdC, if_pos he]
  obtain ⟨o1, o2, o3, o4, o5, o6, o7, o8, o9, o10⟩ := hok
  have hok : okCh c := ⟨o1, o2, o3, o4, o5, o6, o7, o8, o9, o10⟩
  unfold holdE at he
  split at he
  · cases he
  split at he
  · cases he
  split at he
  · cases he
  split at he
  · cases he
  split at he
  · cases he
  split at he
  · cases he
  rename_i h1 h2 h3 h4 h5 h6
  have hn0 : n ≠ 0 := fun h => h1 (.inr (.inl h))
  have h7 := held_ins (l := c.holds) (i := Srt.pos Hd.key ltN c.holds h) (x := ⟨h, n⟩)
  have hu : Srt.Up Hd.key ltN c.holds := (Srt.chn_up (lt := ltN) Srt.totNat).1 o6
  have hle : n ≤ c.loc := by omega
  have hnew : okCh (holdC c h n).1 := by
    rw [e]
    refine ⟨o1, o2, ?_, fun hop => absurd hop h2, fun y hy => ?_, ?_, ?_, ?_, o9, ?_⟩
    · dsimp only; rw [Srt.ins_len]; omega
    · rcases List.mem_cons.1 (hold_perm.mem_iff.1 hy) with rfl | hy
      · exact hn0
      · exact o5 y hy
    · exact (Srt.chn_up (lt := ltN) Srt.totNat).2 (Srt.ins_up (x := (⟨h, n⟩ : Hd)) (Srt.totNat) hu h3)
    · dsimp only; rw [h7]; dsimp only; omega
    · dsimp only; omega
    · dsimp only; rw [h7]; dsimp only; omega
  refine ⟨hnew, ?_⟩
  have a1 : allC c = held c.holds + c.loc + c.rem := by unfold allC sumsC; rw [if_pos hok]
  have a2 : allC (holdC c h n).1 = held (holdC c h n).1.holds + (holdC c h n).1.loc + (holdC c h n).1.rem := by unfold allC sumsC; rw [if_pos hnew]
  rw [a1, a2, e]
  dsimp only
  rw [h7]; dsimp only; omega
theorem where_0 {l : List Ch} {h : Nat} (hok : okLd l) : (whereI l h).2 = 0 ↔ h ∈ hidL l := by
  have hnd : ((hm 0 l).map (·.1)).Nodup := by rw [hm_keys]; exact hok.2.2.2.1
  rw [whereI, if_pos hok]
  constructor
  · cases hx : nlk h (hm 0 l) with
    | none => intro h; cases h
    | some i =>
      intro _
      have := (nlk_some hnd).1 hx
      rw [← hm_keys (s := 0)]
      exact List.mem_map.2 ⟨_, this, rfl⟩
  · intro hh
    rw [← hm_keys (s := 0)] at hh
    obtain ⟨⟨k, a⟩, h1, h2⟩ := List.mem_map.1 hh
    dsimp only at h2
    subst h2
    rw [(nlk_some hnd).2 h1]
end Dm
namespace Dm
open Go Go.Proofs Go.IntWalk
theorem lhold_at {l : List Ch} {id h n : Nat} (h0 : (lholdL l id h n).2 = 0) : okLd l ∧ ∃ c ∈ l, c.id = id ∧ Srt.pos Ch.id ltN l id < l.length ∧ l.getD (Srt.pos Ch.id ltN l id) default = c ∧ h ∉ hidL l ∧ holdE c h n = 0 ∧ lholdL l id h n = (l.set (Srt.pos Ch.id ltN l id) (holdC c h n).1, 0) := by
  by_cases hok : okLd l
  · by_cases ht : Srt.thr Ch.id ltN l id = true
    · by_cases hw : (whereI l h).2 = 0
      · rw [lholdL, if_pos hok, if_pos ht, if_pos hw] at h0; cases h0
      · by_cases he : holdE (l.getD (Srt.pos Ch.id ltN l id) default) h n = 0
        · have h2 := ht
          unfold Srt.thr at h2
          obtain ⟨hp, hpi⟩ := of_decide_eq_true h2
          refine ⟨hok, _, mem_getD.2 ⟨_, hp, rfl⟩, hpi, hp, rfl, fun h => hw ((where_0 hok).2 h), he, ?_⟩
          rw [lholdL, if_pos hok, if_pos ht, if_neg hw, if_pos he]
        · rw [lholdL, if_pos hok, if_pos ht, if_neg hw, if_neg he] at h0; exact absurd h0 he
    · rw [lholdL, if_pos hok, if_neg ht] at h0; cases h0
  · rw [lholdL, if_neg hok] at h0; cases h0
theorem lhold_fine {l : List Ch} {id h n : Nat} (h0 : (lholdL l id h n).2 = 0) : okLd (lholdL l id h n).1 := by
  obtain ⟨hok, c, hc, hid, hp, hcp, hw, he, e⟩ := lhold_at h0
  have hu : Srt.Up Ch.id ltN l := (Srt.chn_up (lt := ltN) Srt.totNat).1 hok.2.2.1
  obtain ⟨hok', hall⟩ := hold_okCh he (hok.2.1 c hc)
  have eid : (holdC c h n).1.id = c.id := by rw [holdC, if_pos he]
  have ehl : (holdC c h n).1.holds.Perm (⟨h, n⟩ :: c.holds) := by rw [holdC, if_pos he]; exact hold_perm
  generalize Srt.pos Ch.id ltN l id = p at *
  have hpm := hidL_set (l := l) (p := p) (d := (holdC c h n).1) (x := ⟨h, n⟩) hp (by rw [hcp]; exact ehl)
  rw [e]
  refine ⟨by rw [List.length_set]; exact hok.1, fun d hd => ?_, ?_, ?_, ?_⟩
  · rcases List.mem_or_eq_of_mem_set hd with h | rfl
    · exact hok.2.1 d h
    · exact hok'
  · exact (Srt.chn_up (lt := ltN) Srt.totNat).2 (Srt.set_up hu hp (by rw [hcp]; exact eid))
  · rw [hpm.nodup_iff, List.nodup_cons]; exact ⟨hw, hok.2.2.2.1⟩
  · rw [totL_set hp (by rw [hcp]; exact hall)]; exact hok.2.2.2.2
theorem start_len {l : List Py} {p : Py} : (startP l p).1.length ≤ 257 := by
  unfold startP
  split
  · simp
  · rename_i hA
    have hok : okPy l := Decidable.byContradiction fun h => hA (.inl h)
    have := hok.1
    split
    · simp
    · split
      · split
        · simp
        · rename_i k hk
          dsimp only
          have hkl : k < l.length := by
            unfold idle at hk
            exact (List.findIdx?_eq_some_iff_getElem.1 hk).1
          rw [Srt.ins_len, List.length_eraseIdx_of_lt hkl]; omega
      · dsimp only
        rw [Srt.ins_len]; omega
theorem add_len {f : Fd} {k : Int} {a n : Nat} : (addF f k a n).1.l.length ≤ 64 := by
  unfold addF
  split
  · rename_i h
    have := h.1.2.2.1
    split
    · simp
    · dsimp only
      rw [List.length_drop, List.length_append, List.length_singleton]; omega
  · simp
theorem small_ok {w : Wl} (h : okW w) : smallW w := by
  obtain ⟨h1, h2, h3, h4, _⟩ := h
  have h7 := h3.2.2.1
  refine ⟨by have := h1.1; omega, fun c hc => by have := (h1.2.1 c hc).2.2.1; omega, by omega, by have := h2.1; omega, ?_, by omega⟩
  rename_i h8
  have h9 := h8.2.2.2
  have : okPy w.p := by
    unfold agrL at h9
    split at h9
    · rename_i h; exact h.1
    · cases h9
  have := this.1; omega
end Dm
namespace Dm
open Go Go.Proofs Go.IntWalk
theorem i1_0 : ((1 : Int) = 0) = False := eq_false (by decide)
theorem i7_0 : ((7 : Int) = 0) = False := eq_false (by decide)
theorem i9_0 : ((9 : Int) = 0) = False := eq_false (by decide)
def payP (v : Wl) (hash n : Nat) : List Py × Int := startP v.p ⟨v.next, hash, (firstL v.c v.w n).1, n, 1⟩
def payC (v : Wl) (n : Nat) : List Ch × Int := lholdL v.c (firstL v.c v.w n).1 v.next n
def payF (v : Wl) (n : Nat) : Fd × Nat × Int := addF v.f 0 v.next n
def payE (v : Wl) (hash n : Nat) : Int := if ¬ okW v ∨ n = 0 ∨ ¬ n ≤ MM then 1 else if (firstL v.c v.w n).2 ≠ 0 then 9 else if v.next = MM then 7 else if (payP v hash n).2 ≠ 0 then (payP v hash n).2 else if (payC v n).2 ≠ 0 then (payC v n).2 else (payF v n).2.2
def zeroW : Wl := ⟨[], [], [], [], ⟨0, []⟩, 0, 0⟩
def payW (v : Wl) (hash n : Nat) : Wl × Nat × Int := if payE v hash n = 0 then (⟨(payC v n).1, v.w, v.i, (payP v hash n).1, (payF v n).1, v.next + 1, v.tick⟩, v.next, 0) else (zeroW, 0, payE v hash n)
@[go_sem] def wpay_r (v : Wl) (hash : Nat) (n : Nat) : D := .tup [.agg [.sl (chs (payW v hash n).1.c), .sl (wts (payW v hash n).1.w), .sl (ivs (payW v hash n).1.i), .sl (pys (payW v hash n).1.p), .int .u64 (payW v hash n).1.f.next, .sl (evs (payW v hash n).1.f.l), .int .u64 (payW v hash n).1.next, .int .u64 (payW v hash n).1.tick], .int .u64 (payW v hash n).2.1, .int .i64 (payW v hash n).2.2]
@[go_sem] abbrev n_wpay : FuncId := 13
@[go_sem] def wpay_T : Tab := [(37, sp_wcheck), (49, sp_moncheck), (12, sp_first), (52, sp_pstart), (55, sp_lhold), (142, sp_fadd), (119, sp_wown)]
theorem wpay_T_ok : TabOk Tryz.prog wpay_T := (TabOk.cons sp_wcheck_ok (TabOk.cons sp_moncheck_ok (TabOk.cons sp_first_ok (TabOk.cons sp_pstart_ok (TabOk.cons sp_lhold_ok (TabOk.cons sp_fadd_ok (TabOk.cons sp_wown_ok TabOk.nil)))))))
set_option maxRecDepth 8000 in
set_option maxHeartbeats 1000000 in
theorem wpay_ok (v : Wl) (hash : Nat) (n : Nat) (h : v.f.next ≤ 18446744073709551615) : PureFn Tryz.prog 13 [.agg [.sl (chs v.c), .sl (wts v.w), .sl (ivs v.i), .sl (pys v.p), .c (.int .u64 (v.f.next : Int)), .sl (evs v.f.l), .c (.int .u64 (v.next : Int)), .c (.int .u64 (v.tick : Int))], .c (.int .u64 (hash : Int)), .c (.int .u64 (n : Int))] (wpay_r v hash n) := by
  refine .of (ac13 wpay_T_ok (Nat.le_of_ble_eq_true rfl) ?_)
  simp -implicitDefEqProofs only [cdA, go_sem, Go.Proofs.Tryz.f13, reduceIte, reduceCtorEq, Nat.reduceEqDiff, Nat.reduceAdd, Nat.reduceLeDiff, Nat.reduceSub, Nat.reduceMul, Nat.reduceLT, Nat.reduceShiftRight, Nat.reduceMod, Int.reduceLE, Int.reduceLT, Int.reduceToNat, cdB, List.cons.injEq, true_and, and_true]
  refine ac45 wpay_T_ok (Nat.le_of_ble_eq_true rfl) ?_
  simp -implicitDefEqProofs only [cdA, go_sem, Go.Proofs.Tryz.f45, reduceIte, reduceCtorEq, Nat.reduceEqDiff, Nat.reduceAdd, Nat.reduceLeDiff, Nat.reduceSub, Nat.reduceMul, Nat.reduceLT, Nat.reduceShiftRight, Nat.reduceMod, Int.reduceLE, Int.reduceLT, Int.reduceToNat, cdB, List.cons.injEq, true_and, and_true]
  refine ADraw.run us45_1 wpay_T_ok follows_mixed (by kernel_rfl) (by kernel_rfl) ?_
  simp -implicitDefEqProofs only [cdA, go_sem, reduceIte, reduceCtorEq, Nat.reduceEqDiff, Nat.reduceAdd, Nat.reduceLeDiff, Nat.reduceSub, Nat.reduceMul, Nat.reduceLT, Nat.reduceShiftRight, Nat.reduceMod, Int.reduceLE, Int.reduceLT, Int.reduceToNat, cdB, List.cons.injEq, true_and, and_true]
  refine ⟨h, ?_⟩
  have hbad : ∀ e : Int, payE v hash n = e → ¬ e = 0 → (chs (payW v hash n).1.c = [] ∧ wts (payW v hash n).1.w = [] ∧ ivs (payW v hash n).1.i = [] ∧ pys (payW v hash n).1.p = [] ∧ 0 = ((payW v hash n).1.f.next : Int) ∧ evs (payW v hash n).1.f.l = [] ∧ 0 = ((payW v hash n).1.next : Int) ∧ 0 = ((payW v hash n).1.tick : Int)) ∧ 0 = ((payW v hash n).2.1 : Int) ∧ e = (payW v hash n).2.2 := fun e h1 h2 => by
    have : payW v hash n = (zeroW, 0, e) := by rw [payW, if_neg (by rw [h1]; exact h2), h1]
    rw [this]; exact ⟨⟨rfl, rfl, rfl, rfl, rfl, rfl, rfl, rfl⟩, rfl, rfl⟩
  by_cases hok : okW v
  rotate_left 1
  · have hck : (chkW v = 0) = False := eq_false fun h => hok (chkW_0.1 h)
    have he : payE v hash n = 1 := by rw [payE, if_pos (.inl hok)]
    have hc1 : chkW v = 1 := by rw [chkW, if_neg hok]
    refine ⟨fun hn => ?_, fun hn => ?_⟩
    · skip
      refine ac46 wpay_T_ok (Nat.le_of_ble_eq_true rfl) ?_
      simp -implicitDefEqProofs only [cdA, go_sem, Go.Proofs.Tryz.f46, hck, false_implies, true_implies, not_false_eq_true, not_true_eq_false, reduceIte, reduceCtorEq, Nat.reduceEqDiff, Nat.reduceAdd, Nat.reduceLeDiff, Nat.reduceSub, Nat.reduceMul, Nat.reduceLT, Nat.reduceShiftRight, Nat.reduceMod, Int.reduceLE, Int.reduceLT, Int.reduceToNat, cdB, List.cons.injEq, true_and, and_true]
      refine ac46 wpay_T_ok (Nat.le_of_ble_eq_true rfl) ?_
      simp -implicitDefEqProofs only [cdA, go_sem, Go.Proofs.Tryz.f46, hck, false_implies, true_implies, not_false_eq_true, not_true_eq_false, reduceIte, reduceCtorEq, Nat.reduceEqDiff, Nat.reduceAdd, Nat.reduceLeDiff, Nat.reduceSub, Nat.reduceMul, Nat.reduceLT, Nat.reduceShiftRight, Nat.reduceMod, Int.reduceLE, Int.reduceLT, Int.reduceToNat, cdB, List.cons.injEq, true_and, and_true]
      refine ac46 wpay_T_ok (Nat.le_of_ble_eq_true rfl) ?_
      simp -implicitDefEqProofs only [cdA, go_sem, Go.Proofs.Tryz.f46, hck, false_implies, true_implies, not_false_eq_true, not_true_eq_false, reduceIte, reduceCtorEq, Nat.reduceEqDiff, Nat.reduceAdd, Nat.reduceLeDiff, Nat.reduceSub, Nat.reduceMul, Nat.reduceLT, Nat.reduceShiftRight, Nat.reduceMod, Int.reduceLE, Int.reduceLT, Int.reduceToNat, cdB, List.cons.injEq, true_and, and_true]
      refine ac50 wpay_T_ok (Nat.le_of_ble_eq_true rfl) ?_
      simp -implicitDefEqProofs only [cdA, go_sem, Go.Proofs.Tryz.f50, hck, false_implies, true_implies, not_false_eq_true, not_true_eq_false, reduceIte, reduceCtorEq, Nat.reduceEqDiff, Nat.reduceAdd, Nat.reduceLeDiff, Nat.reduceSub, Nat.reduceMul, Nat.reduceLT, Nat.reduceShiftRight, Nat.reduceMod, Int.reduceLE, Int.reduceLT, Int.reduceToNat, cdB, List.cons.injEq, true_and, and_true]
      refine ac53 wpay_T_ok (Nat.le_of_ble_eq_true rfl) ?_
      simp -implicitDefEqProofs only [cdA, go_sem, Go.Proofs.Tryz.f53, hck, false_implies, true_implies, not_false_eq_true, not_true_eq_false, reduceIte, reduceCtorEq, Nat.reduceEqDiff, Nat.reduceAdd, Nat.reduceLeDiff, Nat.reduceSub, Nat.reduceMul, Nat.reduceLT, Nat.reduceShiftRight, Nat.reduceMod, Int.reduceLE, Int.reduceLT, Int.reduceToNat, cdB, List.cons.injEq, true_and, and_true]
      refine ac56 wpay_T_ok (Nat.le_of_ble_eq_true rfl) ?_
      simp -implicitDefEqProofs only [cdA, go_sem, Go.Proofs.Tryz.f56, reduceIte, reduceCtorEq, Nat.reduceEqDiff, Nat.reduceAdd, Nat.reduceLeDiff, Nat.reduceSub, Nat.reduceMul, Nat.reduceLT, Nat.reduceShiftRight, Nat.reduceMod, Int.reduceLE, Int.reduceLT, Int.reduceToNat, cdB, List.cons.injEq, true_and, and_true]
      refine ac140 wpay_T_ok (Nat.le_of_ble_eq_true rfl) ?_
      simp -implicitDefEqProofs only [cdA, go_sem, Go.Proofs.Tryz.f140, hck, false_implies, true_implies, not_false_eq_true, not_true_eq_false, reduceIte, reduceCtorEq, Nat.reduceEqDiff, Nat.reduceAdd, Nat.reduceLeDiff, Nat.reduceSub, Nat.reduceMul, Nat.reduceLT, Nat.reduceShiftRight, Nat.reduceMod, Int.reduceLE, Int.reduceLT, Int.reduceToNat, cdB, List.cons.injEq, true_and, and_true]
      refine ac47 wpay_T_ok (Nat.le_of_ble_eq_true rfl) ?_
      simp -implicitDefEqProofs only [cdA, go_sem, Go.Proofs.Tryz.f47, hck, false_implies, true_implies, not_false_eq_true, not_true_eq_false, reduceIte, reduceCtorEq, Nat.reduceEqDiff, Nat.reduceAdd, Nat.reduceLeDiff, Nat.reduceSub, Nat.reduceMul, Nat.reduceLT, Nat.reduceShiftRight, Nat.reduceMod, Int.reduceLE, Int.reduceLT, Int.reduceToNat, cdB, List.cons.injEq, true_and, and_true]
      refine ADraw.run us47_2 wpay_T_ok follows_mixed (by kernel_rfl) (by kernel_rfl) ?_
      simp -implicitDefEqProofs only [cdA, go_sem, hck, false_implies, true_implies, not_false_eq_true, not_true_eq_false, reduceIte, reduceCtorEq, Nat.reduceEqDiff, Nat.reduceAdd, Nat.reduceLeDiff, Nat.reduceSub, Nat.reduceMul, Nat.reduceLT, Nat.reduceShiftRight, Nat.reduceMod, Int.reduceLE, Int.reduceLT, Int.reduceToNat, cdB, List.cons.injEq, true_and, and_true]
      exact hbad _ (he.trans hc1.symm) (by rw [hc1]; decide)
    · skip
      refine ac46 wpay_T_ok (Nat.le_of_ble_eq_true rfl) ?_
      simp -implicitDefEqProofs only [cdA, go_sem, Go.Proofs.Tryz.f46, hck, false_implies, true_implies, not_false_eq_true, not_true_eq_false, reduceIte, reduceCtorEq, Nat.reduceEqDiff, Nat.reduceAdd, Nat.reduceLeDiff, Nat.reduceSub, Nat.reduceMul, Nat.reduceLT, Nat.reduceShiftRight, Nat.reduceMod, Int.reduceLE, Int.reduceLT, Int.reduceToNat, cdB, List.cons.injEq, true_and, and_true]
      refine ac46 wpay_T_ok (Nat.le_of_ble_eq_true rfl) ?_
      simp -implicitDefEqProofs only [cdA, go_sem, Go.Proofs.Tryz.f46, hck, false_implies, true_implies, not_false_eq_true, not_true_eq_false, reduceIte, reduceCtorEq, Nat.reduceEqDiff, Nat.reduceAdd, Nat.reduceLeDiff, Nat.reduceSub, Nat.reduceMul, Nat.reduceLT, Nat.reduceShiftRight, Nat.reduceMod, Int.reduceLE, Int.reduceLT, Int.reduceToNat, cdB, List.cons.injEq, true_and, and_true]
      refine ac46 wpay_T_ok (Nat.le_of_ble_eq_true rfl) ?_
      simp -implicitDefEqProofs only [cdA, go_sem, Go.Proofs.Tryz.f46, hck, false_implies, true_implies, not_false_eq_true, not_true_eq_false, reduceIte, reduceCtorEq, Nat.reduceEqDiff, Nat.reduceAdd, Nat.reduceLeDiff, Nat.reduceSub, Nat.reduceMul, Nat.reduceLT, Nat.reduceShiftRight, Nat.reduceMod, Int.reduceLE, Int.reduceLT, Int.reduceToNat, cdB, List.cons.injEq, true_and, and_true]
      refine ac50 wpay_T_ok (Nat.le_of_ble_eq_true rfl) ?_
      simp -implicitDefEqProofs only [cdA, go_sem, Go.Proofs.Tryz.f50, hck, false_implies, true_implies, not_false_eq_true, not_true_eq_false, reduceIte, reduceCtorEq, Nat.reduceEqDiff, Nat.reduceAdd, Nat.reduceLeDiff, Nat.reduceSub, Nat.reduceMul, Nat.reduceLT, Nat.reduceShiftRight, Nat.reduceMod, Int.reduceLE, Int.reduceLT, Int.reduceToNat, cdB, List.cons.injEq, true_and, and_true]
      refine ac53 wpay_T_ok (Nat.le_of_ble_eq_true rfl) ?_
      simp -implicitDefEqProofs only [cdA, go_sem, Go.Proofs.Tryz.f53, hck, false_implies, true_implies, not_false_eq_true, not_true_eq_false, reduceIte, reduceCtorEq, Nat.reduceEqDiff, Nat.reduceAdd, Nat.reduceLeDiff, Nat.reduceSub, Nat.reduceMul, Nat.reduceLT, Nat.reduceShiftRight, Nat.reduceMod, Int.reduceLE, Int.reduceLT, Int.reduceToNat, cdB, List.cons.injEq, true_and, and_true]
      refine ac56 wpay_T_ok (Nat.le_of_ble_eq_true rfl) ?_
      simp -implicitDefEqProofs only [cdA, go_sem, Go.Proofs.Tryz.f56, reduceIte, reduceCtorEq, Nat.reduceEqDiff, Nat.reduceAdd, Nat.reduceLeDiff, Nat.reduceSub, Nat.reduceMul, Nat.reduceLT, Nat.reduceShiftRight, Nat.reduceMod, Int.reduceLE, Int.reduceLT, Int.reduceToNat, cdB, List.cons.injEq, true_and, and_true]
      refine ac140 wpay_T_ok (Nat.le_of_ble_eq_true rfl) ?_
      simp -implicitDefEqProofs only [cdA, go_sem, Go.Proofs.Tryz.f140, hck, false_implies, true_implies, not_false_eq_true, not_true_eq_false, reduceIte, reduceCtorEq, Nat.reduceEqDiff, Nat.reduceAdd, Nat.reduceLeDiff, Nat.reduceSub, Nat.reduceMul, Nat.reduceLT, Nat.reduceShiftRight, Nat.reduceMod, Int.reduceLE, Int.reduceLT, Int.reduceToNat, cdB, List.cons.injEq, true_and, and_true]
      refine ac47 wpay_T_ok (Nat.le_of_ble_eq_true rfl) ?_
      simp -implicitDefEqProofs only [cdA, go_sem, Go.Proofs.Tryz.f47, hck, false_implies, true_implies, not_false_eq_true, not_true_eq_false, reduceIte, reduceCtorEq, Nat.reduceEqDiff, Nat.reduceAdd, Nat.reduceLeDiff, Nat.reduceSub, Nat.reduceMul, Nat.reduceLT, Nat.reduceShiftRight, Nat.reduceMod, Int.reduceLE, Int.reduceLT, Int.reduceToNat, cdB, List.cons.injEq, true_and, and_true]
      refine ADraw.run us47_2 wpay_T_ok follows_mixed (by kernel_rfl) (by kernel_rfl) ?_
      simp -implicitDefEqProofs only [cdA, go_sem, hck, false_implies, true_implies, not_false_eq_true, not_true_eq_false, reduceIte, reduceCtorEq, Nat.reduceEqDiff, Nat.reduceAdd, Nat.reduceLeDiff, Nat.reduceSub, Nat.reduceMul, Nat.reduceLT, Nat.reduceShiftRight, Nat.reduceMod, Int.reduceLE, Int.reduceLT, Int.reduceToNat, cdB, List.cons.injEq, true_and, and_true]
      exact hbad _ (he.trans hc1.symm) (by rw [hc1]; decide)
  have hck : (chkW v = 0) = True := eq_true (chkW_0.2 hok)
  refine ⟨fun hn => ?_, fun hn => ?_⟩
  rotate_left 1
  · skip
    refine ac46 wpay_T_ok (Nat.le_of_ble_eq_true rfl) ?_
    simp -implicitDefEqProofs only [cdA, go_sem, Go.Proofs.Tryz.f46, hck, false_implies, true_implies, not_false_eq_true, not_true_eq_false, reduceIte, reduceCtorEq, Nat.reduceEqDiff, Nat.reduceAdd, Nat.reduceLeDiff, Nat.reduceSub, Nat.reduceMul, Nat.reduceLT, Nat.reduceShiftRight, Nat.reduceMod, Int.reduceLE, Int.reduceLT, Int.reduceToNat, cdB, List.cons.injEq, true_and, and_true]
    skip
    refine ac46 wpay_T_ok (Nat.le_of_ble_eq_true rfl) ?_
    simp -implicitDefEqProofs only [cdA, go_sem, Go.Proofs.Tryz.f46, i1_0, false_implies, true_implies, not_false_eq_true, not_true_eq_false, reduceIte, reduceCtorEq, Nat.reduceEqDiff, Nat.reduceAdd, Nat.reduceLeDiff, Nat.reduceSub, Nat.reduceMul, Nat.reduceLT, Nat.reduceShiftRight, Nat.reduceMod, Int.reduceLE, Int.reduceLT, Int.reduceToNat, cdB, List.cons.injEq, true_and, and_true]
    refine ac46 wpay_T_ok (Nat.le_of_ble_eq_true rfl) ?_
    simp -implicitDefEqProofs only [cdA, go_sem, Go.Proofs.Tryz.f46, i1_0, false_implies, true_implies, not_false_eq_true, not_true_eq_false, reduceIte, reduceCtorEq, Nat.reduceEqDiff, Nat.reduceAdd, Nat.reduceLeDiff, Nat.reduceSub, Nat.reduceMul, Nat.reduceLT, Nat.reduceShiftRight, Nat.reduceMod, Int.reduceLE, Int.reduceLT, Int.reduceToNat, cdB, List.cons.injEq, true_and, and_true]
    refine ac50 wpay_T_ok (Nat.le_of_ble_eq_true rfl) ?_
    simp -implicitDefEqProofs only [cdA, go_sem, Go.Proofs.Tryz.f50, i1_0, false_implies, true_implies, not_false_eq_true, not_true_eq_false, reduceIte, reduceCtorEq, Nat.reduceEqDiff, Nat.reduceAdd, Nat.reduceLeDiff, Nat.reduceSub, Nat.reduceMul, Nat.reduceLT, Nat.reduceShiftRight, Nat.reduceMod, Int.reduceLE, Int.reduceLT, Int.reduceToNat, cdB, List.cons.injEq, true_and, and_true]
    refine ac53 wpay_T_ok (Nat.le_of_ble_eq_true rfl) ?_
    simp -implicitDefEqProofs only [cdA, go_sem, Go.Proofs.Tryz.f53, i1_0, false_implies, true_implies, not_false_eq_true, not_true_eq_false, reduceIte, reduceCtorEq, Nat.reduceEqDiff, Nat.reduceAdd, Nat.reduceLeDiff, Nat.reduceSub, Nat.reduceMul, Nat.reduceLT, Nat.reduceShiftRight, Nat.reduceMod, Int.reduceLE, Int.reduceLT, Int.reduceToNat, cdB, List.cons.injEq, true_and, and_true]
    refine ac56 wpay_T_ok (Nat.le_of_ble_eq_true rfl) ?_
    simp -implicitDefEqProofs only [cdA, go_sem, Go.Proofs.Tryz.f56, reduceIte, reduceCtorEq, Nat.reduceEqDiff, Nat.reduceAdd, Nat.reduceLeDiff, Nat.reduceSub, Nat.reduceMul, Nat.reduceLT, Nat.reduceShiftRight, Nat.reduceMod, Int.reduceLE, Int.reduceLT, Int.reduceToNat, cdB, List.cons.injEq, true_and, and_true]
    refine ac140 wpay_T_ok (Nat.le_of_ble_eq_true rfl) ?_
    simp -implicitDefEqProofs only [cdA, go_sem, Go.Proofs.Tryz.f140, i1_0, false_implies, true_implies, not_false_eq_true, not_true_eq_false, reduceIte, reduceCtorEq, Nat.reduceEqDiff, Nat.reduceAdd, Nat.reduceLeDiff, Nat.reduceSub, Nat.reduceMul, Nat.reduceLT, Nat.reduceShiftRight, Nat.reduceMod, Int.reduceLE, Int.reduceLT, Int.reduceToNat, cdB, List.cons.injEq, true_and, and_true]
    refine ac47 wpay_T_ok (Nat.le_of_ble_eq_true rfl) ?_
    simp -implicitDefEqProofs only [cdA, go_sem, Go.Proofs.Tryz.f47, i1_0, false_implies, true_implies, not_false_eq_true, not_true_eq_false, reduceIte, reduceCtorEq, Nat.reduceEqDiff, Nat.reduceAdd, Nat.reduceLeDiff, Nat.reduceSub, Nat.reduceMul, Nat.reduceLT, Nat.reduceShiftRight, Nat.reduceMod, Int.reduceLE, Int.reduceLT, Int.reduceToNat, cdB, List.cons.injEq, true_and, and_true]
    refine ADraw.run us47_2 wpay_T_ok follows_mixed (by kernel_rfl) (by kernel_rfl) ?_
    simp -implicitDefEqProofs only [cdA, go_sem, i1_0, false_implies, true_implies, not_false_eq_true, not_true_eq_false, reduceIte, reduceCtorEq, Nat.reduceEqDiff, Nat.reduceAdd, Nat.reduceLeDiff, Nat.reduceSub, Nat.reduceMul, Nat.reduceLT, Nat.reduceShiftRight, Nat.reduceMod, Int.reduceLE, Int.reduceLT, Int.reduceToNat, cdB, List.cons.injEq, true_and, and_true]
    exact hbad _ (by rw [payE, if_pos (.inr (.inl (by omega)))]) (by decide)
  have hmon : monS [n] = 0 ↔ n ≤ MM := mon1_0
  by_cases hm : monS [n] = 0
  rotate_left 1
  · skip
    refine ac46 wpay_T_ok (Nat.le_of_ble_eq_true rfl) ?_
    simp -implicitDefEqProofs only [cdA, go_sem, Go.Proofs.Tryz.f46, hck, hm, false_implies, true_implies, not_false_eq_true, not_true_eq_false, reduceIte, reduceCtorEq, Nat.reduceEqDiff, Nat.reduceAdd, Nat.reduceLeDiff, Nat.reduceSub, Nat.reduceMul, Nat.reduceLT, Nat.reduceShiftRight, Nat.reduceMod, Int.reduceLE, Int.reduceLT, Int.reduceToNat, cdB, List.cons.injEq, true_and, and_true]
    skip
    refine ac46 wpay_T_ok (Nat.le_of_ble_eq_true rfl) ?_
    simp -implicitDefEqProofs only [cdA, go_sem, Go.Proofs.Tryz.f46, i1_0, false_implies, true_implies, not_false_eq_true, not_true_eq_false, reduceIte, reduceCtorEq, Nat.reduceEqDiff, Nat.reduceAdd, Nat.reduceLeDiff, Nat.reduceSub, Nat.reduceMul, Nat.reduceLT, Nat.reduceShiftRight, Nat.reduceMod, Int.reduceLE, Int.reduceLT, Int.reduceToNat, cdB, List.cons.injEq, true_and, and_true]
    refine ac46 wpay_T_ok (Nat.le_of_ble_eq_true rfl) ?_
    simp -implicitDefEqProofs only [cdA, go_sem, Go.Proofs.Tryz.f46, i1_0, false_implies, true_implies, not_false_eq_true, not_true_eq_false, reduceIte, reduceCtorEq, Nat.reduceEqDiff, Nat.reduceAdd, Nat.reduceLeDiff, Nat.reduceSub, Nat.reduceMul, Nat.reduceLT, Nat.reduceShiftRight, Nat.reduceMod, Int.reduceLE, Int.reduceLT, Int.reduceToNat, cdB, List.cons.injEq, true_and, and_true]
    refine ac50 wpay_T_ok (Nat.le_of_ble_eq_true rfl) ?_
    simp -implicitDefEqProofs only [cdA, go_sem, Go.Proofs.Tryz.f50, i1_0, false_implies, true_implies, not_false_eq_true, not_true_eq_false, reduceIte, reduceCtorEq, Nat.reduceEqDiff, Nat.reduceAdd, Nat.reduceLeDiff, Nat.reduceSub, Nat.reduceMul, Nat.reduceLT, Nat.reduceShiftRight, Nat.reduceMod, Int.reduceLE, Int.reduceLT, Int.reduceToNat, cdB, List.cons.injEq, true_and, and_true]
    refine ac53 wpay_T_ok (Nat.le_of_ble_eq_true rfl) ?_
    simp -implicitDefEqProofs only [cdA, go_sem, Go.Proofs.Tryz.f53, i1_0, false_implies, true_implies, not_false_eq_true, not_true_eq_false, reduceIte, reduceCtorEq, Nat.reduceEqDiff, Nat.reduceAdd, Nat.reduceLeDiff, Nat.reduceSub, Nat.reduceMul, Nat.reduceLT, Nat.reduceShiftRight, Nat.reduceMod, Int.reduceLE, Int.reduceLT, Int.reduceToNat, cdB, List.cons.injEq, true_and, and_true]
    refine ac56 wpay_T_ok (Nat.le_of_ble_eq_true rfl) ?_
    simp -implicitDefEqProofs only [cdA, go_sem, Go.Proofs.Tryz.f56, reduceIte, reduceCtorEq, Nat.reduceEqDiff, Nat.reduceAdd, Nat.reduceLeDiff, Nat.reduceSub, Nat.reduceMul, Nat.reduceLT, Nat.reduceShiftRight, Nat.reduceMod, Int.reduceLE, Int.reduceLT, Int.reduceToNat, cdB, List.cons.injEq, true_and, and_true]
    refine ac140 wpay_T_ok (Nat.le_of_ble_eq_true rfl) ?_
    simp -implicitDefEqProofs only [cdA, go_sem, Go.Proofs.Tryz.f140, i1_0, false_implies, true_implies, not_false_eq_true, not_true_eq_false, reduceIte, reduceCtorEq, Nat.reduceEqDiff, Nat.reduceAdd, Nat.reduceLeDiff, Nat.reduceSub, Nat.reduceMul, Nat.reduceLT, Nat.reduceShiftRight, Nat.reduceMod, Int.reduceLE, Int.reduceLT, Int.reduceToNat, cdB, List.cons.injEq, true_and, and_true]
    refine ac47 wpay_T_ok (Nat.le_of_ble_eq_true rfl) ?_
    simp -implicitDefEqProofs only [cdA, go_sem, Go.Proofs.Tryz.f47, i1_0, false_implies, true_implies, not_false_eq_true, not_true_eq_false, reduceIte, reduceCtorEq, Nat.reduceEqDiff, Nat.reduceAdd, Nat.reduceLeDiff, Nat.reduceSub, Nat.reduceMul, Nat.reduceLT, Nat.reduceShiftRight, Nat.reduceMod, Int.reduceLE, Int.reduceLT, Int.reduceToNat, cdB, List.cons.injEq, true_and, and_true]
    refine ADraw.run us47_2 wpay_T_ok follows_mixed (by kernel_rfl) (by kernel_rfl) ?_
    simp -implicitDefEqProofs only [cdA, go_sem, i1_0, false_implies, true_implies, not_false_eq_true, not_true_eq_false, reduceIte, reduceCtorEq, Nat.reduceEqDiff, Nat.reduceAdd, Nat.reduceLeDiff, Nat.reduceSub, Nat.reduceMul, Nat.reduceLT, Nat.reduceShiftRight, Nat.reduceMod, Int.reduceLE, Int.reduceLT, Int.reduceToNat, cdB, List.cons.injEq, true_and, and_true]
    exact hbad _ (by rw [payE, if_pos (.inr (.inr fun h => hm (hmon.2 h)))]) (by decide)
  have hA : ¬ (¬ okW v ∨ n = 0 ∨ ¬ n ≤ MM) := by
    rintro (h | h | h)
    · exact h hok
    · omega
    · exact h (hmon.1 hm)
  refine ac46 wpay_T_ok (Nat.le_of_ble_eq_true rfl) ?_
  simp -implicitDefEqProofs only [cdA, go_sem, Go.Proofs.Tryz.f46, hck, hm, false_implies, true_implies, not_false_eq_true, not_true_eq_false, reduceIte, reduceCtorEq, Nat.reduceEqDiff, Nat.reduceAdd, Nat.reduceLeDiff, Nat.reduceSub, Nat.reduceMul, Nat.reduceLT, Nat.reduceShiftRight, Nat.reduceMod, Int.reduceLE, Int.reduceLT, Int.reduceToNat, cdB, List.cons.injEq, true_and, and_true]
  by_cases hfe : (firstL v.c v.w n).2 = 0
  rotate_left 1
  · skip
    refine ac46 wpay_T_ok (Nat.le_of_ble_eq_true rfl) ?_
    simp -implicitDefEqProofs only [cdA, go_sem, Go.Proofs.Tryz.f46, hck, hfe, false_implies, true_implies, not_false_eq_true, not_true_eq_false, reduceIte, reduceCtorEq, Nat.reduceEqDiff, Nat.reduceAdd, Nat.reduceLeDiff, Nat.reduceSub, Nat.reduceMul, Nat.reduceLT, Nat.reduceShiftRight, Nat.reduceMod, Int.reduceLE, Int.reduceLT, Int.reduceToNat, cdB, List.cons.injEq, true_and, and_true]
    skip
    refine ac46 wpay_T_ok (Nat.le_of_ble_eq_true rfl) ?_
    simp -implicitDefEqProofs only [cdA, go_sem, Go.Proofs.Tryz.f46, i9_0, false_implies, true_implies, not_false_eq_true, not_true_eq_false, reduceIte, reduceCtorEq, Nat.reduceEqDiff, Nat.reduceAdd, Nat.reduceLeDiff, Nat.reduceSub, Nat.reduceMul, Nat.reduceLT, Nat.reduceShiftRight, Nat.reduceMod, Int.reduceLE, Int.reduceLT, Int.reduceToNat, cdB, List.cons.injEq, true_and, and_true]
    refine ac50 wpay_T_ok (Nat.le_of_ble_eq_true rfl) ?_
    simp -implicitDefEqProofs only [cdA, go_sem, Go.Proofs.Tryz.f50, i9_0, false_implies, true_implies, not_false_eq_true, not_true_eq_false, reduceIte, reduceCtorEq, Nat.reduceEqDiff, Nat.reduceAdd, Nat.reduceLeDiff, Nat.reduceSub, Nat.reduceMul, Nat.reduceLT, Nat.reduceShiftRight, Nat.reduceMod, Int.reduceLE, Int.reduceLT, Int.reduceToNat, cdB, List.cons.injEq, true_and, and_true]
    refine ac53 wpay_T_ok (Nat.le_of_ble_eq_true rfl) ?_
    simp -implicitDefEqProofs only [cdA, go_sem, Go.Proofs.Tryz.f53, i9_0, false_implies, true_implies, not_false_eq_true, not_true_eq_false, reduceIte, reduceCtorEq, Nat.reduceEqDiff, Nat.reduceAdd, Nat.reduceLeDiff, Nat.reduceSub, Nat.reduceMul, Nat.reduceLT, Nat.reduceShiftRight, Nat.reduceMod, Int.reduceLE, Int.reduceLT, Int.reduceToNat, cdB, List.cons.injEq, true_and, and_true]
    refine ac56 wpay_T_ok (Nat.le_of_ble_eq_true rfl) ?_
    simp -implicitDefEqProofs only [cdA, go_sem, Go.Proofs.Tryz.f56, reduceIte, reduceCtorEq, Nat.reduceEqDiff, Nat.reduceAdd, Nat.reduceLeDiff, Nat.reduceSub, Nat.reduceMul, Nat.reduceLT, Nat.reduceShiftRight, Nat.reduceMod, Int.reduceLE, Int.reduceLT, Int.reduceToNat, cdB, List.cons.injEq, true_and, and_true]
    refine ac140 wpay_T_ok (Nat.le_of_ble_eq_true rfl) ?_
    simp -implicitDefEqProofs only [cdA, go_sem, Go.Proofs.Tryz.f140, i9_0, false_implies, true_implies, not_false_eq_true, not_true_eq_false, reduceIte, reduceCtorEq, Nat.reduceEqDiff, Nat.reduceAdd, Nat.reduceLeDiff, Nat.reduceSub, Nat.reduceMul, Nat.reduceLT, Nat.reduceShiftRight, Nat.reduceMod, Int.reduceLE, Int.reduceLT, Int.reduceToNat, cdB, List.cons.injEq, true_and, and_true]
    refine ac47 wpay_T_ok (Nat.le_of_ble_eq_true rfl) ?_
    simp -implicitDefEqProofs only [cdA, go_sem, Go.Proofs.Tryz.f47, i9_0, false_implies, true_implies, not_false_eq_true, not_true_eq_false, reduceIte, reduceCtorEq, Nat.reduceEqDiff, Nat.reduceAdd, Nat.reduceLeDiff, Nat.reduceSub, Nat.reduceMul, Nat.reduceLT, Nat.reduceShiftRight, Nat.reduceMod, Int.reduceLE, Int.reduceLT, Int.reduceToNat, cdB, List.cons.injEq, true_and, and_true]
    refine ADraw.run us47_2 wpay_T_ok follows_mixed (by kernel_rfl) (by kernel_rfl) ?_
    simp -implicitDefEqProofs only [cdA, go_sem, i9_0, false_implies, true_implies, not_false_eq_true, not_true_eq_false, reduceIte, reduceCtorEq, Nat.reduceEqDiff, Nat.reduceAdd, Nat.reduceLeDiff, Nat.reduceSub, Nat.reduceMul, Nat.reduceLT, Nat.reduceShiftRight, Nat.reduceMod, Int.reduceLE, Int.reduceLT, Int.reduceToNat, cdB, List.cons.injEq, true_and, and_true]
    exact hbad _ (by rw [payE, if_neg hA, if_pos hfe]) (by decide)
  refine ac46 wpay_T_ok (Nat.le_of_ble_eq_true rfl) ?_
  simp -implicitDefEqProofs only [cdA, go_sem, Go.Proofs.Tryz.f46, hck, hfe, false_implies, true_implies, not_false_eq_true, not_true_eq_false, reduceIte, reduceCtorEq, Nat.reduceEqDiff, Nat.reduceAdd, Nat.reduceLeDiff, Nat.reduceSub, Nat.reduceMul, Nat.reduceLT, Nat.reduceShiftRight, Nat.reduceMod, Int.reduceLE, Int.reduceLT, Int.reduceToNat, cdB, List.cons.injEq, true_and, and_true]
  by_cases hnx : v.next = MM
  · have hnx' : ((v.next : Int) = 4611686018427387904) = True := eq_true (by unfold MM at hnx; omega)
    refine ac46 wpay_T_ok (Nat.le_of_ble_eq_true rfl) ?_
    simp -implicitDefEqProofs only [cdA, go_sem, Go.Proofs.Tryz.f46, hck, hnx', decide_false, false_implies, true_implies, not_false_eq_true, not_true_eq_false, reduceIte, reduceCtorEq, Nat.reduceEqDiff, Nat.reduceAdd, Nat.reduceLeDiff, Nat.reduceSub, Nat.reduceMul, Nat.reduceLT, Nat.reduceShiftRight, Nat.reduceMod, Int.reduceLE, Int.reduceLT, Int.reduceToNat, cdB, List.cons.injEq, true_and, and_true]
    skip
    refine ac50 wpay_T_ok (Nat.le_of_ble_eq_true rfl) ?_
    simp -implicitDefEqProofs only [cdA, go_sem, Go.Proofs.Tryz.f50, i7_0, false_implies, true_implies, not_false_eq_true, not_true_eq_false, reduceIte, reduceCtorEq, Nat.reduceEqDiff, Nat.reduceAdd, Nat.reduceLeDiff, Nat.reduceSub, Nat.reduceMul, Nat.reduceLT, Nat.reduceShiftRight, Nat.reduceMod, Int.reduceLE, Int.reduceLT, Int.reduceToNat, cdB, List.cons.injEq, true_and, and_true]
    refine ac53 wpay_T_ok (Nat.le_of_ble_eq_true rfl) ?_
    simp -implicitDefEqProofs only [cdA, go_sem, Go.Proofs.Tryz.f53, i7_0, false_implies, true_implies, not_false_eq_true, not_true_eq_false, reduceIte, reduceCtorEq, Nat.reduceEqDiff, Nat.reduceAdd, Nat.reduceLeDiff, Nat.reduceSub, Nat.reduceMul, Nat.reduceLT, Nat.reduceShiftRight, Nat.reduceMod, Int.reduceLE, Int.reduceLT, Int.reduceToNat, cdB, List.cons.injEq, true_and, and_true]
    refine ac56 wpay_T_ok (Nat.le_of_ble_eq_true rfl) ?_
    simp -implicitDefEqProofs only [cdA, go_sem, Go.Proofs.Tryz.f56, reduceIte, reduceCtorEq, Nat.reduceEqDiff, Nat.reduceAdd, Nat.reduceLeDiff, Nat.reduceSub, Nat.reduceMul, Nat.reduceLT, Nat.reduceShiftRight, Nat.reduceMod, Int.reduceLE, Int.reduceLT, Int.reduceToNat, cdB, List.cons.injEq, true_and, and_true]
    refine ac140 wpay_T_ok (Nat.le_of_ble_eq_true rfl) ?_
    simp -implicitDefEqProofs only [cdA, go_sem, Go.Proofs.Tryz.f140, i7_0, false_implies, true_implies, not_false_eq_true, not_true_eq_false, reduceIte, reduceCtorEq, Nat.reduceEqDiff, Nat.reduceAdd, Nat.reduceLeDiff, Nat.reduceSub, Nat.reduceMul, Nat.reduceLT, Nat.reduceShiftRight, Nat.reduceMod, Int.reduceLE, Int.reduceLT, Int.reduceToNat, cdB, List.cons.injEq, true_and, and_true]
    refine ac47 wpay_T_ok (Nat.le_of_ble_eq_true rfl) ?_
    simp -implicitDefEqProofs only [cdA, go_sem, Go.Proofs.Tryz.f47, i7_0, false_implies, true_implies, not_false_eq_true, not_true_eq_false, reduceIte, reduceCtorEq, Nat.reduceEqDiff, Nat.reduceAdd, Nat.reduceLeDiff, Nat.reduceSub, Nat.reduceMul, Nat.reduceLT, Nat.reduceShiftRight, Nat.reduceMod, Int.reduceLE, Int.reduceLT, Int.reduceToNat, cdB, List.cons.injEq, true_and, and_true]
    refine ADraw.run us47_2 wpay_T_ok follows_mixed (by kernel_rfl) (by kernel_rfl) ?_
    simp -implicitDefEqProofs only [cdA, go_sem, i7_0, false_implies, true_implies, not_false_eq_true, not_true_eq_false, reduceIte, reduceCtorEq, Nat.reduceEqDiff, Nat.reduceAdd, Nat.reduceLeDiff, Nat.reduceSub, Nat.reduceMul, Nat.reduceLT, Nat.reduceShiftRight, Nat.reduceMod, Int.reduceLE, Int.reduceLT, Int.reduceToNat, cdB, List.cons.injEq, true_and, and_true]
    exact hbad _ (by rw [payE, if_neg hA, if_neg (fun h => h hfe), if_pos hnx]) (by decide)
  have hnx' : ((v.next : Int) = 4611686018427387904) = False := eq_false (by unfold MM at hnx; omega)
  refine ac46 wpay_T_ok (Nat.le_of_ble_eq_true rfl) ?_
  simp -implicitDefEqProofs only [cdA, go_sem, Go.Proofs.Tryz.f46, hck, hnx', decide_true, false_implies, true_implies, not_false_eq_true, not_true_eq_false, reduceIte, reduceCtorEq, Nat.reduceEqDiff, Nat.reduceAdd, Nat.reduceLeDiff, Nat.reduceSub, Nat.reduceMul, Nat.reduceLT, Nat.reduceShiftRight, Nat.reduceMod, Int.reduceLE, Int.reduceLT, Int.reduceToNat, cdB, List.cons.injEq, true_and, and_true]
  refine ac50 wpay_T_ok (Nat.le_of_ble_eq_true rfl) ?_
  simp -implicitDefEqProofs only [cdA, go_sem, Go.Proofs.Tryz.f50, hck, false_implies, true_implies, not_false_eq_true, not_true_eq_false, reduceIte, reduceCtorEq, Nat.reduceEqDiff, Nat.reduceAdd, Nat.reduceLeDiff, Nat.reduceSub, Nat.reduceMul, Nat.reduceLT, Nat.reduceShiftRight, Nat.reduceMod, Int.reduceLE, Int.reduceLT, Int.reduceToNat, cdB, List.cons.injEq, true_and, and_true]
  refine ac51 wpay_T_ok (Nat.le_of_ble_eq_true rfl) ?_
  simp -implicitDefEqProofs only [cdA, go_sem, Go.Proofs.Tryz.f51, reduceIte, reduceCtorEq, Nat.reduceEqDiff, Nat.reduceAdd, Nat.reduceLeDiff, Nat.reduceSub, Nat.reduceMul, Nat.reduceLT, Nat.reduceShiftRight, Nat.reduceMod, Int.reduceLE, Int.reduceLT, Int.reduceToNat, cdB, List.cons.injEq, true_and, and_true]
  have eP : startP v.p ⟨v.next, hash, (firstL v.c v.w n).1, n, 1⟩ = payP v hash n := rfl
  rw [eP]
  refine ⟨fun hst => ?_, fun hst => ?_⟩
  rotate_left 1
  · skip
    refine ac53 wpay_T_ok (Nat.le_of_ble_eq_true rfl) ?_
    simp -implicitDefEqProofs only [cdA, go_sem, Go.Proofs.Tryz.f53, hst, false_implies, true_implies, not_false_eq_true, not_true_eq_false, reduceIte, reduceCtorEq, Nat.reduceEqDiff, Nat.reduceAdd, Nat.reduceLeDiff, Nat.reduceSub, Nat.reduceMul, Nat.reduceLT, Nat.reduceShiftRight, Nat.reduceMod, Int.reduceLE, Int.reduceLT, Int.reduceToNat, cdB, List.cons.injEq, true_and, and_true]
    refine ac56 wpay_T_ok (Nat.le_of_ble_eq_true rfl) ?_
    simp -implicitDefEqProofs only [cdA, go_sem, Go.Proofs.Tryz.f56, reduceIte, reduceCtorEq, Nat.reduceEqDiff, Nat.reduceAdd, Nat.reduceLeDiff, Nat.reduceSub, Nat.reduceMul, Nat.reduceLT, Nat.reduceShiftRight, Nat.reduceMod, Int.reduceLE, Int.reduceLT, Int.reduceToNat, cdB, List.cons.injEq, true_and, and_true]
    refine ac140 wpay_T_ok (Nat.le_of_ble_eq_true rfl) ?_
    simp -implicitDefEqProofs only [cdA, go_sem, Go.Proofs.Tryz.f140, hst, false_implies, true_implies, not_false_eq_true, not_true_eq_false, reduceIte, reduceCtorEq, Nat.reduceEqDiff, Nat.reduceAdd, Nat.reduceLeDiff, Nat.reduceSub, Nat.reduceMul, Nat.reduceLT, Nat.reduceShiftRight, Nat.reduceMod, Int.reduceLE, Int.reduceLT, Int.reduceToNat, cdB, List.cons.injEq, true_and, and_true]
    refine ac47 wpay_T_ok (Nat.le_of_ble_eq_true rfl) ?_
    simp -implicitDefEqProofs only [cdA, go_sem, Go.Proofs.Tryz.f47, hst, false_implies, true_implies, not_false_eq_true, not_true_eq_false, reduceIte, reduceCtorEq, Nat.reduceEqDiff, Nat.reduceAdd, Nat.reduceLeDiff, Nat.reduceSub, Nat.reduceMul, Nat.reduceLT, Nat.reduceShiftRight, Nat.reduceMod, Int.reduceLE, Int.reduceLT, Int.reduceToNat, cdB, List.cons.injEq, true_and, and_true]
    refine ADraw.run us47_2 wpay_T_ok follows_mixed (by kernel_rfl) (by kernel_rfl) ?_
    simp -implicitDefEqProofs only [cdA, go_sem, hst, false_implies, true_implies, not_false_eq_true, not_true_eq_false, reduceIte, reduceCtorEq, Nat.reduceEqDiff, Nat.reduceAdd, Nat.reduceLeDiff, Nat.reduceSub, Nat.reduceMul, Nat.reduceLT, Nat.reduceShiftRight, Nat.reduceMod, Int.reduceLE, Int.reduceLT, Int.reduceToNat, cdB, List.cons.injEq, true_and, and_true]
    exact hbad _ (by rw [payE, if_neg hA, if_neg (fun h => h hfe), if_neg hnx, if_pos hst]) hst
  refine ac53 wpay_T_ok (Nat.le_of_ble_eq_true rfl) ?_
  simp -implicitDefEqProofs only [cdA, go_sem, Go.Proofs.Tryz.f53, hck, false_implies, true_implies, not_false_eq_true, not_true_eq_false, reduceIte, reduceCtorEq, Nat.reduceEqDiff, Nat.reduceAdd, Nat.reduceLeDiff, Nat.reduceSub, Nat.reduceMul, Nat.reduceLT, Nat.reduceShiftRight, Nat.reduceMod, Int.reduceLE, Int.reduceLT, Int.reduceToNat, cdB, List.cons.injEq, true_and, and_true]
  refine ac54 wpay_T_ok (Nat.le_of_ble_eq_true rfl) ?_
  simp -implicitDefEqProofs only [cdA, go_sem, Go.Proofs.Tryz.f54, reduceIte, reduceCtorEq, Nat.reduceEqDiff, Nat.reduceAdd, Nat.reduceLeDiff, Nat.reduceSub, Nat.reduceMul, Nat.reduceLT, Nat.reduceShiftRight, Nat.reduceMod, Int.reduceLE, Int.reduceLT, Int.reduceToNat, cdB, List.cons.injEq, true_and, and_true]
  have eC : lholdL v.c (firstL v.c v.w n).1 v.next n = payC v n := rfl
  rw [eC]
  refine ⟨fun hho => ?_, fun hho => ?_⟩
  rotate_left 1
  · skip
    refine ac56 wpay_T_ok (Nat.le_of_ble_eq_true rfl) ?_
    simp -implicitDefEqProofs only [cdA, go_sem, Go.Proofs.Tryz.f56, reduceIte, reduceCtorEq, Nat.reduceEqDiff, Nat.reduceAdd, Nat.reduceLeDiff, Nat.reduceSub, Nat.reduceMul, Nat.reduceLT, Nat.reduceShiftRight, Nat.reduceMod, Int.reduceLE, Int.reduceLT, Int.reduceToNat, cdB, List.cons.injEq, true_and, and_true]
    refine ac140 wpay_T_ok (Nat.le_of_ble_eq_true rfl) ?_
    simp -implicitDefEqProofs only [cdA, go_sem, Go.Proofs.Tryz.f140, hho, false_implies, true_implies, not_false_eq_true, not_true_eq_false, reduceIte, reduceCtorEq, Nat.reduceEqDiff, Nat.reduceAdd, Nat.reduceLeDiff, Nat.reduceSub, Nat.reduceMul, Nat.reduceLT, Nat.reduceShiftRight, Nat.reduceMod, Int.reduceLE, Int.reduceLT, Int.reduceToNat, cdB, List.cons.injEq, true_and, and_true]
    refine ac47 wpay_T_ok (Nat.le_of_ble_eq_true rfl) ?_
    simp -implicitDefEqProofs only [cdA, go_sem, Go.Proofs.Tryz.f47, hho, false_implies, true_implies, not_false_eq_true, not_true_eq_false, reduceIte, reduceCtorEq, Nat.reduceEqDiff, Nat.reduceAdd, Nat.reduceLeDiff, Nat.reduceSub, Nat.reduceMul, Nat.reduceLT, Nat.reduceShiftRight, Nat.reduceMod, Int.reduceLE, Int.reduceLT, Int.reduceToNat, cdB, List.cons.injEq, true_and, and_true]
    refine ADraw.run us47_2 wpay_T_ok follows_mixed (by kernel_rfl) (by kernel_rfl) ?_
    simp -implicitDefEqProofs only [cdA, go_sem, hho, false_implies, true_implies, not_false_eq_true, not_true_eq_false, reduceIte, reduceCtorEq, Nat.reduceEqDiff, Nat.reduceAdd, Nat.reduceLeDiff, Nat.reduceSub, Nat.reduceMul, Nat.reduceLT, Nat.reduceShiftRight, Nat.reduceMod, Int.reduceLE, Int.reduceLT, Int.reduceToNat, cdB, List.cons.injEq, true_and, and_true]
    exact hbad _ (by rw [payE, if_neg hA, if_neg (fun h => h hfe), if_neg hnx, if_neg (fun h => h hst), if_pos hho]) hho
  refine ac56 wpay_T_ok (Nat.le_of_ble_eq_true rfl) ?_
  simp -implicitDefEqProofs only [cdA, go_sem, Go.Proofs.Tryz.f56, reduceIte, reduceCtorEq, Nat.reduceEqDiff, Nat.reduceAdd, Nat.reduceLeDiff, Nat.reduceSub, Nat.reduceMul, Nat.reduceLT, Nat.reduceShiftRight, Nat.reduceMod, Int.reduceLE, Int.reduceLT, Int.reduceToNat, cdB, List.cons.injEq, true_and, and_true]
  refine ac140 wpay_T_ok (Nat.le_of_ble_eq_true rfl) ?_
  simp -implicitDefEqProofs only [cdA, go_sem, Go.Proofs.Tryz.f140, hck, false_implies, true_implies, not_false_eq_true, not_true_eq_false, reduceIte, reduceCtorEq, Nat.reduceEqDiff, Nat.reduceAdd, Nat.reduceLeDiff, Nat.reduceSub, Nat.reduceMul, Nat.reduceLT, Nat.reduceShiftRight, Nat.reduceMod, Int.reduceLE, Int.reduceLT, Int.reduceToNat, cdB, List.cons.injEq, true_and, and_true]
  refine ac141 wpay_T_ok (Nat.le_of_ble_eq_true rfl) ?_
  simp -implicitDefEqProofs only [cdA, go_sem, Go.Proofs.Tryz.f141, reduceIte, reduceCtorEq, Nat.reduceEqDiff, Nat.reduceAdd, Nat.reduceLeDiff, Nat.reduceSub, Nat.reduceMul, Nat.reduceLT, Nat.reduceShiftRight, Nat.reduceMod, Int.reduceLE, Int.reduceLT, Int.reduceToNat, cdB, List.cons.injEq, true_and, and_true]
  have eF : addF v.f 0 v.next n = payF v n := rfl
  have hv := hok.2.2.2.2.2.1
  unfold MM at hv
  rw [eF, show IntKind.u64.wrap ((v.next : Int) + 1) = ((v.next + 1 : Nat) : Int) by rw [u64_in _ (by omega)]; omega]
  refine ⟨h, fun hfd => ?_, fun hfd => ?_⟩
  rotate_left 1
  · skip
    refine ac47 wpay_T_ok (Nat.le_of_ble_eq_true rfl) ?_
    simp -implicitDefEqProofs only [cdA, go_sem, Go.Proofs.Tryz.f47, hfd, false_implies, true_implies, not_false_eq_true, not_true_eq_false, reduceIte, reduceCtorEq, Nat.reduceEqDiff, Nat.reduceAdd, Nat.reduceLeDiff, Nat.reduceSub, Nat.reduceMul, Nat.reduceLT, Nat.reduceShiftRight, Nat.reduceMod, Int.reduceLE, Int.reduceLT, Int.reduceToNat, cdB, List.cons.injEq, true_and, and_true]
    refine ADraw.run us47_2 wpay_T_ok follows_mixed (by kernel_rfl) (by kernel_rfl) ?_
    simp -implicitDefEqProofs only [cdA, go_sem, hfd, false_implies, true_implies, not_false_eq_true, not_true_eq_false, reduceIte, reduceCtorEq, Nat.reduceEqDiff, Nat.reduceAdd, Nat.reduceLeDiff, Nat.reduceSub, Nat.reduceMul, Nat.reduceLT, Nat.reduceShiftRight, Nat.reduceMod, Int.reduceLE, Int.reduceLT, Int.reduceToNat, cdB, List.cons.injEq, true_and, and_true]
    exact hbad _ (by rw [payE, if_neg hA, if_neg (fun h => h hfe), if_neg hnx, if_neg (fun h => h hst), if_neg (fun h => h hho)]) hfd
  have hsm : smallW ⟨(payC v n).1, v.w, v.i, (payP v hash n).1, (payF v n).1, v.next + 1, v.tick⟩ := by
    have h1 := lhold_fine hho
    have h2 := small_ok hok
    have h3 := start_len (l := v.p) (p := ⟨v.next, hash, (firstL v.c v.w n).1, n, 1⟩)
    have h4 := add_len (f := v.f) (k := 0) (a := v.next) (n := n)
    refine ⟨by have := h1.1; show (payC v n).1.length ≤ _; unfold payC; omega, fun c hc => by have := (h1.2.1 c hc).2.2.1; omega, h2.2.2.1, h2.2.2.2.1, by show (payP v hash n).1.length ≤ _; unfold payP; omega, by show (payF v n).1.l.length ≤ _; unfold payF; omega⟩
  have hfin : payW v hash n = (⟨(payC v n).1, v.w, v.i, (payP v hash n).1, (payF v n).1, v.next + 1, v.tick⟩, v.next, 0) := by
    have : payE v hash n = 0 := by rw [payE, if_neg hA, if_neg (fun h => h hfe), if_neg hnx, if_neg (fun h => h hst), if_neg (fun h => h hho)]; exact hfd
    rw [payW, if_pos this]
  have en : ((v.next : Int) + 1).toNat = v.next + 1 := by omega
  have en2 : ((v.next : Int) + 1 = ((v.next + 1 : Nat) : Int)) = True := eq_true (by omega)
  refine ac47 wpay_T_ok (Nat.le_of_ble_eq_true rfl) ?_
  simp -implicitDefEqProofs only [cdA, go_sem, Go.Proofs.Tryz.f47, hck, en, en2, eq_true hsm, false_implies, true_implies, not_false_eq_true, not_true_eq_false, reduceIte, reduceCtorEq, Nat.reduceEqDiff, Nat.reduceAdd, Nat.reduceLeDiff, Nat.reduceSub, Nat.reduceMul, Nat.reduceLT, Nat.reduceShiftRight, Nat.reduceMod, Int.reduceLE, Int.reduceLT, Int.reduceToNat, cdB, List.cons.injEq, true_and, and_true]
  refine ADraw.run us13_13 wpay_T_ok follows_mixed (by kernel_rfl) (by kernel_rfl) ?_
  simp -implicitDefEqProofs only [cdA, go_sem, reduceIte, reduceCtorEq, Nat.reduceEqDiff, Nat.reduceAdd, Nat.reduceLeDiff, Nat.reduceSub, Nat.reduceMul, Nat.reduceLT, Nat.reduceShiftRight, Nat.reduceMod, Int.reduceLE, Int.reduceLT, Int.reduceToNat, cdB, List.cons.injEq, true_and, and_true]
  rw [hfin]
  exact ⟨⟨rfl, rfl, rfl, rfl, rfl, rfl, by dsimp only; omega, rfl⟩, rfl, rfl⟩
@[go_sem] def wpay_p (v : Wl) (hash : Nat) (n : Nat) : Prop := (v.f.next ≤ 18446744073709551615)
def sp_wpay : List D → Option (Prop × D × Fr)
  | [.agg [.c (.sl z324), .c (.sl z325), .c (.sl z326), .c (.sl z327), .c (.int .u64 z329), .c (.sl z330), .c (.int .u64 z331), .c (.int .u64 z332)], .c (.int .u64 z333), .c (.int .u64 z334)] => some (z324 = chs (dchs z324) ∧ z325 = wts (dwts z325) ∧ z326 = ivs (divs z326) ∧ z327 = pys (dpys z327) ∧ z329 = (z329.toNat : Int) ∧ z330 = evs (devs z330) ∧ z331 = (z331.toNat : Int) ∧ z332 = (z332.toNat : Int) ∧ z333 = (z333.toNat : Int) ∧ z334 = (z334.toNat : Int) ∧ wpay_p (⟨(dchs z324), (dwts z325), (divs z326), (dpys z327), (⟨z329.toNat, (devs z330)⟩ : Fd), z331.toNat, z332.toNat⟩ : Wl) z333.toNat z334.toNat, wpay_r (⟨(dchs z324), (dwts z325), (divs z326), (dpys z327), (⟨z329.toNat, (devs z330)⟩ : Fd), z331.toNat, z332.toNat⟩ : Wl) z333.toNat z334.toNat, [])
  | _ => none
attribute [go_sem] sp_wpay
theorem sp_wpay_ok : ∀ rs p r fr, sp_wpay rs = some (p, r, fr) → p → FnOk Tryz.prog 13 rs r fr := by
  intro rs p r fr h hp
  unfold sp_wpay at h
  split at h <;> cases h
  obtain ⟨hc0, hc1, hc2, hc3, hc4, hc5, hc6, hc7, hc8, hc9, hp⟩ := hp
  rename_i z324 z325 z326 z327 z329 z330 z331 z332 z333 z334
  obtain ⟨z324, rfl⟩ : ∃ m, z324 = chs m := ⟨_, hc0⟩
  obtain ⟨z325, rfl⟩ : ∃ m, z325 = wts m := ⟨_, hc1⟩
  obtain ⟨z326, rfl⟩ : ∃ m, z326 = ivs m := ⟨_, hc2⟩
  obtain ⟨z327, rfl⟩ : ∃ m, z327 = pys m := ⟨_, hc3⟩
  obtain ⟨z329, rfl⟩ : ∃ m : Nat, z329 = m := ⟨_, hc4⟩
  obtain ⟨z330, rfl⟩ : ∃ m, z330 = evs m := ⟨_, hc5⟩
  obtain ⟨z331, rfl⟩ : ∃ m : Nat, z331 = m := ⟨_, hc6⟩
  obtain ⟨z332, rfl⟩ : ∃ m : Nat, z332 = m := ⟨_, hc7⟩
  obtain ⟨z333, rfl⟩ : ∃ m : Nat, z333 = m := ⟨_, hc8⟩
  obtain ⟨z334, rfl⟩ : ∃ m : Nat, z334 = m := ⟨_, hc9⟩
  simp only [Int.toNat_natCast, dchs_chs, devs_evs, divs_ivs, dpys_pys, dwts_wts]
  simp only [Int.toNat_natCast, dchs_chs, devs_evs, divs_ivs, dpys_pys, dwts_wts, wpay_p] at hp
  exact wpay_ok ⟨z324, z325, z326, z327, ⟨z329, z330⟩, z331, z332⟩ z333 z334 hp
end Dm
namespace Dm
open Go Go.Proofs Go.IntWalk
theorem addF_ok {f : Fd} {k : Int} {a n : Nat} (h : (addF f k a n).2.2 = 0) : okFd (addF f k a n).1 := by
  unfold addF at h ⊢
  split at h
  rotate_left 1
  · cases h
  rename_i h1
  obtain ⟨⟨o1, o2, o3, o4⟩, hk⟩ := h1
  split at h
  · cases h
  rename_i h2
  rw [if_pos ⟨⟨o1, o2, o3, o4⟩, hk⟩, if_neg h2]
  have h5 := (okEv_get f.next f.l).1 o4
  have hlen : ((f.l ++ [(⟨f.next, k, a, n⟩ : Ev)]).drop (f.l.length + 1 - 64)).length = min f.next 64 := by
    rw [List.length_drop, List.length_append, List.length_singleton]; omega
  refine ⟨by dsimp only; omega, by dsimp only; unfold MM at *; omega, by dsimp only; rw [hlen]; omega, ?_⟩
  dsimp only
  rw [okEv_get]
  intro i hi
  have e : ((f.l ++ [(⟨f.next, k, a, n⟩ : Ev)]).drop (f.l.length + 1 - 64)).getD i default = (f.l ++ [(⟨f.next, k, a, n⟩ : Ev)]).getD (f.l.length + 1 - 64 + i) default := by
    rw [List.getD_eq_getElem?_getD, List.getElem?_drop, ← List.getD_eq_getElem?_getD]
  rw [e]
  rw [hlen] at hi ⊢
  by_cases hj : f.l.length + 1 - 64 + i < f.l.length
  · rw [List.getD_eq_getElem?_getD, List.getElem?_append_left hj, ← List.getD_eq_getElem?_getD]
    have := h5 _ hj
    refine ⟨?_, this.2⟩
    rw [this.1]; omega
  · rw [List.getD_eq_getElem?_getD, List.getElem?_append_right (by omega), show f.l.length + 1 - 64 + i - f.l.length = 0 by omega]
    refine ⟨?_, hk⟩
    show ((f.next : Nat) : Int) = _
    omega
theorem hlL_set {l : List Ch} {p : Nat} {d : Ch} {x : Hd} (hp : p < l.length) (hi : d.id = (l.getD p default).id) (hd : d.holds.Perm (x :: (l.getD p default).holds)) : (hlL (l.set p d)).Perm ((d.id, x.id, x.n) :: hlL l) := by
  conv => rhs; rw [split_at hp]
  rw [split_set hp]
  simp only [hlL, List.flatMap_append, List.flatMap_cons]
  have h1 : (hlC d).Perm ((d.id, x.id, x.n) :: hlC (l.getD p default)) := by
    unfold hlC
    rw [← hi]
    exact hd.map fun h => (d.id, h.id, h.n)
  refine (List.Perm.append_left _ (h1.append_right _)).trans ?_
  exact List.perm_middle
def ourC (c : Ch) : Nat := if c.op = true then c.loc else 0
def ourS (l : List Ch) : Nat := (l.map ourC).sum
def heldS (l : List Ch) : Nat := (l.map fun c => held c.holds).sum
theorem agr_parts {p : List Py} {c : List Ch} : agrL p c = (true, 0) ↔ okPy p ∧ c.length ≤ 32 ∧ (c.map Ch.id).Nodup ∧ (∀ q ∈ pend p, (q.chan, q.id, q.n) ∈ hlL c) ∧ (hlL c).length = (pend p).length := by
  unfold agrL
  split
  · rename_i h
    rw [Prod.mk.injEq]
    refine ⟨fun h1 => ⟨h.1, h.2.1, h.2.2, of_decide_eq_true h1.1⟩, fun h1 => ⟨decide_eq_true h1.2.2.2, rfl⟩⟩
  · rename_i h
    refine ⟨fun h1 => (by cases h1), fun h1 => absurd ⟨h1.1, h1.2.1, h1.2.2.1⟩ h⟩
theorem okLd_ids {l : List Ch} (h : okLd l) : (l.map Ch.id).Nodup := by
  have h1 := (Srt.chn_up (lt := ltN) Srt.totNat).1 h.2.2.1
  unfold Srt.Up at h1
  rw [List.Nodup, List.pairwise_map]
  exact h1.imp fun hlt he => by simp only [ltN] at hlt; omega
end Dm
namespace Dm
open Go Go.Proofs Go.IntWalk
@[go_sem] def cheld_r (c : Ch) : D := .tup [.int .u64 ((sumsC c).1 : Int), .int .i64 (sumsC c).2.2]
@[go_sem] abbrev n_cheld : FuncId := 118
@[go_sem] def cheld_T : Tab := [(203, sp_csums)]
theorem cheld_T_ok : TabOk Tryz.prog cheld_T := (TabOk.cons sp_csums_ok TabOk.nil)
set_option maxRecDepth 8000 in
set_option maxHeartbeats 1000000 in
theorem cheld_ok (c : Ch)  : PureFn Tryz.prog 118 [.agg [.c (.int .u64 (c.id : Int)), .c (.int .u64 (c.loc : Int)), .c (.int .u64 (c.rem : Int)), .c (.int .u64 (c.res : Int)), .c (.int .u64 (c.most : Int)), .sl (hds c.holds), .c (.bool c.op)]] (cheld_r c) := by
  refine .of (ac118 cheld_T_ok (Nat.le_of_ble_eq_true rfl) ?_)
  simp -implicitDefEqProofs only [cdA, go_sem, Go.Proofs.Tryz.f118, reduceIte, reduceCtorEq, Nat.reduceEqDiff, Nat.reduceAdd, Nat.reduceLeDiff, Nat.reduceSub, Nat.reduceMul, Nat.reduceLT, Nat.reduceShiftRight, Nat.reduceMod, Int.reduceLE, Int.reduceLT, Int.reduceToNat, cdB, List.cons.injEq, true_and, and_true]
def sp_cheld : List D → Option (Prop × D × Fr)
  | [.agg [.c (.int .u64 z371), .c (.int .u64 z372), .c (.int .u64 z373), .c (.int .u64 z374), .c (.int .u64 z375), .c (.sl z376), .c (.bool z377)]] => some (z371 = (z371.toNat : Int) ∧ z372 = (z372.toNat : Int) ∧ z373 = (z373.toNat : Int) ∧ z374 = (z374.toNat : Int) ∧ z375 = (z375.toNat : Int) ∧ z376 = hds (dhds z376), cheld_r (⟨z371.toNat, z372.toNat, z373.toNat, z374.toNat, z375.toNat, (dhds z376), z377⟩ : Ch), [])
  | _ => none
attribute [go_sem] sp_cheld
theorem sp_cheld_ok : ∀ rs p r fr, sp_cheld rs = some (p, r, fr) → p → FnOk Tryz.prog 118 rs r fr := by
  intro rs p r fr h hp
  unfold sp_cheld at h
  split at h <;> cases h
  obtain ⟨hc0, hc1, hc2, hc3, hc4, hc5⟩ := hp
  rename_i z371 z372 z373 z374 z375 z376 z377
  obtain ⟨z371, rfl⟩ : ∃ m : Nat, z371 = m := ⟨_, hc0⟩
  obtain ⟨z372, rfl⟩ : ∃ m : Nat, z372 = m := ⟨_, hc1⟩
  obtain ⟨z373, rfl⟩ : ∃ m : Nat, z373 = m := ⟨_, hc2⟩
  obtain ⟨z374, rfl⟩ : ∃ m : Nat, z374 = m := ⟨_, hc3⟩
  obtain ⟨z375, rfl⟩ : ∃ m : Nat, z375 = m := ⟨_, hc4⟩
  obtain ⟨z376, rfl⟩ : ∃ m, z376 = hds m := ⟨_, hc5⟩
  simp only [Int.toNat_natCast, dhds_hds]
  exact cheld_ok ⟨z371, z372, z373, z374, z375, z376, z377⟩
def oursL (l : List Ch) : Nat × Nat × Int := if okLd l then (ourS l, heldS l, 0) else (0, 0, 1)
theorem our_le : ∀ {l : List Ch}, (∀ c ∈ l, okCh c) → ourS l + heldS l ≤ totL l
  | [], _ => Nat.le_refl 0
  | c :: l, h => by
    have h1 := our_le (l := l) fun d hd => h d (.tail _ hd)
    have h2 := h c (.head _)
    have e1 : ourS (c :: l) = ourC c + ourS l := by simp [ourS]
    have e2 : heldS (c :: l) = held c.holds + heldS l := by simp [heldS]
    have e3 : totL (c :: l) = (held c.holds + c.loc + c.rem) + totL l := by
      simp only [totL, List.map_cons, List.sum_cons]
      rw [allC, sumsC, if_pos h2]
    have h4 : ourC c ≤ c.loc := by unfold ourC; split <;> omega
    omega
theorem our_succ {l : List Ch} {i : Nat} (h : i < l.length) : ourS (l.take (i + 1)) = ourS (l.take i) + ourC (l.getD i default) ∧ heldS (l.take (i + 1)) = heldS (l.take i) + held (l.getD i default).holds := by
  rw [take_succ h, ourS, heldS, List.map_append, List.sum_append, List.map_append, List.sum_append]; simp [ourS, heldS]
theorem our_take {l : List Ch} {i : Nat} : ourS (l.take i) ≤ ourS l ∧ heldS (l.take i) ≤ heldS l := by
  have e1 : ourS l = ourS (l.take i) + ourS (l.drop i) := by
    conv => lhs; rw [← List.take_append_drop i l]
    rw [ourS, List.map_append, List.sum_append]; rfl
  have e2 : heldS l = heldS (l.take i) + heldS (l.drop i) := by
    conv => lhs; rw [← List.take_append_drop i l]
    rw [heldS, List.map_append, List.sum_append]; rfl
  omega
@[go_sem] def ours_r (l : List Ch) : D := .tup [.int .u64 ((oursL l).1 : Int), .int .u64 ((oursL l).2.1 : Int), .int .i64 (oursL l).2.2]
@[go_sem] abbrev n_ours : FuncId := 43
@[go_sem] def ours_T : Tab := [(102, sp_lcheck), (118, sp_cheld)]
theorem ours_T_ok : TabOk Tryz.prog ours_T := (TabOk.cons sp_lcheck_ok (TabOk.cons sp_cheld_ok TabOk.nil))
set_option maxRecDepth 8000 in
set_option maxHeartbeats 1000000 in
theorem ours_ok (l : List Ch)  : PureFn Tryz.prog 43 [.sl (chs l)] (ours_r l) := by
  refine .of (ac43 ours_T_ok (Nat.le_of_ble_eq_true rfl) ?_)
  simp -implicitDefEqProofs only [cdA, go_sem, Go.Proofs.Tryz.f43, reduceIte, reduceCtorEq, Nat.reduceEqDiff, Nat.reduceAdd, Nat.reduceLeDiff, Nat.reduceSub, Nat.reduceMul, Nat.reduceLT, Nat.reduceShiftRight, Nat.reduceMod, Int.reduceLE, Int.reduceLT, Int.reduceToNat, cdB, List.cons.injEq, true_and, and_true]
  have hl0 : chkL l = 0 ↔ okLd l := by unfold chkL; split <;> rename_i h <;> simp only [h] <;> decide
  refine ⟨fun h0 hl => ?_, fun h0 => by
    have hno : ¬ okLd l := fun h => h0 (hl0.2 h)
    rw [oursL, chkL, if_neg hno, if_neg hno]; exact ⟨rfl, rfl, rfl⟩⟩
  have hok := hl0.1 h0
  have hle := our_le hok.2.1
  have htl := hok.2.2.2.2
  have e : oursL l = (ourS l, heldS l, 0) := by rw [oursL, if_pos hok]
  rw [e]
  refine SWp.loop (ι := { i : Nat // i ≤ l.length }) (fun i => ⟨[(2, .int .u64 (ourS (l.take i.1) : Nat)), (3, .int .u64 (heldS (l.take i.1) : Nat)), (14, .sl (chs l)), (15, .int .i64 l.length), (16, .int .i64 i.1)], [], 0⟩) (fun i => l.length - i.1) ⟨0, by omega⟩ ?_ ?_
  · simp [go_sem, ourS, heldS]
  · rintro ⟨i, hi⟩
    refine awp_sound ours_T_ok.toS lv43 _ _ _ rfl ?_
    simp -implicitDefEqProofs only [cdA, go_sem, reduceIte, reduceCtorEq, Nat.reduceEqDiff, Nat.reduceAdd, Nat.reduceLeDiff, Nat.reduceSub, Nat.reduceMul, Nat.reduceLT, Nat.reduceShiftRight, Nat.reduceMod, Int.reduceLE, Int.reduceLT, Int.reduceToNat, cdB, List.cons.injEq, true_and, and_true]
    refine ⟨fun h1 => ⟨by omega, ?_⟩, fun h1 => ?_⟩
    · have hi' : i < l.length := by omega
      obtain ⟨s1, s2⟩ := our_succ hi'
      obtain ⟨t1, t2⟩ := our_take (l := l) (i := i + 1)
      have hc := hok.2.1 _ (mem_getD.2 ⟨i, hi', rfl⟩)
      have e1 : (sumsC (l.getD i default)).1 = held (l.getD i default).holds := by rw [sumsC, if_pos hc]
      have hs := sumsC_0.2 hc
      unfold MM ourC at *
      rw [e1, hs]
      refine ⟨fun _ => ⟨fun h2 => ?_, fun h2 => ?_⟩, fun h => absurd rfl h⟩
      · rw [if_pos h2] at s1
        exact ⟨⟨i + 1, hi'⟩, by dsimp only; omega, by rw [u64_in _ (by omega)]; dsimp only; omega, by rw [u64_in _ (by omega)]; dsimp only; omega, i64_in _ (by omega)⟩
      · rw [if_neg (by rw [h2]; decide)] at s1
        exact ⟨⟨i + 1, hi'⟩, by dsimp only; omega, by dsimp only; omega, by rw [u64_in _ (by omega)]; dsimp only; omega, i64_in _ (by omega)⟩
    · have hi' : i = l.length := by omega
      subst hi'
      rw [List.take_length]; exact ⟨rfl, rfl⟩
def sp_ours : List D → Option (Prop × D × Fr)
  | [.c (.sl z378)] => some (z378 = chs (dchs z378), ours_r (dchs z378), [])
  | _ => none
attribute [go_sem] sp_ours
theorem sp_ours_ok : ∀ rs p r fr, sp_ours rs = some (p, r, fr) → p → FnOk Tryz.prog 43 rs r fr := by
  intro rs p r fr h hp
  unfold sp_ours at h
  split at h <;> cases h
  have hc0 := hp
  rename_i z378
  obtain ⟨z378, rfl⟩ : ∃ m, z378 = chs m := ⟨_, hc0⟩
  simp only [dchs_chs]
  exact ours_ok z378
end Dm
namespace Dm
open Go
section
variable {δ : List Deferred} {P : Program} {T : Tab} {g g' : G} {s s' r e : St} {a : Act} {w : World} {n N : Nat} {F F' : Nat → Prop} {all : Array Oper}
theorem drawn_soundK {k : Nat} (hk : k < all.size) (hanc : ∀ j, j < k → Anc all j k) (hch : ∀ t, k < t → t < all.size → ∃ o ed, all[t]? = some o ∧ ed ∈ o.after ∧ Region.binds .any ed = true ∧ ed.on = t - 1) (hT : TabS P T) (hd : all.toList.all (dstOk1 n) = true) (hE : ∀ (i : Nat) o, all[i]? = some o → ∀ ed ∈ o.after, Region.binds .any ed = true → ed.on < i) {Q : Exit → Act → World → Prop} : ∀ (fuel : Nat) (listed : Array Bool) (l : List Ent) (g : G) (s : St) (a : Act) (w : World),
    l.length = fuel → listed.size = all.size → Down all listed → (∀ i, i < k → (listed.getD i true = false ↔ ∃ x ∈ l, x.i = i)) → (∀ i, k ≤ i → i < all.size → listed.getD i true = false) → (∀ x ∈ l, x.i < k ∧ all[x.i]? = some x.o) → l.Pairwise (Two all) → (∀ x ∈ l, x.r.nx ≤ e.nx ∧ x.B ≤ x.r.nx) →
    Tr P T all l s e → RelP (Free l e) δ g s a w → a.tmps.size = n → (∀ g' (listed' : Array Bool) a' w', listed'.size = all.size → (∀ i, i < all.size → listed'.getD i true = decide (i < k)) → RelP (fun id => e.nx ≤ id) δ g' e a' w' → a'.tmps.size = n → Step g s w g' e w' → wpAny P .any all Q (all.size - k) listed' a' w') →
    wpAny P .any all Q (fuel + (all.size - k)) listed a w
  | 0, listed, l, g, s, a, w, hl, hsz, hdn, hli, hlk, ho, hp, hnx, htr, hr, hn, hQ => by
    have : l = [] := List.eq_nil_of_length_eq_zero hl
    subst this
    rw [Nat.zero_add]
    refine hQ g listed a w hsz (fun i hi => ?_) ((hr.eqv htr).less fun id hid => .inr hid) hn (Step.eqv htr.2)
    by_cases hik : i < k
    · have : listed.getD i true ≠ false := fun h => by
        obtain ⟨x, hx, _⟩ := (hli i hik).1 h
        cases hx
      rw [decide_eq_true hik]
      simpa using this
    · rw [decide_eq_false hik]; exact hlk i (by omega) hi
  | fuel + 1, listed, l, g, s, a, w, hl, hsz, hdn, hli, hlk, ho0, hp, hnx, htr, hr, hn, hQ => by
    have ho : ∀ x ∈ l, all[x.i]? = some x.o := fun x hx => (ho0 x hx).2
    have hlk' : ∀ x ∈ l, x.i < k := fun x hx => (ho0 x hx).1
    have hlt : ∀ x ∈ l, x.i < all.size := fun x hx => (Array.getElem?_eq_some_iff.1 (ho x hx)).1
    rw [show fuel + 1 + (all.size - k) = fuel + (all.size - k) + 1 by omega]
    refine ⟨fun h0 => ?_, fun i hi => ?_⟩
    · -- there is always one that may come up
      cases l with
      | nil => simp at hl
      | cons y l =>
        exfalso
        have hy := ho y (by simp)
        have hyl := hlt y (by simp)
        have : y.i ∈ Region.ready .any all listed := by
          rw [Region.ready, List.mem_filter]
          refine ⟨List.mem_range.2 hyl, ?_⟩
          have h1 : listed.getD y.i true = false := (hli y.i (hlk' y (by simp))).2 ⟨y, by simp, rfl⟩
          rw [h1, hy]
          simp only [Bool.not_false, Option.map_some, Option.getD_some, Bool.true_and, Array.all_eq_true_iff_forall_mem]
          intro ed hed
          by_cases hb : Region.binds .any ed = true
          · have h2 := hE y.i y.o hy ed hed hb
            have h3 : listed.getD ed.on true ≠ false := fun h => by
              obtain ⟨z, hz, hzi⟩ := (hli ed.on (by have := hlk' y (by simp); omega)).1 h
              rcases List.mem_cons.1 hz with rfl | hz
              · omega
              · have := (List.rel_of_pairwise_cons hp hz).1
                omega
            have h4 : ed.on < listed.size := by omega
            have h5 : listed.getD ed.on true = true := by simpa using h3
            have h6 : listed.getD ed.on false = true := by
              simp only [Array.getD, h4, dif_pos] at h5 ⊢
              exact h5
            simp [hb, h6]
          · simp [hb]
        rw [h0] at this
        cases this
    · rw [Region.ready, List.mem_filter] at hi
      obtain ⟨hi1, hi2⟩ := hi
      have hi1' := List.mem_range.1 hi1
      simp only [Bool.and_eq_true, Bool.not_eq_true'] at hi2
      obtain ⟨hi3, hi4⟩ := hi2
      have hik : i < k := by
        rcases Nat.lt_or_ge i k with h | h
        · exact h
        exfalso
        have hgo : ∀ o ed, all[i]? = some o → ed ∈ o.after → Region.binds .any ed = true → listed.getD ed.on false = true := fun o ed ho' hed hb => by
          rw [ho'] at hi4
          simp only [Option.map_some, Option.getD_some, Array.all_eq_true_iff_forall_mem] at hi4
          have := hi4 ed hed
          rw [hb] at this
          simpa using this
        rcases Nat.eq_or_lt_of_le h with h5 | h5
        · subst h5
          cases l with
          | nil => simp at hl
          | cons y l =>
            have h6 := hanc y.i (hlk' y (by simp))
            have h7 : listed.getD y.i false = true := by
              obtain ⟨o, ed, ho', he', hb, h⟩ := h6.inv
              rcases h with h | h
              · rw [← h]; exact hgo _ _ ho' he' hb
              · exact h.listed hdn (hgo _ _ ho' he' hb)
            have h8 : listed.getD y.i true = false := (hli y.i (hlk' y (by simp))).2 ⟨y, by simp, rfl⟩
            have h9 : y.i < listed.size := by rw [hsz]; exact hlt y (by simp)
            simp only [Array.getD, h9, dif_pos] at h7 h8
            rw [h7] at h8
            cases h8
        · obtain ⟨o, ed, ho', hed, hb, hon⟩ := hch i h5 hi1'
          have h6 := hgo o ed ho' hed hb
          rw [hon] at h6
          have h8 := hlk (i - 1) (by omega) (by omega)
          have h9 : i - 1 < listed.size := by omega
          simp only [Array.getD, h9, dif_pos] at h6 h8
          rw [h6] at h8
          cases h8
      obtain ⟨x, hx, rfl⟩ := (hli i hik).1 hi3
      have hxo := ho x hx
      rw [hxo] at hi4
      simp only [Option.map_some, Option.getD_some, Array.all_eq_true_iff_forall_mem] at hi4
      obtain ⟨pre, post, rfl⟩ := List.append_of_mem hx
      have hpp := List.pairwise_append.1 hp
      have hind : ∀ y ∈ pre, Ind all y x ∨ (cmB all y.o x.o = true ∧ y.r.nx = y.B) := fun y hy => by
        obtain ⟨h1, _, _, h2⟩ := hpp.2.2 y hy x (by simp)
        refine h2.resolve_left fun he => ?_
        have hgo : ∀ ed ∈ x.o.after, Region.binds .any ed = true → listed.getD ed.on false = true := fun ed hed hb => by
          have := hi4 ed hed
          rw [hb] at this
          simpa using this
        have h5 : listed.getD y.i false = true := by
          obtain ⟨o, ed, ho', he', hb, h⟩ := he.inv
          rw [hxo] at ho'; cases ho'
          rcases h with h | h
          · rw [← h]; exact hgo _ he' hb
          · exact h.listed hdn (hgo _ he' hb)
        have h6 : listed.getD y.i true = false := (hli y.i (hlk' y (by simp [hy]))).2 ⟨y, by simp [hy], rfl⟩
        have h7 : y.i < listed.size := by rw [hsz]; exact hlt y (by simp [hy])
        simp only [Array.getD, h7, dif_pos] at h5 h6
        rw [h5] at h6
        cases h6
      obtain ⟨hgx, pre', hsim, htr'⟩ := Tr.front (fun y hy => (hind y hy).imp_right (·.1)) htr
      have hn1 : ∀ y ∈ pre, ∀ id ∈ x.T, ¬ (y.B ≤ id ∧ id < y.r.nx) := fun y hy id hid => by
        rcases hind y hy with h | h
        · exact h.n1 id hid
        · omega
      have hsim2 : (pre' ++ post).map Ent.sh = (pre ++ post).map Ent.sh := by rw [List.map_append, List.map_append, hsim]
      have hback : ∀ y' ∈ pre' ++ post, ∃ y ∈ pre ++ post, y'.sh = y.sh := fun y' hy' => mem_sim hsim2 hy'
      have hpost : ∀ y ∈ post, x.r.nx ≤ y.B := fun y hy => (List.rel_of_pairwise_cons hpp.2.1 hy).2.1
      have hpre : ∀ y ∈ pre, y.r.nx ≤ x.B := fun y hy => (hpp.2.2 y hy x (by simp)).2.1
      have hxnx := hnx x (by simp)
      have hlow := hgx.facts.2.2
      unfold wpOp
      rw [hxo]
      refine ent_sound (F' := Free (pre' ++ post) e) hT hgx (List.all_eq_true.1 hd x.o (by simpa using Array.mem_of_getElem? hxo)) hr hn (fun id h1 h2 => .inl ⟨x, by simp, h1, h2⟩) (fun id hid => ?_) fun g' a' w' hr' hn' hst => ?_
      · rcases hid with ⟨y', hy', h1, h2⟩ | h1
        · obtain ⟨y, hy, hyy⟩ := hback y' hy'
          obtain ⟨_, _, _, _, a5, a6⟩ := sh_eq hyy
          rw [a5] at h1
          rw [a6] at h2
          rcases List.mem_append.1 hy with hy | hy
          · have h3 := hpre y hy
            exact ⟨.inl ⟨y, by simp [hy], h1, h2⟩, .inl (by omega), fun hm => hn1 y hy id hm ⟨h1, h2⟩⟩
          · have h3 := hpost y hy
            exact ⟨.inl ⟨y, by simp [hy], h1, h2⟩, .inr (by omega), fun hm => by have := hlow id hm; omega⟩
        · exact ⟨.inr h1, .inr (by omega), fun hm => by have := hlow id hm; omega⟩
      · have hlen' : pre'.length = pre.length := by simpa using congrArg List.length hsim
        refine drawn_soundK hk hanc hch hT hd hE fuel _ (pre' ++ post) g' _ a' w' (by simp at hl ⊢; omega) (by simpa using hsz) ?_ (fun i hi => ?_) (fun i h1 h2 => by rw [getD_set_ne true (by omega)]; exact hlk i h1 h2) (fun y' hy' => ?_) ?_ (fun y' hy' => ?_) htr' hr' hn'
          (fun g'' l'' a'' w'' h0 h0' h1 h2 h3 => hQ g'' l'' a'' w'' h0 h0' h1 h2 (hst.trans h3))
        · intro i o hi ho' ed hed hb
          have hset : ∀ k : Nat, listed.getD k false = true → (listed.setIfInBounds x.i true).getD k false = true := fun k hk => by
            by_cases hkx : k = x.i
            · subst hkx
              simp [Array.getD, hsz, hi1']
            · rw [getD_set_ne false (fun h => hkx h.symm)]; exact hk
          refine hset _ ?_
          by_cases hix : i = x.i
          · subst hix
            rw [hxo] at ho'; cases ho'
            have := hi4 ed hed
            rw [hb] at this
            simpa using this
          · rw [getD_set_ne false (fun h => hix h.symm)] at hi
            exact hdn i o hi ho' ed hed hb
        · have hne : ∀ y ∈ pre ++ post, y.i ≠ x.i := fun y hy => by
            rcases List.mem_append.1 hy with hy | hy
            · have := (hpp.2.2 y hy x (by simp)).1; omega
            · have := (List.rel_of_pairwise_cons hpp.2.1 hy).1; omega
          by_cases hix : i = x.i
          · subst hix
            have h7 : x.i < listed.size := by omega
            constructor
            · intro h
              simp [Array.getD, h7] at h
            · rintro ⟨y', hy', hyi⟩
              obtain ⟨y, hy, hyy⟩ := hback y' hy'
              exact absurd ((sh_eq hyy).1.symm.trans hyi) (hne y hy)
          · have : (listed.setIfInBounds x.i true).getD i true = listed.getD i true := by
              have hix' : x.i ≠ i := fun h => hix h.symm
              simp only [Array.getD, Array.size_setIfInBounds]
              split
              · simp only [Array.getInternal_eq_getElem]
                exact Array.getElem_setIfInBounds_ne _ hix'
              · rfl
            rw [this, hli i hi]
            constructor
            · rintro ⟨y, hy, hyi⟩
              have hy2 : y ∈ pre ++ post := by
                simp at hy ⊢
                rcases hy with h | h | h
                · exact .inl h
                · subst h; exact absurd hyi.symm hix
                · exact .inr h
              obtain ⟨y', hy', hyy⟩ := mem_sim hsim2.symm hy2
              exact ⟨y', hy', (sh_eq hyy).1.symm.trans hyi⟩
            · rintro ⟨y', hy', hyi⟩
              obtain ⟨y, hy, hyy⟩ := hback y' hy'
              exact ⟨y, by simp at hy ⊢; rcases hy with h | h <;> simp [h], (sh_eq hyy).1.symm.trans hyi⟩
        · obtain ⟨y, hy, hyy⟩ := hback y' hy'
          obtain ⟨a1, a2, _⟩ := sh_eq hyy
          rw [a1, a2]
          exact ho0 y (by simp at hy ⊢; rcases hy with h | h <;> simp [h])
        · exact pw_sim (fun _ _ _ _ h1 h2 h3 => h3.sim h1 h2) hsim2 (hp.sublist (by simp))
        · obtain ⟨y, hy, hyy⟩ := hback y' hy'
          obtain ⟨_, _, _, _, a5, a6⟩ := sh_eq hyy
          rw [a5, a6]
          exact hnx y (by simp at hy ⊢; rcases hy with h | h <;> simp [h])
def tailB (all : Array Oper) (us : List Nat) (k : Nat) : Bool := decide (k < all.size) && ((List.range k).all fun j => bitN (us.getD k 0) j) && (List.range all.size).all fun t => decide (t ≤ k) || Region.waitsFor .any all t (t - 1)
def lstK (k m : Nat) : Array Bool := (Array.range m).map fun i => decide (i < k)
theorem lstK_eq {k : Nat} {listed : Array Bool} (h : ∀ i, i < listed.size → listed.getD i true = decide (i < k)) : listed = lstK k listed.size := by
  apply Array.ext
  · simp [lstK]
  · intro i h1 h2
    have := h i h1
    simp only [Array.getD, h1, dif_pos] at this
    simp [lstK]
    simpa using this
theorem ADraw.tail (k : Nat) (us : List Nat) (hT : TabOk P T) {i : Nat} {ops : Array Oper} {Q : Exit → St → Prop} (hm : P.follows .mixedOrders = true) (hB : prsB ops 0 [] [] ops.toList us = true) (hd : ops.toList.all (dstOk1 n) = true)
    (hk : tailB ops us k = true) (hq : Region.seqB .any ops (ops.size - k) k (lstK k ops.size) = true)
    (h : dx P T ops (ops.toList.take k) us 0 [] (fun e => aops P T ops (ops.toList.drop k) e (Q .normal)) s) : ADraw P n N i ops Q s := by
  intro δ g a w hr hn
  obtain ⟨l, e, hK, ho⟩ := dx_out _ _ _ _ _ h
  obtain ⟨hp1, _, hp3, hp4⟩ := prsB_spec hB rfl (fun j p h => by simp [bitN_zero] at h) (fun j => by simp)
  simp only [tailB, Bool.and_eq_true, decide_eq_true_eq] at hk
  obtain ⟨⟨hk1, hk2⟩, hk3⟩ := hk
  have htk : ∀ j o, (ops.toList.take k)[j]? = some o → j < k ∧ ops[j]? = some o := fun j o hj => by
    rw [List.getElem?_take] at hj
    split at hj
    · rename_i hjk; exact ⟨hjk, by simpa using hj⟩
    · cases hj
  have hof : ∀ x ∈ l, x.i < k ∧ ops[x.i]? = some x.o := fun x hx => by
    obtain ⟨j, h1, h2⟩ := ho.of x hx
    have : x.i = j := by omega
    rw [this]
    exact htk j _ h2
  have hC : Ext w { w with drawn := w.drawn + 1 } := ⟨Nat.le_refl _, fun _ _ => rfl, rfl, rfl, rfl, Nat.le_succ _⟩
  obtain ⟨h6, h7⟩ := hr.o.grow hC (I := g.I) (fun b hb => hb) (fun b _ hb => hb) (fun b hb => (hr.o.cel b hb).keep (hC.2.1 b (hr.o.imm b hb).1))
  have hr' : Rel δ (g.imm g.I) s a { w with drawn := w.drawn + 1 } := hr.of h6 h7.tm rfl
  have hlen : l.length = k := by
    have hnd : (l.map (·.i)).Pairwise (· < ·) := (List.pairwise_map).2 (ho.two.imp fun h => h.1)
    have h1 : l.map (·.i) = List.range k := by
      refine List.Perm.eq_of_pairwise (le := (· < ·)) (fun a b _ _ h h' => by omega) hnd List.pairwise_lt_range ?_
      refine (List.perm_ext_iff_of_nodup (hnd.imp fun h => Nat.ne_of_lt h) List.nodup_range).2 fun q => ?_
      rw [List.mem_map, List.mem_range]
      constructor
      · rintro ⟨x, hx, rfl⟩
        exact (hof x hx).1
      · intro hq
        obtain ⟨x, hx, hxi⟩ := ho.nums q ops[q] (by rw [List.getElem?_take_of_lt hq]; simp [show q < ops.size by omega])
        exact ⟨x, hx, by omega⟩
    have h2 := congrArg List.length h1
    simpa using h2
  have hanc : ∀ j, j < k → Anc ops j k := fun j hj => by
    have hb := List.all_eq_true.1 hk2 j (List.mem_range.2 hj)
    have := hp4 k ops[k] (by simp [hk1]) j hb
    rwa [Nat.zero_add] at this
  have hch : ∀ t, k < t → t < ops.size → ∃ o ed, ops[t]? = some o ∧ ed ∈ o.after ∧ Region.binds .any ed = true ∧ ed.on = t - 1 := fun t h1 h2 => by
    have hb := List.all_eq_true.1 hk3 t (List.mem_range.2 h2)
    rw [decide_eq_false (by omega), Bool.false_or] at hb
    obtain ⟨o, h3, ed, h4, h5, h6⟩ := Region.waitsFor_spec hb
    exact ⟨o, ed, h3, h4, h5, h6⟩
  have hfuel : ops.size = l.length + (ops.size - k) := by omega
  refine wp_region_any hm ?_
  have key := drawn_soundK (e := e) (Q := fun x a' w' => ∃ g' s', Q x s' ∧ Rel δ g' s' a' w' ∧ a'.tmps.size = n ∧ StepN N g s w g' s' w') hk1 hanc hch hT.toS hd (fun i o hi ed hed hb => by
    have := hp1 i o (by simpa using hi) ed hed hb
    omega) l.length (Array.replicate ops.size false) l (g.imm g.I) s a { w with drawn := w.drawn + 1 } rfl (by simp) (fun i o hi => by by_cases hsz : i < ops.size <;> simp [Array.getD, hsz] at hi) (fun i hi => ?_) (fun i h1 h2 => by simp [Array.getD, h2]) hof ?_ (fun x hx => ⟨(ho.lo x hx).2.2, (ho.lo x hx).2.1⟩) ho.tr (hr'.toP.less fun id hid => ?_) hn (fun g' listed' a' w' hsz hls h1 h2 h3 => ?_)
  · rw [← hfuel] at key; exact key
  · constructor
    · intro _
      obtain ⟨x, hx, hxi⟩ := ho.nums i ops[i] (by rw [List.getElem?_take_of_lt hi]; simp [show i < ops.size by omega])
      exact ⟨x, hx, by omega⟩
    · intro _
      simp [Array.getD, show i < ops.size by omega]
  · refine ho.two.imp_of_mem fun {y x} hy hx h => ⟨h.1, h.2.1, h.2.2.1, ?_⟩
    rw [Nat.sub_zero] at h
    by_cases hed : bitN (us.getD x.i 0) y.i = true
    · left
      have := hp4 x.i x.o (by simpa using (hof x hx).2) y.i hed
      rwa [Nat.zero_add] at this
    · right; left
      have h8 := indF_spec (h.2.2.2.resolve_right hed)
      have h9 := hp3 y.i x.i y.o x.o h.1 (by simpa using (hof y hy).2) (by simpa using (hof x hx).2)
      rw [Nat.zero_add] at h9
      exact ⟨h9.resolve_left hed, h8.1, h8.2.1, h8.2.2, h.2.1, h.2.2.1⟩
  · rcases hid with ⟨x, hx, h1, h2⟩ | h1
    · have := ho.lo x hx; omega
    · have := ho.nx; omega
  · have hle : listed' = lstK k ops.size := by rw [← hsz]; exact lstK_eq fun i hi => hls i (by omega)
    have hrel : Rel δ g' e a' w' := h1.toR fun id hid => hid
    have h10 : Step g s w (g.imm g.I) s { w with drawn := w.drawn + 1 } := h7.tm
    have hdl : (ops.toList.drop k).length = ops.size - k := by simp
    have := wpAny_of_seq (P := P) (md := .any) (ops := ops) (Q' := fun x a' w' => ∃ g' s', Q x s' ∧ Rel δ g' s' a' w' ∧ a'.tmps.size = n ∧ StepN N g s w g' s' w') (ops.toList.drop k) k listed' a' w' (fun j => by simp) (by rw [hdl, hle]; exact hq)
      (aops_sound hT.toS ops _ (fun o ho => List.all_eq_true.1 hd o (List.mem_of_mem_drop ho)) hK hrel h2 fun a'' w'' ⟨g'', s'', q1, q2, q3, q4⟩ => ⟨g'', s'', q1, q2, q3, ((h10.trans h3).trans q4).toN⟩)
    rwa [hdl] at this
end
end Dm
namespace Dm
open Go Go.Proofs Go.IntWalk
@[go_sem] def lins_T2 : Tab := [ovk 233]
theorem lins_T2_ok : TabOk Tryz.prog lins_T2 := .cons (ov_ok 233) .nil
@[go_sem] def lins_T3 : Tab := [fg 12]
theorem lins_T3_ok : TabOk Tryz.prog lins_T3 := .cons (fg_ok 12) .nil
theorem lins_wide (l : List Ch) : Wide 7 (chs l) := of_eq_true (chs_wide l)
set_option maxRecDepth 8000 in
set_option maxHeartbeats 1000000 in
theorem lins_ok (l : List Ch) (x : Ch) (i : Nat) (hi : i ≤ l.length) (hl : l.length ≤ 1000000) :
    ACall Tryz.prog 184 [.vec 0 l.length, .int .i64 i, .vec 1 1] [(1, .vec true 7 50 (chs [x])), (0, .vec true 7 50 (chs l))] 2 fun d os _ => Grown 7 50 (chs (Srt.ins l i x)) d os := by
  have hil : (Srt.ins l i x).length = l.length + 1 := Srt.ins_len
  have hq : ∀ j os, lk j os = some (.vec true 7 50 (chs (Srt.ins l i x))) → Grown 7 50 (chs (Srt.ins l i x)) (.vec j (l.length + 1)) os := fun j os h => ⟨j, by rw [chs_length, hil], h⟩
  by_cases hin : i = l.length
  · refine ac184 lins_T3_ok (Nat.le_of_ble_eq_true rfl) ?_
    have e4 : ((1 : Int) = 0) = False := eq_false (by decide)
    subst hin
    simp -implicitDefEqProofs only [cdA, go_sem, Go.Proofs.Tryz.f184, e4, decide_true, reduceIte, reduceCtorEq, Nat.reduceEqDiff, Nat.reduceAdd, Nat.reduceLeDiff, Nat.reduceSub, Nat.reduceMul, Nat.reduceLT, Nat.reduceShiftRight, Nat.reduceMod, Int.reduceLE, Int.reduceLT, Int.reduceToNat, cdB, List.cons.injEq, true_and, and_true]
    refine ⟨Int.le_refl _, fun h => h.elim, fun _ => ⟨by omega, hq _ _ ?_⟩⟩
    rw [lk_cons, if_neg (by decide), lk_hd]
    simp [Srt.ins]
  · have hlt : i < l.length := by omega
    refine ACall.opn 0 rfl (by rw [chs_length]; omega) fun c hc hcm => ?_
    refine ACall.sld ?_
    rw [chs_length] at hc
    refine ac184 lins_T2_ok (Nat.le_of_ble_eq_true rfl) ?_
    have e1 : IntKind.i64.wrap ((l.length : Int) + 1) = ((l.length + 1 : Nat) : Int) := by rw [i64_in _ (by omega)]; omega
    have e2 : IntKind.i64.wrap ((i : Int) + 1) = ((i + 1 : Nat) : Int) := by rw [i64_in _ (by omega)]; omega
    have e3 : ((i : Int) = (l.length : Int)) = False := eq_false (by omega)
    have e4 : ((1 : Int) = 0) = False := eq_false (by decide)
    have e5 : IntKind.i64.wrap ((l.length : Int) + 1 - (i : Int)) = ((l.length + 1 - i : Nat) : Int) := by rw [i64_in _ (by omega)]; omega
    have e6 : ((l.length : Int) + 1).toNat = l.length + 1 := by omega
    have e7 : ((i : Int) + 1).toNat = i + 1 := by omega
    have e8 : i + (l.length + 1 - i) = l.length + 1 := by omega
    simp -implicitDefEqProofs only [cdA, go_sem, Go.Proofs.Tryz.f184, e3, e4, e1, e2, e5, e6, e7, e8, decide_false, reduceIte, reduceCtorEq, Nat.reduceEqDiff, Nat.reduceAdd, Nat.reduceLeDiff, Nat.reduceSub, Nat.reduceMul, Nat.reduceLT, Nat.reduceShiftRight, Nat.reduceMod, Int.reduceLE, Int.reduceLT, Int.reduceToNat, cdB, List.cons.injEq, true_and, and_true]
    refine ⟨by omega, fun _ => ⟨fun h1 => ⟨by omega, by omega, fun c1 h2 h3 => ⟨by omega, ?_⟩⟩, fun h1 => ⟨by omega, by omega, ?_, ?_⟩⟩⟩
    · refine ADraw.run us184_11 lins_T2_ok follows_mixed (by kernel_rfl) (by kernel_rfl) ?_
      simp -implicitDefEqProofs only [cdA, go_sem, e1, e2, e5, e6, e7, e8, reduceIte, reduceCtorEq, Nat.reduceEqDiff, Nat.reduceAdd, Nat.reduceLeDiff, Nat.reduceSub, Nat.reduceMul, Nat.reduceLT, Nat.reduceShiftRight, Nat.reduceMod, Int.reduceLE, Int.reduceLT, Int.reduceToNat, cdB, List.cons.injEq, true_and, and_true]
      refine ⟨by omega, by omega, fun y hy => fit_wide (lins_wide l) y (List.mem_of_mem_take (List.mem_of_mem_drop hy)), ?_⟩
      have := ins_new (sz := 7) (c := c) (c1 := c1) (i := i) (E := chs l) (x := x.enc) (z := [C.int .u64 0, C.int .u64 0, C.int .u64 0, C.int .u64 0, C.int .u64 0, C.sl [], C.bool false]) (by rw [chs_length]; exact hlt) (by rw [chs_length]; exact hc) (by rw [chs_length]; exact h2)
      rw [chs_length] at this
      refine hq _ _ ?_
      rw [lk_hd]
      congr 2
      rw [show chs (List.take (l.length + 1 - i) [x]) = List.take (l.length + 1 - i) [x.enc] by simp [chs], this]
      simp [chs, Srt.ins]
    · exact ⟨_, 22, 4, _, rfl, rfl, rfl, rfl, by kernel_rfl, elOf_22⟩
    · refine ADraw.run us184_15 lins_T2_ok follows_mixed (by kernel_rfl) (by kernel_rfl) ?_
      simp -implicitDefEqProofs only [cdA, go_sem, e1, e2, e5, e6, e7, e8, reduceIte, reduceCtorEq, Nat.reduceEqDiff, Nat.reduceAdd, Nat.reduceLeDiff, Nat.reduceSub, Nat.reduceMul, Nat.reduceLT, Nat.reduceShiftRight, Nat.reduceMod, Int.reduceLE, Int.reduceLT, Int.reduceToNat, cdB, List.cons.injEq, true_and, and_true]
      refine ⟨by omega, by omega, fun y hy => fit_wide (lins_wide l) y (List.mem_of_mem_take (List.mem_of_mem_drop hy)), by omega, ?_⟩
      have := ins_old (sz := 7) (c := c) (i := i) (E := chs l) (x := x.enc) (by rw [chs_length]; exact hlt) (by rw [chs_length]; omega)
      rw [chs_length] at this
      refine hq _ _ ?_
      rw [lk_hd]
      congr 2
      rw [show chs (List.take (l.length + 1 - i) [x]) = List.take (l.length + 1 - i) [x.enc] by simp [chs], this]
      simp [chs, Srt.ins]

def chkC (c : Ch) : Int := if okCh c then 0 else 1
@[go_sem] def ccheck_r (c : Ch) : D := .int .i64 (chkC c)
@[go_sem] abbrev n_ccheck : FuncId := 183
@[go_sem] def ccheck_T : Tab := [(203, sp_csums)]
theorem ccheck_T_ok : TabOk Tryz.prog ccheck_T := (TabOk.cons sp_csums_ok TabOk.nil)
set_option maxRecDepth 8000 in
set_option maxHeartbeats 1000000 in
theorem ccheck_ok (c : Ch)  : PureFn Tryz.prog 183 [.agg [.c (.int .u64 (c.id : Int)), .c (.int .u64 (c.loc : Int)), .c (.int .u64 (c.rem : Int)), .c (.int .u64 (c.res : Int)), .c (.int .u64 (c.most : Int)), .sl (hds c.holds), .c (.bool c.op)]] (ccheck_r c) := by
  refine .of (ac183 ccheck_T_ok (Nat.le_of_ble_eq_true rfl) ?_)
  simp -implicitDefEqProofs only [cdA, go_sem, Go.Proofs.Tryz.f183, reduceIte, reduceCtorEq, Nat.reduceEqDiff, Nat.reduceAdd, Nat.reduceLeDiff, Nat.reduceSub, Nat.reduceMul, Nat.reduceLT, Nat.reduceShiftRight, Nat.reduceMod, Int.reduceLE, Int.reduceLT, Int.reduceToNat, cdB, List.cons.injEq, true_and, and_true]
  unfold sumsC chkC
  split <;> rfl
def sp_ccheck : List D → Option (Prop × D × Fr)
  | [.agg [.c (.int .u64 z336), .c (.int .u64 z337), .c (.int .u64 z338), .c (.int .u64 z339), .c (.int .u64 z340), .c (.sl z341), .c (.bool z342)]] => some (z336 = (z336.toNat : Int) ∧ z337 = (z337.toNat : Int) ∧ z338 = (z338.toNat : Int) ∧ z339 = (z339.toNat : Int) ∧ z340 = (z340.toNat : Int) ∧ z341 = hds (dhds z341), ccheck_r (⟨z336.toNat, z337.toNat, z338.toNat, z339.toNat, z340.toNat, (dhds z341), z342⟩ : Ch), [])
  | _ => none
attribute [go_sem] sp_ccheck
theorem sp_ccheck_ok : ∀ rs p r fr, sp_ccheck rs = some (p, r, fr) → p → FnOk Tryz.prog 183 rs r fr := by
  intro rs p r fr h hp
  unfold sp_ccheck at h
  split at h <;> cases h
  obtain ⟨hc0, hc1, hc2, hc3, hc4, hc5⟩ := hp
  rename_i z336 z337 z338 z339 z340 z341 z342
  obtain ⟨z336, rfl⟩ : ∃ m : Nat, z336 = m := ⟨_, hc0⟩
  obtain ⟨z337, rfl⟩ : ∃ m : Nat, z337 = m := ⟨_, hc1⟩
  obtain ⟨z338, rfl⟩ : ∃ m : Nat, z338 = m := ⟨_, hc2⟩
  obtain ⟨z339, rfl⟩ : ∃ m : Nat, z339 = m := ⟨_, hc3⟩
  obtain ⟨z340, rfl⟩ : ∃ m : Nat, z340 = m := ⟨_, hc4⟩
  obtain ⟨z341, rfl⟩ : ∃ m, z341 = hds m := ⟨_, hc5⟩
  simp only [Int.toNat_natCast, dhds_hds]
  exact ccheck_ok ⟨z336, z337, z338, z339, z340, z341, z342⟩
def openL (l : List Ch) (c : Ch) : List Ch × Int :=
  if ¬ okCh c ∨ c.op = false ∨ 0 < c.holds.length ∨ ¬ okLd l then ([], 1) else if Srt.thr Ch.id ltN l c.id = true then ([], 6) else if l.length = 32 then ([], 7) else if okLd (Srt.ins l (Srt.pos Ch.id ltN l c.id) c) then (Srt.ins l (Srt.pos Ch.id ltN l c.id) c, 0) else ([], 8)
@[go_sem] def lopen_r (l : List Ch) (c : Ch) : D := .tup [.sl (chs (openL l c).1), .int .i64 (openL l c).2]
@[go_sem] abbrev n_lopen : FuncId := 94
@[go_sem] def lopen_T : Tab := [(183, sp_ccheck), (102, sp_lcheck), (144, sp_lorder), (64, sp_own), (185, sp_owns)]
theorem lopen_T_ok : TabOk Tryz.prog lopen_T := (TabOk.cons sp_ccheck_ok (TabOk.cons sp_lcheck_ok (TabOk.cons sp_lorder_ok (TabOk.cons sp_own_ok (TabOk.cons sp_owns_ok TabOk.nil)))))
set_option maxRecDepth 8000 in
set_option maxHeartbeats 1000000 in
theorem lopen_ok (l : List Ch) (c : Ch)  : PureFn Tryz.prog 94 [.sl (chs l), .agg [.c (.int .u64 (c.id : Int)), .c (.int .u64 (c.loc : Int)), .c (.int .u64 (c.rem : Int)), .c (.int .u64 (c.res : Int)), .c (.int .u64 (c.most : Int)), .sl (hds c.holds), .c (.bool c.op)]] (lopen_r l c) := by
  refine .of (ac94 lopen_T_ok (Nat.le_of_ble_eq_true rfl) ?_)
  simp -implicitDefEqProofs only [cdA, go_sem, Go.Proofs.Tryz.f94, reduceIte, reduceCtorEq, Nat.reduceEqDiff, Nat.reduceAdd, Nat.reduceLeDiff, Nat.reduceSub, Nat.reduceMul, Nat.reduceLT, Nat.reduceShiftRight, Nat.reduceMod, Int.reduceLE, Int.reduceLT, Int.reduceToNat, cdB, List.cons.injEq, true_and, and_true]
  have hbad : (¬ okCh c ∨ c.op = false ∨ 0 < c.holds.length ∨ ¬ okLd l) → chs (openL l c).1 = [] ∧ 1 = (openL l c).2 := fun h => by rw [openL, if_pos h]; exact ⟨rfl, rfl⟩
  have hc0 : chkC c = 0 ↔ okCh c := by unfold chkC; split <;> rename_i h <;> simp only [h] <;> decide
  have hl0 : chkL l = 0 ↔ okLd l := by unfold chkL; split <;> rename_i h <;> simp only [h] <;> decide
  refine ⟨fun h1 => ⟨fun h2 _ => ⟨fun h3 => ⟨fun h4 => ?_, fun h4 => hbad (.inr (.inr (.inr fun h => h4 (hl0.2 h))))⟩, fun h3 => hbad (.inr (.inr (.inl (by omega))))⟩, fun h2 => hbad (.inr (.inl (by simpa using h2)))⟩, fun h1 => hbad (.inl fun h => h1 (hc0.2 h))⟩
  have hok := hl0.1 h4
  have hcc := hc0.1 h1
  have hop : c.op = true := by simpa using h2
  have hA : ¬ (¬ okCh c ∨ c.op = false ∨ 0 < c.holds.length ∨ ¬ okLd l) := by
    rintro (h | h | h | h)
    · exact h hcc
    · rw [hop] at h; cases h
    · omega
    · exact h hok
  have hu : Srt.Up Ch.id ltN l := (Srt.chn_up (lt := ltN) Srt.totNat).1 hok.2.2.1
  have hl32 := hok.1
  refine ac152 lopen_T_ok (Nat.le_of_ble_eq_true rfl) ?_
  simp -implicitDefEqProofs only [cdA, go_sem, Go.Proofs.Tryz.f152, reduceIte, reduceCtorEq, Nat.reduceEqDiff, Nat.reduceAdd, Nat.reduceLeDiff, Nat.reduceSub, Nat.reduceMul, Nat.reduceLT, Nat.reduceShiftRight, Nat.reduceMod, Int.reduceLE, Int.reduceLT, Int.reduceToNat, cdB, List.cons.injEq, true_and, and_true]
  refine fun _ => SWp.loop (ι := { x : Nat × Nat // x.1 ≤ x.2 ∧ x.2 ≤ l.length ∧ (∀ k, k < x.1 → (l.getD k default).id < c.id) ∧ ∀ k, x.2 ≤ k → k < l.length → ¬ (l.getD k default).id < c.id }) (fun x => ⟨[(0, .sl (chs l)), (1, .c (.int .u64 c.id)), (2, .fn (.func 144) [] []), (8, .int .i64 l.length), (9, .int .i64 x.1.1), (10, .int .i64 x.1.2)],
    [(0, .box [.c (.int .u64 c.id), .c (.int .u64 c.loc), .c (.int .u64 c.rem), .c (.int .u64 c.res), .c (.int .u64 c.most), .sl (hds c.holds), .c (.bool c.op)])], 1⟩) (fun x => x.1.2 - x.1.1) ⟨(0, l.length), by simp, by simp, fun k hk => absurd hk (by simp), fun k h1 h2 => absurd h1 (by simpa using h2)⟩ ?_ ?_
  · simp [go_sem]
  · rintro ⟨⟨i, j⟩, hij, hj, hlo, hup⟩
    dsimp only at hij hj hlo hup
    refine awp_sound lopen_T_ok.toS lv152 _ _ _ rfl ?_
    simp -implicitDefEqProofs only [cdA, go_sem, reduceIte, reduceCtorEq, Nat.reduceEqDiff, Nat.reduceAdd, Nat.reduceLeDiff, Nat.reduceSub, Nat.reduceMul, Nat.reduceLT, Nat.reduceShiftRight, Nat.reduceMod, Int.reduceLE, Int.reduceLT, Int.reduceToNat, cdB, List.cons.injEq, true_and, and_true]
    rw [mid_eq hij hj ‹_›]
    refine ⟨fun h4 => ?_, fun h4 => ?_⟩
    · have hm : (i + j) / 2 < l.length := by omega
      rw [cmpS_neg, Int.toNat_natCast]
      refine ⟨by omega, fun h5 => ⟨⟨((i + j) / 2 + 1, j), by dsimp only; omega, hj, fun k hk => ?_, hup⟩, by dsimp only; omega, i64_in _ (by omega), rfl⟩, fun h5 => ⟨⟨(i, (i + j) / 2), by dsimp only; omega, by dsimp only; omega, hlo, fun k hk1 hk2 => ?_⟩, by dsimp only; omega, rfl, rfl⟩⟩
      · dsimp only at hk
        by_cases hkm : k = (i + j) / 2
        · rw [hkm]; omega
        · have := Srt.up_get.1 hu k _ (by omega) hm
          simp only [ltN] at this; omega
      · dsimp only at hk1
        by_cases hkm : k = (i + j) / 2
        · rw [hkm]; omega
        · have := Srt.up_get.1 hu ((i + j) / 2) k (by omega) hk2
          simp only [ltN] at this; omega
    · have hp : Srt.pos Ch.id ltN l c.id = i := Srt.pos_eq (by omega) hlo (fun h => hup i (by omega) h)
      have hth : Srt.thr Ch.id ltN l c.id = decide (i < l.length ∧ (l.getD i default).id = c.id) := by rw [Srt.thr, hp]
      refine ⟨fun h5 => ⟨by omega, fun h6 => ?_, fun h6 _ => ⟨fun h7 => ?_, fun h7 => ?_⟩⟩, fun h5 _ => ⟨fun h7 => ?_, fun h7 => ?_⟩⟩
      · rw [openL, if_neg hA, if_pos (by rw [hth]; exact decide_eq_true ⟨by omega, by have := cmpS_0.1 h6; omega⟩)]; exact ⟨rfl, rfl⟩
      · have ht : ¬ Srt.thr Ch.id ltN l c.id = true := by rw [hth, decide_eq_true_eq]; rintro ⟨h8, h9⟩; exact h6 (cmpS_0.2 (by omega))
        rw [openL, if_neg hA, if_neg ht, if_pos (by omega)]; exact ⟨rfl, rfl⟩
      · have ht : ¬ Srt.thr Ch.id ltN l c.id = true := by rw [hth, decide_eq_true_eq]; rintro ⟨h8, h9⟩; exact h6 (cmpS_0.2 (by omega))
        refine ADraw.tail 6 us94_8 lopen_T_ok follows_mixed (by kernel_rfl) (by kernel_rfl) (by kernel_rfl) (by kernel_rfl) ?_
        simp -implicitDefEqProofs only [cdA, go_sem, List.take_succ_cons, List.take_zero, List.drop_succ_cons, List.drop_zero, reduceIte, reduceCtorEq, Nat.reduceEqDiff, Nat.reduceAdd, Nat.reduceLeDiff, Nat.reduceSub, Nat.reduceMul, Nat.reduceLT, Nat.reduceShiftRight, Nat.reduceMod, Int.reduceLE, Int.reduceLT, Int.reduceToNat, cdB, List.cons.injEq, true_and, and_true]
        refine ⟨⟨by omega, fun d hd => by have := (hok.2.1 d hd).2.2.1; omega⟩, by omega, ?_⟩
        refine ACall.grow (mid := [.int .i64 _]) (lins_ok l c i (by omega) (by omega)) rfl rfl (by decide) (by simp [Srt.ins_len]) (fun d hd g g' w v hv => ?_) ?_
        · simp at hd; subst hd
          cases hv with
          | c _ _ h => cases h; exact .c _ _ (.int _ _)
        · simp -implicitDefEqProofs only [cdA, go_sem, reduceIte, reduceCtorEq, Nat.reduceEqDiff, Nat.reduceAdd, Nat.reduceLeDiff, Nat.reduceSub, Nat.reduceMul, Nat.reduceLT, Nat.reduceShiftRight, Nat.reduceMod, Int.reduceLE, Int.reduceLT, Int.reduceToNat, cdB, List.cons.injEq, true_and, and_true]
          have hl0' : chkL (Srt.ins l i c) = 0 ↔ okLd (Srt.ins l i c) := by unfold chkL; split <;> rename_i h <;> simp only [h] <;> decide
          refine ⟨fun h8 => ?_, fun h8 => ?_⟩
          · rw [openL, if_neg hA, if_neg ht, if_neg (by omega), hp, if_pos (hl0'.1 h8)]; exact ⟨⟨rfl, _, _, _, rfl⟩, rfl⟩
          · rw [openL, if_neg hA, if_neg ht, if_neg (by omega), hp, if_neg fun h => h8 (hl0'.2 h)]; exact ⟨rfl, rfl⟩
      · have ht : ¬ Srt.thr Ch.id ltN l c.id = true := by rw [hth, decide_eq_true_eq]; omega
        rw [openL, if_neg hA, if_neg ht, if_pos (by omega)]; exact ⟨rfl, rfl⟩
      · have ht : ¬ Srt.thr Ch.id ltN l c.id = true := by rw [hth, decide_eq_true_eq]; omega
        refine ADraw.tail 6 us94_8 lopen_T_ok follows_mixed (by kernel_rfl) (by kernel_rfl) (by kernel_rfl) (by kernel_rfl) ?_
        simp -implicitDefEqProofs only [cdA, go_sem, List.take_succ_cons, List.take_zero, List.drop_succ_cons, List.drop_zero, reduceIte, reduceCtorEq, Nat.reduceEqDiff, Nat.reduceAdd, Nat.reduceLeDiff, Nat.reduceSub, Nat.reduceMul, Nat.reduceLT, Nat.reduceShiftRight, Nat.reduceMod, Int.reduceLE, Int.reduceLT, Int.reduceToNat, cdB, List.cons.injEq, true_and, and_true]
        refine ⟨⟨by omega, fun d hd => by have := (hok.2.1 d hd).2.2.1; omega⟩, by omega, ?_⟩
        refine ACall.grow (mid := [.int .i64 _]) (lins_ok l c i (by omega) (by omega)) rfl rfl (by decide) (by simp [Srt.ins_len]) (fun d hd g g' w v hv => ?_) ?_
        · simp at hd; subst hd
          cases hv with
          | c _ _ h => cases h; exact .c _ _ (.int _ _)
        · simp -implicitDefEqProofs only [cdA, go_sem, reduceIte, reduceCtorEq, Nat.reduceEqDiff, Nat.reduceAdd, Nat.reduceLeDiff, Nat.reduceSub, Nat.reduceMul, Nat.reduceLT, Nat.reduceShiftRight, Nat.reduceMod, Int.reduceLE, Int.reduceLT, Int.reduceToNat, cdB, List.cons.injEq, true_and, and_true]
          have hl0' : chkL (Srt.ins l i c) = 0 ↔ okLd (Srt.ins l i c) := by unfold chkL; split <;> rename_i h <;> simp only [h] <;> decide
          refine ⟨fun h8 => ?_, fun h8 => ?_⟩
          · rw [openL, if_neg hA, if_neg ht, if_neg (by omega), hp, if_pos (hl0'.1 h8)]; exact ⟨⟨rfl, _, _, _, rfl⟩, rfl⟩
          · rw [openL, if_neg hA, if_neg ht, if_neg (by omega), hp, if_neg fun h => h8 (hl0'.2 h)]; exact ⟨rfl, rfl⟩
def sp_lopen : List D → Option (Prop × D × Fr)
  | [.c (.sl z343), .agg [.c (.int .u64 z345), .c (.int .u64 z346), .c (.int .u64 z347), .c (.int .u64 z348), .c (.int .u64 z349), .c (.sl z350), .c (.bool z351)]] => some (z343 = chs (dchs z343) ∧ z345 = (z345.toNat : Int) ∧ z346 = (z346.toNat : Int) ∧ z347 = (z347.toNat : Int) ∧ z348 = (z348.toNat : Int) ∧ z349 = (z349.toNat : Int) ∧ z350 = hds (dhds z350), lopen_r (dchs z343) (⟨z345.toNat, z346.toNat, z347.toNat, z348.toNat, z349.toNat, (dhds z350), z351⟩ : Ch), [])
  | _ => none
attribute [go_sem] sp_lopen
theorem sp_lopen_ok : ∀ rs p r fr, sp_lopen rs = some (p, r, fr) → p → FnOk Tryz.prog 94 rs r fr := by
  intro rs p r fr h hp
  unfold sp_lopen at h
  split at h <;> cases h
  obtain ⟨hc0, hc1, hc2, hc3, hc4, hc5, hc6⟩ := hp
  rename_i z343 z345 z346 z347 z348 z349 z350 z351
  obtain ⟨z343, rfl⟩ : ∃ m, z343 = chs m := ⟨_, hc0⟩
  obtain ⟨z345, rfl⟩ : ∃ m : Nat, z345 = m := ⟨_, hc1⟩
  obtain ⟨z346, rfl⟩ : ∃ m : Nat, z346 = m := ⟨_, hc2⟩
  obtain ⟨z347, rfl⟩ : ∃ m : Nat, z347 = m := ⟨_, hc3⟩
  obtain ⟨z348, rfl⟩ : ∃ m : Nat, z348 = m := ⟨_, hc4⟩
  obtain ⟨z349, rfl⟩ : ∃ m : Nat, z349 = m := ⟨_, hc5⟩
  obtain ⟨z350, rfl⟩ : ∃ m, z350 = hds m := ⟨_, hc6⟩
  simp only [Int.toNat_natCast, dchs_chs, dhds_hds]
  exact lopen_ok z343 ⟨z345, z346, z347, z348, z349, z350, z351⟩
end Dm
namespace Dm
open Go Go.Proofs Go.IntWalk
def cenC (c : Ch) (id : Nat) (paid : Bool) : Ch × Nat × Int :=
  if okCh c then (if Srt.thr Hd.key ltN c.holds id = true then
    (⟨c.id, if paid = true then c.loc else c.loc + (c.holds.getD (Srt.pos Hd.key ltN c.holds id) default).n, if paid = true then c.rem + (c.holds.getD (Srt.pos Hd.key ltN c.holds id) default).n else c.rem, c.res, c.most, c.holds.eraseIdx (Srt.pos Hd.key ltN c.holds id), c.op⟩, (c.holds.getD (Srt.pos Hd.key ltN c.holds id) default).n, 0)
    else (default, 0, 5)) else (default, 0, 1)
theorem hds_erase (l : List Hd) (i : Nat) : (hds l).eraseIdx i = hds (l.eraseIdx i) := by
  simp [hds, List.eraseIdx_eq_take_drop_succ]
theorem erase_perm {l : List Hd} {q : Nat} {x : Hd} (hq : q < l.length) (hx : l.getD q default = x) : l.Perm (x :: l.eraseIdx q) := by
  rw [getD_lt hq] at hx
  subst hx
  rw [List.eraseIdx_eq_take_drop_succ]
  conv => lhs; rw [show l = l.take q ++ l[q] :: l.drop (q + 1) by rw [List.getElem_cons_drop, List.take_append_drop]]
  exact List.perm_middle
theorem held_ge {l : List Hd} {q : Nat} (hq : q < l.length) : (l.getD q default).n ≤ held l := by
  have hpm := erase_perm hq rfl
  unfold held
  rw [(hpm.map Hd.n).sum_nat, List.map_cons, List.sum_cons]
  exact Nat.le_add_right _ _
@[go_sem] def cfail_r (c : Ch) (id : Nat) : D := .tup [.agg [.int .u64 (cenC c id false).1.id, .int .u64 (cenC c id false).1.loc, .int .u64 (cenC c id false).1.rem, .int .u64 (cenC c id false).1.res, .int .u64 (cenC c id false).1.most, .sl (hds (cenC c id false).1.holds), .bool (cenC c id false).1.op], .int .u64 (cenC c id false).2.1, .int .i64 (cenC c id false).2.2]
@[go_sem] abbrev n_cfail : FuncId := 147
@[go_sem] def cfail_T : Tab := [(183, sp_ccheck), (153, sp_hclonef), (218, sp_horder), fg 13]
theorem cfail_T_ok : TabOk Tryz.prog cfail_T := (TabOk.cons sp_ccheck_ok (TabOk.cons sp_hclonef_ok (TabOk.cons sp_horder_ok (TabOk.cons (fg_ok 13) TabOk.nil))))
set_option maxRecDepth 8000 in
set_option maxHeartbeats 1000000 in
theorem cfail_ok (c : Ch) (id : Nat)  : PureFn Tryz.prog 147 [.agg [.c (.int .u64 (c.id : Int)), .c (.int .u64 (c.loc : Int)), .c (.int .u64 (c.rem : Int)), .c (.int .u64 (c.res : Int)), .c (.int .u64 (c.most : Int)), .sl (hds c.holds), .c (.bool c.op)], .c (.int .u64 (id : Int))] (cfail_r c id) := by
  refine .of (ac147 cfail_T_ok (Nat.le_of_ble_eq_true rfl) ?_)
  simp -implicitDefEqProofs only [cdA, go_sem, Go.Proofs.Tryz.f147, reduceIte, reduceCtorEq, Nat.reduceEqDiff, Nat.reduceAdd, Nat.reduceLeDiff, Nat.reduceSub, Nat.reduceMul, Nat.reduceLT, Nat.reduceShiftRight, Nat.reduceMod, Int.reduceLE, Int.reduceLT, Int.reduceToNat, cdB, List.cons.injEq, true_and, and_true]
  refine ac220 cfail_T_ok (Nat.le_of_ble_eq_true rfl) ?_
  simp -implicitDefEqProofs only [cdA, go_sem, Go.Proofs.Tryz.f220, reduceIte, reduceCtorEq, Nat.reduceEqDiff, Nat.reduceAdd, Nat.reduceLeDiff, Nat.reduceSub, Nat.reduceMul, Nat.reduceLT, Nat.reduceShiftRight, Nat.reduceMod, Int.reduceLE, Int.reduceLT, Int.reduceToNat, cdB, List.cons.injEq, true_and, and_true]
  have hc0 : chkC c = 0 ↔ okCh c := by unfold chkC; split <;> rename_i h <;> simp only [h] <;> decide
  refine ⟨fun h0 => ?_, fun h0 => by
    have hno : ¬ okCh c := fun h => h0 (hc0.2 h)
    rw [cenC, chkC, if_neg hno, if_neg hno]; exact ⟨⟨rfl, rfl, rfl, rfl, rfl, rfl, rfl⟩, rfl, rfl⟩⟩
  have hok := hc0.1 h0
  have hu : Srt.Up Hd.key ltN c.holds := (Srt.chn_up (lt := ltN) Srt.totNat).1 hok.2.2.2.2.2.1
  have h64 := hok.2.2.1
  refine ac217 cfail_T_ok (Nat.le_of_ble_eq_true rfl) ?_
  simp -implicitDefEqProofs only [cdA, go_sem, Go.Proofs.Tryz.f217, reduceIte, reduceCtorEq, Nat.reduceEqDiff, Nat.reduceAdd, Nat.reduceLeDiff, Nat.reduceSub, Nat.reduceMul, Nat.reduceLT, Nat.reduceShiftRight, Nat.reduceMod, Int.reduceLE, Int.reduceLT, Int.reduceToNat, cdB, List.cons.injEq, true_and, and_true]
  refine fun _ => SWp.loop (ι := { x : Nat × Nat // x.1 ≤ x.2 ∧ x.2 ≤ c.holds.length ∧ (∀ k, k < x.1 → (c.holds.getD k default).id < id) ∧ ∀ k, x.2 ≤ k → k < c.holds.length → ¬ (c.holds.getD k default).id < id }) (fun x => ⟨[(0, .sl (hds c.holds)), (1, .c (.int .u64 id)), (2, .fn (.func 218) [] []), (8, .int .i64 c.holds.length), (9, .int .i64 x.1.1), (10, .int .i64 x.1.2)],
    [(3, .box [.c (.int .u64 0), .c (.int .u64 0), .c (.int .u64 0), .c (.int .u64 0), .c (.int .u64 0), .nil, .c (.bool false)]), (2, .box [.c (.int .u64 c.id), .c (.int .u64 c.loc), .c (.int .u64 c.rem), .c (.int .u64 c.res), .c (.int .u64 c.most), .sl (hds c.holds), .c (.bool c.op)]), (1, .box [.c (.int .u64 0), .c (.int .u64 0), .c (.int .u64 0), .c (.int .u64 0), .c (.int .u64 0), .nil, .c (.bool false)]), (0, .box [.c (.int .u64 c.id), .c (.int .u64 c.loc), .c (.int .u64 c.rem), .c (.int .u64 c.res), .c (.int .u64 c.most), .sl (hds c.holds), .c (.bool c.op)])], 4⟩) (fun x => x.1.2 - x.1.1) ⟨(0, c.holds.length), by simp, by simp, fun k hk => absurd hk (by simp), fun k h1 h2 => absurd h1 (by simpa using h2)⟩ ?_ ?_
  · simp [go_sem]
  · rintro ⟨⟨i, j⟩, hij, hj, hlo, hup⟩
    dsimp only at hij hj hlo hup
    refine awp_sound cfail_T_ok.toS lv217 _ _ _ rfl ?_
    simp -implicitDefEqProofs only [cdA, go_sem, reduceIte, reduceCtorEq, Nat.reduceEqDiff, Nat.reduceAdd, Nat.reduceLeDiff, Nat.reduceSub, Nat.reduceMul, Nat.reduceLT, Nat.reduceShiftRight, Nat.reduceMod, Int.reduceLE, Int.reduceLT, Int.reduceToNat, cdB, List.cons.injEq, true_and, and_true]
    rw [mid_eq hij hj ‹_›]
    refine ⟨fun h4 => ?_, fun h4 => ?_⟩
    · have hm : (i + j) / 2 < c.holds.length := by omega
      rw [cmpS_neg, Int.toNat_natCast]
      refine ⟨⟨by omega, by omega⟩, fun h5 => ⟨⟨((i + j) / 2 + 1, j), by dsimp only; omega, hj, fun k hk => ?_, hup⟩, by dsimp only; omega, i64_in _ (by omega), rfl⟩, fun h5 => ⟨⟨(i, (i + j) / 2), by dsimp only; omega, by dsimp only; omega, hlo, fun k hk1 hk2 => ?_⟩, by dsimp only; omega, rfl, rfl⟩⟩
      · dsimp only at hk
        by_cases hkm : k = (i + j) / 2
        · rw [hkm]; omega
        · have := Srt.up_get.1 hu k _ (by omega) hm
          simp only [ltN, Hd.key] at this; omega
      · dsimp only at hk1
        by_cases hkm : k = (i + j) / 2
        · rw [hkm]; omega
        · have := Srt.up_get.1 hu ((i + j) / 2) k (by omega) hk2
          simp only [ltN, Hd.key] at this; omega
    · have hp : Srt.pos Hd.key ltN c.holds id = i := Srt.pos_eq (by omega) hlo (fun h => hup i (by omega) h)
      have hth : Srt.thr Hd.key ltN c.holds id = decide (i < c.holds.length ∧ (c.holds.getD i default).id = id) := by rw [Srt.thr, hp]; rfl
      have hno : ¬ (i < c.holds.length ∧ (c.holds.getD i default).id = id) → cenC c id false = (default, 0, 5) := fun h => by
        rw [cenC, if_pos hok, if_neg (by rw [hth, decide_eq_true_eq]; exact h)]
      refine ⟨fun h5 => ⟨by omega, fun h6 => ⟨by omega, by omega, ?_⟩, fun h6 => ?_⟩, fun h5 => ?_⟩
      rotate_left 1
      · rw [hno fun h => h6 (cmpS_0.2 (by omega))]; exact ⟨⟨rfl, rfl, rfl, rfl, rfl, rfl, rfl⟩, rfl, rfl⟩
      · rw [hno fun h => h5 (by omega)]; exact ⟨⟨rfl, rfl, rfl, rfl, rfl, rfl, rfl⟩, rfl, rfl⟩
      have hi' : i < c.holds.length := by omega
      have ht : Srt.thr Hd.key ltN c.holds id = true := by rw [hth]; exact decide_eq_true ⟨hi', by have := cmpS_0.1 h6; omega⟩
      rw [i64_in _ (by omega)]
      refine ACall.opn 4 rfl (by rw [hds_length]; omega) fun cp hc hcm => ?_
      refine ACall.sld ?_
      rw [hds_length] at hc
      refine ac254 cfail_T_ok (Nat.le_of_ble_eq_true rfl) ?_
      simp -implicitDefEqProofs only [cdA, go_sem, Go.Proofs.Tryz.f254, reduceIte, reduceCtorEq, Nat.reduceEqDiff, Nat.reduceAdd, Nat.reduceLeDiff, Nat.reduceSub, Nat.reduceMul, Nat.reduceLT, Nat.reduceShiftRight, Nat.reduceMod, Int.reduceLE, Int.reduceLT, Int.reduceToNat, cdB, List.cons.injEq, true_and, and_true]
      refine fun _ => ⟨⟨by omega, by omega, by omega⟩, fun h => absurd h (by omega), fun _ _ => ?_⟩
      refine ADraw.run us254_5 cfail_T_ok follows_mixed (by kernel_rfl) (by kernel_rfl) ?_
      simp -implicitDefEqProofs only [cdA, go_sem, reduceIte, reduceCtorEq, Nat.reduceEqDiff, Nat.reduceAdd, Nat.reduceLeDiff, Nat.reduceSub, Nat.reduceMul, Nat.reduceLT, Nat.reduceShiftRight, Nat.reduceMod, Int.reduceLE, Int.reduceLT, Int.reduceToNat, cdB, List.cons.injEq, true_and, and_true]
      have eF : List.take c.holds.length (fit cp 2 (hds c.holds)) = hds c.holds := by rw [fit_take (by rw [hds_length]; exact Nat.le_refl _) hc, List.take_of_length_le (by rw [hds_length]; exact Nat.le_refl _)]
      have e2 : ((i : Int) + 1).toNat = i + 1 := by omega
      rw [eF, e2]
      have hD : ((hds c.holds).drop (i + 1)).length = c.holds.length - (i + 1) := by rw [List.length_drop, hds_length]
      have e3 : ((i : Int) + (((hds c.holds).drop (i + 1)).length : Int)).toNat = i + ((hds c.holds).drop (i + 1)).length := by omega
      simp only [e3]
      have hE : ∀ Z : List (List C), (fit cp 2 ((fit cp 2 ((fit cp 2 (hds c.holds)).take i ++ ((hds c.holds).drop (i + 1) ++ (fit cp 2 (hds c.holds)).drop (i + ((hds c.holds).drop (i + 1)).length)))).take (i + ((hds c.holds).drop (i + 1)).length) ++ Z)).take (i + ((hds c.holds).drop (i + 1)).length) = hds (c.holds.eraseIdx i) := fun Z => by
        rw [del_old (by rw [hds_length]; exact hi') (by rw [hds_length]; exact hc), hds_erase]
      rw [hE, hD]
      have hl1 : i + (c.holds.length - (i + 1)) = (c.holds.eraseIdx i).length := by rw [List.length_eraseIdx_of_lt hi']; omega
      rw [hl1]
      have hl2 : (c.holds.eraseIdx i).length = c.holds.length - 1 := List.length_eraseIdx_of_lt hi'
      refine ⟨by omega, ⟨by omega, by omega⟩, ⟨fun x hx => (of_eq_true (hds_wide c.holds)) x (List.mem_of_mem_drop hx), by omega⟩, fun _ => ⟨⟨by omega, by omega, by omega⟩, ?_⟩⟩
      refine ac221 cfail_T_ok (Nat.le_of_ble_eq_true rfl) ?_
      simp -implicitDefEqProofs only [cdA, go_sem, Go.Proofs.Tryz.f221, reduceIte, reduceCtorEq, Nat.reduceEqDiff, Nat.reduceAdd, Nat.reduceLeDiff, Nat.reduceSub, Nat.reduceMul, Nat.reduceLT, Nat.reduceShiftRight, Nat.reduceMod, Int.reduceLE, Int.reduceLT, Int.reduceToNat, cdB, List.cons.injEq, true_and, and_true]
      have ec : cenC c id false = (⟨c.id, if (false : Bool) = true then c.loc else c.loc + (c.holds.getD i default).n, if (false : Bool) = true then c.rem + (c.holds.getD i default).n else c.rem, c.res, c.most, c.holds.eraseIdx i, c.op⟩, (c.holds.getD i default).n, 0) := by
        rw [cenC, if_pos hok, if_pos ht, hp]
      have hge := held_ge hi'
      have hsum := hok.2.2.2.2.2.2.2.2.2
      unfold MM at hsum
      rw [ec]
      dsimp only
      rw [if_neg (by decide), if_neg (by decide), u64_in _ (by omega)]
      exact ⟨⟨rfl, by omega, by omega, rfl, rfl, ⟨rfl, _, _, _, rfl⟩, rfl⟩, rfl, rfl⟩
def sp_cfail : List D → Option (Prop × D × Fr)
  | [.agg [.c (.int .u64 z2), .c (.int .u64 z3), .c (.int .u64 z4), .c (.int .u64 z5), .c (.int .u64 z6), .c (.sl z7), .c (.bool z8)], .c (.int .u64 z9)] => some (z2 = (z2.toNat : Int) ∧ z3 = (z3.toNat : Int) ∧ z4 = (z4.toNat : Int) ∧ z5 = (z5.toNat : Int) ∧ z6 = (z6.toNat : Int) ∧ z7 = hds (dhds z7) ∧ z9 = (z9.toNat : Int), cfail_r (⟨z2.toNat, z3.toNat, z4.toNat, z5.toNat, z6.toNat, (dhds z7), z8⟩ : Ch) z9.toNat, [])
  | _ => none
attribute [go_sem] sp_cfail
theorem sp_cfail_ok : ∀ rs p r fr, sp_cfail rs = some (p, r, fr) → p → FnOk Tryz.prog 147 rs r fr := by
  intro rs p r fr h hp
  unfold sp_cfail at h
  split at h <;> cases h
  obtain ⟨hc0, hc1, hc2, hc3, hc4, hc5, hc6⟩ := hp
  rename_i z2 z3 z4 z5 z6 z7 z8 z9
  obtain ⟨z2, rfl⟩ : ∃ m : Nat, z2 = m := ⟨_, hc0⟩
  obtain ⟨z3, rfl⟩ : ∃ m : Nat, z3 = m := ⟨_, hc1⟩
  obtain ⟨z4, rfl⟩ : ∃ m : Nat, z4 = m := ⟨_, hc2⟩
  obtain ⟨z5, rfl⟩ : ∃ m : Nat, z5 = m := ⟨_, hc3⟩
  obtain ⟨z6, rfl⟩ : ∃ m : Nat, z6 = m := ⟨_, hc4⟩
  obtain ⟨z7, rfl⟩ : ∃ m, z7 = hds m := ⟨_, hc5⟩
  obtain ⟨z9, rfl⟩ : ∃ m : Nat, z9 = m := ⟨_, hc6⟩
  simp only [Int.toNat_natCast, dhds_hds]
  exact cfail_ok ⟨z2, z3, z4, z5, z6, z7, z8⟩ z9
@[go_sem] def csettle_r (c : Ch) (id : Nat) : D := .tup [.agg [.int .u64 (cenC c id true).1.id, .int .u64 (cenC c id true).1.loc, .int .u64 (cenC c id true).1.rem, .int .u64 (cenC c id true).1.res, .int .u64 (cenC c id true).1.most, .sl (hds (cenC c id true).1.holds), .bool (cenC c id true).1.op], .int .u64 (cenC c id true).2.1, .int .i64 (cenC c id true).2.2]
@[go_sem] abbrev n_csettle : FuncId := 148
@[go_sem] def csettle_T : Tab := [(183, sp_ccheck), (153, sp_hclonef), (218, sp_horder), fg 13]
theorem csettle_T_ok : TabOk Tryz.prog csettle_T := (TabOk.cons sp_ccheck_ok (TabOk.cons sp_hclonef_ok (TabOk.cons sp_horder_ok (TabOk.cons (fg_ok 13) TabOk.nil))))
set_option maxRecDepth 8000 in
set_option maxHeartbeats 1000000 in
theorem csettle_ok (c : Ch) (id : Nat)  : PureFn Tryz.prog 148 [.agg [.c (.int .u64 (c.id : Int)), .c (.int .u64 (c.loc : Int)), .c (.int .u64 (c.rem : Int)), .c (.int .u64 (c.res : Int)), .c (.int .u64 (c.most : Int)), .sl (hds c.holds), .c (.bool c.op)], .c (.int .u64 (id : Int))] (csettle_r c id) := by
  refine .of (ac148 csettle_T_ok (Nat.le_of_ble_eq_true rfl) ?_)
  simp -implicitDefEqProofs only [cdA, go_sem, Go.Proofs.Tryz.f148, reduceIte, reduceCtorEq, Nat.reduceEqDiff, Nat.reduceAdd, Nat.reduceLeDiff, Nat.reduceSub, Nat.reduceMul, Nat.reduceLT, Nat.reduceShiftRight, Nat.reduceMod, Int.reduceLE, Int.reduceLT, Int.reduceToNat, cdB, List.cons.injEq, true_and, and_true]
  refine ac220 csettle_T_ok (Nat.le_of_ble_eq_true rfl) ?_
  simp -implicitDefEqProofs only [cdA, go_sem, Go.Proofs.Tryz.f220, reduceIte, reduceCtorEq, Nat.reduceEqDiff, Nat.reduceAdd, Nat.reduceLeDiff, Nat.reduceSub, Nat.reduceMul, Nat.reduceLT, Nat.reduceShiftRight, Nat.reduceMod, Int.reduceLE, Int.reduceLT, Int.reduceToNat, cdB, List.cons.injEq, true_and, and_true]
  have hc0 : chkC c = 0 ↔ okCh c := by unfold chkC; split <;> rename_i h <;> simp only [h] <;> decide
  refine ⟨fun h0 => ?_, fun h0 => by
    have hno : ¬ okCh c := fun h => h0 (hc0.2 h)
    rw [cenC, chkC, if_neg hno, if_neg hno]; exact ⟨⟨rfl, rfl, rfl, rfl, rfl, rfl, rfl⟩, rfl, rfl⟩⟩
  have hok := hc0.1 h0
  have hu : Srt.Up Hd.key ltN c.holds := (Srt.chn_up (lt := ltN) Srt.totNat).1 hok.2.2.2.2.2.1
  have h64 := hok.2.2.1
  refine ac217 csettle_T_ok (Nat.le_of_ble_eq_true rfl) ?_
  simp -implicitDefEqProofs only [cdA, go_sem, Go.Proofs.Tryz.f217, reduceIte, reduceCtorEq, Nat.reduceEqDiff, Nat.reduceAdd, Nat.reduceLeDiff, Nat.reduceSub, Nat.reduceMul, Nat.reduceLT, Nat.reduceShiftRight, Nat.reduceMod, Int.reduceLE, Int.reduceLT, Int.reduceToNat, cdB, List.cons.injEq, true_and, and_true]
  refine fun _ => SWp.loop (ι := { x : Nat × Nat // x.1 ≤ x.2 ∧ x.2 ≤ c.holds.length ∧ (∀ k, k < x.1 → (c.holds.getD k default).id < id) ∧ ∀ k, x.2 ≤ k → k < c.holds.length → ¬ (c.holds.getD k default).id < id }) (fun x => ⟨[(0, .sl (hds c.holds)), (1, .c (.int .u64 id)), (2, .fn (.func 218) [] []), (8, .int .i64 c.holds.length), (9, .int .i64 x.1.1), (10, .int .i64 x.1.2)],
    [(3, .box [.c (.int .u64 0), .c (.int .u64 0), .c (.int .u64 0), .c (.int .u64 0), .c (.int .u64 0), .nil, .c (.bool false)]), (2, .box [.c (.int .u64 c.id), .c (.int .u64 c.loc), .c (.int .u64 c.rem), .c (.int .u64 c.res), .c (.int .u64 c.most), .sl (hds c.holds), .c (.bool c.op)]), (1, .box [.c (.int .u64 0), .c (.int .u64 0), .c (.int .u64 0), .c (.int .u64 0), .c (.int .u64 0), .nil, .c (.bool false)]), (0, .box [.c (.int .u64 c.id), .c (.int .u64 c.loc), .c (.int .u64 c.rem), .c (.int .u64 c.res), .c (.int .u64 c.most), .sl (hds c.holds), .c (.bool c.op)])], 4⟩) (fun x => x.1.2 - x.1.1) ⟨(0, c.holds.length), by simp, by simp, fun k hk => absurd hk (by simp), fun k h1 h2 => absurd h1 (by simpa using h2)⟩ ?_ ?_
  · simp [go_sem]
  · rintro ⟨⟨i, j⟩, hij, hj, hlo, hup⟩
    dsimp only at hij hj hlo hup
    refine awp_sound csettle_T_ok.toS lv217 _ _ _ rfl ?_
    simp -implicitDefEqProofs only [cdA, go_sem, reduceIte, reduceCtorEq, Nat.reduceEqDiff, Nat.reduceAdd, Nat.reduceLeDiff, Nat.reduceSub, Nat.reduceMul, Nat.reduceLT, Nat.reduceShiftRight, Nat.reduceMod, Int.reduceLE, Int.reduceLT, Int.reduceToNat, cdB, List.cons.injEq, true_and, and_true]
    rw [mid_eq hij hj ‹_›]
    refine ⟨fun h4 => ?_, fun h4 => ?_⟩
    · have hm : (i + j) / 2 < c.holds.length := by omega
      rw [cmpS_neg, Int.toNat_natCast]
      refine ⟨⟨by omega, by omega⟩, fun h5 => ⟨⟨((i + j) / 2 + 1, j), by dsimp only; omega, hj, fun k hk => ?_, hup⟩, by dsimp only; omega, i64_in _ (by omega), rfl⟩, fun h5 => ⟨⟨(i, (i + j) / 2), by dsimp only; omega, by dsimp only; omega, hlo, fun k hk1 hk2 => ?_⟩, by dsimp only; omega, rfl, rfl⟩⟩
      · dsimp only at hk
        by_cases hkm : k = (i + j) / 2
        · rw [hkm]; omega
        · have := Srt.up_get.1 hu k _ (by omega) hm
          simp only [ltN, Hd.key] at this; omega
      · dsimp only at hk1
        by_cases hkm : k = (i + j) / 2
        · rw [hkm]; omega
        · have := Srt.up_get.1 hu ((i + j) / 2) k (by omega) hk2
          simp only [ltN, Hd.key] at this; omega
    · have hp : Srt.pos Hd.key ltN c.holds id = i := Srt.pos_eq (by omega) hlo (fun h => hup i (by omega) h)
      have hth : Srt.thr Hd.key ltN c.holds id = decide (i < c.holds.length ∧ (c.holds.getD i default).id = id) := by rw [Srt.thr, hp]; rfl
      have hno : ¬ (i < c.holds.length ∧ (c.holds.getD i default).id = id) → cenC c id true = (default, 0, 5) := fun h => by
        rw [cenC, if_pos hok, if_neg (by rw [hth, decide_eq_true_eq]; exact h)]
      refine ⟨fun h5 => ⟨by omega, fun h6 => ⟨by omega, by omega, ?_⟩, fun h6 => ?_⟩, fun h5 => ?_⟩
      rotate_left 1
      · rw [hno fun h => h6 (cmpS_0.2 (by omega))]; exact ⟨⟨rfl, rfl, rfl, rfl, rfl, rfl, rfl⟩, rfl, rfl⟩
      · rw [hno fun h => h5 (by omega)]; exact ⟨⟨rfl, rfl, rfl, rfl, rfl, rfl, rfl⟩, rfl, rfl⟩
      have hi' : i < c.holds.length := by omega
      have ht : Srt.thr Hd.key ltN c.holds id = true := by rw [hth]; exact decide_eq_true ⟨hi', by have := cmpS_0.1 h6; omega⟩
      rw [i64_in _ (by omega)]
      refine ACall.opn 4 rfl (by rw [hds_length]; omega) fun cp hc hcm => ?_
      refine ACall.sld ?_
      rw [hds_length] at hc
      refine ac254 csettle_T_ok (Nat.le_of_ble_eq_true rfl) ?_
      simp -implicitDefEqProofs only [cdA, go_sem, Go.Proofs.Tryz.f254, reduceIte, reduceCtorEq, Nat.reduceEqDiff, Nat.reduceAdd, Nat.reduceLeDiff, Nat.reduceSub, Nat.reduceMul, Nat.reduceLT, Nat.reduceShiftRight, Nat.reduceMod, Int.reduceLE, Int.reduceLT, Int.reduceToNat, cdB, List.cons.injEq, true_and, and_true]
      refine fun _ => ⟨⟨by omega, by omega, by omega⟩, fun h => absurd h (by omega), fun _ _ => ?_⟩
      refine ADraw.run us254_5 csettle_T_ok follows_mixed (by kernel_rfl) (by kernel_rfl) ?_
      simp -implicitDefEqProofs only [cdA, go_sem, reduceIte, reduceCtorEq, Nat.reduceEqDiff, Nat.reduceAdd, Nat.reduceLeDiff, Nat.reduceSub, Nat.reduceMul, Nat.reduceLT, Nat.reduceShiftRight, Nat.reduceMod, Int.reduceLE, Int.reduceLT, Int.reduceToNat, cdB, List.cons.injEq, true_and, and_true]
      have eF : List.take c.holds.length (fit cp 2 (hds c.holds)) = hds c.holds := by rw [fit_take (by rw [hds_length]; exact Nat.le_refl _) hc, List.take_of_length_le (by rw [hds_length]; exact Nat.le_refl _)]
      have e2 : ((i : Int) + 1).toNat = i + 1 := by omega
      rw [eF, e2]
      have hD : ((hds c.holds).drop (i + 1)).length = c.holds.length - (i + 1) := by rw [List.length_drop, hds_length]
      have e3 : ((i : Int) + (((hds c.holds).drop (i + 1)).length : Int)).toNat = i + ((hds c.holds).drop (i + 1)).length := by omega
      simp only [e3]
      have hE : ∀ Z : List (List C), (fit cp 2 ((fit cp 2 ((fit cp 2 (hds c.holds)).take i ++ ((hds c.holds).drop (i + 1) ++ (fit cp 2 (hds c.holds)).drop (i + ((hds c.holds).drop (i + 1)).length)))).take (i + ((hds c.holds).drop (i + 1)).length) ++ Z)).take (i + ((hds c.holds).drop (i + 1)).length) = hds (c.holds.eraseIdx i) := fun Z => by
        rw [del_old (by rw [hds_length]; exact hi') (by rw [hds_length]; exact hc), hds_erase]
      rw [hE, hD]
      have hl1 : i + (c.holds.length - (i + 1)) = (c.holds.eraseIdx i).length := by rw [List.length_eraseIdx_of_lt hi']; omega
      rw [hl1]
      have hl2 : (c.holds.eraseIdx i).length = c.holds.length - 1 := List.length_eraseIdx_of_lt hi'
      refine ⟨by omega, ⟨by omega, by omega⟩, ⟨fun x hx => (of_eq_true (hds_wide c.holds)) x (List.mem_of_mem_drop hx), by omega⟩, fun _ => ⟨⟨by omega, by omega, by omega⟩, ?_⟩⟩
      refine ac222 csettle_T_ok (Nat.le_of_ble_eq_true rfl) ?_
      simp -implicitDefEqProofs only [cdA, go_sem, Go.Proofs.Tryz.f222, reduceIte, reduceCtorEq, Nat.reduceEqDiff, Nat.reduceAdd, Nat.reduceLeDiff, Nat.reduceSub, Nat.reduceMul, Nat.reduceLT, Nat.reduceShiftRight, Nat.reduceMod, Int.reduceLE, Int.reduceLT, Int.reduceToNat, cdB, List.cons.injEq, true_and, and_true]
      have ec : cenC c id true = (⟨c.id, if (true : Bool) = true then c.loc else c.loc + (c.holds.getD i default).n, if (true : Bool) = true then c.rem + (c.holds.getD i default).n else c.rem, c.res, c.most, c.holds.eraseIdx i, c.op⟩, (c.holds.getD i default).n, 0) := by
        rw [cenC, if_pos hok, if_pos ht, hp]
      have hge := held_ge hi'
      have hsum := hok.2.2.2.2.2.2.2.2.2
      unfold MM at hsum
      rw [ec]
      dsimp only
      rw [if_pos (by decide), if_pos (by decide), u64_in _ (by omega)]
      exact ⟨⟨rfl, by omega, by omega, rfl, rfl, ⟨rfl, _, _, _, rfl⟩, rfl⟩, rfl, rfl⟩
def sp_csettle : List D → Option (Prop × D × Fr)
  | [.agg [.c (.int .u64 z11), .c (.int .u64 z12), .c (.int .u64 z13), .c (.int .u64 z14), .c (.int .u64 z15), .c (.sl z16), .c (.bool z17)], .c (.int .u64 z18)] => some (z11 = (z11.toNat : Int) ∧ z12 = (z12.toNat : Int) ∧ z13 = (z13.toNat : Int) ∧ z14 = (z14.toNat : Int) ∧ z15 = (z15.toNat : Int) ∧ z16 = hds (dhds z16) ∧ z18 = (z18.toNat : Int), csettle_r (⟨z11.toNat, z12.toNat, z13.toNat, z14.toNat, z15.toNat, (dhds z16), z17⟩ : Ch) z18.toNat, [])
  | _ => none
attribute [go_sem] sp_csettle
theorem sp_csettle_ok : ∀ rs p r fr, sp_csettle rs = some (p, r, fr) → p → FnOk Tryz.prog 148 rs r fr := by
  intro rs p r fr h hp
  unfold sp_csettle at h
  split at h <;> cases h
  obtain ⟨hc0, hc1, hc2, hc3, hc4, hc5, hc6⟩ := hp
  rename_i z11 z12 z13 z14 z15 z16 z17 z18
  obtain ⟨z11, rfl⟩ : ∃ m : Nat, z11 = m := ⟨_, hc0⟩
  obtain ⟨z12, rfl⟩ : ∃ m : Nat, z12 = m := ⟨_, hc1⟩
  obtain ⟨z13, rfl⟩ : ∃ m : Nat, z13 = m := ⟨_, hc2⟩
  obtain ⟨z14, rfl⟩ : ∃ m : Nat, z14 = m := ⟨_, hc3⟩
  obtain ⟨z15, rfl⟩ : ∃ m : Nat, z15 = m := ⟨_, hc4⟩
  obtain ⟨z16, rfl⟩ : ∃ m, z16 = hds m := ⟨_, hc5⟩
  obtain ⟨z18, rfl⟩ : ∃ m : Nat, z18 = m := ⟨_, hc6⟩
  simp only [Int.toNat_natCast, dhds_hds]
  exact csettle_ok ⟨z11, z12, z13, z14, z15, z16, z17⟩ z18
end Dm
