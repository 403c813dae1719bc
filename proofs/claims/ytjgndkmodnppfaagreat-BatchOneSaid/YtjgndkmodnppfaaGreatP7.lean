import Derived.Test.YtjgndkmodnppfaaGreatP6
import Derived.StillTail
set_option linter.unusedSimpArgs false
set_option linter.unusedVariables false
set_option linter.unusedSectionVars false
namespace Dm
open Go Go.Proofs Go.IntWalk
@[go_sem] def hins_T2 : Tab := [ovk 178]
theorem hins_T2_ok : TabOk Tryz.prog hins_T2 := .cons (ov_ok 178) .nil
@[go_sem] def hins_T3 : Tab := [fg 12]
theorem hins_T3_ok : TabOk Tryz.prog hins_T3 := .cons (fg_ok 12) .nil
theorem hins_wide (l : List Hd) : Wide 2 (hds l) := of_eq_true (hds_wide l)
set_option maxRecDepth 8000 in
set_option maxHeartbeats 1000000 in
theorem hins_ok (l : List Hd) (x : Hd) (i : Nat) (hi : i ≤ l.length) (hl : l.length ≤ 1000000) :
    ACall Tryz.prog 139 [.vec 0 l.length, .int .i64 i, .vec 1 1] [(1, .vec true 2 151 (hds [x])), (0, .vec true 2 151 (hds l))] 2 fun d os _ => Grown 2 151 (hds (Srt.ins l i x)) d os := by
  have hil : (Srt.ins l i x).length = l.length + 1 := Srt.ins_len
  have hq : ∀ j os, lk j os = some (.vec true 2 151 (hds (Srt.ins l i x))) → Grown 2 151 (hds (Srt.ins l i x)) (.vec j (l.length + 1)) os := fun j os h => ⟨j, by rw [hds_length, hil], h⟩
  by_cases hin : i = l.length
  · refine ac139 hins_T3_ok (Nat.le_of_ble_eq_true rfl) ?_
    have e4 : ((1 : Int) = 0) = False := eq_false (by decide)
    subst hin
    simp -implicitDefEqProofs only [cd_t, cd_f, cd_dec, cd_not, cd_and, cd_or, grd_tt, grd_ff, grd_tf, grd_ft, grd_dt, grd_df, grd_nt, grd_nf, go_sem, Go.Proofs.Tryz.f139, e4, decide_true, reduceIte, reduceCtorEq, Nat.reduceEqDiff, Nat.reduceAdd, Nat.reduceLeDiff, Nat.reduceSub, Nat.reduceMul, Nat.reduceLT, Nat.reduceShiftRight, Nat.reduceMod, Int.reduceLE, Int.reduceLT, Int.reduceToNat, decide_true, Bool.and_self, Bool.true_and, Ob.map.injEq, Ob.it.injEq, List.cons.injEq, true_and, and_true]
    refine ⟨Int.le_refl _, fun h => h.elim, fun _ => ⟨by omega, hq _ _ ?_⟩⟩
    rw [lk_cons, if_neg (by decide), lk_hd]
    simp [Srt.ins]
  · have hlt : i < l.length := by omega
    refine ACall.opn 0 rfl (by rw [hds_length]; omega) fun c hc hcm => ?_
    refine ACall.sld ?_
    rw [hds_length] at hc
    refine ac139 hins_T2_ok (Nat.le_of_ble_eq_true rfl) ?_
    have e1 : IntKind.i64.wrap ((l.length : Int) + 1) = ((l.length + 1 : Nat) : Int) := by rw [i64_in _ (by omega)]; omega
    have e2 : IntKind.i64.wrap ((i : Int) + 1) = ((i + 1 : Nat) : Int) := by rw [i64_in _ (by omega)]; omega
    have e3 : ((i : Int) = (l.length : Int)) = False := eq_false (by omega)
    have e4 : ((1 : Int) = 0) = False := eq_false (by decide)
    have e5 : IntKind.i64.wrap ((l.length : Int) + 1 - (i : Int)) = ((l.length + 1 - i : Nat) : Int) := by rw [i64_in _ (by omega)]; omega
    have e6 : ((l.length : Int) + 1).toNat = l.length + 1 := by omega
    have e7 : ((i : Int) + 1).toNat = i + 1 := by omega
    have e8 : i + (l.length + 1 - i) = l.length + 1 := by omega
    simp -implicitDefEqProofs only [cd_t, cd_f, cd_dec, cd_not, cd_and, cd_or, grd_tt, grd_ff, grd_tf, grd_ft, grd_dt, grd_df, grd_nt, grd_nf, go_sem, Go.Proofs.Tryz.f139, e3, e4, e1, e2, e5, e6, e7, e8, decide_false, reduceIte, reduceCtorEq, Nat.reduceEqDiff, Nat.reduceAdd, Nat.reduceLeDiff, Nat.reduceSub, Nat.reduceMul, Nat.reduceLT, Nat.reduceShiftRight, Nat.reduceMod, Int.reduceLE, Int.reduceLT, Int.reduceToNat, decide_true, Bool.and_self, Bool.true_and, Ob.map.injEq, Ob.it.injEq, List.cons.injEq, true_and, and_true]
    refine ⟨by omega, fun _ => ⟨fun h1 => ⟨by omega, by omega, fun c1 h2 h3 => ⟨by omega, ?_⟩⟩, fun h1 => ⟨by omega, by omega, ?_, ?_⟩⟩⟩
    · refine ADraw.run us139_11 hins_T2_ok follows_mixed (by kernel_rfl) (by kernel_rfl) ?_
      simp -implicitDefEqProofs only [cd_t, cd_f, cd_dec, cd_not, cd_and, cd_or, grd_tt, grd_ff, grd_tf, grd_ft, grd_dt, grd_df, grd_nt, grd_nf, go_sem, e1, e2, e5, e6, e7, e8, reduceIte, reduceCtorEq, Nat.reduceEqDiff, Nat.reduceAdd, Nat.reduceLeDiff, Nat.reduceSub, Nat.reduceMul, Nat.reduceLT, Nat.reduceShiftRight, Nat.reduceMod, Int.reduceLE, Int.reduceLT, Int.reduceToNat, decide_true, Bool.and_self, Bool.true_and, Ob.map.injEq, Ob.it.injEq, List.cons.injEq, true_and, and_true]
      refine ⟨by omega, by omega, fun y hy => fit_wide (hins_wide l) y (List.mem_of_mem_take (List.mem_of_mem_drop hy)), ?_⟩
      have := ins_new (sz := 2) (c := c) (c1 := c1) (i := i) (E := hds l) (x := x.enc) (z := [C.int .u64 0, C.int .u64 0]) (by rw [hds_length]; exact hlt) (by rw [hds_length]; exact hc) (by rw [hds_length]; exact h2)
      rw [hds_length] at this
      refine hq _ _ ?_
      rw [lk_hd]
      congr 2
      rw [show hds (List.take (l.length + 1 - i) [x]) = List.take (l.length + 1 - i) [x.enc] by simp [hds], this]
      simp [hds, Srt.ins]
    · exact ⟨_, 65, 4, _, rfl, rfl, rfl, rfl, by kernel_rfl, elOf_65⟩
    · refine ADraw.run us139_15 hins_T2_ok follows_mixed (by kernel_rfl) (by kernel_rfl) ?_
      simp -implicitDefEqProofs only [cd_t, cd_f, cd_dec, cd_not, cd_and, cd_or, grd_tt, grd_ff, grd_tf, grd_ft, grd_dt, grd_df, grd_nt, grd_nf, go_sem, e1, e2, e5, e6, e7, e8, reduceIte, reduceCtorEq, Nat.reduceEqDiff, Nat.reduceAdd, Nat.reduceLeDiff, Nat.reduceSub, Nat.reduceMul, Nat.reduceLT, Nat.reduceShiftRight, Nat.reduceMod, Int.reduceLE, Int.reduceLT, Int.reduceToNat, decide_true, Bool.and_self, Bool.true_and, Ob.map.injEq, Ob.it.injEq, List.cons.injEq, true_and, and_true]
      refine ⟨by omega, by omega, fun y hy => fit_wide (hins_wide l) y (List.mem_of_mem_take (List.mem_of_mem_drop hy)), by omega, ?_⟩
      have := ins_old (sz := 2) (c := c) (i := i) (E := hds l) (x := x.enc) (by rw [hds_length]; exact hlt) (by rw [hds_length]; omega)
      rw [hds_length] at this
      refine hq _ _ ?_
      rw [lk_hd]
      congr 2
      rw [show hds (List.take (l.length + 1 - i) [x]) = List.take (l.length + 1 - i) [x.enc] by simp [hds], this]
      simp [hds, Srt.ins]

@[go_sem] def hclonef_r (l : List Hd) : D := .vec 0 l.length
@[go_sem] def hclonef_fr (l : List Hd) : Fr := [(2, 151, true, hds l)]
@[go_sem] abbrev n_hclonef : FuncId := 140
@[go_sem] def hclonef_T : Tab := []
theorem hclonef_T_ok : TabOk Tryz.prog hclonef_T := TabOk.nil
set_option maxRecDepth 8000 in
set_option maxHeartbeats 1000000 in
theorem hclonef_ok (l : List Hd) (hl : l.length ≤ 1000000) : FreshFn Tryz.prog 140 [.sl (hds l)] (hclonef_r l) (hclonef_fr l) := by
  refine .of (ac140 hclonef_T_ok (Nat.le_of_ble_eq_true rfl) ?_)
  simp -implicitDefEqProofs only [cd_t, cd_f, cd_dec, cd_not, cd_and, cd_or, grd_tt, grd_ff, grd_tf, grd_ft, grd_dt, grd_df, grd_nt, grd_nf, go_sem, Go.Proofs.Tryz.f140, reduceIte, reduceCtorEq, Nat.reduceEqDiff, Nat.reduceAdd, Nat.reduceLeDiff, Nat.reduceSub, Nat.reduceMul, Nat.reduceLT, Nat.reduceShiftRight, Nat.reduceMod, Int.reduceLE, Int.reduceLT, Int.reduceToNat, decide_true, Bool.and_self, Bool.true_and, Ob.map.injEq, Ob.it.injEq, List.cons.injEq, true_and, and_true]
  refine fun b hb => ⟨fun h => ?_, fun h => ?_⟩
  · exact ⟨[none], by simp [go_sem, hb h], by cases l <;> simp_all [go_sem, hds]⟩
  · exact ⟨by omega, [some 0], by simp [go_sem]⟩
@[go_sem] def hclonef_p (l : List Hd) : Prop := (l.length ≤ 1000000)
def sp_hclonef : List D → Option (Prop × D × Fr)
  | [.c (.sl z186)] => some (z186 = hds (dhds z186) ∧ hclonef_p (dhds z186), hclonef_r (dhds z186), hclonef_fr (dhds z186))
  | _ => none
attribute [go_sem] sp_hclonef
theorem sp_hclonef_ok : ∀ rs p r fr, sp_hclonef rs = some (p, r, fr) → p → FnOk Tryz.prog 140 rs r fr := by
  intro rs p r fr h hp
  unfold sp_hclonef at h
  split at h <;> cases h
  obtain ⟨hc0, hp⟩ := hp
  rename_i z186
  obtain ⟨z186, rfl⟩ : ∃ m, z186 = hds m := ⟨_, hc0⟩
  simp only [dhds_hds]
  simp only [dhds_hds, hclonef_p] at hp
  exact (show FnOk _ _ _ _ _ from And.intro rfl (hclonef_ok z186 hp))
def bsH (l : List Hd) (id : Nat) (i j : Nat) : Nat :=
  if h : i < j then (if (l.getD ((i + j) / 2) default).id < id then bsH l id ((i + j) / 2 + 1) j else bsH l id i ((i + j) / 2)) else i
termination_by j - i
decreasing_by all_goals omega
theorem bsH_pos {l : List Hd} {id : Nat} (hu : Srt.Up Hd.key ltN l) : ∀ (m i j : Nat), j - i ≤ m → i ≤ j → j ≤ l.length → (∀ k, k < i → (l.getD k default).id < id) → (∀ k, j ≤ k → k < l.length → ¬ (l.getD k default).id < id) → bsH l id i j = Srt.pos Hd.key ltN l id := by
  intro m
  induction m with
  | zero =>
    intro i j hm hij hj hlo hup
    rw [bsH, dif_neg (by omega)]
    exact (Srt.pos_eq (by omega) hlo (fun h => hup i (by omega) h)).symm
  | succ m ih =>
    intro i j hm hij hj hlo hup
    rw [bsH]
    split
    · rename_i hlt
      have hup2 := Srt.up_get.1 hu
      split
      · rename_i h5
        refine ih _ _ (by omega) (by omega) hj (fun k hk => ?_) hup
        by_cases hkm : k = (i + j) / 2
        · rw [hkm]; exact h5
        · have := hup2 k ((i + j) / 2) (by omega) (by omega)
          simp only [ltN, Hd.key] at this; omega
      · rename_i h5
        refine ih _ _ (by omega) (by omega) (by omega) hlo (fun k hk1 hk2 => ?_)
        by_cases hkm : k = (i + j) / 2
        · rw [hkm]; exact h5
        · have := hup2 ((i + j) / 2) k (by omega) (by omega)
          simp only [ltN, Hd.key] at this; omega
    · exact (Srt.pos_eq (by omega) hlo (fun h => hup i (by omega) h)).symm
theorem bsH_le {l : List Hd} {id : Nat} : ∀ (m i j : Nat), j - i ≤ m → i ≤ j → bsH l id i j ≤ j := by
  intro m
  induction m with
  | zero => intro i j hm hij; rw [bsH, dif_neg (by omega)]; omega
  | succ m ih =>
    intro i j hm hij
    rw [bsH]
    split
    · split
      · exact ih _ _ (by omega) (by omega)
      · have := ih i ((i + j) / 2) (by omega) (by omega); omega
    · omega
def holdE (c : Ch) (id n : Nat) : Int :=
  if ¬ okCh c ∨ n = 0 ∨ ¬ n ≤ MM then 1 else if c.op = false then 14 else if Srt.thr Hd.key ltN c.holds id = true then 6 else if c.holds.length = 64 then 7 else if c.loc < c.res ∨ c.loc - c.res < n then 9 else if c.most - held c.holds < n then 8 else 0
def holdC (c : Ch) (id n : Nat) : Ch × Int := if holdE c id n = 0 then (⟨c.id, c.loc - n, c.rem, c.res, c.most, Srt.ins c.holds (Srt.pos Hd.key ltN c.holds id) ⟨id, n⟩, c.op⟩, 0) else (default, holdE c id n)
@[go_sem] def chold_r (c : Ch) (id : Nat) (n : Nat) : D := .tup [.agg [.int .u64 (holdC c id n).1.id, .int .u64 (holdC c id n).1.loc, .int .u64 (holdC c id n).1.rem, .int .u64 (holdC c id n).1.res, .int .u64 (holdC c id n).1.most, .sl (hds (holdC c id n).1.holds), .bool (holdC c id n).1.op], .int .i64 (holdC c id n).2]
@[go_sem] abbrev n_chold : FuncId := 82
@[go_sem] def chold_T : Tab := [(88, sp_csums), (29, sp_moncheck), (140, sp_hclonef), (138, sp_horder)]
theorem chold_T_ok : TabOk Tryz.prog chold_T := (TabOk.cons sp_csums_ok (TabOk.cons sp_moncheck_ok (TabOk.cons sp_hclonef_ok (TabOk.cons sp_horder_ok TabOk.nil))))
set_option maxRecDepth 8000 in
set_option maxHeartbeats 1000000 in
theorem chold_ok (c : Ch) (id : Nat) (n : Nat)  : PureFn Tryz.prog 82 [.agg [.c (.int .u64 (c.id : Int)), .c (.int .u64 (c.loc : Int)), .c (.int .u64 (c.rem : Int)), .c (.int .u64 (c.res : Int)), .c (.int .u64 (c.most : Int)), .sl (hds c.holds), .c (.bool c.op)], .c (.int .u64 (id : Int)), .c (.int .u64 (n : Int))] (chold_r c id n) := by
  refine .of (ac82 chold_T_ok (Nat.le_of_ble_eq_true rfl) ?_)
  simp -implicitDefEqProofs only [cd_t, cd_f, cd_dec, cd_not, cd_and, cd_or, grd_tt, grd_ff, grd_tf, grd_ft, grd_dt, grd_df, grd_nt, grd_nf, go_sem, Go.Proofs.Tryz.f82, reduceIte, reduceCtorEq, Nat.reduceEqDiff, Nat.reduceAdd, Nat.reduceLeDiff, Nat.reduceSub, Nat.reduceMul, Nat.reduceLT, Nat.reduceShiftRight, Nat.reduceMod, Int.reduceLE, Int.reduceLT, Int.reduceToNat, decide_true, Bool.and_self, Bool.true_and, Ob.map.injEq, Ob.it.injEq, List.cons.injEq, true_and, and_true]
  refine ac137 chold_T_ok (Nat.le_of_ble_eq_true rfl) ?_
  simp -implicitDefEqProofs only [cd_t, cd_f, cd_dec, cd_not, cd_and, cd_or, grd_tt, grd_ff, grd_tf, grd_ft, grd_dt, grd_df, grd_nt, grd_nf, go_sem, Go.Proofs.Tryz.f137, reduceIte, reduceCtorEq, Nat.reduceEqDiff, Nat.reduceAdd, Nat.reduceLeDiff, Nat.reduceSub, Nat.reduceMul, Nat.reduceLT, Nat.reduceShiftRight, Nat.reduceMod, Int.reduceLE, Int.reduceLT, Int.reduceToNat, decide_true, Bool.and_self, Bool.true_and, Ob.map.injEq, Ob.it.injEq, List.cons.injEq, true_and, and_true]
  refine fun _ => SWp.loop (ι := { x : Nat × Nat // x.1 ≤ x.2 ∧ x.2 ≤ c.holds.length ∧ bsH c.holds id x.1 x.2 = bsH c.holds id 0 c.holds.length }) (fun x => ⟨[(0, .sl (hds c.holds)), (1, .int .u64 id), (2, .fn (.func 138) [] []), (8, .int .i64 c.holds.length), (9, .int .i64 x.1.1), (10, .int .i64 x.1.2)], [(0, .box [.int .u64 c.id, .int .u64 c.loc, .int .u64 c.rem, .int .u64 c.res, .int .u64 c.most, .sl (hds c.holds), .bool c.op]), (1, .box [.int .u64 0, .int .u64 0, .int .u64 0, .int .u64 0, .int .u64 0, .nil, .bool false])], 2⟩) (fun x => x.1.2 - x.1.1) ⟨(0, c.holds.length), by simp⟩ ?_ ?_
  · simp [go_sem]
  · rintro ⟨⟨i, j⟩, hij, hj, hb⟩
    dsimp only at hij hj hb
    refine awp_sound chold_T_ok.toS lv137 _ _ _ rfl ?_
    simp -implicitDefEqProofs only [cd_t, cd_f, cd_dec, cd_not, cd_and, cd_or, grd_tt, grd_ff, grd_tf, grd_ft, grd_dt, grd_df, grd_nt, grd_nf, go_sem, reduceIte, reduceCtorEq, Nat.reduceEqDiff, Nat.reduceAdd, Nat.reduceLeDiff, Nat.reduceSub, Nat.reduceMul, Nat.reduceLT, Nat.reduceShiftRight, Nat.reduceMod, Int.reduceLE, Int.reduceLT, Int.reduceToNat, decide_true, Bool.and_self, Bool.true_and, Ob.map.injEq, Ob.it.injEq, List.cons.injEq, true_and, and_true]
    rw [mid_eq hij hj ‹_›]
    have hbad : ∀ k, holdE c id n = k → ¬ k = 0 → (0 = ((holdC c id n).1.id : Int) ∧ 0 = ((holdC c id n).1.loc : Int) ∧ 0 = ((holdC c id n).1.rem : Int) ∧ 0 = ((holdC c id n).1.res : Int) ∧ 0 = ((holdC c id n).1.most : Int) ∧ hds (holdC c id n).1.holds = [] ∧ false = (holdC c id n).1.op) ∧ k = (holdC c id n).2 := fun k hk h0 => by
      have : holdC c id n = (default, k) := by rw [holdC, if_neg (by rw [hk]; exact h0), hk]
      rw [this]; exact ⟨⟨rfl, rfl, rfl, rfl, rfl, rfl, rfl⟩, rfl⟩
    refine ⟨fun h4 => ?_, fun h4 => ?_⟩
    · have hm : (i + j) / 2 < c.holds.length := by omega
      rw [bsH, dif_pos (by omega)] at hb
      rw [cmpS_neg, Int.toNat_natCast]
      refine ⟨⟨by omega, by omega⟩, fun h5 => ?_, fun h5 => ?_⟩
      · rw [if_pos (by omega)] at hb
        exact ⟨⟨((i + j) / 2 + 1, j), by dsimp only; omega, hj, hb⟩, by dsimp only; omega, i64_in _ (by omega), rfl⟩
      · rw [if_neg (by omega)] at hb
        exact ⟨⟨(i, (i + j) / 2), by dsimp only; omega, by dsimp only; omega, hb⟩, by dsimp only; omega, rfl, rfl⟩
    · rw [bsH, dif_neg (by omega)] at hb
      have hok : (sumsC c).2.2 = 0 ↔ okCh c := sumsC_0
      have hpos : okCh c → Srt.pos Hd.key ltN c.holds id = i := fun h => by
        rw [hb]
        exact (bsH_pos ((Srt.chn_up (lt := ltN) Srt.totNat).1 h.2.2.2.2.2.1) _ 0 c.holds.length (Nat.le_refl _) (by omega) (Nat.le_refl _) (fun k hk => absurd hk (by omega)) (fun k h1 h2 => by omega)).symm
      rw [hok]
      have hthr : okCh c → Srt.thr Hd.key ltN c.holds id = decide (i < c.holds.length ∧ (c.holds.getD i default).id = id) := fun h => by rw [Srt.thr, hpos h]; rfl
      have hmon : monS [n] = 0 ↔ n ≤ MM := mon1_0
      have e1 : ∀ h : okCh c, (sumsC c).1 = held c.holds := fun h => by rw [sumsC, if_pos h]
      refine ⟨fun h6 => ⟨h6, fun ho => ⟨fun hn => ⟨fun hm => ⟨fun hop => ⟨fun ht => hbad 6 ?_ (by decide), fun ht _ => ⟨fun h64 => hbad 7 ?_ (by decide), fun h64 => ⟨fun hl => ⟨fun hx => hbad 9 ?_ (by decide), fun hx => ⟨fun hy => hbad 8 ?_ (by decide), fun hy => ⟨by have := ho.2.2.1; omega, ?_⟩⟩⟩, fun hl => hbad 9 ?_ (by decide)⟩⟩⟩, fun hop => hbad 14 ?_ (by decide)⟩, fun hm => hbad 1 ?_ (by decide)⟩, fun hn => hbad 1 ?_ (by decide)⟩, fun ho => hbad 1 ?_ (by decide)⟩,
        fun h6 => ⟨fun ho => ⟨fun hn => ⟨fun hm => ⟨fun hop _ => ⟨fun h64 => hbad 7 ?_ (by decide), fun h64 => ⟨fun hl => ⟨fun hx => hbad 9 ?_ (by decide), fun hx => ⟨fun hy => hbad 8 ?_ (by decide), fun hy => ⟨by have := ho.2.2.1; omega, ?_⟩⟩⟩, fun hl => hbad 9 ?_ (by decide)⟩⟩, fun hop => hbad 14 ?_ (by decide)⟩, fun hm => hbad 1 ?_ (by decide)⟩, fun hn => hbad 1 ?_ (by decide)⟩, fun ho => hbad 1 ?_ (by decide)⟩⟩
      all_goals first | (unfold holdE; rw [if_pos (.inl ho)]; done) | skip
      all_goals first | (unfold holdE; rw [if_pos (.inr (.inl (by omega)))]; done) | skip
      all_goals first | (unfold holdE; rw [if_pos (.inr (.inr fun h => hm (hmon.2 h)))]; done) | skip
      all_goals
        have hA : ¬ (¬ okCh c ∨ n = 0 ∨ ¬ n ≤ MM) := by
          rintro (h | h | h)
          · exact h ho
          · exact hn (by omega)
          · exact h (hmon.1 hm)
        have q4 : held c.holds ≤ c.most := ho.2.2.2.2.2.2.1
        have q2 : c.most ≤ MM := ho.2.1
        have q3 : c.loc ≤ MM := ho.2.2.2.2.2.2.2.1
        have e2 := e1 ho
        unfold MM at q2 q3
      all_goals first | (unfold holdE; rw [if_neg hA, if_pos (by simpa using hop)]; done) | skip
      all_goals have hop' : ¬ c.op = false := by rw [hop]; decide
      all_goals first
        | (unfold holdE; rw [if_neg hA, if_neg hop', if_pos (by rw [hthr ho]; exact decide_eq_true ⟨by omega, by have := cmpS_0.1 ht; omega⟩)]; done)
        | skip
      all_goals
        have ht' : ¬ Srt.thr Hd.key ltN c.holds id = true := by
          rw [hthr ho, decide_eq_true_eq]
          rintro ⟨h1, h2⟩
          first | exact ht (cmpS_0.2 (by omega)) | omega
      all_goals first
        | (unfold holdE; rw [if_neg hA, if_neg hop', if_neg ht', if_pos (by omega)]; done)
        | skip
      all_goals have h64' : ¬ c.holds.length = 64 := by omega
      all_goals first
        | (unfold holdE; rw [if_neg hA, if_neg hop', if_neg ht', if_neg h64', if_pos (.inl (by omega))]; done)
        | (rw [u64_in ((c.loc : Int) - _) (by omega)] at hx; unfold holdE; rw [if_neg hA, if_neg hop', if_neg ht', if_neg h64', if_pos (by omega)]; done)
        | skip
      all_goals
        rw [u64_in ((c.loc : Int) - _) (by omega)] at hx
        have h9' : ¬ (c.loc < c.res ∨ c.loc - c.res < n) := by omega
        rw [e2, u64_in ((c.most : Int) - _) (by omega)] at hy
      all_goals first
        | (unfold holdE; rw [if_neg hA, if_neg hop', if_neg ht', if_neg h64', if_neg h9', if_pos (by omega)]; done)
        | skip
      all_goals
        have h0 : holdE c id n = 0 := by unfold holdE; rw [if_neg hA, if_neg hop', if_neg ht', if_neg h64', if_neg h9', if_neg (by omega)]
        have h20 := ho.2.2.1
        refine ACall.grow (mid := [.int .i64 _]) (hins_ok c.holds ⟨id, n⟩ i (by omega) (by omega)) rfl rfl (by decide) (by simp [Srt.ins_len]) (fun d hd g g' w v hv => ?_) ?_
      all_goals first
        | (simp at hd; subst hd
           cases hv with
           | c _ _ h => cases h; exact .c _ _ (.int _ _))
        | skip
      all_goals
        simp -implicitDefEqProofs only [cd_t, cd_f, cd_dec, cd_not, cd_and, cd_or, grd_tt, grd_ff, grd_tf, grd_ft, grd_dt, grd_df, grd_nt, grd_nf, go_sem, reduceIte, reduceCtorEq, Nat.reduceEqDiff, Nat.reduceAdd, Nat.reduceLeDiff, Nat.reduceSub, Nat.reduceMul, Nat.reduceLT, Nat.reduceShiftRight, Nat.reduceMod, Int.reduceLE, Int.reduceLT, Int.reduceToNat, decide_true, Bool.and_self, Bool.true_and, Ob.map.injEq, Ob.it.injEq, List.cons.injEq, true_and, and_true]
        rw [holdC, if_pos h0, hpos ho, u64_in ((c.loc : Int) - _) (by omega)]
        exact ⟨⟨rfl, by dsimp only; omega, rfl, rfl, rfl, ⟨rfl, _, _, _, rfl⟩, rfl⟩, rfl⟩
def sp_chold : List D → Option (Prop × D × Fr)
  | [.agg [.c (.int .u64 z188), .c (.int .u64 z189), .c (.int .u64 z190), .c (.int .u64 z191), .c (.int .u64 z192), .c (.sl z193), .c (.bool z194)], .c (.int .u64 z195), .c (.int .u64 z196)] => some (z188 = (z188.toNat : Int) ∧ z189 = (z189.toNat : Int) ∧ z190 = (z190.toNat : Int) ∧ z191 = (z191.toNat : Int) ∧ z192 = (z192.toNat : Int) ∧ z193 = hds (dhds z193) ∧ z195 = (z195.toNat : Int) ∧ z196 = (z196.toNat : Int), chold_r (⟨z188.toNat, z189.toNat, z190.toNat, z191.toNat, z192.toNat, (dhds z193), z194⟩ : Ch) z195.toNat z196.toNat, [])
  | _ => none
attribute [go_sem] sp_chold
theorem sp_chold_ok : ∀ rs p r fr, sp_chold rs = some (p, r, fr) → p → FnOk Tryz.prog 82 rs r fr := by
  intro rs p r fr h hp
  unfold sp_chold at h
  split at h <;> cases h
  obtain ⟨hc0, hc1, hc2, hc3, hc4, hc5, hc6, hc7⟩ := hp
  rename_i z188 z189 z190 z191 z192 z193 z194 z195 z196
  obtain ⟨z188, rfl⟩ : ∃ m : Nat, z188 = m := ⟨_, hc0⟩
  obtain ⟨z189, rfl⟩ : ∃ m : Nat, z189 = m := ⟨_, hc1⟩
  obtain ⟨z190, rfl⟩ : ∃ m : Nat, z190 = m := ⟨_, hc2⟩
  obtain ⟨z191, rfl⟩ : ∃ m : Nat, z191 = m := ⟨_, hc3⟩
  obtain ⟨z192, rfl⟩ : ∃ m : Nat, z192 = m := ⟨_, hc4⟩
  obtain ⟨z193, rfl⟩ : ∃ m, z193 = hds m := ⟨_, hc5⟩
  obtain ⟨z195, rfl⟩ : ∃ m : Nat, z195 = m := ⟨_, hc6⟩
  obtain ⟨z196, rfl⟩ : ∃ m : Nat, z196 = m := ⟨_, hc7⟩
  simp only [Int.toNat_natCast, dhds_hds]
  exact chold_ok ⟨z188, z189, z190, z191, z192, z193, z194⟩ z195 z196
end Dm
namespace Dm
open Go Go.Proofs Go.IntWalk
def lholdL (l : List Ch) (id h n : Nat) : List Ch × Int :=
  if okLd l then (if Srt.thr Ch.id ltN l id = true then (if (whereI l h).2 = 0 then ([], 6) else if holdE (l.getD (Srt.pos Ch.id ltN l id) default) h n = 0 then (l.set (Srt.pos Ch.id ltN l id) (holdC (l.getD (Srt.pos Ch.id ltN l id) default) h n).1, 0) else ([], holdE (l.getD (Srt.pos Ch.id ltN l id) default) h n)) else ([], 5)) else ([], 1)
theorem holdC_2 {c : Ch} {id n : Nat} : (holdC c id n).2 = holdE c id n := by
  unfold holdC
  split
  · rename_i h; exact h.symm
  · rfl
@[go_sem] def lhold_r (l : List Ch) (id : Nat) (h : Nat) (n : Nat) : D := .tup [.sl (chs (lholdL l id h n).1), .int .i64 (lholdL l id h n).2]
@[go_sem] abbrev n_lhold : FuncId := 40
@[go_sem] def lhold_T : Tab := [(136, sp_place), (81, sp_lwhere), (82, sp_chold), (123, sp_owns)]
theorem lhold_T_ok : TabOk Tryz.prog lhold_T := (TabOk.cons sp_place_ok (TabOk.cons sp_lwhere_ok (TabOk.cons sp_chold_ok (TabOk.cons sp_owns_ok TabOk.nil))))
set_option maxRecDepth 8000 in
set_option maxHeartbeats 1000000 in
theorem lhold_ok (l : List Ch) (id : Nat) (h : Nat) (n : Nat)  : PureFn Tryz.prog 40 [.sl (chs l), .c (.int .u64 (id : Int)), .c (.int .u64 (h : Int)), .c (.int .u64 (n : Int))] (lhold_r l id h n) := by
  refine .of (ac40 lhold_T_ok (Nat.le_of_ble_eq_true rfl) ?_)
  simp -implicitDefEqProofs only [cd_t, cd_f, cd_dec, cd_not, cd_and, cd_or, grd_tt, grd_ff, grd_tf, grd_ft, grd_dt, grd_df, grd_nt, grd_nf, go_sem, Go.Proofs.Tryz.f40, reduceIte, reduceCtorEq, Nat.reduceEqDiff, Nat.reduceAdd, Nat.reduceLeDiff, Nat.reduceSub, Nat.reduceMul, Nat.reduceLT, Nat.reduceShiftRight, Nat.reduceMod, Int.reduceLE, Int.reduceLT, Int.reduceToNat, decide_true, Bool.and_self, Bool.true_and, Ob.map.injEq, Ob.it.injEq, List.cons.injEq, true_and, and_true]
  refine ac79 lhold_T_ok (Nat.le_of_ble_eq_true rfl) ?_
  simp -implicitDefEqProofs only [cd_t, cd_f, cd_dec, cd_not, cd_and, cd_or, grd_tt, grd_ff, grd_tf, grd_ft, grd_dt, grd_df, grd_nt, grd_nf, go_sem, Go.Proofs.Tryz.f79, reduceIte, reduceCtorEq, Nat.reduceEqDiff, Nat.reduceAdd, Nat.reduceLeDiff, Nat.reduceSub, Nat.reduceMul, Nat.reduceLT, Nat.reduceShiftRight, Nat.reduceMod, Int.reduceLE, Int.reduceLT, Int.reduceToNat, decide_true, Bool.and_self, Bool.true_and, Ob.map.injEq, Ob.it.injEq, List.cons.injEq, true_and, and_true]
  by_cases hok : okLd l
  · by_cases ht : Srt.thr Ch.id ltN l id = true
    · have e1 : placeL l id = (((Srt.pos Ch.id ltN l id : Nat) : Int), 0) := by rw [placeL, if_pos hok, if_pos ht]
      have hp : Srt.pos Ch.id ltN l id < l.length := by
        unfold Srt.thr at ht
        exact (of_decide_eq_true ht).1
      rw [e1, Int.toNat_natCast, lholdL, if_pos hok, if_pos ht]
      refine ⟨fun _ => ⟨⟨by omega, by omega⟩, ?_⟩, fun h => absurd rfl h⟩
      refine ac80 lhold_T_ok (Nat.le_of_ble_eq_true rfl) ?_
      simp -implicitDefEqProofs only [cd_t, cd_f, cd_dec, cd_not, cd_and, cd_or, grd_tt, grd_ff, grd_tf, grd_ft, grd_dt, grd_df, grd_nt, grd_nf, go_sem, Go.Proofs.Tryz.f80, reduceIte, reduceCtorEq, Nat.reduceEqDiff, Nat.reduceAdd, Nat.reduceLeDiff, Nat.reduceSub, Nat.reduceMul, Nat.reduceLT, Nat.reduceShiftRight, Nat.reduceMod, Int.reduceLE, Int.reduceLT, Int.reduceToNat, decide_true, Bool.and_self, Bool.true_and, Ob.map.injEq, Ob.it.injEq, List.cons.injEq, true_and, and_true]
      have h32 : l.length ≤ 1000000 ∧ ∀ c ∈ l, c.holds.length ≤ 1000000 := ⟨by have := hok.1; omega, fun c hc => by have := (hok.2.1 c hc).2.2.1; omega⟩
      refine ⟨fun hw => ⟨fun h6 => absurd h6 (by decide), fun _ => ?_⟩, fun hw => ⟨fun h0 => ?_, fun h0 => ?_⟩⟩
      · rw [if_pos hw]; exact ⟨rfl, rfl⟩
      · rw [holdC_2] at h0
        rw [if_neg hw, if_pos h0]
        exact ⟨h32, by omega, hp, ⟨by simp, _, _, _, rfl⟩, rfl⟩
      · rw [holdC_2] at h0 ⊢
        rw [if_neg hw, if_neg h0]
        exact ⟨rfl, rfl⟩
    · have e1 : placeL l id = (0, 5) := by rw [placeL, if_pos hok, if_neg ht]
      have e2 : lholdL l id h n = ([], 5) := by rw [lholdL, if_pos hok, if_neg ht]
      rw [e1, e2]
      exact ⟨fun h => absurd h (by decide), fun _ => ⟨rfl, rfl⟩⟩
  · have e1 : placeL l id = (0, 1) := by rw [placeL, if_neg hok]
    have e2 : lholdL l id h n = ([], 1) := by rw [lholdL, if_neg hok]
    rw [e1, e2]
    exact ⟨fun h => absurd h (by decide), fun _ => ⟨rfl, rfl⟩⟩
def sp_lhold : List D → Option (Prop × D × Fr)
  | [.c (.sl z197), .c (.int .u64 z198), .c (.int .u64 z199), .c (.int .u64 z200)] => some (z197 = chs (dchs z197) ∧ z198 = (z198.toNat : Int) ∧ z199 = (z199.toNat : Int) ∧ z200 = (z200.toNat : Int), lhold_r (dchs z197) z198.toNat z199.toNat z200.toNat, [])
  | _ => none
attribute [go_sem] sp_lhold
theorem sp_lhold_ok : ∀ rs p r fr, sp_lhold rs = some (p, r, fr) → p → FnOk Tryz.prog 40 rs r fr := by
  intro rs p r fr h hp
  unfold sp_lhold at h
  split at h <;> cases h
  obtain ⟨hc0, hc1, hc2, hc3⟩ := hp
  rename_i z197 z198 z199 z200
  obtain ⟨z197, rfl⟩ : ∃ m, z197 = chs m := ⟨_, hc0⟩
  obtain ⟨z198, rfl⟩ : ∃ m : Nat, z198 = m := ⟨_, hc1⟩
  obtain ⟨z199, rfl⟩ : ∃ m : Nat, z199 = m := ⟨_, hc2⟩
  obtain ⟨z200, rfl⟩ : ∃ m : Nat, z200 = m := ⟨_, hc3⟩
  simp only [Int.toNat_natCast, dchs_chs]
  exact lhold_ok z197 z198 z199 z200
end Dm
namespace Dm
open Go Go.Proofs Go.IntWalk
theorem hm_mem : ∀ {l : List Ch} {s : Int} {i : Nat} {x : Hd}, i < l.length → x ∈ (l.getD i default).holds → (x.id, s + i) ∈ hm s l
  | [], _, _, _, h, _ => absurd h (by simp)
  | c :: l, s, 0, x, _, h => by
    rw [hm, List.mem_append]
    exact .inl (List.mem_map.2 ⟨x, by simpa using h, by simp⟩)
  | c :: l, s, i + 1, x, hi, h => by
    rw [hm, List.mem_append]
    have := hm_mem (l := l) (s := s + 1) (i := i) (x := x) (by simpa using hi) (by simpa using h)
    refine .inr ?_
    rwa [show s + 1 + (i : Int) = s + (i + 1 : Nat) by omega] at this
theorem hold_perm {l : List Hd} {i : Nat} {x : Hd} : List.Perm (Srt.ins l i x) (x :: l) := Srt.ins_perm
theorem split_at {l : List Ch} {p : Nat} (hp : p < l.length) : l = l.take p ++ l.getD p default :: l.drop (p + 1) := by
  rw [getD_lt hp, List.getElem_cons_drop, List.take_append_drop]
theorem split_set {l : List Ch} {p : Nat} {d : Ch} (hp : p < l.length) : l.set p d = l.take p ++ d :: l.drop (p + 1) := by
  rw [List.set_eq_take_append_cons_drop, if_pos hp]
theorem hidL_set {l : List Ch} {p : Nat} {d : Ch} {x : Hd} (hp : p < l.length) (hd : d.holds.Perm (x :: (l.getD p default).holds)) : (hidL (l.set p d)).Perm (x.id :: hidL l) := by
  conv => rhs; rw [split_at hp]
  rw [split_set hp]
  simp only [hidL, List.flatMap_append, List.flatMap_cons]
  have h1 := hd.map Hd.id
  rw [List.map_cons] at h1
  refine (List.Perm.append_left _ (h1.append_right _)).trans ?_
  exact List.perm_middle
theorem held_ins {l : List Hd} {i : Nat} {x : Hd} : held (Srt.ins l i x) = x.n + held l := by
  unfold held
  rw [((hold_perm (l := l) (i := i) (x := x)).map Hd.n).sum_nat, List.map_cons, List.sum_cons]
theorem totL_set {l : List Ch} {p : Nat} {d : Ch} (hp : p < l.length) (hd : allC d = allC (l.getD p default)) : totL (l.set p d) = totL l := by
  conv => rhs; rw [split_at hp]
  rw [split_set hp]
  simp only [totL, List.map_append, List.map_cons, List.sum_append, List.sum_cons, hd]
theorem holdE_0 {c : Ch} {h n : Nat} (hn : n ≠ 0) (hr : n ≤ (roomC c).1) (ht : ¬ Srt.thr Hd.key ltN c.holds h = true) : holdE c h n = 0 ∧ okCh c := by
  unfold roomC at hr
  split at hr
  · rename_i hok
    split at hr
    · rename_i h2
      obtain ⟨h3, h4, h5⟩ := h2
      dsimp only at hr
      have q1 : c.loc ≤ MM := hok.2.2.2.2.2.2.2.1
      have q2 : c.most ≤ MM := hok.2.1
      refine ⟨?_, hok⟩
      unfold holdE
      rw [if_neg (by rintro (h | h | h) <;> first | exact h hok | omega), if_neg (by rw [h3]; decide), if_neg ht, if_neg h4, if_neg (by omega), if_neg (by omega)]
    · dsimp only at hr; omega
  · dsimp only at hr; omega
theorem hold_okCh {c : Ch} {h n : Nat} (he : holdE c h n = 0) (hok : okCh c) : okCh (holdC c h n).1 ∧ allC (holdC c h n).1 = allC c := by
  have e : holdC c h n = (⟨c.id, c.loc - n, c.rem, c.res, c.most, Srt.ins c.holds (Srt.pos Hd.key ltN c.holds h) ⟨h, n⟩, c.op⟩, 0) := by rw [holdC, if_pos he]
  obtain ⟨o1, o2, o3, o4, o5, o6, o7, o8, o9, o10⟩ := hok
  have hok : okCh c := ⟨o1, o2, o3, o4, o5, o6, o7, o8, o9, o10⟩
  unfold holdE at he
  split at he
  · cases he
  split at he
  · cases he
  split at he
  · cases he
  split at he
  · cases he
  split at he
  · cases he
  split at he
  · cases he
  rename_i h1 h2 h3 h4 h5 h6
  have hn0 : n ≠ 0 := fun h => h1 (.inr (.inl h))
  have h7 := held_ins (l := c.holds) (i := Srt.pos Hd.key ltN c.holds h) (x := ⟨h, n⟩)
  have hu : Srt.Up Hd.key ltN c.holds := (Srt.chn_up (lt := ltN) Srt.totNat).1 o6
  have hle : n ≤ c.loc := by omega
  have hnew : okCh (holdC c h n).1 := by
    rw [e]
    refine ⟨o1, o2, ?_, fun hop => absurd hop h2, fun y hy => ?_, ?_, ?_, ?_, o9, ?_⟩
    · dsimp only; rw [Srt.ins_len]; omega
    · rcases List.mem_cons.1 (hold_perm.mem_iff.1 hy) with rfl | hy
      · exact hn0
      · exact o5 y hy
    · exact (Srt.chn_up (lt := ltN) Srt.totNat).2 (Srt.ins_up (x := (⟨h, n⟩ : Hd)) (Srt.totNat) hu h3)
    · dsimp only; rw [h7]; dsimp only; omega
    · dsimp only; omega
    · dsimp only; rw [h7]; dsimp only; omega
  refine ⟨hnew, ?_⟩
  have a1 : allC c = held c.holds + c.loc + c.rem := by unfold allC sumsC; rw [if_pos hok]
  have a2 : allC (holdC c h n).1 = held (holdC c h n).1.holds + (holdC c h n).1.loc + (holdC c h n).1.rem := by unfold allC sumsC; rw [if_pos hnew]
  rw [a1, a2, e]
  dsimp only
  rw [h7]; dsimp only; omega
theorem where_0 {l : List Ch} {h : Nat} (hok : okLd l) : (whereI l h).2 = 0 ↔ h ∈ hidL l := by
  have hnd : ((hm 0 l).map (·.1)).Nodup := by rw [hm_keys]; exact hok.2.2.2.1
  rw [whereI, if_pos hok]
  constructor
  · cases hx : nlk h (hm 0 l) with
    | none => intro h; cases h
    | some i =>
      intro _
      have := (nlk_some hnd).1 hx
      rw [← hm_keys (s := 0)]
      exact List.mem_map.2 ⟨_, this, rfl⟩
  · intro hh
    rw [← hm_keys (s := 0)] at hh
    obtain ⟨⟨k, a⟩, h1, h2⟩ := List.mem_map.1 hh
    dsimp only at h2
    subst h2
    rw [(nlk_some hnd).2 h1]
theorem hold_led {l : List Ch} {c : Ch} {h n : Nat} (hok : okLd l) (hc : c ∈ l) (hn : n ≠ 0) (hr : n ≤ (roomC c).1) (hw : ¬ (whereI l h).2 = 0) : (lholdL l c.id h n).2 = 0 ∧ okLd (lholdL l c.id h n).1 ∧ whereI (lholdL l c.id h n).1 h = (c.id, 0) := by
  have hu : Srt.Up Ch.id ltN l := (Srt.chn_up (lt := ltN) Srt.totNat).1 hok.2.2.1
  have ht : Srt.thr Ch.id ltN l c.id = true := (Srt.thr_iff Srt.totNat hu).2 ⟨c, hc, rfl⟩
  have h2 : Srt.pos Ch.id ltN l c.id < l.length ∧ (l.getD (Srt.pos Ch.id ltN l c.id) default).id = c.id := by
    have := ht
    unfold Srt.thr at this
    exact of_decide_eq_true this
  obtain ⟨hp, hpi⟩ := h2
  have hcp : l.getD (Srt.pos Ch.id ltN l c.id) default = c := Srt.up_inj (key := Ch.id) (lt := ltN) Srt.totNat hu (mem_getD.2 ⟨_, hp, rfl⟩) hc hpi
  generalize hq : Srt.pos Ch.id ltN l c.id = p at *
  rw [where_0 hok] at hw
  have hth : ¬ Srt.thr Hd.key ltN c.holds h = true := fun hth => by
    have hu' : Srt.Up Hd.key ltN c.holds := (Srt.chn_up (lt := ltN) Srt.totNat).1 (hok.2.1 c hc).2.2.2.2.2.1
    obtain ⟨x, hx, rfl⟩ := (Srt.thr_iff Srt.totNat hu').1 hth
    exact hw (List.mem_flatMap.2 ⟨c, hc, List.mem_map.2 ⟨x, hx, rfl⟩⟩)
  obtain ⟨he, hokc⟩ := holdE_0 (h := h) hn hr hth
  obtain ⟨hok', hall⟩ := hold_okCh he hokc
  have e : lholdL l c.id h n = (l.set p (holdC c h n).1, 0) := by
    rw [lholdL, if_pos hok, if_pos ht, if_neg (by rw [where_0 hok]; exact hw), hq, hcp, if_pos he]
  have eid : (holdC c h n).1.id = c.id := by rw [holdC, if_pos he]
  have ehl : (holdC c h n).1.holds.Perm (⟨h, n⟩ :: c.holds) := by rw [holdC, if_pos he]; exact hold_perm
  have hpm := hidL_set (l := l) (p := p) (d := (holdC c h n).1) (x := ⟨h, n⟩) hp (by rw [hcp]; exact ehl)
  have hokm : okLd (l.set p (holdC c h n).1) := by
    refine ⟨by rw [List.length_set]; exact hok.1, fun d hd => ?_, ?_, ?_, ?_⟩
    · rcases List.mem_or_eq_of_mem_set hd with h | rfl
      · exact hok.2.1 d h
      · exact hok'
    · exact (Srt.chn_up (lt := ltN) Srt.totNat).2 (Srt.set_up hu hp (by rw [hcp]; exact eid))
    · rw [hpm.nodup_iff, List.nodup_cons]; exact ⟨hw, hok.2.2.2.1⟩
    · rw [totL_set hp (by rw [hcp]; exact hall)]; exact hok.2.2.2.2
  rw [e]
  refine ⟨rfl, hokm, ?_⟩
  have hnd : ((hm 0 (l.set p (holdC c h n).1)).map (·.1)).Nodup := by rw [hm_keys]; exact hokm.2.2.2.1
  have hgp : (l.set p (holdC c h n).1).getD p default = (holdC c h n).1 := by rw [Srt.set_getD hp, if_pos rfl]
  have hmem := hm_mem (l := l.set p (holdC c h n).1) (s := 0) (i := p) (x := ⟨h, n⟩) (by rw [List.length_set]; exact hp) (by rw [hgp]; exact ehl.mem_iff.2 (.head _))
  rw [whereI, if_pos hokm, (nlk_some hnd).2 hmem]
  dsimp only
  rw [show ((0 : Int) + (p : Int)).toNat = p by omega, hgp, eid]
end Dm
namespace Dm
open Go Go.Proofs Go.IntWalk
theorem lhold_at {l : List Ch} {id h n : Nat} (h0 : (lholdL l id h n).2 = 0) : okLd l ∧ ∃ c ∈ l, c.id = id ∧ Srt.pos Ch.id ltN l id < l.length ∧ l.getD (Srt.pos Ch.id ltN l id) default = c ∧ h ∉ hidL l ∧ holdE c h n = 0 ∧ lholdL l id h n = (l.set (Srt.pos Ch.id ltN l id) (holdC c h n).1, 0) := by
  by_cases hok : okLd l
  · by_cases ht : Srt.thr Ch.id ltN l id = true
    · by_cases hw : (whereI l h).2 = 0
      · rw [lholdL, if_pos hok, if_pos ht, if_pos hw] at h0; cases h0
      · by_cases he : holdE (l.getD (Srt.pos Ch.id ltN l id) default) h n = 0
        · have h2 := ht
          unfold Srt.thr at h2
          obtain ⟨hp, hpi⟩ := of_decide_eq_true h2
          refine ⟨hok, _, mem_getD.2 ⟨_, hp, rfl⟩, hpi, hp, rfl, fun h => hw ((where_0 hok).2 h), he, ?_⟩
          rw [lholdL, if_pos hok, if_pos ht, if_neg hw, if_pos he]
        · rw [lholdL, if_pos hok, if_pos ht, if_neg hw, if_neg he] at h0; exact absurd h0 he
    · rw [lholdL, if_pos hok, if_neg ht] at h0; cases h0
  · rw [lholdL, if_neg hok] at h0; cases h0
theorem lhold_fine {l : List Ch} {id h n : Nat} (h0 : (lholdL l id h n).2 = 0) : okLd (lholdL l id h n).1 := by
  obtain ⟨hok, c, hc, hid, hp, hcp, hw, he, e⟩ := lhold_at h0
  have hu : Srt.Up Ch.id ltN l := (Srt.chn_up (lt := ltN) Srt.totNat).1 hok.2.2.1
  obtain ⟨hok', hall⟩ := hold_okCh he (hok.2.1 c hc)
  have eid : (holdC c h n).1.id = c.id := by rw [holdC, if_pos he]
  have ehl : (holdC c h n).1.holds.Perm (⟨h, n⟩ :: c.holds) := by rw [holdC, if_pos he]; exact hold_perm
  generalize Srt.pos Ch.id ltN l id = p at *
  have hpm := hidL_set (l := l) (p := p) (d := (holdC c h n).1) (x := ⟨h, n⟩) hp (by rw [hcp]; exact ehl)
  rw [e]
  refine ⟨by rw [List.length_set]; exact hok.1, fun d hd => ?_, ?_, ?_, ?_⟩
  · rcases List.mem_or_eq_of_mem_set hd with h | rfl
    · exact hok.2.1 d h
    · exact hok'
  · exact (Srt.chn_up (lt := ltN) Srt.totNat).2 (Srt.set_up hu hp (by rw [hcp]; exact eid))
  · rw [hpm.nodup_iff, List.nodup_cons]; exact ⟨hw, hok.2.2.2.1⟩
  · rw [totL_set hp (by rw [hcp]; exact hall)]; exact hok.2.2.2.2
theorem start_len {l : List Py} {p : Py} : (startP l p).1.length ≤ 257 := by
  unfold startP
  split
  · simp
  · rename_i hA
    have hok : okPy l := Decidable.byContradiction fun h => hA (.inl h)
    have := hok.1
    split
    · simp
    · split
      · split
        · simp
        · rename_i k hk
          dsimp only
          have hkl : k < l.length := by
            unfold idle at hk
            exact (List.findIdx?_eq_some_iff_getElem.1 hk).1
          rw [Srt.ins_len, List.length_eraseIdx_of_lt hkl]; omega
      · dsimp only
        rw [Srt.ins_len]; omega
theorem add_len {f : Fd} {k : Int} {a n : Nat} : (addF f k a n).1.l.length ≤ 64 := by
  unfold addF
  split
  · rename_i h
    have := h.1.2.2.1
    split
    · simp
    · dsimp only
      rw [List.length_drop, List.length_append, List.length_singleton]; omega
  · simp
theorem small_ok {w : Wl} (h : okW w) : smallW w := by
  obtain ⟨h1, h2, h3, h4, _⟩ := h
  have h7 := h3.2.2.1
  refine ⟨by have := h1.1; omega, fun c hc => by have := (h1.2.1 c hc).2.2.1; omega, by omega, by have := h2.1; omega, ?_, by omega⟩
  rename_i h8
  have h9 := h8.2.2.2
  have : okPy w.p := by
    unfold agrL at h9
    split at h9
    · rename_i h; exact h.1
    · cases h9
  have := this.1; omega
end Dm
namespace Dm
open Go
section
variable {δ : List Deferred} {P : Program} {T : Tab} {g g' : G} {s s' r e : St} {a : Act} {w : World} {n N : Nat} {F F' : Nat → Prop} {all : Array Oper}
theorem drawn_soundK {k : Nat} (hk : k < all.size) (hanc : ∀ j, j < k → Anc all j k) (hch : ∀ t, k < t → t < all.size → ∃ o ed, all[t]? = some o ∧ ed ∈ o.after ∧ Region.binds .any ed = true ∧ ed.on = t - 1) (hT : TabS P T) (hd : all.toList.all (dstOk1 n) = true) (hE : ∀ (i : Nat) o, all[i]? = some o → ∀ ed ∈ o.after, Region.binds .any ed = true → ed.on < i) {Q : Exit → Act → World → Prop} : ∀ (fuel : Nat) (listed : Array Bool) (l : List Ent) (g : G) (s : St) (a : Act) (w : World),
    l.length = fuel → listed.size = all.size → Down all listed → (∀ i, i < k → (listed.getD i true = false ↔ ∃ x ∈ l, x.i = i)) → (∀ i, k ≤ i → i < all.size → listed.getD i true = false) → (∀ x ∈ l, x.i < k ∧ all[x.i]? = some x.o) → l.Pairwise (Two all) → (∀ x ∈ l, x.r.nx ≤ e.nx ∧ x.B ≤ x.r.nx) →
    Tr P T all l s e → RelP (Free l e) δ g s a w → a.tmps.size = n → (∀ g' (listed' : Array Bool) a' w', listed'.size = all.size → (∀ i, i < all.size → listed'.getD i true = decide (i < k)) → RelP (fun id => e.nx ≤ id) δ g' e a' w' → a'.tmps.size = n → Step g s w g' e w' → wpAny P .any all Q (all.size - k) listed' a' w') →
    wpAny P .any all Q (fuel + (all.size - k)) listed a w
  | 0, listed, l, g, s, a, w, hl, hsz, hdn, hli, hlk, ho, hp, hnx, htr, hr, hn, hQ => by
    have : l = [] := List.eq_nil_of_length_eq_zero hl
    subst this
    rw [Nat.zero_add]
    refine hQ g listed a w hsz (fun i hi => ?_) ((hr.eqv htr).less fun id hid => .inr hid) hn (Step.eqv htr.2)
    by_cases hik : i < k
    · have : listed.getD i true ≠ false := fun h => by
        obtain ⟨x, hx, _⟩ := (hli i hik).1 h
        cases hx
      rw [decide_eq_true hik]
      simpa using this
    · rw [decide_eq_false hik]; exact hlk i (by omega) hi
  | fuel + 1, listed, l, g, s, a, w, hl, hsz, hdn, hli, hlk, ho0, hp, hnx, htr, hr, hn, hQ => by
    have ho : ∀ x ∈ l, all[x.i]? = some x.o := fun x hx => (ho0 x hx).2
    have hlk' : ∀ x ∈ l, x.i < k := fun x hx => (ho0 x hx).1
    have hlt : ∀ x ∈ l, x.i < all.size := fun x hx => (Array.getElem?_eq_some_iff.1 (ho x hx)).1
    rw [show fuel + 1 + (all.size - k) = fuel + (all.size - k) + 1 by omega]
    refine ⟨fun h0 => ?_, fun i hi => ?_⟩
    · -- there is always one that may come up
      cases l with
      | nil => simp at hl
      | cons y l =>
        exfalso
        have hy := ho y (by simp)
        have hyl := hlt y (by simp)
        have : y.i ∈ Region.ready .any all listed := by
          rw [Region.ready, List.mem_filter]
          refine ⟨List.mem_range.2 hyl, ?_⟩
          have h1 : listed.getD y.i true = false := (hli y.i (hlk' y (by simp))).2 ⟨y, by simp, rfl⟩
          rw [h1, hy]
          simp only [Bool.not_false, Option.map_some, Option.getD_some, Bool.true_and, Array.all_eq_true_iff_forall_mem]
          intro ed hed
          by_cases hb : Region.binds .any ed = true
          · have h2 := hE y.i y.o hy ed hed hb
            have h3 : listed.getD ed.on true ≠ false := fun h => by
              obtain ⟨z, hz, hzi⟩ := (hli ed.on (by have := hlk' y (by simp); omega)).1 h
              rcases List.mem_cons.1 hz with rfl | hz
              · omega
              · have := (List.rel_of_pairwise_cons hp hz).1
                omega
            have h4 : ed.on < listed.size := by omega
            have h5 : listed.getD ed.on true = true := by simpa using h3
            have h6 : listed.getD ed.on false = true := by
              simp only [Array.getD, h4, dif_pos] at h5 ⊢
              exact h5
            simp [hb, h6]
          · simp [hb]
        rw [h0] at this
        cases this
    · rw [Region.ready, List.mem_filter] at hi
      obtain ⟨hi1, hi2⟩ := hi
      have hi1' := List.mem_range.1 hi1
      simp only [Bool.and_eq_true, Bool.not_eq_true'] at hi2
      obtain ⟨hi3, hi4⟩ := hi2
      have hik : i < k := by
        rcases Nat.lt_or_ge i k with h | h
        · exact h
        exfalso
        have hgo : ∀ o ed, all[i]? = some o → ed ∈ o.after → Region.binds .any ed = true → listed.getD ed.on false = true := fun o ed ho' hed hb => by
          rw [ho'] at hi4
          simp only [Option.map_some, Option.getD_some, Array.all_eq_true_iff_forall_mem] at hi4
          have := hi4 ed hed
          rw [hb] at this
          simpa using this
        rcases Nat.eq_or_lt_of_le h with h5 | h5
        · subst h5
          cases l with
          | nil => simp at hl
          | cons y l =>
            have h6 := hanc y.i (hlk' y (by simp))
            have h7 : listed.getD y.i false = true := by
              obtain ⟨o, ed, ho', he', hb, h⟩ := h6.inv
              rcases h with h | h
              · rw [← h]; exact hgo _ _ ho' he' hb
              · exact h.listed hdn (hgo _ _ ho' he' hb)
            have h8 : listed.getD y.i true = false := (hli y.i (hlk' y (by simp))).2 ⟨y, by simp, rfl⟩
            have h9 : y.i < listed.size := by rw [hsz]; exact hlt y (by simp)
            simp only [Array.getD, h9, dif_pos] at h7 h8
            rw [h7] at h8
            cases h8
        · obtain ⟨o, ed, ho', hed, hb, hon⟩ := hch i h5 hi1'
          have h6 := hgo o ed ho' hed hb
          rw [hon] at h6
          have h8 := hlk (i - 1) (by omega) (by omega)
          have h9 : i - 1 < listed.size := by omega
          simp only [Array.getD, h9, dif_pos] at h6 h8
          rw [h6] at h8
          cases h8
      obtain ⟨x, hx, rfl⟩ := (hli i hik).1 hi3
      have hxo := ho x hx
      rw [hxo] at hi4
      simp only [Option.map_some, Option.getD_some, Array.all_eq_true_iff_forall_mem] at hi4
      obtain ⟨pre, post, rfl⟩ := List.append_of_mem hx
      have hpp := List.pairwise_append.1 hp
      have hind : ∀ y ∈ pre, Ind all y x ∨ (cmB all y.o x.o = true ∧ y.r.nx = y.B) := fun y hy => by
        obtain ⟨h1, _, _, h2⟩ := hpp.2.2 y hy x (by simp)
        refine h2.resolve_left fun he => ?_
        have hgo : ∀ ed ∈ x.o.after, Region.binds .any ed = true → listed.getD ed.on false = true := fun ed hed hb => by
          have := hi4 ed hed
          rw [hb] at this
          simpa using this
        have h5 : listed.getD y.i false = true := by
          obtain ⟨o, ed, ho', he', hb, h⟩ := he.inv
          rw [hxo] at ho'; cases ho'
          rcases h with h | h
          · rw [← h]; exact hgo _ he' hb
          · exact h.listed hdn (hgo _ he' hb)
        have h6 : listed.getD y.i true = false := (hli y.i (hlk' y (by simp [hy]))).2 ⟨y, by simp [hy], rfl⟩
        have h7 : y.i < listed.size := by rw [hsz]; exact hlt y (by simp [hy])
        simp only [Array.getD, h7, dif_pos] at h5 h6
        rw [h5] at h6
        cases h6
      obtain ⟨hgx, pre', hsim, htr'⟩ := Tr.front (fun y hy => (hind y hy).imp_right (·.1)) htr
      have hn1 : ∀ y ∈ pre, ∀ id ∈ x.T, ¬ (y.B ≤ id ∧ id < y.r.nx) := fun y hy id hid => by
        rcases hind y hy with h | h
        · exact h.n1 id hid
        · omega
      have hsim2 : (pre' ++ post).map Ent.sh = (pre ++ post).map Ent.sh := by rw [List.map_append, List.map_append, hsim]
      have hback : ∀ y' ∈ pre' ++ post, ∃ y ∈ pre ++ post, y'.sh = y.sh := fun y' hy' => mem_sim hsim2 hy'
      have hpost : ∀ y ∈ post, x.r.nx ≤ y.B := fun y hy => (List.rel_of_pairwise_cons hpp.2.1 hy).2.1
      have hpre : ∀ y ∈ pre, y.r.nx ≤ x.B := fun y hy => (hpp.2.2 y hy x (by simp)).2.1
      have hxnx := hnx x (by simp)
      have hlow := hgx.facts.2.2
      unfold wpOp
      rw [hxo]
      refine ent_sound (F' := Free (pre' ++ post) e) hT hgx (List.all_eq_true.1 hd x.o (by simpa using Array.mem_of_getElem? hxo)) hr hn (fun id h1 h2 => .inl ⟨x, by simp, h1, h2⟩) (fun id hid => ?_) fun g' a' w' hr' hn' hst => ?_
      · rcases hid with ⟨y', hy', h1, h2⟩ | h1
        · obtain ⟨y, hy, hyy⟩ := hback y' hy'
          obtain ⟨_, _, _, _, a5, a6⟩ := sh_eq hyy
          rw [a5] at h1
          rw [a6] at h2
          rcases List.mem_append.1 hy with hy | hy
          · have h3 := hpre y hy
            exact ⟨.inl ⟨y, by simp [hy], h1, h2⟩, .inl (by omega), fun hm => hn1 y hy id hm ⟨h1, h2⟩⟩
          · have h3 := hpost y hy
            exact ⟨.inl ⟨y, by simp [hy], h1, h2⟩, .inr (by omega), fun hm => by have := hlow id hm; omega⟩
        · exact ⟨.inr h1, .inr (by omega), fun hm => by have := hlow id hm; omega⟩
      · have hlen' : pre'.length = pre.length := by simpa using congrArg List.length hsim
        refine drawn_soundK hk hanc hch hT hd hE fuel _ (pre' ++ post) g' _ a' w' (by simp at hl ⊢; omega) (by simpa using hsz) ?_ (fun i hi => ?_) (fun i h1 h2 => by rw [getD_set_ne true (by omega)]; exact hlk i h1 h2) (fun y' hy' => ?_) ?_ (fun y' hy' => ?_) htr' hr' hn'
          (fun g'' l'' a'' w'' h0 h0' h1 h2 h3 => hQ g'' l'' a'' w'' h0 h0' h1 h2 (hst.trans h3))
        · intro i o hi ho' ed hed hb
          have hset : ∀ k : Nat, listed.getD k false = true → (listed.setIfInBounds x.i true).getD k false = true := fun k hk => by
            by_cases hkx : k = x.i
            · subst hkx
              simp [Array.getD, hsz, hi1']
            · rw [getD_set_ne false (fun h => hkx h.symm)]; exact hk
          refine hset _ ?_
          by_cases hix : i = x.i
          · subst hix
            rw [hxo] at ho'; cases ho'
            have := hi4 ed hed
            rw [hb] at this
            simpa using this
          · rw [getD_set_ne false (fun h => hix h.symm)] at hi
            exact hdn i o hi ho' ed hed hb
        · have hne : ∀ y ∈ pre ++ post, y.i ≠ x.i := fun y hy => by
            rcases List.mem_append.1 hy with hy | hy
            · have := (hpp.2.2 y hy x (by simp)).1; omega
            · have := (List.rel_of_pairwise_cons hpp.2.1 hy).1; omega
          by_cases hix : i = x.i
          · subst hix
            have h7 : x.i < listed.size := by omega
            constructor
            · intro h
              simp [Array.getD, h7] at h
            · rintro ⟨y', hy', hyi⟩
              obtain ⟨y, hy, hyy⟩ := hback y' hy'
              exact absurd ((sh_eq hyy).1.symm.trans hyi) (hne y hy)
          · have : (listed.setIfInBounds x.i true).getD i true = listed.getD i true := by
              have hix' : x.i ≠ i := fun h => hix h.symm
              simp only [Array.getD, Array.size_setIfInBounds]
              split
              · simp only [Array.getInternal_eq_getElem]
                exact Array.getElem_setIfInBounds_ne _ hix'
              · rfl
            rw [this, hli i hi]
            constructor
            · rintro ⟨y, hy, hyi⟩
              have hy2 : y ∈ pre ++ post := by
                simp at hy ⊢
                rcases hy with h | h | h
                · exact .inl h
                · subst h; exact absurd hyi.symm hix
                · exact .inr h
              obtain ⟨y', hy', hyy⟩ := mem_sim hsim2.symm hy2
              exact ⟨y', hy', (sh_eq hyy).1.symm.trans hyi⟩
            · rintro ⟨y', hy', hyi⟩
              obtain ⟨y, hy, hyy⟩ := hback y' hy'
              exact ⟨y, by simp at hy ⊢; rcases hy with h | h <;> simp [h], (sh_eq hyy).1.symm.trans hyi⟩
        · obtain ⟨y, hy, hyy⟩ := hback y' hy'
          obtain ⟨a1, a2, _⟩ := sh_eq hyy
          rw [a1, a2]
          exact ho0 y (by simp at hy ⊢; rcases hy with h | h <;> simp [h])
        · exact pw_sim (fun _ _ _ _ h1 h2 h3 => h3.sim h1 h2) hsim2 (hp.sublist (by simp))
        · obtain ⟨y, hy, hyy⟩ := hback y' hy'
          obtain ⟨_, _, _, _, a5, a6⟩ := sh_eq hyy
          rw [a5, a6]
          exact hnx y (by simp at hy ⊢; rcases hy with h | h <;> simp [h])
def tailB (all : Array Oper) (us : List Nat) (k : Nat) : Bool := decide (k < all.size) && ((List.range k).all fun j => bitN (us.getD k 0) j) && (List.range all.size).all fun t => decide (t ≤ k) || Region.waitsFor .any all t (t - 1)
def lstK (k m : Nat) : Array Bool := (Array.range m).map fun i => decide (i < k)
theorem lstK_eq {k : Nat} {listed : Array Bool} (h : ∀ i, i < listed.size → listed.getD i true = decide (i < k)) : listed = lstK k listed.size := by
  apply Array.ext
  · simp [lstK]
  · intro i h1 h2
    have := h i h1
    simp only [Array.getD, h1, dif_pos] at this
    simp [lstK]
    simpa using this
theorem ADraw.tail (k : Nat) (us : List Nat) (hT : TabOk P T) {i : Nat} {ops : Array Oper} {Q : Exit → St → Prop} (hm : P.follows .mixedOrders = true) (hB : prsB ops 0 [] [] ops.toList us = true) (hd : ops.toList.all (dstOk1 n) = true)
    (hk : tailB ops us k = true) (hq : Region.seqB .any ops (ops.size - k) k (lstK k ops.size) = true)
    (h : dx P T ops (ops.toList.take k) us 0 [] (fun e => aops P T ops (ops.toList.drop k) e (Q .normal)) s) : ADraw P n N i ops Q s := by
  intro δ g a w hr hn
  obtain ⟨l, e, hK, ho⟩ := dx_out _ _ _ _ _ h
  obtain ⟨hp1, _, hp3, hp4⟩ := prsB_spec hB rfl (fun j p h => by simp [bitN_zero] at h) (fun j => by simp)
  simp only [tailB, Bool.and_eq_true, decide_eq_true_eq] at hk
  obtain ⟨⟨hk1, hk2⟩, hk3⟩ := hk
  have htk : ∀ j o, (ops.toList.take k)[j]? = some o → j < k ∧ ops[j]? = some o := fun j o hj => by
    rw [List.getElem?_take] at hj
    split at hj
    · rename_i hjk; exact ⟨hjk, by simpa using hj⟩
    · cases hj
  have hof : ∀ x ∈ l, x.i < k ∧ ops[x.i]? = some x.o := fun x hx => by
    obtain ⟨j, h1, h2⟩ := ho.of x hx
    have : x.i = j := by omega
    rw [this]
    exact htk j _ h2
  have hC : Ext w { w with drawn := w.drawn + 1 } := ⟨Nat.le_refl _, fun _ _ => rfl, rfl, rfl, rfl, Nat.le_succ _⟩
  obtain ⟨h6, h7⟩ := hr.o.grow hC (I := g.I) (fun b hb => hb) (fun b _ hb => hb) (fun b hb => (hr.o.cel b hb).keep (hC.2.1 b (hr.o.imm b hb).1))
  have hr' : Rel δ (g.imm g.I) s a { w with drawn := w.drawn + 1 } := hr.of h6 h7.tm rfl
  have hlen : l.length = k := by
    have hnd : (l.map (·.i)).Pairwise (· < ·) := (List.pairwise_map).2 (ho.two.imp fun h => h.1)
    have h1 : l.map (·.i) = List.range k := by
      refine List.Perm.eq_of_pairwise (le := (· < ·)) (fun a b _ _ h h' => by omega) hnd List.pairwise_lt_range ?_
      refine (List.perm_ext_iff_of_nodup (hnd.imp fun h => Nat.ne_of_lt h) List.nodup_range).2 fun q => ?_
      rw [List.mem_map, List.mem_range]
      constructor
      · rintro ⟨x, hx, rfl⟩
        exact (hof x hx).1
      · intro hq
        obtain ⟨x, hx, hxi⟩ := ho.nums q ops[q] (by rw [List.getElem?_take_of_lt hq]; simp [show q < ops.size by omega])
        exact ⟨x, hx, by omega⟩
    have h2 := congrArg List.length h1
    simpa using h2
  have hanc : ∀ j, j < k → Anc ops j k := fun j hj => by
    have hb := List.all_eq_true.1 hk2 j (List.mem_range.2 hj)
    have := hp4 k ops[k] (by simp [hk1]) j hb
    rwa [Nat.zero_add] at this
  have hch : ∀ t, k < t → t < ops.size → ∃ o ed, ops[t]? = some o ∧ ed ∈ o.after ∧ Region.binds .any ed = true ∧ ed.on = t - 1 := fun t h1 h2 => by
    have hb := List.all_eq_true.1 hk3 t (List.mem_range.2 h2)
    rw [decide_eq_false (by omega), Bool.false_or] at hb
    obtain ⟨o, h3, ed, h4, h5, h6⟩ := Region.waitsFor_spec hb
    exact ⟨o, ed, h3, h4, h5, h6⟩
  have hfuel : ops.size = l.length + (ops.size - k) := by omega
  refine wp_region_any hm ?_
  have key := drawn_soundK (e := e) (Q := fun x a' w' => ∃ g' s', Q x s' ∧ Rel δ g' s' a' w' ∧ a'.tmps.size = n ∧ StepN N g s w g' s' w') hk1 hanc hch hT.toS hd (fun i o hi ed hed hb => by
    have := hp1 i o (by simpa using hi) ed hed hb
    omega) l.length (Array.replicate ops.size false) l (g.imm g.I) s a { w with drawn := w.drawn + 1 } rfl (by simp) (fun i o hi => by by_cases hsz : i < ops.size <;> simp [Array.getD, hsz] at hi) (fun i hi => ?_) (fun i h1 h2 => by simp [Array.getD, h2]) hof ?_ (fun x hx => ⟨(ho.lo x hx).2.2, (ho.lo x hx).2.1⟩) ho.tr (hr'.toP.less fun id hid => ?_) hn (fun g' listed' a' w' hsz hls h1 h2 h3 => ?_)
  · rw [← hfuel] at key; exact key
  · constructor
    · intro _
      obtain ⟨x, hx, hxi⟩ := ho.nums i ops[i] (by rw [List.getElem?_take_of_lt hi]; simp [show i < ops.size by omega])
      exact ⟨x, hx, by omega⟩
    · intro _
      simp [Array.getD, show i < ops.size by omega]
  · refine ho.two.imp_of_mem fun {y x} hy hx h => ⟨h.1, h.2.1, h.2.2.1, ?_⟩
    rw [Nat.sub_zero] at h
    by_cases hed : bitN (us.getD x.i 0) y.i = true
    · left
      have := hp4 x.i x.o (by simpa using (hof x hx).2) y.i hed
      rwa [Nat.zero_add] at this
    · right; left
      have h8 := indF_spec (h.2.2.2.resolve_right hed)
      have h9 := hp3 y.i x.i y.o x.o h.1 (by simpa using (hof y hy).2) (by simpa using (hof x hx).2)
      rw [Nat.zero_add] at h9
      exact ⟨h9.resolve_left hed, h8.1, h8.2.1, h8.2.2, h.2.1, h.2.2.1⟩
  · rcases hid with ⟨x, hx, h1, h2⟩ | h1
    · have := ho.lo x hx; omega
    · have := ho.nx; omega
  · have hle : listed' = lstK k ops.size := by rw [← hsz]; exact lstK_eq fun i hi => hls i (by omega)
    have hrel : Rel δ g' e a' w' := h1.toR fun id hid => hid
    have h10 : Step g s w (g.imm g.I) s { w with drawn := w.drawn + 1 } := h7.tm
    have hdl : (ops.toList.drop k).length = ops.size - k := by simp
    have := wpAny_of_seq (P := P) (md := .any) (ops := ops) (Q' := fun x a' w' => ∃ g' s', Q x s' ∧ Rel δ g' s' a' w' ∧ a'.tmps.size = n ∧ StepN N g s w g' s' w') (ops.toList.drop k) k listed' a' w' (fun j => by simp) (by rw [hdl, hle]; exact hq)
      (aops_sound hT.toS ops _ (fun o ho => List.all_eq_true.1 hd o (List.mem_of_mem_drop ho)) hK hrel h2 fun a'' w'' ⟨g'', s'', q1, q2, q3, q4⟩ => ⟨g'', s'', q1, q2, q3, ((h10.trans h3).trans q4).toN⟩)
    rwa [hdl] at this
end
end Dm
namespace Dm
open Go Go.Proofs Go.IntWalk
@[go_sem] def lins_T2 : Tab := [ovk 168]
theorem lins_T2_ok : TabOk Tryz.prog lins_T2 := .cons (ov_ok 168) .nil
@[go_sem] def lins_T3 : Tab := [fg 12]
theorem lins_T3_ok : TabOk Tryz.prog lins_T3 := .cons (fg_ok 12) .nil
theorem lins_wide (l : List Ch) : Wide 7 (chs l) := of_eq_true (chs_wide l)
set_option maxRecDepth 8000 in
set_option maxHeartbeats 1000000 in
theorem lins_ok (l : List Ch) (x : Ch) (i : Nat) (hi : i ≤ l.length) (hl : l.length ≤ 1000000) :
    ACall Tryz.prog 122 [.vec 0 l.length, .int .i64 i, .vec 1 1] [(1, .vec true 7 67 (chs [x])), (0, .vec true 7 67 (chs l))] 2 fun d os _ => Grown 7 67 (chs (Srt.ins l i x)) d os := by
  have hil : (Srt.ins l i x).length = l.length + 1 := Srt.ins_len
  have hq : ∀ j os, lk j os = some (.vec true 7 67 (chs (Srt.ins l i x))) → Grown 7 67 (chs (Srt.ins l i x)) (.vec j (l.length + 1)) os := fun j os h => ⟨j, by rw [chs_length, hil], h⟩
  by_cases hin : i = l.length
  · refine ac122 lins_T3_ok (Nat.le_of_ble_eq_true rfl) ?_
    have e4 : ((1 : Int) = 0) = False := eq_false (by decide)
    subst hin
    simp -implicitDefEqProofs only [cd_t, cd_f, cd_dec, cd_not, cd_and, cd_or, grd_tt, grd_ff, grd_tf, grd_ft, grd_dt, grd_df, grd_nt, grd_nf, go_sem, Go.Proofs.Tryz.f122, e4, decide_true, reduceIte, reduceCtorEq, Nat.reduceEqDiff, Nat.reduceAdd, Nat.reduceLeDiff, Nat.reduceSub, Nat.reduceMul, Nat.reduceLT, Nat.reduceShiftRight, Nat.reduceMod, Int.reduceLE, Int.reduceLT, Int.reduceToNat, decide_true, Bool.and_self, Bool.true_and, Ob.map.injEq, Ob.it.injEq, List.cons.injEq, true_and, and_true]
    refine ⟨Int.le_refl _, fun h => h.elim, fun _ => ⟨by omega, hq _ _ ?_⟩⟩
    rw [lk_cons, if_neg (by decide), lk_hd]
    simp [Srt.ins]
  · have hlt : i < l.length := by omega
    refine ACall.opn 0 rfl (by rw [chs_length]; omega) fun c hc hcm => ?_
    refine ACall.sld ?_
    rw [chs_length] at hc
    refine ac122 lins_T2_ok (Nat.le_of_ble_eq_true rfl) ?_
    have e1 : IntKind.i64.wrap ((l.length : Int) + 1) = ((l.length + 1 : Nat) : Int) := by rw [i64_in _ (by omega)]; omega
    have e2 : IntKind.i64.wrap ((i : Int) + 1) = ((i + 1 : Nat) : Int) := by rw [i64_in _ (by omega)]; omega
    have e3 : ((i : Int) = (l.length : Int)) = False := eq_false (by omega)
    have e4 : ((1 : Int) = 0) = False := eq_false (by decide)
    have e5 : IntKind.i64.wrap ((l.length : Int) + 1 - (i : Int)) = ((l.length + 1 - i : Nat) : Int) := by rw [i64_in _ (by omega)]; omega
    have e6 : ((l.length : Int) + 1).toNat = l.length + 1 := by omega
    have e7 : ((i : Int) + 1).toNat = i + 1 := by omega
    have e8 : i + (l.length + 1 - i) = l.length + 1 := by omega
    simp -implicitDefEqProofs only [cd_t, cd_f, cd_dec, cd_not, cd_and, cd_or, grd_tt, grd_ff, grd_tf, grd_ft, grd_dt, grd_df, grd_nt, grd_nf, go_sem, Go.Proofs.Tryz.f122, e3, e4, e1, e2, e5, e6, e7, e8, decide_false, reduceIte, reduceCtorEq, Nat.reduceEqDiff, Nat.reduceAdd, Nat.reduceLeDiff, Nat.reduceSub, Nat.reduceMul, Nat.reduceLT, Nat.reduceShiftRight, Nat.reduceMod, Int.reduceLE, Int.reduceLT, Int.reduceToNat, decide_true, Bool.and_self, Bool.true_and, Ob.map.injEq, Ob.it.injEq, List.cons.injEq, true_and, and_true]
    refine ⟨by omega, fun _ => ⟨fun h1 => ⟨by omega, by omega, fun c1 h2 h3 => ⟨by omega, ?_⟩⟩, fun h1 => ⟨by omega, by omega, ?_, ?_⟩⟩⟩
    · refine ADraw.run us122_11 lins_T2_ok follows_mixed (by kernel_rfl) (by kernel_rfl) ?_
      simp -implicitDefEqProofs only [cd_t, cd_f, cd_dec, cd_not, cd_and, cd_or, grd_tt, grd_ff, grd_tf, grd_ft, grd_dt, grd_df, grd_nt, grd_nf, go_sem, e1, e2, e5, e6, e7, e8, reduceIte, reduceCtorEq, Nat.reduceEqDiff, Nat.reduceAdd, Nat.reduceLeDiff, Nat.reduceSub, Nat.reduceMul, Nat.reduceLT, Nat.reduceShiftRight, Nat.reduceMod, Int.reduceLE, Int.reduceLT, Int.reduceToNat, decide_true, Bool.and_self, Bool.true_and, Ob.map.injEq, Ob.it.injEq, List.cons.injEq, true_and, and_true]
      refine ⟨by omega, by omega, fun y hy => fit_wide (lins_wide l) y (List.mem_of_mem_take (List.mem_of_mem_drop hy)), ?_⟩
      have := ins_new (sz := 7) (c := c) (c1 := c1) (i := i) (E := chs l) (x := x.enc) (z := [C.int .u64 0, C.int .u64 0, C.int .u64 0, C.int .u64 0, C.int .u64 0, C.sl [], C.bool false]) (by rw [chs_length]; exact hlt) (by rw [chs_length]; exact hc) (by rw [chs_length]; exact h2)
      rw [chs_length] at this
      refine hq _ _ ?_
      rw [lk_hd]
      congr 2
      rw [show chs (List.take (l.length + 1 - i) [x]) = List.take (l.length + 1 - i) [x.enc] by simp [chs], this]
      simp [chs, Srt.ins]
    · exact ⟨_, 22, 4, _, rfl, rfl, rfl, rfl, by kernel_rfl, elOf_22⟩
    · refine ADraw.run us122_15 lins_T2_ok follows_mixed (by kernel_rfl) (by kernel_rfl) ?_
      simp -implicitDefEqProofs only [cd_t, cd_f, cd_dec, cd_not, cd_and, cd_or, grd_tt, grd_ff, grd_tf, grd_ft, grd_dt, grd_df, grd_nt, grd_nf, go_sem, e1, e2, e5, e6, e7, e8, reduceIte, reduceCtorEq, Nat.reduceEqDiff, Nat.reduceAdd, Nat.reduceLeDiff, Nat.reduceSub, Nat.reduceMul, Nat.reduceLT, Nat.reduceShiftRight, Nat.reduceMod, Int.reduceLE, Int.reduceLT, Int.reduceToNat, decide_true, Bool.and_self, Bool.true_and, Ob.map.injEq, Ob.it.injEq, List.cons.injEq, true_and, and_true]
      refine ⟨by omega, by omega, fun y hy => fit_wide (lins_wide l) y (List.mem_of_mem_take (List.mem_of_mem_drop hy)), by omega, ?_⟩
      have := ins_old (sz := 7) (c := c) (i := i) (E := chs l) (x := x.enc) (by rw [chs_length]; exact hlt) (by rw [chs_length]; omega)
      rw [chs_length] at this
      refine hq _ _ ?_
      rw [lk_hd]
      congr 2
      rw [show chs (List.take (l.length + 1 - i) [x]) = List.take (l.length + 1 - i) [x.enc] by simp [chs], this]
      simp [chs, Srt.ins]

def chkC (c : Ch) : Int := if okCh c then 0 else 1
@[go_sem] def ccheck_r (c : Ch) : D := .int .i64 (chkC c)
@[go_sem] abbrev n_ccheck : FuncId := 119
@[go_sem] def ccheck_T : Tab := [(88, sp_csums)]
theorem ccheck_T_ok : TabOk Tryz.prog ccheck_T := (TabOk.cons sp_csums_ok TabOk.nil)
set_option maxRecDepth 8000 in
set_option maxHeartbeats 1000000 in
theorem ccheck_ok (c : Ch)  : PureFn Tryz.prog 119 [.agg [.c (.int .u64 (c.id : Int)), .c (.int .u64 (c.loc : Int)), .c (.int .u64 (c.rem : Int)), .c (.int .u64 (c.res : Int)), .c (.int .u64 (c.most : Int)), .sl (hds c.holds), .c (.bool c.op)]] (ccheck_r c) := by
  refine .of (ac119 ccheck_T_ok (Nat.le_of_ble_eq_true rfl) ?_)
  simp -implicitDefEqProofs only [cd_t, cd_f, cd_dec, cd_not, cd_and, cd_or, grd_tt, grd_ff, grd_tf, grd_ft, grd_dt, grd_df, grd_nt, grd_nf, go_sem, Go.Proofs.Tryz.f119, reduceIte, reduceCtorEq, Nat.reduceEqDiff, Nat.reduceAdd, Nat.reduceLeDiff, Nat.reduceSub, Nat.reduceMul, Nat.reduceLT, Nat.reduceShiftRight, Nat.reduceMod, Int.reduceLE, Int.reduceLT, Int.reduceToNat, decide_true, Bool.and_self, Bool.true_and, Ob.map.injEq, Ob.it.injEq, List.cons.injEq, true_and, and_true]
  unfold sumsC chkC
  split <;> rfl
def sp_ccheck : List D → Option (Prop × D × Fr)
  | [.agg [.c (.int .u64 z2), .c (.int .u64 z3), .c (.int .u64 z4), .c (.int .u64 z5), .c (.int .u64 z6), .c (.sl z7), .c (.bool z8)]] => some (z2 = (z2.toNat : Int) ∧ z3 = (z3.toNat : Int) ∧ z4 = (z4.toNat : Int) ∧ z5 = (z5.toNat : Int) ∧ z6 = (z6.toNat : Int) ∧ z7 = hds (dhds z7), ccheck_r (⟨z2.toNat, z3.toNat, z4.toNat, z5.toNat, z6.toNat, (dhds z7), z8⟩ : Ch), [])
  | _ => none
attribute [go_sem] sp_ccheck
theorem sp_ccheck_ok : ∀ rs p r fr, sp_ccheck rs = some (p, r, fr) → p → FnOk Tryz.prog 119 rs r fr := by
  intro rs p r fr h hp
  unfold sp_ccheck at h
  split at h <;> cases h
  obtain ⟨hc0, hc1, hc2, hc3, hc4, hc5⟩ := hp
  rename_i z2 z3 z4 z5 z6 z7 z8
  obtain ⟨z2, rfl⟩ : ∃ m : Nat, z2 = m := ⟨_, hc0⟩
  obtain ⟨z3, rfl⟩ : ∃ m : Nat, z3 = m := ⟨_, hc1⟩
  obtain ⟨z4, rfl⟩ : ∃ m : Nat, z4 = m := ⟨_, hc2⟩
  obtain ⟨z5, rfl⟩ : ∃ m : Nat, z5 = m := ⟨_, hc3⟩
  obtain ⟨z6, rfl⟩ : ∃ m : Nat, z6 = m := ⟨_, hc4⟩
  obtain ⟨z7, rfl⟩ : ∃ m, z7 = hds m := ⟨_, hc5⟩
  simp only [Int.toNat_natCast, dhds_hds]
  exact ccheck_ok ⟨z2, z3, z4, z5, z6, z7, z8⟩
def openL (l : List Ch) (c : Ch) : List Ch × Int :=
  if ¬ okCh c ∨ c.op = false ∨ 0 < c.holds.length ∨ ¬ okLd l then ([], 1) else if Srt.thr Ch.id ltN l c.id = true then ([], 6) else if l.length = 32 then ([], 7) else if okLd (Srt.ins l (Srt.pos Ch.id ltN l c.id) c) then (Srt.ins l (Srt.pos Ch.id ltN l c.id) c, 0) else ([], 8)
@[go_sem] def lopen_r (l : List Ch) (c : Ch) : D := .tup [.sl (chs (openL l c).1), .int .i64 (openL l c).2]
@[go_sem] abbrev n_lopen : FuncId := 68
@[go_sem] def lopen_T : Tab := [(119, sp_ccheck), (43, sp_lcheck), (121, sp_lorder), (124, sp_own), (123, sp_owns)]
theorem lopen_T_ok : TabOk Tryz.prog lopen_T := (TabOk.cons sp_ccheck_ok (TabOk.cons sp_lcheck_ok (TabOk.cons sp_lorder_ok (TabOk.cons sp_own_ok (TabOk.cons sp_owns_ok TabOk.nil)))))
set_option maxRecDepth 8000 in
set_option maxHeartbeats 1000000 in
theorem lopen_ok (l : List Ch) (c : Ch)  : PureFn Tryz.prog 68 [.sl (chs l), .agg [.c (.int .u64 (c.id : Int)), .c (.int .u64 (c.loc : Int)), .c (.int .u64 (c.rem : Int)), .c (.int .u64 (c.res : Int)), .c (.int .u64 (c.most : Int)), .sl (hds c.holds), .c (.bool c.op)]] (lopen_r l c) := by
  refine .of (ac68 lopen_T_ok (Nat.le_of_ble_eq_true rfl) ?_)
  simp -implicitDefEqProofs only [cd_t, cd_f, cd_dec, cd_not, cd_and, cd_or, grd_tt, grd_ff, grd_tf, grd_ft, grd_dt, grd_df, grd_nt, grd_nf, go_sem, Go.Proofs.Tryz.f68, reduceIte, reduceCtorEq, Nat.reduceEqDiff, Nat.reduceAdd, Nat.reduceLeDiff, Nat.reduceSub, Nat.reduceMul, Nat.reduceLT, Nat.reduceShiftRight, Nat.reduceMod, Int.reduceLE, Int.reduceLT, Int.reduceToNat, decide_true, Bool.and_self, Bool.true_and, Ob.map.injEq, Ob.it.injEq, List.cons.injEq, true_and, and_true]
  have hbad : (¬ okCh c ∨ c.op = false ∨ 0 < c.holds.length ∨ ¬ okLd l) → chs (openL l c).1 = [] ∧ 1 = (openL l c).2 := fun h => by rw [openL, if_pos h]; exact ⟨rfl, rfl⟩
  have hc0 : chkC c = 0 ↔ okCh c := by unfold chkC; split <;> rename_i h <;> simp only [h] <;> decide
  have hl0 : chkL l = 0 ↔ okLd l := by unfold chkL; split <;> rename_i h <;> simp only [h] <;> decide
  refine ⟨fun h1 => ⟨fun h2 _ => ⟨fun h3 => ⟨fun h4 => ?_, fun h4 => hbad (.inr (.inr (.inr fun h => h4 (hl0.2 h))))⟩, fun h3 => hbad (.inr (.inr (.inl (by omega))))⟩, fun h2 => hbad (.inr (.inl (by simpa using h2)))⟩, fun h1 => hbad (.inl fun h => h1 (hc0.2 h))⟩
  have hok := hl0.1 h4
  have hcc := hc0.1 h1
  have hop : c.op = true := by simpa using h2
  have hA : ¬ (¬ okCh c ∨ c.op = false ∨ 0 < c.holds.length ∨ ¬ okLd l) := by
    rintro (h | h | h | h)
    · exact h hcc
    · rw [hop] at h; cases h
    · omega
    · exact h hok
  have hu : Srt.Up Ch.id ltN l := (Srt.chn_up (lt := ltN) Srt.totNat).1 hok.2.2.1
  have hl32 := hok.1
  refine ac120 lopen_T_ok (Nat.le_of_ble_eq_true rfl) ?_
  simp -implicitDefEqProofs only [cd_t, cd_f, cd_dec, cd_not, cd_and, cd_or, grd_tt, grd_ff, grd_tf, grd_ft, grd_dt, grd_df, grd_nt, grd_nf, go_sem, Go.Proofs.Tryz.f120, reduceIte, reduceCtorEq, Nat.reduceEqDiff, Nat.reduceAdd, Nat.reduceLeDiff, Nat.reduceSub, Nat.reduceMul, Nat.reduceLT, Nat.reduceShiftRight, Nat.reduceMod, Int.reduceLE, Int.reduceLT, Int.reduceToNat, decide_true, Bool.and_self, Bool.true_and, Ob.map.injEq, Ob.it.injEq, List.cons.injEq, true_and, and_true]
  refine fun _ => SWp.loop (ι := { x : Nat × Nat // x.1 ≤ x.2 ∧ x.2 ≤ l.length ∧ (∀ k, k < x.1 → (l.getD k default).id < c.id) ∧ ∀ k, x.2 ≤ k → k < l.length → ¬ (l.getD k default).id < c.id }) (fun x => ⟨[(0, .sl (chs l)), (1, .c (.int .u64 c.id)), (2, .fn (.func 121) [] []), (8, .int .i64 l.length), (9, .int .i64 x.1.1), (10, .int .i64 x.1.2)],
    [(0, .box [.c (.int .u64 c.id), .c (.int .u64 c.loc), .c (.int .u64 c.rem), .c (.int .u64 c.res), .c (.int .u64 c.most), .sl (hds c.holds), .c (.bool c.op)])], 1⟩) (fun x => x.1.2 - x.1.1) ⟨(0, l.length), by simp, by simp, fun k hk => absurd hk (by simp), fun k h1 h2 => absurd h1 (by simpa using h2)⟩ ?_ ?_
  · simp [go_sem]
  · rintro ⟨⟨i, j⟩, hij, hj, hlo, hup⟩
    dsimp only at hij hj hlo hup
    refine awp_sound lopen_T_ok.toS lv120 _ _ _ rfl ?_
    simp -implicitDefEqProofs only [cd_t, cd_f, cd_dec, cd_not, cd_and, cd_or, grd_tt, grd_ff, grd_tf, grd_ft, grd_dt, grd_df, grd_nt, grd_nf, go_sem, reduceIte, reduceCtorEq, Nat.reduceEqDiff, Nat.reduceAdd, Nat.reduceLeDiff, Nat.reduceSub, Nat.reduceMul, Nat.reduceLT, Nat.reduceShiftRight, Nat.reduceMod, Int.reduceLE, Int.reduceLT, Int.reduceToNat, decide_true, Bool.and_self, Bool.true_and, Ob.map.injEq, Ob.it.injEq, List.cons.injEq, true_and, and_true]
    rw [mid_eq hij hj ‹_›]
    refine ⟨fun h4 => ?_, fun h4 => ?_⟩
    · have hm : (i + j) / 2 < l.length := by omega
      rw [cmpS_neg, Int.toNat_natCast]
      refine ⟨by omega, fun h5 => ⟨⟨((i + j) / 2 + 1, j), by dsimp only; omega, hj, fun k hk => ?_, hup⟩, by dsimp only; omega, i64_in _ (by omega), rfl⟩, fun h5 => ⟨⟨(i, (i + j) / 2), by dsimp only; omega, by dsimp only; omega, hlo, fun k hk1 hk2 => ?_⟩, by dsimp only; omega, rfl, rfl⟩⟩
      · dsimp only at hk
        by_cases hkm : k = (i + j) / 2
        · rw [hkm]; omega
        · have := Srt.up_get.1 hu k _ (by omega) hm
          simp only [ltN] at this; omega
      · dsimp only at hk1
        by_cases hkm : k = (i + j) / 2
        · rw [hkm]; omega
        · have := Srt.up_get.1 hu ((i + j) / 2) k (by omega) hk2
          simp only [ltN] at this; omega
    · have hp : Srt.pos Ch.id ltN l c.id = i := Srt.pos_eq (by omega) hlo (fun h => hup i (by omega) h)
      have hth : Srt.thr Ch.id ltN l c.id = decide (i < l.length ∧ (l.getD i default).id = c.id) := by rw [Srt.thr, hp]
      refine ⟨fun h5 => ⟨by omega, fun h6 => ?_, fun h6 _ => ⟨fun h7 => ?_, fun h7 => ?_⟩⟩, fun h5 _ => ⟨fun h7 => ?_, fun h7 => ?_⟩⟩
      · rw [openL, if_neg hA, if_pos (by rw [hth]; exact decide_eq_true ⟨by omega, by have := cmpS_0.1 h6; omega⟩)]; exact ⟨rfl, rfl⟩
      · have ht : ¬ Srt.thr Ch.id ltN l c.id = true := by rw [hth, decide_eq_true_eq]; rintro ⟨h8, h9⟩; exact h6 (cmpS_0.2 (by omega))
        rw [openL, if_neg hA, if_neg ht, if_pos (by omega)]; exact ⟨rfl, rfl⟩
      · have ht : ¬ Srt.thr Ch.id ltN l c.id = true := by rw [hth, decide_eq_true_eq]; rintro ⟨h8, h9⟩; exact h6 (cmpS_0.2 (by omega))
        refine ADraw.tail 6 us68_8 lopen_T_ok follows_mixed (by kernel_rfl) (by kernel_rfl) (by kernel_rfl) (by kernel_rfl) ?_
        simp -implicitDefEqProofs only [cd_t, cd_f, cd_dec, cd_not, cd_and, cd_or, grd_tt, grd_ff, grd_tf, grd_ft, grd_dt, grd_df, grd_nt, grd_nf, go_sem, List.take_succ_cons, List.take_zero, List.drop_succ_cons, List.drop_zero, reduceIte, reduceCtorEq, Nat.reduceEqDiff, Nat.reduceAdd, Nat.reduceLeDiff, Nat.reduceSub, Nat.reduceMul, Nat.reduceLT, Nat.reduceShiftRight, Nat.reduceMod, Int.reduceLE, Int.reduceLT, Int.reduceToNat, decide_true, Bool.and_self, Bool.true_and, Ob.map.injEq, Ob.it.injEq, List.cons.injEq, true_and, and_true]
        refine ⟨⟨by omega, fun d hd => by have := (hok.2.1 d hd).2.2.1; omega⟩, by omega, ?_⟩
        refine ACall.grow (mid := [.int .i64 _]) (lins_ok l c i (by omega) (by omega)) rfl rfl (by decide) (by simp [Srt.ins_len]) (fun d hd g g' w v hv => ?_) ?_
        · simp at hd; subst hd
          cases hv with
          | c _ _ h => cases h; exact .c _ _ (.int _ _)
        · simp -implicitDefEqProofs only [cd_t, cd_f, cd_dec, cd_not, cd_and, cd_or, grd_tt, grd_ff, grd_tf, grd_ft, grd_dt, grd_df, grd_nt, grd_nf, go_sem, reduceIte, reduceCtorEq, Nat.reduceEqDiff, Nat.reduceAdd, Nat.reduceLeDiff, Nat.reduceSub, Nat.reduceMul, Nat.reduceLT, Nat.reduceShiftRight, Nat.reduceMod, Int.reduceLE, Int.reduceLT, Int.reduceToNat, decide_true, Bool.and_self, Bool.true_and, Ob.map.injEq, Ob.it.injEq, List.cons.injEq, true_and, and_true]
          have hl0' : chkL (Srt.ins l i c) = 0 ↔ okLd (Srt.ins l i c) := by unfold chkL; split <;> rename_i h <;> simp only [h] <;> decide
          refine ⟨fun h8 => ?_, fun h8 => ?_⟩
          · rw [openL, if_neg hA, if_neg ht, if_neg (by omega), hp, if_pos (hl0'.1 h8)]; exact ⟨⟨rfl, _, _, _, rfl⟩, rfl⟩
          · rw [openL, if_neg hA, if_neg ht, if_neg (by omega), hp, if_neg fun h => h8 (hl0'.2 h)]; exact ⟨rfl, rfl⟩
      · have ht : ¬ Srt.thr Ch.id ltN l c.id = true := by rw [hth, decide_eq_true_eq]; omega
        rw [openL, if_neg hA, if_neg ht, if_pos (by omega)]; exact ⟨rfl, rfl⟩
      · have ht : ¬ Srt.thr Ch.id ltN l c.id = true := by rw [hth, decide_eq_true_eq]; omega
        refine ADraw.tail 6 us68_8 lopen_T_ok follows_mixed (by kernel_rfl) (by kernel_rfl) (by kernel_rfl) (by kernel_rfl) ?_
        simp -implicitDefEqProofs only [cd_t, cd_f, cd_dec, cd_not, cd_and, cd_or, grd_tt, grd_ff, grd_tf, grd_ft, grd_dt, grd_df, grd_nt, grd_nf, go_sem, List.take_succ_cons, List.take_zero, List.drop_succ_cons, List.drop_zero, reduceIte, reduceCtorEq, Nat.reduceEqDiff, Nat.reduceAdd, Nat.reduceLeDiff, Nat.reduceSub, Nat.reduceMul, Nat.reduceLT, Nat.reduceShiftRight, Nat.reduceMod, Int.reduceLE, Int.reduceLT, Int.reduceToNat, decide_true, Bool.and_self, Bool.true_and, Ob.map.injEq, Ob.it.injEq, List.cons.injEq, true_and, and_true]
        refine ⟨⟨by omega, fun d hd => by have := (hok.2.1 d hd).2.2.1; omega⟩, by omega, ?_⟩
        refine ACall.grow (mid := [.int .i64 _]) (lins_ok l c i (by omega) (by omega)) rfl rfl (by decide) (by simp [Srt.ins_len]) (fun d hd g g' w v hv => ?_) ?_
        · simp at hd; subst hd
          cases hv with
          | c _ _ h => cases h; exact .c _ _ (.int _ _)
        · simp -implicitDefEqProofs only [cd_t, cd_f, cd_dec, cd_not, cd_and, cd_or, grd_tt, grd_ff, grd_tf, grd_ft, grd_dt, grd_df, grd_nt, grd_nf, go_sem, reduceIte, reduceCtorEq, Nat.reduceEqDiff, Nat.reduceAdd, Nat.reduceLeDiff, Nat.reduceSub, Nat.reduceMul, Nat.reduceLT, Nat.reduceShiftRight, Nat.reduceMod, Int.reduceLE, Int.reduceLT, Int.reduceToNat, decide_true, Bool.and_self, Bool.true_and, Ob.map.injEq, Ob.it.injEq, List.cons.injEq, true_and, and_true]
          have hl0' : chkL (Srt.ins l i c) = 0 ↔ okLd (Srt.ins l i c) := by unfold chkL; split <;> rename_i h <;> simp only [h] <;> decide
          refine ⟨fun h8 => ?_, fun h8 => ?_⟩
          · rw [openL, if_neg hA, if_neg ht, if_neg (by omega), hp, if_pos (hl0'.1 h8)]; exact ⟨⟨rfl, _, _, _, rfl⟩, rfl⟩
          · rw [openL, if_neg hA, if_neg ht, if_neg (by omega), hp, if_neg fun h => h8 (hl0'.2 h)]; exact ⟨rfl, rfl⟩
def sp_lopen : List D → Option (Prop × D × Fr)
  | [.c (.sl z9), .agg [.c (.int .u64 z11), .c (.int .u64 z12), .c (.int .u64 z13), .c (.int .u64 z14), .c (.int .u64 z15), .c (.sl z16), .c (.bool z17)]] => some (z9 = chs (dchs z9) ∧ z11 = (z11.toNat : Int) ∧ z12 = (z12.toNat : Int) ∧ z13 = (z13.toNat : Int) ∧ z14 = (z14.toNat : Int) ∧ z15 = (z15.toNat : Int) ∧ z16 = hds (dhds z16), lopen_r (dchs z9) (⟨z11.toNat, z12.toNat, z13.toNat, z14.toNat, z15.toNat, (dhds z16), z17⟩ : Ch), [])
  | _ => none
attribute [go_sem] sp_lopen
theorem sp_lopen_ok : ∀ rs p r fr, sp_lopen rs = some (p, r, fr) → p → FnOk Tryz.prog 68 rs r fr := by
  intro rs p r fr h hp
  unfold sp_lopen at h
  split at h <;> cases h
  obtain ⟨hc0, hc1, hc2, hc3, hc4, hc5, hc6⟩ := hp
  rename_i z9 z11 z12 z13 z14 z15 z16 z17
  obtain ⟨z9, rfl⟩ : ∃ m, z9 = chs m := ⟨_, hc0⟩
  obtain ⟨z11, rfl⟩ : ∃ m : Nat, z11 = m := ⟨_, hc1⟩
  obtain ⟨z12, rfl⟩ : ∃ m : Nat, z12 = m := ⟨_, hc2⟩
  obtain ⟨z13, rfl⟩ : ∃ m : Nat, z13 = m := ⟨_, hc3⟩
  obtain ⟨z14, rfl⟩ : ∃ m : Nat, z14 = m := ⟨_, hc4⟩
  obtain ⟨z15, rfl⟩ : ∃ m : Nat, z15 = m := ⟨_, hc5⟩
  obtain ⟨z16, rfl⟩ : ∃ m, z16 = hds m := ⟨_, hc6⟩
  simp only [Int.toNat_natCast, dchs_chs, dhds_hds]
  exact lopen_ok z9 ⟨z11, z12, z13, z14, z15, z16, z17⟩
end Dm
namespace Dm
open Go Go.Proofs Go.IntWalk
theorem i1_0 : ((1 : Int) = 0) = False := eq_false (by decide)
theorem i7_0 : ((7 : Int) = 0) = False := eq_false (by decide)
theorem i9_0 : ((9 : Int) = 0) = False := eq_false (by decide)
def payP (v : Wl) (hash n : Nat) : List Py × Int := startP v.p ⟨v.next, hash, (firstL v.c v.w n).1, n, 1⟩
def payC (v : Wl) (n : Nat) : List Ch × Int := lholdL v.c (firstL v.c v.w n).1 v.next n
def payF (v : Wl) (n : Nat) : Fd × Nat × Int := addF v.f 0 v.next n
def payE (v : Wl) (hash n : Nat) : Int := if ¬ okW v ∨ n = 0 ∨ ¬ n ≤ MM then 1 else if (firstL v.c v.w n).2 ≠ 0 then 9 else if v.next = MM then 7 else if (payP v hash n).2 ≠ 0 then (payP v hash n).2 else if (payC v n).2 ≠ 0 then (payC v n).2 else (payF v n).2.2
def zeroW : Wl := ⟨[], [], [], [], ⟨0, []⟩, 0, 0⟩
def payW (v : Wl) (hash n : Nat) : Wl × Nat × Int := if payE v hash n = 0 then (⟨(payC v n).1, v.w, v.i, (payP v hash n).1, (payF v n).1, v.next + 1, v.tick⟩, v.next, 0) else (zeroW, 0, payE v hash n)
@[go_sem] def wpay_r (v : Wl) (hash : Nat) (n : Nat) : D := .tup [.agg [.sl (chs (payW v hash n).1.c), .sl (wts (payW v hash n).1.w), .sl (ivs (payW v hash n).1.i), .sl (pys (payW v hash n).1.p), .int .u64 (payW v hash n).1.f.next, .sl (evs (payW v hash n).1.f.l), .int .u64 (payW v hash n).1.next, .int .u64 (payW v hash n).1.tick], .int .u64 (payW v hash n).2.1, .int .i64 (payW v hash n).2.2]
@[go_sem] abbrev n_wpay : FuncId := 12
@[go_sem] def wpay_T : Tab := [(14, sp_wcheck), (29, sp_moncheck), (34, sp_first), (37, sp_pstart), (40, sp_lhold), (85, sp_fadd), (86, sp_wown)]
theorem wpay_T_ok : TabOk Tryz.prog wpay_T := (TabOk.cons sp_wcheck_ok (TabOk.cons sp_moncheck_ok (TabOk.cons sp_first_ok (TabOk.cons sp_pstart_ok (TabOk.cons sp_lhold_ok (TabOk.cons sp_fadd_ok (TabOk.cons sp_wown_ok TabOk.nil)))))))
set_option maxRecDepth 8000 in
set_option maxHeartbeats 1000000 in
theorem wpay_ok (v : Wl) (hash : Nat) (n : Nat) (h : v.f.next ≤ 18446744073709551615) : PureFn Tryz.prog 12 [.agg [.sl (chs v.c), .sl (wts v.w), .sl (ivs v.i), .sl (pys v.p), .c (.int .u64 (v.f.next : Int)), .sl (evs v.f.l), .c (.int .u64 (v.next : Int)), .c (.int .u64 (v.tick : Int))], .c (.int .u64 (hash : Int)), .c (.int .u64 (n : Int))] (wpay_r v hash n) := by
  refine .of (ac12 wpay_T_ok (Nat.le_of_ble_eq_true rfl) ?_)
  simp -implicitDefEqProofs only [cd_t, cd_f, cd_dec, cd_not, cd_and, cd_or, grd_tt, grd_ff, grd_tf, grd_ft, grd_dt, grd_df, grd_nt, grd_nf, go_sem, Go.Proofs.Tryz.f12, reduceIte, reduceCtorEq, Nat.reduceEqDiff, Nat.reduceAdd, Nat.reduceLeDiff, Nat.reduceSub, Nat.reduceMul, Nat.reduceLT, Nat.reduceShiftRight, Nat.reduceMod, Int.reduceLE, Int.reduceLT, Int.reduceToNat, decide_true, Bool.and_self, Bool.true_and, Ob.map.injEq, Ob.it.injEq, List.cons.injEq, true_and, and_true]
  refine ac32 wpay_T_ok (Nat.le_of_ble_eq_true rfl) ?_
  simp -implicitDefEqProofs only [cd_t, cd_f, cd_dec, cd_not, cd_and, cd_or, grd_tt, grd_ff, grd_tf, grd_ft, grd_dt, grd_df, grd_nt, grd_nf, go_sem, Go.Proofs.Tryz.f32, reduceIte, reduceCtorEq, Nat.reduceEqDiff, Nat.reduceAdd, Nat.reduceLeDiff, Nat.reduceSub, Nat.reduceMul, Nat.reduceLT, Nat.reduceShiftRight, Nat.reduceMod, Int.reduceLE, Int.reduceLT, Int.reduceToNat, decide_true, Bool.and_self, Bool.true_and, Ob.map.injEq, Ob.it.injEq, List.cons.injEq, true_and, and_true]
  refine ADraw.run us32_1 wpay_T_ok follows_mixed (by kernel_rfl) (by kernel_rfl) ?_
  simp -implicitDefEqProofs only [cd_t, cd_f, cd_dec, cd_not, cd_and, cd_or, grd_tt, grd_ff, grd_tf, grd_ft, grd_dt, grd_df, grd_nt, grd_nf, go_sem, reduceIte, reduceCtorEq, Nat.reduceEqDiff, Nat.reduceAdd, Nat.reduceLeDiff, Nat.reduceSub, Nat.reduceMul, Nat.reduceLT, Nat.reduceShiftRight, Nat.reduceMod, Int.reduceLE, Int.reduceLT, Int.reduceToNat, decide_true, Bool.and_self, Bool.true_and, Ob.map.injEq, Ob.it.injEq, List.cons.injEq, true_and, and_true]
  refine ⟨h, ?_⟩
  have hbad : ∀ e : Int, payE v hash n = e → ¬ e = 0 → (chs (payW v hash n).1.c = [] ∧ wts (payW v hash n).1.w = [] ∧ ivs (payW v hash n).1.i = [] ∧ pys (payW v hash n).1.p = [] ∧ 0 = ((payW v hash n).1.f.next : Int) ∧ evs (payW v hash n).1.f.l = [] ∧ 0 = ((payW v hash n).1.next : Int) ∧ 0 = ((payW v hash n).1.tick : Int)) ∧ 0 = ((payW v hash n).2.1 : Int) ∧ e = (payW v hash n).2.2 := fun e h1 h2 => by
    have : payW v hash n = (zeroW, 0, e) := by rw [payW, if_neg (by rw [h1]; exact h2), h1]
    rw [this]; exact ⟨⟨rfl, rfl, rfl, rfl, rfl, rfl, rfl, rfl⟩, rfl, rfl⟩
  by_cases hok : okW v
  rotate_left 1
  · have hck : (chkW v = 0) = False := eq_false fun h => hok (chkW_0.1 h)
    have he : payE v hash n = 1 := by rw [payE, if_pos (.inl hok)]
    have hc1 : chkW v = 1 := by rw [chkW, if_neg hok]
    refine ⟨fun hn => ?_, fun hn => ?_⟩
    · skip
      refine ac33 wpay_T_ok (Nat.le_of_ble_eq_true rfl) ?_
      simp -implicitDefEqProofs only [cd_t, cd_f, cd_dec, cd_not, cd_and, cd_or, grd_tt, grd_ff, grd_tf, grd_ft, grd_dt, grd_df, grd_nt, grd_nf, go_sem, Go.Proofs.Tryz.f33, hck, false_implies, true_implies, not_false_eq_true, not_true_eq_false, reduceIte, reduceCtorEq, Nat.reduceEqDiff, Nat.reduceAdd, Nat.reduceLeDiff, Nat.reduceSub, Nat.reduceMul, Nat.reduceLT, Nat.reduceShiftRight, Nat.reduceMod, Int.reduceLE, Int.reduceLT, Int.reduceToNat, decide_true, Bool.and_self, Bool.true_and, Ob.map.injEq, Ob.it.injEq, List.cons.injEq, true_and, and_true]
      refine ac33 wpay_T_ok (Nat.le_of_ble_eq_true rfl) ?_
      simp -implicitDefEqProofs only [cd_t, cd_f, cd_dec, cd_not, cd_and, cd_or, grd_tt, grd_ff, grd_tf, grd_ft, grd_dt, grd_df, grd_nt, grd_nf, go_sem, Go.Proofs.Tryz.f33, hck, false_implies, true_implies, not_false_eq_true, not_true_eq_false, reduceIte, reduceCtorEq, Nat.reduceEqDiff, Nat.reduceAdd, Nat.reduceLeDiff, Nat.reduceSub, Nat.reduceMul, Nat.reduceLT, Nat.reduceShiftRight, Nat.reduceMod, Int.reduceLE, Int.reduceLT, Int.reduceToNat, decide_true, Bool.and_self, Bool.true_and, Ob.map.injEq, Ob.it.injEq, List.cons.injEq, true_and, and_true]
      refine ac33 wpay_T_ok (Nat.le_of_ble_eq_true rfl) ?_
      simp -implicitDefEqProofs only [cd_t, cd_f, cd_dec, cd_not, cd_and, cd_or, grd_tt, grd_ff, grd_tf, grd_ft, grd_dt, grd_df, grd_nt, grd_nf, go_sem, Go.Proofs.Tryz.f33, hck, false_implies, true_implies, not_false_eq_true, not_true_eq_false, reduceIte, reduceCtorEq, Nat.reduceEqDiff, Nat.reduceAdd, Nat.reduceLeDiff, Nat.reduceSub, Nat.reduceMul, Nat.reduceLT, Nat.reduceShiftRight, Nat.reduceMod, Int.reduceLE, Int.reduceLT, Int.reduceToNat, decide_true, Bool.and_self, Bool.true_and, Ob.map.injEq, Ob.it.injEq, List.cons.injEq, true_and, and_true]
      refine ac35 wpay_T_ok (Nat.le_of_ble_eq_true rfl) ?_
      simp -implicitDefEqProofs only [cd_t, cd_f, cd_dec, cd_not, cd_and, cd_or, grd_tt, grd_ff, grd_tf, grd_ft, grd_dt, grd_df, grd_nt, grd_nf, go_sem, Go.Proofs.Tryz.f35, hck, false_implies, true_implies, not_false_eq_true, not_true_eq_false, reduceIte, reduceCtorEq, Nat.reduceEqDiff, Nat.reduceAdd, Nat.reduceLeDiff, Nat.reduceSub, Nat.reduceMul, Nat.reduceLT, Nat.reduceShiftRight, Nat.reduceMod, Int.reduceLE, Int.reduceLT, Int.reduceToNat, decide_true, Bool.and_self, Bool.true_and, Ob.map.injEq, Ob.it.injEq, List.cons.injEq, true_and, and_true]
      refine ac38 wpay_T_ok (Nat.le_of_ble_eq_true rfl) ?_
      simp -implicitDefEqProofs only [cd_t, cd_f, cd_dec, cd_not, cd_and, cd_or, grd_tt, grd_ff, grd_tf, grd_ft, grd_dt, grd_df, grd_nt, grd_nf, go_sem, Go.Proofs.Tryz.f38, hck, false_implies, true_implies, not_false_eq_true, not_true_eq_false, reduceIte, reduceCtorEq, Nat.reduceEqDiff, Nat.reduceAdd, Nat.reduceLeDiff, Nat.reduceSub, Nat.reduceMul, Nat.reduceLT, Nat.reduceShiftRight, Nat.reduceMod, Int.reduceLE, Int.reduceLT, Int.reduceToNat, decide_true, Bool.and_self, Bool.true_and, Ob.map.injEq, Ob.it.injEq, List.cons.injEq, true_and, and_true]
      refine ac41 wpay_T_ok (Nat.le_of_ble_eq_true rfl) ?_
      simp -implicitDefEqProofs only [cd_t, cd_f, cd_dec, cd_not, cd_and, cd_or, grd_tt, grd_ff, grd_tf, grd_ft, grd_dt, grd_df, grd_nt, grd_nf, go_sem, Go.Proofs.Tryz.f41, reduceIte, reduceCtorEq, Nat.reduceEqDiff, Nat.reduceAdd, Nat.reduceLeDiff, Nat.reduceSub, Nat.reduceMul, Nat.reduceLT, Nat.reduceShiftRight, Nat.reduceMod, Int.reduceLE, Int.reduceLT, Int.reduceToNat, decide_true, Bool.and_self, Bool.true_and, Ob.map.injEq, Ob.it.injEq, List.cons.injEq, true_and, and_true]
      refine ac83 wpay_T_ok (Nat.le_of_ble_eq_true rfl) ?_
      simp -implicitDefEqProofs only [cd_t, cd_f, cd_dec, cd_not, cd_and, cd_or, grd_tt, grd_ff, grd_tf, grd_ft, grd_dt, grd_df, grd_nt, grd_nf, go_sem, Go.Proofs.Tryz.f83, hck, false_implies, true_implies, not_false_eq_true, not_true_eq_false, reduceIte, reduceCtorEq, Nat.reduceEqDiff, Nat.reduceAdd, Nat.reduceLeDiff, Nat.reduceSub, Nat.reduceMul, Nat.reduceLT, Nat.reduceShiftRight, Nat.reduceMod, Int.reduceLE, Int.reduceLT, Int.reduceToNat, decide_true, Bool.and_self, Bool.true_and, Ob.map.injEq, Ob.it.injEq, List.cons.injEq, true_and, and_true]
      refine ac42 wpay_T_ok (Nat.le_of_ble_eq_true rfl) ?_
      simp -implicitDefEqProofs only [cd_t, cd_f, cd_dec, cd_not, cd_and, cd_or, grd_tt, grd_ff, grd_tf, grd_ft, grd_dt, grd_df, grd_nt, grd_nf, go_sem, Go.Proofs.Tryz.f42, hck, false_implies, true_implies, not_false_eq_true, not_true_eq_false, reduceIte, reduceCtorEq, Nat.reduceEqDiff, Nat.reduceAdd, Nat.reduceLeDiff, Nat.reduceSub, Nat.reduceMul, Nat.reduceLT, Nat.reduceShiftRight, Nat.reduceMod, Int.reduceLE, Int.reduceLT, Int.reduceToNat, decide_true, Bool.and_self, Bool.true_and, Ob.map.injEq, Ob.it.injEq, List.cons.injEq, true_and, and_true]
      refine ADraw.run us42_2 wpay_T_ok follows_mixed (by kernel_rfl) (by kernel_rfl) ?_
      simp -implicitDefEqProofs only [cd_t, cd_f, cd_dec, cd_not, cd_and, cd_or, grd_tt, grd_ff, grd_tf, grd_ft, grd_dt, grd_df, grd_nt, grd_nf, go_sem, hck, false_implies, true_implies, not_false_eq_true, not_true_eq_false, reduceIte, reduceCtorEq, Nat.reduceEqDiff, Nat.reduceAdd, Nat.reduceLeDiff, Nat.reduceSub, Nat.reduceMul, Nat.reduceLT, Nat.reduceShiftRight, Nat.reduceMod, Int.reduceLE, Int.reduceLT, Int.reduceToNat, decide_true, Bool.and_self, Bool.true_and, Ob.map.injEq, Ob.it.injEq, List.cons.injEq, true_and, and_true]
      exact hbad _ (he.trans hc1.symm) (by rw [hc1]; decide)
    · skip
      refine ac33 wpay_T_ok (Nat.le_of_ble_eq_true rfl) ?_
      simp -implicitDefEqProofs only [cd_t, cd_f, cd_dec, cd_not, cd_and, cd_or, grd_tt, grd_ff, grd_tf, grd_ft, grd_dt, grd_df, grd_nt, grd_nf, go_sem, Go.Proofs.Tryz.f33, hck, false_implies, true_implies, not_false_eq_true, not_true_eq_false, reduceIte, reduceCtorEq, Nat.reduceEqDiff, Nat.reduceAdd, Nat.reduceLeDiff, Nat.reduceSub, Nat.reduceMul, Nat.reduceLT, Nat.reduceShiftRight, Nat.reduceMod, Int.reduceLE, Int.reduceLT, Int.reduceToNat, decide_true, Bool.and_self, Bool.true_and, Ob.map.injEq, Ob.it.injEq, List.cons.injEq, true_and, and_true]
      refine ac33 wpay_T_ok (Nat.le_of_ble_eq_true rfl) ?_
      simp -implicitDefEqProofs only [cd_t, cd_f, cd_dec, cd_not, cd_and, cd_or, grd_tt, grd_ff, grd_tf, grd_ft, grd_dt, grd_df, grd_nt, grd_nf, go_sem, Go.Proofs.Tryz.f33, hck, false_implies, true_implies, not_false_eq_true, not_true_eq_false, reduceIte, reduceCtorEq, Nat.reduceEqDiff, Nat.reduceAdd, Nat.reduceLeDiff, Nat.reduceSub, Nat.reduceMul, Nat.reduceLT, Nat.reduceShiftRight, Nat.reduceMod, Int.reduceLE, Int.reduceLT, Int.reduceToNat, decide_true, Bool.and_self, Bool.true_and, Ob.map.injEq, Ob.it.injEq, List.cons.injEq, true_and, and_true]
      refine ac33 wpay_T_ok (Nat.le_of_ble_eq_true rfl) ?_
      simp -implicitDefEqProofs only [cd_t, cd_f, cd_dec, cd_not, cd_and, cd_or, grd_tt, grd_ff, grd_tf, grd_ft, grd_dt, grd_df, grd_nt, grd_nf, go_sem, Go.Proofs.Tryz.f33, hck, false_implies, true_implies, not_false_eq_true, not_true_eq_false, reduceIte, reduceCtorEq, Nat.reduceEqDiff, Nat.reduceAdd, Nat.reduceLeDiff, Nat.reduceSub, Nat.reduceMul, Nat.reduceLT, Nat.reduceShiftRight, Nat.reduceMod, Int.reduceLE, Int.reduceLT, Int.reduceToNat, decide_true, Bool.and_self, Bool.true_and, Ob.map.injEq, Ob.it.injEq, List.cons.injEq, true_and, and_true]
      refine ac35 wpay_T_ok (Nat.le_of_ble_eq_true rfl) ?_
      simp -implicitDefEqProofs only [cd_t, cd_f, cd_dec, cd_not, cd_and, cd_or, grd_tt, grd_ff, grd_tf, grd_ft, grd_dt, grd_df, grd_nt, grd_nf, go_sem, Go.Proofs.Tryz.f35, hck, false_implies, true_implies, not_false_eq_true, not_true_eq_false, reduceIte, reduceCtorEq, Nat.reduceEqDiff, Nat.reduceAdd, Nat.reduceLeDiff, Nat.reduceSub, Nat.reduceMul, Nat.reduceLT, Nat.reduceShiftRight, Nat.reduceMod, Int.reduceLE, Int.reduceLT, Int.reduceToNat, decide_true, Bool.and_self, Bool.true_and, Ob.map.injEq, Ob.it.injEq, List.cons.injEq, true_and, and_true]
      refine ac38 wpay_T_ok (Nat.le_of_ble_eq_true rfl) ?_
      simp -implicitDefEqProofs only [cd_t, cd_f, cd_dec, cd_not, cd_and, cd_or, grd_tt, grd_ff, grd_tf, grd_ft, grd_dt, grd_df, grd_nt, grd_nf, go_sem, Go.Proofs.Tryz.f38, hck, false_implies, true_implies, not_false_eq_true, not_true_eq_false, reduceIte, reduceCtorEq, Nat.reduceEqDiff, Nat.reduceAdd, Nat.reduceLeDiff, Nat.reduceSub, Nat.reduceMul, Nat.reduceLT, Nat.reduceShiftRight, Nat.reduceMod, Int.reduceLE, Int.reduceLT, Int.reduceToNat, decide_true, Bool.and_self, Bool.true_and, Ob.map.injEq, Ob.it.injEq, List.cons.injEq, true_and, and_true]
      refine ac41 wpay_T_ok (Nat.le_of_ble_eq_true rfl) ?_
      simp -implicitDefEqProofs only [cd_t, cd_f, cd_dec, cd_not, cd_and, cd_or, grd_tt, grd_ff, grd_tf, grd_ft, grd_dt, grd_df, grd_nt, grd_nf, go_sem, Go.Proofs.Tryz.f41, reduceIte, reduceCtorEq, Nat.reduceEqDiff, Nat.reduceAdd, Nat.reduceLeDiff, Nat.reduceSub, Nat.reduceMul, Nat.reduceLT, Nat.reduceShiftRight, Nat.reduceMod, Int.reduceLE, Int.reduceLT, Int.reduceToNat, decide_true, Bool.and_self, Bool.true_and, Ob.map.injEq, Ob.it.injEq, List.cons.injEq, true_and, and_true]
      refine ac83 wpay_T_ok (Nat.le_of_ble_eq_true rfl) ?_
      simp -implicitDefEqProofs only [cd_t, cd_f, cd_dec, cd_not, cd_and, cd_or, grd_tt, grd_ff, grd_tf, grd_ft, grd_dt, grd_df, grd_nt, grd_nf, go_sem, Go.Proofs.Tryz.f83, hck, false_implies, true_implies, not_false_eq_true, not_true_eq_false, reduceIte, reduceCtorEq, Nat.reduceEqDiff, Nat.reduceAdd, Nat.reduceLeDiff, Nat.reduceSub, Nat.reduceMul, Nat.reduceLT, Nat.reduceShiftRight, Nat.reduceMod, Int.reduceLE, Int.reduceLT, Int.reduceToNat, decide_true, Bool.and_self, Bool.true_and, Ob.map.injEq, Ob.it.injEq, List.cons.injEq, true_and, and_true]
      refine ac42 wpay_T_ok (Nat.le_of_ble_eq_true rfl) ?_
      simp -implicitDefEqProofs only [cd_t, cd_f, cd_dec, cd_not, cd_and, cd_or, grd_tt, grd_ff, grd_tf, grd_ft, grd_dt, grd_df, grd_nt, grd_nf, go_sem, Go.Proofs.Tryz.f42, hck, false_implies, true_implies, not_false_eq_true, not_true_eq_false, reduceIte, reduceCtorEq, Nat.reduceEqDiff, Nat.reduceAdd, Nat.reduceLeDiff, Nat.reduceSub, Nat.reduceMul, Nat.reduceLT, Nat.reduceShiftRight, Nat.reduceMod, Int.reduceLE, Int.reduceLT, Int.reduceToNat, decide_true, Bool.and_self, Bool.true_and, Ob.map.injEq, Ob.it.injEq, List.cons.injEq, true_and, and_true]
      refine ADraw.run us42_2 wpay_T_ok follows_mixed (by kernel_rfl) (by kernel_rfl) ?_
      simp -implicitDefEqProofs only [cd_t, cd_f, cd_dec, cd_not, cd_and, cd_or, grd_tt, grd_ff, grd_tf, grd_ft, grd_dt, grd_df, grd_nt, grd_nf, go_sem, hck, false_implies, true_implies, not_false_eq_true, not_true_eq_false, reduceIte, reduceCtorEq, Nat.reduceEqDiff, Nat.reduceAdd, Nat.reduceLeDiff, Nat.reduceSub, Nat.reduceMul, Nat.reduceLT, Nat.reduceShiftRight, Nat.reduceMod, Int.reduceLE, Int.reduceLT, Int.reduceToNat, decide_true, Bool.and_self, Bool.true_and, Ob.map.injEq, Ob.it.injEq, List.cons.injEq, true_and, and_true]
      exact hbad _ (he.trans hc1.symm) (by rw [hc1]; decide)
  have hck : (chkW v = 0) = True := eq_true (chkW_0.2 hok)
  refine ⟨fun hn => ?_, fun hn => ?_⟩
  rotate_left 1
  · skip
    refine ac33 wpay_T_ok (Nat.le_of_ble_eq_true rfl) ?_
    simp -implicitDefEqProofs only [cd_t, cd_f, cd_dec, cd_not, cd_and, cd_or, grd_tt, grd_ff, grd_tf, grd_ft, grd_dt, grd_df, grd_nt, grd_nf, go_sem, Go.Proofs.Tryz.f33, hck, false_implies, true_implies, not_false_eq_true, not_true_eq_false, reduceIte, reduceCtorEq, Nat.reduceEqDiff, Nat.reduceAdd, Nat.reduceLeDiff, Nat.reduceSub, Nat.reduceMul, Nat.reduceLT, Nat.reduceShiftRight, Nat.reduceMod, Int.reduceLE, Int.reduceLT, Int.reduceToNat, decide_true, Bool.and_self, Bool.true_and, Ob.map.injEq, Ob.it.injEq, List.cons.injEq, true_and, and_true]
    skip
    refine ac33 wpay_T_ok (Nat.le_of_ble_eq_true rfl) ?_
    simp -implicitDefEqProofs only [cd_t, cd_f, cd_dec, cd_not, cd_and, cd_or, grd_tt, grd_ff, grd_tf, grd_ft, grd_dt, grd_df, grd_nt, grd_nf, go_sem, Go.Proofs.Tryz.f33, i1_0, false_implies, true_implies, not_false_eq_true, not_true_eq_false, reduceIte, reduceCtorEq, Nat.reduceEqDiff, Nat.reduceAdd, Nat.reduceLeDiff, Nat.reduceSub, Nat.reduceMul, Nat.reduceLT, Nat.reduceShiftRight, Nat.reduceMod, Int.reduceLE, Int.reduceLT, Int.reduceToNat, decide_true, Bool.and_self, Bool.true_and, Ob.map.injEq, Ob.it.injEq, List.cons.injEq, true_and, and_true]
    refine ac33 wpay_T_ok (Nat.le_of_ble_eq_true rfl) ?_
    simp -implicitDefEqProofs only [cd_t, cd_f, cd_dec, cd_not, cd_and, cd_or, grd_tt, grd_ff, grd_tf, grd_ft, grd_dt, grd_df, grd_nt, grd_nf, go_sem, Go.Proofs.Tryz.f33, i1_0, false_implies, true_implies, not_false_eq_true, not_true_eq_false, reduceIte, reduceCtorEq, Nat.reduceEqDiff, Nat.reduceAdd, Nat.reduceLeDiff, Nat.reduceSub, Nat.reduceMul, Nat.reduceLT, Nat.reduceShiftRight, Nat.reduceMod, Int.reduceLE, Int.reduceLT, Int.reduceToNat, decide_true, Bool.and_self, Bool.true_and, Ob.map.injEq, Ob.it.injEq, List.cons.injEq, true_and, and_true]
    refine ac35 wpay_T_ok (Nat.le_of_ble_eq_true rfl) ?_
    simp -implicitDefEqProofs only [cd_t, cd_f, cd_dec, cd_not, cd_and, cd_or, grd_tt, grd_ff, grd_tf, grd_ft, grd_dt, grd_df, grd_nt, grd_nf, go_sem, Go.Proofs.Tryz.f35, i1_0, false_implies, true_implies, not_false_eq_true, not_true_eq_false, reduceIte, reduceCtorEq, Nat.reduceEqDiff, Nat.reduceAdd, Nat.reduceLeDiff, Nat.reduceSub, Nat.reduceMul, Nat.reduceLT, Nat.reduceShiftRight, Nat.reduceMod, Int.reduceLE, Int.reduceLT, Int.reduceToNat, decide_true, Bool.and_self, Bool.true_and, Ob.map.injEq, Ob.it.injEq, List.cons.injEq, true_and, and_true]
    refine ac38 wpay_T_ok (Nat.le_of_ble_eq_true rfl) ?_
    simp -implicitDefEqProofs only [cd_t, cd_f, cd_dec, cd_not, cd_and, cd_or, grd_tt, grd_ff, grd_tf, grd_ft, grd_dt, grd_df, grd_nt, grd_nf, go_sem, Go.Proofs.Tryz.f38, i1_0, false_implies, true_implies, not_false_eq_true, not_true_eq_false, reduceIte, reduceCtorEq, Nat.reduceEqDiff, Nat.reduceAdd, Nat.reduceLeDiff, Nat.reduceSub, Nat.reduceMul, Nat.reduceLT, Nat.reduceShiftRight, Nat.reduceMod, Int.reduceLE, Int.reduceLT, Int.reduceToNat, decide_true, Bool.and_self, Bool.true_and, Ob.map.injEq, Ob.it.injEq, List.cons.injEq, true_and, and_true]
    refine ac41 wpay_T_ok (Nat.le_of_ble_eq_true rfl) ?_
    simp -implicitDefEqProofs only [cd_t, cd_f, cd_dec, cd_not, cd_and, cd_or, grd_tt, grd_ff, grd_tf, grd_ft, grd_dt, grd_df, grd_nt, grd_nf, go_sem, Go.Proofs.Tryz.f41, reduceIte, reduceCtorEq, Nat.reduceEqDiff, Nat.reduceAdd, Nat.reduceLeDiff, Nat.reduceSub, Nat.reduceMul, Nat.reduceLT, Nat.reduceShiftRight, Nat.reduceMod, Int.reduceLE, Int.reduceLT, Int.reduceToNat, decide_true, Bool.and_self, Bool.true_and, Ob.map.injEq, Ob.it.injEq, List.cons.injEq, true_and, and_true]
    refine ac83 wpay_T_ok (Nat.le_of_ble_eq_true rfl) ?_
    simp -implicitDefEqProofs only [cd_t, cd_f, cd_dec, cd_not, cd_and, cd_or, grd_tt, grd_ff, grd_tf, grd_ft, grd_dt, grd_df, grd_nt, grd_nf, go_sem, Go.Proofs.Tryz.f83, i1_0, false_implies, true_implies, not_false_eq_true, not_true_eq_false, reduceIte, reduceCtorEq, Nat.reduceEqDiff, Nat.reduceAdd, Nat.reduceLeDiff, Nat.reduceSub, Nat.reduceMul, Nat.reduceLT, Nat.reduceShiftRight, Nat.reduceMod, Int.reduceLE, Int.reduceLT, Int.reduceToNat, decide_true, Bool.and_self, Bool.true_and, Ob.map.injEq, Ob.it.injEq, List.cons.injEq, true_and, and_true]
    refine ac42 wpay_T_ok (Nat.le_of_ble_eq_true rfl) ?_
    simp -implicitDefEqProofs only [cd_t, cd_f, cd_dec, cd_not, cd_and, cd_or, grd_tt, grd_ff, grd_tf, grd_ft, grd_dt, grd_df, grd_nt, grd_nf, go_sem, Go.Proofs.Tryz.f42, i1_0, false_implies, true_implies, not_false_eq_true, not_true_eq_false, reduceIte, reduceCtorEq, Nat.reduceEqDiff, Nat.reduceAdd, Nat.reduceLeDiff, Nat.reduceSub, Nat.reduceMul, Nat.reduceLT, Nat.reduceShiftRight, Nat.reduceMod, Int.reduceLE, Int.reduceLT, Int.reduceToNat, decide_true, Bool.and_self, Bool.true_and, Ob.map.injEq, Ob.it.injEq, List.cons.injEq, true_and, and_true]
    refine ADraw.run us42_2 wpay_T_ok follows_mixed (by kernel_rfl) (by kernel_rfl) ?_
    simp -implicitDefEqProofs only [cd_t, cd_f, cd_dec, cd_not, cd_and, cd_or, grd_tt, grd_ff, grd_tf, grd_ft, grd_dt, grd_df, grd_nt, grd_nf, go_sem, i1_0, false_implies, true_implies, not_false_eq_true, not_true_eq_false, reduceIte, reduceCtorEq, Nat.reduceEqDiff, Nat.reduceAdd, Nat.reduceLeDiff, Nat.reduceSub, Nat.reduceMul, Nat.reduceLT, Nat.reduceShiftRight, Nat.reduceMod, Int.reduceLE, Int.reduceLT, Int.reduceToNat, decide_true, Bool.and_self, Bool.true_and, Ob.map.injEq, Ob.it.injEq, List.cons.injEq, true_and, and_true]
    exact hbad _ (by rw [payE, if_pos (.inr (.inl (by omega)))]) (by decide)
  have hmon : monS [n] = 0 ↔ n ≤ MM := mon1_0
  by_cases hm : monS [n] = 0
  rotate_left 1
  · skip
    refine ac33 wpay_T_ok (Nat.le_of_ble_eq_true rfl) ?_
    simp -implicitDefEqProofs only [cd_t, cd_f, cd_dec, cd_not, cd_and, cd_or, grd_tt, grd_ff, grd_tf, grd_ft, grd_dt, grd_df, grd_nt, grd_nf, go_sem, Go.Proofs.Tryz.f33, hck, hm, false_implies, true_implies, not_false_eq_true, not_true_eq_false, reduceIte, reduceCtorEq, Nat.reduceEqDiff, Nat.reduceAdd, Nat.reduceLeDiff, Nat.reduceSub, Nat.reduceMul, Nat.reduceLT, Nat.reduceShiftRight, Nat.reduceMod, Int.reduceLE, Int.reduceLT, Int.reduceToNat, decide_true, Bool.and_self, Bool.true_and, Ob.map.injEq, Ob.it.injEq, List.cons.injEq, true_and, and_true]
    skip
    refine ac33 wpay_T_ok (Nat.le_of_ble_eq_true rfl) ?_
    simp -implicitDefEqProofs only [cd_t, cd_f, cd_dec, cd_not, cd_and, cd_or, grd_tt, grd_ff, grd_tf, grd_ft, grd_dt, grd_df, grd_nt, grd_nf, go_sem, Go.Proofs.Tryz.f33, i1_0, false_implies, true_implies, not_false_eq_true, not_true_eq_false, reduceIte, reduceCtorEq, Nat.reduceEqDiff, Nat.reduceAdd, Nat.reduceLeDiff, Nat.reduceSub, Nat.reduceMul, Nat.reduceLT, Nat.reduceShiftRight, Nat.reduceMod, Int.reduceLE, Int.reduceLT, Int.reduceToNat, decide_true, Bool.and_self, Bool.true_and, Ob.map.injEq, Ob.it.injEq, List.cons.injEq, true_and, and_true]
    refine ac33 wpay_T_ok (Nat.le_of_ble_eq_true rfl) ?_
    simp -implicitDefEqProofs only [cd_t, cd_f, cd_dec, cd_not, cd_and, cd_or, grd_tt, grd_ff, grd_tf, grd_ft, grd_dt, grd_df, grd_nt, grd_nf, go_sem, Go.Proofs.Tryz.f33, i1_0, false_implies, true_implies, not_false_eq_true, not_true_eq_false, reduceIte, reduceCtorEq, Nat.reduceEqDiff, Nat.reduceAdd, Nat.reduceLeDiff, Nat.reduceSub, Nat.reduceMul, Nat.reduceLT, Nat.reduceShiftRight, Nat.reduceMod, Int.reduceLE, Int.reduceLT, Int.reduceToNat, decide_true, Bool.and_self, Bool.true_and, Ob.map.injEq, Ob.it.injEq, List.cons.injEq, true_and, and_true]
    refine ac35 wpay_T_ok (Nat.le_of_ble_eq_true rfl) ?_
    simp -implicitDefEqProofs only [cd_t, cd_f, cd_dec, cd_not, cd_and, cd_or, grd_tt, grd_ff, grd_tf, grd_ft, grd_dt, grd_df, grd_nt, grd_nf, go_sem, Go.Proofs.Tryz.f35, i1_0, false_implies, true_implies, not_false_eq_true, not_true_eq_false, reduceIte, reduceCtorEq, Nat.reduceEqDiff, Nat.reduceAdd, Nat.reduceLeDiff, Nat.reduceSub, Nat.reduceMul, Nat.reduceLT, Nat.reduceShiftRight, Nat.reduceMod, Int.reduceLE, Int.reduceLT, Int.reduceToNat, decide_true, Bool.and_self, Bool.true_and, Ob.map.injEq, Ob.it.injEq, List.cons.injEq, true_and, and_true]
    refine ac38 wpay_T_ok (Nat.le_of_ble_eq_true rfl) ?_
    simp -implicitDefEqProofs only [cd_t, cd_f, cd_dec, cd_not, cd_and, cd_or, grd_tt, grd_ff, grd_tf, grd_ft, grd_dt, grd_df, grd_nt, grd_nf, go_sem, Go.Proofs.Tryz.f38, i1_0, false_implies, true_implies, not_false_eq_true, not_true_eq_false, reduceIte, reduceCtorEq, Nat.reduceEqDiff, Nat.reduceAdd, Nat.reduceLeDiff, Nat.reduceSub, Nat.reduceMul, Nat.reduceLT, Nat.reduceShiftRight, Nat.reduceMod, Int.reduceLE, Int.reduceLT, Int.reduceToNat, decide_true, Bool.and_self, Bool.true_and, Ob.map.injEq, Ob.it.injEq, List.cons.injEq, true_and, and_true]
    refine ac41 wpay_T_ok (Nat.le_of_ble_eq_true rfl) ?_
    simp -implicitDefEqProofs only [cd_t, cd_f, cd_dec, cd_not, cd_and, cd_or, grd_tt, grd_ff, grd_tf, grd_ft, grd_dt, grd_df, grd_nt, grd_nf, go_sem, Go.Proofs.Tryz.f41, reduceIte, reduceCtorEq, Nat.reduceEqDiff, Nat.reduceAdd, Nat.reduceLeDiff, Nat.reduceSub, Nat.reduceMul, Nat.reduceLT, Nat.reduceShiftRight, Nat.reduceMod, Int.reduceLE, Int.reduceLT, Int.reduceToNat, decide_true, Bool.and_self, Bool.true_and, Ob.map.injEq, Ob.it.injEq, List.cons.injEq, true_and, and_true]
    refine ac83 wpay_T_ok (Nat.le_of_ble_eq_true rfl) ?_
    simp -implicitDefEqProofs only [cd_t, cd_f, cd_dec, cd_not, cd_and, cd_or, grd_tt, grd_ff, grd_tf, grd_ft, grd_dt, grd_df, grd_nt, grd_nf, go_sem, Go.Proofs.Tryz.f83, i1_0, false_implies, true_implies, not_false_eq_true, not_true_eq_false, reduceIte, reduceCtorEq, Nat.reduceEqDiff, Nat.reduceAdd, Nat.reduceLeDiff, Nat.reduceSub, Nat.reduceMul, Nat.reduceLT, Nat.reduceShiftRight, Nat.reduceMod, Int.reduceLE, Int.reduceLT, Int.reduceToNat, decide_true, Bool.and_self, Bool.true_and, Ob.map.injEq, Ob.it.injEq, List.cons.injEq, true_and, and_true]
    refine ac42 wpay_T_ok (Nat.le_of_ble_eq_true rfl) ?_
    simp -implicitDefEqProofs only [cd_t, cd_f, cd_dec, cd_not, cd_and, cd_or, grd_tt, grd_ff, grd_tf, grd_ft, grd_dt, grd_df, grd_nt, grd_nf, go_sem, Go.Proofs.Tryz.f42, i1_0, false_implies, true_implies, not_false_eq_true, not_true_eq_false, reduceIte, reduceCtorEq, Nat.reduceEqDiff, Nat.reduceAdd, Nat.reduceLeDiff, Nat.reduceSub, Nat.reduceMul, Nat.reduceLT, Nat.reduceShiftRight, Nat.reduceMod, Int.reduceLE, Int.reduceLT, Int.reduceToNat, decide_true, Bool.and_self, Bool.true_and, Ob.map.injEq, Ob.it.injEq, List.cons.injEq, true_and, and_true]
    refine ADraw.run us42_2 wpay_T_ok follows_mixed (by kernel_rfl) (by kernel_rfl) ?_
    simp -implicitDefEqProofs only [cd_t, cd_f, cd_dec, cd_not, cd_and, cd_or, grd_tt, grd_ff, grd_tf, grd_ft, grd_dt, grd_df, grd_nt, grd_nf, go_sem, i1_0, false_implies, true_implies, not_false_eq_true, not_true_eq_false, reduceIte, reduceCtorEq, Nat.reduceEqDiff, Nat.reduceAdd, Nat.reduceLeDiff, Nat.reduceSub, Nat.reduceMul, Nat.reduceLT, Nat.reduceShiftRight, Nat.reduceMod, Int.reduceLE, Int.reduceLT, Int.reduceToNat, decide_true, Bool.and_self, Bool.true_and, Ob.map.injEq, Ob.it.injEq, List.cons.injEq, true_and, and_true]
    exact hbad _ (by rw [payE, if_pos (.inr (.inr fun h => hm (hmon.2 h)))]) (by decide)
  have hA : ¬ (¬ okW v ∨ n = 0 ∨ ¬ n ≤ MM) := by
    rintro (h | h | h)
    · exact h hok
    · omega
    · exact h (hmon.1 hm)
  refine ac33 wpay_T_ok (Nat.le_of_ble_eq_true rfl) ?_
  simp -implicitDefEqProofs only [cd_t, cd_f, cd_dec, cd_not, cd_and, cd_or, grd_tt, grd_ff, grd_tf, grd_ft, grd_dt, grd_df, grd_nt, grd_nf, go_sem, Go.Proofs.Tryz.f33, hck, hm, false_implies, true_implies, not_false_eq_true, not_true_eq_false, reduceIte, reduceCtorEq, Nat.reduceEqDiff, Nat.reduceAdd, Nat.reduceLeDiff, Nat.reduceSub, Nat.reduceMul, Nat.reduceLT, Nat.reduceShiftRight, Nat.reduceMod, Int.reduceLE, Int.reduceLT, Int.reduceToNat, decide_true, Bool.and_self, Bool.true_and, Ob.map.injEq, Ob.it.injEq, List.cons.injEq, true_and, and_true]
  by_cases hfe : (firstL v.c v.w n).2 = 0
  rotate_left 1
  · skip
    refine ac33 wpay_T_ok (Nat.le_of_ble_eq_true rfl) ?_
    simp -implicitDefEqProofs only [cd_t, cd_f, cd_dec, cd_not, cd_and, cd_or, grd_tt, grd_ff, grd_tf, grd_ft, grd_dt, grd_df, grd_nt, grd_nf, go_sem, Go.Proofs.Tryz.f33, hck, hfe, false_implies, true_implies, not_false_eq_true, not_true_eq_false, reduceIte, reduceCtorEq, Nat.reduceEqDiff, Nat.reduceAdd, Nat.reduceLeDiff, Nat.reduceSub, Nat.reduceMul, Nat.reduceLT, Nat.reduceShiftRight, Nat.reduceMod, Int.reduceLE, Int.reduceLT, Int.reduceToNat, decide_true, Bool.and_self, Bool.true_and, Ob.map.injEq, Ob.it.injEq, List.cons.injEq, true_and, and_true]
    skip
    refine ac33 wpay_T_ok (Nat.le_of_ble_eq_true rfl) ?_
    simp -implicitDefEqProofs only [cd_t, cd_f, cd_dec, cd_not, cd_and, cd_or, grd_tt, grd_ff, grd_tf, grd_ft, grd_dt, grd_df, grd_nt, grd_nf, go_sem, Go.Proofs.Tryz.f33, i9_0, false_implies, true_implies, not_false_eq_true, not_true_eq_false, reduceIte, reduceCtorEq, Nat.reduceEqDiff, Nat.reduceAdd, Nat.reduceLeDiff, Nat.reduceSub, Nat.reduceMul, Nat.reduceLT, Nat.reduceShiftRight, Nat.reduceMod, Int.reduceLE, Int.reduceLT, Int.reduceToNat, decide_true, Bool.and_self, Bool.true_and, Ob.map.injEq, Ob.it.injEq, List.cons.injEq, true_and, and_true]
    refine ac35 wpay_T_ok (Nat.le_of_ble_eq_true rfl) ?_
    simp -implicitDefEqProofs only [cd_t, cd_f, cd_dec, cd_not, cd_and, cd_or, grd_tt, grd_ff, grd_tf, grd_ft, grd_dt, grd_df, grd_nt, grd_nf, go_sem, Go.Proofs.Tryz.f35, i9_0, false_implies, true_implies, not_false_eq_true, not_true_eq_false, reduceIte, reduceCtorEq, Nat.reduceEqDiff, Nat.reduceAdd, Nat.reduceLeDiff, Nat.reduceSub, Nat.reduceMul, Nat.reduceLT, Nat.reduceShiftRight, Nat.reduceMod, Int.reduceLE, Int.reduceLT, Int.reduceToNat, decide_true, Bool.and_self, Bool.true_and, Ob.map.injEq, Ob.it.injEq, List.cons.injEq, true_and, and_true]
    refine ac38 wpay_T_ok (Nat.le_of_ble_eq_true rfl) ?_
    simp -implicitDefEqProofs only [cd_t, cd_f, cd_dec, cd_not, cd_and, cd_or, grd_tt, grd_ff, grd_tf, grd_ft, grd_dt, grd_df, grd_nt, grd_nf, go_sem, Go.Proofs.Tryz.f38, i9_0, false_implies, true_implies, not_false_eq_true, not_true_eq_false, reduceIte, reduceCtorEq, Nat.reduceEqDiff, Nat.reduceAdd, Nat.reduceLeDiff, Nat.reduceSub, Nat.reduceMul, Nat.reduceLT, Nat.reduceShiftRight, Nat.reduceMod, Int.reduceLE, Int.reduceLT, Int.reduceToNat, decide_true, Bool.and_self, Bool.true_and, Ob.map.injEq, Ob.it.injEq, List.cons.injEq, true_and, and_true]
    refine ac41 wpay_T_ok (Nat.le_of_ble_eq_true rfl) ?_
    simp -implicitDefEqProofs only [cd_t, cd_f, cd_dec, cd_not, cd_and, cd_or, grd_tt, grd_ff, grd_tf, grd_ft, grd_dt, grd_df, grd_nt, grd_nf, go_sem, Go.Proofs.Tryz.f41, reduceIte, reduceCtorEq, Nat.reduceEqDiff, Nat.reduceAdd, Nat.reduceLeDiff, Nat.reduceSub, Nat.reduceMul, Nat.reduceLT, Nat.reduceShiftRight, Nat.reduceMod, Int.reduceLE, Int.reduceLT, Int.reduceToNat, decide_true, Bool.and_self, Bool.true_and, Ob.map.injEq, Ob.it.injEq, List.cons.injEq, true_and, and_true]
    refine ac83 wpay_T_ok (Nat.le_of_ble_eq_true rfl) ?_
    simp -implicitDefEqProofs only [cd_t, cd_f, cd_dec, cd_not, cd_and, cd_or, grd_tt, grd_ff, grd_tf, grd_ft, grd_dt, grd_df, grd_nt, grd_nf, go_sem, Go.Proofs.Tryz.f83, i9_0, false_implies, true_implies, not_false_eq_true, not_true_eq_false, reduceIte, reduceCtorEq, Nat.reduceEqDiff, Nat.reduceAdd, Nat.reduceLeDiff, Nat.reduceSub, Nat.reduceMul, Nat.reduceLT, Nat.reduceShiftRight, Nat.reduceMod, Int.reduceLE, Int.reduceLT, Int.reduceToNat, decide_true, Bool.and_self, Bool.true_and, Ob.map.injEq, Ob.it.injEq, List.cons.injEq, true_and, and_true]
    refine ac42 wpay_T_ok (Nat.le_of_ble_eq_true rfl) ?_
    simp -implicitDefEqProofs only [cd_t, cd_f, cd_dec, cd_not, cd_and, cd_or, grd_tt, grd_ff, grd_tf, grd_ft, grd_dt, grd_df, grd_nt, grd_nf, go_sem, Go.Proofs.Tryz.f42, i9_0, false_implies, true_implies, not_false_eq_true, not_true_eq_false, reduceIte, reduceCtorEq, Nat.reduceEqDiff, Nat.reduceAdd, Nat.reduceLeDiff, Nat.reduceSub, Nat.reduceMul, Nat.reduceLT, Nat.reduceShiftRight, Nat.reduceMod, Int.reduceLE, Int.reduceLT, Int.reduceToNat, decide_true, Bool.and_self, Bool.true_and, Ob.map.injEq, Ob.it.injEq, List.cons.injEq, true_and, and_true]
    refine ADraw.run us42_2 wpay_T_ok follows_mixed (by kernel_rfl) (by kernel_rfl) ?_
    simp -implicitDefEqProofs only [cd_t, cd_f, cd_dec, cd_not, cd_and, cd_or, grd_tt, grd_ff, grd_tf, grd_ft, grd_dt, grd_df, grd_nt, grd_nf, go_sem, i9_0, false_implies, true_implies, not_false_eq_true, not_true_eq_false, reduceIte, reduceCtorEq, Nat.reduceEqDiff, Nat.reduceAdd, Nat.reduceLeDiff, Nat.reduceSub, Nat.reduceMul, Nat.reduceLT, Nat.reduceShiftRight, Nat.reduceMod, Int.reduceLE, Int.reduceLT, Int.reduceToNat, decide_true, Bool.and_self, Bool.true_and, Ob.map.injEq, Ob.it.injEq, List.cons.injEq, true_and, and_true]
    exact hbad _ (by rw [payE, if_neg hA, if_pos hfe]) (by decide)
  refine ac33 wpay_T_ok (Nat.le_of_ble_eq_true rfl) ?_
  simp -implicitDefEqProofs only [cd_t, cd_f, cd_dec, cd_not, cd_and, cd_or, grd_tt, grd_ff, grd_tf, grd_ft, grd_dt, grd_df, grd_nt, grd_nf, go_sem, Go.Proofs.Tryz.f33, hck, hfe, false_implies, true_implies, not_false_eq_true, not_true_eq_false, reduceIte, reduceCtorEq, Nat.reduceEqDiff, Nat.reduceAdd, Nat.reduceLeDiff, Nat.reduceSub, Nat.reduceMul, Nat.reduceLT, Nat.reduceShiftRight, Nat.reduceMod, Int.reduceLE, Int.reduceLT, Int.reduceToNat, decide_true, Bool.and_self, Bool.true_and, Ob.map.injEq, Ob.it.injEq, List.cons.injEq, true_and, and_true]
  by_cases hnx : v.next = MM
  · have hnx' : ((v.next : Int) = 4611686018427387904) = True := eq_true (by unfold MM at hnx; omega)
    refine ac33 wpay_T_ok (Nat.le_of_ble_eq_true rfl) ?_
    simp -implicitDefEqProofs only [cd_t, cd_f, cd_dec, cd_not, cd_and, cd_or, grd_tt, grd_ff, grd_tf, grd_ft, grd_dt, grd_df, grd_nt, grd_nf, go_sem, Go.Proofs.Tryz.f33, hck, hnx', decide_false, false_implies, true_implies, not_false_eq_true, not_true_eq_false, reduceIte, reduceCtorEq, Nat.reduceEqDiff, Nat.reduceAdd, Nat.reduceLeDiff, Nat.reduceSub, Nat.reduceMul, Nat.reduceLT, Nat.reduceShiftRight, Nat.reduceMod, Int.reduceLE, Int.reduceLT, Int.reduceToNat, decide_true, Bool.and_self, Bool.true_and, Ob.map.injEq, Ob.it.injEq, List.cons.injEq, true_and, and_true]
    skip
    refine ac35 wpay_T_ok (Nat.le_of_ble_eq_true rfl) ?_
    simp -implicitDefEqProofs only [cd_t, cd_f, cd_dec, cd_not, cd_and, cd_or, grd_tt, grd_ff, grd_tf, grd_ft, grd_dt, grd_df, grd_nt, grd_nf, go_sem, Go.Proofs.Tryz.f35, i7_0, false_implies, true_implies, not_false_eq_true, not_true_eq_false, reduceIte, reduceCtorEq, Nat.reduceEqDiff, Nat.reduceAdd, Nat.reduceLeDiff, Nat.reduceSub, Nat.reduceMul, Nat.reduceLT, Nat.reduceShiftRight, Nat.reduceMod, Int.reduceLE, Int.reduceLT, Int.reduceToNat, decide_true, Bool.and_self, Bool.true_and, Ob.map.injEq, Ob.it.injEq, List.cons.injEq, true_and, and_true]
    refine ac38 wpay_T_ok (Nat.le_of_ble_eq_true rfl) ?_
    simp -implicitDefEqProofs only [cd_t, cd_f, cd_dec, cd_not, cd_and, cd_or, grd_tt, grd_ff, grd_tf, grd_ft, grd_dt, grd_df, grd_nt, grd_nf, go_sem, Go.Proofs.Tryz.f38, i7_0, false_implies, true_implies, not_false_eq_true, not_true_eq_false, reduceIte, reduceCtorEq, Nat.reduceEqDiff, Nat.reduceAdd, Nat.reduceLeDiff, Nat.reduceSub, Nat.reduceMul, Nat.reduceLT, Nat.reduceShiftRight, Nat.reduceMod, Int.reduceLE, Int.reduceLT, Int.reduceToNat, decide_true, Bool.and_self, Bool.true_and, Ob.map.injEq, Ob.it.injEq, List.cons.injEq, true_and, and_true]
    refine ac41 wpay_T_ok (Nat.le_of_ble_eq_true rfl) ?_
    simp -implicitDefEqProofs only [cd_t, cd_f, cd_dec, cd_not, cd_and, cd_or, grd_tt, grd_ff, grd_tf, grd_ft, grd_dt, grd_df, grd_nt, grd_nf, go_sem, Go.Proofs.Tryz.f41, reduceIte, reduceCtorEq, Nat.reduceEqDiff, Nat.reduceAdd, Nat.reduceLeDiff, Nat.reduceSub, Nat.reduceMul, Nat.reduceLT, Nat.reduceShiftRight, Nat.reduceMod, Int.reduceLE, Int.reduceLT, Int.reduceToNat, decide_true, Bool.and_self, Bool.true_and, Ob.map.injEq, Ob.it.injEq, List.cons.injEq, true_and, and_true]
    refine ac83 wpay_T_ok (Nat.le_of_ble_eq_true rfl) ?_
    simp -implicitDefEqProofs only [cd_t, cd_f, cd_dec, cd_not, cd_and, cd_or, grd_tt, grd_ff, grd_tf, grd_ft, grd_dt, grd_df, grd_nt, grd_nf, go_sem, Go.Proofs.Tryz.f83, i7_0, false_implies, true_implies, not_false_eq_true, not_true_eq_false, reduceIte, reduceCtorEq, Nat.reduceEqDiff, Nat.reduceAdd, Nat.reduceLeDiff, Nat.reduceSub, Nat.reduceMul, Nat.reduceLT, Nat.reduceShiftRight, Nat.reduceMod, Int.reduceLE, Int.reduceLT, Int.reduceToNat, decide_true, Bool.and_self, Bool.true_and, Ob.map.injEq, Ob.it.injEq, List.cons.injEq, true_and, and_true]
    refine ac42 wpay_T_ok (Nat.le_of_ble_eq_true rfl) ?_
    simp -implicitDefEqProofs only [cd_t, cd_f, cd_dec, cd_not, cd_and, cd_or, grd_tt, grd_ff, grd_tf, grd_ft, grd_dt, grd_df, grd_nt, grd_nf, go_sem, Go.Proofs.Tryz.f42, i7_0, false_implies, true_implies, not_false_eq_true, not_true_eq_false, reduceIte, reduceCtorEq, Nat.reduceEqDiff, Nat.reduceAdd, Nat.reduceLeDiff, Nat.reduceSub, Nat.reduceMul, Nat.reduceLT, Nat.reduceShiftRight, Nat.reduceMod, Int.reduceLE, Int.reduceLT, Int.reduceToNat, decide_true, Bool.and_self, Bool.true_and, Ob.map.injEq, Ob.it.injEq, List.cons.injEq, true_and, and_true]
    refine ADraw.run us42_2 wpay_T_ok follows_mixed (by kernel_rfl) (by kernel_rfl) ?_
    simp -implicitDefEqProofs only [cd_t, cd_f, cd_dec, cd_not, cd_and, cd_or, grd_tt, grd_ff, grd_tf, grd_ft, grd_dt, grd_df, grd_nt, grd_nf, go_sem, i7_0, false_implies, true_implies, not_false_eq_true, not_true_eq_false, reduceIte, reduceCtorEq, Nat.reduceEqDiff, Nat.reduceAdd, Nat.reduceLeDiff, Nat.reduceSub, Nat.reduceMul, Nat.reduceLT, Nat.reduceShiftRight, Nat.reduceMod, Int.reduceLE, Int.reduceLT, Int.reduceToNat, decide_true, Bool.and_self, Bool.true_and, Ob.map.injEq, Ob.it.injEq, List.cons.injEq, true_and, and_true]
    exact hbad _ (by rw [payE, if_neg hA, if_neg (fun h => h hfe), if_pos hnx]) (by decide)
  have hnx' : ((v.next : Int) = 4611686018427387904) = False := eq_false (by unfold MM at hnx; omega)
  refine ac33 wpay_T_ok (Nat.le_of_ble_eq_true rfl) ?_
  simp -implicitDefEqProofs only [cd_t, cd_f, cd_dec, cd_not, cd_and, cd_or, grd_tt, grd_ff, grd_tf, grd_ft, grd_dt, grd_df, grd_nt, grd_nf, go_sem, Go.Proofs.Tryz.f33, hck, hnx', decide_true, false_implies, true_implies, not_false_eq_true, not_true_eq_false, reduceIte, reduceCtorEq, Nat.reduceEqDiff, Nat.reduceAdd, Nat.reduceLeDiff, Nat.reduceSub, Nat.reduceMul, Nat.reduceLT, Nat.reduceShiftRight, Nat.reduceMod, Int.reduceLE, Int.reduceLT, Int.reduceToNat, decide_true, Bool.and_self, Bool.true_and, Ob.map.injEq, Ob.it.injEq, List.cons.injEq, true_and, and_true]
  refine ac35 wpay_T_ok (Nat.le_of_ble_eq_true rfl) ?_
  simp -implicitDefEqProofs only [cd_t, cd_f, cd_dec, cd_not, cd_and, cd_or, grd_tt, grd_ff, grd_tf, grd_ft, grd_dt, grd_df, grd_nt, grd_nf, go_sem, Go.Proofs.Tryz.f35, hck, false_implies, true_implies, not_false_eq_true, not_true_eq_false, reduceIte, reduceCtorEq, Nat.reduceEqDiff, Nat.reduceAdd, Nat.reduceLeDiff, Nat.reduceSub, Nat.reduceMul, Nat.reduceLT, Nat.reduceShiftRight, Nat.reduceMod, Int.reduceLE, Int.reduceLT, Int.reduceToNat, decide_true, Bool.and_self, Bool.true_and, Ob.map.injEq, Ob.it.injEq, List.cons.injEq, true_and, and_true]
  refine ac36 wpay_T_ok (Nat.le_of_ble_eq_true rfl) ?_
  simp -implicitDefEqProofs only [cd_t, cd_f, cd_dec, cd_not, cd_and, cd_or, grd_tt, grd_ff, grd_tf, grd_ft, grd_dt, grd_df, grd_nt, grd_nf, go_sem, Go.Proofs.Tryz.f36, reduceIte, reduceCtorEq, Nat.reduceEqDiff, Nat.reduceAdd, Nat.reduceLeDiff, Nat.reduceSub, Nat.reduceMul, Nat.reduceLT, Nat.reduceShiftRight, Nat.reduceMod, Int.reduceLE, Int.reduceLT, Int.reduceToNat, decide_true, Bool.and_self, Bool.true_and, Ob.map.injEq, Ob.it.injEq, List.cons.injEq, true_and, and_true]
  have eP : startP v.p ⟨v.next, hash, (firstL v.c v.w n).1, n, 1⟩ = payP v hash n := rfl
  rw [eP]
  refine ⟨fun hst => ?_, fun hst => ?_⟩
  rotate_left 1
  · skip
    refine ac38 wpay_T_ok (Nat.le_of_ble_eq_true rfl) ?_
    simp -implicitDefEqProofs only [cd_t, cd_f, cd_dec, cd_not, cd_and, cd_or, grd_tt, grd_ff, grd_tf, grd_ft, grd_dt, grd_df, grd_nt, grd_nf, go_sem, Go.Proofs.Tryz.f38, hst, false_implies, true_implies, not_false_eq_true, not_true_eq_false, reduceIte, reduceCtorEq, Nat.reduceEqDiff, Nat.reduceAdd, Nat.reduceLeDiff, Nat.reduceSub, Nat.reduceMul, Nat.reduceLT, Nat.reduceShiftRight, Nat.reduceMod, Int.reduceLE, Int.reduceLT, Int.reduceToNat, decide_true, Bool.and_self, Bool.true_and, Ob.map.injEq, Ob.it.injEq, List.cons.injEq, true_and, and_true]
    refine ac41 wpay_T_ok (Nat.le_of_ble_eq_true rfl) ?_
    simp -implicitDefEqProofs only [cd_t, cd_f, cd_dec, cd_not, cd_and, cd_or, grd_tt, grd_ff, grd_tf, grd_ft, grd_dt, grd_df, grd_nt, grd_nf, go_sem, Go.Proofs.Tryz.f41, reduceIte, reduceCtorEq, Nat.reduceEqDiff, Nat.reduceAdd, Nat.reduceLeDiff, Nat.reduceSub, Nat.reduceMul, Nat.reduceLT, Nat.reduceShiftRight, Nat.reduceMod, Int.reduceLE, Int.reduceLT, Int.reduceToNat, decide_true, Bool.and_self, Bool.true_and, Ob.map.injEq, Ob.it.injEq, List.cons.injEq, true_and, and_true]
    refine ac83 wpay_T_ok (Nat.le_of_ble_eq_true rfl) ?_
    simp -implicitDefEqProofs only [cd_t, cd_f, cd_dec, cd_not, cd_and, cd_or, grd_tt, grd_ff, grd_tf, grd_ft, grd_dt, grd_df, grd_nt, grd_nf, go_sem, Go.Proofs.Tryz.f83, hst, false_implies, true_implies, not_false_eq_true, not_true_eq_false, reduceIte, reduceCtorEq, Nat.reduceEqDiff, Nat.reduceAdd, Nat.reduceLeDiff, Nat.reduceSub, Nat.reduceMul, Nat.reduceLT, Nat.reduceShiftRight, Nat.reduceMod, Int.reduceLE, Int.reduceLT, Int.reduceToNat, decide_true, Bool.and_self, Bool.true_and, Ob.map.injEq, Ob.it.injEq, List.cons.injEq, true_and, and_true]
    refine ac42 wpay_T_ok (Nat.le_of_ble_eq_true rfl) ?_
    simp -implicitDefEqProofs only [cd_t, cd_f, cd_dec, cd_not, cd_and, cd_or, grd_tt, grd_ff, grd_tf, grd_ft, grd_dt, grd_df, grd_nt, grd_nf, go_sem, Go.Proofs.Tryz.f42, hst, false_implies, true_implies, not_false_eq_true, not_true_eq_false, reduceIte, reduceCtorEq, Nat.reduceEqDiff, Nat.reduceAdd, Nat.reduceLeDiff, Nat.reduceSub, Nat.reduceMul, Nat.reduceLT, Nat.reduceShiftRight, Nat.reduceMod, Int.reduceLE, Int.reduceLT, Int.reduceToNat, decide_true, Bool.and_self, Bool.true_and, Ob.map.injEq, Ob.it.injEq, List.cons.injEq, true_and, and_true]
    refine ADraw.run us42_2 wpay_T_ok follows_mixed (by kernel_rfl) (by kernel_rfl) ?_
    simp -implicitDefEqProofs only [cd_t, cd_f, cd_dec, cd_not, cd_and, cd_or, grd_tt, grd_ff, grd_tf, grd_ft, grd_dt, grd_df, grd_nt, grd_nf, go_sem, hst, false_implies, true_implies, not_false_eq_true, not_true_eq_false, reduceIte, reduceCtorEq, Nat.reduceEqDiff, Nat.reduceAdd, Nat.reduceLeDiff, Nat.reduceSub, Nat.reduceMul, Nat.reduceLT, Nat.reduceShiftRight, Nat.reduceMod, Int.reduceLE, Int.reduceLT, Int.reduceToNat, decide_true, Bool.and_self, Bool.true_and, Ob.map.injEq, Ob.it.injEq, List.cons.injEq, true_and, and_true]
    exact hbad _ (by rw [payE, if_neg hA, if_neg (fun h => h hfe), if_neg hnx, if_pos hst]) hst
  refine ac38 wpay_T_ok (Nat.le_of_ble_eq_true rfl) ?_
  simp -implicitDefEqProofs only [cd_t, cd_f, cd_dec, cd_not, cd_and, cd_or, grd_tt, grd_ff, grd_tf, grd_ft, grd_dt, grd_df, grd_nt, grd_nf, go_sem, Go.Proofs.Tryz.f38, hck, false_implies, true_implies, not_false_eq_true, not_true_eq_false, reduceIte, reduceCtorEq, Nat.reduceEqDiff, Nat.reduceAdd, Nat.reduceLeDiff, Nat.reduceSub, Nat.reduceMul, Nat.reduceLT, Nat.reduceShiftRight, Nat.reduceMod, Int.reduceLE, Int.reduceLT, Int.reduceToNat, decide_true, Bool.and_self, Bool.true_and, Ob.map.injEq, Ob.it.injEq, List.cons.injEq, true_and, and_true]
  refine ac39 wpay_T_ok (Nat.le_of_ble_eq_true rfl) ?_
  simp -implicitDefEqProofs only [cd_t, cd_f, cd_dec, cd_not, cd_and, cd_or, grd_tt, grd_ff, grd_tf, grd_ft, grd_dt, grd_df, grd_nt, grd_nf, go_sem, Go.Proofs.Tryz.f39, reduceIte, reduceCtorEq, Nat.reduceEqDiff, Nat.reduceAdd, Nat.reduceLeDiff, Nat.reduceSub, Nat.reduceMul, Nat.reduceLT, Nat.reduceShiftRight, Nat.reduceMod, Int.reduceLE, Int.reduceLT, Int.reduceToNat, decide_true, Bool.and_self, Bool.true_and, Ob.map.injEq, Ob.it.injEq, List.cons.injEq, true_and, and_true]
  have eC : lholdL v.c (firstL v.c v.w n).1 v.next n = payC v n := rfl
  rw [eC]
  refine ⟨fun hho => ?_, fun hho => ?_⟩
  rotate_left 1
  · skip
    refine ac41 wpay_T_ok (Nat.le_of_ble_eq_true rfl) ?_
    simp -implicitDefEqProofs only [cd_t, cd_f, cd_dec, cd_not, cd_and, cd_or, grd_tt, grd_ff, grd_tf, grd_ft, grd_dt, grd_df, grd_nt, grd_nf, go_sem, Go.Proofs.Tryz.f41, reduceIte, reduceCtorEq, Nat.reduceEqDiff, Nat.reduceAdd, Nat.reduceLeDiff, Nat.reduceSub, Nat.reduceMul, Nat.reduceLT, Nat.reduceShiftRight, Nat.reduceMod, Int.reduceLE, Int.reduceLT, Int.reduceToNat, decide_true, Bool.and_self, Bool.true_and, Ob.map.injEq, Ob.it.injEq, List.cons.injEq, true_and, and_true]
    refine ac83 wpay_T_ok (Nat.le_of_ble_eq_true rfl) ?_
    simp -implicitDefEqProofs only [cd_t, cd_f, cd_dec, cd_not, cd_and, cd_or, grd_tt, grd_ff, grd_tf, grd_ft, grd_dt, grd_df, grd_nt, grd_nf, go_sem, Go.Proofs.Tryz.f83, hho, false_implies, true_implies, not_false_eq_true, not_true_eq_false, reduceIte, reduceCtorEq, Nat.reduceEqDiff, Nat.reduceAdd, Nat.reduceLeDiff, Nat.reduceSub, Nat.reduceMul, Nat.reduceLT, Nat.reduceShiftRight, Nat.reduceMod, Int.reduceLE, Int.reduceLT, Int.reduceToNat, decide_true, Bool.and_self, Bool.true_and, Ob.map.injEq, Ob.it.injEq, List.cons.injEq, true_and, and_true]
    refine ac42 wpay_T_ok (Nat.le_of_ble_eq_true rfl) ?_
    simp -implicitDefEqProofs only [cd_t, cd_f, cd_dec, cd_not, cd_and, cd_or, grd_tt, grd_ff, grd_tf, grd_ft, grd_dt, grd_df, grd_nt, grd_nf, go_sem, Go.Proofs.Tryz.f42, hho, false_implies, true_implies, not_false_eq_true, not_true_eq_false, reduceIte, reduceCtorEq, Nat.reduceEqDiff, Nat.reduceAdd, Nat.reduceLeDiff, Nat.reduceSub, Nat.reduceMul, Nat.reduceLT, Nat.reduceShiftRight, Nat.reduceMod, Int.reduceLE, Int.reduceLT, Int.reduceToNat, decide_true, Bool.and_self, Bool.true_and, Ob.map.injEq, Ob.it.injEq, List.cons.injEq, true_and, and_true]
    refine ADraw.run us42_2 wpay_T_ok follows_mixed (by kernel_rfl) (by kernel_rfl) ?_
    simp -implicitDefEqProofs only [cd_t, cd_f, cd_dec, cd_not, cd_and, cd_or, grd_tt, grd_ff, grd_tf, grd_ft, grd_dt, grd_df, grd_nt, grd_nf, go_sem, hho, false_implies, true_implies, not_false_eq_true, not_true_eq_false, reduceIte, reduceCtorEq, Nat.reduceEqDiff, Nat.reduceAdd, Nat.reduceLeDiff, Nat.reduceSub, Nat.reduceMul, Nat.reduceLT, Nat.reduceShiftRight, Nat.reduceMod, Int.reduceLE, Int.reduceLT, Int.reduceToNat, decide_true, Bool.and_self, Bool.true_and, Ob.map.injEq, Ob.it.injEq, List.cons.injEq, true_and, and_true]
    exact hbad _ (by rw [payE, if_neg hA, if_neg (fun h => h hfe), if_neg hnx, if_neg (fun h => h hst), if_pos hho]) hho
  refine ac41 wpay_T_ok (Nat.le_of_ble_eq_true rfl) ?_
  simp -implicitDefEqProofs only [cd_t, cd_f, cd_dec, cd_not, cd_and, cd_or, grd_tt, grd_ff, grd_tf, grd_ft, grd_dt, grd_df, grd_nt, grd_nf, go_sem, Go.Proofs.Tryz.f41, reduceIte, reduceCtorEq, Nat.reduceEqDiff, Nat.reduceAdd, Nat.reduceLeDiff, Nat.reduceSub, Nat.reduceMul, Nat.reduceLT, Nat.reduceShiftRight, Nat.reduceMod, Int.reduceLE, Int.reduceLT, Int.reduceToNat, decide_true, Bool.and_self, Bool.true_and, Ob.map.injEq, Ob.it.injEq, List.cons.injEq, true_and, and_true]
  refine ac83 wpay_T_ok (Nat.le_of_ble_eq_true rfl) ?_
  simp -implicitDefEqProofs only [cd_t, cd_f, cd_dec, cd_not, cd_and, cd_or, grd_tt, grd_ff, grd_tf, grd_ft, grd_dt, grd_df, grd_nt, grd_nf, go_sem, Go.Proofs.Tryz.f83, hck, false_implies, true_implies, not_false_eq_true, not_true_eq_false, reduceIte, reduceCtorEq, Nat.reduceEqDiff, Nat.reduceAdd, Nat.reduceLeDiff, Nat.reduceSub, Nat.reduceMul, Nat.reduceLT, Nat.reduceShiftRight, Nat.reduceMod, Int.reduceLE, Int.reduceLT, Int.reduceToNat, decide_true, Bool.and_self, Bool.true_and, Ob.map.injEq, Ob.it.injEq, List.cons.injEq, true_and, and_true]
  refine ac84 wpay_T_ok (Nat.le_of_ble_eq_true rfl) ?_
  simp -implicitDefEqProofs only [cd_t, cd_f, cd_dec, cd_not, cd_and, cd_or, grd_tt, grd_ff, grd_tf, grd_ft, grd_dt, grd_df, grd_nt, grd_nf, go_sem, Go.Proofs.Tryz.f84, reduceIte, reduceCtorEq, Nat.reduceEqDiff, Nat.reduceAdd, Nat.reduceLeDiff, Nat.reduceSub, Nat.reduceMul, Nat.reduceLT, Nat.reduceShiftRight, Nat.reduceMod, Int.reduceLE, Int.reduceLT, Int.reduceToNat, decide_true, Bool.and_self, Bool.true_and, Ob.map.injEq, Ob.it.injEq, List.cons.injEq, true_and, and_true]
  have eF : addF v.f 0 v.next n = payF v n := rfl
  have hv := hok.2.2.2.2.2.1
  unfold MM at hv
  rw [eF, show IntKind.u64.wrap ((v.next : Int) + 1) = ((v.next + 1 : Nat) : Int) by rw [u64_in _ (by omega)]; omega]
  refine ⟨h, fun hfd => ?_, fun hfd => ?_⟩
  rotate_left 1
  · skip
    refine ac42 wpay_T_ok (Nat.le_of_ble_eq_true rfl) ?_
    simp -implicitDefEqProofs only [cd_t, cd_f, cd_dec, cd_not, cd_and, cd_or, grd_tt, grd_ff, grd_tf, grd_ft, grd_dt, grd_df, grd_nt, grd_nf, go_sem, Go.Proofs.Tryz.f42, hfd, false_implies, true_implies, not_false_eq_true, not_true_eq_false, reduceIte, reduceCtorEq, Nat.reduceEqDiff, Nat.reduceAdd, Nat.reduceLeDiff, Nat.reduceSub, Nat.reduceMul, Nat.reduceLT, Nat.reduceShiftRight, Nat.reduceMod, Int.reduceLE, Int.reduceLT, Int.reduceToNat, decide_true, Bool.and_self, Bool.true_and, Ob.map.injEq, Ob.it.injEq, List.cons.injEq, true_and, and_true]
    refine ADraw.run us42_2 wpay_T_ok follows_mixed (by kernel_rfl) (by kernel_rfl) ?_
    simp -implicitDefEqProofs only [cd_t, cd_f, cd_dec, cd_not, cd_and, cd_or, grd_tt, grd_ff, grd_tf, grd_ft, grd_dt, grd_df, grd_nt, grd_nf, go_sem, hfd, false_implies, true_implies, not_false_eq_true, not_true_eq_false, reduceIte, reduceCtorEq, Nat.reduceEqDiff, Nat.reduceAdd, Nat.reduceLeDiff, Nat.reduceSub, Nat.reduceMul, Nat.reduceLT, Nat.reduceShiftRight, Nat.reduceMod, Int.reduceLE, Int.reduceLT, Int.reduceToNat, decide_true, Bool.and_self, Bool.true_and, Ob.map.injEq, Ob.it.injEq, List.cons.injEq, true_and, and_true]
    exact hbad _ (by rw [payE, if_neg hA, if_neg (fun h => h hfe), if_neg hnx, if_neg (fun h => h hst), if_neg (fun h => h hho)]) hfd
  have hsm : smallW ⟨(payC v n).1, v.w, v.i, (payP v hash n).1, (payF v n).1, v.next + 1, v.tick⟩ := by
    have h1 := lhold_fine hho
    have h2 := small_ok hok
    have h3 := start_len (l := v.p) (p := ⟨v.next, hash, (firstL v.c v.w n).1, n, 1⟩)
    have h4 := add_len (f := v.f) (k := 0) (a := v.next) (n := n)
    refine ⟨by have := h1.1; show (payC v n).1.length ≤ _; unfold payC; omega, fun c hc => by have := (h1.2.1 c hc).2.2.1; omega, h2.2.2.1, h2.2.2.2.1, by show (payP v hash n).1.length ≤ _; unfold payP; omega, by show (payF v n).1.l.length ≤ _; unfold payF; omega⟩
  have hfin : payW v hash n = (⟨(payC v n).1, v.w, v.i, (payP v hash n).1, (payF v n).1, v.next + 1, v.tick⟩, v.next, 0) := by
    have : payE v hash n = 0 := by rw [payE, if_neg hA, if_neg (fun h => h hfe), if_neg hnx, if_neg (fun h => h hst), if_neg (fun h => h hho)]; exact hfd
    rw [payW, if_pos this]
  have en : ((v.next : Int) + 1).toNat = v.next + 1 := by omega
  have en2 : ((v.next : Int) + 1 = ((v.next + 1 : Nat) : Int)) = True := eq_true (by omega)
  refine ac42 wpay_T_ok (Nat.le_of_ble_eq_true rfl) ?_
  simp -implicitDefEqProofs only [cd_t, cd_f, cd_dec, cd_not, cd_and, cd_or, grd_tt, grd_ff, grd_tf, grd_ft, grd_dt, grd_df, grd_nt, grd_nf, go_sem, Go.Proofs.Tryz.f42, hck, en, en2, eq_true hsm, false_implies, true_implies, not_false_eq_true, not_true_eq_false, reduceIte, reduceCtorEq, Nat.reduceEqDiff, Nat.reduceAdd, Nat.reduceLeDiff, Nat.reduceSub, Nat.reduceMul, Nat.reduceLT, Nat.reduceShiftRight, Nat.reduceMod, Int.reduceLE, Int.reduceLT, Int.reduceToNat, decide_true, Bool.and_self, Bool.true_and, Ob.map.injEq, Ob.it.injEq, List.cons.injEq, true_and, and_true]
  refine ADraw.run us12_13 wpay_T_ok follows_mixed (by kernel_rfl) (by kernel_rfl) ?_
  simp -implicitDefEqProofs only [cd_t, cd_f, cd_dec, cd_not, cd_and, cd_or, grd_tt, grd_ff, grd_tf, grd_ft, grd_dt, grd_df, grd_nt, grd_nf, go_sem, reduceIte, reduceCtorEq, Nat.reduceEqDiff, Nat.reduceAdd, Nat.reduceLeDiff, Nat.reduceSub, Nat.reduceMul, Nat.reduceLT, Nat.reduceShiftRight, Nat.reduceMod, Int.reduceLE, Int.reduceLT, Int.reduceToNat, decide_true, Bool.and_self, Bool.true_and, Ob.map.injEq, Ob.it.injEq, List.cons.injEq, true_and, and_true]
  rw [hfin]
  exact ⟨⟨rfl, rfl, rfl, rfl, rfl, rfl, by dsimp only; omega, rfl⟩, rfl, rfl⟩
@[go_sem] def wpay_p (v : Wl) (hash : Nat) (n : Nat) : Prop := (v.f.next ≤ 18446744073709551615)
def sp_wpay : List D → Option (Prop × D × Fr)
  | [.agg [.c (.sl z2), .c (.sl z3), .c (.sl z4), .c (.sl z5), .c (.int .u64 z7), .c (.sl z8), .c (.int .u64 z9), .c (.int .u64 z10)], .c (.int .u64 z11), .c (.int .u64 z12)] => some (z2 = chs (dchs z2) ∧ z3 = wts (dwts z3) ∧ z4 = ivs (divs z4) ∧ z5 = pys (dpys z5) ∧ z7 = (z7.toNat : Int) ∧ z8 = evs (devs z8) ∧ z9 = (z9.toNat : Int) ∧ z10 = (z10.toNat : Int) ∧ z11 = (z11.toNat : Int) ∧ z12 = (z12.toNat : Int) ∧ wpay_p (⟨(dchs z2), (dwts z3), (divs z4), (dpys z5), (⟨z7.toNat, (devs z8)⟩ : Fd), z9.toNat, z10.toNat⟩ : Wl) z11.toNat z12.toNat, wpay_r (⟨(dchs z2), (dwts z3), (divs z4), (dpys z5), (⟨z7.toNat, (devs z8)⟩ : Fd), z9.toNat, z10.toNat⟩ : Wl) z11.toNat z12.toNat, [])
  | _ => none
attribute [go_sem] sp_wpay
theorem sp_wpay_ok : ∀ rs p r fr, sp_wpay rs = some (p, r, fr) → p → FnOk Tryz.prog 12 rs r fr := by
  intro rs p r fr h hp
  unfold sp_wpay at h
  split at h <;> cases h
  obtain ⟨hc0, hc1, hc2, hc3, hc4, hc5, hc6, hc7, hc8, hc9, hp⟩ := hp
  rename_i z2 z3 z4 z5 z7 z8 z9 z10 z11 z12
  obtain ⟨z2, rfl⟩ : ∃ m, z2 = chs m := ⟨_, hc0⟩
  obtain ⟨z3, rfl⟩ : ∃ m, z3 = wts m := ⟨_, hc1⟩
  obtain ⟨z4, rfl⟩ : ∃ m, z4 = ivs m := ⟨_, hc2⟩
  obtain ⟨z5, rfl⟩ : ∃ m, z5 = pys m := ⟨_, hc3⟩
  obtain ⟨z7, rfl⟩ : ∃ m : Nat, z7 = m := ⟨_, hc4⟩
  obtain ⟨z8, rfl⟩ : ∃ m, z8 = evs m := ⟨_, hc5⟩
  obtain ⟨z9, rfl⟩ : ∃ m : Nat, z9 = m := ⟨_, hc6⟩
  obtain ⟨z10, rfl⟩ : ∃ m : Nat, z10 = m := ⟨_, hc7⟩
  obtain ⟨z11, rfl⟩ : ∃ m : Nat, z11 = m := ⟨_, hc8⟩
  obtain ⟨z12, rfl⟩ : ∃ m : Nat, z12 = m := ⟨_, hc9⟩
  simp only [Int.toNat_natCast, dchs_chs, devs_evs, divs_ivs, dpys_pys, dwts_wts]
  simp only [Int.toNat_natCast, dchs_chs, devs_evs, divs_ivs, dpys_pys, dwts_wts, wpay_p] at hp
  exact wpay_ok ⟨z2, z3, z4, z5, ⟨z7, z8⟩, z9, z10⟩ z11 z12 hp
end Dm
namespace Dm
open Go Go.Proofs Go.IntWalk
structure It where
  hash : Nat
  n : Nat
deriving DecidableEq, Inhabited
@[go_sem] def It.enc (e : It) : List C := [.int .u64 (e.hash : Int), .int .u64 (e.n : Int)]
def It.dec : List C → It
  | [.int .u64 z2, .int .u64 z3] => (⟨z2.toNat, z3.toNat⟩ : It)
  | _ => default
def its (l : List It) : List (List C) := l.map It.enc
def dits (l : List (List C)) : List It := l.map It.dec
@[simp, go_sem] theorem its_length (l : List It) : (its l).length = l.length := by simp [its]
@[go_sem] theorem its_get (l : List It) (i : Nat) : (its l).getD i [.int .u64 0, .int .u64 0] = (l.getD i default).enc := by
  simp only [its, List.getD_eq_getElem?_getD, List.getElem?_map]
  cases l[i]? <;> rfl
@[go_sem] theorem its_wide (l : List It) : Wide 2 (its l) = True := by
  simp [Wide, its, It.enc]
theorem It.dec_enc (e : It) : It.dec e.enc = e := by
  simp [It.enc, It.dec]
@[go_sem] theorem dits_its (l : List It) : dits (its l) = l := by
  simp only [dits, its, List.map_map]
  exact List.map_id'' (fun e => It.dec_enc e) l
@[go_sem] theorem its_app (a b : List It) : its a ++ its b = its (a ++ b) := by simp [its]
@[go_sem] theorem its_drop (l : List It) (k : Nat) : (its l).drop k = its (l.drop k) := by simp [its]
@[go_sem] theorem its_take (l : List It) (k : Nat) : (its l).take k = its (l.take k) := by simp [its]
@[go_sem] theorem its_one (z4 : Int) (z5 : Int) (hz4 : 0 ≤ z4) (hz5 : 0 ≤ z5) : [[C.int .u64 z4, C.int .u64 z5]] = its [⟨z4.toNat, z5.toNat⟩] := by simp [its, It.enc, Int.toNat_of_nonneg hz4, Int.toNat_of_nonneg hz5]
@[go_sem] theorem its_set (l : List It) (i : Nat) (z4 : Int) (z5 : Int) (hz4 : 0 ≤ z4) (hz5 : 0 ≤ z5) : (its l).set i [C.int .u64 z4, C.int .u64 z5] = its (l.set i ⟨z4.toNat, z5.toNat⟩) := by simp [its, List.map_set, It.enc, Int.toNat_of_nonneg hz4, Int.toNat_of_nonneg hz5]
@[go_sem] theorem its_cons (l : List It) (z4 : Int) (z5 : Int) (hz4 : 0 ≤ z4) (hz5 : 0 ≤ z5) : [C.int .u64 z4, C.int .u64 z5] :: its l = its (⟨z4.toNat, z5.toNat⟩ :: l) := by simp [its, It.enc, Int.toNat_of_nonneg hz4, Int.toNat_of_nonneg hz5]
@[go_sem] theorem its_flat (l : List It) : flatE (its l) = True := eq_true fun x hx c hc => by
  obtain ⟨e, _, rfl⟩ := List.mem_map.1 hx
  simp only [It.enc, List.mem_cons, List.not_mem_nil, or_false] at hc
  rcases hc with rfl | rfl <;> rfl
@[go_sem] theorem It.eta {e : It} : (⟨e.hash, e.n⟩ : It) = e := rfl
@[go_sem] theorem It.eqD {a b : It} : eqD Tryz.prog 44 [D.c (.int .u64 (a.hash : Int)), D.c (.int .u64 (a.n : Int))] [D.c (.int .u64 (b.hash : Int)), D.c (.int .u64 (b.n : Int))] = some (decide (a = b)) := by
  cases a; cases b
  simp only [Dm.eqD, eqOf_44, eqCells, eqC, List.getElem?_cons_zero, List.getElem?_cons_succ, if_true, Option.some.injEq, It.mk.injEq]
  rw [Bool.eq_iff_iff]
  simp [Int.ofNat_inj]
def okIt (x : It) : Prop := x.n ≠ 0 ∧ x.n ≤ MM
instance (x : It) : Decidable (okIt x) := by unfold okIt; infer_instance
def totI (l : List It) : Nat := (l.map It.n).sum
def sumB (l : List It) : Nat × Int := if l.length ≠ 0 ∧ l.length ≤ 16 ∧ ∀ x ∈ l, okIt x then (if totI l ≤ MM then (totI l, 0) else (0, 8)) else (0, 1)
theorem totI_succ {l : List It} {i : Nat} (h : i < l.length) : totI (l.take (i + 1)) = totI (l.take i) + (l.getD i default).n := by
  rw [take_succ h, totI, List.map_append, List.sum_append]; simp [totI]
theorem totI_le {l : List It} {i : Nat} : totI (l.take i) ≤ totI l := by
  conv => rhs; rw [← List.take_append_drop i l, totI, List.map_append, List.sum_append]
  exact Nat.le_add_right _ _
@[go_sem] def bsum_r (l : List It) : D := .tup [.int .u64 ((sumB l).1 : Int), .int .i64 (sumB l).2]
@[go_sem] abbrev n_bsum : FuncId := 11
@[go_sem] def bsum_T : Tab := [(29, sp_moncheck), (31, sp_monadd)]
theorem bsum_T_ok : TabOk Tryz.prog bsum_T := (TabOk.cons sp_moncheck_ok (TabOk.cons sp_monadd_ok TabOk.nil))
set_option maxRecDepth 8000 in
set_option maxHeartbeats 1000000 in
theorem bsum_ok (l : List It)  : PureFn Tryz.prog 11 [.sl (its l)] (bsum_r l) := by
  refine .of (ac11 bsum_T_ok (Nat.le_of_ble_eq_true rfl) ?_)
  simp -implicitDefEqProofs only [cd_t, cd_f, cd_dec, cd_not, cd_and, cd_or, grd_tt, grd_ff, grd_tf, grd_ft, grd_dt, grd_df, grd_nt, grd_nf, go_sem, Go.Proofs.Tryz.f11, reduceIte, reduceCtorEq, Nat.reduceEqDiff, Nat.reduceAdd, Nat.reduceLeDiff, Nat.reduceSub, Nat.reduceMul, Nat.reduceLT, Nat.reduceShiftRight, Nat.reduceMod, Int.reduceLE, Int.reduceLT, Int.reduceToNat, decide_true, Bool.and_self, Bool.true_and, Ob.map.injEq, Ob.it.injEq, List.cons.injEq, true_and, and_true]
  have hbad : ¬ (l.length ≠ 0 ∧ l.length ≤ 16 ∧ ∀ x ∈ l, okIt x) → 0 = ((sumB l).1 : Int) ∧ 1 = (sumB l).2 := fun h => by rw [sumB, if_neg h]; exact ⟨rfl, rfl⟩
  refine fun _ => ⟨fun h1 _ => ⟨fun h2 => ?_, fun h2 => hbad fun h => by omega⟩, fun h1 => hbad fun h => by omega⟩
  refine ac30 bsum_T_ok (Nat.le_of_ble_eq_true rfl) ?_
  simp -implicitDefEqProofs only [cd_t, cd_f, cd_dec, cd_not, cd_and, cd_or, grd_tt, grd_ff, grd_tf, grd_ft, grd_dt, grd_df, grd_nt, grd_nf, go_sem, Go.Proofs.Tryz.f30, reduceIte, reduceCtorEq, Nat.reduceEqDiff, Nat.reduceAdd, Nat.reduceLeDiff, Nat.reduceSub, Nat.reduceMul, Nat.reduceLT, Nat.reduceShiftRight, Nat.reduceMod, Int.reduceLE, Int.reduceLT, Int.reduceToNat, decide_true, Bool.and_self, Bool.true_and, Ob.map.injEq, Ob.it.injEq, List.cons.injEq, true_and, and_true]
  refine ac71 bsum_T_ok (Nat.le_of_ble_eq_true rfl) ?_
  simp -implicitDefEqProofs only [cd_t, cd_f, cd_dec, cd_not, cd_and, cd_or, grd_tt, grd_ff, grd_tf, grd_ft, grd_dt, grd_df, grd_nt, grd_nf, go_sem, Go.Proofs.Tryz.f71, reduceIte, reduceCtorEq, Nat.reduceEqDiff, Nat.reduceAdd, Nat.reduceLeDiff, Nat.reduceSub, Nat.reduceMul, Nat.reduceLT, Nat.reduceShiftRight, Nat.reduceMod, Int.reduceLE, Int.reduceLT, Int.reduceToNat, decide_true, Bool.and_self, Bool.true_and, Ob.map.injEq, Ob.it.injEq, List.cons.injEq, true_and, and_true]
  refine fun _ => SWp.loop (ι := { i : Nat // i ≤ l.length ∧ ∀ j, j < i → okIt (l.getD j default) }) (fun i => ⟨[(0, .sl (its l)), (1, .fn (.func 28) [] []), (7, .int .i64 l.length), (8, .int .i64 i.1)], [], 0⟩) (fun i => l.length - i.1) ⟨0, by simp⟩ ?_ ?_
  · simp [go_sem]
  · rintro ⟨i, hi, hall⟩
    refine awp_sound bsum_T_ok.toS lv71 _ _ _ rfl ?_
    simp -implicitDefEqProofs only [cd_t, cd_f, cd_dec, cd_not, cd_and, cd_or, grd_tt, grd_ff, grd_tf, grd_ft, grd_dt, grd_df, grd_nt, grd_nf, go_sem, reduceIte, reduceCtorEq, Nat.reduceEqDiff, Nat.reduceAdd, Nat.reduceLeDiff, Nat.reduceSub, Nat.reduceMul, Nat.reduceLT, Nat.reduceShiftRight, Nat.reduceMod, Int.reduceLE, Int.reduceLT, Int.reduceToNat, decide_true, Bool.and_self, Bool.true_and, Ob.map.injEq, Ob.it.injEq, List.cons.injEq, true_and, and_true]
    refine ⟨fun h4 => ⟨by omega, ?_⟩, fun h4 => ?_⟩
    · skip
      refine ac28 bsum_T_ok (Nat.le_of_ble_eq_true rfl) ?_
      simp -implicitDefEqProofs only [cd_t, cd_f, cd_dec, cd_not, cd_and, cd_or, grd_tt, grd_ff, grd_tf, grd_ft, grd_dt, grd_df, grd_nt, grd_nf, go_sem, Go.Proofs.Tryz.f28, reduceIte, reduceCtorEq, Nat.reduceEqDiff, Nat.reduceAdd, Nat.reduceLeDiff, Nat.reduceSub, Nat.reduceMul, Nat.reduceLT, Nat.reduceShiftRight, Nat.reduceMod, Int.reduceLE, Int.reduceLT, Int.reduceToNat, decide_true, Bool.and_self, Bool.true_and, Ob.map.injEq, Ob.it.injEq, List.cons.injEq, true_and, and_true]
      have hi' : i < l.length := by omega
      have hin := mem_getD.2 ⟨i, hi', rfl⟩
      rw [mon1_0]
      refine ⟨fun h5 => ⟨fun h6 => ⟨⟨i + 1, by omega, fun j hj => ?_⟩, by dsimp only; omega, i64_in _ (by omega)⟩, fun h6 => hbad fun h => h6 (h.2.2 _ hin).2⟩, fun h5 => hbad fun h => (h.2.2 _ hin).1 (by omega)⟩
      by_cases hji : j = i
      · subst hji; exact ⟨by omega, h6⟩
      · exact hall j (by omega)
    · have hi' : i = l.length := by omega
      subst hi'
      have hok : ∀ x ∈ l, okIt x := fun x hx => by obtain ⟨j, hj, rfl⟩ := mem_getD.1 hx; exact hall j hj
      have hsum : sumB l = if totI l ≤ MM then (totI l, 0) else (0, 8) := by rw [sumB, if_pos ⟨by omega, by omega, hok⟩]
      refine ⟨fun h => h.elim, fun _ => SWp.loop (ι := { i : Nat // i ≤ l.length ∧ totI (l.take i) ≤ MM }) (fun i => ⟨[(2, .int .u64 (totI (l.take i.1) : Nat)), (20, .sl (its l)), (21, .int .i64 l.length), (22, .int .i64 i.1)], [], 0⟩) (fun i => l.length - i.1) ⟨0, by simp [totI]⟩ ?_ ?_⟩
      · simp [go_sem, totI]
      · rintro ⟨i, hi, hs⟩
        refine awp_sound bsum_T_ok.toS lv11 _ _ _ rfl ?_
        simp -implicitDefEqProofs only [cd_t, cd_f, cd_dec, cd_not, cd_and, cd_or, grd_tt, grd_ff, grd_tf, grd_ft, grd_dt, grd_df, grd_nt, grd_nf, go_sem, reduceIte, reduceCtorEq, Nat.reduceEqDiff, Nat.reduceAdd, Nat.reduceLeDiff, Nat.reduceSub, Nat.reduceMul, Nat.reduceLT, Nat.reduceShiftRight, Nat.reduceMod, Int.reduceLE, Int.reduceLT, Int.reduceToNat, decide_true, Bool.and_self, Bool.true_and, Ob.map.injEq, Ob.it.injEq, List.cons.injEq, true_and, and_true]
        unfold MM at *
        refine ⟨fun h5 => ⟨by omega, fun h6 => ?_, fun h6 => ?_⟩, fun h5 => ?_⟩
        · have hi' : i < l.length := by omega
          have h7 := addM_1 h6
          have h8 := (addM_0.1 h6).2
          simp only [List.sum_cons, List.sum_nil, Nat.add_zero] at h7 h8
          refine ⟨⟨i + 1, hi', by rw [totI_succ hi']; exact h8⟩, by dsimp only; omega, ?_, i64_in _ (by omega)⟩
          rw [h7]; dsimp only; rw [totI_succ hi']
        · have hi' : i < l.length := by omega
          have hn := (hok _ (mem_getD.2 ⟨i, hi', rfl⟩)).2
          unfold MM at hn
          have hle := totI_le (l := l) (i := i + 1)
          rw [totI_succ hi'] at hle
          have h7 : addM [totI (l.take i), (l.getD i default).n] = (0, 8) := by
            have hm : monS [totI (l.take i), (l.getD i default).n] = 0 := by rw [mon2, if_pos ⟨hs, hn⟩]
            have hns : ¬ [totI (l.take i), (l.getD i default).n].sum ≤ 4611686018427387904 := fun h => h6 (addM_0.2 ⟨fun x hx => by
              simp only [List.mem_cons, List.not_mem_nil, or_false] at hx
              rcases hx with rfl | rfl
              · exact hs
              · exact hn, h⟩)
            rw [addM, if_pos hm, if_neg hns]
          have h8 : ¬ totI l ≤ 4611686018427387904 := fun h => h6 (addM_0.2 ⟨fun x hx => by
              simp only [List.mem_cons, List.not_mem_nil, or_false] at hx
              rcases hx with rfl | rfl
              · exact hs
              · exact hn, by simp only [List.sum_cons, List.sum_nil, Nat.add_zero]; omega⟩)
          rw [h7, hsum, if_neg h8]; exact ⟨rfl, rfl⟩
        · have hi' : i = l.length := by omega
          subst hi'
          rw [List.take_length] at hs ⊢
          rw [hsum, if_pos hs]; exact ⟨rfl, rfl⟩
def sp_bsum : List D → Option (Prop × D × Fr)
  | [.c (.sl z6)] => some (z6 = its (dits z6), bsum_r (dits z6), [])
  | _ => none
attribute [go_sem] sp_bsum
theorem sp_bsum_ok : ∀ rs p r fr, sp_bsum rs = some (p, r, fr) → p → FnOk Tryz.prog 11 rs r fr := by
  intro rs p r fr h hp
  unfold sp_bsum at h
  split at h <;> cases h
  have hc0 := hp
  rename_i z6
  obtain ⟨z6, rfl⟩ : ∃ m, z6 = its m := ⟨_, hc0⟩
  simp only [dits_its]
  exact bsum_ok z6
def payB : Wl → List It → Wl × List Nat × Nat × Int
  | w, [] => (w, [], 0, 0)
  | w, x :: l => if (payW w x.hash x.n).2.2 = 0 then (let r := payB (payW w x.hash x.n).1 l; if r.2.2.2 = 0 then (r.1, (payW w x.hash x.n).2.1 :: r.2.1, 0, 0) else (zeroW, [], r.2.2.1 + 1, r.2.2.2)) else (zeroW, [], 0, (payW w x.hash x.n).2.2)
def batW (w : Wl) (l : List It) : Wl × List Nat × Nat × Int := if (sumB l).2 = 0 then payB w l else (zeroW, [], 0, (sumB l).2)
def seqW : Wl → List It → Wl
  | w, [] => w
  | w, x :: l => seqW (payW w x.hash x.n).1 l
def seqI : Wl → List It → List Nat
  | _, [] => []
  | w, x :: l => (payW w x.hash x.n).2.1 :: seqI (payW w x.hash x.n).1 l
def seqOk : Wl → List It → Prop
  | _, [] => True
  | w, x :: l => (payW w x.hash x.n).2.2 = 0 ∧ seqOk (payW w x.hash x.n).1 l
theorem seqI_len : ∀ {l : List It} {w : Wl}, (seqI w l).length = l.length
  | [], _ => rfl
  | x :: l, w => by rw [seqI, List.length_cons, seqI_len, List.length_cons]
theorem seq_app : ∀ {l : List It} {w : Wl} {m : List It}, seqW w (l ++ m) = seqW (seqW w l) m ∧ seqI w (l ++ m) = seqI w l ++ seqI (seqW w l) m ∧ (seqOk w (l ++ m) ↔ seqOk w l ∧ seqOk (seqW w l) m)
  | [], w, m => ⟨rfl, rfl, by simp [seqOk, seqW]⟩
  | x :: l, w, m => by
    obtain ⟨h1, h2, h3⟩ := seq_app (l := l) (w := (payW w x.hash x.n).1) (m := m)
    refine ⟨h1, ?_, ?_⟩
    · show _ :: seqI _ (l ++ m) = _
      rw [h2]; rfl
    · show _ ∧ seqOk _ (l ++ m) ↔ _
      rw [h3]
      show _ ↔ (_ ∧ seqOk _ l) ∧ _
      rw [and_assoc]; rfl
theorem payB_ok : ∀ {l : List It} {w : Wl}, seqOk w l → payB w l = (seqW w l, seqI w l, 0, 0)
  | [], _, _ => rfl
  | x :: l, w, h => by
    rw [payB, if_pos h.1]
    simp only [payB_ok h.2, if_true]; rfl
theorem payB_at : ∀ {l : List It} {w : Wl} {i : Nat} {x : It}, l[i]? = some x → seqOk w (l.take i) → ¬ (payW (seqW w (l.take i)) x.hash x.n).2.2 = 0 → payB w l = (zeroW, [], i, (payW (seqW w (l.take i)) x.hash x.n).2.2)
  | [], _, _, _, h, _, _ => by simp at h
  | y :: l, w, 0, x, h, _, he => by
    simp only [List.getElem?_cons_zero, Option.some.injEq] at h
    subst h
    rw [payB, if_neg (show ¬ (payW w y.hash y.n).2.2 = 0 from he)]; rfl
  | y :: l, w, i + 1, x, h, ho, he => by
    simp only [List.getElem?_cons_succ] at h
    rw [List.take_succ_cons] at ho he
    have := payB_at h ho.2 he
    rw [payB, if_pos ho.1]
    simp only [this]
    rw [if_neg (show ¬ (payW (seqW (payW w y.hash y.n).1 (l.take i)) x.hash x.n).2.2 = 0 from he)]; rfl
theorem payE_okW {v : Wl} {hash n : Nat} (h : payE v hash n = 0) : okW v ∧ n ≠ 0 ∧ n ≤ MM ∧ (firstL v.c v.w n).2 = 0 ∧ v.next ≠ MM ∧ (payP v hash n).2 = 0 ∧ (payC v n).2 = 0 ∧ (payF v n).2.2 = 0 := by
  unfold payE at h
  split at h
  · cases h
  rename_i h1
  split at h
  · cases h
  rename_i h2
  split at h
  · cases h
  rename_i h3
  split at h
  · rename_i h4; exact absurd h h4
  rename_i h4
  split at h
  · rename_i h5; exact absurd h h5
  rename_i h5
  refine ⟨Decidable.byContradiction fun h => h1 (.inl h), fun h => h1 (.inr (.inl h)), Decidable.byContradiction fun h => h1 (.inr (.inr h)), Decidable.byContradiction h2, h3, Decidable.byContradiction h4, Decidable.byContradiction h5, h⟩
theorem payW_err {v : Wl} {hash n : Nat} : (payW v hash n).2.2 = payE v hash n := by
  unfold payW
  split
  · rename_i h; exact h.symm
  · rfl
theorem payW_fnext {v : Wl} {hash n : Nat} (h : (payW v hash n).2.2 = 0) : (payW v hash n).1.f.next ≤ 18446744073709551615 := by
  rw [payW_err] at h
  have h1 := (payE_okW h).1.2.2.1
  have h2 := h1.2.1
  have h3 := (payE_okW h).2.2.2.2.2.2.2
  rw [payW, if_pos h]
  show (payF v n).1.next ≤ _
  unfold MM at h2
  unfold payF addF at h3 ⊢
  split
  · split
    · dsimp only; omega
    · dsimp only; omega
  · dsimp only; omega
theorem seq_fnext : ∀ {l : List It} {w : Wl}, w.f.next ≤ 18446744073709551615 → seqOk w l → (seqW w l).f.next ≤ 18446744073709551615
  | [], _, h, _ => h
  | x :: l, w, _, h => seq_fnext (l := l) (payW_fnext h.1) h.2
@[go_sem] def bpayf_r (w : Wl) (l : List It) : D := .tup [.agg [.sl (chs (batW w l).1.c), .sl (wts (batW w l).1.w), .sl (ivs (batW w l).1.i), .sl (pys (batW w l).1.p), .int .u64 (batW w l).1.f.next, .sl (evs (batW w l).1.f.l), .int .u64 (batW w l).1.next, .int .u64 (batW w l).1.tick], .vec 0 (batW w l).2.1.length, .int .i64 (batW w l).2.2.1, .int .i64 (batW w l).2.2.2]
@[go_sem] def bpayf_fr (w : Wl) (l : List It) : Fr := [(1, 26, true, u64s (batW w l).2.1)]
@[go_sem] abbrev n_bpayf : FuncId := 10
@[go_sem] def bpayf_T : Tab := [(11, sp_bsum), (12, sp_wpay)]
theorem bpayf_T_ok : TabOk Tryz.prog bpayf_T := (TabOk.cons sp_bsum_ok (TabOk.cons sp_wpay_ok TabOk.nil))
set_option maxRecDepth 8000 in
set_option maxHeartbeats 1000000 in
theorem bpayf_ok (w : Wl) (l : List It) (h : w.f.next ≤ 18446744073709551615) : FreshFn Tryz.prog 10 [.agg [.sl (chs w.c), .sl (wts w.w), .sl (ivs w.i), .sl (pys w.p), .c (.int .u64 (w.f.next : Int)), .sl (evs w.f.l), .c (.int .u64 (w.next : Int)), .c (.int .u64 (w.tick : Int))], .sl (its l)] (bpayf_r w l) (bpayf_fr w l) := by
  refine .of (ac10 bpayf_T_ok (Nat.le_of_ble_eq_true rfl) ?_)
  simp -implicitDefEqProofs only [cd_t, cd_f, cd_dec, cd_not, cd_and, cd_or, grd_tt, grd_ff, grd_tf, grd_ft, grd_dt, grd_df, grd_nt, grd_nf, go_sem, Go.Proofs.Tryz.f10, reduceIte, reduceCtorEq, Nat.reduceEqDiff, Nat.reduceAdd, Nat.reduceLeDiff, Nat.reduceSub, Nat.reduceMul, Nat.reduceLT, Nat.reduceShiftRight, Nat.reduceMod, Int.reduceLE, Int.reduceLT, Int.reduceToNat, decide_true, Bool.and_self, Bool.true_and, Ob.map.injEq, Ob.it.injEq, List.cons.injEq, true_and, and_true]
  refine ⟨fun h1 _ => ?_, fun h1 => ?_⟩
  rotate_left 1
  · rw [batW, if_neg h1]
    exact ⟨[none], by simp [go_sem, u64s], ⟨rfl, rfl, rfl, rfl, rfl, rfl, rfl, rfl⟩, ⟨rfl, rfl⟩, rfl, rfl⟩
  have hs : sumB l = sumB l := rfl
  have hl : l.length ≤ 16 := by
    unfold sumB at h1
    split at h1
    · rename_i h; exact h.2.1
    · cases h1
  have hb : batW w l = payB w l := by rw [batW, if_pos h1]
  rw [hb]
  refine ⟨by omega, fun _ => SWp.loop (ι := { i : Nat // i ≤ l.length ∧ seqOk w (l.take i) }) (fun i => ⟨[(2, .ref 0 0), (4, .ref 1 0), (10, .vec 2 l.length), (28, .sl (its l)), (29, .int .i64 l.length), (30, .int .i64 i.1)],
    [(2, .vec true 1 26 (u64s (seqI w (l.take i.1) ++ List.replicate (l.length - i.1) 0))), (1, .box [.nil, .nil, .nil, .nil, .c (.int .u64 0), .nil, .c (.int .u64 0), .c (.int .u64 0)]),
      (0, .box [.sl (chs (seqW w (l.take i.1)).c), .sl (wts (seqW w (l.take i.1)).w), .sl (ivs (seqW w (l.take i.1)).i), .sl (pys (seqW w (l.take i.1)).p), .int .u64 (seqW w (l.take i.1)).f.next, .sl (evs (seqW w (l.take i.1)).f.l), .int .u64 (seqW w (l.take i.1)).next, .int .u64 (seqW w (l.take i.1)).tick])], 3⟩) (fun i => l.length - i.1) ⟨0, by omega, trivial⟩ ?_ ?_⟩
  · simp [go_sem, seqW, seqI, u64s]
  · rintro ⟨i, hi, hok⟩
    have hfn := seq_fnext h hok
    refine awp_sound bpayf_T_ok.toS lv10 _ _ _ rfl ?_
    simp -implicitDefEqProofs only [cd_t, cd_f, cd_dec, cd_not, cd_and, cd_or, grd_tt, grd_ff, grd_tf, grd_ft, grd_dt, grd_df, grd_nt, grd_nf, go_sem, reduceIte, reduceCtorEq, Nat.reduceEqDiff, Nat.reduceAdd, Nat.reduceLeDiff, Nat.reduceSub, Nat.reduceMul, Nat.reduceLT, Nat.reduceShiftRight, Nat.reduceMod, Int.reduceLE, Int.reduceLT, Int.reduceToNat, decide_true, Bool.and_self, Bool.true_and, Ob.map.injEq, Ob.it.injEq, List.cons.injEq, true_and, and_true]
    refine ⟨fun h2 => ⟨by omega, hfn, fun h3 => ?_, fun h3 => ?_⟩, fun h2 => ?_⟩
    · have hi' : i < l.length := by omega
      obtain ⟨a1, a2, a3⟩ := seq_app (l := l.take i) (w := w) (m := [l.getD i default])
      rw [← take_succ hi'] at a1 a2 a3
      have hsl : (seqI w (l.take i)).length = i := by rw [seqI_len, List.length_take]; omega
      refine ⟨by omega, ⟨by rw [hsl, List.length_replicate]; omega, hi'⟩, ⟨i + 1, hi', a3.2 ⟨hok, h3, trivial⟩⟩, by dsimp only; omega, i64_in _ (by omega), ?_, ?_⟩
      · dsimp only
        rw [a2]
        congr 2
        rw [List.set_append_right _ _ (by omega), hsl, Nat.sub_self, show l.length - i = (l.length - (i + 1)) + 1 by omega, List.replicate_succ, List.set_cons_zero, List.append_assoc]
        rfl
      · dsimp only
        rw [a1]
        exact ⟨rfl, rfl, rfl, rfl, rfl, rfl, rfl, rfl⟩
    · have hi' : i < l.length := by omega
      have hx : l[i]? = some (l.getD i default) := by rw [getD_lt hi']; exact List.getElem?_eq_getElem hi'
      rw [payB_at hx hok h3]
      exact ⟨[none], by simp [go_sem, u64s], ⟨rfl, rfl, rfl, rfl, rfl, rfl, rfl, rfl⟩, ⟨rfl, rfl⟩, rfl, rfl⟩
    · have hi' : i = l.length := by omega
      subst hi'
      rw [List.take_length] at hok ⊢
      rw [payB_ok hok, Nat.sub_self, List.replicate_zero, List.append_nil]
      exact ⟨[some 2], by simp [go_sem], ⟨rfl, rfl, rfl, rfl, rfl, rfl, rfl, rfl⟩, ⟨rfl, seqI_len.symm⟩, rfl, rfl⟩
@[go_sem] def bpayf_p (w : Wl) (l : List It) : Prop := (w.f.next ≤ 18446744073709551615)
def sp_bpayf : List D → Option (Prop × D × Fr)
  | [.agg [.c (.sl z8), .c (.sl z9), .c (.sl z10), .c (.sl z11), .c (.int .u64 z13), .c (.sl z14), .c (.int .u64 z15), .c (.int .u64 z16)], .c (.sl z17)] => some (z8 = chs (dchs z8) ∧ z9 = wts (dwts z9) ∧ z10 = ivs (divs z10) ∧ z11 = pys (dpys z11) ∧ z13 = (z13.toNat : Int) ∧ z14 = evs (devs z14) ∧ z15 = (z15.toNat : Int) ∧ z16 = (z16.toNat : Int) ∧ z17 = its (dits z17) ∧ bpayf_p (⟨(dchs z8), (dwts z9), (divs z10), (dpys z11), (⟨z13.toNat, (devs z14)⟩ : Fd), z15.toNat, z16.toNat⟩ : Wl) (dits z17), bpayf_r (⟨(dchs z8), (dwts z9), (divs z10), (dpys z11), (⟨z13.toNat, (devs z14)⟩ : Fd), z15.toNat, z16.toNat⟩ : Wl) (dits z17), bpayf_fr (⟨(dchs z8), (dwts z9), (divs z10), (dpys z11), (⟨z13.toNat, (devs z14)⟩ : Fd), z15.toNat, z16.toNat⟩ : Wl) (dits z17))
  | _ => none
attribute [go_sem] sp_bpayf
theorem sp_bpayf_ok : ∀ rs p r fr, sp_bpayf rs = some (p, r, fr) → p → FnOk Tryz.prog 10 rs r fr := by
  intro rs p r fr h hp
  unfold sp_bpayf at h
  split at h <;> cases h
  obtain ⟨hc0, hc1, hc2, hc3, hc4, hc5, hc6, hc7, hc8, hp⟩ := hp
  rename_i z8 z9 z10 z11 z13 z14 z15 z16 z17
  obtain ⟨z8, rfl⟩ : ∃ m, z8 = chs m := ⟨_, hc0⟩
  obtain ⟨z9, rfl⟩ : ∃ m, z9 = wts m := ⟨_, hc1⟩
  obtain ⟨z10, rfl⟩ : ∃ m, z10 = ivs m := ⟨_, hc2⟩
  obtain ⟨z11, rfl⟩ : ∃ m, z11 = pys m := ⟨_, hc3⟩
  obtain ⟨z13, rfl⟩ : ∃ m : Nat, z13 = m := ⟨_, hc4⟩
  obtain ⟨z14, rfl⟩ : ∃ m, z14 = evs m := ⟨_, hc5⟩
  obtain ⟨z15, rfl⟩ : ∃ m : Nat, z15 = m := ⟨_, hc6⟩
  obtain ⟨z16, rfl⟩ : ∃ m : Nat, z16 = m := ⟨_, hc7⟩
  obtain ⟨z17, rfl⟩ : ∃ m, z17 = its m := ⟨_, hc8⟩
  simp only [Int.toNat_natCast, dchs_chs, devs_evs, dits_its, divs_ivs, dpys_pys, dwts_wts]
  simp only [Int.toNat_natCast, dchs_chs, devs_evs, dits_its, divs_ivs, dpys_pys, dwts_wts, bpayf_p] at hp
  exact (show FnOk _ _ _ _ _ from And.intro rfl (bpayf_ok ⟨z8, z9, z10, z11, ⟨z13, z14⟩, z15, z16⟩ z17 hp))
@[go_sem] def bpay_r (w : Wl) (l : List It) : D := .tup [.agg [.sl (chs (batW w l).1.c), .sl (wts (batW w l).1.w), .sl (ivs (batW w l).1.i), .sl (pys (batW w l).1.p), .int .u64 (batW w l).1.f.next, .sl (evs (batW w l).1.f.l), .int .u64 (batW w l).1.next, .int .u64 (batW w l).1.tick], .sl (u64s (batW w l).2.1), .int .i64 (batW w l).2.2.1, .int .i64 (batW w l).2.2.2]
@[go_sem] abbrev n_bpay : FuncId := 10
@[go_sem] def bpay_T : Tab := []
theorem bpay_T_ok : TabOk Tryz.prog bpay_T := TabOk.nil
set_option maxRecDepth 8000 in
set_option maxHeartbeats 1000000 in
theorem bpay_ok (w : Wl) (l : List It) (h : w.f.next ≤ 18446744073709551615) : PureFn Tryz.prog 10 [.agg [.sl (chs w.c), .sl (wts w.w), .sl (ivs w.i), .sl (pys w.p), .c (.int .u64 (w.f.next : Int)), .sl (evs w.f.l), .c (.int .u64 (w.next : Int)), .c (.int .u64 (w.tick : Int))], .sl (its l)] (bpay_r w l) := by
  refine FreshFn.toPure (bpayf_ok w l h) ?_
  simp [go_sem, pur3, pur2, pur1, pw, news, lk]
@[go_sem] def bpay_p (w : Wl) (l : List It) : Prop := (w.f.next ≤ 18446744073709551615)
def sp_bpay : List D → Option (Prop × D × Fr)
  | [.agg [.c (.sl z19), .c (.sl z20), .c (.sl z21), .c (.sl z22), .c (.int .u64 z24), .c (.sl z25), .c (.int .u64 z26), .c (.int .u64 z27)], .c (.sl z28)] => some (z19 = chs (dchs z19) ∧ z20 = wts (dwts z20) ∧ z21 = ivs (divs z21) ∧ z22 = pys (dpys z22) ∧ z24 = (z24.toNat : Int) ∧ z25 = evs (devs z25) ∧ z26 = (z26.toNat : Int) ∧ z27 = (z27.toNat : Int) ∧ z28 = its (dits z28) ∧ bpay_p (⟨(dchs z19), (dwts z20), (divs z21), (dpys z22), (⟨z24.toNat, (devs z25)⟩ : Fd), z26.toNat, z27.toNat⟩ : Wl) (dits z28), bpay_r (⟨(dchs z19), (dwts z20), (divs z21), (dpys z22), (⟨z24.toNat, (devs z25)⟩ : Fd), z26.toNat, z27.toNat⟩ : Wl) (dits z28), [])
  | _ => none
attribute [go_sem] sp_bpay
theorem sp_bpay_ok : ∀ rs p r fr, sp_bpay rs = some (p, r, fr) → p → FnOk Tryz.prog 10 rs r fr := by
  intro rs p r fr h hp
  unfold sp_bpay at h
  split at h <;> cases h
  obtain ⟨hc0, hc1, hc2, hc3, hc4, hc5, hc6, hc7, hc8, hp⟩ := hp
  rename_i z19 z20 z21 z22 z24 z25 z26 z27 z28
  obtain ⟨z19, rfl⟩ : ∃ m, z19 = chs m := ⟨_, hc0⟩
  obtain ⟨z20, rfl⟩ : ∃ m, z20 = wts m := ⟨_, hc1⟩
  obtain ⟨z21, rfl⟩ : ∃ m, z21 = ivs m := ⟨_, hc2⟩
  obtain ⟨z22, rfl⟩ : ∃ m, z22 = pys m := ⟨_, hc3⟩
  obtain ⟨z24, rfl⟩ : ∃ m : Nat, z24 = m := ⟨_, hc4⟩
  obtain ⟨z25, rfl⟩ : ∃ m, z25 = evs m := ⟨_, hc5⟩
  obtain ⟨z26, rfl⟩ : ∃ m : Nat, z26 = m := ⟨_, hc6⟩
  obtain ⟨z27, rfl⟩ : ∃ m : Nat, z27 = m := ⟨_, hc7⟩
  obtain ⟨z28, rfl⟩ : ∃ m, z28 = its m := ⟨_, hc8⟩
  simp only [Int.toNat_natCast, dchs_chs, devs_evs, dits_its, divs_ivs, dpys_pys, dwts_wts]
  simp only [Int.toNat_natCast, dchs_chs, devs_evs, dits_its, divs_ivs, dpys_pys, dwts_wts, bpay_p] at hp
  exact bpay_ok ⟨z19, z20, z21, z22, ⟨z24, z25⟩, z26, z27⟩ z28 hp
end Dm
namespace Dm
open Go Go.Proofs Go.IntWalk
def wopC (v : Wl) (c : Ch) : List Ch × Int := openL v.c c
def wopF (v : Wl) (c : Ch) : Fd × Nat × Int := addF v.f 6 c.id c.loc
def wopE (v : Wl) (c : Ch) : Int := if ¬ okW v then 1 else if (wopC v c).2 ≠ 0 then (wopC v c).2 else (wopF v c).2.2
def wopW (v : Wl) (c : Ch) : Wl × Int := if wopE v c = 0 then (⟨(wopC v c).1, v.w, v.i, v.p, (wopF v c).1, v.next, v.tick⟩, 0) else (zeroW, wopE v c)
theorem open_fine {l : List Ch} {c : Ch} (h : (openL l c).2 = 0) : okLd (openL l c).1 := by
  unfold openL at h ⊢
  split at h
  · cases h
  split at h
  · cases h
  split at h
  · cases h
  split at h
  · rename_i h1 h2 h3 h4
    rw [if_neg h1, if_neg h2, if_neg h3, if_pos h4]; exact h4
  · cases h
@[go_sem] def wopen_r (v : Wl) (c : Ch) : D := .tup [.agg [.sl (chs (wopW v c).1.c), .sl (wts (wopW v c).1.w), .sl (ivs (wopW v c).1.i), .sl (pys (wopW v c).1.p), .int .u64 (wopW v c).1.f.next, .sl (evs (wopW v c).1.f.l), .int .u64 (wopW v c).1.next, .int .u64 (wopW v c).1.tick], .int .i64 (wopW v c).2]
@[go_sem] abbrev n_wopen : FuncId := 25
@[go_sem] def wopen_T : Tab := [(14, sp_wcheck), (68, sp_lopen), (85, sp_fadd), (86, sp_wown)]
theorem wopen_T_ok : TabOk Tryz.prog wopen_T := (TabOk.cons sp_wcheck_ok (TabOk.cons sp_lopen_ok (TabOk.cons sp_fadd_ok (TabOk.cons sp_wown_ok TabOk.nil))))
set_option maxRecDepth 8000 in
set_option maxHeartbeats 1000000 in
theorem wopen_ok (v : Wl) (c : Ch) (h : v.f.next ≤ 18446744073709551615) : PureFn Tryz.prog 25 [.agg [.sl (chs v.c), .sl (wts v.w), .sl (ivs v.i), .sl (pys v.p), .c (.int .u64 (v.f.next : Int)), .sl (evs v.f.l), .c (.int .u64 (v.next : Int)), .c (.int .u64 (v.tick : Int))], .agg [.c (.int .u64 (c.id : Int)), .c (.int .u64 (c.loc : Int)), .c (.int .u64 (c.rem : Int)), .c (.int .u64 (c.res : Int)), .c (.int .u64 (c.most : Int)), .sl (hds c.holds), .c (.bool c.op)]] (wopen_r v c) := by
  refine .of (ac25 wopen_T_ok (Nat.le_of_ble_eq_true rfl) ?_)
  simp -implicitDefEqProofs only [cd_t, cd_f, cd_dec, cd_not, cd_and, cd_or, grd_tt, grd_ff, grd_tf, grd_ft, grd_dt, grd_df, grd_nt, grd_nf, go_sem, Go.Proofs.Tryz.f25, reduceIte, reduceCtorEq, Nat.reduceEqDiff, Nat.reduceAdd, Nat.reduceLeDiff, Nat.reduceSub, Nat.reduceMul, Nat.reduceLT, Nat.reduceShiftRight, Nat.reduceMod, Int.reduceLE, Int.reduceLT, Int.reduceToNat, decide_true, Bool.and_self, Bool.true_and, Ob.map.injEq, Ob.it.injEq, List.cons.injEq, true_and, and_true]
  refine ac32 wopen_T_ok (Nat.le_of_ble_eq_true rfl) ?_
  simp -implicitDefEqProofs only [cd_t, cd_f, cd_dec, cd_not, cd_and, cd_or, grd_tt, grd_ff, grd_tf, grd_ft, grd_dt, grd_df, grd_nt, grd_nf, go_sem, Go.Proofs.Tryz.f32, reduceIte, reduceCtorEq, Nat.reduceEqDiff, Nat.reduceAdd, Nat.reduceLeDiff, Nat.reduceSub, Nat.reduceMul, Nat.reduceLT, Nat.reduceShiftRight, Nat.reduceMod, Int.reduceLE, Int.reduceLT, Int.reduceToNat, decide_true, Bool.and_self, Bool.true_and, Ob.map.injEq, Ob.it.injEq, List.cons.injEq, true_and, and_true]
  refine ADraw.run us32_1 wopen_T_ok follows_mixed (by kernel_rfl) (by kernel_rfl) ?_
  simp -implicitDefEqProofs only [cd_t, cd_f, cd_dec, cd_not, cd_and, cd_or, grd_tt, grd_ff, grd_tf, grd_ft, grd_dt, grd_df, grd_nt, grd_nf, go_sem, reduceIte, reduceCtorEq, Nat.reduceEqDiff, Nat.reduceAdd, Nat.reduceLeDiff, Nat.reduceSub, Nat.reduceMul, Nat.reduceLT, Nat.reduceShiftRight, Nat.reduceMod, Int.reduceLE, Int.reduceLT, Int.reduceToNat, decide_true, Bool.and_self, Bool.true_and, Ob.map.injEq, Ob.it.injEq, List.cons.injEq, true_and, and_true]
  refine ⟨h, ?_⟩
  have hbad : ∀ e : Int, wopE v c = e → ¬ e = 0 → (chs (wopW v c).1.c = [] ∧ wts (wopW v c).1.w = [] ∧ ivs (wopW v c).1.i = [] ∧ pys (wopW v c).1.p = [] ∧ 0 = ((wopW v c).1.f.next : Int) ∧ evs (wopW v c).1.f.l = [] ∧ 0 = ((wopW v c).1.next : Int) ∧ 0 = ((wopW v c).1.tick : Int)) ∧ e = (wopW v c).2 := fun e h1 h2 => by
    have : wopW v c = (zeroW, e) := by rw [wopW, if_neg (by rw [h1]; exact h2), h1]
    rw [this]; exact ⟨⟨rfl, rfl, rfl, rfl, rfl, rfl, rfl, rfl⟩, rfl⟩
  by_cases hok : okW v
  rotate_left 1
  · have hck : (chkW v = 0) = False := eq_false fun h => hok (chkW_0.1 h)
    have he : wopE v c = 1 := by rw [wopE, if_pos hok]
    have hc1 : chkW v = 1 := by rw [chkW, if_neg hok]
    skip
    refine ac38 wopen_T_ok (Nat.le_of_ble_eq_true rfl) ?_
    simp -implicitDefEqProofs only [cd_t, cd_f, cd_dec, cd_not, cd_and, cd_or, grd_tt, grd_ff, grd_tf, grd_ft, grd_dt, grd_df, grd_nt, grd_nf, go_sem, Go.Proofs.Tryz.f38, hck, false_implies, true_implies, not_false_eq_true, not_true_eq_false, reduceIte, reduceCtorEq, Nat.reduceEqDiff, Nat.reduceAdd, Nat.reduceLeDiff, Nat.reduceSub, Nat.reduceMul, Nat.reduceLT, Nat.reduceShiftRight, Nat.reduceMod, Int.reduceLE, Int.reduceLT, Int.reduceToNat, decide_true, Bool.and_self, Bool.true_and, Ob.map.injEq, Ob.it.injEq, List.cons.injEq, true_and, and_true]
    refine ac41 wopen_T_ok (Nat.le_of_ble_eq_true rfl) ?_
    simp -implicitDefEqProofs only [cd_t, cd_f, cd_dec, cd_not, cd_and, cd_or, grd_tt, grd_ff, grd_tf, grd_ft, grd_dt, grd_df, grd_nt, grd_nf, go_sem, Go.Proofs.Tryz.f41, reduceIte, reduceCtorEq, Nat.reduceEqDiff, Nat.reduceAdd, Nat.reduceLeDiff, Nat.reduceSub, Nat.reduceMul, Nat.reduceLT, Nat.reduceShiftRight, Nat.reduceMod, Int.reduceLE, Int.reduceLT, Int.reduceToNat, decide_true, Bool.and_self, Bool.true_and, Ob.map.injEq, Ob.it.injEq, List.cons.injEq, true_and, and_true]
    refine ac83 wopen_T_ok (Nat.le_of_ble_eq_true rfl) ?_
    simp -implicitDefEqProofs only [cd_t, cd_f, cd_dec, cd_not, cd_and, cd_or, grd_tt, grd_ff, grd_tf, grd_ft, grd_dt, grd_df, grd_nt, grd_nf, go_sem, Go.Proofs.Tryz.f83, hck, false_implies, true_implies, not_false_eq_true, not_true_eq_false, reduceIte, reduceCtorEq, Nat.reduceEqDiff, Nat.reduceAdd, Nat.reduceLeDiff, Nat.reduceSub, Nat.reduceMul, Nat.reduceLT, Nat.reduceShiftRight, Nat.reduceMod, Int.reduceLE, Int.reduceLT, Int.reduceToNat, decide_true, Bool.and_self, Bool.true_and, Ob.map.injEq, Ob.it.injEq, List.cons.injEq, true_and, and_true]
    refine ac42 wopen_T_ok (Nat.le_of_ble_eq_true rfl) ?_
    simp -implicitDefEqProofs only [cd_t, cd_f, cd_dec, cd_not, cd_and, cd_or, grd_tt, grd_ff, grd_tf, grd_ft, grd_dt, grd_df, grd_nt, grd_nf, go_sem, Go.Proofs.Tryz.f42, hck, false_implies, true_implies, not_false_eq_true, not_true_eq_false, reduceIte, reduceCtorEq, Nat.reduceEqDiff, Nat.reduceAdd, Nat.reduceLeDiff, Nat.reduceSub, Nat.reduceMul, Nat.reduceLT, Nat.reduceShiftRight, Nat.reduceMod, Int.reduceLE, Int.reduceLT, Int.reduceToNat, decide_true, Bool.and_self, Bool.true_and, Ob.map.injEq, Ob.it.injEq, List.cons.injEq, true_and, and_true]
    refine ADraw.run us42_2 wopen_T_ok follows_mixed (by kernel_rfl) (by kernel_rfl) ?_
    simp -implicitDefEqProofs only [cd_t, cd_f, cd_dec, cd_not, cd_and, cd_or, grd_tt, grd_ff, grd_tf, grd_ft, grd_dt, grd_df, grd_nt, grd_nf, go_sem, hck, false_implies, true_implies, not_false_eq_true, not_true_eq_false, reduceIte, reduceCtorEq, Nat.reduceEqDiff, Nat.reduceAdd, Nat.reduceLeDiff, Nat.reduceSub, Nat.reduceMul, Nat.reduceLT, Nat.reduceShiftRight, Nat.reduceMod, Int.reduceLE, Int.reduceLT, Int.reduceToNat, decide_true, Bool.and_self, Bool.true_and, Ob.map.injEq, Ob.it.injEq, List.cons.injEq, true_and, and_true]
    exact hbad _ (he.trans hc1.symm) (by rw [hc1]; decide)
  have hck : (chkW v = 0) = True := eq_true (chkW_0.2 hok)
  refine ac38 wopen_T_ok (Nat.le_of_ble_eq_true rfl) ?_
  simp -implicitDefEqProofs only [cd_t, cd_f, cd_dec, cd_not, cd_and, cd_or, grd_tt, grd_ff, grd_tf, grd_ft, grd_dt, grd_df, grd_nt, grd_nf, go_sem, Go.Proofs.Tryz.f38, hck, false_implies, true_implies, not_false_eq_true, not_true_eq_false, reduceIte, reduceCtorEq, Nat.reduceEqDiff, Nat.reduceAdd, Nat.reduceLeDiff, Nat.reduceSub, Nat.reduceMul, Nat.reduceLT, Nat.reduceShiftRight, Nat.reduceMod, Int.reduceLE, Int.reduceLT, Int.reduceToNat, decide_true, Bool.and_self, Bool.true_and, Ob.map.injEq, Ob.it.injEq, List.cons.injEq, true_and, and_true]
  refine ac67 wopen_T_ok (Nat.le_of_ble_eq_true rfl) ?_
  simp -implicitDefEqProofs only [cd_t, cd_f, cd_dec, cd_not, cd_and, cd_or, grd_tt, grd_ff, grd_tf, grd_ft, grd_dt, grd_df, grd_nt, grd_nf, go_sem, Go.Proofs.Tryz.f67, reduceIte, reduceCtorEq, Nat.reduceEqDiff, Nat.reduceAdd, Nat.reduceLeDiff, Nat.reduceSub, Nat.reduceMul, Nat.reduceLT, Nat.reduceShiftRight, Nat.reduceMod, Int.reduceLE, Int.reduceLT, Int.reduceToNat, decide_true, Bool.and_self, Bool.true_and, Ob.map.injEq, Ob.it.injEq, List.cons.injEq, true_and, and_true]
  have eC : openL v.c c = wopC v c := rfl
  rw [eC]
  refine ⟨fun hst => ?_, fun hst => ?_⟩
  rotate_left 1
  · skip
    refine ac41 wopen_T_ok (Nat.le_of_ble_eq_true rfl) ?_
    simp -implicitDefEqProofs only [cd_t, cd_f, cd_dec, cd_not, cd_and, cd_or, grd_tt, grd_ff, grd_tf, grd_ft, grd_dt, grd_df, grd_nt, grd_nf, go_sem, Go.Proofs.Tryz.f41, reduceIte, reduceCtorEq, Nat.reduceEqDiff, Nat.reduceAdd, Nat.reduceLeDiff, Nat.reduceSub, Nat.reduceMul, Nat.reduceLT, Nat.reduceShiftRight, Nat.reduceMod, Int.reduceLE, Int.reduceLT, Int.reduceToNat, decide_true, Bool.and_self, Bool.true_and, Ob.map.injEq, Ob.it.injEq, List.cons.injEq, true_and, and_true]
    refine ac83 wopen_T_ok (Nat.le_of_ble_eq_true rfl) ?_
    simp -implicitDefEqProofs only [cd_t, cd_f, cd_dec, cd_not, cd_and, cd_or, grd_tt, grd_ff, grd_tf, grd_ft, grd_dt, grd_df, grd_nt, grd_nf, go_sem, Go.Proofs.Tryz.f83, hst, false_implies, true_implies, not_false_eq_true, not_true_eq_false, reduceIte, reduceCtorEq, Nat.reduceEqDiff, Nat.reduceAdd, Nat.reduceLeDiff, Nat.reduceSub, Nat.reduceMul, Nat.reduceLT, Nat.reduceShiftRight, Nat.reduceMod, Int.reduceLE, Int.reduceLT, Int.reduceToNat, decide_true, Bool.and_self, Bool.true_and, Ob.map.injEq, Ob.it.injEq, List.cons.injEq, true_and, and_true]
    refine ac42 wopen_T_ok (Nat.le_of_ble_eq_true rfl) ?_
    simp -implicitDefEqProofs only [cd_t, cd_f, cd_dec, cd_not, cd_and, cd_or, grd_tt, grd_ff, grd_tf, grd_ft, grd_dt, grd_df, grd_nt, grd_nf, go_sem, Go.Proofs.Tryz.f42, hst, false_implies, true_implies, not_false_eq_true, not_true_eq_false, reduceIte, reduceCtorEq, Nat.reduceEqDiff, Nat.reduceAdd, Nat.reduceLeDiff, Nat.reduceSub, Nat.reduceMul, Nat.reduceLT, Nat.reduceShiftRight, Nat.reduceMod, Int.reduceLE, Int.reduceLT, Int.reduceToNat, decide_true, Bool.and_self, Bool.true_and, Ob.map.injEq, Ob.it.injEq, List.cons.injEq, true_and, and_true]
    refine ADraw.run us42_2 wopen_T_ok follows_mixed (by kernel_rfl) (by kernel_rfl) ?_
    simp -implicitDefEqProofs only [cd_t, cd_f, cd_dec, cd_not, cd_and, cd_or, grd_tt, grd_ff, grd_tf, grd_ft, grd_dt, grd_df, grd_nt, grd_nf, go_sem, hst, false_implies, true_implies, not_false_eq_true, not_true_eq_false, reduceIte, reduceCtorEq, Nat.reduceEqDiff, Nat.reduceAdd, Nat.reduceLeDiff, Nat.reduceSub, Nat.reduceMul, Nat.reduceLT, Nat.reduceShiftRight, Nat.reduceMod, Int.reduceLE, Int.reduceLT, Int.reduceToNat, decide_true, Bool.and_self, Bool.true_and, Ob.map.injEq, Ob.it.injEq, List.cons.injEq, true_and, and_true]
    exact hbad _ (by rw [wopE, if_neg (fun h => h hok), if_pos hst]) hst
  refine ac41 wopen_T_ok (Nat.le_of_ble_eq_true rfl) ?_
  simp -implicitDefEqProofs only [cd_t, cd_f, cd_dec, cd_not, cd_and, cd_or, grd_tt, grd_ff, grd_tf, grd_ft, grd_dt, grd_df, grd_nt, grd_nf, go_sem, Go.Proofs.Tryz.f41, reduceIte, reduceCtorEq, Nat.reduceEqDiff, Nat.reduceAdd, Nat.reduceLeDiff, Nat.reduceSub, Nat.reduceMul, Nat.reduceLT, Nat.reduceShiftRight, Nat.reduceMod, Int.reduceLE, Int.reduceLT, Int.reduceToNat, decide_true, Bool.and_self, Bool.true_and, Ob.map.injEq, Ob.it.injEq, List.cons.injEq, true_and, and_true]
  refine ac83 wopen_T_ok (Nat.le_of_ble_eq_true rfl) ?_
  simp -implicitDefEqProofs only [cd_t, cd_f, cd_dec, cd_not, cd_and, cd_or, grd_tt, grd_ff, grd_tf, grd_ft, grd_dt, grd_df, grd_nt, grd_nf, go_sem, Go.Proofs.Tryz.f83, hck, false_implies, true_implies, not_false_eq_true, not_true_eq_false, reduceIte, reduceCtorEq, Nat.reduceEqDiff, Nat.reduceAdd, Nat.reduceLeDiff, Nat.reduceSub, Nat.reduceMul, Nat.reduceLT, Nat.reduceShiftRight, Nat.reduceMod, Int.reduceLE, Int.reduceLT, Int.reduceToNat, decide_true, Bool.and_self, Bool.true_and, Ob.map.injEq, Ob.it.injEq, List.cons.injEq, true_and, and_true]
  refine ac84 wopen_T_ok (Nat.le_of_ble_eq_true rfl) ?_
  simp -implicitDefEqProofs only [cd_t, cd_f, cd_dec, cd_not, cd_and, cd_or, grd_tt, grd_ff, grd_tf, grd_ft, grd_dt, grd_df, grd_nt, grd_nf, go_sem, Go.Proofs.Tryz.f84, reduceIte, reduceCtorEq, Nat.reduceEqDiff, Nat.reduceAdd, Nat.reduceLeDiff, Nat.reduceSub, Nat.reduceMul, Nat.reduceLT, Nat.reduceShiftRight, Nat.reduceMod, Int.reduceLE, Int.reduceLT, Int.reduceToNat, decide_true, Bool.and_self, Bool.true_and, Ob.map.injEq, Ob.it.injEq, List.cons.injEq, true_and, and_true]
  have eF : addF v.f 6 c.id c.loc = wopF v c := rfl
  rw [eF]
  refine ⟨h, fun hfd => ?_, fun hfd => ?_⟩
  rotate_left 1
  · skip
    refine ac42 wopen_T_ok (Nat.le_of_ble_eq_true rfl) ?_
    simp -implicitDefEqProofs only [cd_t, cd_f, cd_dec, cd_not, cd_and, cd_or, grd_tt, grd_ff, grd_tf, grd_ft, grd_dt, grd_df, grd_nt, grd_nf, go_sem, Go.Proofs.Tryz.f42, hfd, false_implies, true_implies, not_false_eq_true, not_true_eq_false, reduceIte, reduceCtorEq, Nat.reduceEqDiff, Nat.reduceAdd, Nat.reduceLeDiff, Nat.reduceSub, Nat.reduceMul, Nat.reduceLT, Nat.reduceShiftRight, Nat.reduceMod, Int.reduceLE, Int.reduceLT, Int.reduceToNat, decide_true, Bool.and_self, Bool.true_and, Ob.map.injEq, Ob.it.injEq, List.cons.injEq, true_and, and_true]
    refine ADraw.run us42_2 wopen_T_ok follows_mixed (by kernel_rfl) (by kernel_rfl) ?_
    simp -implicitDefEqProofs only [cd_t, cd_f, cd_dec, cd_not, cd_and, cd_or, grd_tt, grd_ff, grd_tf, grd_ft, grd_dt, grd_df, grd_nt, grd_nf, go_sem, hfd, false_implies, true_implies, not_false_eq_true, not_true_eq_false, reduceIte, reduceCtorEq, Nat.reduceEqDiff, Nat.reduceAdd, Nat.reduceLeDiff, Nat.reduceSub, Nat.reduceMul, Nat.reduceLT, Nat.reduceShiftRight, Nat.reduceMod, Int.reduceLE, Int.reduceLT, Int.reduceToNat, decide_true, Bool.and_self, Bool.true_and, Ob.map.injEq, Ob.it.injEq, List.cons.injEq, true_and, and_true]
    exact hbad _ (by rw [wopE, if_neg (fun h => h hok), if_neg (fun h => h hst)]) hfd
  have hsm : smallW ⟨(wopC v c).1, v.w, v.i, v.p, (wopF v c).1, v.next, v.tick⟩ := by
    have h1 := open_fine hst
    have h2 := small_ok hok
    have h4 := add_len (f := v.f) (k := 6) (a := c.id) (n := c.loc)
    refine ⟨by have := h1.1; show (wopC v c).1.length ≤ _; unfold wopC; omega, fun d hd => by have := (h1.2.1 d hd).2.2.1; omega, h2.2.2.1, h2.2.2.2.1, h2.2.2.2.2.1, by show (wopF v c).1.l.length ≤ _; unfold wopF; omega⟩
  have hfin : wopW v c = (⟨(wopC v c).1, v.w, v.i, v.p, (wopF v c).1, v.next, v.tick⟩, 0) := by
    have : wopE v c = 0 := by rw [wopE, if_neg (fun h => h hok), if_neg (fun h => h hst)]; exact hfd
    rw [wopW, if_pos this]
  refine ac42 wopen_T_ok (Nat.le_of_ble_eq_true rfl) ?_
  simp -implicitDefEqProofs only [cd_t, cd_f, cd_dec, cd_not, cd_and, cd_or, grd_tt, grd_ff, grd_tf, grd_ft, grd_dt, grd_df, grd_nt, grd_nf, go_sem, Go.Proofs.Tryz.f42, hck, eq_true hsm, false_implies, true_implies, not_false_eq_true, not_true_eq_false, reduceIte, reduceCtorEq, Nat.reduceEqDiff, Nat.reduceAdd, Nat.reduceLeDiff, Nat.reduceSub, Nat.reduceMul, Nat.reduceLT, Nat.reduceShiftRight, Nat.reduceMod, Int.reduceLE, Int.reduceLT, Int.reduceToNat, decide_true, Bool.and_self, Bool.true_and, Ob.map.injEq, Ob.it.injEq, List.cons.injEq, true_and, and_true]
  rw [hfin]
  exact ⟨⟨rfl, rfl, rfl, rfl, rfl, rfl, rfl, rfl⟩, rfl⟩
@[go_sem] def wopen_p (v : Wl) (c : Ch) : Prop := (v.f.next ≤ 18446744073709551615)
def sp_wopen : List D → Option (Prop × D × Fr)
  | [.agg [.c (.sl z2), .c (.sl z3), .c (.sl z4), .c (.sl z5), .c (.int .u64 z7), .c (.sl z8), .c (.int .u64 z9), .c (.int .u64 z10)], .agg [.c (.int .u64 z12), .c (.int .u64 z13), .c (.int .u64 z14), .c (.int .u64 z15), .c (.int .u64 z16), .c (.sl z17), .c (.bool z18)]] => some (z2 = chs (dchs z2) ∧ z3 = wts (dwts z3) ∧ z4 = ivs (divs z4) ∧ z5 = pys (dpys z5) ∧ z7 = (z7.toNat : Int) ∧ z8 = evs (devs z8) ∧ z9 = (z9.toNat : Int) ∧ z10 = (z10.toNat : Int) ∧ z12 = (z12.toNat : Int) ∧ z13 = (z13.toNat : Int) ∧ z14 = (z14.toNat : Int) ∧ z15 = (z15.toNat : Int) ∧ z16 = (z16.toNat : Int) ∧ z17 = hds (dhds z17) ∧ wopen_p (⟨(dchs z2), (dwts z3), (divs z4), (dpys z5), (⟨z7.toNat, (devs z8)⟩ : Fd), z9.toNat, z10.toNat⟩ : Wl) (⟨z12.toNat, z13.toNat, z14.toNat, z15.toNat, z16.toNat, (dhds z17), z18⟩ : Ch), wopen_r (⟨(dchs z2), (dwts z3), (divs z4), (dpys z5), (⟨z7.toNat, (devs z8)⟩ : Fd), z9.toNat, z10.toNat⟩ : Wl) (⟨z12.toNat, z13.toNat, z14.toNat, z15.toNat, z16.toNat, (dhds z17), z18⟩ : Ch), [])
  | _ => none
attribute [go_sem] sp_wopen
theorem sp_wopen_ok : ∀ rs p r fr, sp_wopen rs = some (p, r, fr) → p → FnOk Tryz.prog 25 rs r fr := by
  intro rs p r fr h hp
  unfold sp_wopen at h
  split at h <;> cases h
  obtain ⟨hc0, hc1, hc2, hc3, hc4, hc5, hc6, hc7, hc8, hc9, hc10, hc11, hc12, hc13, hp⟩ := hp
  rename_i z2 z3 z4 z5 z7 z8 z9 z10 z12 z13 z14 z15 z16 z17 z18
  obtain ⟨z2, rfl⟩ : ∃ m, z2 = chs m := ⟨_, hc0⟩
  obtain ⟨z3, rfl⟩ : ∃ m, z3 = wts m := ⟨_, hc1⟩
  obtain ⟨z4, rfl⟩ : ∃ m, z4 = ivs m := ⟨_, hc2⟩
  obtain ⟨z5, rfl⟩ : ∃ m, z5 = pys m := ⟨_, hc3⟩
  obtain ⟨z7, rfl⟩ : ∃ m : Nat, z7 = m := ⟨_, hc4⟩
  obtain ⟨z8, rfl⟩ : ∃ m, z8 = evs m := ⟨_, hc5⟩
  obtain ⟨z9, rfl⟩ : ∃ m : Nat, z9 = m := ⟨_, hc6⟩
  obtain ⟨z10, rfl⟩ : ∃ m : Nat, z10 = m := ⟨_, hc7⟩
  obtain ⟨z12, rfl⟩ : ∃ m : Nat, z12 = m := ⟨_, hc8⟩
  obtain ⟨z13, rfl⟩ : ∃ m : Nat, z13 = m := ⟨_, hc9⟩
  obtain ⟨z14, rfl⟩ : ∃ m : Nat, z14 = m := ⟨_, hc10⟩
  obtain ⟨z15, rfl⟩ : ∃ m : Nat, z15 = m := ⟨_, hc11⟩
  obtain ⟨z16, rfl⟩ : ∃ m : Nat, z16 = m := ⟨_, hc12⟩
  obtain ⟨z17, rfl⟩ : ∃ m, z17 = hds m := ⟨_, hc13⟩
  simp only [Int.toNat_natCast, dchs_chs, devs_evs, dhds_hds, divs_ivs, dpys_pys, dwts_wts]
  simp only [Int.toNat_natCast, dchs_chs, devs_evs, dhds_hds, divs_ivs, dpys_pys, dwts_wts, wopen_p] at hp
  exact wopen_ok ⟨z2, z3, z4, z5, ⟨z7, z8⟩, z9, z10⟩ ⟨z12, z13, z14, z15, z16, z17, z18⟩ hp
end Dm
namespace Dm
open Go Go.Proofs Go.IntWalk
def emptyW : Wl := ⟨[], [], [], [], ⟨1, []⟩, 1, 0⟩
def liveC : Ch := ⟨1, 10, 0, 0, 10, [], true⟩
theorem live1 : (wopW emptyW liveC).2 = 0 := by decide
theorem live2 : (wopW emptyW liveC).1.f.next ≤ 18446744073709551615 := by decide
set_option maxRecDepth 100000 in
theorem live3 : (batW (wopW emptyW liveC).1 [⟨1, 6⟩, ⟨2, 5⟩]).2.2 = (1, 9) := by decide
@[go_sem] def live_r  : D := .bool true
@[go_sem] abbrev n_live : FuncId := 8
@[go_sem] def live_T : Tab := [(26, sp_wnew), (25, sp_wopen), (10, sp_bpay)]
theorem live_T_ok : TabOk Tryz.prog live_T := (TabOk.cons sp_wnew_ok (TabOk.cons sp_wopen_ok (TabOk.cons sp_bpay_ok TabOk.nil)))
set_option maxRecDepth 8000 in
set_option maxHeartbeats 1000000 in
theorem live_ok   : PureFn Tryz.prog 8 [] (live_r ) := by
  refine .of (ac8 live_T_ok (Nat.le_of_ble_eq_true rfl) ?_)
  simp -implicitDefEqProofs only [cd_t, cd_f, cd_dec, cd_not, cd_and, cd_or, grd_tt, grd_ff, grd_tf, grd_ft, grd_dt, grd_df, grd_nt, grd_nf, go_sem, Go.Proofs.Tryz.f8, reduceIte, reduceCtorEq, Nat.reduceEqDiff, Nat.reduceAdd, Nat.reduceLeDiff, Nat.reduceSub, Nat.reduceMul, Nat.reduceLT, Nat.reduceShiftRight, Nat.reduceMod, Int.reduceLE, Int.reduceLT, Int.reduceToNat, decide_true, Bool.and_self, Bool.true_and, Ob.map.injEq, Ob.it.injEq, List.cons.injEq, true_and, and_true]
  refine ⟨rfl, ⟨rfl, live2⟩, fun _ => ?_, fun h => absurd live1 h⟩
  have e : (batW (wopW emptyW liveC).1 [⟨1, 6⟩, ⟨2, 5⟩]).2.2 = (1, 9) := live3
  have e1 : (batW (wopW emptyW liveC).1 [⟨1, 6⟩, ⟨2, 5⟩]).2.2.2 = 9 := congrArg Prod.snd e
  have e2 : (batW (wopW emptyW liveC).1 [⟨1, 6⟩, ⟨2, 5⟩]).2.2.1 = 1 := congrArg Prod.fst e
  have e3 : decide ((((batW (wopW emptyW liveC).1 [⟨1, 6⟩, ⟨2, 5⟩]).2.2.1 : Nat) : Int) = 1) = true := decide_eq_true (by rw [e2]; rfl)
  exact ⟨fun _ => e3, fun h => h e1⟩
def sp_live : List D → Option (Prop × D × Fr)
  | [] => some (True, live_r , [])
  | _ => none
attribute [go_sem] sp_live
theorem sp_live_ok : ∀ rs p r fr, sp_live rs = some (p, r, fr) → p → FnOk Tryz.prog 8 rs r fr := by
  intro rs p r fr h hp
  unfold sp_live at h
  split at h <;> cases h
  exact live_ok 
@[go_sem] def few17_r (w : Wl) : D := .bool (decide (((∀ c ∈ w.c, c.holds.length ≤ 20) ∧ w.c.length ≤ 34) ∧ w.w.length ≤ 40 ∧ w.i.length ≤ 40 ∧ (w.p.length ≤ 40 ∨ 256 ≤ w.p.length ∧ w.p.length ≤ 258) ∧ w.f.l.length ≤ 70))
@[go_sem] abbrev n_few17 : FuncId := 9
@[go_sem] def few17_T : Tab := [(27, sp_few)]
theorem few17_T_ok : TabOk Tryz.prog few17_T := (TabOk.cons sp_few_ok TabOk.nil)
set_option maxRecDepth 8000 in
set_option maxHeartbeats 1000000 in
theorem few17_ok (w : Wl)  : PureFn Tryz.prog 9 [.agg [.sl (chs w.c), .sl (wts w.w), .sl (ivs w.i), .sl (pys w.p), .c (.int .u64 (w.f.next : Int)), .sl (evs w.f.l), .c (.int .u64 (w.next : Int)), .c (.int .u64 (w.tick : Int))]] (few17_r w) := by
  refine .of (ac9 few17_T_ok (Nat.le_of_ble_eq_true rfl) ?_)
  simp -implicitDefEqProofs only [cd_t, cd_f, cd_dec, cd_not, cd_and, cd_or, grd_tt, grd_ff, grd_tf, grd_ft, grd_dt, grd_df, grd_nt, grd_nf, go_sem, Go.Proofs.Tryz.f9, reduceIte, reduceCtorEq, Nat.reduceEqDiff, Nat.reduceAdd, Nat.reduceLeDiff, Nat.reduceSub, Nat.reduceMul, Nat.reduceLT, Nat.reduceShiftRight, Nat.reduceMod, Int.reduceLE, Int.reduceLT, Int.reduceToNat, decide_true, Bool.and_self, Bool.true_and, Ob.map.injEq, Ob.it.injEq, List.cons.injEq, true_and, and_true]
  refine ⟨fun hq _ => ⟨fun h1 _ => ⟨fun h2 _ => ⟨fun h3 _ => ⟨fun h4 _ => ⟨fun h5 _ => ?_, fun h5 => (decide_eq_false fun h => by have := h.2; omega).symm⟩, fun h4 => (decide_eq_false fun h => by have := h.2; omega).symm⟩, fun h3 _ => ?_⟩, fun h2 => (decide_eq_false fun h => by have := h.2; omega).symm⟩, fun h1 => (decide_eq_false fun h => by have := h.2; omega).symm⟩, fun hq => (decide_eq_false fun h => hq h.1).symm⟩
  · rw [decide_eq_decide]; exact ⟨fun h => ⟨hq, by omega, by omega, by omega, by omega⟩, fun h => by have := h.2; omega⟩
  · rw [decide_eq_decide]; exact ⟨fun h => ⟨hq, by omega, by omega, by omega, by omega⟩, fun h => by have := h.2; omega⟩
def sp_few17 : List D → Option (Prop × D × Fr)
  | [.agg [.c (.sl z20), .c (.sl z21), .c (.sl z22), .c (.sl z23), .c (.int .u64 z25), .c (.sl z26), .c (.int .u64 z27), .c (.int .u64 z28)]] => some (z20 = chs (dchs z20) ∧ z21 = wts (dwts z21) ∧ z22 = ivs (divs z22) ∧ z23 = pys (dpys z23) ∧ z25 = (z25.toNat : Int) ∧ z26 = evs (devs z26) ∧ z27 = (z27.toNat : Int) ∧ z28 = (z28.toNat : Int), few17_r (⟨(dchs z20), (dwts z21), (divs z22), (dpys z23), (⟨z25.toNat, (devs z26)⟩ : Fd), z27.toNat, z28.toNat⟩ : Wl), [])
  | _ => none
attribute [go_sem] sp_few17
theorem sp_few17_ok : ∀ rs p r fr, sp_few17 rs = some (p, r, fr) → p → FnOk Tryz.prog 9 rs r fr := by
  intro rs p r fr h hp
  unfold sp_few17 at h
  split at h <;> cases h
  obtain ⟨hc0, hc1, hc2, hc3, hc4, hc5, hc6, hc7⟩ := hp
  rename_i z20 z21 z22 z23 z25 z26 z27 z28
  obtain ⟨z20, rfl⟩ : ∃ m, z20 = chs m := ⟨_, hc0⟩
  obtain ⟨z21, rfl⟩ : ∃ m, z21 = wts m := ⟨_, hc1⟩
  obtain ⟨z22, rfl⟩ : ∃ m, z22 = ivs m := ⟨_, hc2⟩
  obtain ⟨z23, rfl⟩ : ∃ m, z23 = pys m := ⟨_, hc3⟩
  obtain ⟨z25, rfl⟩ : ∃ m : Nat, z25 = m := ⟨_, hc4⟩
  obtain ⟨z26, rfl⟩ : ∃ m, z26 = evs m := ⟨_, hc5⟩
  obtain ⟨z27, rfl⟩ : ∃ m : Nat, z27 = m := ⟨_, hc6⟩
  obtain ⟨z28, rfl⟩ : ∃ m : Nat, z28 = m := ⟨_, hc7⟩
  simp only [Int.toNat_natCast, dchs_chs, devs_evs, divs_ivs, dpys_pys, dwts_wts]
  exact few17_ok ⟨z20, z21, z22, z23, ⟨z25, z26⟩, z27, z28⟩
theorem seq_or : ∀ {l : List It} {w : Wl}, seqOk w l ∨ ∃ i, ∃ x, l[i]? = some x ∧ seqOk w (l.take i) ∧ ¬ (payW (seqW w (l.take i)) x.hash x.n).2.2 = 0
  | [], _ => .inl trivial
  | x :: l, w => by
    by_cases h : (payW w x.hash x.n).2.2 = 0
    · rcases seq_or (l := l) (w := (payW w x.hash x.n).1) with h1 | ⟨i, y, h1, h2, h3⟩
      · exact .inl ⟨h, h1⟩
      · exact .inr ⟨i + 1, y, by simpa using h1, ⟨h, h2⟩, h3⟩
    · exact .inr ⟨0, x, by simp, trivial, h⟩
theorem sum_prefix {l : List It} {i : Nat} (h : (sumB l).2 = 0) (hi : 0 < i) (hl : i ≤ l.length) : (sumB (l.take i)).2 = 0 := by
  unfold sumB at h ⊢
  split at h
  · rename_i h1
    split at h
    · rename_i h2
      rw [if_pos ⟨by rw [List.length_take]; omega, by rw [List.length_take]; omega, fun x hx => h1.2.2 x (List.mem_of_mem_take hx)⟩, if_pos (Nat.le_trans totI_le h2)]
    · cases h
  · cases h
end Dm
