import Derived.Test.YtceoichdaepegaaGreatP7

set_option linter.unusedSimpArgs false
set_option linter.unusedVariables false
set_option linter.unusedSectionVars false
namespace Dm
open Go Go.Proofs Go.IntWalk
@[go_sem] def lins_T2 : Tab := [ovk 233]
theorem lins_T2_ok : TabOk Tryz.prog lins_T2 := .cons (ov_ok 233) .nil
@[go_sem] def lins_T3 : Tab := [fg 12]
theorem lins_T3_ok : TabOk Tryz.prog lins_T3 := .cons (fg_ok 12) .nil
theorem lins_wide (l : List Ch) : Wide 7 (chs l) := of_eq_true (chs_wide l)
set_option maxRecDepth 8000 in
set_option maxHeartbeats 1000000 in
theorem lins_ok (l : List Ch) (x : Ch) (i : Nat) (hi : i ≤ l.length) (hl : l.length ≤ 1000000) :
    ACall Tryz.prog 184 [.vec 0 l.length, .int .i64 i, .vec 1 1] [(1, .vec true 7 50 (chs [x])), (0, .vec true 7 50 (chs l))] 2 fun d os _ => Grown 7 50 (chs (Srt.ins l i x)) d os := by
  have hil : (Srt.ins l i x).length = l.length + 1 := Srt.ins_len
  have hq : ∀ j os, lk j os = some (.vec true 7 50 (chs (Srt.ins l i x))) → Grown 7 50 (chs (Srt.ins l i x)) (.vec j (l.length + 1)) os := fun j os h => ⟨j, by rw [chs_length, hil], h⟩
  by_cases hin : i = l.length
  · refine ac184 lins_T3_ok (Nat.le_of_ble_eq_true rfl) ?_
    have e4 : ((1 : Int) = 0) = False := eq_false (by decide)
    subst hin
    simp -implicitDefEqProofs only [cdA, go_sem, Go.Proofs.Tryz.f184, e4, decide_true, reduceIte, List.cons.injEq, cdB]
    refine ⟨Int.le_refl _, fun h => h.elim, fun _ => ⟨by omega, hq _ _ ?_⟩⟩
    rw [lk_cons, if_neg (by decide), lk_hd]
    simp [Srt.ins]
  · have hlt : i < l.length := by omega
    refine ACall.opn 0 rfl (by rw [chs_length]; omega) fun c hc hcm => ?_
    refine ACall.seal ?_
    rw [chs_length] at hc
    refine ac184 lins_T2_ok (Nat.le_of_ble_eq_true rfl) ?_
    have e1 : IntKind.i64.wrap ((l.length : Int) + 1) = ((l.length + 1 : Nat) : Int) := by rw [i64_in _ (by omega)]; omega
    have e2 : IntKind.i64.wrap ((i : Int) + 1) = ((i + 1 : Nat) : Int) := by rw [i64_in _ (by omega)]; omega
    have e3 : ((i : Int) = (l.length : Int)) = False := eq_false (by omega)
    have e4 : ((1 : Int) = 0) = False := eq_false (by decide)
    have e5 : IntKind.i64.wrap ((l.length : Int) + 1 - (i : Int)) = ((l.length + 1 - i : Nat) : Int) := by rw [i64_in _ (by omega)]; omega
    have e6 : ((l.length : Int) + 1).toNat = l.length + 1 := by omega
    have e7 : ((i : Int) + 1).toNat = i + 1 := by omega
    have e8 : i + (l.length + 1 - i) = l.length + 1 := by omega
    simp -implicitDefEqProofs only [cdA, go_sem, Go.Proofs.Tryz.f184, e3, e4, e1, e2, e5, e6, e7, e8, decide_false, reduceIte, List.cons.injEq, cdB]
    refine ⟨by omega, fun _ => ⟨fun h1 => ⟨by omega, by omega, fun c1 h2 h3 => ⟨by omega, ?_⟩⟩, fun h1 => ⟨by omega, by omega, ?_, ?_⟩⟩⟩
    · refine ADraw.run us184_11 lins_T2_ok follows_mixed (by kernel_rfl) (by kernel_rfl) ?_
      simp -implicitDefEqProofs only [cdA, go_sem, e1, e2, e5, e6, e7, e8, reduceIte, List.cons.injEq, cdB]
      refine ⟨by omega, by omega, fun y hy => fit_wide (lins_wide l) y (List.mem_of_mem_take (List.mem_of_mem_drop hy)), ?_⟩
      have := ins_new (sz := 7) (c := c) (c1 := c1) (i := i) (E := chs l) (x := x.enc) (z := [C.int .u64 0, C.int .u64 0, C.int .u64 0, C.int .u64 0, C.int .u64 0, C.sl [], C.bool false]) (by rw [chs_length]; exact hlt) (by rw [chs_length]; exact hc) (by rw [chs_length]; exact h2)
      rw [chs_length] at this
      refine hq _ _ ?_
      rw [lk_hd]
      congr 2
      rw [show chs (List.take (l.length + 1 - i) [x]) = List.take (l.length + 1 - i) [x.enc] by simp [chs], this]
      simp [chs, Srt.ins]
    · exact ⟨_, 22, 4, _, rfl, rfl, rfl, rfl, by kernel_rfl, elOf_22⟩
    · refine ADraw.run us184_15 lins_T2_ok follows_mixed (by kernel_rfl) (by kernel_rfl) ?_
      simp -implicitDefEqProofs only [cdA, go_sem, e1, e2, e5, e6, e7, e8, reduceIte, List.cons.injEq, cdB]
      refine ⟨by omega, by omega, fun y hy => fit_wide (lins_wide l) y (List.mem_of_mem_take (List.mem_of_mem_drop hy)), by omega, ?_⟩
      have := ins_old (sz := 7) (c := c) (i := i) (E := chs l) (x := x.enc) (by rw [chs_length]; exact hlt) (by rw [chs_length]; omega)
      rw [chs_length] at this
      refine hq _ _ ?_
      rw [lk_hd]
      congr 2
      rw [show chs (List.take (l.length + 1 - i) [x]) = List.take (l.length + 1 - i) [x.enc] by simp [chs], this]
      simp [chs, Srt.ins]

def chkC (c : Ch) : Int := if okCh c then 0 else 1
@[go_sem] def ccheck_r (c : Ch) : D := .int .i64 (chkC c)
@[go_sem] abbrev n_ccheck : FuncId := 183
@[go_sem] def ccheck_T : Tab := [(203, sp_csums)]
theorem ccheck_T_ok : TabOk Tryz.prog ccheck_T := (TabOk.cons sp_csums_ok TabOk.nil)
set_option maxRecDepth 8000 in
set_option maxHeartbeats 1000000 in
theorem ccheck_ok (c : Ch)  : PureFn Tryz.prog 183 [.agg [.c (.int .u64 (c.id : Int)), .c (.int .u64 (c.loc : Int)), .c (.int .u64 (c.rem : Int)), .c (.int .u64 (c.res : Int)), .c (.int .u64 (c.most : Int)), .sl (hds c.holds), .c (.bool c.op)]] (ccheck_r c) := by
  refine .of (ac183 ccheck_T_ok (Nat.le_of_ble_eq_true rfl) ?_)
  simp -implicitDefEqProofs only [cdA, go_sem, Go.Proofs.Tryz.f183, reduceIte, List.cons.injEq, cdB]
  unfold sumsC chkC
  split <;> rfl
def sp_ccheck : List D → Option (Prop × D × Fr)
  | [.agg [.c (.int .u64 z336), .c (.int .u64 z337), .c (.int .u64 z338), .c (.int .u64 z339), .c (.int .u64 z340), .c (.sl z341), .c (.bool z342)]] => some (z336 = (z336.toNat : Int) ∧ z337 = (z337.toNat : Int) ∧ z338 = (z338.toNat : Int) ∧ z339 = (z339.toNat : Int) ∧ z340 = (z340.toNat : Int) ∧ z341 = hds (dhds z341), ccheck_r (⟨z336.toNat, z337.toNat, z338.toNat, z339.toNat, z340.toNat, (dhds z341), z342⟩ : Ch), [])
  | _ => none
attribute [go_sem] sp_ccheck
theorem sp_ccheck_ok : ∀ rs p r fr, sp_ccheck rs = some (p, r, fr) → p → FnOk Tryz.prog 183 rs r fr := by
  intro rs p r fr h hp
  unfold sp_ccheck at h
  split at h <;> cases h
  obtain ⟨hc0, hc1, hc2, hc3, hc4, hc5⟩ := hp
  rename_i z336 z337 z338 z339 z340 z341 z342
  obtain ⟨z336, rfl⟩ : ∃ m : Nat, z336 = m := ⟨_, hc0⟩
  obtain ⟨z337, rfl⟩ : ∃ m : Nat, z337 = m := ⟨_, hc1⟩
  obtain ⟨z338, rfl⟩ : ∃ m : Nat, z338 = m := ⟨_, hc2⟩
  obtain ⟨z339, rfl⟩ : ∃ m : Nat, z339 = m := ⟨_, hc3⟩
  obtain ⟨z340, rfl⟩ : ∃ m : Nat, z340 = m := ⟨_, hc4⟩
  obtain ⟨z341, rfl⟩ : ∃ m, z341 = hds m := ⟨_, hc5⟩
  simp only [Int.toNat_natCast, dhds_hds]
  exact ccheck_ok ⟨z336, z337, z338, z339, z340, z341, z342⟩
def openL (l : List Ch) (c : Ch) : List Ch × Int :=
  if ¬ okCh c ∨ c.op = false ∨ 0 < c.holds.length ∨ ¬ okLd l then ([], 1) else if Srt.thr Ch.id ltN l c.id = true then ([], 6) else if l.length = 32 then ([], 7) else if okLd (Srt.ins l (Srt.pos Ch.id ltN l c.id) c) then (Srt.ins l (Srt.pos Ch.id ltN l c.id) c, 0) else ([], 8)
@[go_sem] def lopen_r (l : List Ch) (c : Ch) : D := .tup [.sl (chs (openL l c).1), .int .i64 (openL l c).2]
@[go_sem] abbrev n_lopen : FuncId := 94
@[go_sem] def lopen_T : Tab := [(183, sp_ccheck), (102, sp_lcheck), (144, sp_lorder), (64, sp_own), (185, sp_owns)]
theorem lopen_T_ok : TabOk Tryz.prog lopen_T := (TabOk.cons sp_ccheck_ok (TabOk.cons sp_lcheck_ok (TabOk.cons sp_lorder_ok (TabOk.cons sp_own_ok (TabOk.cons sp_owns_ok TabOk.nil)))))
set_option maxRecDepth 8000 in
set_option maxHeartbeats 1000000 in
theorem lopen_ok (l : List Ch) (c : Ch)  : PureFn Tryz.prog 94 [.sl (chs l), .agg [.c (.int .u64 (c.id : Int)), .c (.int .u64 (c.loc : Int)), .c (.int .u64 (c.rem : Int)), .c (.int .u64 (c.res : Int)), .c (.int .u64 (c.most : Int)), .sl (hds c.holds), .c (.bool c.op)]] (lopen_r l c) := by
  refine .of (ac94 lopen_T_ok (Nat.le_of_ble_eq_true rfl) ?_)
  simp -implicitDefEqProofs only [cdA, go_sem, Go.Proofs.Tryz.f94, reduceIte, List.cons.injEq, cdB]
  have hbad : (¬ okCh c ∨ c.op = false ∨ 0 < c.holds.length ∨ ¬ okLd l) → chs (openL l c).1 = [] ∧ 1 = (openL l c).2 := fun h => by rw [openL, if_pos h]; exact ⟨rfl, rfl⟩
  have hc0 : chkC c = 0 ↔ okCh c := by unfold chkC; split <;> rename_i h <;> simp only [h] <;> decide
  have hl0 : chkL l = 0 ↔ okLd l := by unfold chkL; split <;> rename_i h <;> simp only [h] <;> decide
  refine ⟨fun h1 => ⟨fun h2 _ => ⟨fun h3 => ⟨fun h4 => ?_, fun h4 => hbad (.inr (.inr (.inr fun h => h4 (hl0.2 h))))⟩, fun h3 => hbad (.inr (.inr (.inl (by omega))))⟩, fun h2 => hbad (.inr (.inl (by simpa using h2)))⟩, fun h1 => hbad (.inl fun h => h1 (hc0.2 h))⟩
  have hok := hl0.1 h4
  have hcc := hc0.1 h1
  have hop : c.op = true := by simpa using h2
  have hA : ¬ (¬ okCh c ∨ c.op = false ∨ 0 < c.holds.length ∨ ¬ okLd l) := by
    rintro (h | h | h | h)
    · exact h hcc
    · rw [hop] at h; cases h
    · omega
    · exact h hok
  have hu : Srt.Up Ch.id ltN l := (Srt.chn_up (lt := ltN) Srt.totNat).1 hok.2.2.1
  have hl32 := hok.1
  refine ac152 lopen_T_ok (Nat.le_of_ble_eq_true rfl) ?_
  simp -implicitDefEqProofs only [cdA, go_sem, Go.Proofs.Tryz.f152, reduceIte, List.cons.injEq, cdB]
  refine fun _ => SWp.loop (ι := { x : Nat × Nat // x.1 ≤ x.2 ∧ x.2 ≤ l.length ∧ (∀ k, k < x.1 → (l.getD k default).id < c.id) ∧ ∀ k, x.2 ≤ k → k < l.length → ¬ (l.getD k default).id < c.id }) (fun x => ⟨[(0, .sl (chs l)), (1, .c (.int .u64 c.id)), (2, .fn (.func 144) [] []), (8, .int .i64 l.length), (9, .int .i64 x.1.1), (10, .int .i64 x.1.2)],
    [(0, .box [.c (.int .u64 c.id), .c (.int .u64 c.loc), .c (.int .u64 c.rem), .c (.int .u64 c.res), .c (.int .u64 c.most), .sl (hds c.holds), .c (.bool c.op)])], 1⟩) (fun x => x.1.2 - x.1.1) ⟨(0, l.length), by simp, by simp, fun k hk => absurd hk (by simp), fun k h1 h2 => absurd h1 (by simpa using h2)⟩ ?_ ?_
  · simp [go_sem]
  · rintro ⟨⟨i, j⟩, hij, hj, hlo, hup⟩
    dsimp only at hij hj hlo hup
    refine awp_sound lopen_T_ok.toS lv152 _ _ _ rfl ?_
    simp -implicitDefEqProofs only [cdA, go_sem, reduceIte, List.cons.injEq, cdB]
    rw [mid_eq hij hj ‹_›]
    refine ⟨fun h4 => ?_, fun h4 => ?_⟩
    · have hm : (i + j) / 2 < l.length := by omega
      rw [cmpS_neg, Int.toNat_natCast]
      refine ⟨by omega, fun h5 => ⟨⟨((i + j) / 2 + 1, j), by dsimp only; omega, hj, fun k hk => ?_, hup⟩, by dsimp only; omega, i64_in _ (by omega), rfl⟩, fun h5 => ⟨⟨(i, (i + j) / 2), by dsimp only; omega, by dsimp only; omega, hlo, fun k hk1 hk2 => ?_⟩, by dsimp only; omega, rfl, rfl⟩⟩
      · dsimp only at hk
        by_cases hkm : k = (i + j) / 2
        · rw [hkm]; omega
        · have := Srt.up_get.1 hu k _ (by omega) hm
          simp only [ltN] at this; omega
      · dsimp only at hk1
        by_cases hkm : k = (i + j) / 2
        · rw [hkm]; omega
        · have := Srt.up_get.1 hu ((i + j) / 2) k (by omega) hk2
          simp only [ltN] at this; omega
    · have hp : Srt.pos Ch.id ltN l c.id = i := Srt.pos_eq (by omega) hlo (fun h => hup i (by omega) h)
      have hth : Srt.thr Ch.id ltN l c.id = decide (i < l.length ∧ (l.getD i default).id = c.id) := by rw [Srt.thr, hp]
      refine ⟨fun h5 => ⟨by omega, fun h6 => ?_, fun h6 _ => ⟨fun h7 => ?_, fun h7 => ?_⟩⟩, fun h5 _ => ⟨fun h7 => ?_, fun h7 => ?_⟩⟩
      · rw [openL, if_neg hA, if_pos (by rw [hth]; exact decide_eq_true ⟨by omega, by have := cmpS_0.1 h6; omega⟩)]; exact ⟨rfl, rfl⟩
      · have ht : ¬ Srt.thr Ch.id ltN l c.id = true := by rw [hth, decide_eq_true_eq]; rintro ⟨h8, h9⟩; exact h6 (cmpS_0.2 (by omega))
        rw [openL, if_neg hA, if_neg ht, if_pos (by omega)]; exact ⟨rfl, rfl⟩
      · have ht : ¬ Srt.thr Ch.id ltN l c.id = true := by rw [hth, decide_eq_true_eq]; rintro ⟨h8, h9⟩; exact h6 (cmpS_0.2 (by omega))
        refine ADraw.tail 6 us94_8 lopen_T_ok follows_mixed (by kernel_rfl) (by kernel_rfl) (by kernel_rfl) (by kernel_rfl) ?_
        simp -implicitDefEqProofs only [cdA, go_sem, List.take_succ_cons, List.take_zero, List.drop_succ_cons, List.drop_zero, reduceIte, List.cons.injEq, cdB]
        refine ⟨⟨by omega, fun d hd => by have := (hok.2.1 d hd).2.2.1; omega⟩, by omega, ?_⟩
        refine ACall.grow (mid := [.int .i64 _]) (lins_ok l c i (by omega) (by omega)) rfl rfl (by decide) (by simp [Srt.ins_len]) (fun d hd g g' w v hv => ?_) ?_
        · simp at hd; subst hd
          cases hv with
          | c _ _ h => cases h; exact .c _ _ (.int _ _)
        · simp -implicitDefEqProofs only [cdA, go_sem, reduceIte, List.cons.injEq, cdB]
          have hl0' : chkL (Srt.ins l i c) = 0 ↔ okLd (Srt.ins l i c) := by unfold chkL; split <;> rename_i h <;> simp only [h] <;> decide
          refine ⟨fun h8 => ?_, fun h8 => ?_⟩
          · rw [openL, if_neg hA, if_neg ht, if_neg (by omega), hp, if_pos (hl0'.1 h8)]; exact ⟨⟨rfl, _, _, _, rfl⟩, rfl⟩
          · rw [openL, if_neg hA, if_neg ht, if_neg (by omega), hp, if_neg fun h => h8 (hl0'.2 h)]; exact ⟨rfl, rfl⟩
      · have ht : ¬ Srt.thr Ch.id ltN l c.id = true := by rw [hth, decide_eq_true_eq]; omega
        rw [openL, if_neg hA, if_neg ht, if_pos (by omega)]; exact ⟨rfl, rfl⟩
      · have ht : ¬ Srt.thr Ch.id ltN l c.id = true := by rw [hth, decide_eq_true_eq]; omega
        refine ADraw.tail 6 us94_8 lopen_T_ok follows_mixed (by kernel_rfl) (by kernel_rfl) (by kernel_rfl) (by kernel_rfl) ?_
        simp -implicitDefEqProofs only [cdA, go_sem, List.take_succ_cons, List.take_zero, List.drop_succ_cons, List.drop_zero, reduceIte, List.cons.injEq, cdB]
        refine ⟨⟨by omega, fun d hd => by have := (hok.2.1 d hd).2.2.1; omega⟩, by omega, ?_⟩
        refine ACall.grow (mid := [.int .i64 _]) (lins_ok l c i (by omega) (by omega)) rfl rfl (by decide) (by simp [Srt.ins_len]) (fun d hd g g' w v hv => ?_) ?_
        · simp at hd; subst hd
          cases hv with
          | c _ _ h => cases h; exact .c _ _ (.int _ _)
        · simp -implicitDefEqProofs only [cdA, go_sem, reduceIte, List.cons.injEq, cdB]
          have hl0' : chkL (Srt.ins l i c) = 0 ↔ okLd (Srt.ins l i c) := by unfold chkL; split <;> rename_i h <;> simp only [h] <;> decide
          refine ⟨fun h8 => ?_, fun h8 => ?_⟩
          · rw [openL, if_neg hA, if_neg ht, if_neg (by omega), hp, if_pos (hl0'.1 h8)]; exact ⟨⟨rfl, _, _, _, rfl⟩, rfl⟩
          · rw [openL, if_neg hA, if_neg ht, if_neg (by omega), hp, if_neg fun h => h8 (hl0'.2 h)]; exact ⟨rfl, rfl⟩
def sp_lopen : List D → Option (Prop × D × Fr)
  | [.c (.sl z343), .agg [.c (.int .u64 z345), .c (.int .u64 z346), .c (.int .u64 z347), .c (.int .u64 z348), .c (.int .u64 z349), .c (.sl z350), .c (.bool z351)]] => some (z343 = chs (dchs z343) ∧ z345 = (z345.toNat : Int) ∧ z346 = (z346.toNat : Int) ∧ z347 = (z347.toNat : Int) ∧ z348 = (z348.toNat : Int) ∧ z349 = (z349.toNat : Int) ∧ z350 = hds (dhds z350), lopen_r (dchs z343) (⟨z345.toNat, z346.toNat, z347.toNat, z348.toNat, z349.toNat, (dhds z350), z351⟩ : Ch), [])
  | _ => none
attribute [go_sem] sp_lopen
theorem sp_lopen_ok : ∀ rs p r fr, sp_lopen rs = some (p, r, fr) → p → FnOk Tryz.prog 94 rs r fr := by
  intro rs p r fr h hp
  unfold sp_lopen at h
  split at h <;> cases h
  obtain ⟨hc0, hc1, hc2, hc3, hc4, hc5, hc6⟩ := hp
  rename_i z343 z345 z346 z347 z348 z349 z350 z351
  obtain ⟨z343, rfl⟩ : ∃ m, z343 = chs m := ⟨_, hc0⟩
  obtain ⟨z345, rfl⟩ : ∃ m : Nat, z345 = m := ⟨_, hc1⟩
  obtain ⟨z346, rfl⟩ : ∃ m : Nat, z346 = m := ⟨_, hc2⟩
  obtain ⟨z347, rfl⟩ : ∃ m : Nat, z347 = m := ⟨_, hc3⟩
  obtain ⟨z348, rfl⟩ : ∃ m : Nat, z348 = m := ⟨_, hc4⟩
  obtain ⟨z349, rfl⟩ : ∃ m : Nat, z349 = m := ⟨_, hc5⟩
  obtain ⟨z350, rfl⟩ : ∃ m, z350 = hds m := ⟨_, hc6⟩
  simp only [Int.toNat_natCast, dchs_chs, dhds_hds]
  exact lopen_ok z343 ⟨z345, z346, z347, z348, z349, z350, z351⟩
end Dm
namespace Dm
open Go Go.Proofs Go.IntWalk
def cenC (c : Ch) (id : Nat) (paid : Bool) : Ch × Nat × Int :=
  if okCh c then (if Srt.thr Hd.key ltN c.holds id = true then
    (⟨c.id, if paid = true then c.loc else c.loc + (c.holds.getD (Srt.pos Hd.key ltN c.holds id) default).n, if paid = true then c.rem + (c.holds.getD (Srt.pos Hd.key ltN c.holds id) default).n else c.rem, c.res, c.most, c.holds.eraseIdx (Srt.pos Hd.key ltN c.holds id), c.op⟩, (c.holds.getD (Srt.pos Hd.key ltN c.holds id) default).n, 0)
    else (default, 0, 5)) else (default, 0, 1)
theorem hds_erase (l : List Hd) (i : Nat) : (hds l).eraseIdx i = hds (l.eraseIdx i) := by
  simp [hds, List.eraseIdx_eq_take_drop_succ]
theorem erase_perm {l : List Hd} {q : Nat} {x : Hd} (hq : q < l.length) (hx : l.getD q default = x) : l.Perm (x :: l.eraseIdx q) := by
  rw [getD_lt hq] at hx
  subst hx
  rw [List.eraseIdx_eq_take_drop_succ]
  conv => lhs; rw [show l = l.take q ++ l[q] :: l.drop (q + 1) by rw [List.getElem_cons_drop, List.take_append_drop]]
  exact List.perm_middle
theorem held_ge {l : List Hd} {q : Nat} (hq : q < l.length) : (l.getD q default).n ≤ held l := by
  have hpm := erase_perm hq rfl
  unfold held
  rw [(hpm.map Hd.n).sum_nat, List.map_cons, List.sum_cons]
  exact Nat.le_add_right _ _
@[go_sem] def cfail_r (c : Ch) (id : Nat) : D := .tup [.agg [.int .u64 (cenC c id false).1.id, .int .u64 (cenC c id false).1.loc, .int .u64 (cenC c id false).1.rem, .int .u64 (cenC c id false).1.res, .int .u64 (cenC c id false).1.most, .sl (hds (cenC c id false).1.holds), .bool (cenC c id false).1.op], .int .u64 (cenC c id false).2.1, .int .i64 (cenC c id false).2.2]
@[go_sem] abbrev n_cfail : FuncId := 147
@[go_sem] def cfail_T : Tab := [(183, sp_ccheck), (153, sp_hclonef), (218, sp_horder), fg 13]
theorem cfail_T_ok : TabOk Tryz.prog cfail_T := (TabOk.cons sp_ccheck_ok (TabOk.cons sp_hclonef_ok (TabOk.cons sp_horder_ok (TabOk.cons (fg_ok 13) TabOk.nil))))
set_option maxRecDepth 8000 in
set_option maxHeartbeats 1000000 in
theorem cfail_ok (c : Ch) (id : Nat)  : PureFn Tryz.prog 147 [.agg [.c (.int .u64 (c.id : Int)), .c (.int .u64 (c.loc : Int)), .c (.int .u64 (c.rem : Int)), .c (.int .u64 (c.res : Int)), .c (.int .u64 (c.most : Int)), .sl (hds c.holds), .c (.bool c.op)], .c (.int .u64 (id : Int))] (cfail_r c id) := by
  refine .of (ac147 cfail_T_ok (Nat.le_of_ble_eq_true rfl) ?_)
  simp -implicitDefEqProofs only [cdA, go_sem, Go.Proofs.Tryz.f147, reduceIte, List.cons.injEq, cdB]
  refine ac220 cfail_T_ok (Nat.le_of_ble_eq_true rfl) ?_
  simp -implicitDefEqProofs only [cdA, go_sem, Go.Proofs.Tryz.f220, reduceIte, List.cons.injEq, cdB]
  have hc0 : chkC c = 0 ↔ okCh c := by unfold chkC; split <;> rename_i h <;> simp only [h] <;> decide
  refine ⟨fun h0 => ?_, fun h0 => by
    have hno : ¬ okCh c := fun h => h0 (hc0.2 h)
    rw [cenC, chkC, if_neg hno, if_neg hno]; exact ⟨⟨rfl, rfl, rfl, rfl, rfl, rfl, rfl⟩, rfl, rfl⟩⟩
  have hok := hc0.1 h0
  have hu : Srt.Up Hd.key ltN c.holds := (Srt.chn_up (lt := ltN) Srt.totNat).1 hok.2.2.2.2.2.1
  have h64 := hok.2.2.1
  refine ac217 cfail_T_ok (Nat.le_of_ble_eq_true rfl) ?_
  simp -implicitDefEqProofs only [cdA, go_sem, Go.Proofs.Tryz.f217, reduceIte, List.cons.injEq, cdB]
  refine fun _ => SWp.loop (ι := { x : Nat × Nat // x.1 ≤ x.2 ∧ x.2 ≤ c.holds.length ∧ (∀ k, k < x.1 → (c.holds.getD k default).id < id) ∧ ∀ k, x.2 ≤ k → k < c.holds.length → ¬ (c.holds.getD k default).id < id }) (fun x => ⟨[(0, .sl (hds c.holds)), (1, .c (.int .u64 id)), (2, .fn (.func 218) [] []), (8, .int .i64 c.holds.length), (9, .int .i64 x.1.1), (10, .int .i64 x.1.2)],
    [(3, .box [.c (.int .u64 0), .c (.int .u64 0), .c (.int .u64 0), .c (.int .u64 0), .c (.int .u64 0), .nil, .c (.bool false)]), (2, .box [.c (.int .u64 c.id), .c (.int .u64 c.loc), .c (.int .u64 c.rem), .c (.int .u64 c.res), .c (.int .u64 c.most), .sl (hds c.holds), .c (.bool c.op)]), (1, .box [.c (.int .u64 0), .c (.int .u64 0), .c (.int .u64 0), .c (.int .u64 0), .c (.int .u64 0), .nil, .c (.bool false)]), (0, .box [.c (.int .u64 c.id), .c (.int .u64 c.loc), .c (.int .u64 c.rem), .c (.int .u64 c.res), .c (.int .u64 c.most), .sl (hds c.holds), .c (.bool c.op)])], 4⟩) (fun x => x.1.2 - x.1.1) ⟨(0, c.holds.length), by simp, by simp, fun k hk => absurd hk (by simp), fun k h1 h2 => absurd h1 (by simpa using h2)⟩ ?_ ?_
  · simp [go_sem]
  · rintro ⟨⟨i, j⟩, hij, hj, hlo, hup⟩
    dsimp only at hij hj hlo hup
    refine awp_sound cfail_T_ok.toS lv217 _ _ _ rfl ?_
    simp -implicitDefEqProofs only [cdA, go_sem, reduceIte, List.cons.injEq, cdB]
    rw [mid_eq hij hj ‹_›]
    refine ⟨fun h4 => ?_, fun h4 => ?_⟩
    · have hm : (i + j) / 2 < c.holds.length := by omega
      rw [cmpS_neg, Int.toNat_natCast]
      refine ⟨⟨by omega, by omega⟩, fun h5 => ⟨⟨((i + j) / 2 + 1, j), by dsimp only; omega, hj, fun k hk => ?_, hup⟩, by dsimp only; omega, i64_in _ (by omega), rfl⟩, fun h5 => ⟨⟨(i, (i + j) / 2), by dsimp only; omega, by dsimp only; omega, hlo, fun k hk1 hk2 => ?_⟩, by dsimp only; omega, rfl, rfl⟩⟩
      · dsimp only at hk
        by_cases hkm : k = (i + j) / 2
        · rw [hkm]; omega
        · have := Srt.up_get.1 hu k _ (by omega) hm
          simp only [ltN, Hd.key] at this; omega
      · dsimp only at hk1
        by_cases hkm : k = (i + j) / 2
        · rw [hkm]; omega
        · have := Srt.up_get.1 hu ((i + j) / 2) k (by omega) hk2
          simp only [ltN, Hd.key] at this; omega
    · have hp : Srt.pos Hd.key ltN c.holds id = i := Srt.pos_eq (by omega) hlo (fun h => hup i (by omega) h)
      have hth : Srt.thr Hd.key ltN c.holds id = decide (i < c.holds.length ∧ (c.holds.getD i default).id = id) := by rw [Srt.thr, hp]; rfl
      have hno : ¬ (i < c.holds.length ∧ (c.holds.getD i default).id = id) → cenC c id false = (default, 0, 5) := fun h => by
        rw [cenC, if_pos hok, if_neg (by rw [hth, decide_eq_true_eq]; exact h)]
      refine ⟨fun h5 => ⟨by omega, fun h6 => ⟨by omega, by omega, ?_⟩, fun h6 => ?_⟩, fun h5 => ?_⟩
      rotate_left 1
      · rw [hno fun h => h6 (cmpS_0.2 (by omega))]; exact ⟨⟨rfl, rfl, rfl, rfl, rfl, rfl, rfl⟩, rfl, rfl⟩
      · rw [hno fun h => h5 (by omega)]; exact ⟨⟨rfl, rfl, rfl, rfl, rfl, rfl, rfl⟩, rfl, rfl⟩
      have hi' : i < c.holds.length := by omega
      have ht : Srt.thr Hd.key ltN c.holds id = true := by rw [hth]; exact decide_eq_true ⟨hi', by have := cmpS_0.1 h6; omega⟩
      rw [i64_in _ (by omega)]
      refine ACall.opn 4 rfl (by rw [hds_length]; omega) fun cp hc hcm => ?_
      refine ACall.seal ?_
      rw [hds_length] at hc
      refine ac254 cfail_T_ok (Nat.le_of_ble_eq_true rfl) ?_
      simp -implicitDefEqProofs only [cdA, go_sem, Go.Proofs.Tryz.f254, reduceIte, List.cons.injEq, cdB]
      refine fun _ => ⟨⟨by omega, by omega, by omega⟩, fun h => absurd h (by omega), fun _ _ => ?_⟩
      refine ADraw.run us254_5 cfail_T_ok follows_mixed (by kernel_rfl) (by kernel_rfl) ?_
      simp -implicitDefEqProofs only [cdA, go_sem, reduceIte, List.cons.injEq, cdB]
      have eF : List.take c.holds.length (fit cp 2 (hds c.holds)) = hds c.holds := by rw [fit_take (by rw [hds_length]; exact Nat.le_refl _) hc, List.take_of_length_le (by rw [hds_length]; exact Nat.le_refl _)]
      have e2 : ((i : Int) + 1).toNat = i + 1 := by omega
      rw [eF, e2]
      have hD : ((hds c.holds).drop (i + 1)).length = c.holds.length - (i + 1) := by rw [List.length_drop, hds_length]
      have e3 : ((i : Int) + (((hds c.holds).drop (i + 1)).length : Int)).toNat = i + ((hds c.holds).drop (i + 1)).length := by omega
      simp only [e3]
      have hE : ∀ Z : List (List C), (fit cp 2 ((fit cp 2 ((fit cp 2 (hds c.holds)).take i ++ ((hds c.holds).drop (i + 1) ++ (fit cp 2 (hds c.holds)).drop (i + ((hds c.holds).drop (i + 1)).length)))).take (i + ((hds c.holds).drop (i + 1)).length) ++ Z)).take (i + ((hds c.holds).drop (i + 1)).length) = hds (c.holds.eraseIdx i) := fun Z => by
        rw [del_old (by rw [hds_length]; exact hi') (by rw [hds_length]; exact hc), hds_erase]
      rw [hE, hD]
      have hl1 : i + (c.holds.length - (i + 1)) = (c.holds.eraseIdx i).length := by rw [List.length_eraseIdx_of_lt hi']; omega
      rw [hl1]
      have hl2 : (c.holds.eraseIdx i).length = c.holds.length - 1 := List.length_eraseIdx_of_lt hi'
      refine ⟨by omega, ⟨by omega, by omega⟩, ⟨fun x hx => (of_eq_true (hds_wide c.holds)) x (List.mem_of_mem_drop hx), by omega⟩, fun _ => ⟨⟨by omega, by omega, by omega⟩, ?_⟩⟩
      refine ac221 cfail_T_ok (Nat.le_of_ble_eq_true rfl) ?_
      simp -implicitDefEqProofs only [cdA, go_sem, Go.Proofs.Tryz.f221, reduceIte, List.cons.injEq, cdB]
      have ec : cenC c id false = (⟨c.id, if (false : Bool) = true then c.loc else c.loc + (c.holds.getD i default).n, if (false : Bool) = true then c.rem + (c.holds.getD i default).n else c.rem, c.res, c.most, c.holds.eraseIdx i, c.op⟩, (c.holds.getD i default).n, 0) := by
        rw [cenC, if_pos hok, if_pos ht, hp]
      have hge := held_ge hi'
      have hsum := hok.2.2.2.2.2.2.2.2.2
      unfold MM at hsum
      rw [ec]
      dsimp only
      rw [if_neg (by decide), if_neg (by decide), u64_in _ (by omega)]
      exact ⟨⟨rfl, by omega, by omega, rfl, rfl, ⟨rfl, _, _, _, rfl⟩, rfl⟩, rfl, rfl⟩
def sp_cfail : List D → Option (Prop × D × Fr)
  | [.agg [.c (.int .u64 z2), .c (.int .u64 z3), .c (.int .u64 z4), .c (.int .u64 z5), .c (.int .u64 z6), .c (.sl z7), .c (.bool z8)], .c (.int .u64 z9)] => some (z2 = (z2.toNat : Int) ∧ z3 = (z3.toNat : Int) ∧ z4 = (z4.toNat : Int) ∧ z5 = (z5.toNat : Int) ∧ z6 = (z6.toNat : Int) ∧ z7 = hds (dhds z7) ∧ z9 = (z9.toNat : Int), cfail_r (⟨z2.toNat, z3.toNat, z4.toNat, z5.toNat, z6.toNat, (dhds z7), z8⟩ : Ch) z9.toNat, [])
  | _ => none
attribute [go_sem] sp_cfail
theorem sp_cfail_ok : ∀ rs p r fr, sp_cfail rs = some (p, r, fr) → p → FnOk Tryz.prog 147 rs r fr := by
  intro rs p r fr h hp
  unfold sp_cfail at h
  split at h <;> cases h
  obtain ⟨hc0, hc1, hc2, hc3, hc4, hc5, hc6⟩ := hp
  rename_i z2 z3 z4 z5 z6 z7 z8 z9
  obtain ⟨z2, rfl⟩ : ∃ m : Nat, z2 = m := ⟨_, hc0⟩
  obtain ⟨z3, rfl⟩ : ∃ m : Nat, z3 = m := ⟨_, hc1⟩
  obtain ⟨z4, rfl⟩ : ∃ m : Nat, z4 = m := ⟨_, hc2⟩
  obtain ⟨z5, rfl⟩ : ∃ m : Nat, z5 = m := ⟨_, hc3⟩
  obtain ⟨z6, rfl⟩ : ∃ m : Nat, z6 = m := ⟨_, hc4⟩
  obtain ⟨z7, rfl⟩ : ∃ m, z7 = hds m := ⟨_, hc5⟩
  obtain ⟨z9, rfl⟩ : ∃ m : Nat, z9 = m := ⟨_, hc6⟩
  simp only [Int.toNat_natCast, dhds_hds]
  exact cfail_ok ⟨z2, z3, z4, z5, z6, z7, z8⟩ z9
@[go_sem] def csettle_r (c : Ch) (id : Nat) : D := .tup [.agg [.int .u64 (cenC c id true).1.id, .int .u64 (cenC c id true).1.loc, .int .u64 (cenC c id true).1.rem, .int .u64 (cenC c id true).1.res, .int .u64 (cenC c id true).1.most, .sl (hds (cenC c id true).1.holds), .bool (cenC c id true).1.op], .int .u64 (cenC c id true).2.1, .int .i64 (cenC c id true).2.2]
@[go_sem] abbrev n_csettle : FuncId := 148
@[go_sem] def csettle_T : Tab := [(183, sp_ccheck), (153, sp_hclonef), (218, sp_horder), fg 13]
theorem csettle_T_ok : TabOk Tryz.prog csettle_T := (TabOk.cons sp_ccheck_ok (TabOk.cons sp_hclonef_ok (TabOk.cons sp_horder_ok (TabOk.cons (fg_ok 13) TabOk.nil))))
set_option maxRecDepth 8000 in
set_option maxHeartbeats 1000000 in
theorem csettle_ok (c : Ch) (id : Nat)  : PureFn Tryz.prog 148 [.agg [.c (.int .u64 (c.id : Int)), .c (.int .u64 (c.loc : Int)), .c (.int .u64 (c.rem : Int)), .c (.int .u64 (c.res : Int)), .c (.int .u64 (c.most : Int)), .sl (hds c.holds), .c (.bool c.op)], .c (.int .u64 (id : Int))] (csettle_r c id) := by
  refine .of (ac148 csettle_T_ok (Nat.le_of_ble_eq_true rfl) ?_)
  simp -implicitDefEqProofs only [cdA, go_sem, Go.Proofs.Tryz.f148, reduceIte, List.cons.injEq, cdB]
  refine ac220 csettle_T_ok (Nat.le_of_ble_eq_true rfl) ?_
  simp -implicitDefEqProofs only [cdA, go_sem, Go.Proofs.Tryz.f220, reduceIte, List.cons.injEq, cdB]
  have hc0 : chkC c = 0 ↔ okCh c := by unfold chkC; split <;> rename_i h <;> simp only [h] <;> decide
  refine ⟨fun h0 => ?_, fun h0 => by
    have hno : ¬ okCh c := fun h => h0 (hc0.2 h)
    rw [cenC, chkC, if_neg hno, if_neg hno]; exact ⟨⟨rfl, rfl, rfl, rfl, rfl, rfl, rfl⟩, rfl, rfl⟩⟩
  have hok := hc0.1 h0
  have hu : Srt.Up Hd.key ltN c.holds := (Srt.chn_up (lt := ltN) Srt.totNat).1 hok.2.2.2.2.2.1
  have h64 := hok.2.2.1
  refine ac217 csettle_T_ok (Nat.le_of_ble_eq_true rfl) ?_
  simp -implicitDefEqProofs only [cdA, go_sem, Go.Proofs.Tryz.f217, reduceIte, List.cons.injEq, cdB]
  refine fun _ => SWp.loop (ι := { x : Nat × Nat // x.1 ≤ x.2 ∧ x.2 ≤ c.holds.length ∧ (∀ k, k < x.1 → (c.holds.getD k default).id < id) ∧ ∀ k, x.2 ≤ k → k < c.holds.length → ¬ (c.holds.getD k default).id < id }) (fun x => ⟨[(0, .sl (hds c.holds)), (1, .c (.int .u64 id)), (2, .fn (.func 218) [] []), (8, .int .i64 c.holds.length), (9, .int .i64 x.1.1), (10, .int .i64 x.1.2)],
    [(3, .box [.c (.int .u64 0), .c (.int .u64 0), .c (.int .u64 0), .c (.int .u64 0), .c (.int .u64 0), .nil, .c (.bool false)]), (2, .box [.c (.int .u64 c.id), .c (.int .u64 c.loc), .c (.int .u64 c.rem), .c (.int .u64 c.res), .c (.int .u64 c.most), .sl (hds c.holds), .c (.bool c.op)]), (1, .box [.c (.int .u64 0), .c (.int .u64 0), .c (.int .u64 0), .c (.int .u64 0), .c (.int .u64 0), .nil, .c (.bool false)]), (0, .box [.c (.int .u64 c.id), .c (.int .u64 c.loc), .c (.int .u64 c.rem), .c (.int .u64 c.res), .c (.int .u64 c.most), .sl (hds c.holds), .c (.bool c.op)])], 4⟩) (fun x => x.1.2 - x.1.1) ⟨(0, c.holds.length), by simp, by simp, fun k hk => absurd hk (by simp), fun k h1 h2 => absurd h1 (by simpa using h2)⟩ ?_ ?_
  · simp [go_sem]
  · rintro ⟨⟨i, j⟩, hij, hj, hlo, hup⟩
    dsimp only at hij hj hlo hup
    refine awp_sound csettle_T_ok.toS lv217 _ _ _ rfl ?_
    simp -implicitDefEqProofs only [cdA, go_sem, reduceIte, List.cons.injEq, cdB]
    rw [mid_eq hij hj ‹_›]
    refine ⟨fun h4 => ?_, fun h4 => ?_⟩
    · have hm : (i + j) / 2 < c.holds.length := by omega
      rw [cmpS_neg, Int.toNat_natCast]
      refine ⟨⟨by omega, by omega⟩, fun h5 => ⟨⟨((i + j) / 2 + 1, j), by dsimp only; omega, hj, fun k hk => ?_, hup⟩, by dsimp only; omega, i64_in _ (by omega), rfl⟩, fun h5 => ⟨⟨(i, (i + j) / 2), by dsimp only; omega, by dsimp only; omega, hlo, fun k hk1 hk2 => ?_⟩, by dsimp only; omega, rfl, rfl⟩⟩
      · dsimp only at hk
        by_cases hkm : k = (i + j) / 2
        · rw [hkm]; omega
        · have := Srt.up_get.1 hu k _ (by omega) hm
          simp only [ltN, Hd.key] at this; omega
      · dsimp only at hk1
        by_cases hkm : k = (i + j) / 2
        · rw [hkm]; omega
        · have := Srt.up_get.1 hu ((i + j) / 2) k (by omega) hk2
          simp only [ltN, Hd.key] at this; omega
    · have hp : Srt.pos Hd.key ltN c.holds id = i := Srt.pos_eq (by omega) hlo (fun h => hup i (by omega) h)
      have hth : Srt.thr Hd.key ltN c.holds id = decide (i < c.holds.length ∧ (c.holds.getD i default).id = id) := by rw [Srt.thr, hp]; rfl
      have hno : ¬ (i < c.holds.length ∧ (c.holds.getD i default).id = id) → cenC c id true = (default, 0, 5) := fun h => by
        rw [cenC, if_pos hok, if_neg (by rw [hth, decide_eq_true_eq]; exact h)]
      refine ⟨fun h5 => ⟨by omega, fun h6 => ⟨by omega, by omega, ?_⟩, fun h6 => ?_⟩, fun h5 => ?_⟩
      rotate_left 1
      · rw [hno fun h => h6 (cmpS_0.2 (by omega))]; exact ⟨⟨rfl, rfl, rfl, rfl, rfl, rfl, rfl⟩, rfl, rfl⟩
      · rw [hno fun h => h5 (by omega)]; exact ⟨⟨rfl, rfl, rfl, rfl, rfl, rfl, rfl⟩, rfl, rfl⟩
      have hi' : i < c.holds.length := by omega
      have ht : Srt.thr Hd.key ltN c.holds id = true := by rw [hth]; exact decide_eq_true ⟨hi', by have := cmpS_0.1 h6; omega⟩
      rw [i64_in _ (by omega)]
      refine ACall.opn 4 rfl (by rw [hds_length]; omega) fun cp hc hcm => ?_
      refine ACall.seal ?_
      rw [hds_length] at hc
      refine ac254 csettle_T_ok (Nat.le_of_ble_eq_true rfl) ?_
      simp -implicitDefEqProofs only [cdA, go_sem, Go.Proofs.Tryz.f254, reduceIte, List.cons.injEq, cdB]
      refine fun _ => ⟨⟨by omega, by omega, by omega⟩, fun h => absurd h (by omega), fun _ _ => ?_⟩
      refine ADraw.run us254_5 csettle_T_ok follows_mixed (by kernel_rfl) (by kernel_rfl) ?_
      simp -implicitDefEqProofs only [cdA, go_sem, reduceIte, List.cons.injEq, cdB]
      have eF : List.take c.holds.length (fit cp 2 (hds c.holds)) = hds c.holds := by rw [fit_take (by rw [hds_length]; exact Nat.le_refl _) hc, List.take_of_length_le (by rw [hds_length]; exact Nat.le_refl _)]
      have e2 : ((i : Int) + 1).toNat = i + 1 := by omega
      rw [eF, e2]
      have hD : ((hds c.holds).drop (i + 1)).length = c.holds.length - (i + 1) := by rw [List.length_drop, hds_length]
      have e3 : ((i : Int) + (((hds c.holds).drop (i + 1)).length : Int)).toNat = i + ((hds c.holds).drop (i + 1)).length := by omega
      simp only [e3]
      have hE : ∀ Z : List (List C), (fit cp 2 ((fit cp 2 ((fit cp 2 (hds c.holds)).take i ++ ((hds c.holds).drop (i + 1) ++ (fit cp 2 (hds c.holds)).drop (i + ((hds c.holds).drop (i + 1)).length)))).take (i + ((hds c.holds).drop (i + 1)).length) ++ Z)).take (i + ((hds c.holds).drop (i + 1)).length) = hds (c.holds.eraseIdx i) := fun Z => by
        rw [del_old (by rw [hds_length]; exact hi') (by rw [hds_length]; exact hc), hds_erase]
      rw [hE, hD]
      have hl1 : i + (c.holds.length - (i + 1)) = (c.holds.eraseIdx i).length := by rw [List.length_eraseIdx_of_lt hi']; omega
      rw [hl1]
      have hl2 : (c.holds.eraseIdx i).length = c.holds.length - 1 := List.length_eraseIdx_of_lt hi'
      refine ⟨by omega, ⟨by omega, by omega⟩, ⟨fun x hx => (of_eq_true (hds_wide c.holds)) x (List.mem_of_mem_drop hx), by omega⟩, fun _ => ⟨⟨by omega, by omega, by omega⟩, ?_⟩⟩
      refine ac222 csettle_T_ok (Nat.le_of_ble_eq_true rfl) ?_
      simp -implicitDefEqProofs only [cdA, go_sem, Go.Proofs.Tryz.f222, reduceIte, List.cons.injEq, cdB]
      have ec : cenC c id true = (⟨c.id, if (true : Bool) = true then c.loc else c.loc + (c.holds.getD i default).n, if (true : Bool) = true then c.rem + (c.holds.getD i default).n else c.rem, c.res, c.most, c.holds.eraseIdx i, c.op⟩, (c.holds.getD i default).n, 0) := by
        rw [cenC, if_pos hok, if_pos ht, hp]
      have hge := held_ge hi'
      have hsum := hok.2.2.2.2.2.2.2.2.2
      unfold MM at hsum
      rw [ec]
      dsimp only
      rw [if_pos (by decide), if_pos (by decide), u64_in _ (by omega)]
      exact ⟨⟨rfl, by omega, by omega, rfl, rfl, ⟨rfl, _, _, _, rfl⟩, rfl⟩, rfl, rfl⟩
def sp_csettle : List D → Option (Prop × D × Fr)
  | [.agg [.c (.int .u64 z11), .c (.int .u64 z12), .c (.int .u64 z13), .c (.int .u64 z14), .c (.int .u64 z15), .c (.sl z16), .c (.bool z17)], .c (.int .u64 z18)] => some (z11 = (z11.toNat : Int) ∧ z12 = (z12.toNat : Int) ∧ z13 = (z13.toNat : Int) ∧ z14 = (z14.toNat : Int) ∧ z15 = (z15.toNat : Int) ∧ z16 = hds (dhds z16) ∧ z18 = (z18.toNat : Int), csettle_r (⟨z11.toNat, z12.toNat, z13.toNat, z14.toNat, z15.toNat, (dhds z16), z17⟩ : Ch) z18.toNat, [])
  | _ => none
attribute [go_sem] sp_csettle
theorem sp_csettle_ok : ∀ rs p r fr, sp_csettle rs = some (p, r, fr) → p → FnOk Tryz.prog 148 rs r fr := by
  intro rs p r fr h hp
  unfold sp_csettle at h
  split at h <;> cases h
  obtain ⟨hc0, hc1, hc2, hc3, hc4, hc5, hc6⟩ := hp
  rename_i z11 z12 z13 z14 z15 z16 z17 z18
  obtain ⟨z11, rfl⟩ : ∃ m : Nat, z11 = m := ⟨_, hc0⟩
  obtain ⟨z12, rfl⟩ : ∃ m : Nat, z12 = m := ⟨_, hc1⟩
  obtain ⟨z13, rfl⟩ : ∃ m : Nat, z13 = m := ⟨_, hc2⟩
  obtain ⟨z14, rfl⟩ : ∃ m : Nat, z14 = m := ⟨_, hc3⟩
  obtain ⟨z15, rfl⟩ : ∃ m : Nat, z15 = m := ⟨_, hc4⟩
  obtain ⟨z16, rfl⟩ : ∃ m, z16 = hds m := ⟨_, hc5⟩
  obtain ⟨z18, rfl⟩ : ∃ m : Nat, z18 = m := ⟨_, hc6⟩
  simp only [Int.toNat_natCast, dhds_hds]
  exact csettle_ok ⟨z11, z12, z13, z14, z15, z16, z17⟩ z18
end Dm
namespace Dm
open Go Go.Proofs Go.IntWalk
theorem thr_at {α κ : Type} [Inhabited α] [DecidableEq κ] {key : α → κ} {lt : κ → κ → Prop} [DecidableRel lt] {l : List α} {k : κ} (h : Srt.thr key lt l k = true) : Srt.pos key lt l k < l.length ∧ key (l.getD (Srt.pos key lt l k) default) = k := by
  unfold Srt.thr at h; exact of_decide_eq_true h
theorem hm_in : ∀ {l : List Ch} {s : Int} {k : Nat} {a : Int}, (k, a) ∈ hm s l → ∃ i : Nat, i < l.length ∧ a = s + i ∧ ∃ x ∈ (l.getD i default).holds, x.id = k
  | [], _, _, _, h => absurd h (by simp [hm])
  | c :: l, s, k, a, h => by
    rw [hm, List.mem_append] at h
    rcases h with h | h
    · obtain ⟨x, hx, he⟩ := List.mem_map.1 h
      rw [Prod.mk.injEq] at he
      exact ⟨0, by simp, by rw [← he.2]; simp, x, by simpa using hx, he.1⟩
    · obtain ⟨i, hi, ha, x, hx, hk⟩ := hm_in h
      exact ⟨i + 1, by simpa using hi, by omega, x, by simpa using hx, hk⟩
theorem where_at {l : List Ch} {h : Nat} (h0 : (whereI l h).2 = 0) : okLd l ∧ ∃ c ∈ l, (whereI l h).1 = c.id ∧ ∃ x ∈ c.holds, x.id = h := by
  unfold whereI at h0 ⊢
  split at h0
  · rename_i hok
    rw [if_pos hok]
    refine ⟨hok, ?_⟩
    split at h0
    · rename_i a ha
      have hnd : ((hm 0 l).map (·.1)).Nodup := by rw [hm_keys]; exact hok.2.2.2.1
      obtain ⟨i, hi, rfl, x, hx, hk⟩ := hm_in ((nlk_some hnd).1 ha)
      refine ⟨l.getD i default, mem_getD.2 ⟨i, hi, rfl⟩, ?_, x, hx, hk⟩
      simp only [ha]
      rw [show ((0 : Int) + (i : Int)).toNat = i by omega]
    · cases h0
  · cases h0
theorem cen_at {c : Ch} {h : Nat} {paid : Bool} {x : Hd} (hok : okCh c) (hx : x ∈ c.holds) (hk : x.id = h) : ∃ q, q = Srt.pos Hd.key ltN c.holds h ∧ q < c.holds.length ∧ c.holds.getD q default = x ∧
    cenC c h paid = (⟨c.id, if paid = true then c.loc else c.loc + x.n, if paid = true then c.rem + x.n else c.rem, c.res, c.most, c.holds.eraseIdx q, c.op⟩, x.n, 0) := by
  have hu : Srt.Up Hd.key ltN c.holds := (Srt.chn_up (lt := ltN) Srt.totNat).1 hok.2.2.2.2.2.1
  have ht : Srt.thr Hd.key ltN c.holds h = true := (Srt.thr_iff Srt.totNat hu).2 ⟨x, hx, hk⟩
  obtain ⟨h1, h2⟩ := thr_at ht
  have h3 := Srt.up_inj (key := Hd.key) (lt := ltN) Srt.totNat hu (mem_getD.2 ⟨_, h1, rfl⟩) hx (h2.trans hk.symm)
  refine ⟨_, rfl, h1, h3, ?_⟩
  rw [cenC, if_pos hok, if_pos ht, h3]
theorem place_at {l : List Ch} {c : Ch} (hok : okLd l) (hc : c ∈ l) : ∃ p : Nat, p = Srt.pos Ch.id ltN l c.id ∧ p < l.length ∧ l.getD p default = c ∧ placeL l c.id = ((p : Int), 0) := by
  have hu : Srt.Up Ch.id ltN l := (Srt.chn_up (lt := ltN) Srt.totNat).1 hok.2.2.1
  have ht : Srt.thr Ch.id ltN l c.id = true := (Srt.thr_iff Srt.totNat hu).2 ⟨c, hc, rfl⟩
  obtain ⟨h1, h2⟩ := thr_at ht
  have h3 := Srt.up_inj (key := Ch.id) (lt := ltN) Srt.totNat hu (mem_getD.2 ⟨_, h1, rfl⟩) hc h2
  exact ⟨_, rfl, h1, h3, by rw [placeL, if_pos hok, if_pos ht]⟩
def lendL (l : List Ch) (h : Nat) (paid : Bool) : List Ch × Nat × Int :=
  if (whereI l h).2 = 0 then (if (placeL l (whereI l h).1).2 = 0 then (if (cenC (l.getD (placeL l (whereI l h).1).1.toNat default) h paid).2.2 = 0 then (l.set (placeL l (whereI l h).1).1.toNat (cenC (l.getD (placeL l (whereI l h).1).1.toNat default) h paid).1, (cenC (l.getD (placeL l (whereI l h).1).1.toNat default) h paid).2.1, 0) else ([], 0, (cenC (l.getD (placeL l (whereI l h).1).1.toNat default) h paid).2.2)) else ([], 0, (placeL l (whereI l h).1).2)) else ([], 0, (whereI l h).2)
@[go_sem] def lendc_r (l : List Ch) (h : Nat) (paid : Bool) : D := .tup [.sl (chs (lendL l h paid).1), .int .u64 ((lendL l h paid).2.1 : Int), .int .i64 (lendL l h paid).2.2]
@[go_sem] abbrev n_lendc : FuncId := 61
@[go_sem] def lendc_T : Tab := [(14, sp_lwhere), (63, sp_place), (147, sp_cfail), (148, sp_csettle), (185, sp_owns)]
theorem lendc_T_ok : TabOk Tryz.prog lendc_T := (TabOk.cons sp_lwhere_ok (TabOk.cons sp_place_ok (TabOk.cons sp_cfail_ok (TabOk.cons sp_csettle_ok (TabOk.cons sp_owns_ok TabOk.nil)))))
set_option maxRecDepth 8000 in
set_option maxHeartbeats 1000000 in
theorem lendc_ok (l : List Ch) (h : Nat) (paid : Bool)  : PureFn Tryz.prog 61 [.sl (chs l), .c (.int .u64 (h : Int)), .c (.bool paid)] (lendc_r l h paid) := by
  refine .of (ac61 lendc_T_ok (Nat.le_of_ble_eq_true rfl) ?_)
  simp -implicitDefEqProofs only [cdA, go_sem, Go.Proofs.Tryz.f61, reduceIte, List.cons.injEq, cdB]
  refine ⟨fun hw => ?_, fun hw => by rw [lendL, if_neg hw]; exact ⟨rfl, rfl, rfl⟩⟩
  rw [lendL, if_pos hw]
  obtain ⟨hok, c, hc, hwc, x, hx, hk⟩ := where_at hw
  rw [hwc]
  obtain ⟨p, hpp, hp, hpc, ep⟩ := place_at hok hc
  have hcc := hok.2.1 c hc
  rw [ep]
  dsimp only
  rw [if_pos rfl, Int.toNat_natCast, hpc]
  have e2 : (cenC c h paid).2.2 = 0 := by
    obtain ⟨q, _, _, _, e⟩ := cen_at (paid := paid) hcc hx hk
    rw [e]
  rw [if_pos e2]
  refine ac137 lendc_T_ok (Nat.le_of_ble_eq_true rfl) ?_
  simp -implicitDefEqProofs only [cdA, go_sem, Go.Proofs.Tryz.f137, reduceIte, List.cons.injEq, cdB]
  rw [ep]
  refine ⟨fun _ => ⟨⟨by omega, by omega⟩, ?_⟩, fun h => absurd rfl h⟩
  refine ac146 lendc_T_ok (Nat.le_of_ble_eq_true rfl) ?_
  simp -implicitDefEqProofs only [cdA, go_sem, Go.Proofs.Tryz.f146, reduceIte, List.cons.injEq, cdB]
  rw [hpc]
  have h32 : l.length ≤ 1000000 ∧ ∀ c ∈ l, c.holds.length ≤ 1000000 := ⟨by have := hok.1; omega, fun c hc => by have := (hok.2.1 c hc).2.2.1; omega⟩
  refine ⟨fun hpd => ?_, fun hpd => ?_⟩
  · subst hpd
    refine ⟨fun _ => ⟨h32, by omega, hp, ?_⟩, fun h => absurd e2 h⟩
    refine ADraw.run us61_5 lendc_T_ok follows_mixed (by kernel_rfl) (by kernel_rfl) ?_
    simp -implicitDefEqProofs only [cdA, go_sem, reduceIte, List.cons.injEq, cdB]
    exact ⟨_, _, _, rfl⟩
  · subst hpd
    refine ⟨fun _ => ⟨h32, by omega, hp, ?_⟩, fun h => absurd e2 h⟩
    refine ADraw.run us61_5 lendc_T_ok follows_mixed (by kernel_rfl) (by kernel_rfl) ?_
    simp -implicitDefEqProofs only [cdA, go_sem, reduceIte, List.cons.injEq, cdB]
    exact ⟨_, _, _, rfl⟩
def sp_lendc : List D → Option (Prop × D × Fr)
  | [.c (.sl z1), .c (.int .u64 z2), .c (.bool z3)] => some (z1 = chs (dchs z1) ∧ z2 = (z2.toNat : Int), lendc_r (dchs z1) z2.toNat z3, [])
  | _ => none
attribute [go_sem] sp_lendc
theorem sp_lendc_ok : ∀ rs p r fr, sp_lendc rs = some (p, r, fr) → p → FnOk Tryz.prog 61 rs r fr := by
  intro rs p r fr h hp
  unfold sp_lendc at h
  split at h <;> cases h
  obtain ⟨hc0, hc1⟩ := hp
  rename_i z1 z2 z3
  obtain ⟨z1, rfl⟩ : ∃ m, z1 = chs m := ⟨_, hc0⟩
  obtain ⟨z2, rfl⟩ : ∃ m : Nat, z2 = m := ⟨_, hc1⟩
  simp only [Int.toNat_natCast, dchs_chs]
  exact lendc_ok z1 z2 z3
end Dm
namespace Dm
open Go Go.Proofs Go.IntWalk
theorem pend_len {l : List Py} {id : Nat} {paid : Bool} (h : (pendL l id paid).2 = 0) : (pendL l id paid).1.length ≤ 256 := by
  unfold pendL at h ⊢
  split at h
  · rename_i h1
    split at h
    · rename_i h2
      split at h
      · rename_i h3
        rw [if_pos h1, if_pos h2, if_pos h3, List.length_set]; exact h1.1
      · cases h
    · cases h
  · cases h
theorem cen_ok {c : Ch} {h : Nat} {paid : Bool} {x : Hd} (hok : okCh c) (hx : x ∈ c.holds) (hk : x.id = h) : okCh (cenC c h paid).1 ∧ allC (cenC c h paid).1 = allC c ∧ (cenC c h paid).1.id = c.id ∧ c.holds.Perm (x :: (cenC c h paid).1.holds) := by
  obtain ⟨q, hq, hl, hg, e⟩ := cen_at (paid := paid) hok hx hk
  have hpm := erase_perm hl hg
  obtain ⟨o1, o2, o3, o4, o5, o6, o7, o8, o9, o10⟩ := hok
  have hok : okCh c := ⟨o1, o2, o3, o4, o5, o6, o7, o8, o9, o10⟩
  have hh : held c.holds = x.n + held (c.holds.eraseIdx q) := by
    unfold held
    rw [(hpm.map Hd.n).sum_nat, List.map_cons, List.sum_cons]
  have hop : ¬ c.op = false := fun h => by rw [o4 h] at hx; cases hx
  rw [e]
  dsimp only
  have hok2 : okCh (⟨c.id, if paid = true then c.loc else c.loc + x.n, if paid = true then c.rem + x.n else c.rem, c.res, c.most, c.holds.eraseIdx q, c.op⟩ : Ch) := by
    refine ⟨o1, o2, ?_, fun h => absurd h hop, fun y hy => o5 y (List.mem_of_mem_eraseIdx hy), (Srt.chn_up (lt := ltN) Srt.totNat).2 ?_, ?_, ?_, ?_, ?_⟩
    · show (c.holds.eraseIdx q).length ≤ 64
      rw [List.length_eraseIdx_of_lt hl]; omega
    · exact List.Pairwise.sublist (List.eraseIdx_sublist _ _) ((Srt.chn_up (lt := ltN) Srt.totNat).1 o6)
    · show held (c.holds.eraseIdx q) ≤ c.most; omega
    · show (if paid = true then c.loc else c.loc + x.n) ≤ MM
      unfold MM at *; split <;> omega
    · show (if paid = true then c.rem + x.n else c.rem) ≤ MM
      unfold MM at *; split <;> omega
    · show held (c.holds.eraseIdx q) + (if paid = true then c.loc else c.loc + x.n) + (if paid = true then c.rem + x.n else c.rem) ≤ MM
      unfold MM at *; split <;> omega
  refine ⟨hok2, ?_, rfl, hpm⟩
  unfold allC sumsC
  rw [if_pos hok2, if_pos hok]
  show held (c.holds.eraseIdx q) + (if paid = true then c.loc else c.loc + x.n) + (if paid = true then c.rem + x.n else c.rem) = held c.holds + c.loc + c.rem
  split <;> omega
theorem lend_at {l : List Ch} {h : Nat} (paid : Bool) (h0 : (whereI l h).2 = 0) : okLd l ∧ ∃ c ∈ l, ∃ x ∈ c.holds, x.id = h ∧ ∃ p, p < l.length ∧ p = Srt.pos Ch.id ltN l c.id ∧ l.getD p default = c ∧ okCh c ∧ lendL l h paid = (l.set p (cenC c h paid).1, x.n, 0) := by
  obtain ⟨hok, c, hc, hw, x, hx, hk⟩ := where_at h0
  obtain ⟨p, hp, hpl, hpc, e⟩ := place_at hok hc
  have hcc := hok.2.1 c hc
  obtain ⟨q, _, _, _, e2⟩ := cen_at (paid := paid) hcc hx hk
  refine ⟨hok, c, hc, x, hx, hk, p, hpl, hp, hpc, hcc, ?_⟩
  have e3 : (placeL l c.id).1.toNat = p := by rw [e]; rfl
  rw [lendL, if_pos h0, hw, if_pos (by rw [e]), e3, hpc, if_pos (by rw [e2])]
  rw [e2]
theorem lend_0 {l : List Ch} {h : Nat} {paid : Bool} : (lendL l h paid).2.2 = 0 ↔ (whereI l h).2 = 0 := by
  refine ⟨fun h0 => Decidable.byContradiction fun hn => ?_, fun h0 => ?_⟩
  · rw [lendL, if_neg hn] at h0; exact hn h0
  · obtain ⟨_, c, _, x, _, _, p, _, _, _, _, e⟩ := lend_at paid h0
    rw [e]
theorem set_set_self {l : List Ch} {p : Nat} {d : Ch} (hp : p < l.length) : (l.set p d).set p (l.getD p default) = l := by
  rw [List.set_set, getD_lt hp]; exact List.set_getElem_self hp
theorem lend_all {l : List Ch} {h : Nat} {paid : Bool} (h0 : (lendL l h paid).2.2 = 0) : okLd l ∧ okLd (lendL l h paid).1 ∧ totL (lendL l h paid).1 = totL l ∧ ∃ c ∈ l, ∃ x ∈ c.holds, x.id = h ∧ (lendL l h paid).2.1 = x.n ∧ (hlL l).Perm ((c.id, h, x.n) :: hlL (lendL l h paid).1) ∧ (hidL l).Perm (h :: hidL (lendL l h paid).1) := by
  obtain ⟨hok, c, hc, x, hx, hk, p, hp, hpp, hpc, hcc, e⟩ := lend_at paid (lend_0.1 h0)
  obtain ⟨c1, c2, c3, c4⟩ := cen_ok (paid := paid) hcc hx hk
  have hu : Srt.Up Ch.id ltN l := (Srt.chn_up (lt := ltN) Srt.totNat).1 hok.2.2.1
  rw [e]
  dsimp only
  generalize (cenC c h paid).1 = d at *
  have hpl : p < (l.set p d).length := by rw [List.length_set]; exact hp
  have hgd : (l.set p d).getD p default = d := by rw [Srt.set_getD hp, if_pos rfl]
  have hss := set_set_self (d := d) hp
  rw [hpc] at hss
  have hh := hlL_set (l := l.set p d) (p := p) (d := c) (x := x) hpl (by rw [hgd]; exact c3.symm) (by rw [hgd]; exact c4)
  have hi := hidL_set (l := l.set p d) (p := p) (d := c) (x := x) hpl (by rw [hgd]; exact c4)
  rw [hss] at hh hi
  rw [hk] at hh hi
  have ht := totL_set (l := l) (p := p) (d := d) hp (by rw [hpc]; exact c2)
  refine ⟨hok, ⟨by rw [List.length_set]; exact hok.1, fun y hy => ?_, ?_, ?_, by rw [ht]; exact hok.2.2.2.2⟩, ht, c, hc, x, hx, hk, rfl, hh, hi⟩
  · rcases List.mem_or_eq_of_mem_set hy with h | rfl
    · exact hok.2.1 y h
    · exact c1
  · exact (Srt.chn_up (lt := ltN) Srt.totNat).2 (Srt.set_up hu hp (by rw [hpc]; exact c3))
  · have := hok.2.2.2.1
    rw [hi.nodup_iff, List.nodup_cons] at this
    exact this.2
theorem lend_fine {l : List Ch} {h : Nat} {paid : Bool} (h0 : ((lendL l h paid).1, (lendL l h paid).2.2).2 = 0) : okLd (lendL l h paid).1 := (lend_all h0).2.1
end Dm
namespace Dm
open Go Go.Proofs Go.IntWalk
theorem hl_hid {l : List Ch} {a b n : Nat} (h : (a, b, n) ∈ hlL l) : b ∈ hidL l := by
  obtain ⟨c, hc, hm⟩ := List.mem_flatMap.1 h
  obtain ⟨x, hx, he⟩ := List.mem_map.1 hm
  simp only [Prod.mk.injEq] at he
  exact List.mem_flatMap.2 ⟨c, hc, List.mem_map.2 ⟨x, hx, he.2.1⟩⟩
theorem pend_at {l : List Py} {id : Nat} {paid : Bool} (h : (pendL l id paid).2 = 0) : okPy l ∧ ∃ r q, r < l.length ∧ l.getD r default = q ∧ q.id = id ∧ q.state = 1 ∧ r = Srt.pos Py.id ltN l id ∧ (pendL l id paid).1 = l.set r { q with state := if paid = true then 2 else 3 } := by
  unfold pendL at h ⊢
  split at h
  · rename_i h1
    split at h
    · rename_i h2
      split at h
      · rename_i h3
        obtain ⟨g1, g2⟩ := thr_at h2
        rw [if_pos h1, if_pos h2, if_pos h3]
        exact ⟨h1, _, _, g1, rfl, g2, h3, rfl, rfl⟩
      · cases h
    · cases h
  · cases h
theorem psplit_at {l : List Py} {p : Nat} (hp : p < l.length) : l = l.take p ++ l.getD p default :: l.drop (p + 1) := by
  rw [getD_lt hp, List.getElem_cons_drop, List.take_append_drop]
theorem pend_cons {a b : List Py} {q : Py} : pend (a ++ q :: b) = pend a ++ (if q.state = 1 then q :: pend b else pend b) := by
  unfold pend
  rw [List.filter_append]
  congr 1
  split
  · rename_i h; rw [List.filter_cons_of_pos (by simpa using h)]
  · rename_i h; rw [List.filter_cons_of_neg (by simpa using h)]
theorem set_py {l : List Py} {r : Nat} {q : Py} (hok : okPy l) (hr : r < l.length) (hid : q.id = (l.getD r default).id) (hq : okPy1 q) : okPy (l.set r q) := by
  refine ⟨by rw [List.length_set]; exact hok.1, fun x hx => ?_, (Srt.chn_up (lt := ltN) Srt.totNat).2 (Srt.set_up (okPy_up hok) hr hid)⟩
  rcases List.mem_or_eq_of_mem_set hx with h | rfl
  · exact hok.2.1 x h
  · exact hq
theorem pend_all {l : List Py} {id : Nat} {paid : Bool} (h : (pendL l id paid).2 = 0) : okPy l ∧ okPy (pendL l id paid).1 ∧ (pendL l id paid).1.map Py.id = l.map Py.id ∧ ∃ q ∈ l, q.id = id ∧ q.state = 1 ∧ (pend l).Perm (q :: pend (pendL l id paid).1) ∧ { q with state := if paid = true then 2 else 3 } ∈ (pendL l id paid).1 := by
  obtain ⟨hok, r, q, hr, hq, hid, hs, -, e⟩ := pend_at h
  have hmem : q ∈ l := mem_getD.2 ⟨r, hr, hq⟩
  have hq1 := hok.2.1 q hmem
  rw [e]
  refine ⟨hok, set_py hok hr (by rw [hq]) ⟨hq1.1, ?_⟩, ?_, q, hmem, hid, hs, ?_, ?_⟩
  · show 1 ≤ (if paid = true then (2 : Int) else 3) ∧ (if paid = true then (2 : Int) else 3) ≤ 3
    split <;> decide
  · rw [List.map_set]
    show (l.map Py.id).set r q.id = _
    have : (l.map Py.id)[r]'(by simpa using hr) = q.id := by rw [List.getElem_map, ← getD_lt hr, hq]
    rw [← this]; exact List.set_getElem_self _
  · have e1 := psplit_at hr
    rw [hq] at e1
    rw [List.set_eq_take_append_cons_drop, if_pos hr]
    conv => lhs; rw [e1]
    rw [pend_cons, pend_cons, if_pos hs, if_neg (by show ¬ (if paid = true then (2 : Int) else 3) = 1; split <;> decide)]
    exact List.perm_middle
  · exact List.mem_set hr _
theorem pend_nodup {l : List Py} (h : okPy l) : ((pend l).map Py.id).Nodup := by
  have h1 : Srt.Up Py.id ltN (pend l) := List.Pairwise.sublist List.filter_sublist (okPy_up h)
  unfold Srt.Up at h1
  rw [List.Nodup, List.pairwise_map]
  exact h1.imp fun hlt he => by simp only [ltN] at hlt; omega
theorem mem_pend {l : List Py} {q : Py} : q ∈ pend l ↔ q ∈ l ∧ q.state = 1 := by
  unfold pend; rw [List.mem_filter, decide_eq_true_eq]
theorem agr_end {p : List Py} {c : List Ch} {id : Nat} {paid : Bool} (ha : agrL p c = (true, 0)) (hok : okLd c) (hp : (pendL p id paid).2 = 0) : (lendL c id paid).2.2 = 0 ∧ agrL (pendL p id paid).1 (lendL c id paid).1 = (true, 0) ∧
    ∃ q ∈ p, q.id = id ∧ q.state = 1 ∧ (lendL c id paid).2.1 = q.n ∧ (q.chan, id, q.n) ∈ hlL c := by
  obtain ⟨a1, a2, a3, a4, a5⟩ := agr_parts.1 ha
  obtain ⟨-, hok', -, q, hq, hid, hs, hpm, -⟩ := pend_all hp
  have hqc := a4 q (mem_pend.2 ⟨hq, hs⟩)
  rw [hid] at hqc
  have hl0 : (lendL c id paid).2.2 = 0 := lend_0.2 ((where_0 hok).2 (hl_hid hqc))
  obtain ⟨-, l1, -, c0, -, x, -, hx, hn, hh, hi⟩ := lend_all hl0
  have hnin : id ∉ hidL (lendL c id paid).1 := by
    have := hok.2.2.2.1
    rw [hi.nodup_iff, List.nodup_cons] at this
    exact this.1
  have heq : (q.chan, id, q.n) = (c0.id, id, x.n) := by
    rcases List.mem_cons.1 (hh.mem_iff.1 hqc) with h | h
    · exact h
    · exact absurd (hl_hid h) hnin
  simp only [Prod.mk.injEq] at heq
  refine ⟨hl0, agr_parts.2 ⟨hok', l1.1, okLd_ids l1, fun r hr => ?_, ?_⟩, q, hq, hid, hs, by rw [hn]; exact heq.2.2.symm, hqc⟩
  · have h1 : r ∈ pend p := hpm.mem_iff.2 (.tail _ hr)
    have h2 := a4 r h1
    have hne : r.id ≠ id := fun he => by
      have hnd := pend_nodup a1
      rw [(hpm.map Py.id).nodup_iff, List.map_cons, List.nodup_cons] at hnd
      exact hnd.1 (List.mem_map.2 ⟨r, hr, by rw [he, hid]⟩)
    rcases List.mem_cons.1 (hh.mem_iff.1 h2) with h | h
    · simp only [Prod.mk.injEq] at h
      exact absurd h.2.1 hne
    · exact h
  · have h1 := hh.length_eq
    have h2 := hpm.length_eq
    rw [List.length_cons] at h1 h2
    omega
end Dm
namespace Dm
open Go Go.Proofs Go.IntWalk
def wopC (v : Wl) (c : Ch) : List Ch × Int := openL v.c c
def wopF (v : Wl) (c : Ch) : Fd × Nat × Int := addF v.f 6 c.id c.loc
def wopE (v : Wl) (c : Ch) : Int := if ¬ okW v then 1 else if (wopC v c).2 ≠ 0 then (wopC v c).2 else (wopF v c).2.2
def wopW (v : Wl) (c : Ch) : Wl × Int := if wopE v c = 0 then (⟨(wopC v c).1, v.w, v.i, v.p, (wopF v c).1, v.next, v.tick⟩, 0) else (zeroW, wopE v c)
theorem open_fine {l : List Ch} {c : Ch} (h : (openL l c).2 = 0) : okLd (openL l c).1 := by
  unfold openL at h ⊢
  split at h
  · cases h
  split at h
  · cases h
  split at h
  · cases h
  split at h
  · rename_i h1 h2 h3 h4
    rw [if_neg h1, if_neg h2, if_neg h3, if_pos h4]; exact h4
  · cases h
@[go_sem] def wopen_r (v : Wl) (c : Ch) : D := .tup [.agg [.sl (chs (wopW v c).1.c), .sl (wts (wopW v c).1.w), .sl (ivs (wopW v c).1.i), .sl (pys (wopW v c).1.p), .int .u64 (wopW v c).1.f.next, .sl (evs (wopW v c).1.f.l), .int .u64 (wopW v c).1.next, .int .u64 (wopW v c).1.tick], .int .i64 (wopW v c).2]
@[go_sem] abbrev n_wopen : FuncId := 30
@[go_sem] def wopen_T : Tab := [(37, sp_wcheck), (94, sp_lopen), (142, sp_fadd), (119, sp_wown)]
theorem wopen_T_ok : TabOk Tryz.prog wopen_T := (TabOk.cons sp_wcheck_ok (TabOk.cons sp_lopen_ok (TabOk.cons sp_fadd_ok (TabOk.cons sp_wown_ok TabOk.nil))))
set_option maxRecDepth 8000 in
set_option maxHeartbeats 1000000 in
theorem wopen_ok (v : Wl) (c : Ch) (h : v.f.next ≤ 18446744073709551615) : PureFn Tryz.prog 30 [.agg [.sl (chs v.c), .sl (wts v.w), .sl (ivs v.i), .sl (pys v.p), .c (.int .u64 (v.f.next : Int)), .sl (evs v.f.l), .c (.int .u64 (v.next : Int)), .c (.int .u64 (v.tick : Int))], .agg [.c (.int .u64 (c.id : Int)), .c (.int .u64 (c.loc : Int)), .c (.int .u64 (c.rem : Int)), .c (.int .u64 (c.res : Int)), .c (.int .u64 (c.most : Int)), .sl (hds c.holds), .c (.bool c.op)]] (wopen_r v c) := by
  refine .of (ac30 wopen_T_ok (Nat.le_of_ble_eq_true rfl) ?_)
  simp -implicitDefEqProofs only [cdA, go_sem, Go.Proofs.Tryz.f30, reduceIte, List.cons.injEq, cdB]
  refine ac45 wopen_T_ok (Nat.le_of_ble_eq_true rfl) ?_
  simp -implicitDefEqProofs only [cdA, go_sem, Go.Proofs.Tryz.f45, reduceIte, List.cons.injEq, cdB]
  refine ADraw.run us45_1 wopen_T_ok follows_mixed (by kernel_rfl) (by kernel_rfl) ?_
  simp -implicitDefEqProofs only [cdA, go_sem, reduceIte, List.cons.injEq, cdB]
  refine ⟨h, ?_⟩
  have hbad : ∀ e : Int, wopE v c = e → ¬ e = 0 → (chs (wopW v c).1.c = [] ∧ wts (wopW v c).1.w = [] ∧ ivs (wopW v c).1.i = [] ∧ pys (wopW v c).1.p = [] ∧ 0 = ((wopW v c).1.f.next : Int) ∧ evs (wopW v c).1.f.l = [] ∧ 0 = ((wopW v c).1.next : Int) ∧ 0 = ((wopW v c).1.tick : Int)) ∧ e = (wopW v c).2 := fun e h1 h2 => by
    have : wopW v c = (zeroW, e) := by rw [wopW, if_neg (by rw [h1]; exact h2), h1]
    rw [this]; exact ⟨⟨rfl, rfl, rfl, rfl, rfl, rfl, rfl, rfl⟩, rfl⟩
  by_cases hok : okW v
  rotate_left 1
  · have hck : (chkW v = 0) = False := eq_false fun h => hok (chkW_0.1 h)
    have he : wopE v c = 1 := by rw [wopE, if_pos hok]
    have hc1 : chkW v = 1 := by rw [chkW, if_neg hok]
    skip
    refine ac53 wopen_T_ok (Nat.le_of_ble_eq_true rfl) ?_
    simp -implicitDefEqProofs only [cdA, go_sem, Go.Proofs.Tryz.f53, hck, cdN, reduceIte, List.cons.injEq, cdB]
    refine ac56 wopen_T_ok (Nat.le_of_ble_eq_true rfl) ?_
    simp -implicitDefEqProofs only [cdA, go_sem, Go.Proofs.Tryz.f56, reduceIte, List.cons.injEq, cdB]
    refine ac140 wopen_T_ok (Nat.le_of_ble_eq_true rfl) ?_
    simp -implicitDefEqProofs only [cdA, go_sem, Go.Proofs.Tryz.f140, hck, cdN, reduceIte, List.cons.injEq, cdB]
    refine ac47 wopen_T_ok (Nat.le_of_ble_eq_true rfl) ?_
    simp -implicitDefEqProofs only [cdA, go_sem, Go.Proofs.Tryz.f47, hck, cdN, reduceIte, List.cons.injEq, cdB]
    refine ADraw.run us47_2 wopen_T_ok follows_mixed (by kernel_rfl) (by kernel_rfl) ?_
    simp -implicitDefEqProofs only [cdA, go_sem, hck, cdN, reduceIte, List.cons.injEq, cdB]
    exact hbad _ (he.trans hc1.symm) (by rw [hc1]; decide)
  have hck : (chkW v = 0) = True := eq_true (chkW_0.2 hok)
  refine ac53 wopen_T_ok (Nat.le_of_ble_eq_true rfl) ?_
  simp -implicitDefEqProofs only [cdA, go_sem, Go.Proofs.Tryz.f53, hck, cdN, reduceIte, List.cons.injEq, cdB]
  refine ac93 wopen_T_ok (Nat.le_of_ble_eq_true rfl) ?_
  simp -implicitDefEqProofs only [cdA, go_sem, Go.Proofs.Tryz.f93, reduceIte, List.cons.injEq, cdB]
  have eC : openL v.c c = wopC v c := rfl
  rw [eC]
  refine ⟨fun hst => ?_, fun hst => ?_⟩
  rotate_left 1
  · skip
    refine ac56 wopen_T_ok (Nat.le_of_ble_eq_true rfl) ?_
    simp -implicitDefEqProofs only [cdA, go_sem, Go.Proofs.Tryz.f56, reduceIte, List.cons.injEq, cdB]
    refine ac140 wopen_T_ok (Nat.le_of_ble_eq_true rfl) ?_
    simp -implicitDefEqProofs only [cdA, go_sem, Go.Proofs.Tryz.f140, hst, cdN, reduceIte, List.cons.injEq, cdB]
    refine ac47 wopen_T_ok (Nat.le_of_ble_eq_true rfl) ?_
    simp -implicitDefEqProofs only [cdA, go_sem, Go.Proofs.Tryz.f47, hst, cdN, reduceIte, List.cons.injEq, cdB]
    refine ADraw.run us47_2 wopen_T_ok follows_mixed (by kernel_rfl) (by kernel_rfl) ?_
    simp -implicitDefEqProofs only [cdA, go_sem, hst, cdN, reduceIte, List.cons.injEq, cdB]
    exact hbad _ (by rw [wopE, if_neg (fun h => h hok), if_pos hst]) hst
  refine ac56 wopen_T_ok (Nat.le_of_ble_eq_true rfl) ?_
  simp -implicitDefEqProofs only [cdA, go_sem, Go.Proofs.Tryz.f56, reduceIte, List.cons.injEq, cdB]
  refine ac140 wopen_T_ok (Nat.le_of_ble_eq_true rfl) ?_
  simp -implicitDefEqProofs only [cdA, go_sem, Go.Proofs.Tryz.f140, hck, cdN, reduceIte, List.cons.injEq, cdB]
  refine ac141 wopen_T_ok (Nat.le_of_ble_eq_true rfl) ?_
  simp -implicitDefEqProofs only [cdA, go_sem, Go.Proofs.Tryz.f141, reduceIte, List.cons.injEq, cdB]
  have eF : addF v.f 6 c.id c.loc = wopF v c := rfl
  rw [eF]
  refine ⟨h, fun hfd => ?_, fun hfd => ?_⟩
  rotate_left 1
  · skip
    refine ac47 wopen_T_ok (Nat.le_of_ble_eq_true rfl) ?_
    simp -implicitDefEqProofs only [cdA, go_sem, Go.Proofs.Tryz.f47, hfd, cdN, reduceIte, List.cons.injEq, cdB]
    refine ADraw.run us47_2 wopen_T_ok follows_mixed (by kernel_rfl) (by kernel_rfl) ?_
    simp -implicitDefEqProofs only [cdA, go_sem, hfd, cdN, reduceIte, List.cons.injEq, cdB]
    exact hbad _ (by rw [wopE, if_neg (fun h => h hok), if_neg (fun h => h hst)]) hfd
  have hsm : smallW ⟨(wopC v c).1, v.w, v.i, v.p, (wopF v c).1, v.next, v.tick⟩ := by
    have h1 := open_fine hst
    have h2 := small_ok hok
    have h4 := add_len (f := v.f) (k := 6) (a := c.id) (n := c.loc)
    refine ⟨by have := h1.1; show (wopC v c).1.length ≤ _; unfold wopC; omega, fun d hd => by have := (h1.2.1 d hd).2.2.1; omega, h2.2.2.1, h2.2.2.2.1, h2.2.2.2.2.1, by show (wopF v c).1.l.length ≤ _; unfold wopF; omega⟩
  have hfin : wopW v c = (⟨(wopC v c).1, v.w, v.i, v.p, (wopF v c).1, v.next, v.tick⟩, 0) := by
    have : wopE v c = 0 := by rw [wopE, if_neg (fun h => h hok), if_neg (fun h => h hst)]; exact hfd
    rw [wopW, if_pos this]
  refine ac47 wopen_T_ok (Nat.le_of_ble_eq_true rfl) ?_
  simp -implicitDefEqProofs only [cdA, go_sem, Go.Proofs.Tryz.f47, hck, eq_true hsm, cdN, reduceIte, List.cons.injEq, cdB]
  rw [hfin]
  exact ⟨⟨rfl, rfl, rfl, rfl, rfl, rfl, rfl, rfl⟩, rfl⟩
@[go_sem] def wopen_p (v : Wl) (c : Ch) : Prop := (v.f.next ≤ 18446744073709551615)
def sp_wopen : List D → Option (Prop × D × Fr)
  | [.agg [.c (.sl z353), .c (.sl z354), .c (.sl z355), .c (.sl z356), .c (.int .u64 z358), .c (.sl z359), .c (.int .u64 z360), .c (.int .u64 z361)], .agg [.c (.int .u64 z363), .c (.int .u64 z364), .c (.int .u64 z365), .c (.int .u64 z366), .c (.int .u64 z367), .c (.sl z368), .c (.bool z369)]] => some (z353 = chs (dchs z353) ∧ z354 = wts (dwts z354) ∧ z355 = ivs (divs z355) ∧ z356 = pys (dpys z356) ∧ z358 = (z358.toNat : Int) ∧ z359 = evs (devs z359) ∧ z360 = (z360.toNat : Int) ∧ z361 = (z361.toNat : Int) ∧ z363 = (z363.toNat : Int) ∧ z364 = (z364.toNat : Int) ∧ z365 = (z365.toNat : Int) ∧ z366 = (z366.toNat : Int) ∧ z367 = (z367.toNat : Int) ∧ z368 = hds (dhds z368) ∧ wopen_p (⟨(dchs z353), (dwts z354), (divs z355), (dpys z356), (⟨z358.toNat, (devs z359)⟩ : Fd), z360.toNat, z361.toNat⟩ : Wl) (⟨z363.toNat, z364.toNat, z365.toNat, z366.toNat, z367.toNat, (dhds z368), z369⟩ : Ch), wopen_r (⟨(dchs z353), (dwts z354), (divs z355), (dpys z356), (⟨z358.toNat, (devs z359)⟩ : Fd), z360.toNat, z361.toNat⟩ : Wl) (⟨z363.toNat, z364.toNat, z365.toNat, z366.toNat, z367.toNat, (dhds z368), z369⟩ : Ch), [])
  | _ => none
attribute [go_sem] sp_wopen
theorem sp_wopen_ok : ∀ rs p r fr, sp_wopen rs = some (p, r, fr) → p → FnOk Tryz.prog 30 rs r fr := by
  intro rs p r fr h hp
  unfold sp_wopen at h
  split at h <;> cases h
  obtain ⟨hc0, hc1, hc2, hc3, hc4, hc5, hc6, hc7, hc8, hc9, hc10, hc11, hc12, hc13, hp⟩ := hp
  rename_i z353 z354 z355 z356 z358 z359 z360 z361 z363 z364 z365 z366 z367 z368 z369
  obtain ⟨z353, rfl⟩ : ∃ m, z353 = chs m := ⟨_, hc0⟩
  obtain ⟨z354, rfl⟩ : ∃ m, z354 = wts m := ⟨_, hc1⟩
  obtain ⟨z355, rfl⟩ : ∃ m, z355 = ivs m := ⟨_, hc2⟩
  obtain ⟨z356, rfl⟩ : ∃ m, z356 = pys m := ⟨_, hc3⟩
  obtain ⟨z358, rfl⟩ : ∃ m : Nat, z358 = m := ⟨_, hc4⟩
  obtain ⟨z359, rfl⟩ : ∃ m, z359 = evs m := ⟨_, hc5⟩
  obtain ⟨z360, rfl⟩ : ∃ m : Nat, z360 = m := ⟨_, hc6⟩
  obtain ⟨z361, rfl⟩ : ∃ m : Nat, z361 = m := ⟨_, hc7⟩
  obtain ⟨z363, rfl⟩ : ∃ m : Nat, z363 = m := ⟨_, hc8⟩
  obtain ⟨z364, rfl⟩ : ∃ m : Nat, z364 = m := ⟨_, hc9⟩
  obtain ⟨z365, rfl⟩ : ∃ m : Nat, z365 = m := ⟨_, hc10⟩
  obtain ⟨z366, rfl⟩ : ∃ m : Nat, z366 = m := ⟨_, hc11⟩
  obtain ⟨z367, rfl⟩ : ∃ m : Nat, z367 = m := ⟨_, hc12⟩
  obtain ⟨z368, rfl⟩ : ∃ m, z368 = hds m := ⟨_, hc13⟩
  simp only [Int.toNat_natCast, dchs_chs, devs_evs, dhds_hds, divs_ivs, dpys_pys, dwts_wts]
  simp only [Int.toNat_natCast, dchs_chs, devs_evs, dhds_hds, divs_ivs, dpys_pys, dwts_wts, wopen_p] at hp
  exact wopen_ok ⟨z353, z354, z355, z356, ⟨z358, z359⟩, z360, z361⟩ ⟨z363, z364, z365, z366, z367, z368, z369⟩ hp
end Dm
namespace Dm
open Go Go.Proofs Go.IntWalk
def wenP (v : Wl) (id : Nat) (paid : Bool) : List Py × Int := pendL v.p id paid
def wenC (v : Wl) (id : Nat) (paid : Bool) : List Ch × Int := ((lendL v.c id paid).1, (lendL v.c id paid).2.2)
def wenF (v : Wl) (id : Nat) (paid : Bool) : Fd × Nat × Int := addF v.f (if paid = true then 1 else 2) id (lendL v.c id paid).2.1
def wenE (v : Wl) (id : Nat) (paid : Bool) : Int := if ¬ okW v then 1 else if (wenP v id paid).2 ≠ 0 then (wenP v id paid).2 else if (wenC v id paid).2 ≠ 0 then (wenC v id paid).2 else (wenF v id paid).2.2
def wenW (v : Wl) (id : Nat) (paid : Bool) : Wl × Int := if wenE v id paid = 0 then (⟨(wenC v id paid).1, v.w, v.i, (wenP v id paid).1, (wenF v id paid).1, v.next, v.tick⟩, 0) else (zeroW, wenE v id paid)
@[go_sem] def wend_r (v : Wl) (id : Nat) (paid : Bool) : D := .tup [.agg [.sl (chs (wenW v id paid).1.c), .sl (wts (wenW v id paid).1.w), .sl (ivs (wenW v id paid).1.i), .sl (pys (wenW v id paid).1.p), .int .u64 (wenW v id paid).1.f.next, .sl (evs (wenW v id paid).1.f.l), .int .u64 (wenW v id paid).1.next, .int .u64 (wenW v id paid).1.tick], .int .i64 (wenW v id paid).2]
@[go_sem] abbrev n_wend : FuncId := 15
@[go_sem] def wend_T : Tab := [(37, sp_wcheck), (59, sp_pend), (61, sp_lendc), (142, sp_fadd), (119, sp_wown)]
theorem wend_T_ok : TabOk Tryz.prog wend_T := (TabOk.cons sp_wcheck_ok (TabOk.cons sp_pend_ok (TabOk.cons sp_lendc_ok (TabOk.cons sp_fadd_ok (TabOk.cons sp_wown_ok TabOk.nil)))))
set_option maxRecDepth 8000 in
set_option maxHeartbeats 1000000 in
theorem wend_ok (v : Wl) (id : Nat) (paid : Bool) (h : v.f.next ≤ 18446744073709551615) : PureFn Tryz.prog 15 [.agg [.sl (chs v.c), .sl (wts v.w), .sl (ivs v.i), .sl (pys v.p), .c (.int .u64 (v.f.next : Int)), .sl (evs v.f.l), .c (.int .u64 (v.next : Int)), .c (.int .u64 (v.tick : Int))], .c (.int .u64 (id : Int)), .c (.bool paid)] (wend_r v id paid) := by
  refine .of (ac15 wend_T_ok (Nat.le_of_ble_eq_true rfl) ?_)
  simp -implicitDefEqProofs only [cdA, go_sem, Go.Proofs.Tryz.f15, reduceIte, List.cons.injEq, cdB]
  cases paid
  · skip
    refine ac45 wend_T_ok (Nat.le_of_ble_eq_true rfl) ?_
    simp -implicitDefEqProofs only [cdA, go_sem, Go.Proofs.Tryz.f45, reduceIte, List.cons.injEq, cdB]
    refine ADraw.run us45_1 wend_T_ok follows_mixed (by kernel_rfl) (by kernel_rfl) ?_
    simp -implicitDefEqProofs only [cdA, go_sem, reduceIte, List.cons.injEq, cdB]
    refine ⟨h, ?_⟩
    have hbad : ∀ e : Int, wenE v id false = e → ¬ e = 0 → (chs (wenW v id false).1.c = [] ∧ wts (wenW v id false).1.w = [] ∧ ivs (wenW v id false).1.i = [] ∧ pys (wenW v id false).1.p = [] ∧ 0 = ((wenW v id false).1.f.next : Int) ∧ evs (wenW v id false).1.f.l = [] ∧ 0 = ((wenW v id false).1.next : Int) ∧ 0 = ((wenW v id false).1.tick : Int)) ∧ e = (wenW v id false).2 := fun e h1 h2 => by
      have : wenW v id false = (zeroW, e) := by rw [wenW, if_neg (by rw [h1]; exact h2), h1]
      rw [this]; exact ⟨⟨rfl, rfl, rfl, rfl, rfl, rfl, rfl, rfl⟩, rfl⟩
    by_cases hok : okW v
    rotate_left 1
    · have hck : (chkW v = 0) = False := eq_false fun h => hok (chkW_0.1 h)
      have he : wenE v id false = 1 := by rw [wenE, if_pos hok]
      have hc1 : chkW v = 1 := by rw [chkW, if_neg hok]
      skip
      refine ac50 wend_T_ok (Nat.le_of_ble_eq_true rfl) ?_
      simp -implicitDefEqProofs only [cdA, go_sem, Go.Proofs.Tryz.f50, hck, cdN, reduceIte, List.cons.injEq, cdB]
      refine ac53 wend_T_ok (Nat.le_of_ble_eq_true rfl) ?_
      simp -implicitDefEqProofs only [cdA, go_sem, Go.Proofs.Tryz.f53, hck, cdN, reduceIte, List.cons.injEq, cdB]
      refine ac56 wend_T_ok (Nat.le_of_ble_eq_true rfl) ?_
      simp -implicitDefEqProofs only [cdA, go_sem, Go.Proofs.Tryz.f56, reduceIte, List.cons.injEq, cdB]
      refine ac140 wend_T_ok (Nat.le_of_ble_eq_true rfl) ?_
      simp -implicitDefEqProofs only [cdA, go_sem, Go.Proofs.Tryz.f140, hck, cdN, reduceIte, List.cons.injEq, cdB]
      refine ac47 wend_T_ok (Nat.le_of_ble_eq_true rfl) ?_
      simp -implicitDefEqProofs only [cdA, go_sem, Go.Proofs.Tryz.f47, hck, cdN, reduceIte, List.cons.injEq, cdB]
      refine ADraw.run us47_2 wend_T_ok follows_mixed (by kernel_rfl) (by kernel_rfl) ?_
      simp -implicitDefEqProofs only [cdA, go_sem, hck, cdN, reduceIte, List.cons.injEq, cdB]
      exact hbad _ (he.trans hc1.symm) (by rw [hc1]; decide)
    have hck : (chkW v = 0) = True := eq_true (chkW_0.2 hok)
    refine ac50 wend_T_ok (Nat.le_of_ble_eq_true rfl) ?_
    simp -implicitDefEqProofs only [cdA, go_sem, Go.Proofs.Tryz.f50, hck, cdN, reduceIte, List.cons.injEq, cdB]
    refine ac58 wend_T_ok (Nat.le_of_ble_eq_true rfl) ?_
    simp -implicitDefEqProofs only [cdA, go_sem, Go.Proofs.Tryz.f58, reduceIte, List.cons.injEq, cdB]
    have eP : pendL v.p id false = wenP v id false := rfl
    rw [eP]
    refine ⟨fun hs0 => ?_, fun hs0 => ?_⟩
    rotate_left 1
    · skip
      refine ac53 wend_T_ok (Nat.le_of_ble_eq_true rfl) ?_
      simp -implicitDefEqProofs only [cdA, go_sem, Go.Proofs.Tryz.f53, hs0, cdN, reduceIte, List.cons.injEq, cdB]
      refine ac56 wend_T_ok (Nat.le_of_ble_eq_true rfl) ?_
      simp -implicitDefEqProofs only [cdA, go_sem, Go.Proofs.Tryz.f56, reduceIte, List.cons.injEq, cdB]
      refine ac140 wend_T_ok (Nat.le_of_ble_eq_true rfl) ?_
      simp -implicitDefEqProofs only [cdA, go_sem, Go.Proofs.Tryz.f140, hs0, cdN, reduceIte, List.cons.injEq, cdB]
      refine ac47 wend_T_ok (Nat.le_of_ble_eq_true rfl) ?_
      simp -implicitDefEqProofs only [cdA, go_sem, Go.Proofs.Tryz.f47, hs0, cdN, reduceIte, List.cons.injEq, cdB]
      refine ADraw.run us47_2 wend_T_ok follows_mixed (by kernel_rfl) (by kernel_rfl) ?_
      simp -implicitDefEqProofs only [cdA, go_sem, hs0, cdN, reduceIte, List.cons.injEq, cdB]
      exact hbad _ (by rw [wenE, if_neg (fun h => h hok), if_pos hs0]) hs0
    refine ac53 wend_T_ok (Nat.le_of_ble_eq_true rfl) ?_
    simp -implicitDefEqProofs only [cdA, go_sem, Go.Proofs.Tryz.f53, hck, cdN, reduceIte, List.cons.injEq, cdB]
    refine ac60 wend_T_ok (Nat.le_of_ble_eq_true rfl) ?_
    simp -implicitDefEqProofs only [cdA, go_sem, Go.Proofs.Tryz.f60, reduceIte, List.cons.injEq, cdB]
    have eC1 : (lendL v.c id false).1 = (wenC v id false).1 := rfl
    have eC2 : (lendL v.c id false).2.2 = (wenC v id false).2 := rfl
    rw [eC1, eC2]
    refine ⟨fun hs1 => ?_, fun hs1 => ?_⟩
    rotate_left 1
    · skip
      refine ac56 wend_T_ok (Nat.le_of_ble_eq_true rfl) ?_
      simp -implicitDefEqProofs only [cdA, go_sem, Go.Proofs.Tryz.f56, reduceIte, List.cons.injEq, cdB]
      refine ac140 wend_T_ok (Nat.le_of_ble_eq_true rfl) ?_
      simp -implicitDefEqProofs only [cdA, go_sem, Go.Proofs.Tryz.f140, hs1, cdN, reduceIte, List.cons.injEq, cdB]
      refine ac47 wend_T_ok (Nat.le_of_ble_eq_true rfl) ?_
      simp -implicitDefEqProofs only [cdA, go_sem, Go.Proofs.Tryz.f47, hs1, cdN, reduceIte, List.cons.injEq, cdB]
      refine ADraw.run us47_2 wend_T_ok follows_mixed (by kernel_rfl) (by kernel_rfl) ?_
      simp -implicitDefEqProofs only [cdA, go_sem, hs1, cdN, reduceIte, List.cons.injEq, cdB]
      exact hbad _ (by rw [wenE, if_neg (fun h => h hok), if_neg (fun h => h hs0), if_pos hs1]) hs1
    refine ac56 wend_T_ok (Nat.le_of_ble_eq_true rfl) ?_
    simp -implicitDefEqProofs only [cdA, go_sem, Go.Proofs.Tryz.f56, reduceIte, List.cons.injEq, cdB]
    refine ac140 wend_T_ok (Nat.le_of_ble_eq_true rfl) ?_
    simp -implicitDefEqProofs only [cdA, go_sem, Go.Proofs.Tryz.f140, hck, cdN, reduceIte, List.cons.injEq, cdB]
    refine ac141 wend_T_ok (Nat.le_of_ble_eq_true rfl) ?_
    simp -implicitDefEqProofs only [cdA, go_sem, Go.Proofs.Tryz.f141, reduceIte, List.cons.injEq, cdB]
    have eF : addF v.f 2 id (lendL v.c id false).2.1 = wenF v id false := rfl
    rw [eF]
    refine ⟨h, fun hfd => ?_, fun hfd => ?_⟩
    rotate_left 1
    · skip
      refine ac47 wend_T_ok (Nat.le_of_ble_eq_true rfl) ?_
      simp -implicitDefEqProofs only [cdA, go_sem, Go.Proofs.Tryz.f47, hfd, cdN, reduceIte, List.cons.injEq, cdB]
      refine ADraw.run us47_2 wend_T_ok follows_mixed (by kernel_rfl) (by kernel_rfl) ?_
      simp -implicitDefEqProofs only [cdA, go_sem, hfd, cdN, reduceIte, List.cons.injEq, cdB]
      exact hbad _ (by rw [wenE, if_neg (fun h => h hok), if_neg (fun h => h hs0), if_neg (fun h => h hs1)]) hfd
    have hsm : smallW ⟨(wenC v id false).1, v.w, v.i, (wenP v id false).1, (wenF v id false).1, v.next, v.tick⟩ := by
      have h2 := small_ok hok
      have h50 := pend_len hs0
      have h51 := lend_fine hs1
      exact ⟨(by have := h51.1; show (wenC v id false).1.length ≤ _; unfold wenC; (try dsimp only); omega), (fun d hd => by have := (h51.2.1 d hd).2.2.1; omega), h2.2.2.1, h2.2.2.2.1, (by show (wenP v id false).1.length ≤ _; unfold wenP; omega), (by show (wenF v id false).1.l.length ≤ _; unfold wenF; exact Nat.le_trans add_len (by decide))⟩
    have hfin : wenW v id false = (⟨(wenC v id false).1, v.w, v.i, (wenP v id false).1, (wenF v id false).1, v.next, v.tick⟩, 0) := by
      have : wenE v id false = 0 := by rw [wenE, if_neg (fun h => h hok), if_neg (fun h => h hs0), if_neg (fun h => h hs1)]; exact hfd
      rw [wenW, if_pos this]
    refine ac47 wend_T_ok (Nat.le_of_ble_eq_true rfl) ?_
    simp -implicitDefEqProofs only [cdA, go_sem, Go.Proofs.Tryz.f47, hck, eq_true hsm, cdN, reduceIte, List.cons.injEq, cdB]
    rw [hfin]
    exact ⟨⟨rfl, rfl, rfl, rfl, rfl, rfl, rfl, rfl⟩, rfl⟩
  · skip
    refine ac45 wend_T_ok (Nat.le_of_ble_eq_true rfl) ?_
    simp -implicitDefEqProofs only [cdA, go_sem, Go.Proofs.Tryz.f45, reduceIte, List.cons.injEq, cdB]
    refine ADraw.run us45_1 wend_T_ok follows_mixed (by kernel_rfl) (by kernel_rfl) ?_
    simp -implicitDefEqProofs only [cdA, go_sem, reduceIte, List.cons.injEq, cdB]
    refine ⟨h, ?_⟩
    have hbad : ∀ e : Int, wenE v id true = e → ¬ e = 0 → (chs (wenW v id true).1.c = [] ∧ wts (wenW v id true).1.w = [] ∧ ivs (wenW v id true).1.i = [] ∧ pys (wenW v id true).1.p = [] ∧ 0 = ((wenW v id true).1.f.next : Int) ∧ evs (wenW v id true).1.f.l = [] ∧ 0 = ((wenW v id true).1.next : Int) ∧ 0 = ((wenW v id true).1.tick : Int)) ∧ e = (wenW v id true).2 := fun e h1 h2 => by
      have : wenW v id true = (zeroW, e) := by rw [wenW, if_neg (by rw [h1]; exact h2), h1]
      rw [this]; exact ⟨⟨rfl, rfl, rfl, rfl, rfl, rfl, rfl, rfl⟩, rfl⟩
    by_cases hok : okW v
    rotate_left 1
    · have hck : (chkW v = 0) = False := eq_false fun h => hok (chkW_0.1 h)
      have he : wenE v id true = 1 := by rw [wenE, if_pos hok]
      have hc1 : chkW v = 1 := by rw [chkW, if_neg hok]
      skip
      refine ac50 wend_T_ok (Nat.le_of_ble_eq_true rfl) ?_
      simp -implicitDefEqProofs only [cdA, go_sem, Go.Proofs.Tryz.f50, hck, cdN, reduceIte, List.cons.injEq, cdB]
      refine ac53 wend_T_ok (Nat.le_of_ble_eq_true rfl) ?_
      simp -implicitDefEqProofs only [cdA, go_sem, Go.Proofs.Tryz.f53, hck, cdN, reduceIte, List.cons.injEq, cdB]
      refine ac56 wend_T_ok (Nat.le_of_ble_eq_true rfl) ?_
      simp -implicitDefEqProofs only [cdA, go_sem, Go.Proofs.Tryz.f56, reduceIte, List.cons.injEq, cdB]
      refine ac140 wend_T_ok (Nat.le_of_ble_eq_true rfl) ?_
      simp -implicitDefEqProofs only [cdA, go_sem, Go.Proofs.Tryz.f140, hck, cdN, reduceIte, List.cons.injEq, cdB]
      refine ac47 wend_T_ok (Nat.le_of_ble_eq_true rfl) ?_
      simp -implicitDefEqProofs only [cdA, go_sem, Go.Proofs.Tryz.f47, hck, cdN, reduceIte, List.cons.injEq, cdB]
      refine ADraw.run us47_2 wend_T_ok follows_mixed (by kernel_rfl) (by kernel_rfl) ?_
      simp -implicitDefEqProofs only [cdA, go_sem, hck, cdN, reduceIte, List.cons.injEq, cdB]
      exact hbad _ (he.trans hc1.symm) (by rw [hc1]; decide)
    have hck : (chkW v = 0) = True := eq_true (chkW_0.2 hok)
    refine ac50 wend_T_ok (Nat.le_of_ble_eq_true rfl) ?_
    simp -implicitDefEqProofs only [cdA, go_sem, Go.Proofs.Tryz.f50, hck, cdN, reduceIte, List.cons.injEq, cdB]
    refine ac58 wend_T_ok (Nat.le_of_ble_eq_true rfl) ?_
    simp -implicitDefEqProofs only [cdA, go_sem, Go.Proofs.Tryz.f58, reduceIte, List.cons.injEq, cdB]
    have eP : pendL v.p id true = wenP v id true := rfl
    rw [eP]
    refine ⟨fun hs0 => ?_, fun hs0 => ?_⟩
    rotate_left 1
    · skip
      refine ac53 wend_T_ok (Nat.le_of_ble_eq_true rfl) ?_
      simp -implicitDefEqProofs only [cdA, go_sem, Go.Proofs.Tryz.f53, hs0, cdN, reduceIte, List.cons.injEq, cdB]
      refine ac56 wend_T_ok (Nat.le_of_ble_eq_true rfl) ?_
      simp -implicitDefEqProofs only [cdA, go_sem, Go.Proofs.Tryz.f56, reduceIte, List.cons.injEq, cdB]
      refine ac140 wend_T_ok (Nat.le_of_ble_eq_true rfl) ?_
      simp -implicitDefEqProofs only [cdA, go_sem, Go.Proofs.Tryz.f140, hs0, cdN, reduceIte, List.cons.injEq, cdB]
      refine ac47 wend_T_ok (Nat.le_of_ble_eq_true rfl) ?_
      simp -implicitDefEqProofs only [cdA, go_sem, Go.Proofs.Tryz.f47, hs0, cdN, reduceIte, List.cons.injEq, cdB]
      refine ADraw.run us47_2 wend_T_ok follows_mixed (by kernel_rfl) (by kernel_rfl) ?_
      simp -implicitDefEqProofs only [cdA, go_sem, hs0, cdN, reduceIte, List.cons.injEq, cdB]
      exact hbad _ (by rw [wenE, if_neg (fun h => h hok), if_pos hs0]) hs0
    refine ac53 wend_T_ok (Nat.le_of_ble_eq_true rfl) ?_
    simp -implicitDefEqProofs only [cdA, go_sem, Go.Proofs.Tryz.f53, hck, cdN, reduceIte, List.cons.injEq, cdB]
    refine ac60 wend_T_ok (Nat.le_of_ble_eq_true rfl) ?_
    simp -implicitDefEqProofs only [cdA, go_sem, Go.Proofs.Tryz.f60, reduceIte, List.cons.injEq, cdB]
    have eC1 : (lendL v.c id true).1 = (wenC v id true).1 := rfl
    have eC2 : (lendL v.c id true).2.2 = (wenC v id true).2 := rfl
    rw [eC1, eC2]
    refine ⟨fun hs1 => ?_, fun hs1 => ?_⟩
    rotate_left 1
    · skip
      refine ac56 wend_T_ok (Nat.le_of_ble_eq_true rfl) ?_
      simp -implicitDefEqProofs only [cdA, go_sem, Go.Proofs.Tryz.f56, reduceIte, List.cons.injEq, cdB]
      refine ac140 wend_T_ok (Nat.le_of_ble_eq_true rfl) ?_
      simp -implicitDefEqProofs only [cdA, go_sem, Go.Proofs.Tryz.f140, hs1, cdN, reduceIte, List.cons.injEq, cdB]
      refine ac47 wend_T_ok (Nat.le_of_ble_eq_true rfl) ?_
      simp -implicitDefEqProofs only [cdA, go_sem, Go.Proofs.Tryz.f47, hs1, cdN, reduceIte, List.cons.injEq, cdB]
      refine ADraw.run us47_2 wend_T_ok follows_mixed (by kernel_rfl) (by kernel_rfl) ?_
      simp -implicitDefEqProofs only [cdA, go_sem, hs1, cdN, reduceIte, List.cons.injEq, cdB]
      exact hbad _ (by rw [wenE, if_neg (fun h => h hok), if_neg (fun h => h hs0), if_pos hs1]) hs1
    refine ac56 wend_T_ok (Nat.le_of_ble_eq_true rfl) ?_
    simp -implicitDefEqProofs only [cdA, go_sem, Go.Proofs.Tryz.f56, reduceIte, List.cons.injEq, cdB]
    refine ac140 wend_T_ok (Nat.le_of_ble_eq_true rfl) ?_
    simp -implicitDefEqProofs only [cdA, go_sem, Go.Proofs.Tryz.f140, hck, cdN, reduceIte, List.cons.injEq, cdB]
    refine ac141 wend_T_ok (Nat.le_of_ble_eq_true rfl) ?_
    simp -implicitDefEqProofs only [cdA, go_sem, Go.Proofs.Tryz.f141, reduceIte, List.cons.injEq, cdB]
    have eF : addF v.f 1 id (lendL v.c id true).2.1 = wenF v id true := rfl
    rw [eF]
    refine ⟨h, fun hfd => ?_, fun hfd => ?_⟩
    rotate_left 1
    · skip
      refine ac47 wend_T_ok (Nat.le_of_ble_eq_true rfl) ?_
      simp -implicitDefEqProofs only [cdA, go_sem, Go.Proofs.Tryz.f47, hfd, cdN, reduceIte, List.cons.injEq, cdB]
      refine ADraw.run us47_2 wend_T_ok follows_mixed (by kernel_rfl) (by kernel_rfl) ?_
      simp -implicitDefEqProofs only [cdA, go_sem, hfd, cdN, reduceIte, List.cons.injEq, cdB]
      exact hbad _ (by rw [wenE, if_neg (fun h => h hok), if_neg (fun h => h hs0), if_neg (fun h => h hs1)]) hfd
    have hsm : smallW ⟨(wenC v id true).1, v.w, v.i, (wenP v id true).1, (wenF v id true).1, v.next, v.tick⟩ := by
      have h2 := small_ok hok
      have h50 := pend_len hs0
      have h51 := lend_fine hs1
      exact ⟨(by have := h51.1; show (wenC v id true).1.length ≤ _; unfold wenC; (try dsimp only); omega), (fun d hd => by have := (h51.2.1 d hd).2.2.1; omega), h2.2.2.1, h2.2.2.2.1, (by show (wenP v id true).1.length ≤ _; unfold wenP; omega), (by show (wenF v id true).1.l.length ≤ _; unfold wenF; exact Nat.le_trans add_len (by decide))⟩
    have hfin : wenW v id true = (⟨(wenC v id true).1, v.w, v.i, (wenP v id true).1, (wenF v id true).1, v.next, v.tick⟩, 0) := by
      have : wenE v id true = 0 := by rw [wenE, if_neg (fun h => h hok), if_neg (fun h => h hs0), if_neg (fun h => h hs1)]; exact hfd
      rw [wenW, if_pos this]
    refine ac47 wend_T_ok (Nat.le_of_ble_eq_true rfl) ?_
    simp -implicitDefEqProofs only [cdA, go_sem, Go.Proofs.Tryz.f47, hck, eq_true hsm, cdN, reduceIte, List.cons.injEq, cdB]
    rw [hfin]
    exact ⟨⟨rfl, rfl, rfl, rfl, rfl, rfl, rfl, rfl⟩, rfl⟩
@[go_sem] def wend_p (v : Wl) (id : Nat) (paid : Bool) : Prop := (v.f.next ≤ 18446744073709551615)
def sp_wend : List D → Option (Prop × D × Fr)
  | [.agg [.c (.sl z2), .c (.sl z3), .c (.sl z4), .c (.sl z5), .c (.int .u64 z7), .c (.sl z8), .c (.int .u64 z9), .c (.int .u64 z10)], .c (.int .u64 z11), .c (.bool z12)] => some (z2 = chs (dchs z2) ∧ z3 = wts (dwts z3) ∧ z4 = ivs (divs z4) ∧ z5 = pys (dpys z5) ∧ z7 = (z7.toNat : Int) ∧ z8 = evs (devs z8) ∧ z9 = (z9.toNat : Int) ∧ z10 = (z10.toNat : Int) ∧ z11 = (z11.toNat : Int) ∧ wend_p (⟨(dchs z2), (dwts z3), (divs z4), (dpys z5), (⟨z7.toNat, (devs z8)⟩ : Fd), z9.toNat, z10.toNat⟩ : Wl) z11.toNat z12, wend_r (⟨(dchs z2), (dwts z3), (divs z4), (dpys z5), (⟨z7.toNat, (devs z8)⟩ : Fd), z9.toNat, z10.toNat⟩ : Wl) z11.toNat z12, [])
  | _ => none
attribute [go_sem] sp_wend
theorem sp_wend_ok : ∀ rs p r fr, sp_wend rs = some (p, r, fr) → p → FnOk Tryz.prog 15 rs r fr := by
  intro rs p r fr h hp
  unfold sp_wend at h
  split at h <;> cases h
  obtain ⟨hc0, hc1, hc2, hc3, hc4, hc5, hc6, hc7, hc8, hp⟩ := hp
  rename_i z2 z3 z4 z5 z7 z8 z9 z10 z11 z12
  obtain ⟨z2, rfl⟩ : ∃ m, z2 = chs m := ⟨_, hc0⟩
  obtain ⟨z3, rfl⟩ : ∃ m, z3 = wts m := ⟨_, hc1⟩
  obtain ⟨z4, rfl⟩ : ∃ m, z4 = ivs m := ⟨_, hc2⟩
  obtain ⟨z5, rfl⟩ : ∃ m, z5 = pys m := ⟨_, hc3⟩
  obtain ⟨z7, rfl⟩ : ∃ m : Nat, z7 = m := ⟨_, hc4⟩
  obtain ⟨z8, rfl⟩ : ∃ m, z8 = evs m := ⟨_, hc5⟩
  obtain ⟨z9, rfl⟩ : ∃ m : Nat, z9 = m := ⟨_, hc6⟩
  obtain ⟨z10, rfl⟩ : ∃ m : Nat, z10 = m := ⟨_, hc7⟩
  obtain ⟨z11, rfl⟩ : ∃ m : Nat, z11 = m := ⟨_, hc8⟩
  simp only [Int.toNat_natCast, dchs_chs, devs_evs, divs_ivs, dpys_pys, dwts_wts]
  simp only [Int.toNat_natCast, dchs_chs, devs_evs, divs_ivs, dpys_pys, dwts_wts, wend_p] at hp
  exact wend_ok ⟨z2, z3, z4, z5, ⟨z7, z8⟩, z9, z10⟩ z11 z12 hp
end Dm
namespace Dm
open Go Go.Proofs Go.IntWalk
theorem addF_next {f : Fd} {k : Int} {a n : Nat} (h : (addF f k a n).2.2 = 0) : (addF f k a n).1.next = f.next + 1 ∧ f.next ≠ MM ∧ (addF f k a n).1.l.getLast? = some ⟨f.next, k, a, n⟩ := by
  unfold addF at h ⊢
  split at h
  rotate_left 1
  · cases h
  rename_i h1
  split at h
  · cases h
  rename_i h2
  rw [if_pos h1, if_neg h2]
  have h3 := h1.1.2.2.1
  refine ⟨rfl, h2, ?_⟩
  dsimp only
  rw [List.getLast?_drop, if_neg (by rw [List.length_append, List.length_singleton]; omega), List.getLast?_concat]
theorem wenW_e {v : Wl} {id : Nat} {paid : Bool} : (wenW v id paid).2 = wenE v id paid := by
  unfold wenW
  split
  · rename_i h; exact h.symm
  · rfl
theorem wenE_0 {v : Wl} {id : Nat} {paid : Bool} (h : wenE v id paid = 0) : okW v ∧ (wenP v id paid).2 = 0 ∧ (wenC v id paid).2 = 0 ∧ (wenF v id paid).2.2 = 0 := by
  unfold wenE at h
  split at h
  · cases h
  rename_i h1
  split at h
  · rename_i h2; exact absurd h h2
  rename_i h2
  split at h
  · rename_i h3; exact absurd h h3
  rename_i h3
  exact ⟨Decidable.byContradiction h1, Decidable.byContradiction h2, Decidable.byContradiction h3, h⟩
theorem last_lt {l : List Py} {k : Nat} (h : ∀ x ∈ l, x.id < k) : 0 < l.length → (l.getD (l.length - 1) default).id < k := fun h0 => h _ (mem_getD.2 ⟨_, by omega, rfl⟩)
theorem end_all {v : Wl} {id : Nat} {paid : Bool} (h : (wenW v id paid).2 = 0) : okW v ∧ okW (wenW v id paid).1 ∧ (wenW v id paid).1 = ⟨(lendL v.c id paid).1, v.w, v.i, (pendL v.p id paid).1, (wenF v id paid).1, v.next, v.tick⟩ ∧ (pendL v.p id paid).2 = 0 ∧ (lendL v.c id paid).2.2 = 0 ∧ (wenF v id paid).2.2 = 0 := by
  rw [wenW_e] at h
  obtain ⟨hok, hP, hC, hF⟩ := wenE_0 h
  have e : wenW v id paid = (⟨(wenC v id paid).1, v.w, v.i, (wenP v id paid).1, (wenF v id paid).1, v.next, v.tick⟩, 0) := by rw [wenW, if_pos h]
  rw [e]
  have hids := okW_ids hok
  obtain ⟨o1, o2, o3, o4, o5, o6, o7, o8⟩ := hok
  obtain ⟨h1, h2, -⟩ := agr_end (paid := paid) o8 o1 hP
  obtain ⟨-, l1, -⟩ := lend_all h1
  obtain ⟨-, -, p1, -⟩ := pend_all hP
  refine ⟨⟨o1, o2, o3, o4, o5, o6, o7, o8⟩, ⟨l1, o2, addF_ok hF, o4, o5, o6, last_lt fun x hx => ?_, h2⟩, rfl, hP, h1, hF⟩
  have : x.id ∈ (pendL v.p id paid).1.map Py.id := List.mem_map.2 ⟨x, hx, rfl⟩
  rw [p1] at this
  obtain ⟨y, hy, he⟩ := List.mem_map.1 this
  rw [← he]; exact hids y hy
end Dm
namespace Dm
open Go Go.Proofs Go.IntWalk
end Dm
namespace Dm
open Go Go.Proofs Go.IntWalk
def likW (v : Wl) (l : List Wt) : Wl × Int := if okW v ∧ l.length ≤ 32 then ({ v with w := l }, 0) else (zeroW, 1)
@[go_sem] def wlike_r (v : Wl) (l : List Wt) : D := .tup [.agg [.sl (chs (likW v l).1.c), .sl (wts (likW v l).1.w), .sl (ivs (likW v l).1.i), .sl (pys (likW v l).1.p), .int .u64 (likW v l).1.f.next, .sl (evs (likW v l).1.f.l), .int .u64 (likW v l).1.next, .int .u64 (likW v l).1.tick], .int .i64 (likW v l).2]
@[go_sem] abbrev n_wlike : FuncId := 11
@[go_sem] def wlike_T : Tab := [(37, sp_wcheck), (119, sp_wown)]
theorem wlike_T_ok : TabOk Tryz.prog wlike_T := (TabOk.cons sp_wcheck_ok (TabOk.cons sp_wown_ok TabOk.nil))
set_option maxRecDepth 8000 in
set_option maxHeartbeats 1000000 in
theorem wlike_ok (v : Wl) (l : List Wt) (h : v.f.next ≤ 18446744073709551615) : PureFn Tryz.prog 11 [.agg [.sl (chs v.c), .sl (wts v.w), .sl (ivs v.i), .sl (pys v.p), .c (.int .u64 (v.f.next : Int)), .sl (evs v.f.l), .c (.int .u64 (v.next : Int)), .c (.int .u64 (v.tick : Int))], .sl (wts l)] (wlike_r v l) := by
  refine .of (ac11 wlike_T_ok (Nat.le_of_ble_eq_true rfl) ?_)
  simp -implicitDefEqProofs only [cdA, go_sem, Go.Proofs.Tryz.f11, reduceIte, List.cons.injEq, cdB]
  refine ac45 wlike_T_ok (Nat.le_of_ble_eq_true rfl) ?_
  simp -implicitDefEqProofs only [cdA, go_sem, Go.Proofs.Tryz.f45, reduceIte, List.cons.injEq, cdB]
  refine ADraw.run us45_1 wlike_T_ok follows_mixed (by kernel_rfl) (by kernel_rfl) ?_
  simp -implicitDefEqProofs only [cdA, go_sem, reduceIte, List.cons.injEq, cdB]
  refine ⟨h, ?_⟩
  intro hll
  have hbad : ¬ (okW v ∧ l.length ≤ 32) → (chs (likW v l).1.c = [] ∧ wts (likW v l).1.w = [] ∧ ivs (likW v l).1.i = [] ∧ pys (likW v l).1.p = [] ∧ 0 = ((likW v l).1.f.next : Int) ∧ evs (likW v l).1.f.l = [] ∧ 0 = ((likW v l).1.next : Int) ∧ 0 = ((likW v l).1.tick : Int)) ∧ 1 = (likW v l).2 := fun h => by
    have : likW v l = (zeroW, 1) := by rw [likW, if_neg h]
    rw [this]; exact ⟨⟨rfl, rfl, rfl, rfl, rfl, rfl, rfl, rfl⟩, rfl⟩
  by_cases hok : okW v
  rotate_left 1
  · have hc1 : chkW v = 1 := by rw [chkW, if_neg hok]
    rw [hc1]
    refine ac46 wlike_T_ok (Nat.le_of_ble_eq_true rfl) ?_
    simp -implicitDefEqProofs only [cdA, go_sem, Go.Proofs.Tryz.f46, i1_0, cdN, reduceIte, List.cons.injEq, cdB]
    refine ac47 wlike_T_ok (Nat.le_of_ble_eq_true rfl) ?_
    simp -implicitDefEqProofs only [cdA, go_sem, Go.Proofs.Tryz.f47, i1_0, cdN, reduceIte, List.cons.injEq, cdB]
    refine ADraw.run us47_2 wlike_T_ok follows_mixed (by kernel_rfl) (by kernel_rfl) ?_
    simp -implicitDefEqProofs only [cdA, go_sem, i1_0, cdN, reduceIte, List.cons.injEq, cdB]
    exact hbad fun h => hok h.1
  have hck : chkW v = 0 := chkW_0.2 hok
  rw [hck]
  by_cases hl : l.length ≤ 32
  rotate_left 1
  · have hl' : ((l.length : Int) ≤ 32) = False := eq_false (by omega)
    refine ac46 wlike_T_ok (Nat.le_of_ble_eq_true rfl) ?_
    simp -implicitDefEqProofs only [cdA, go_sem, Go.Proofs.Tryz.f46, hl', decide_false, cdN, reduceIte, List.cons.injEq, cdB]
    refine ac47 wlike_T_ok (Nat.le_of_ble_eq_true rfl) ?_
    simp -implicitDefEqProofs only [cdA, go_sem, Go.Proofs.Tryz.f47, i1_0, cdN, reduceIte, List.cons.injEq, cdB]
    refine ADraw.run us47_2 wlike_T_ok follows_mixed (by kernel_rfl) (by kernel_rfl) ?_
    simp -implicitDefEqProofs only [cdA, go_sem, i1_0, cdN, reduceIte, List.cons.injEq, cdB]
    exact hbad fun h => hl h.2
  have hl' : ((l.length : Int) ≤ 32) = True := eq_true (by omega)
  refine ac46 wlike_T_ok (Nat.le_of_ble_eq_true rfl) ?_
  simp -implicitDefEqProofs only [cdA, go_sem, Go.Proofs.Tryz.f46, hl', decide_true, cdN, reduceIte, List.cons.injEq, cdB]
  have hsm : smallW ⟨v.c, l, v.i, v.p, v.f, v.next, v.tick⟩ := by
    have h2 := small_ok hok
    exact ⟨h2.1, h2.2.1, by show l.length ≤ _; omega, h2.2.2.2.1, h2.2.2.2.2.1, h2.2.2.2.2.2⟩
  have hfin : likW v l = (⟨v.c, l, v.i, v.p, v.f, v.next, v.tick⟩, 0) := by rw [likW, if_pos ⟨hok, hl⟩]
  refine ac47 wlike_T_ok (Nat.le_of_ble_eq_true rfl) ?_
  simp -implicitDefEqProofs only [cdA, go_sem, Go.Proofs.Tryz.f47, eq_true hsm, cdN, reduceIte, List.cons.injEq, cdB]
  rw [hfin]
  exact ⟨⟨rfl, rfl, rfl, rfl, rfl, rfl, rfl, rfl⟩, rfl⟩
@[go_sem] def wlike_p (v : Wl) (l : List Wt) : Prop := (v.f.next ≤ 18446744073709551615)
def sp_wlike : List D → Option (Prop × D × Fr)
  | [.agg [.c (.sl z2), .c (.sl z3), .c (.sl z4), .c (.sl z5), .c (.int .u64 z7), .c (.sl z8), .c (.int .u64 z9), .c (.int .u64 z10)], .c (.sl z11)] => some (z2 = chs (dchs z2) ∧ z3 = wts (dwts z3) ∧ z4 = ivs (divs z4) ∧ z5 = pys (dpys z5) ∧ z7 = (z7.toNat : Int) ∧ z8 = evs (devs z8) ∧ z9 = (z9.toNat : Int) ∧ z10 = (z10.toNat : Int) ∧ z11 = wts (dwts z11) ∧ wlike_p (⟨(dchs z2), (dwts z3), (divs z4), (dpys z5), (⟨z7.toNat, (devs z8)⟩ : Fd), z9.toNat, z10.toNat⟩ : Wl) (dwts z11), wlike_r (⟨(dchs z2), (dwts z3), (divs z4), (dpys z5), (⟨z7.toNat, (devs z8)⟩ : Fd), z9.toNat, z10.toNat⟩ : Wl) (dwts z11), [])
  | _ => none
attribute [go_sem] sp_wlike
theorem sp_wlike_ok : ∀ rs p r fr, sp_wlike rs = some (p, r, fr) → p → FnOk Tryz.prog 11 rs r fr := by
  intro rs p r fr h hp
  unfold sp_wlike at h
  split at h <;> cases h
  obtain ⟨hc0, hc1, hc2, hc3, hc4, hc5, hc6, hc7, hc8, hp⟩ := hp
  rename_i z2 z3 z4 z5 z7 z8 z9 z10 z11
  obtain ⟨z2, rfl⟩ : ∃ m, z2 = chs m := ⟨_, hc0⟩
  obtain ⟨z3, rfl⟩ : ∃ m, z3 = wts m := ⟨_, hc1⟩
  obtain ⟨z4, rfl⟩ : ∃ m, z4 = ivs m := ⟨_, hc2⟩
  obtain ⟨z5, rfl⟩ : ∃ m, z5 = pys m := ⟨_, hc3⟩
  obtain ⟨z7, rfl⟩ : ∃ m : Nat, z7 = m := ⟨_, hc4⟩
  obtain ⟨z8, rfl⟩ : ∃ m, z8 = evs m := ⟨_, hc5⟩
  obtain ⟨z9, rfl⟩ : ∃ m : Nat, z9 = m := ⟨_, hc6⟩
  obtain ⟨z10, rfl⟩ : ∃ m : Nat, z10 = m := ⟨_, hc7⟩
  obtain ⟨z11, rfl⟩ : ∃ m, z11 = wts m := ⟨_, hc8⟩
  simp only [Int.toNat_natCast, dchs_chs, devs_evs, divs_ivs, dpys_pys, dwts_wts]
  simp only [Int.toNat_natCast, dchs_chs, devs_evs, divs_ivs, dpys_pys, dwts_wts, wlike_p] at hp
  exact wlike_ok ⟨z2, z3, z4, z5, ⟨z7, z8⟩, z9, z10⟩ z11 hp
end Dm
namespace Dm
open Go Go.Proofs Go.IntWalk
def emptyW : Wl := ⟨[], [], [], [], ⟨1, []⟩, 1, 0⟩
def liveC : Ch := ⟨1, 10, 0, 0, 10, [], true⟩
theorem live1 : (wopW emptyW liveC).2 = 0 := by decide
theorem live2 : (wopW emptyW liveC).1.f.next ≤ 18446744073709551615 := by decide
set_option maxRecDepth 100000 in
theorem live3 : (payW (wopW emptyW liveC).1 7 4).2 = (1, 0) := by decide
set_option maxRecDepth 100000 in
theorem live4 : (payW (wopW emptyW liveC).1 7 4).1.f.next ≤ 18446744073709551615 ∧ oursL (payW (wopW emptyW liveC).1 7 4).1.c = (6, 4, 0) := by decide
set_option maxRecDepth 100000 in
theorem live5 : (wenW (payW (wopW emptyW liveC).1 7 4).1 1 false).2 = 0 := by decide
set_option maxRecDepth 100000 in
theorem live6 : oursL (wenW (payW (wopW emptyW liveC).1 7 4).1 1 false).1.c = (10, 0, 0) := by decide
@[go_sem] def few17_r (w : Wl) : D := .bool (decide (((∀ c ∈ w.c, c.holds.length ≤ 20) ∧ w.c.length ≤ 34) ∧ w.w.length ≤ 40 ∧ w.i.length ≤ 40 ∧ (w.p.length ≤ 40 ∨ 256 ≤ w.p.length ∧ w.p.length ≤ 258) ∧ w.f.l.length ≤ 70))
@[go_sem] abbrev n_few17 : FuncId := 10
@[go_sem] def few17_T : Tab := [(44, sp_few)]
theorem few17_T_ok : TabOk Tryz.prog few17_T := (TabOk.cons sp_few_ok TabOk.nil)
set_option maxRecDepth 8000 in
set_option maxHeartbeats 1000000 in
theorem few17_ok (w : Wl)  : PureFn Tryz.prog 10 [.agg [.sl (chs w.c), .sl (wts w.w), .sl (ivs w.i), .sl (pys w.p), .c (.int .u64 (w.f.next : Int)), .sl (evs w.f.l), .c (.int .u64 (w.next : Int)), .c (.int .u64 (w.tick : Int))]] (few17_r w) := by
  refine .of (ac10 few17_T_ok (Nat.le_of_ble_eq_true rfl) ?_)
  simp -implicitDefEqProofs only [cdA, go_sem, Go.Proofs.Tryz.f10, reduceIte, List.cons.injEq, cdB]
  refine ⟨fun hq _ => ⟨fun h1 _ => ⟨fun h2 _ => ⟨fun h3 _ => ⟨fun h4 _ => ⟨fun h5 _ => ?_, fun h5 => (decide_eq_false fun h => by have := h.2; omega).symm⟩, fun h4 => (decide_eq_false fun h => by have := h.2; omega).symm⟩, fun h3 _ => ?_⟩, fun h2 => (decide_eq_false fun h => by have := h.2; omega).symm⟩, fun h1 => (decide_eq_false fun h => by have := h.2; omega).symm⟩, fun hq => (decide_eq_false fun h => hq h.1).symm⟩
  · rw [decide_eq_decide]; exact ⟨fun h => ⟨hq, by omega, by omega, by omega, by omega⟩, fun h => by have := h.2; omega⟩
  · rw [decide_eq_decide]; exact ⟨fun h => ⟨hq, by omega, by omega, by omega, by omega⟩, fun h => by have := h.2; omega⟩
def sp_few17 : List D → Option (Prop × D × Fr)
  | [.agg [.c (.sl z2), .c (.sl z3), .c (.sl z4), .c (.sl z5), .c (.int .u64 z7), .c (.sl z8), .c (.int .u64 z9), .c (.int .u64 z10)]] => some (z2 = chs (dchs z2) ∧ z3 = wts (dwts z3) ∧ z4 = ivs (divs z4) ∧ z5 = pys (dpys z5) ∧ z7 = (z7.toNat : Int) ∧ z8 = evs (devs z8) ∧ z9 = (z9.toNat : Int) ∧ z10 = (z10.toNat : Int), few17_r (⟨(dchs z2), (dwts z3), (divs z4), (dpys z5), (⟨z7.toNat, (devs z8)⟩ : Fd), z9.toNat, z10.toNat⟩ : Wl), [])
  | _ => none
attribute [go_sem] sp_few17
theorem sp_few17_ok : ∀ rs p r fr, sp_few17 rs = some (p, r, fr) → p → FnOk Tryz.prog 10 rs r fr := by
  intro rs p r fr h hp
  unfold sp_few17 at h
  split at h <;> cases h
  obtain ⟨hc0, hc1, hc2, hc3, hc4, hc5, hc6, hc7⟩ := hp
  rename_i z2 z3 z4 z5 z7 z8 z9 z10
  obtain ⟨z2, rfl⟩ : ∃ m, z2 = chs m := ⟨_, hc0⟩
  obtain ⟨z3, rfl⟩ : ∃ m, z3 = wts m := ⟨_, hc1⟩
  obtain ⟨z4, rfl⟩ : ∃ m, z4 = ivs m := ⟨_, hc2⟩
  obtain ⟨z5, rfl⟩ : ∃ m, z5 = pys m := ⟨_, hc3⟩
  obtain ⟨z7, rfl⟩ : ∃ m : Nat, z7 = m := ⟨_, hc4⟩
  obtain ⟨z8, rfl⟩ : ∃ m, z8 = evs m := ⟨_, hc5⟩
  obtain ⟨z9, rfl⟩ : ∃ m : Nat, z9 = m := ⟨_, hc6⟩
  obtain ⟨z10, rfl⟩ : ∃ m : Nat, z10 = m := ⟨_, hc7⟩
  simp only [Int.toNat_natCast, dchs_chs, devs_evs, divs_ivs, dpys_pys, dwts_wts]
  exact few17_ok ⟨z2, z3, z4, z5, ⟨z7, z8⟩, z9, z10⟩
@[go_sem] def live_r  : D := .bool true
@[go_sem] abbrev n_live : FuncId := 9
@[go_sem] def live_T : Tab := [(40, sp_wnew), (30, sp_wopen), (13, sp_wpay), (43, sp_ours), (15, sp_wend)]
theorem live_T_ok : TabOk Tryz.prog live_T := (TabOk.cons sp_wnew_ok (TabOk.cons sp_wopen_ok (TabOk.cons sp_wpay_ok (TabOk.cons sp_ours_ok (TabOk.cons sp_wend_ok TabOk.nil)))))
set_option maxRecDepth 8000 in
set_option maxHeartbeats 1000000 in
theorem live_ok   : PureFn Tryz.prog 9 [] (live_r ) := by
  refine .of (ac9 live_T_ok (Nat.le_of_ble_eq_true rfl) ?_)
  simp -implicitDefEqProofs only [cdA, go_sem, Go.Proofs.Tryz.f9, reduceIte, List.cons.injEq, cdB]
  have a1 := live1
  have a2 := live2
  have a3 := live3
  obtain ⟨a4, a5⟩ := live4
  have a6 := live5
  have a7 := live6
  unfold emptyW liveC at a1 a2 a3 a4 a5 a6 a7
  simp only [show dhds [] = [] from rfl]
  refine ⟨rfl, ?_⟩
  generalize wopW _ _ = x at *
  generalize payW x.1 7 4 = y at *
  have b1 : y.2.1 = 1 := congrArg Prod.fst a3
  have b2 : y.2.2 = 0 := congrArg Prod.snd a3
  rw [b1, b2, a5]
  generalize wenW y.1 1 false = z at *
  rw [a1, a6, a7]
  exact ⟨a2, a4, by simp⟩
def sp_live : List D → Option (Prop × D × Fr)
  | [] => some (True, live_r , [])
  | _ => none
attribute [go_sem] sp_live
theorem sp_live_ok : ∀ rs p r fr, sp_live rs = some (p, r, fr) → p → FnOk Tryz.prog 9 rs r fr := by
  intro rs p r fr h hp
  unfold sp_live at h
  split at h <;> cases h
  exact live_ok 
end Dm
namespace Dm
open Go Go.Proofs
set_option maxRecDepth 20000
theorem wf_u64 {n : Int} (h : (Lit.int .u64 n).wf = true) : 0 ≤ n ∧ n ≤ 18446744073709551615 := by
  simp [Lit.wf, IntKind.min, IntKind.max, IntKind.bits, IntKind.signed] at h
  omega
theorem wf_i64 {n : Int} (h : (Lit.int .i64 n).wf = true) : -9223372036854775808 ≤ n ∧ n ≤ 9223372036854775807 := by
  simp [Lit.wf, IntKind.min, IntKind.max, IntKind.bits, IntKind.signed] at h
  omega
theorem typ26 {k : Nat} {xs : List C} (h : Typ Tryz.prog (k + 1) 26 xs) : ∃ n : Nat, xs = [.int .u64 (n : Int)] ∧ n ≤ 18446744073709551615 := by
  simp only [Typ, Tryz.underlying26] at h
  obtain ⟨n, rfl, h1⟩ := h
  have := wf_u64 h1
  exact ⟨n.toNat, by rw [Int.toNat_of_nonneg (by omega)], by omega⟩
theorem typ4 {k : Nat} {xs : List C} (h : Typ Tryz.prog (k + 1) 4 xs) : ∃ b, xs = [.bool b] := by
  simp only [Typ, Tryz.underlying4] at h
  exact h
def Hd.rng (e : Hd) : Prop := e.id ≤ 18446744073709551615 ∧ e.n ≤ 18446744073709551615
theorem typ62 {k : Nat} {xs : List C} (h : Typ Tryz.prog (k + 2) 62 xs) : (Hd.dec xs).enc = xs ∧ (Hd.dec xs).rng := by
  simp only [Typ, Tryz.underlying62, TypFs, Tryz.underlying26] at h
  obtain ⟨_, _, rfl, ⟨s0, rfl, h0⟩, _, _, rfl, ⟨s1, rfl, h1⟩, rfl⟩ := h
  have q0 := wf_u64 h0
  have q1 := wf_u64 h1
  simp only [List.cons_append, List.nil_append, List.append_nil]
  refine ⟨by simp [Hd.dec, Hd.enc, Int.toNat_of_nonneg q0.1, Int.toNat_of_nonneg q1.1], ?_⟩
  simp only [Hd.dec, Hd.rng]
  exact ⟨by omega, by omega⟩
theorem hds_dhds {els : List (List C)} (h : ∀ x ∈ els, (Hd.dec x).enc = x) : hds (dhds els) = els := by
  simp only [hds, dhds, List.map_map]
  refine (List.map_congr_left fun x hx => ?_).trans (List.map_id _)
  exact h x hx
theorem typ48 {k : Nat} {xs : List C} (h : Typ Tryz.prog (k + 3) 48 xs) : ∃ l, xs = [.sl (hds l)] ∧ ∀ e ∈ l, e.rng := by
  simp only [Typ, Tryz.underlying48] at h
  obtain ⟨els, rfl, _, h2⟩ := h
  have h3 : ∀ x ∈ els, (Hd.dec x).enc = x ∧ (Hd.dec x).rng := fun x hx => typ62 (k := k) (h2 x hx)
  refine ⟨dhds els, by rw [hds_dhds fun x hx => (h3 x hx).1], fun e he => ?_⟩
  obtain ⟨x, hx, rfl⟩ := List.mem_map.1 he
  exact (h3 x hx).2
def Ch.rng (e : Ch) : Prop := e.id ≤ 18446744073709551615 ∧ e.loc ≤ 18446744073709551615 ∧ e.rem ≤ 18446744073709551615 ∧ e.res ≤ 18446744073709551615 ∧ e.most ≤ 18446744073709551615 ∧ (∀ q ∈ e.holds, q.rng) ∧ True
theorem typ50 {k : Nat} {xs : List C} (h : Typ Tryz.prog (k + 4) 50 xs) : (Ch.dec xs).enc = xs ∧ (Ch.dec xs).rng := by
  simp only [Typ, Tryz.underlying50, TypFs, Tryz.underlying4, Tryz.underlying26] at h
  obtain ⟨_, _, rfl, ⟨s0, rfl, h0⟩, _, _, rfl, ⟨s1, rfl, h1⟩, _, _, rfl, ⟨s2, rfl, h2⟩, _, _, rfl, ⟨s3, rfl, h3⟩, _, _, rfl, ⟨s4, rfl, h4⟩, _, _, rfl, hs5, _, _, rfl, ⟨s6, rfl⟩, rfl⟩ := h
  have q0 := wf_u64 h0
  have q1 := wf_u64 h1
  have q2 := wf_u64 h2
  have q3 := wf_u64 h3
  have q4 := wf_u64 h4
  obtain ⟨s5, rfl, q5⟩ := typ48 (k := k + 0) hs5
  simp only [List.cons_append, List.nil_append, List.append_nil]
  refine ⟨by simp [Ch.dec, Ch.enc, Int.toNat_of_nonneg q0.1, Int.toNat_of_nonneg q1.1, Int.toNat_of_nonneg q2.1, Int.toNat_of_nonneg q3.1, Int.toNat_of_nonneg q4.1, dhds_hds], ?_⟩
  simp only [Ch.dec, Ch.rng, dhds_hds]
  exact ⟨by omega, by omega, by omega, by omega, by omega, q5, trivial⟩
theorem chs_dchs {els : List (List C)} (h : ∀ x ∈ els, (Ch.dec x).enc = x) : chs (dchs els) = els := by
  simp only [chs, dchs, List.map_map]
  refine (List.map_congr_left fun x hx => ?_).trans (List.map_id _)
  exact h x hx
theorem typ22 {k : Nat} {xs : List C} (h : Typ Tryz.prog (k + 5) 22 xs) : ∃ l, xs = [.sl (chs l)] ∧ ∀ e ∈ l, e.rng := by
  simp only [Typ, Tryz.underlying22] at h
  obtain ⟨els, rfl, _, h2⟩ := h
  have h3 : ∀ x ∈ els, (Ch.dec x).enc = x ∧ (Ch.dec x).rng := fun x hx => typ50 (k := k) (h2 x hx)
  refine ⟨dchs els, by rw [chs_dchs fun x hx => (h3 x hx).1], fun e he => ?_⟩
  obtain ⟨x, hx, rfl⟩ := List.mem_map.1 he
  exact (h3 x hx).2
def Wt.rng (e : Wt) : Prop := e.id ≤ 18446744073709551615 ∧ True
theorem typ72 {k : Nat} {xs : List C} (h : Typ Tryz.prog (k + 2) 72 xs) : (Wt.dec xs).enc = xs ∧ (Wt.dec xs).rng := by
  simp only [Typ, Tryz.underlying72, TypFs, Tryz.underlying26, Tryz.underlying70] at h
  obtain ⟨_, _, rfl, ⟨s0, rfl, h0⟩, _, _, rfl, ⟨s1, rfl, h1⟩, rfl⟩ := h
  have q0 := wf_u64 h0
  simp only [List.cons_append, List.nil_append, List.append_nil]
  refine ⟨by simp [Wt.dec, Wt.enc, Int.toNat_of_nonneg q0.1], ?_⟩
  simp only [Wt.dec, Wt.rng]
  exact ⟨by omega, trivial⟩
theorem wts_dwts {els : List (List C)} (h : ∀ x ∈ els, (Wt.dec x).enc = x) : wts (dwts els) = els := by
  simp only [wts, dwts, List.map_map]
  refine (List.map_congr_left fun x hx => ?_).trans (List.map_id _)
  exact h x hx
theorem typ23 {k : Nat} {xs : List C} (h : Typ Tryz.prog (k + 3) 23 xs) : ∃ l, xs = [.sl (wts l)] ∧ ∀ e ∈ l, e.rng := by
  simp only [Typ, Tryz.underlying23] at h
  obtain ⟨els, rfl, _, h2⟩ := h
  have h3 : ∀ x ∈ els, (Wt.dec x).enc = x ∧ (Wt.dec x).rng := fun x hx => typ72 (k := k) (h2 x hx)
  refine ⟨dwts els, by rw [wts_dwts fun x hx => (h3 x hx).1], fun e he => ?_⟩
  obtain ⟨x, hx, rfl⟩ := List.mem_map.1 he
  exact (h3 x hx).2
def Iv.rng (e : Iv) : Prop := e.hash ≤ 18446744073709551615 ∧ e.n ≤ 18446744073709551615 ∧ e.till ≤ 18446744073709551615 ∧ (-9223372036854775808 ≤ e.state ∧ e.state ≤ 9223372036854775807)
theorem typ64 {k : Nat} {xs : List C} (h : Typ Tryz.prog (k + 2) 64 xs) : (Iv.dec xs).enc = xs ∧ (Iv.dec xs).rng := by
  simp only [Typ, Tryz.underlying64, TypFs, Tryz.underlying3, Tryz.underlying26] at h
  obtain ⟨_, _, rfl, ⟨s0, rfl, h0⟩, _, _, rfl, ⟨s1, rfl, h1⟩, _, _, rfl, ⟨s2, rfl, h2⟩, _, _, rfl, ⟨s3, rfl, h3⟩, rfl⟩ := h
  have q0 := wf_u64 h0
  have q1 := wf_u64 h1
  have q2 := wf_u64 h2
  have q3 := wf_i64 h3
  simp only [List.cons_append, List.nil_append, List.append_nil]
  refine ⟨by simp [Iv.dec, Iv.enc, Int.toNat_of_nonneg q0.1, Int.toNat_of_nonneg q1.1, Int.toNat_of_nonneg q2.1], ?_⟩
  simp only [Iv.dec, Iv.rng]
  exact ⟨by omega, by omega, by omega, ⟨by omega, by omega⟩⟩
theorem ivs_divs {els : List (List C)} (h : ∀ x ∈ els, (Iv.dec x).enc = x) : ivs (divs els) = els := by
  simp only [ivs, divs, List.map_map]
  refine (List.map_congr_left fun x hx => ?_).trans (List.map_id _)
  exact h x hx
theorem typ24 {k : Nat} {xs : List C} (h : Typ Tryz.prog (k + 3) 24 xs) : ∃ l, xs = [.sl (ivs l)] ∧ ∀ e ∈ l, e.rng := by
  simp only [Typ, Tryz.underlying24] at h
  obtain ⟨els, rfl, _, h2⟩ := h
  have h3 : ∀ x ∈ els, (Iv.dec x).enc = x ∧ (Iv.dec x).rng := fun x hx => typ64 (k := k) (h2 x hx)
  refine ⟨divs els, by rw [ivs_divs fun x hx => (h3 x hx).1], fun e he => ?_⟩
  obtain ⟨x, hx, rfl⟩ := List.mem_map.1 he
  exact (h3 x hx).2
def Py.rng (e : Py) : Prop := e.id ≤ 18446744073709551615 ∧ e.hash ≤ 18446744073709551615 ∧ e.chan ≤ 18446744073709551615 ∧ e.n ≤ 18446744073709551615 ∧ (-9223372036854775808 ≤ e.state ∧ e.state ≤ 9223372036854775807)
theorem typ45 {k : Nat} {xs : List C} (h : Typ Tryz.prog (k + 2) 45 xs) : (Py.dec xs).enc = xs ∧ (Py.dec xs).rng := by
  simp only [Typ, Tryz.underlying45, TypFs, Tryz.underlying3, Tryz.underlying26] at h
  obtain ⟨_, _, rfl, ⟨s0, rfl, h0⟩, _, _, rfl, ⟨s1, rfl, h1⟩, _, _, rfl, ⟨s2, rfl, h2⟩, _, _, rfl, ⟨s3, rfl, h3⟩, _, _, rfl, ⟨s4, rfl, h4⟩, rfl⟩ := h
  have q0 := wf_u64 h0
  have q1 := wf_u64 h1
  have q2 := wf_u64 h2
  have q3 := wf_u64 h3
  have q4 := wf_i64 h4
  simp only [List.cons_append, List.nil_append, List.append_nil]
  refine ⟨by simp [Py.dec, Py.enc, Int.toNat_of_nonneg q0.1, Int.toNat_of_nonneg q1.1, Int.toNat_of_nonneg q2.1, Int.toNat_of_nonneg q3.1], ?_⟩
  simp only [Py.dec, Py.rng]
  exact ⟨by omega, by omega, by omega, by omega, ⟨by omega, by omega⟩⟩
theorem pys_dpys {els : List (List C)} (h : ∀ x ∈ els, (Py.dec x).enc = x) : pys (dpys els) = els := by
  simp only [pys, dpys, List.map_map]
  refine (List.map_congr_left fun x hx => ?_).trans (List.map_id _)
  exact h x hx
theorem typ25 {k : Nat} {xs : List C} (h : Typ Tryz.prog (k + 3) 25 xs) : ∃ l, xs = [.sl (pys l)] ∧ ∀ e ∈ l, e.rng := by
  simp only [Typ, Tryz.underlying25] at h
  obtain ⟨els, rfl, _, h2⟩ := h
  have h3 : ∀ x ∈ els, (Py.dec x).enc = x ∧ (Py.dec x).rng := fun x hx => typ45 (k := k) (h2 x hx)
  refine ⟨dpys els, by rw [pys_dpys fun x hx => (h3 x hx).1], fun e he => ?_⟩
  obtain ⟨x, hx, rfl⟩ := List.mem_map.1 he
  exact (h3 x hx).2
def Ev.rng (e : Ev) : Prop := e.seq ≤ 18446744073709551615 ∧ (-9223372036854775808 ≤ e.kind ∧ e.kind ≤ 9223372036854775807) ∧ e.a ≤ 18446744073709551615 ∧ e.n ≤ 18446744073709551615
theorem typ74 {k : Nat} {xs : List C} (h : Typ Tryz.prog (k + 2) 74 xs) : (Ev.dec xs).enc = xs ∧ (Ev.dec xs).rng := by
  simp only [Typ, Tryz.underlying74, TypFs, Tryz.underlying3, Tryz.underlying26] at h
  obtain ⟨_, _, rfl, ⟨s0, rfl, h0⟩, _, _, rfl, ⟨s1, rfl, h1⟩, _, _, rfl, ⟨s2, rfl, h2⟩, _, _, rfl, ⟨s3, rfl, h3⟩, rfl⟩ := h
  have q0 := wf_u64 h0
  have q1 := wf_i64 h1
  have q2 := wf_u64 h2
  have q3 := wf_u64 h3
  simp only [List.cons_append, List.nil_append, List.append_nil]
  refine ⟨by simp [Ev.dec, Ev.enc, Int.toNat_of_nonneg q0.1, Int.toNat_of_nonneg q2.1, Int.toNat_of_nonneg q3.1], ?_⟩
  simp only [Ev.dec, Ev.rng]
  exact ⟨by omega, ⟨by omega, by omega⟩, by omega, by omega⟩
theorem evs_devs {els : List (List C)} (h : ∀ x ∈ els, (Ev.dec x).enc = x) : evs (devs els) = els := by
  simp only [evs, devs, List.map_map]
  refine (List.map_congr_left fun x hx => ?_).trans (List.map_id _)
  exact h x hx
theorem typ27 {k : Nat} {xs : List C} (h : Typ Tryz.prog (k + 3) 27 xs) : ∃ l, xs = [.sl (evs l)] ∧ ∀ e ∈ l, e.rng := by
  simp only [Typ, Tryz.underlying27] at h
  obtain ⟨els, rfl, _, h2⟩ := h
  have h3 : ∀ x ∈ els, (Ev.dec x).enc = x ∧ (Ev.dec x).rng := fun x hx => typ74 (k := k) (h2 x hx)
  refine ⟨devs els, by rw [evs_devs fun x hx => (h3 x hx).1], fun e he => ?_⟩
  obtain ⟨x, hx, rfl⟩ := List.mem_map.1 he
  exact (h3 x hx).2
def Fd.rng (e : Fd) : Prop := e.next ≤ 18446744073709551615 ∧ (∀ q ∈ e.l, q.rng)
theorem typ29 {k : Nat} {xs : List C} (h : Typ Tryz.prog (k + 4) 29 xs) : (Fd.dec xs).enc = xs ∧ (Fd.dec xs).rng := by
  simp only [Typ, Tryz.underlying29, TypFs, Tryz.underlying26] at h
  obtain ⟨_, _, rfl, ⟨s0, rfl, h0⟩, _, _, rfl, hs1, rfl⟩ := h
  have q0 := wf_u64 h0
  obtain ⟨s1, rfl, q1⟩ := typ27 (k := k + 0) hs1
  simp only [List.cons_append, List.nil_append, List.append_nil]
  refine ⟨by simp [Fd.dec, Fd.enc, Int.toNat_of_nonneg q0.1, devs_evs], ?_⟩
  simp only [Fd.dec, Fd.rng, devs_evs]
  exact ⟨by omega, q1⟩
def Wl.rng (w : Wl) : Prop := (∀ e ∈ w.c, e.rng) ∧ (∀ e ∈ w.w, e.rng) ∧ (∀ e ∈ w.i, e.rng) ∧ (∀ e ∈ w.p, e.rng) ∧ w.f.rng ∧ w.next ≤ 18446744073709551615 ∧ w.tick ≤ 18446744073709551615
theorem typ31x {k : Nat} {xs : List C} (h : Typ Tryz.prog (k + 6) 31 xs) : ∃ w : Wl, xs = w.enc ∧ w.rng := by
  rw [show k + 6 = (k + 5) + 1 from rfl, Typ, Tryz.underlying31] at h
  simp only [TypFs] at h
  obtain ⟨_, _, rfl, h0, _, _, rfl, h1, _, _, rfl, h2, _, _, rfl, h3, _, _, rfl, h4, _, _, rfl, h5, _, _, rfl, h6, rfl⟩ := h
  obtain ⟨c, rfl, q0⟩ := typ22 (k := k) h0
  obtain ⟨w, rfl, q1⟩ := typ23 (k := k + 2) h1
  obtain ⟨i, rfl, q2⟩ := typ24 (k := k + 2) h2
  obtain ⟨p, rfl, q3⟩ := typ25 (k := k + 2) h3
  obtain ⟨e4, q4⟩ := typ29 (k := k + 1) h4
  obtain ⟨n, rfl, q5⟩ := typ26 (k := k + 4) h5
  obtain ⟨t, rfl, q6⟩ := typ26 (k := k + 4) h6
  refine ⟨⟨c, w, i, p, Fd.dec _, n, t⟩, ?_, q0, q1, q2, q3, q4, q5, q6⟩
  rw [← e4]
  simp [Wl.enc, Fd.enc, Fd.dec, devs_evs]
end Dm
namespace Dm
open Go Go.Proofs Go.IntWalk
def cpuE (c : Ch) (n : Nat) : Int := if ¬ okCh c ∨ ¬ n ≤ MM then 1 else if c.op = false then 14 else if c.rem < n then 9 else 0
def cpuC (c : Ch) (n : Nat) : Ch × Int := if cpuE c n = 0 then (⟨c.id, c.loc + n, c.rem - n, c.res, c.most, c.holds, c.op⟩, 0) else (default, cpuE c n)
theorem cpuC_2 {c : Ch} {n : Nat} : (cpuC c n).2 = cpuE c n := by
  unfold cpuC
  split
  · rename_i h; exact h.symm
  · rfl
@[go_sem] def cpush_r (c : Ch) (n : Nat) : D := .tup [.agg [.int .u64 (cpuC c n).1.id, .int .u64 (cpuC c n).1.loc, .int .u64 (cpuC c n).1.rem, .int .u64 (cpuC c n).1.res, .int .u64 (cpuC c n).1.most, .sl (hds (cpuC c n).1.holds), .bool (cpuC c n).1.op], .int .i64 (cpuC c n).2]
@[go_sem] abbrev n_cpush : FuncId := 178
@[go_sem] def cpush_T : Tab := [(183, sp_ccheck), (49, sp_moncheck), (207, sp_monsub), (153, sp_hclone)]
theorem cpush_T_ok : TabOk Tryz.prog cpush_T := (TabOk.cons sp_ccheck_ok (TabOk.cons sp_moncheck_ok (TabOk.cons sp_monsub_ok (TabOk.cons sp_hclone_ok TabOk.nil))))
set_option maxRecDepth 8000 in
set_option maxHeartbeats 1000000 in
theorem cpush_ok (c : Ch) (n : Nat)  : PureFn Tryz.prog 178 [.agg [.c (.int .u64 (c.id : Int)), .c (.int .u64 (c.loc : Int)), .c (.int .u64 (c.rem : Int)), .c (.int .u64 (c.res : Int)), .c (.int .u64 (c.most : Int)), .sl (hds c.holds), .c (.bool c.op)], .c (.int .u64 (n : Int))] (cpush_r c n) := by
  refine .of (ac178 cpush_T_ok (Nat.le_of_ble_eq_true rfl) ?_)
  simp -implicitDefEqProofs only [cdA, go_sem, Go.Proofs.Tryz.f178, reduceIte, List.cons.injEq, cdB]
  have hc0 : chkC c = 0 ↔ okCh c := by unfold chkC; split <;> rename_i h <;> simp only [h] <;> decide
  have hm : monS [n] = 0 ↔ n ≤ MM := mon1_0
  have hbad : ∀ k, cpuE c n = k → ¬ k = 0 → (0 = ((cpuC c n).1.id : Int) ∧ 0 = ((cpuC c n).1.loc : Int) ∧ 0 = ((cpuC c n).1.rem : Int) ∧ 0 = ((cpuC c n).1.res : Int) ∧ 0 = ((cpuC c n).1.most : Int) ∧ hds (cpuC c n).1.holds = [] ∧ false = (cpuC c n).1.op) ∧ k = (cpuC c n).2 := fun k hk h0 => by
    have : cpuC c n = (default, k) := by rw [cpuC, if_neg (by rw [hk]; exact h0), hk]
    rw [this]; exact ⟨⟨rfl, rfl, rfl, rfl, rfl, rfl, rfl⟩, rfl⟩
  refine ⟨fun h1 => ⟨fun h2 => ?_, fun h2 => hbad 1 (by rw [cpuE, if_pos (.inr fun h => h2 (hm.2 h))]) (by decide)⟩, fun h1 => hbad 1 (by rw [cpuE, if_pos (.inl fun h => h1 (hc0.2 h))]) (by decide)⟩
  have hok := hc0.1 h1
  have hn := hm.1 h2
  have hr : c.rem ≤ MM := hok.2.2.2.2.2.2.2.2.1
  have hl : c.loc ≤ MM := hok.2.2.2.2.2.2.2.1
  have hA : ¬ (¬ okCh c ∨ ¬ n ≤ MM) := by rintro (h | h) <;> first | exact h hok | exact h hn
  unfold MM at hn hr hl
  rw [subM, if_pos ⟨hr, hn⟩]
  refine ⟨fun h3 => ?_, fun h3 => hbad 14 (by rw [cpuE, if_neg hA, if_pos h3]) (by decide)⟩
  have h3' : ¬ c.op = false := by rw [h3]; decide
  by_cases h4 : n ≤ c.rem
  · have e : cpuE c n = 0 := by rw [cpuE, if_neg hA, if_neg h3', if_neg (by omega)]
    rw [if_pos h4, cpuC, if_pos e]
    refine ⟨fun _ => ⟨by have := hok.2.2.1; omega, ⟨rfl, by rw [u64_in _ (by omega)]; dsimp only; omega, rfl, rfl, rfl, rfl, rfl⟩, rfl⟩, fun h => absurd rfl h⟩
  · rw [if_neg h4]
    exact ⟨fun h => absurd (show (9 : Int) = 0 from h) (by decide), fun _ => hbad 9 (by rw [cpuE, if_neg hA, if_neg h3', if_pos (by omega)]) (by decide)⟩
def sp_cpush : List D → Option (Prop × D × Fr)
  | [.agg [.c (.int .u64 z2), .c (.int .u64 z3), .c (.int .u64 z4), .c (.int .u64 z5), .c (.int .u64 z6), .c (.sl z7), .c (.bool z8)], .c (.int .u64 z9)] => some (z2 = (z2.toNat : Int) ∧ z3 = (z3.toNat : Int) ∧ z4 = (z4.toNat : Int) ∧ z5 = (z5.toNat : Int) ∧ z6 = (z6.toNat : Int) ∧ z7 = hds (dhds z7) ∧ z9 = (z9.toNat : Int), cpush_r (⟨z2.toNat, z3.toNat, z4.toNat, z5.toNat, z6.toNat, (dhds z7), z8⟩ : Ch) z9.toNat, [])
  | _ => none
attribute [go_sem] sp_cpush
theorem sp_cpush_ok : ∀ rs p r fr, sp_cpush rs = some (p, r, fr) → p → FnOk Tryz.prog 178 rs r fr := by
  intro rs p r fr h hp
  unfold sp_cpush at h
  split at h <;> cases h
  obtain ⟨hc0, hc1, hc2, hc3, hc4, hc5, hc6⟩ := hp
  rename_i z2 z3 z4 z5 z6 z7 z8 z9
  obtain ⟨z2, rfl⟩ : ∃ m : Nat, z2 = m := ⟨_, hc0⟩
  obtain ⟨z3, rfl⟩ : ∃ m : Nat, z3 = m := ⟨_, hc1⟩
  obtain ⟨z4, rfl⟩ : ∃ m : Nat, z4 = m := ⟨_, hc2⟩
  obtain ⟨z5, rfl⟩ : ∃ m : Nat, z5 = m := ⟨_, hc3⟩
  obtain ⟨z6, rfl⟩ : ∃ m : Nat, z6 = m := ⟨_, hc4⟩
  obtain ⟨z7, rfl⟩ : ∃ m, z7 = hds m := ⟨_, hc5⟩
  obtain ⟨z9, rfl⟩ : ∃ m : Nat, z9 = m := ⟨_, hc6⟩
  simp only [Int.toNat_natCast, dhds_hds]
  exact cpush_ok ⟨z2, z3, z4, z5, z6, z7, z8⟩ z9
def cclE (c : Ch) : Int := if ¬ okCh c then 1 else if c.op = false then 14 else if c.holds.length ≠ 0 then 10 else 0
def cclC (c : Ch) : Ch × Int := if cclE c = 0 then (⟨c.id, c.loc, c.rem, c.res, c.most, [], false⟩, 0) else (default, cclE c)
theorem cclC_2 {c : Ch} : (cclC c).2 = cclE c := by
  unfold cclC
  split
  · rename_i h; exact h.symm
  · rfl
@[go_sem] def cclose_r (c : Ch) : D := .tup [.agg [.int .u64 (cclC c).1.id, .int .u64 (cclC c).1.loc, .int .u64 (cclC c).1.rem, .int .u64 (cclC c).1.res, .int .u64 (cclC c).1.most, .sl (hds (cclC c).1.holds), .bool (cclC c).1.op], .int .i64 (cclC c).2]
@[go_sem] abbrev n_cclose : FuncId := 189
@[go_sem] def cclose_T : Tab := [(183, sp_ccheck)]
theorem cclose_T_ok : TabOk Tryz.prog cclose_T := (TabOk.cons sp_ccheck_ok TabOk.nil)
set_option maxRecDepth 8000 in
set_option maxHeartbeats 1000000 in
theorem cclose_ok (c : Ch)  : PureFn Tryz.prog 189 [.agg [.c (.int .u64 (c.id : Int)), .c (.int .u64 (c.loc : Int)), .c (.int .u64 (c.rem : Int)), .c (.int .u64 (c.res : Int)), .c (.int .u64 (c.most : Int)), .sl (hds c.holds), .c (.bool c.op)]] (cclose_r c) := by
  refine .of (ac189 cclose_T_ok (Nat.le_of_ble_eq_true rfl) ?_)
  simp -implicitDefEqProofs only [cdA, go_sem, Go.Proofs.Tryz.f189, reduceIte, List.cons.injEq, cdB]
  have hc0 : chkC c = 0 ↔ okCh c := by unfold chkC; split <;> rename_i h <;> simp only [h] <;> decide
  have hbad : ∀ k, cclE c = k → ¬ k = 0 → (0 = ((cclC c).1.id : Int) ∧ 0 = ((cclC c).1.loc : Int) ∧ 0 = ((cclC c).1.rem : Int) ∧ 0 = ((cclC c).1.res : Int) ∧ 0 = ((cclC c).1.most : Int) ∧ hds (cclC c).1.holds = [] ∧ false = (cclC c).1.op) ∧ k = (cclC c).2 := fun k hk h0 => by
    have : cclC c = (default, k) := by rw [cclC, if_neg (by rw [hk]; exact h0), hk]
    rw [this]; exact ⟨⟨rfl, rfl, rfl, rfl, rfl, rfl, rfl⟩, rfl⟩
  refine ⟨fun h1 => ?_, fun h1 => hbad 1 (by rw [cclE, if_pos fun h => h1 (hc0.2 h)]) (by decide)⟩
  have hok := hc0.1 h1
  refine ⟨fun h3 _ => ?_, fun h3 => hbad 14 (by rw [cclE, if_neg (fun h => h hok), if_pos h3]) (by decide)⟩
  have h3' : ¬ c.op = false := by rw [h3]; decide
  refine ⟨fun h4 => hbad 10 (by rw [cclE, if_neg (fun h => h hok), if_neg h3', if_pos (by omega)]) (by decide), fun h4 => ?_⟩
  have e : cclE c = 0 := by rw [cclE, if_neg (fun h => h hok), if_neg h3', if_neg (by omega)]
  rw [cclC, if_pos e]
  exact ⟨⟨rfl, rfl, rfl, rfl, rfl, rfl, rfl⟩, rfl⟩
def sp_cclose : List D → Option (Prop × D × Fr)
  | [.agg [.c (.int .u64 z11), .c (.int .u64 z12), .c (.int .u64 z13), .c (.int .u64 z14), .c (.int .u64 z15), .c (.sl z16), .c (.bool z17)]] => some (z11 = (z11.toNat : Int) ∧ z12 = (z12.toNat : Int) ∧ z13 = (z13.toNat : Int) ∧ z14 = (z14.toNat : Int) ∧ z15 = (z15.toNat : Int) ∧ z16 = hds (dhds z16), cclose_r (⟨z11.toNat, z12.toNat, z13.toNat, z14.toNat, z15.toNat, (dhds z16), z17⟩ : Ch), [])
  | _ => none
attribute [go_sem] sp_cclose
theorem sp_cclose_ok : ∀ rs p r fr, sp_cclose rs = some (p, r, fr) → p → FnOk Tryz.prog 189 rs r fr := by
  intro rs p r fr h hp
  unfold sp_cclose at h
  split at h <;> cases h
  obtain ⟨hc0, hc1, hc2, hc3, hc4, hc5⟩ := hp
  rename_i z11 z12 z13 z14 z15 z16 z17
  obtain ⟨z11, rfl⟩ : ∃ m : Nat, z11 = m := ⟨_, hc0⟩
  obtain ⟨z12, rfl⟩ : ∃ m : Nat, z12 = m := ⟨_, hc1⟩
  obtain ⟨z13, rfl⟩ : ∃ m : Nat, z13 = m := ⟨_, hc2⟩
  obtain ⟨z14, rfl⟩ : ∃ m : Nat, z14 = m := ⟨_, hc3⟩
  obtain ⟨z15, rfl⟩ : ∃ m : Nat, z15 = m := ⟨_, hc4⟩
  obtain ⟨z16, rfl⟩ : ∃ m, z16 = hds m := ⟨_, hc5⟩
  simp only [Int.toNat_natCast, dhds_hds]
  exact cclose_ok ⟨z11, z12, z13, z14, z15, z16, z17⟩
def lpuL (l : List Ch) (id n : Nat) : List Ch × Int :=
  if okLd l then (if Srt.thr Ch.id ltN l id = true then (if cpuE (l.getD (Srt.pos Ch.id ltN l id) default) n = 0 then (l.set (Srt.pos Ch.id ltN l id) (cpuC (l.getD (Srt.pos Ch.id ltN l id) default) n).1, 0) else ([], cpuE (l.getD (Srt.pos Ch.id ltN l id) default) n)) else ([], 5)) else ([], 1)
@[go_sem] def lpush_r (l : List Ch) (id : Nat) (n : Nat) : D := .tup [.sl (chs (lpuL l id n).1), .int .i64 (lpuL l id n).2]
@[go_sem] abbrev n_lpush : FuncId := 85
@[go_sem] def lpush_T : Tab := [(63, sp_place), (178, sp_cpush), (185, sp_owns)]
theorem lpush_T_ok : TabOk Tryz.prog lpush_T := (TabOk.cons sp_place_ok (TabOk.cons sp_cpush_ok (TabOk.cons sp_owns_ok TabOk.nil)))
set_option maxRecDepth 8000 in
set_option maxHeartbeats 1000000 in
theorem lpush_ok (l : List Ch) (id : Nat) (n : Nat)  : PureFn Tryz.prog 85 [.sl (chs l), .c (.int .u64 (id : Int)), .c (.int .u64 (n : Int))] (lpush_r l id n) := by
  refine .of (ac85 lpush_T_ok (Nat.le_of_ble_eq_true rfl) ?_)
  simp -implicitDefEqProofs only [cdA, go_sem, Go.Proofs.Tryz.f85, reduceIte, List.cons.injEq, cdB]
  refine ac137 lpush_T_ok (Nat.le_of_ble_eq_true rfl) ?_
  simp -implicitDefEqProofs only [cdA, go_sem, Go.Proofs.Tryz.f137, reduceIte, List.cons.injEq, cdB]
  by_cases hok : okLd l
  · by_cases ht : Srt.thr Ch.id ltN l id = true
    · have e1 : placeL l id = (((Srt.pos Ch.id ltN l id : Nat) : Int), 0) := by rw [placeL, if_pos hok, if_pos ht]
      have hp : Srt.pos Ch.id ltN l id < l.length := by
        unfold Srt.thr at ht
        exact (of_decide_eq_true ht).1
      rw [e1, Int.toNat_natCast, lpuL, if_pos hok, if_pos ht]
      refine ⟨fun _ => ⟨⟨by omega, by omega⟩, ?_⟩, fun h => absurd rfl h⟩
      refine ac177 lpush_T_ok (Nat.le_of_ble_eq_true rfl) ?_
      simp -implicitDefEqProofs only [cdA, go_sem, Go.Proofs.Tryz.f177, reduceIte, List.cons.injEq, cdB]
      have h32 : l.length ≤ 1000000 ∧ ∀ c ∈ l, c.holds.length ≤ 1000000 := ⟨by have := hok.1; omega, fun c hc => by have := (hok.2.1 c hc).2.2.1; omega⟩
      rw [cpuC_2]
      refine ⟨fun h0 => ?_, fun h0 => ?_⟩
      · rw [if_pos h0]
        exact ⟨h32, by omega, hp, ⟨by simp, _, _, _, rfl⟩, rfl⟩
      · rw [if_neg h0]
        exact ⟨rfl, rfl⟩
    · have e1 : placeL l id = (0, 5) := by rw [placeL, if_pos hok, if_neg ht]
      have e2 : lpuL l id n = ([], 5) := by rw [lpuL, if_pos hok, if_neg ht]
      rw [e1, e2]
      exact ⟨fun h => absurd h (by decide), fun _ => ⟨rfl, rfl⟩⟩
  · have e1 : placeL l id = (0, 1) := by rw [placeL, if_neg hok]
    have e2 : lpuL l id n = ([], 1) := by rw [lpuL, if_neg hok]
    rw [e1, e2]
    exact ⟨fun h => absurd h (by decide), fun _ => ⟨rfl, rfl⟩⟩
def sp_lpush : List D → Option (Prop × D × Fr)
  | [.c (.sl z18), .c (.int .u64 z19), .c (.int .u64 z20)] => some (z18 = chs (dchs z18) ∧ z19 = (z19.toNat : Int) ∧ z20 = (z20.toNat : Int), lpush_r (dchs z18) z19.toNat z20.toNat, [])
  | _ => none
attribute [go_sem] sp_lpush
theorem sp_lpush_ok : ∀ rs p r fr, sp_lpush rs = some (p, r, fr) → p → FnOk Tryz.prog 85 rs r fr := by
  intro rs p r fr h hp
  unfold sp_lpush at h
  split at h <;> cases h
  obtain ⟨hc0, hc1, hc2⟩ := hp
  rename_i z18 z19 z20
  obtain ⟨z18, rfl⟩ : ∃ m, z18 = chs m := ⟨_, hc0⟩
  obtain ⟨z19, rfl⟩ : ∃ m : Nat, z19 = m := ⟨_, hc1⟩
  obtain ⟨z20, rfl⟩ : ∃ m : Nat, z20 = m := ⟨_, hc2⟩
  simp only [Int.toNat_natCast, dchs_chs]
  exact lpush_ok z18 z19 z20
def lclL (l : List Ch) (id : Nat) : List Ch × Int :=
  if okLd l then (if Srt.thr Ch.id ltN l id = true then (if cclE (l.getD (Srt.pos Ch.id ltN l id) default) = 0 then (l.set (Srt.pos Ch.id ltN l id) (cclC (l.getD (Srt.pos Ch.id ltN l id) default)).1, 0) else ([], cclE (l.getD (Srt.pos Ch.id ltN l id) default))) else ([], 5)) else ([], 1)
@[go_sem] def lclose_r (l : List Ch) (id : Nat) : D := .tup [.sl (chs (lclL l id).1), .int .i64 (lclL l id).2]
@[go_sem] abbrev n_lclose : FuncId := 97
@[go_sem] def lclose_T : Tab := [(63, sp_place), (189, sp_cclose), (185, sp_owns)]
theorem lclose_T_ok : TabOk Tryz.prog lclose_T := (TabOk.cons sp_place_ok (TabOk.cons sp_cclose_ok (TabOk.cons sp_owns_ok TabOk.nil)))
set_option maxRecDepth 8000 in
set_option maxHeartbeats 1000000 in
theorem lclose_ok (l : List Ch) (id : Nat)  : PureFn Tryz.prog 97 [.sl (chs l), .c (.int .u64 (id : Int))] (lclose_r l id) := by
  refine .of (ac97 lclose_T_ok (Nat.le_of_ble_eq_true rfl) ?_)
  simp -implicitDefEqProofs only [cdA, go_sem, Go.Proofs.Tryz.f97, reduceIte, List.cons.injEq, cdB]
  refine ac137 lclose_T_ok (Nat.le_of_ble_eq_true rfl) ?_
  simp -implicitDefEqProofs only [cdA, go_sem, Go.Proofs.Tryz.f137, reduceIte, List.cons.injEq, cdB]
  by_cases hok : okLd l
  · by_cases ht : Srt.thr Ch.id ltN l id = true
    · have e1 : placeL l id = (((Srt.pos Ch.id ltN l id : Nat) : Int), 0) := by rw [placeL, if_pos hok, if_pos ht]
      have hp : Srt.pos Ch.id ltN l id < l.length := by
        unfold Srt.thr at ht
        exact (of_decide_eq_true ht).1
      rw [e1, Int.toNat_natCast, lclL, if_pos hok, if_pos ht]
      have h32 : l.length ≤ 1000000 ∧ ∀ c ∈ l, c.holds.length ≤ 1000000 := ⟨by have := hok.1; omega, fun c hc => by have := (hok.2.1 c hc).2.2.1; omega⟩
      rw [cclC_2]
      refine ⟨fun _ => ⟨⟨by omega, by omega⟩, fun h0 => ?_, fun h0 => ?_⟩, fun h => absurd rfl h⟩
      · rw [if_pos h0]
        exact ⟨h32, by omega, hp, ⟨by simp, _, _, _, rfl⟩, rfl⟩
      · rw [if_neg h0]
        exact ⟨rfl, rfl⟩
    · have e1 : placeL l id = (0, 5) := by rw [placeL, if_pos hok, if_neg ht]
      have e2 : lclL l id = ([], 5) := by rw [lclL, if_pos hok, if_neg ht]
      rw [e1, e2]
      exact ⟨fun h => absurd h (by decide), fun _ => ⟨rfl, rfl⟩⟩
  · have e1 : placeL l id = (0, 1) := by rw [placeL, if_neg hok]
    have e2 : lclL l id = ([], 1) := by rw [lclL, if_neg hok]
    rw [e1, e2]
    exact ⟨fun h => absurd h (by decide), fun _ => ⟨rfl, rfl⟩⟩
def sp_lclose : List D → Option (Prop × D × Fr)
  | [.c (.sl z21), .c (.int .u64 z22)] => some (z21 = chs (dchs z21) ∧ z22 = (z22.toNat : Int), lclose_r (dchs z21) z22.toNat, [])
  | _ => none
attribute [go_sem] sp_lclose
theorem sp_lclose_ok : ∀ rs p r fr, sp_lclose rs = some (p, r, fr) → p → FnOk Tryz.prog 97 rs r fr := by
  intro rs p r fr h hp
  unfold sp_lclose at h
  split at h <;> cases h
  obtain ⟨hc0, hc1⟩ := hp
  rename_i z21 z22
  obtain ⟨z21, rfl⟩ : ∃ m, z21 = chs m := ⟨_, hc0⟩
  obtain ⟨z22, rfl⟩ : ∃ m : Nat, z22 = m := ⟨_, hc1⟩
  simp only [Int.toNat_natCast, dchs_chs]
  exact lclose_ok z21 z22
end Dm
