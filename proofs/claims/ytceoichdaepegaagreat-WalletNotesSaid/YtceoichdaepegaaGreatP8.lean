import Derived.Test.YtceoichdaepegaaGreatP7

set_option linter.unusedSimpArgs false
set_option linter.unusedVariables false
set_option linter.unusedSectionVars false
namespace Dm
open Go Go.Proofs Go.IntWalk
@[go_sem] def bbh : Tab := [ovk 233]
theorem bM : ya Tryz.prog bbh := .cons (waD 233) .nil
@[go_sem] def zbs : Tab := [fg 12]
theorem waF : ya Tryz.prog zbs := .cons (bao 12) .nil
theorem zai (l : List Ch) : vh 7 (chs l) := of_eq_true (ka9 l)
set_option maxRecDepth 8000 in
set_option maxHeartbeats 1000000 in
theorem zaX (l : List Ch) (x : Ch) (i : Nat) (hi : i ≤ l.length) (hl : l.length ≤ 1000000) :
    va Tryz.prog 184 [.vec 0 l.length, .int .i64 i, .vec 1 1] [(1, .vec true 7 50 (chs [x])), (0, .vec true 7 50 (chs l))] 2 fun d os _ => Grown 7 50 (chs (Srt.ins l i x)) d os := by
  have hil : (Srt.ins l i x).length = l.length + 1 := Srt.jk
  have hq : ∀ j os, lk j os = some (.vec true 7 50 (chs (Srt.ins l i x))) → Grown 7 50 (chs (Srt.ins l i x)) (.vec j (l.length + 1)) os := fun j os h => ⟨j, by rw [qi, hil], h⟩
  by_cases hin : i = l.length
  · refine gb6 waF (Nat.le_of_ble_eq_true rfl) ?_
    have e4 : ((1 : Int) = 0) = False := eq_false (by decide)
    subst hin
    simp -implicitDefEqProofs only [cdA, go_sem, Go.Proofs.Tryz.f184, e4, decide_true, reduceIte, reduceCtorEq, Nat.reduceEqDiff, Nat.reduceAdd, Nat.reduceLeDiff, Nat.reduceSub, Nat.reduceMul, Nat.reduceLT, Nat.reduceShiftRight, Nat.reduceMod, Int.reduceLE, Int.reduceLT, Int.reduceToNat, List.cons.injEq, cdB]
    refine ⟨Int.le_refl _, fun h => h.elim, fun _ => ⟨by omega, hq _ _ ?_⟩⟩
    rw [gb, if_neg (by decide), kP]
    simp [Srt.ins]
  · have hlt : i < l.length := by omega
    refine va.opn 0 rfl (by rw [qi]; omega) fun c hc hcm => ?_
    refine va.sld ?_
    rw [qi] at hc
    refine gb6 bM (Nat.le_of_ble_eq_true rfl) ?_
    have e1 : IntKind.i64.wrap ((l.length : Int) + 1) = ((l.length + 1 : Nat) : Int) := by rw [i64_in _ (by omega)]; omega
    have e2 : IntKind.i64.wrap ((i : Int) + 1) = ((i + 1 : Nat) : Int) := by rw [i64_in _ (by omega)]; omega
    have e3 : ((i : Int) = (l.length : Int)) = False := eq_false (by omega)
    have e4 : ((1 : Int) = 0) = False := eq_false (by decide)
    have e5 : IntKind.i64.wrap ((l.length : Int) + 1 - (i : Int)) = ((l.length + 1 - i : Nat) : Int) := by rw [i64_in _ (by omega)]; omega
    have e6 : ((l.length : Int) + 1).toNat = l.length + 1 := by omega
    have e7 : ((i : Int) + 1).toNat = i + 1 := by omega
    have e8 : i + (l.length + 1 - i) = l.length + 1 := by omega
    simp -implicitDefEqProofs only [cdA, go_sem, Go.Proofs.Tryz.f184, e3, e4, e1, e2, e5, e6, e7, e8, decide_false, reduceIte, reduceCtorEq, Nat.reduceEqDiff, Nat.reduceAdd, Nat.reduceLeDiff, Nat.reduceSub, Nat.reduceMul, Nat.reduceLT, Nat.reduceShiftRight, Nat.reduceMod, Int.reduceLE, Int.reduceLT, Int.reduceToNat, List.cons.injEq, cdB]
    refine ⟨by omega, fun _ => ⟨fun h1 => ⟨by omega, by omega, fun c1 h2 h3 => ⟨by omega, ?_⟩⟩, fun h1 => ⟨by omega, by omega, ?_, ?_⟩⟩⟩
    · refine uc.run ua4 bM qa (by kernel_rfl) (by kernel_rfl) ?_
      simp -implicitDefEqProofs only [cdA, go_sem, e1, e2, e5, e6, e7, e8, reduceIte, reduceCtorEq, Nat.reduceEqDiff, Nat.reduceAdd, Nat.reduceLeDiff, Nat.reduceSub, Nat.reduceMul, Nat.reduceLT, Nat.reduceShiftRight, Nat.reduceMod, Int.reduceLE, Int.reduceLT, Int.reduceToNat, List.cons.injEq, cdB]
      refine ⟨by omega, by omega, fun y hy => qk (zai l) y (List.mem_of_mem_take (List.mem_of_mem_drop hy)), ?_⟩
      have := k7 (sz := 7) (c := c) (c1 := c1) (i := i) (E := chs l) (x := x.enc) (z := [C.int .u64 0, C.int .u64 0, C.int .u64 0, C.int .u64 0, C.int .u64 0, C.sl [], C.bool false]) (by rw [qi]; exact hlt) (by rw [qi]; exact hc) (by rw [qi]; exact h2)
      rw [qi] at this
      refine hq _ _ ?_
      rw [kP]
      congr 2
      rw [show chs (List.take (l.length + 1 - i) [x]) = List.take (l.length + 1 - i) [x.enc] by simp [chs], this]
      simp [chs, Srt.ins]
    · exact ⟨_, 22, 4, _, rfl, rfl, rfl, rfl, by kernel_rfl, xbs⟩
    · refine uc.run ua1 bM qa (by kernel_rfl) (by kernel_rfl) ?_
      simp -implicitDefEqProofs only [cdA, go_sem, e1, e2, e5, e6, e7, e8, reduceIte, reduceCtorEq, Nat.reduceEqDiff, Nat.reduceAdd, Nat.reduceLeDiff, Nat.reduceSub, Nat.reduceMul, Nat.reduceLT, Nat.reduceShiftRight, Nat.reduceMod, Int.reduceLE, Int.reduceLT, Int.reduceToNat, List.cons.injEq, cdB]
      refine ⟨by omega, by omega, fun y hy => qk (zai l) y (List.mem_of_mem_take (List.mem_of_mem_drop hy)), by omega, ?_⟩
      have := baa (sz := 7) (c := c) (i := i) (E := chs l) (x := x.enc) (by rw [qi]; exact hlt) (by rw [qi]; omega)
      rw [qi] at this
      refine hq _ _ ?_
      rw [kP]
      congr 2
      rw [show chs (List.take (l.length + 1 - i) [x]) = List.take (l.length + 1 - i) [x.enc] by simp [chs], this]
      simp [chs, Srt.ins]

def bay (c : Ch) : Int := if yl c then 0 else 1
@[go_sem] def zaA (c : Ch) : D := .int .i64 (bay c)
@[go_sem] abbrev ucm : FuncId := 183
@[go_sem] def wa4 : Tab := [(203, jt)]
theorem bap : ya Tryz.prog wa4 := (ya.cons jr ya.nil)
set_option maxRecDepth 8000 in
set_option maxHeartbeats 1000000 in
theorem yaP (c : Ch)  : yb Tryz.prog 183 [.agg [.c (.int .u64 (c.id : Int)), .c (.int .u64 (c.loc : Int)), .c (.int .u64 (c.rem : Int)), .c (.int .u64 (c.res : Int)), .c (.int .u64 (c.most : Int)), .sl (hds c.holds), .c (.bool c.op)]] (zaA c) := by
  refine .of (jcu bap (Nat.le_of_ble_eq_true rfl) ?_)
  simp -implicitDefEqProofs only [cdA, go_sem, Go.Proofs.Tryz.f183, reduceIte, reduceCtorEq, Nat.reduceEqDiff, Nat.reduceAdd, Nat.reduceLeDiff, Nat.reduceSub, Nat.reduceMul, Nat.reduceLT, Nat.reduceShiftRight, Nat.reduceMod, Int.reduceLE, Int.reduceLT, Int.reduceToNat, List.cons.injEq, cdB]
  unfold xg bay
  split <;> rfl
def yp : List D → Option (Prop × D × Fr)
  | [.agg [.c (.int .u64 z336), .c (.int .u64 z337), .c (.int .u64 z338), .c (.int .u64 z339), .c (.int .u64 z340), .c (.sl z341), .c (.bool z342)]] => some (z336 = (z336.toNat : Int) ∧ z337 = (z337.toNat : Int) ∧ z338 = (z338.toNat : Int) ∧ z339 = (z339.toNat : Int) ∧ z340 = (z340.toNat : Int) ∧ z341 = hds (um z341), zaA (⟨z336.toNat, z337.toNat, z338.toNat, z339.toNat, z340.toNat, (um z341), z342⟩ : Ch), [])
  | _ => none
attribute [go_sem] yp
theorem ko : ∀ rs p r fr, yp rs = some (p, r, fr) → p → zg Tryz.prog 183 rs r fr := by
  intro rs p r fr h hp
  unfold yp at h
  split at h <;> cases h
  obtain ⟨hc0, hc1, hc2, hc3, hc4, hc5⟩ := hp
  rename_i z336 z337 z338 z339 z340 z341 z342
  obtain ⟨z336, rfl⟩ : ∃ m : Nat, z336 = m := ⟨_, hc0⟩
  obtain ⟨z337, rfl⟩ : ∃ m : Nat, z337 = m := ⟨_, hc1⟩
  obtain ⟨z338, rfl⟩ : ∃ m : Nat, z338 = m := ⟨_, hc2⟩
  obtain ⟨z339, rfl⟩ : ∃ m : Nat, z339 = m := ⟨_, hc3⟩
  obtain ⟨z340, rfl⟩ : ∃ m : Nat, z340 = m := ⟨_, hc4⟩
  obtain ⟨z341, rfl⟩ : ∃ m, z341 = hds m := ⟨_, hc5⟩
  simp only [Int.toNat_natCast, ze]
  exact yaP ⟨z336, z337, z338, z339, z340, z341, z342⟩
def gm (l : List Ch) (c : Ch) : List Ch × Int :=
  if ¬ yl c ∨ c.op = false ∨ 0 < c.holds.length ∨ ¬ ym l then ([], 1) else if Srt.thr Ch.id ltN l c.id = true then ([], 6) else if l.length = 32 then ([], 7) else if ym (Srt.ins l (Srt.pos Ch.id ltN l c.id) c) then (Srt.ins l (Srt.pos Ch.id ltN l c.id) c, 0) else ([], 8)
@[go_sem] def jaI (l : List Ch) (c : Ch) : D := .tup [.sl (chs (gm l c).1), .int .i64 (gm l c).2]
@[go_sem] abbrev zcM : FuncId := 94
@[go_sem] def ubm : Tab := [(183, yp), (102, uo), (144, yw), (64, baj), (185, vB)]
theorem uw : ya Tryz.prog ubm := (ya.cons ko (ya.cons vo (ya.cons xB (ya.cons bai (ya.cons zw ya.nil)))))
set_option maxRecDepth 8000 in
set_option maxHeartbeats 1000000 in
theorem ua3 (l : List Ch) (c : Ch)  : yb Tryz.prog 94 [.sl (chs l), .agg [.c (.int .u64 (c.id : Int)), .c (.int .u64 (c.loc : Int)), .c (.int .u64 (c.rem : Int)), .c (.int .u64 (c.res : Int)), .c (.int .u64 (c.most : Int)), .sl (hds c.holds), .c (.bool c.op)]] (jaI l c) := by
  refine .of (qdk uw (Nat.le_of_ble_eq_true rfl) ?_)
  simp -implicitDefEqProofs only [cdA, go_sem, Go.Proofs.Tryz.f94, reduceIte, reduceCtorEq, Nat.reduceEqDiff, Nat.reduceAdd, Nat.reduceLeDiff, Nat.reduceSub, Nat.reduceMul, Nat.reduceLT, Nat.reduceShiftRight, Nat.reduceMod, Int.reduceLE, Int.reduceLT, Int.reduceToNat, List.cons.injEq, cdB]
  have hbad : (¬ yl c ∨ c.op = false ∨ 0 < c.holds.length ∨ ¬ ym l) → chs (gm l c).1 = [] ∧ 1 = (gm l c).2 := fun h => by rw [gm, if_pos h]; exact ⟨rfl, rfl⟩
  have hc0 : bay c = 0 ↔ yl c := by unfold bay; split <;> rename_i h <;> simp only [h] <;> decide
  have hl0 : u9 l = 0 ↔ ym l := by unfold u9; split <;> rename_i h <;> simp only [h] <;> decide
  refine ⟨fun h1 => ⟨fun h2 _ => ⟨fun h3 => ⟨fun h4 => ?_, fun h4 => hbad (.inr (.inr (.inr fun h => h4 (hl0.2 h))))⟩, fun h3 => hbad (.inr (.inr (.inl (by omega))))⟩, fun h2 => hbad (.inr (.inl (by simpa using h2)))⟩, fun h1 => hbad (.inl fun h => h1 (hc0.2 h))⟩
  have hok := hl0.1 h4
  have hcc := hc0.1 h1
  have hop : c.op = true := by simpa using h2
  have hA : ¬ (¬ yl c ∨ c.op = false ∨ 0 < c.holds.length ∨ ¬ ym l) := by
    rintro (h | h | h | h)
    · exact h hcc
    · rw [hop] at h; cases h
    · omega
    · exact h hok
  have hu : Srt.Up Ch.id ltN l := (Srt.jg (lt := ltN) Srt.qf).1 hok.2.2.1
  have hl32 := hok.1
  refine ybY uw (Nat.le_of_ble_eq_true rfl) ?_
  simp -implicitDefEqProofs only [cdA, go_sem, Go.Proofs.Tryz.f152, reduceIte, reduceCtorEq, Nat.reduceEqDiff, Nat.reduceAdd, Nat.reduceLeDiff, Nat.reduceSub, Nat.reduceMul, Nat.reduceLT, Nat.reduceShiftRight, Nat.reduceMod, Int.reduceLE, Int.reduceLT, Int.reduceToNat, List.cons.injEq, cdB]
  refine fun _ => SWp.loop (ι := { x : Nat × Nat // x.1 ≤ x.2 ∧ x.2 ≤ l.length ∧ (∀ k, k < x.1 → (l.getD k default).id < c.id) ∧ ∀ k, x.2 ≤ k → k < l.length → ¬ (l.getD k default).id < c.id }) (fun x => ⟨[(0, .sl (chs l)), (1, .c (.int .u64 c.id)), (2, .fn (.func 144) [] []), (8, .int .i64 l.length), (9, .int .i64 x.1.1), (10, .int .i64 x.1.2)],
    [(0, .box [.c (.int .u64 c.id), .c (.int .u64 c.loc), .c (.int .u64 c.rem), .c (.int .u64 c.res), .c (.int .u64 c.most), .sl (hds c.holds), .c (.bool c.op)])], 1⟩) (fun x => x.1.2 - x.1.1) ⟨(0, l.length), by simp, by simp, fun k hk => absurd hk (by simp), fun k h1 h2 => absurd h1 (by simpa using h2)⟩ ?_ ?_
  · simp [go_sem]
  · rintro ⟨⟨i, j⟩, hij, hj, hlo, hup⟩
    dsimp only at hij hj hlo hup
    refine qb uw.toS za4 _ _ _ rfl ?_
    simp -implicitDefEqProofs only [cdA, go_sem, reduceIte, reduceCtorEq, Nat.reduceEqDiff, Nat.reduceAdd, Nat.reduceLeDiff, Nat.reduceSub, Nat.reduceMul, Nat.reduceLT, Nat.reduceShiftRight, Nat.reduceMod, Int.reduceLE, Int.reduceLT, Int.reduceToNat, List.cons.injEq, cdB]
    rw [yS hij hj ‹_›]
    refine ⟨fun h4 => ?_, fun h4 => ?_⟩
    · have hm : (i + j) / 2 < l.length := by omega
      rw [xk, Int.toNat_natCast]
      refine ⟨by omega, fun h5 => ⟨⟨((i + j) / 2 + 1, j), by dsimp only; omega, hj, fun k hk => ?_, hup⟩, by dsimp only; omega, i64_in _ (by omega), rfl⟩, fun h5 => ⟨⟨(i, (i + j) / 2), by dsimp only; omega, by dsimp only; omega, hlo, fun k hk1 hk2 => ?_⟩, by dsimp only; omega, rfl, rfl⟩⟩
      · dsimp only at hk
        by_cases hkm : k = (i + j) / 2
        · rw [hkm]; omega
        · have := Srt.kj.1 hu k _ (by omega) hm
          simp only [ltN] at this; omega
      · dsimp only at hk1
        by_cases hkm : k = (i + j) / 2
        · rw [hkm]; omega
        · have := Srt.kj.1 hu ((i + j) / 2) k (by omega) hk2
          simp only [ltN] at this; omega
    · have hp : Srt.pos Ch.id ltN l c.id = i := Srt.pos_eq (by omega) hlo (fun h => hup i (by omega) h)
      have hth : Srt.thr Ch.id ltN l c.id = decide (i < l.length ∧ (l.getD i default).id = c.id) := by rw [Srt.thr, hp]
      refine ⟨fun h5 => ⟨by omega, fun h6 => ?_, fun h6 _ => ⟨fun h7 => ?_, fun h7 => ?_⟩⟩, fun h5 _ => ⟨fun h7 => ?_, fun h7 => ?_⟩⟩
      · rw [gm, if_neg hA, if_pos (by rw [hth]; exact decide_eq_true ⟨by omega, by have := wz.1 h6; omega⟩)]; exact ⟨rfl, rfl⟩
      · have ht : ¬ Srt.thr Ch.id ltN l c.id = true := by rw [hth, decide_eq_true_eq]; rintro ⟨h8, h9⟩; exact h6 (wz.2 (by omega))
        rw [gm, if_neg hA, if_neg ht, if_pos (by omega)]; exact ⟨rfl, rfl⟩
      · have ht : ¬ Srt.thr Ch.id ltN l c.id = true := by rw [hth, decide_eq_true_eq]; rintro ⟨h8, h9⟩; exact h6 (wz.2 (by omega))
        refine uc.tail 6 bbb uw qa (by kernel_rfl) (by kernel_rfl) (by kernel_rfl) (by kernel_rfl) ?_
        simp -implicitDefEqProofs only [cdA, go_sem, List.take_succ_cons, List.take_zero, List.drop_succ_cons, List.drop_zero, reduceIte, reduceCtorEq, Nat.reduceEqDiff, Nat.reduceAdd, Nat.reduceLeDiff, Nat.reduceSub, Nat.reduceMul, Nat.reduceLT, Nat.reduceShiftRight, Nat.reduceMod, Int.reduceLE, Int.reduceLT, Int.reduceToNat, List.cons.injEq, cdB]
        refine ⟨⟨by omega, fun d hd => by have := (hok.2.1 d hd).2.2.1; omega⟩, by omega, ?_⟩
        refine va.grow (mid := [.int .i64 _]) (zaX l c i (by omega) (by omega)) rfl rfl (by decide) (by simp [Srt.jk]) (fun d hd g g' w v hv => ?_) ?_
        · simp at hd; subst hd
          cases hv with
          | c _ _ h => cases h; exact .c _ _ (.int _ _)
        · simp -implicitDefEqProofs only [cdA, go_sem, reduceIte, reduceCtorEq, Nat.reduceEqDiff, Nat.reduceAdd, Nat.reduceLeDiff, Nat.reduceSub, Nat.reduceMul, Nat.reduceLT, Nat.reduceShiftRight, Nat.reduceMod, Int.reduceLE, Int.reduceLT, Int.reduceToNat, List.cons.injEq, cdB]
          have hl0' : u9 (Srt.ins l i c) = 0 ↔ ym (Srt.ins l i c) := by unfold u9; split <;> rename_i h <;> simp only [h] <;> decide
          refine ⟨fun h8 => ?_, fun h8 => ?_⟩
          · rw [gm, if_neg hA, if_neg ht, if_neg (by omega), hp, if_pos (hl0'.1 h8)]; exact ⟨⟨rfl, _, _, _, rfl⟩, rfl⟩
          · rw [gm, if_neg hA, if_neg ht, if_neg (by omega), hp, if_neg fun h => h8 (hl0'.2 h)]; exact ⟨rfl, rfl⟩
      · have ht : ¬ Srt.thr Ch.id ltN l c.id = true := by rw [hth, decide_eq_true_eq]; omega
        rw [gm, if_neg hA, if_neg ht, if_pos (by omega)]; exact ⟨rfl, rfl⟩
      · have ht : ¬ Srt.thr Ch.id ltN l c.id = true := by rw [hth, decide_eq_true_eq]; omega
        refine uc.tail 6 bbb uw qa (by kernel_rfl) (by kernel_rfl) (by kernel_rfl) (by kernel_rfl) ?_
        simp -implicitDefEqProofs only [cdA, go_sem, List.take_succ_cons, List.take_zero, List.drop_succ_cons, List.drop_zero, reduceIte, reduceCtorEq, Nat.reduceEqDiff, Nat.reduceAdd, Nat.reduceLeDiff, Nat.reduceSub, Nat.reduceMul, Nat.reduceLT, Nat.reduceShiftRight, Nat.reduceMod, Int.reduceLE, Int.reduceLT, Int.reduceToNat, List.cons.injEq, cdB]
        refine ⟨⟨by omega, fun d hd => by have := (hok.2.1 d hd).2.2.1; omega⟩, by omega, ?_⟩
        refine va.grow (mid := [.int .i64 _]) (zaX l c i (by omega) (by omega)) rfl rfl (by decide) (by simp [Srt.jk]) (fun d hd g g' w v hv => ?_) ?_
        · simp at hd; subst hd
          cases hv with
          | c _ _ h => cases h; exact .c _ _ (.int _ _)
        · simp -implicitDefEqProofs only [cdA, go_sem, reduceIte, reduceCtorEq, Nat.reduceEqDiff, Nat.reduceAdd, Nat.reduceLeDiff, Nat.reduceSub, Nat.reduceMul, Nat.reduceLT, Nat.reduceShiftRight, Nat.reduceMod, Int.reduceLE, Int.reduceLT, Int.reduceToNat, List.cons.injEq, cdB]
          have hl0' : u9 (Srt.ins l i c) = 0 ↔ ym (Srt.ins l i c) := by unfold u9; split <;> rename_i h <;> simp only [h] <;> decide
          refine ⟨fun h8 => ?_, fun h8 => ?_⟩
          · rw [gm, if_neg hA, if_neg ht, if_neg (by omega), hp, if_pos (hl0'.1 h8)]; exact ⟨⟨rfl, _, _, _, rfl⟩, rfl⟩
          · rw [gm, if_neg hA, if_neg ht, if_neg (by omega), hp, if_neg fun h => h8 (hl0'.2 h)]; exact ⟨rfl, rfl⟩
def vP : List D → Option (Prop × D × Fr)
  | [.c (.sl z343), .agg [.c (.int .u64 z345), .c (.int .u64 z346), .c (.int .u64 z347), .c (.int .u64 z348), .c (.int .u64 z349), .c (.sl z350), .c (.bool z351)]] => some (z343 = chs (xh z343) ∧ z345 = (z345.toNat : Int) ∧ z346 = (z346.toNat : Int) ∧ z347 = (z347.toNat : Int) ∧ z348 = (z348.toNat : Int) ∧ z349 = (z349.toNat : Int) ∧ z350 = hds (um z350), jaI (xh z343) (⟨z345.toNat, z346.toNat, z347.toNat, z348.toNat, z349.toNat, (um z350), z351⟩ : Ch), [])
  | _ => none
attribute [go_sem] vP
theorem uao : ∀ rs p r fr, vP rs = some (p, r, fr) → p → zg Tryz.prog 94 rs r fr := by
  intro rs p r fr h hp
  unfold vP at h
  split at h <;> cases h
  obtain ⟨hc0, hc1, hc2, hc3, hc4, hc5, hc6⟩ := hp
  rename_i z343 z345 z346 z347 z348 z349 z350 z351
  obtain ⟨z343, rfl⟩ : ∃ m, z343 = chs m := ⟨_, hc0⟩
  obtain ⟨z345, rfl⟩ : ∃ m : Nat, z345 = m := ⟨_, hc1⟩
  obtain ⟨z346, rfl⟩ : ∃ m : Nat, z346 = m := ⟨_, hc2⟩
  obtain ⟨z347, rfl⟩ : ∃ m : Nat, z347 = m := ⟨_, hc3⟩
  obtain ⟨z348, rfl⟩ : ∃ m : Nat, z348 = m := ⟨_, hc4⟩
  obtain ⟨z349, rfl⟩ : ∃ m : Nat, z349 = m := ⟨_, hc5⟩
  obtain ⟨z350, rfl⟩ : ∃ m, z350 = hds m := ⟨_, hc6⟩
  simp only [Int.toNat_natCast, xb, ze]
  exact ua3 z343 ⟨z345, z346, z347, z348, z349, z350, z351⟩
end Dm
namespace Dm
open Go Go.Proofs Go.IntWalk
def zx (c : Ch) (id : Nat) (paid : Bool) : Ch × Nat × Int :=
  if yl c then (if Srt.thr Hd.key ltN c.holds id = true then
    (⟨c.id, if paid = true then c.loc else c.loc + (c.holds.getD (Srt.pos Hd.key ltN c.holds id) default).n, if paid = true then c.rem + (c.holds.getD (Srt.pos Hd.key ltN c.holds id) default).n else c.rem, c.res, c.most, c.holds.eraseIdx (Srt.pos Hd.key ltN c.holds id), c.op⟩, (c.holds.getD (Srt.pos Hd.key ltN c.holds id) default).n, 0)
    else (default, 0, 5)) else (default, 0, 1)
theorem waj (l : List Hd) (i : Nat) : (hds l).eraseIdx i = hds (l.eraseIdx i) := by
  simp [hds, List.eraseIdx_eq_take_drop_succ]
theorem zY {l : List Hd} {q : Nat} {x : Hd} (hq : q < l.length) (hx : l.getD q default = x) : l.Perm (x :: l.eraseIdx q) := by
  rw [ve hq] at hx
  subst hx
  rw [List.eraseIdx_eq_take_drop_succ]
  conv => lhs; rw [show l = l.take q ++ l[q] :: l.drop (q + 1) by rw [List.getElem_cons_drop, List.take_append_drop]]
  exact List.perm_middle
theorem zaN {l : List Hd} {q : Nat} (hq : q < l.length) : (l.getD q default).n ≤ held l := by
  have hpm := zY hq rfl
  unfold held
  rw [(hpm.map Hd.n).sum_nat, List.map_cons, List.sum_cons]
  exact Nat.le_add_right _ _
@[go_sem] def waV (c : Ch) (id : Nat) : D := .tup [.agg [.int .u64 (zx c id false).1.id, .int .u64 (zx c id false).1.loc, .int .u64 (zx c id false).1.rem, .int .u64 (zx c id false).1.res, .int .u64 (zx c id false).1.most, .sl (hds (zx c id false).1.holds), .bool (zx c id false).1.op], .int .u64 (zx c id false).2.1, .int .i64 (zx c id false).2.2]
@[go_sem] abbrev qcA : FuncId := 147
@[go_sem] def wbt : Tab := [(183, yp), (153, uq), (218, ur), fg 13]
theorem bn : ya Tryz.prog wbt := (ya.cons ko (ya.cons kz (ya.cons qt (ya.cons (bao 13) ya.nil))))
set_option maxRecDepth 8000 in
set_option maxHeartbeats 1000000 in
theorem uaZ (c : Ch) (id : Nat)  : yb Tryz.prog 147 [.agg [.c (.int .u64 (c.id : Int)), .c (.int .u64 (c.loc : Int)), .c (.int .u64 (c.rem : Int)), .c (.int .u64 (c.res : Int)), .c (.int .u64 (c.most : Int)), .sl (hds c.holds), .c (.bool c.op)], .c (.int .u64 (id : Int))] (waV c id) := by
  refine .of (kcF bn (Nat.le_of_ble_eq_true rfl) ?_)
  simp -implicitDefEqProofs only [cdA, go_sem, Go.Proofs.Tryz.f147, reduceIte, reduceCtorEq, Nat.reduceEqDiff, Nat.reduceAdd, Nat.reduceLeDiff, Nat.reduceSub, Nat.reduceMul, Nat.reduceLT, Nat.reduceShiftRight, Nat.reduceMod, Int.reduceLE, Int.reduceLT, Int.reduceToNat, List.cons.injEq, cdB]
  refine jbW bn (Nat.le_of_ble_eq_true rfl) ?_
  simp -implicitDefEqProofs only [cdA, go_sem, Go.Proofs.Tryz.f220, reduceIte, reduceCtorEq, Nat.reduceEqDiff, Nat.reduceAdd, Nat.reduceLeDiff, Nat.reduceSub, Nat.reduceMul, Nat.reduceLT, Nat.reduceShiftRight, Nat.reduceMod, Int.reduceLE, Int.reduceLT, Int.reduceToNat, List.cons.injEq, cdB]
  have hc0 : bay c = 0 ↔ yl c := by unfold bay; split <;> rename_i h <;> simp only [h] <;> decide
  refine ⟨fun h0 => ?_, fun h0 => by
    have hno : ¬ yl c := fun h => h0 (hc0.2 h)
    rw [zx, bay, if_neg hno, if_neg hno]; exact ⟨⟨rfl, rfl, rfl, rfl, rfl, rfl, rfl⟩, rfl, rfl⟩⟩
  have hok := hc0.1 h0
  have hu : Srt.Up Hd.key ltN c.holds := (Srt.jg (lt := ltN) Srt.qf).1 hok.2.2.2.2.2.1
  have h64 := hok.2.2.1
  refine zby bn (Nat.le_of_ble_eq_true rfl) ?_
  simp -implicitDefEqProofs only [cdA, go_sem, Go.Proofs.Tryz.f217, reduceIte, reduceCtorEq, Nat.reduceEqDiff, Nat.reduceAdd, Nat.reduceLeDiff, Nat.reduceSub, Nat.reduceMul, Nat.reduceLT, Nat.reduceShiftRight, Nat.reduceMod, Int.reduceLE, Int.reduceLT, Int.reduceToNat, List.cons.injEq, cdB]
  refine fun _ => SWp.loop (ι := { x : Nat × Nat // x.1 ≤ x.2 ∧ x.2 ≤ c.holds.length ∧ (∀ k, k < x.1 → (c.holds.getD k default).id < id) ∧ ∀ k, x.2 ≤ k → k < c.holds.length → ¬ (c.holds.getD k default).id < id }) (fun x => ⟨[(0, .sl (hds c.holds)), (1, .c (.int .u64 id)), (2, .fn (.func 218) [] []), (8, .int .i64 c.holds.length), (9, .int .i64 x.1.1), (10, .int .i64 x.1.2)],
    [(3, .box [.c (.int .u64 0), .c (.int .u64 0), .c (.int .u64 0), .c (.int .u64 0), .c (.int .u64 0), .nil, .c (.bool false)]), (2, .box [.c (.int .u64 c.id), .c (.int .u64 c.loc), .c (.int .u64 c.rem), .c (.int .u64 c.res), .c (.int .u64 c.most), .sl (hds c.holds), .c (.bool c.op)]), (1, .box [.c (.int .u64 0), .c (.int .u64 0), .c (.int .u64 0), .c (.int .u64 0), .c (.int .u64 0), .nil, .c (.bool false)]), (0, .box [.c (.int .u64 c.id), .c (.int .u64 c.loc), .c (.int .u64 c.rem), .c (.int .u64 c.res), .c (.int .u64 c.most), .sl (hds c.holds), .c (.bool c.op)])], 4⟩) (fun x => x.1.2 - x.1.1) ⟨(0, c.holds.length), by simp, by simp, fun k hk => absurd hk (by simp), fun k h1 h2 => absurd h1 (by simpa using h2)⟩ ?_ ?_
  · simp [go_sem]
  · rintro ⟨⟨i, j⟩, hij, hj, hlo, hup⟩
    dsimp only at hij hj hlo hup
    refine qb bn.toS gaS _ _ _ rfl ?_
    simp -implicitDefEqProofs only [cdA, go_sem, reduceIte, reduceCtorEq, Nat.reduceEqDiff, Nat.reduceAdd, Nat.reduceLeDiff, Nat.reduceSub, Nat.reduceMul, Nat.reduceLT, Nat.reduceShiftRight, Nat.reduceMod, Int.reduceLE, Int.reduceLT, Int.reduceToNat, List.cons.injEq, cdB]
    rw [yS hij hj ‹_›]
    refine ⟨fun h4 => ?_, fun h4 => ?_⟩
    · have hm : (i + j) / 2 < c.holds.length := by omega
      rw [xk, Int.toNat_natCast]
      refine ⟨⟨by omega, by omega⟩, fun h5 => ⟨⟨((i + j) / 2 + 1, j), by dsimp only; omega, hj, fun k hk => ?_, hup⟩, by dsimp only; omega, i64_in _ (by omega), rfl⟩, fun h5 => ⟨⟨(i, (i + j) / 2), by dsimp only; omega, by dsimp only; omega, hlo, fun k hk1 hk2 => ?_⟩, by dsimp only; omega, rfl, rfl⟩⟩
      · dsimp only at hk
        by_cases hkm : k = (i + j) / 2
        · rw [hkm]; omega
        · have := Srt.kj.1 hu k _ (by omega) hm
          simp only [ltN, Hd.key] at this; omega
      · dsimp only at hk1
        by_cases hkm : k = (i + j) / 2
        · rw [hkm]; omega
        · have := Srt.kj.1 hu ((i + j) / 2) k (by omega) hk2
          simp only [ltN, Hd.key] at this; omega
    · have hp : Srt.pos Hd.key ltN c.holds id = i := Srt.pos_eq (by omega) hlo (fun h => hup i (by omega) h)
      have hth : Srt.thr Hd.key ltN c.holds id = decide (i < c.holds.length ∧ (c.holds.getD i default).id = id) := by rw [Srt.thr, hp]; rfl
      have hno : ¬ (i < c.holds.length ∧ (c.holds.getD i default).id = id) → zx c id false = (default, 0, 5) := fun h => by
        rw [zx, if_pos hok, if_neg (by rw [hth, decide_eq_true_eq]; exact h)]
      refine ⟨fun h5 => ⟨by omega, fun h6 => ⟨by omega, by omega, ?_⟩, fun h6 => ?_⟩, fun h5 => ?_⟩
      rotate_left 1
      · rw [hno fun h => h6 (wz.2 (by omega))]; exact ⟨⟨rfl, rfl, rfl, rfl, rfl, rfl, rfl⟩, rfl, rfl⟩
      · rw [hno fun h => h5 (by omega)]; exact ⟨⟨rfl, rfl, rfl, rfl, rfl, rfl, rfl⟩, rfl, rfl⟩
      have hi' : i < c.holds.length := by omega
      have ht : Srt.thr Hd.key ltN c.holds id = true := by rw [hth]; exact decide_eq_true ⟨hi', by have := wz.1 h6; omega⟩
      rw [i64_in _ (by omega)]
      refine va.opn 4 rfl (by rw [yd]; omega) fun cp hc hcm => ?_
      refine va.sld ?_
      rw [yd] at hc
      refine ubS bn (Nat.le_of_ble_eq_true rfl) ?_
      simp -implicitDefEqProofs only [cdA, go_sem, Go.Proofs.Tryz.f254, reduceIte, reduceCtorEq, Nat.reduceEqDiff, Nat.reduceAdd, Nat.reduceLeDiff, Nat.reduceSub, Nat.reduceMul, Nat.reduceLT, Nat.reduceShiftRight, Nat.reduceMod, Int.reduceLE, Int.reduceLT, Int.reduceToNat, List.cons.injEq, cdB]
      refine fun _ => ⟨⟨by omega, by omega, by omega⟩, fun h => absurd h (by omega), fun _ _ => ?_⟩
      refine uc.run jaP bn qa (by kernel_rfl) (by kernel_rfl) ?_
      simp -implicitDefEqProofs only [cdA, go_sem, reduceIte, reduceCtorEq, Nat.reduceEqDiff, Nat.reduceAdd, Nat.reduceLeDiff, Nat.reduceSub, Nat.reduceMul, Nat.reduceLT, Nat.reduceShiftRight, Nat.reduceMod, Int.reduceLE, Int.reduceLT, Int.reduceToNat, List.cons.injEq, cdB]
      have eF : List.take c.holds.length (fit cp 2 (hds c.holds)) = hds c.holds := by rw [yo (by rw [yd]; exact Nat.le_refl _) hc, List.take_of_length_le (by rw [yd]; exact Nat.le_refl _)]
      have e2 : ((i : Int) + 1).toNat = i + 1 := by omega
      rw [eF, e2]
      have hD : ((hds c.holds).drop (i + 1)).length = c.holds.length - (i + 1) := by rw [List.length_drop, yd]
      have e3 : ((i : Int) + (((hds c.holds).drop (i + 1)).length : Int)).toNat = i + ((hds c.holds).drop (i + 1)).length := by omega
      simp only [e3]
      have hE : ∀ Z : List (List C), (fit cp 2 ((fit cp 2 ((fit cp 2 (hds c.holds)).take i ++ ((hds c.holds).drop (i + 1) ++ (fit cp 2 (hds c.holds)).drop (i + ((hds c.holds).drop (i + 1)).length)))).take (i + ((hds c.holds).drop (i + 1)).length) ++ Z)).take (i + ((hds c.holds).drop (i + 1)).length) = hds (c.holds.eraseIdx i) := fun Z => by
        rw [xap (by rw [yd]; exact hi') (by rw [yd]; exact hc), waj]
      rw [hE, hD]
      have hl1 : i + (c.holds.length - (i + 1)) = (c.holds.eraseIdx i).length := by rw [List.length_eraseIdx_of_lt hi']; omega
      rw [hl1]
      have hl2 : (c.holds.eraseIdx i).length = c.holds.length - 1 := List.length_eraseIdx_of_lt hi'
      refine ⟨by omega, ⟨by omega, by omega⟩, ⟨fun x hx => (of_eq_true (k8 c.holds)) x (List.mem_of_mem_drop hx), by omega⟩, fun _ => ⟨⟨by omega, by omega, by omega⟩, ?_⟩⟩
      refine ycL bn (Nat.le_of_ble_eq_true rfl) ?_
      simp -implicitDefEqProofs only [cdA, go_sem, Go.Proofs.Tryz.f221, reduceIte, reduceCtorEq, Nat.reduceEqDiff, Nat.reduceAdd, Nat.reduceLeDiff, Nat.reduceSub, Nat.reduceMul, Nat.reduceLT, Nat.reduceShiftRight, Nat.reduceMod, Int.reduceLE, Int.reduceLT, Int.reduceToNat, List.cons.injEq, cdB]
      have ec : zx c id false = (⟨c.id, if (false : Bool) = true then c.loc else c.loc + (c.holds.getD i default).n, if (false : Bool) = true then c.rem + (c.holds.getD i default).n else c.rem, c.res, c.most, c.holds.eraseIdx i, c.op⟩, (c.holds.getD i default).n, 0) := by
        rw [zx, if_pos hok, if_pos ht, hp]
      have hge := zaN hi'
      have hsum := hok.2.2.2.2.2.2.2.2.2
      unfold MM at hsum
      rw [ec]
      dsimp only
      rw [if_neg (by decide), if_neg (by decide), u64_in _ (by omega)]
      exact ⟨⟨rfl, by omega, by omega, rfl, rfl, ⟨rfl, _, _, _, rfl⟩, rfl⟩, rfl, rfl⟩
def zQ : List D → Option (Prop × D × Fr)
  | [.agg [.c (.int .u64 z2), .c (.int .u64 z3), .c (.int .u64 z4), .c (.int .u64 z5), .c (.int .u64 z6), .c (.sl z7), .c (.bool z8)], .c (.int .u64 z9)] => some (z2 = (z2.toNat : Int) ∧ z3 = (z3.toNat : Int) ∧ z4 = (z4.toNat : Int) ∧ z5 = (z5.toNat : Int) ∧ z6 = (z6.toNat : Int) ∧ z7 = hds (um z7) ∧ z9 = (z9.toNat : Int), waV (⟨z2.toNat, z3.toNat, z4.toNat, z5.toNat, z6.toNat, (um z7), z8⟩ : Ch) z9.toNat, [])
  | _ => none
attribute [go_sem] zQ
theorem jao : ∀ rs p r fr, zQ rs = some (p, r, fr) → p → zg Tryz.prog 147 rs r fr := by
  intro rs p r fr h hp
  unfold zQ at h
  split at h <;> cases h
  obtain ⟨hc0, hc1, hc2, hc3, hc4, hc5, hc6⟩ := hp
  rename_i z2 z3 z4 z5 z6 z7 z8 z9
  obtain ⟨z2, rfl⟩ : ∃ m : Nat, z2 = m := ⟨_, hc0⟩
  obtain ⟨z3, rfl⟩ : ∃ m : Nat, z3 = m := ⟨_, hc1⟩
  obtain ⟨z4, rfl⟩ : ∃ m : Nat, z4 = m := ⟨_, hc2⟩
  obtain ⟨z5, rfl⟩ : ∃ m : Nat, z5 = m := ⟨_, hc3⟩
  obtain ⟨z6, rfl⟩ : ∃ m : Nat, z6 = m := ⟨_, hc4⟩
  obtain ⟨z7, rfl⟩ : ∃ m, z7 = hds m := ⟨_, hc5⟩
  obtain ⟨z9, rfl⟩ : ∃ m : Nat, z9 = m := ⟨_, hc6⟩
  simp only [Int.toNat_natCast, ze]
  exact uaZ ⟨z2, z3, z4, z5, z6, z7, z8⟩ z9
@[go_sem] def zaf (c : Ch) (id : Nat) : D := .tup [.agg [.int .u64 (zx c id true).1.id, .int .u64 (zx c id true).1.loc, .int .u64 (zx c id true).1.rem, .int .u64 (zx c id true).1.res, .int .u64 (zx c id true).1.most, .sl (hds (zx c id true).1.holds), .bool (zx c id true).1.op], .int .u64 (zx c id true).2.1, .int .i64 (zx c id true).2.2]
@[go_sem] abbrev qbU : FuncId := 148
@[go_sem] def jaV : Tab := [(183, yp), (153, uq), (218, ur), fg 13]
theorem gi : ya Tryz.prog jaV := (ya.cons ko (ya.cons kz (ya.cons qt (ya.cons (bao 13) ya.nil))))
set_option maxRecDepth 8000 in
set_option maxHeartbeats 1000000 in
theorem gaC (c : Ch) (id : Nat)  : yb Tryz.prog 148 [.agg [.c (.int .u64 (c.id : Int)), .c (.int .u64 (c.loc : Int)), .c (.int .u64 (c.rem : Int)), .c (.int .u64 (c.res : Int)), .c (.int .u64 (c.most : Int)), .sl (hds c.holds), .c (.bool c.op)], .c (.int .u64 (id : Int))] (zaf c id) := by
  refine .of (qcK gi (Nat.le_of_ble_eq_true rfl) ?_)
  simp -implicitDefEqProofs only [cdA, go_sem, Go.Proofs.Tryz.f148, reduceIte, reduceCtorEq, Nat.reduceEqDiff, Nat.reduceAdd, Nat.reduceLeDiff, Nat.reduceSub, Nat.reduceMul, Nat.reduceLT, Nat.reduceShiftRight, Nat.reduceMod, Int.reduceLE, Int.reduceLT, Int.reduceToNat, List.cons.injEq, cdB]
  refine jbW gi (Nat.le_of_ble_eq_true rfl) ?_
  simp -implicitDefEqProofs only [cdA, go_sem, Go.Proofs.Tryz.f220, reduceIte, reduceCtorEq, Nat.reduceEqDiff, Nat.reduceAdd, Nat.reduceLeDiff, Nat.reduceSub, Nat.reduceMul, Nat.reduceLT, Nat.reduceShiftRight, Nat.reduceMod, Int.reduceLE, Int.reduceLT, Int.reduceToNat, List.cons.injEq, cdB]
  have hc0 : bay c = 0 ↔ yl c := by unfold bay; split <;> rename_i h <;> simp only [h] <;> decide
  refine ⟨fun h0 => ?_, fun h0 => by
    have hno : ¬ yl c := fun h => h0 (hc0.2 h)
    rw [zx, bay, if_neg hno, if_neg hno]; exact ⟨⟨rfl, rfl, rfl, rfl, rfl, rfl, rfl⟩, rfl, rfl⟩⟩
  have hok := hc0.1 h0
  have hu : Srt.Up Hd.key ltN c.holds := (Srt.jg (lt := ltN) Srt.qf).1 hok.2.2.2.2.2.1
  have h64 := hok.2.2.1
  refine zby gi (Nat.le_of_ble_eq_true rfl) ?_
  simp -implicitDefEqProofs only [cdA, go_sem, Go.Proofs.Tryz.f217, reduceIte, reduceCtorEq, Nat.reduceEqDiff, Nat.reduceAdd, Nat.reduceLeDiff, Nat.reduceSub, Nat.reduceMul, Nat.reduceLT, Nat.reduceShiftRight, Nat.reduceMod, Int.reduceLE, Int.reduceLT, Int.reduceToNat, List.cons.injEq, cdB]
  refine fun _ => SWp.loop (ι := { x : Nat × Nat // x.1 ≤ x.2 ∧ x.2 ≤ c.holds.length ∧ (∀ k, k < x.1 → (c.holds.getD k default).id < id) ∧ ∀ k, x.2 ≤ k → k < c.holds.length → ¬ (c.holds.getD k default).id < id }) (fun x => ⟨[(0, .sl (hds c.holds)), (1, .c (.int .u64 id)), (2, .fn (.func 218) [] []), (8, .int .i64 c.holds.length), (9, .int .i64 x.1.1), (10, .int .i64 x.1.2)],
    [(3, .box [.c (.int .u64 0), .c (.int .u64 0), .c (.int .u64 0), .c (.int .u64 0), .c (.int .u64 0), .nil, .c (.bool false)]), (2, .box [.c (.int .u64 c.id), .c (.int .u64 c.loc), .c (.int .u64 c.rem), .c (.int .u64 c.res), .c (.int .u64 c.most), .sl (hds c.holds), .c (.bool c.op)]), (1, .box [.c (.int .u64 0), .c (.int .u64 0), .c (.int .u64 0), .c (.int .u64 0), .c (.int .u64 0), .nil, .c (.bool false)]), (0, .box [.c (.int .u64 c.id), .c (.int .u64 c.loc), .c (.int .u64 c.rem), .c (.int .u64 c.res), .c (.int .u64 c.most), .sl (hds c.holds), .c (.bool c.op)])], 4⟩) (fun x => x.1.2 - x.1.1) ⟨(0, c.holds.length), by simp, by simp, fun k hk => absurd hk (by simp), fun k h1 h2 => absurd h1 (by simpa using h2)⟩ ?_ ?_
  · simp [go_sem]
  · rintro ⟨⟨i, j⟩, hij, hj, hlo, hup⟩
    dsimp only at hij hj hlo hup
    refine qb gi.toS gaS _ _ _ rfl ?_
    simp -implicitDefEqProofs only [cdA, go_sem, reduceIte, reduceCtorEq, Nat.reduceEqDiff, Nat.reduceAdd, Nat.reduceLeDiff, Nat.reduceSub, Nat.reduceMul, Nat.reduceLT, Nat.reduceShiftRight, Nat.reduceMod, Int.reduceLE, Int.reduceLT, Int.reduceToNat, List.cons.injEq, cdB]
    rw [yS hij hj ‹_›]
    refine ⟨fun h4 => ?_, fun h4 => ?_⟩
    · have hm : (i + j) / 2 < c.holds.length := by omega
      rw [xk, Int.toNat_natCast]
      refine ⟨⟨by omega, by omega⟩, fun h5 => ⟨⟨((i + j) / 2 + 1, j), by dsimp only; omega, hj, fun k hk => ?_, hup⟩, by dsimp only; omega, i64_in _ (by omega), rfl⟩, fun h5 => ⟨⟨(i, (i + j) / 2), by dsimp only; omega, by dsimp only; omega, hlo, fun k hk1 hk2 => ?_⟩, by dsimp only; omega, rfl, rfl⟩⟩
      · dsimp only at hk
        by_cases hkm : k = (i + j) / 2
        · rw [hkm]; omega
        · have := Srt.kj.1 hu k _ (by omega) hm
          simp only [ltN, Hd.key] at this; omega
      · dsimp only at hk1
        by_cases hkm : k = (i + j) / 2
        · rw [hkm]; omega
        · have := Srt.kj.1 hu ((i + j) / 2) k (by omega) hk2
          simp only [ltN, Hd.key] at this; omega
    · have hp : Srt.pos Hd.key ltN c.holds id = i := Srt.pos_eq (by omega) hlo (fun h => hup i (by omega) h)
      have hth : Srt.thr Hd.key ltN c.holds id = decide (i < c.holds.length ∧ (c.holds.getD i default).id = id) := by rw [Srt.thr, hp]; rfl
      have hno : ¬ (i < c.holds.length ∧ (c.holds.getD i default).id = id) → zx c id true = (default, 0, 5) := fun h => by
        rw [zx, if_pos hok, if_neg (by rw [hth, decide_eq_true_eq]; exact h)]
      refine ⟨fun h5 => ⟨by omega, fun h6 => ⟨by omega, by omega, ?_⟩, fun h6 => ?_⟩, fun h5 => ?_⟩
      rotate_left 1
      · rw [hno fun h => h6 (wz.2 (by omega))]; exact ⟨⟨rfl, rfl, rfl, rfl, rfl, rfl, rfl⟩, rfl, rfl⟩
      · rw [hno fun h => h5 (by omega)]; exact ⟨⟨rfl, rfl, rfl, rfl, rfl, rfl, rfl⟩, rfl, rfl⟩
      have hi' : i < c.holds.length := by omega
      have ht : Srt.thr Hd.key ltN c.holds id = true := by rw [hth]; exact decide_eq_true ⟨hi', by have := wz.1 h6; omega⟩
      rw [i64_in _ (by omega)]
      refine va.opn 4 rfl (by rw [yd]; omega) fun cp hc hcm => ?_
      refine va.sld ?_
      rw [yd] at hc
      refine ubS gi (Nat.le_of_ble_eq_true rfl) ?_
      simp -implicitDefEqProofs only [cdA, go_sem, Go.Proofs.Tryz.f254, reduceIte, reduceCtorEq, Nat.reduceEqDiff, Nat.reduceAdd, Nat.reduceLeDiff, Nat.reduceSub, Nat.reduceMul, Nat.reduceLT, Nat.reduceShiftRight, Nat.reduceMod, Int.reduceLE, Int.reduceLT, Int.reduceToNat, List.cons.injEq, cdB]
      refine fun _ => ⟨⟨by omega, by omega, by omega⟩, fun h => absurd h (by omega), fun _ _ => ?_⟩
      refine uc.run jaP gi qa (by kernel_rfl) (by kernel_rfl) ?_
      simp -implicitDefEqProofs only [cdA, go_sem, reduceIte, reduceCtorEq, Nat.reduceEqDiff, Nat.reduceAdd, Nat.reduceLeDiff, Nat.reduceSub, Nat.reduceMul, Nat.reduceLT, Nat.reduceShiftRight, Nat.reduceMod, Int.reduceLE, Int.reduceLT, Int.reduceToNat, List.cons.injEq, cdB]
      have eF : List.take c.holds.length (fit cp 2 (hds c.holds)) = hds c.holds := by rw [yo (by rw [yd]; exact Nat.le_refl _) hc, List.take_of_length_le (by rw [yd]; exact Nat.le_refl _)]
      have e2 : ((i : Int) + 1).toNat = i + 1 := by omega
      rw [eF, e2]
      have hD : ((hds c.holds).drop (i + 1)).length = c.holds.length - (i + 1) := by rw [List.length_drop, yd]
      have e3 : ((i : Int) + (((hds c.holds).drop (i + 1)).length : Int)).toNat = i + ((hds c.holds).drop (i + 1)).length := by omega
      simp only [e3]
      have hE : ∀ Z : List (List C), (fit cp 2 ((fit cp 2 ((fit cp 2 (hds c.holds)).take i ++ ((hds c.holds).drop (i + 1) ++ (fit cp 2 (hds c.holds)).drop (i + ((hds c.holds).drop (i + 1)).length)))).take (i + ((hds c.holds).drop (i + 1)).length) ++ Z)).take (i + ((hds c.holds).drop (i + 1)).length) = hds (c.holds.eraseIdx i) := fun Z => by
        rw [xap (by rw [yd]; exact hi') (by rw [yd]; exact hc), waj]
      rw [hE, hD]
      have hl1 : i + (c.holds.length - (i + 1)) = (c.holds.eraseIdx i).length := by rw [List.length_eraseIdx_of_lt hi']; omega
      rw [hl1]
      have hl2 : (c.holds.eraseIdx i).length = c.holds.length - 1 := List.length_eraseIdx_of_lt hi'
      refine ⟨by omega, ⟨by omega, by omega⟩, ⟨fun x hx => (of_eq_true (k8 c.holds)) x (List.mem_of_mem_drop hx), by omega⟩, fun _ => ⟨⟨by omega, by omega, by omega⟩, ?_⟩⟩
      refine kcs gi (Nat.le_of_ble_eq_true rfl) ?_
      simp -implicitDefEqProofs only [cdA, go_sem, Go.Proofs.Tryz.f222, reduceIte, reduceCtorEq, Nat.reduceEqDiff, Nat.reduceAdd, Nat.reduceLeDiff, Nat.reduceSub, Nat.reduceMul, Nat.reduceLT, Nat.reduceShiftRight, Nat.reduceMod, Int.reduceLE, Int.reduceLT, Int.reduceToNat, List.cons.injEq, cdB]
      have ec : zx c id true = (⟨c.id, if (true : Bool) = true then c.loc else c.loc + (c.holds.getD i default).n, if (true : Bool) = true then c.rem + (c.holds.getD i default).n else c.rem, c.res, c.most, c.holds.eraseIdx i, c.op⟩, (c.holds.getD i default).n, 0) := by
        rw [zx, if_pos hok, if_pos ht, hp]
      have hge := zaN hi'
      have hsum := hok.2.2.2.2.2.2.2.2.2
      unfold MM at hsum
      rw [ec]
      dsimp only
      rw [if_pos (by decide), if_pos (by decide), u64_in _ (by omega)]
      exact ⟨⟨rfl, by omega, by omega, rfl, rfl, ⟨rfl, _, _, _, rfl⟩, rfl⟩, rfl, rfl⟩
def gD : List D → Option (Prop × D × Fr)
  | [.agg [.c (.int .u64 z11), .c (.int .u64 z12), .c (.int .u64 z13), .c (.int .u64 z14), .c (.int .u64 z15), .c (.sl z16), .c (.bool z17)], .c (.int .u64 z18)] => some (z11 = (z11.toNat : Int) ∧ z12 = (z12.toNat : Int) ∧ z13 = (z13.toNat : Int) ∧ z14 = (z14.toNat : Int) ∧ z15 = (z15.toNat : Int) ∧ z16 = hds (um z16) ∧ z18 = (z18.toNat : Int), zaf (⟨z11.toNat, z12.toNat, z13.toNat, z14.toNat, z15.toNat, (um z16), z17⟩ : Ch) z18.toNat, [])
  | _ => none
attribute [go_sem] gD
theorem x7 : ∀ rs p r fr, gD rs = some (p, r, fr) → p → zg Tryz.prog 148 rs r fr := by
  intro rs p r fr h hp
  unfold gD at h
  split at h <;> cases h
  obtain ⟨hc0, hc1, hc2, hc3, hc4, hc5, hc6⟩ := hp
  rename_i z11 z12 z13 z14 z15 z16 z17 z18
  obtain ⟨z11, rfl⟩ : ∃ m : Nat, z11 = m := ⟨_, hc0⟩
  obtain ⟨z12, rfl⟩ : ∃ m : Nat, z12 = m := ⟨_, hc1⟩
  obtain ⟨z13, rfl⟩ : ∃ m : Nat, z13 = m := ⟨_, hc2⟩
  obtain ⟨z14, rfl⟩ : ∃ m : Nat, z14 = m := ⟨_, hc3⟩
  obtain ⟨z15, rfl⟩ : ∃ m : Nat, z15 = m := ⟨_, hc4⟩
  obtain ⟨z16, rfl⟩ : ∃ m, z16 = hds m := ⟨_, hc5⟩
  obtain ⟨z18, rfl⟩ : ∃ m : Nat, z18 = m := ⟨_, hc6⟩
  simp only [Int.toNat_natCast, ze]
  exact gaC ⟨z11, z12, z13, z14, z15, z16, z17⟩ z18
end Dm
namespace Dm
open Go Go.Proofs Go.IntWalk
theorem y6 {α κ : Type} [Inhabited α] [DecidableEq κ] {key : α → κ} {lt : κ → κ → Prop} [DecidableRel lt] {l : List α} {k : κ} (h : Srt.thr key lt l k = true) : Srt.pos key lt l k < l.length ∧ key (l.getD (Srt.pos key lt l k) default) = k := by
  unfold Srt.thr at h; exact of_decide_eq_true h
theorem qbZ : ∀ {l : List Ch} {s : Int} {k : Nat} {a : Int}, (k, a) ∈ hm s l → ∃ i : Nat, i < l.length ∧ a = s + i ∧ ∃ x ∈ (l.getD i default).holds, x.id = k
  | [], _, _, _, h => absurd h (by simp [hm])
  | c :: l, s, k, a, h => by
    rw [hm, List.mem_append] at h
    rcases h with h | h
    · obtain ⟨x, hx, he⟩ := List.mem_map.1 h
      rw [Prod.mk.injEq] at he
      exact ⟨0, by simp, by rw [← he.2]; simp, x, by simpa using hx, he.1⟩
    · obtain ⟨i, hi, ha, x, hx, hk⟩ := qbZ h
      exact ⟨i + 1, by simpa using hi, by omega, x, by simpa using hx, hk⟩
theorem xaz {l : List Ch} {h : Nat} (h0 : (qj l h).2 = 0) : ym l ∧ ∃ c ∈ l, (qj l h).1 = c.id ∧ ∃ x ∈ c.holds, x.id = h := by
  unfold qj at h0 ⊢
  split at h0
  · rename_i hok
    rw [if_pos hok]
    refine ⟨hok, ?_⟩
    split at h0
    · rename_i a ha
      have hnd : ((hm 0 l).map (·.1)).Nodup := by rw [xH]; exact hok.2.2.2.1
      obtain ⟨i, hi, rfl, x, hx, hk⟩ := qbZ ((kH hnd).1 ha)
      refine ⟨l.getD i default, jb.2 ⟨i, hi, rfl⟩, ?_, x, hx, hk⟩
      simp only [ha]
      rw [show ((0 : Int) + (i : Int)).toNat = i by omega]
    · cases h0
  · cases h0
theorem qaO {c : Ch} {h : Nat} {paid : Bool} {x : Hd} (hok : yl c) (hx : x ∈ c.holds) (hk : x.id = h) : ∃ q, q = Srt.pos Hd.key ltN c.holds h ∧ q < c.holds.length ∧ c.holds.getD q default = x ∧
    zx c h paid = (⟨c.id, if paid = true then c.loc else c.loc + x.n, if paid = true then c.rem + x.n else c.rem, c.res, c.most, c.holds.eraseIdx q, c.op⟩, x.n, 0) := by
  have hu : Srt.Up Hd.key ltN c.holds := (Srt.jg (lt := ltN) Srt.qf).1 hok.2.2.2.2.2.1
  have ht : Srt.thr Hd.key ltN c.holds h = true := (Srt.yU Srt.qf hu).2 ⟨x, hx, hk⟩
  obtain ⟨h1, h2⟩ := y6 ht
  have h3 := Srt.vaJ (key := Hd.key) (lt := ltN) Srt.qf hu (jb.2 ⟨_, h1, rfl⟩) hx (h2.trans hk.symm)
  refine ⟨_, rfl, h1, h3, ?_⟩
  rw [zx, if_pos hok, if_pos ht, h3]
theorem yax {l : List Ch} {c : Ch} (hok : ym l) (hc : c ∈ l) : ∃ p : Nat, p = Srt.pos Ch.id ltN l c.id ∧ p < l.length ∧ l.getD p default = c ∧ vf l c.id = ((p : Int), 0) := by
  have hu : Srt.Up Ch.id ltN l := (Srt.jg (lt := ltN) Srt.qf).1 hok.2.2.1
  have ht : Srt.thr Ch.id ltN l c.id = true := (Srt.yU Srt.qf hu).2 ⟨c, hc, rfl⟩
  obtain ⟨h1, h2⟩ := y6 ht
  have h3 := Srt.vaJ (key := Ch.id) (lt := ltN) Srt.qf hu (jb.2 ⟨_, h1, rfl⟩) hc h2
  exact ⟨_, rfl, h1, h3, by rw [vf, if_pos hok, if_pos ht]⟩
def vi (l : List Ch) (h : Nat) (paid : Bool) : List Ch × Nat × Int :=
  if (qj l h).2 = 0 then (if (vf l (qj l h).1).2 = 0 then (if (zx (l.getD (vf l (qj l h).1).1.toNat default) h paid).2.2 = 0 then (l.set (vf l (qj l h).1).1.toNat (zx (l.getD (vf l (qj l h).1).1.toNat default) h paid).1, (zx (l.getD (vf l (qj l h).1).1.toNat default) h paid).2.1, 0) else ([], 0, (zx (l.getD (vf l (qj l h).1).1.toNat default) h paid).2.2)) else ([], 0, (vf l (qj l h).1).2)) else ([], 0, (qj l h).2)
@[go_sem] def yaQ (l : List Ch) (h : Nat) (paid : Bool) : D := .tup [.sl (chs (vi l h paid).1), .int .u64 ((vi l h paid).2.1 : Int), .int .i64 (vi l h paid).2.2]
@[go_sem] abbrev xcz : FuncId := 61
@[go_sem] def kbr : Tab := [(14, uB), (63, jy), (147, zQ), (148, gD), (185, vB)]
theorem uv : ya Tryz.prog kbr := (ya.cons wO (ya.cons xz (ya.cons jao (ya.cons x7 (ya.cons zw ya.nil)))))
set_option maxRecDepth 8000 in
set_option maxHeartbeats 1000000 in
theorem ba7 (l : List Ch) (h : Nat) (paid : Bool)  : yb Tryz.prog 61 [.sl (chs l), .c (.int .u64 (h : Int)), .c (.bool paid)] (yaQ l h paid) := by
  refine .of (zdf uv (Nat.le_of_ble_eq_true rfl) ?_)
  simp -implicitDefEqProofs only [cdA, go_sem, Go.Proofs.Tryz.f61, reduceIte, reduceCtorEq, Nat.reduceEqDiff, Nat.reduceAdd, Nat.reduceLeDiff, Nat.reduceSub, Nat.reduceMul, Nat.reduceLT, Nat.reduceShiftRight, Nat.reduceMod, Int.reduceLE, Int.reduceLT, Int.reduceToNat, List.cons.injEq, cdB]
  refine ⟨fun hw => ?_, fun hw => by rw [vi, if_neg hw]; exact ⟨rfl, rfl, rfl⟩⟩
  rw [vi, if_pos hw]
  obtain ⟨hok, c, hc, hwc, x, hx, hk⟩ := xaz hw
  rw [hwc]
  obtain ⟨p, hpp, hp, hpc, ep⟩ := yax hok hc
  have hcc := hok.2.1 c hc
  rw [ep]
  dsimp only
  rw [if_pos rfl, Int.toNat_natCast, hpc]
  have e2 : (zx c h paid).2.2 = 0 := by
    obtain ⟨q, _, _, _, e⟩ := qaO (paid := paid) hcc hx hk
    rw [e]
  rw [if_pos e2]
  refine za8 uv (Nat.le_of_ble_eq_true rfl) ?_
  simp -implicitDefEqProofs only [cdA, go_sem, Go.Proofs.Tryz.f137, reduceIte, reduceCtorEq, Nat.reduceEqDiff, Nat.reduceAdd, Nat.reduceLeDiff, Nat.reduceSub, Nat.reduceMul, Nat.reduceLT, Nat.reduceShiftRight, Nat.reduceMod, Int.reduceLE, Int.reduceLT, Int.reduceToNat, List.cons.injEq, cdB]
  rw [ep]
  refine ⟨fun _ => ⟨⟨by omega, by omega⟩, ?_⟩, fun h => absurd rfl h⟩
  refine ycy uv (Nat.le_of_ble_eq_true rfl) ?_
  simp -implicitDefEqProofs only [cdA, go_sem, Go.Proofs.Tryz.f146, reduceIte, reduceCtorEq, Nat.reduceEqDiff, Nat.reduceAdd, Nat.reduceLeDiff, Nat.reduceSub, Nat.reduceMul, Nat.reduceLT, Nat.reduceShiftRight, Nat.reduceMod, Int.reduceLE, Int.reduceLT, Int.reduceToNat, List.cons.injEq, cdB]
  rw [hpc]
  have h32 : l.length ≤ 1000000 ∧ ∀ c ∈ l, c.holds.length ≤ 1000000 := ⟨by have := hok.1; omega, fun c hc => by have := (hok.2.1 c hc).2.2.1; omega⟩
  refine ⟨fun hpd => ?_, fun hpd => ?_⟩
  · subst hpd
    refine ⟨fun _ => ⟨h32, by omega, hp, ?_⟩, fun h => absurd e2 h⟩
    refine uc.run vbf uv qa (by kernel_rfl) (by kernel_rfl) ?_
    simp -implicitDefEqProofs only [cdA, go_sem, reduceIte, reduceCtorEq, Nat.reduceEqDiff, Nat.reduceAdd, Nat.reduceLeDiff, Nat.reduceSub, Nat.reduceMul, Nat.reduceLT, Nat.reduceShiftRight, Nat.reduceMod, Int.reduceLE, Int.reduceLT, Int.reduceToNat, List.cons.injEq, cdB]
    exact ⟨_, _, _, rfl⟩
  · subst hpd
    refine ⟨fun _ => ⟨h32, by omega, hp, ?_⟩, fun h => absurd e2 h⟩
    refine uc.run vbf uv qa (by kernel_rfl) (by kernel_rfl) ?_
    simp -implicitDefEqProofs only [cdA, go_sem, reduceIte, reduceCtorEq, Nat.reduceEqDiff, Nat.reduceAdd, Nat.reduceLeDiff, Nat.reduceSub, Nat.reduceMul, Nat.reduceLT, Nat.reduceShiftRight, Nat.reduceMod, Int.reduceLE, Int.reduceLT, Int.reduceToNat, List.cons.injEq, cdB]
    exact ⟨_, _, _, rfl⟩
def kQ : List D → Option (Prop × D × Fr)
  | [.c (.sl z1), .c (.int .u64 z2), .c (.bool z3)] => some (z1 = chs (xh z1) ∧ z2 = (z2.toNat : Int), yaQ (xh z1) z2.toNat z3, [])
  | _ => none
attribute [go_sem] kQ
theorem xau : ∀ rs p r fr, kQ rs = some (p, r, fr) → p → zg Tryz.prog 61 rs r fr := by
  intro rs p r fr h hp
  unfold kQ at h
  split at h <;> cases h
  obtain ⟨hc0, hc1⟩ := hp
  rename_i z1 z2 z3
  obtain ⟨z1, rfl⟩ : ∃ m, z1 = chs m := ⟨_, hc0⟩
  obtain ⟨z2, rfl⟩ : ∃ m : Nat, z2 = m := ⟨_, hc1⟩
  simp only [Int.toNat_natCast, xb]
  exact ba7 z1 z2 z3
end Dm
namespace Dm
open Go Go.Proofs Go.IntWalk
theorem gaz {l : List Py} {id : Nat} {paid : Bool} (h : (jq l id paid).2 = 0) : (jq l id paid).1.length ≤ 256 := by
  unfold jq at h ⊢
  split at h
  · rename_i h1
    split at h
    · rename_i h2
      split at h
      · rename_i h3
        rw [if_pos h1, if_pos h2, if_pos h3, List.length_set]; exact h1.1
      · cases h
    · cases h
  · cases h
theorem jbR {c : Ch} {h : Nat} {paid : Bool} {x : Hd} (hok : yl c) (hx : x ∈ c.holds) (hk : x.id = h) : yl (zx c h paid).1 ∧ qR (zx c h paid).1 = qR c ∧ (zx c h paid).1.id = c.id ∧ c.holds.Perm (x :: (zx c h paid).1.holds) := by
  obtain ⟨q, hq, hl, hg, e⟩ := qaO (paid := paid) hok hx hk
  have hpm := zY hl hg
  obtain ⟨o1, o2, o3, o4, o5, o6, o7, o8, o9, o10⟩ := hok
  have hok : yl c := ⟨o1, o2, o3, o4, o5, o6, o7, o8, o9, o10⟩
  have hh : held c.holds = x.n + held (c.holds.eraseIdx q) := by
    unfold held
    rw [(hpm.map Hd.n).sum_nat, List.map_cons, List.sum_cons]
  have hop : ¬ c.op = false := fun h => by rw [o4 h] at hx; cases hx
  rw [e]
  dsimp only
  have hok2 : yl (⟨c.id, if paid = true then c.loc else c.loc + x.n, if paid = true then c.rem + x.n else c.rem, c.res, c.most, c.holds.eraseIdx q, c.op⟩ : Ch) := by
    refine ⟨o1, o2, ?_, fun h => absurd h hop, fun y hy => o5 y (List.mem_of_mem_eraseIdx hy), (Srt.jg (lt := ltN) Srt.qf).2 ?_, ?_, ?_, ?_, ?_⟩
    · show (c.holds.eraseIdx q).length ≤ 64
      rw [List.length_eraseIdx_of_lt hl]; omega
    · exact List.Pairwise.sublist (List.eraseIdx_sublist _ _) ((Srt.jg (lt := ltN) Srt.qf).1 o6)
    · show held (c.holds.eraseIdx q) ≤ c.most; omega
    · show (if paid = true then c.loc else c.loc + x.n) ≤ MM
      unfold MM at *; split <;> omega
    · show (if paid = true then c.rem + x.n else c.rem) ≤ MM
      unfold MM at *; split <;> omega
    · show held (c.holds.eraseIdx q) + (if paid = true then c.loc else c.loc + x.n) + (if paid = true then c.rem + x.n else c.rem) ≤ MM
      unfold MM at *; split <;> omega
  refine ⟨hok2, ?_, rfl, hpm⟩
  unfold qR xg
  rw [if_pos hok2, if_pos hok]
  show held (c.holds.eraseIdx q) + (if paid = true then c.loc else c.loc + x.n) + (if paid = true then c.rem + x.n else c.rem) = held c.holds + c.loc + c.rem
  split <;> omega
theorem gaK {l : List Ch} {h : Nat} (paid : Bool) (h0 : (qj l h).2 = 0) : ym l ∧ ∃ c ∈ l, ∃ x ∈ c.holds, x.id = h ∧ ∃ p, p < l.length ∧ p = Srt.pos Ch.id ltN l c.id ∧ l.getD p default = c ∧ yl c ∧ vi l h paid = (l.set p (zx c h paid).1, x.n, 0) := by
  obtain ⟨hok, c, hc, hw, x, hx, hk⟩ := xaz h0
  obtain ⟨p, hp, hpl, hpc, e⟩ := yax hok hc
  have hcc := hok.2.1 c hc
  obtain ⟨q, _, _, _, e2⟩ := qaO (paid := paid) hcc hx hk
  refine ⟨hok, c, hc, x, hx, hk, p, hpl, hp, hpc, hcc, ?_⟩
  have e3 : (vf l c.id).1.toNat = p := by rw [e]; rfl
  rw [vi, if_pos h0, hw, if_pos (by rw [e]), e3, hpc, if_pos (by rw [e2])]
  rw [e2]
theorem qbc {l : List Ch} {h : Nat} {paid : Bool} : (vi l h paid).2.2 = 0 ↔ (qj l h).2 = 0 := by
  refine ⟨fun h0 => Decidable.byContradiction fun hn => ?_, fun h0 => ?_⟩
  · rw [vi, if_neg hn] at h0; exact hn h0
  · obtain ⟨_, c, _, x, _, _, p, _, _, _, _, e⟩ := gaK paid h0
    rw [e]
theorem xaf {l : List Ch} {p : Nat} {d : Ch} (hp : p < l.length) : (l.set p d).set p (l.getD p default) = l := by
  rw [List.set_set, ve hp]; exact List.set_getElem_self hp
theorem x8 {l : List Ch} {h : Nat} {paid : Bool} (h0 : (vi l h paid).2.2 = 0) : ym l ∧ ym (vi l h paid).1 ∧ yP (vi l h paid).1 = yP l ∧ ∃ c ∈ l, ∃ x ∈ c.holds, x.id = h ∧ (vi l h paid).2.1 = x.n ∧ (hlL l).Perm ((c.id, h, x.n) :: hlL (vi l h paid).1) ∧ (zL l).Perm (h :: zL (vi l h paid).1) := by
  obtain ⟨hok, c, hc, x, hx, hk, p, hp, hpp, hpc, hcc, e⟩ := gaK paid (qbc.1 h0)
  obtain ⟨c1, c2, c3, c4⟩ := jbR (paid := paid) hcc hx hk
  have hu : Srt.Up Ch.id ltN l := (Srt.jg (lt := ltN) Srt.qf).1 hok.2.2.1
  rw [e]
  dsimp only
  generalize (zx c h paid).1 = d at *
  have hpl : p < (l.set p d).length := by rw [List.length_set]; exact hp
  have hgd : (l.set p d).getD p default = d := by rw [Srt.qy hp, if_pos rfl]
  have hss := xaf (d := d) hp
  rw [hpc] at hss
  have hh := vbr (l := l.set p d) (p := p) (d := c) (x := x) hpl (by rw [hgd]; exact c3.symm) (by rw [hgd]; exact c4)
  have hi := wau (l := l.set p d) (p := p) (d := c) (x := x) hpl (by rw [hgd]; exact c4)
  rw [hss] at hh hi
  rw [hk] at hh hi
  have ht := b8 (l := l) (p := p) (d := d) hp (by rw [hpc]; exact c2)
  refine ⟨hok, ⟨by rw [List.length_set]; exact hok.1, fun y hy => ?_, ?_, ?_, by rw [ht]; exact hok.2.2.2.2⟩, ht, c, hc, x, hx, hk, rfl, hh, hi⟩
  · rcases List.mem_or_eq_of_mem_set hy with h | rfl
    · exact hok.2.1 y h
    · exact c1
  · exact (Srt.jg (lt := ltN) Srt.qf).2 (Srt.qZ hu hp (by rw [hpc]; exact c3))
  · have := hok.2.2.2.1
    rw [hi.nodup_iff, List.nodup_cons] at this
    exact this.2
theorem wan {l : List Ch} {h : Nat} {paid : Bool} (h0 : ((vi l h paid).1, (vi l h paid).2.2).2 = 0) : ym (vi l h paid).1 := (x8 h0).2.1
end Dm
namespace Dm
open Go Go.Proofs Go.IntWalk
theorem jbc {l : List Ch} {a b n : Nat} (h : (a, b, n) ∈ hlL l) : b ∈ zL l := by
  obtain ⟨c, hc, hm⟩ := List.mem_flatMap.1 h
  obtain ⟨x, hx, he⟩ := List.mem_map.1 hm
  simp only [Prod.mk.injEq] at he
  exact List.mem_flatMap.2 ⟨c, hc, List.mem_map.2 ⟨x, hx, he.2.1⟩⟩
theorem wby {l : List Py} {id : Nat} {paid : Bool} (h : (jq l id paid).2 = 0) : yL l ∧ ∃ r q, r < l.length ∧ l.getD r default = q ∧ q.id = id ∧ q.state = 1 ∧ r = Srt.pos Py.id ltN l id ∧ (jq l id paid).1 = l.set r { q with state := if paid = true then 2 else 3 } := by
  unfold jq at h ⊢
  split at h
  · rename_i h1
    split at h
    · rename_i h2
      split at h
      · rename_i h3
        obtain ⟨g1, g2⟩ := y6 h2
        rw [if_pos h1, if_pos h2, if_pos h3]
        exact ⟨h1, _, _, g1, rfl, g2, h3, rfl, rfl⟩
      · cases h
    · cases h
  · cases h
theorem waS {l : List Py} {p : Nat} (hp : p < l.length) : l = l.take p ++ l.getD p default :: l.drop (p + 1) := by
  rw [ve hp, List.getElem_cons_drop, List.take_append_drop]
theorem uah {a b : List Py} {q : Py} : wL (a ++ q :: b) = wL a ++ (if q.state = 1 then q :: wL b else wL b) := by
  unfold wL
  rw [List.filter_append]
  congr 1
  split
  · rename_i h; rw [List.filter_cons_of_pos (by simpa using h)]
  · rename_i h; rw [List.filter_cons_of_neg (by simpa using h)]
theorem ubK {l : List Py} {r : Nat} {q : Py} (hok : yL l) (hr : r < l.length) (hid : q.id = (l.getD r default).id) (hq : uL q) : yL (l.set r q) := by
  refine ⟨by rw [List.length_set]; exact hok.1, fun x hx => ?_, (Srt.jg (lt := ltN) Srt.qf).2 (Srt.qZ (jar hok) hr hid)⟩
  rcases List.mem_or_eq_of_mem_set hx with h | rfl
  · exact hok.2.1 x h
  · exact hq
theorem xaw {l : List Py} {id : Nat} {paid : Bool} (h : (jq l id paid).2 = 0) : yL l ∧ yL (jq l id paid).1 ∧ (jq l id paid).1.map Py.id = l.map Py.id ∧ ∃ q ∈ l, q.id = id ∧ q.state = 1 ∧ (wL l).Perm (q :: wL (jq l id paid).1) ∧ { q with state := if paid = true then 2 else 3 } ∈ (jq l id paid).1 := by
  obtain ⟨hok, r, q, hr, hq, hid, hs, -, e⟩ := wby h
  have hmem : q ∈ l := jb.2 ⟨r, hr, hq⟩
  have hq1 := hok.2.1 q hmem
  rw [e]
  refine ⟨hok, ubK hok hr (by rw [hq]) ⟨hq1.1, ?_⟩, ?_, q, hmem, hid, hs, ?_, ?_⟩
  · show 1 ≤ (if paid = true then (2 : Int) else 3) ∧ (if paid = true then (2 : Int) else 3) ≤ 3
    split <;> decide
  · rw [List.map_set]
    show (l.map Py.id).set r q.id = _
    have : (l.map Py.id)[r]'(by simpa using hr) = q.id := by rw [List.getElem_map, ← ve hr, hq]
    rw [← this]; exact List.set_getElem_self _
  · have e1 := waS hr
    rw [hq] at e1
    rw [List.set_eq_take_append_cons_drop, if_pos hr]
    conv => lhs; rw [e1]
    rw [uah, uah, if_pos hs, if_neg (by show ¬ (if paid = true then (2 : Int) else 3) = 1; split <;> decide)]
    exact List.perm_middle
  · exact List.mem_set hr _
theorem xaF {l : List Py} (h : yL l) : ((wL l).map Py.id).Nodup := by
  have h1 : Srt.Up Py.id ltN (wL l) := List.Pairwise.sublist List.filter_sublist (jar h)
  unfold Srt.Up at h1
  rw [List.Nodup, List.pairwise_map]
  exact h1.imp fun hlt he => by simp only [ltN] at hlt; omega
theorem ka8 {l : List Py} {q : Py} : q ∈ wL l ↔ q ∈ l ∧ q.state = 1 := by
  unfold wL; rw [List.mem_filter, decide_eq_true_eq]
theorem vbp {p : List Py} {c : List Ch} {id : Nat} {paid : Bool} (ha : uY p c = (true, 0)) (hok : ym c) (hp : (jq p id paid).2 = 0) : (vi c id paid).2.2 = 0 ∧ uY (jq p id paid).1 (vi c id paid).1 = (true, 0) ∧
    ∃ q ∈ p, q.id = id ∧ q.state = 1 ∧ (vi c id paid).2.1 = q.n ∧ (q.chan, id, q.n) ∈ hlL c := by
  obtain ⟨a1, a2, a3, a4, a5⟩ := kr.1 ha
  obtain ⟨-, hok', -, q, hq, hid, hs, hpm, -⟩ := xaw hp
  have hqc := a4 q (ka8.2 ⟨hq, hs⟩)
  rw [hid] at hqc
  have hl0 : (vi c id paid).2.2 = 0 := qbc.2 ((yaI hok).2 (jbc hqc))
  obtain ⟨-, l1, -, c0, -, x, -, hx, hn, hh, hi⟩ := x8 hl0
  have hnin : id ∉ zL (vi c id paid).1 := by
    have := hok.2.2.2.1
    rw [hi.nodup_iff, List.nodup_cons] at this
    exact this.1
  have heq : (q.chan, id, q.n) = (c0.id, id, x.n) := by
    rcases List.mem_cons.1 (hh.mem_iff.1 hqc) with h | h
    · exact h
    · exact absurd (jbc h) hnin
  simp only [Prod.mk.injEq] at heq
  refine ⟨hl0, kr.2 ⟨hok', l1.1, jab l1, fun r hr => ?_, ?_⟩, q, hq, hid, hs, by rw [hn]; exact heq.2.2.symm, hqc⟩
  · have h1 : r ∈ wL p := hpm.mem_iff.2 (.tail _ hr)
    have h2 := a4 r h1
    have hne : r.id ≠ id := fun he => by
      have hnd := xaF a1
      rw [(hpm.map Py.id).nodup_iff, List.map_cons, List.nodup_cons] at hnd
      exact hnd.1 (List.mem_map.2 ⟨r, hr, by rw [he, hid]⟩)
    rcases List.mem_cons.1 (hh.mem_iff.1 h2) with h | h
    · simp only [Prod.mk.injEq] at h
      exact absurd h.2.1 hne
    · exact h
  · have h1 := hh.length_eq
    have h2 := hpm.length_eq
    rw [List.length_cons] at h1 h2
    omega
end Dm
namespace Dm
open Go Go.Proofs Go.IntWalk
def qbb (v : Wl) (c : Ch) : List Ch × Int := gm v.c c
def vbt (v : Wl) (c : Ch) : Fd × Nat × Int := vm v.f 6 c.id c.loc
def uaJ (v : Wl) (c : Ch) : Int := if ¬ okW v then 1 else if (qbb v c).2 ≠ 0 then (qbb v c).2 else (vbt v c).2.2
def qx (v : Wl) (c : Ch) : Wl × Int := if uaJ v c = 0 then (⟨(qbb v c).1, v.w, v.i, v.p, (vbt v c).1, v.next, v.tick⟩, 0) else (yx, uaJ v c)
theorem xae {l : List Ch} {c : Ch} (h : (gm l c).2 = 0) : ym (gm l c).1 := by
  unfold gm at h ⊢
  split at h
  · cases h
  split at h
  · cases h
  split at h
  · cases h
  split at h
  · rename_i h1 h2 h3 h4
    rw [if_neg h1, if_neg h2, if_neg h3, if_pos h4]; exact h4
  · cases h
@[go_sem] def kaW (v : Wl) (c : Ch) : D := .tup [.agg [.sl (chs (qx v c).1.c), .sl (wts (qx v c).1.w), .sl (ivs (qx v c).1.i), .sl (pys (qx v c).1.p), .int .u64 (qx v c).1.f.next, .sl (evs (qx v c).1.f.l), .int .u64 (qx v c).1.next, .int .u64 (qx v c).1.tick], .int .i64 (qx v c).2]
@[go_sem] abbrev gcA : FuncId := 30
@[go_sem] def qbw : Tab := [(37, bh), (94, vP), (142, wu), (119, gp)]
theorem xe : ya Tryz.prog qbw := (ya.cons vg (ya.cons uao (ya.cons gn (ya.cons yj ya.nil))))
set_option maxRecDepth 8000 in
set_option maxHeartbeats 1000000 in
theorem va7 (v : Wl) (c : Ch) (h : v.f.next ≤ 18446744073709551615) : yb Tryz.prog 30 [.agg [.sl (chs v.c), .sl (wts v.w), .sl (ivs v.i), .sl (pys v.p), .c (.int .u64 (v.f.next : Int)), .sl (evs v.f.l), .c (.int .u64 (v.next : Int)), .c (.int .u64 (v.tick : Int))], .agg [.c (.int .u64 (c.id : Int)), .c (.int .u64 (c.loc : Int)), .c (.int .u64 (c.rem : Int)), .c (.int .u64 (c.res : Int)), .c (.int .u64 (c.most : Int)), .sl (hds c.holds), .c (.bool c.op)]] (kaW v c) := by
  refine .of (zdd xe (Nat.le_of_ble_eq_true rfl) ?_)
  simp -implicitDefEqProofs only [cdA, go_sem, Go.Proofs.Tryz.f30, reduceIte, reduceCtorEq, Nat.reduceEqDiff, Nat.reduceAdd, Nat.reduceLeDiff, Nat.reduceSub, Nat.reduceMul, Nat.reduceLT, Nat.reduceShiftRight, Nat.reduceMod, Int.reduceLE, Int.reduceLT, Int.reduceToNat, List.cons.injEq, cdB]
  refine qaX xe (Nat.le_of_ble_eq_true rfl) ?_
  simp -implicitDefEqProofs only [cdA, go_sem, Go.Proofs.Tryz.f45, reduceIte, reduceCtorEq, Nat.reduceEqDiff, Nat.reduceAdd, Nat.reduceLeDiff, Nat.reduceSub, Nat.reduceMul, Nat.reduceLT, Nat.reduceShiftRight, Nat.reduceMod, Int.reduceLE, Int.reduceLT, Int.reduceToNat, List.cons.injEq, cdB]
  refine uc.run yG xe qa (by kernel_rfl) (by kernel_rfl) ?_
  simp -implicitDefEqProofs only [cdA, go_sem, reduceIte, reduceCtorEq, Nat.reduceEqDiff, Nat.reduceAdd, Nat.reduceLeDiff, Nat.reduceSub, Nat.reduceMul, Nat.reduceLT, Nat.reduceShiftRight, Nat.reduceMod, Int.reduceLE, Int.reduceLT, Int.reduceToNat, List.cons.injEq, cdB]
  refine ⟨h, ?_⟩
  have hbad : ∀ e : Int, uaJ v c = e → ¬ e = 0 → (chs (qx v c).1.c = [] ∧ wts (qx v c).1.w = [] ∧ ivs (qx v c).1.i = [] ∧ pys (qx v c).1.p = [] ∧ 0 = ((qx v c).1.f.next : Int) ∧ evs (qx v c).1.f.l = [] ∧ 0 = ((qx v c).1.next : Int) ∧ 0 = ((qx v c).1.tick : Int)) ∧ e = (qx v c).2 := fun e h1 h2 => by
    have : qx v c = (yx, e) := by rw [qx, if_neg (by rw [h1]; exact h2), h1]
    rw [this]; exact ⟨⟨rfl, rfl, rfl, rfl, rfl, rfl, rfl, rfl⟩, rfl⟩
  by_cases hok : okW v
  rotate_left 1
  · have hck : (bq v = 0) = False := eq_false fun h => hok (qm.1 h)
    have he : uaJ v c = 1 := by rw [uaJ, if_pos hok]
    have hc1 : bq v = 1 := by rw [bq, if_neg hok]
    skip
    refine vW xe (Nat.le_of_ble_eq_true rfl) ?_
    simp -implicitDefEqProofs only [cdA, go_sem, Go.Proofs.Tryz.f53, hck, cdN, reduceIte, reduceCtorEq, Nat.reduceEqDiff, Nat.reduceAdd, Nat.reduceLeDiff, Nat.reduceSub, Nat.reduceMul, Nat.reduceLT, Nat.reduceShiftRight, Nat.reduceMod, Int.reduceLE, Int.reduceLT, Int.reduceToNat, List.cons.injEq, cdB]
    refine wF xe (Nat.le_of_ble_eq_true rfl) ?_
    simp -implicitDefEqProofs only [cdA, go_sem, Go.Proofs.Tryz.f56, reduceIte, reduceCtorEq, Nat.reduceEqDiff, Nat.reduceAdd, Nat.reduceLeDiff, Nat.reduceSub, Nat.reduceMul, Nat.reduceLT, Nat.reduceShiftRight, Nat.reduceMod, Int.reduceLE, Int.reduceLT, Int.reduceToNat, List.cons.injEq, cdB]
    refine vj xe (Nat.le_of_ble_eq_true rfl) ?_
    simp -implicitDefEqProofs only [cdA, go_sem, Go.Proofs.Tryz.f140, hck, cdN, reduceIte, reduceCtorEq, Nat.reduceEqDiff, Nat.reduceAdd, Nat.reduceLeDiff, Nat.reduceSub, Nat.reduceMul, Nat.reduceLT, Nat.reduceShiftRight, Nat.reduceMod, Int.reduceLE, Int.reduceLT, Int.reduceToNat, List.cons.injEq, cdB]
    refine js xe (Nat.le_of_ble_eq_true rfl) ?_
    simp -implicitDefEqProofs only [cdA, go_sem, Go.Proofs.Tryz.f47, hck, cdN, reduceIte, reduceCtorEq, Nat.reduceEqDiff, Nat.reduceAdd, Nat.reduceLeDiff, Nat.reduceSub, Nat.reduceMul, Nat.reduceLT, Nat.reduceShiftRight, Nat.reduceMod, Int.reduceLE, Int.reduceLT, Int.reduceToNat, List.cons.injEq, cdB]
    refine uc.run yf xe qa (by kernel_rfl) (by kernel_rfl) ?_
    simp -implicitDefEqProofs only [cdA, go_sem, hck, cdN, reduceIte, reduceCtorEq, Nat.reduceEqDiff, Nat.reduceAdd, Nat.reduceLeDiff, Nat.reduceSub, Nat.reduceMul, Nat.reduceLT, Nat.reduceShiftRight, Nat.reduceMod, Int.reduceLE, Int.reduceLT, Int.reduceToNat, List.cons.injEq, cdB]
    exact hbad _ (he.trans hc1.symm) (by rw [hc1]; decide)
  have hck : (bq v = 0) = True := eq_true (qm.2 hok)
  refine vW xe (Nat.le_of_ble_eq_true rfl) ?_
  simp -implicitDefEqProofs only [cdA, go_sem, Go.Proofs.Tryz.f53, hck, cdN, reduceIte, reduceCtorEq, Nat.reduceEqDiff, Nat.reduceAdd, Nat.reduceLeDiff, Nat.reduceSub, Nat.reduceMul, Nat.reduceLT, Nat.reduceShiftRight, Nat.reduceMod, Int.reduceLE, Int.reduceLT, Int.reduceToNat, List.cons.injEq, cdB]
  refine xdi xe (Nat.le_of_ble_eq_true rfl) ?_
  simp -implicitDefEqProofs only [cdA, go_sem, Go.Proofs.Tryz.f93, reduceIte, reduceCtorEq, Nat.reduceEqDiff, Nat.reduceAdd, Nat.reduceLeDiff, Nat.reduceSub, Nat.reduceMul, Nat.reduceLT, Nat.reduceShiftRight, Nat.reduceMod, Int.reduceLE, Int.reduceLT, Int.reduceToNat, List.cons.injEq, cdB]
  have eC : gm v.c c = qbb v c := rfl
  rw [eC]
  refine ⟨fun hst => ?_, fun hst => ?_⟩
  rotate_left 1
  · skip
    refine wF xe (Nat.le_of_ble_eq_true rfl) ?_
    simp -implicitDefEqProofs only [cdA, go_sem, Go.Proofs.Tryz.f56, reduceIte, reduceCtorEq, Nat.reduceEqDiff, Nat.reduceAdd, Nat.reduceLeDiff, Nat.reduceSub, Nat.reduceMul, Nat.reduceLT, Nat.reduceShiftRight, Nat.reduceMod, Int.reduceLE, Int.reduceLT, Int.reduceToNat, List.cons.injEq, cdB]
    refine vj xe (Nat.le_of_ble_eq_true rfl) ?_
    simp -implicitDefEqProofs only [cdA, go_sem, Go.Proofs.Tryz.f140, hst, cdN, reduceIte, reduceCtorEq, Nat.reduceEqDiff, Nat.reduceAdd, Nat.reduceLeDiff, Nat.reduceSub, Nat.reduceMul, Nat.reduceLT, Nat.reduceShiftRight, Nat.reduceMod, Int.reduceLE, Int.reduceLT, Int.reduceToNat, List.cons.injEq, cdB]
    refine js xe (Nat.le_of_ble_eq_true rfl) ?_
    simp -implicitDefEqProofs only [cdA, go_sem, Go.Proofs.Tryz.f47, hst, cdN, reduceIte, reduceCtorEq, Nat.reduceEqDiff, Nat.reduceAdd, Nat.reduceLeDiff, Nat.reduceSub, Nat.reduceMul, Nat.reduceLT, Nat.reduceShiftRight, Nat.reduceMod, Int.reduceLE, Int.reduceLT, Int.reduceToNat, List.cons.injEq, cdB]
    refine uc.run yf xe qa (by kernel_rfl) (by kernel_rfl) ?_
    simp -implicitDefEqProofs only [cdA, go_sem, hst, cdN, reduceIte, reduceCtorEq, Nat.reduceEqDiff, Nat.reduceAdd, Nat.reduceLeDiff, Nat.reduceSub, Nat.reduceMul, Nat.reduceLT, Nat.reduceShiftRight, Nat.reduceMod, Int.reduceLE, Int.reduceLT, Int.reduceToNat, List.cons.injEq, cdB]
    exact hbad _ (by rw [uaJ, if_neg (fun h => h hok), if_pos hst]) hst
  refine wF xe (Nat.le_of_ble_eq_true rfl) ?_
  simp -implicitDefEqProofs only [cdA, go_sem, Go.Proofs.Tryz.f56, reduceIte, reduceCtorEq, Nat.reduceEqDiff, Nat.reduceAdd, Nat.reduceLeDiff, Nat.reduceSub, Nat.reduceMul, Nat.reduceLT, Nat.reduceShiftRight, Nat.reduceMod, Int.reduceLE, Int.reduceLT, Int.reduceToNat, List.cons.injEq, cdB]
  refine vj xe (Nat.le_of_ble_eq_true rfl) ?_
  simp -implicitDefEqProofs only [cdA, go_sem, Go.Proofs.Tryz.f140, hck, cdN, reduceIte, reduceCtorEq, Nat.reduceEqDiff, Nat.reduceAdd, Nat.reduceLeDiff, Nat.reduceSub, Nat.reduceMul, Nat.reduceLT, Nat.reduceShiftRight, Nat.reduceMod, Int.reduceLE, Int.reduceLT, Int.reduceToNat, List.cons.injEq, cdB]
  refine qan xe (Nat.le_of_ble_eq_true rfl) ?_
  simp -implicitDefEqProofs only [cdA, go_sem, Go.Proofs.Tryz.f141, reduceIte, reduceCtorEq, Nat.reduceEqDiff, Nat.reduceAdd, Nat.reduceLeDiff, Nat.reduceSub, Nat.reduceMul, Nat.reduceLT, Nat.reduceShiftRight, Nat.reduceMod, Int.reduceLE, Int.reduceLT, Int.reduceToNat, List.cons.injEq, cdB]
  have eF : vm v.f 6 c.id c.loc = vbt v c := rfl
  rw [eF]
  refine ⟨h, fun hfd => ?_, fun hfd => ?_⟩
  rotate_left 1
  · skip
    refine js xe (Nat.le_of_ble_eq_true rfl) ?_
    simp -implicitDefEqProofs only [cdA, go_sem, Go.Proofs.Tryz.f47, hfd, cdN, reduceIte, reduceCtorEq, Nat.reduceEqDiff, Nat.reduceAdd, Nat.reduceLeDiff, Nat.reduceSub, Nat.reduceMul, Nat.reduceLT, Nat.reduceShiftRight, Nat.reduceMod, Int.reduceLE, Int.reduceLT, Int.reduceToNat, List.cons.injEq, cdB]
    refine uc.run yf xe qa (by kernel_rfl) (by kernel_rfl) ?_
    simp -implicitDefEqProofs only [cdA, go_sem, hfd, cdN, reduceIte, reduceCtorEq, Nat.reduceEqDiff, Nat.reduceAdd, Nat.reduceLeDiff, Nat.reduceSub, Nat.reduceMul, Nat.reduceLT, Nat.reduceShiftRight, Nat.reduceMod, Int.reduceLE, Int.reduceLT, Int.reduceToNat, List.cons.injEq, cdB]
    exact hbad _ (by rw [uaJ, if_neg (fun h => h hok), if_neg (fun h => h hst)]) hfd
  have hsm : qv ⟨(qbb v c).1, v.w, v.i, v.p, (vbt v c).1, v.next, v.tick⟩ := by
    have h1 := xae hst
    have h2 := qo hok
    have h4 := qz (f := v.f) (k := 6) (a := c.id) (n := c.loc)
    refine ⟨by have := h1.1; show (qbb v c).1.length ≤ _; unfold qbb; omega, fun d hd => by have := (h1.2.1 d hd).2.2.1; omega, h2.2.2.1, h2.2.2.2.1, h2.2.2.2.2.1, by show (vbt v c).1.l.length ≤ _; unfold vbt; omega⟩
  have hfin : qx v c = (⟨(qbb v c).1, v.w, v.i, v.p, (vbt v c).1, v.next, v.tick⟩, 0) := by
    have : uaJ v c = 0 := by rw [uaJ, if_neg (fun h => h hok), if_neg (fun h => h hst)]; exact hfd
    rw [qx, if_pos this]
  refine js xe (Nat.le_of_ble_eq_true rfl) ?_
  simp -implicitDefEqProofs only [cdA, go_sem, Go.Proofs.Tryz.f47, hck, eq_true hsm, cdN, reduceIte, reduceCtorEq, Nat.reduceEqDiff, Nat.reduceAdd, Nat.reduceLeDiff, Nat.reduceSub, Nat.reduceMul, Nat.reduceLT, Nat.reduceShiftRight, Nat.reduceMod, Int.reduceLE, Int.reduceLT, Int.reduceToNat, List.cons.injEq, cdB]
  rw [hfin]
  exact ⟨⟨rfl, rfl, rfl, rfl, rfl, rfl, rfl, rfl⟩, rfl⟩
@[go_sem] def qaV (v : Wl) (c : Ch) : Prop := (v.f.next ≤ 18446744073709551615)
def xJ : List D → Option (Prop × D × Fr)
  | [.agg [.c (.sl z353), .c (.sl z354), .c (.sl z355), .c (.sl z356), .c (.int .u64 z358), .c (.sl z359), .c (.int .u64 z360), .c (.int .u64 z361)], .agg [.c (.int .u64 z363), .c (.int .u64 z364), .c (.int .u64 z365), .c (.int .u64 z366), .c (.int .u64 z367), .c (.sl z368), .c (.bool z369)]] => some (z353 = chs (xh z353) ∧ z354 = wts (jj z354) ∧ z355 = ivs (wj z355) ∧ z356 = pys (gj z356) ∧ z358 = (z358.toNat : Int) ∧ z359 = evs (uk z359) ∧ z360 = (z360.toNat : Int) ∧ z361 = (z361.toNat : Int) ∧ z363 = (z363.toNat : Int) ∧ z364 = (z364.toNat : Int) ∧ z365 = (z365.toNat : Int) ∧ z366 = (z366.toNat : Int) ∧ z367 = (z367.toNat : Int) ∧ z368 = hds (um z368) ∧ qaV (⟨(xh z353), (jj z354), (wj z355), (gj z356), (⟨z358.toNat, (uk z359)⟩ : Fd), z360.toNat, z361.toNat⟩ : Wl) (⟨z363.toNat, z364.toNat, z365.toNat, z366.toNat, z367.toNat, (um z368), z369⟩ : Ch), kaW (⟨(xh z353), (jj z354), (wj z355), (gj z356), (⟨z358.toNat, (uk z359)⟩ : Fd), z360.toNat, z361.toNat⟩ : Wl) (⟨z363.toNat, z364.toNat, z365.toNat, z366.toNat, z367.toNat, (um z368), z369⟩ : Ch), [])
  | _ => none
attribute [go_sem] xJ
theorem xW : ∀ rs p r fr, xJ rs = some (p, r, fr) → p → zg Tryz.prog 30 rs r fr := by
  intro rs p r fr h hp
  unfold xJ at h
  split at h <;> cases h
  obtain ⟨hc0, hc1, hc2, hc3, hc4, hc5, hc6, hc7, hc8, hc9, hc10, hc11, hc12, hc13, hp⟩ := hp
  rename_i z353 z354 z355 z356 z358 z359 z360 z361 z363 z364 z365 z366 z367 z368 z369
  obtain ⟨z353, rfl⟩ : ∃ m, z353 = chs m := ⟨_, hc0⟩
  obtain ⟨z354, rfl⟩ : ∃ m, z354 = wts m := ⟨_, hc1⟩
  obtain ⟨z355, rfl⟩ : ∃ m, z355 = ivs m := ⟨_, hc2⟩
  obtain ⟨z356, rfl⟩ : ∃ m, z356 = pys m := ⟨_, hc3⟩
  obtain ⟨z358, rfl⟩ : ∃ m : Nat, z358 = m := ⟨_, hc4⟩
  obtain ⟨z359, rfl⟩ : ∃ m, z359 = evs m := ⟨_, hc5⟩
  obtain ⟨z360, rfl⟩ : ∃ m : Nat, z360 = m := ⟨_, hc6⟩
  obtain ⟨z361, rfl⟩ : ∃ m : Nat, z361 = m := ⟨_, hc7⟩
  obtain ⟨z363, rfl⟩ : ∃ m : Nat, z363 = m := ⟨_, hc8⟩
  obtain ⟨z364, rfl⟩ : ∃ m : Nat, z364 = m := ⟨_, hc9⟩
  obtain ⟨z365, rfl⟩ : ∃ m : Nat, z365 = m := ⟨_, hc10⟩
  obtain ⟨z366, rfl⟩ : ∃ m : Nat, z366 = m := ⟨_, hc11⟩
  obtain ⟨z367, rfl⟩ : ∃ m : Nat, z367 = m := ⟨_, hc12⟩
  obtain ⟨z368, rfl⟩ : ∃ m, z368 = hds m := ⟨_, hc13⟩
  simp only [Int.toNat_natCast, xb, vb, ze, qc, jc, qd]
  simp only [Int.toNat_natCast, xb, vb, ze, qc, jc, qd, qaV] at hp
  exact va7 ⟨z353, z354, z355, z356, ⟨z358, z359⟩, z360, z361⟩ ⟨z363, z364, z365, z366, z367, z368, z369⟩ hp
end Dm
namespace Dm
open Go Go.Proofs Go.IntWalk
def gat (v : Wl) (id : Nat) (paid : Bool) : List Py × Int := jq v.p id paid
def yam (v : Wl) (id : Nat) (paid : Bool) : List Ch × Int := ((vi v.c id paid).1, (vi v.c id paid).2.2)
def gan (v : Wl) (id : Nat) (paid : Bool) : Fd × Nat × Int := vm v.f (if paid = true then 1 else 2) id (vi v.c id paid).2.1
def uW (v : Wl) (id : Nat) (paid : Bool) : Int := if ¬ okW v then 1 else if (gat v id paid).2 ≠ 0 then (gat v id paid).2 else if (yam v id paid).2 ≠ 0 then (yam v id paid).2 else (gan v id paid).2.2
def wq (v : Wl) (id : Nat) (paid : Bool) : Wl × Int := if uW v id paid = 0 then (⟨(yam v id paid).1, v.w, v.i, (gat v id paid).1, (gan v id paid).1, v.next, v.tick⟩, 0) else (yx, uW v id paid)
@[go_sem] def xbd (v : Wl) (id : Nat) (paid : Bool) : D := .tup [.agg [.sl (chs (wq v id paid).1.c), .sl (wts (wq v id paid).1.w), .sl (ivs (wq v id paid).1.i), .sl (pys (wq v id paid).1.p), .int .u64 (wq v id paid).1.f.next, .sl (evs (wq v id paid).1.f.l), .int .u64 (wq v id paid).1.next, .int .u64 (wq v id paid).1.tick], .int .i64 (wq v id paid).2]
@[go_sem] abbrev uc8 : FuncId := 15
@[go_sem] def bb6 : Tab := [(37, bh), (59, u6), (61, kQ), (142, wu), (119, gp)]
theorem ua : ya Tryz.prog bb6 := (ya.cons vg (ya.cons gaD (ya.cons xau (ya.cons gn (ya.cons yj ya.nil)))))
set_option maxRecDepth 8000 in
set_option maxHeartbeats 1000000 in
theorem jbj (v : Wl) (id : Nat) (paid : Bool) (h : v.f.next ≤ 18446744073709551615) : yb Tryz.prog 15 [.agg [.sl (chs v.c), .sl (wts v.w), .sl (ivs v.i), .sl (pys v.p), .c (.int .u64 (v.f.next : Int)), .sl (evs v.f.l), .c (.int .u64 (v.next : Int)), .c (.int .u64 (v.tick : Int))], .c (.int .u64 (id : Int)), .c (.bool paid)] (xbd v id paid) := by
  refine .of (wdi ua (Nat.le_of_ble_eq_true rfl) ?_)
  simp -implicitDefEqProofs only [cdA, go_sem, Go.Proofs.Tryz.f15, reduceIte, reduceCtorEq, Nat.reduceEqDiff, Nat.reduceAdd, Nat.reduceLeDiff, Nat.reduceSub, Nat.reduceMul, Nat.reduceLT, Nat.reduceShiftRight, Nat.reduceMod, Int.reduceLE, Int.reduceLT, Int.reduceToNat, List.cons.injEq, cdB]
  cases paid
  · skip
    refine qaX ua (Nat.le_of_ble_eq_true rfl) ?_
    simp -implicitDefEqProofs only [cdA, go_sem, Go.Proofs.Tryz.f45, reduceIte, reduceCtorEq, Nat.reduceEqDiff, Nat.reduceAdd, Nat.reduceLeDiff, Nat.reduceSub, Nat.reduceMul, Nat.reduceLT, Nat.reduceShiftRight, Nat.reduceMod, Int.reduceLE, Int.reduceLT, Int.reduceToNat, List.cons.injEq, cdB]
    refine uc.run yG ua qa (by kernel_rfl) (by kernel_rfl) ?_
    simp -implicitDefEqProofs only [cdA, go_sem, reduceIte, reduceCtorEq, Nat.reduceEqDiff, Nat.reduceAdd, Nat.reduceLeDiff, Nat.reduceSub, Nat.reduceMul, Nat.reduceLT, Nat.reduceShiftRight, Nat.reduceMod, Int.reduceLE, Int.reduceLT, Int.reduceToNat, List.cons.injEq, cdB]
    refine ⟨h, ?_⟩
    have hbad : ∀ e : Int, uW v id false = e → ¬ e = 0 → (chs (wq v id false).1.c = [] ∧ wts (wq v id false).1.w = [] ∧ ivs (wq v id false).1.i = [] ∧ pys (wq v id false).1.p = [] ∧ 0 = ((wq v id false).1.f.next : Int) ∧ evs (wq v id false).1.f.l = [] ∧ 0 = ((wq v id false).1.next : Int) ∧ 0 = ((wq v id false).1.tick : Int)) ∧ e = (wq v id false).2 := fun e h1 h2 => by
      have : wq v id false = (yx, e) := by rw [wq, if_neg (by rw [h1]; exact h2), h1]
      rw [this]; exact ⟨⟨rfl, rfl, rfl, rfl, rfl, rfl, rfl, rfl⟩, rfl⟩
    by_cases hok : okW v
    rotate_left 1
    · have hck : (bq v = 0) = False := eq_false fun h => hok (qm.1 h)
      have he : uW v id false = 1 := by rw [uW, if_pos hok]
      have hc1 : bq v = 1 := by rw [bq, if_neg hok]
      skip
      refine yaU ua (Nat.le_of_ble_eq_true rfl) ?_
      simp -implicitDefEqProofs only [cdA, go_sem, Go.Proofs.Tryz.f50, hck, cdN, reduceIte, reduceCtorEq, Nat.reduceEqDiff, Nat.reduceAdd, Nat.reduceLeDiff, Nat.reduceSub, Nat.reduceMul, Nat.reduceLT, Nat.reduceShiftRight, Nat.reduceMod, Int.reduceLE, Int.reduceLT, Int.reduceToNat, List.cons.injEq, cdB]
      refine vW ua (Nat.le_of_ble_eq_true rfl) ?_
      simp -implicitDefEqProofs only [cdA, go_sem, Go.Proofs.Tryz.f53, hck, cdN, reduceIte, reduceCtorEq, Nat.reduceEqDiff, Nat.reduceAdd, Nat.reduceLeDiff, Nat.reduceSub, Nat.reduceMul, Nat.reduceLT, Nat.reduceShiftRight, Nat.reduceMod, Int.reduceLE, Int.reduceLT, Int.reduceToNat, List.cons.injEq, cdB]
      refine wF ua (Nat.le_of_ble_eq_true rfl) ?_
      simp -implicitDefEqProofs only [cdA, go_sem, Go.Proofs.Tryz.f56, reduceIte, reduceCtorEq, Nat.reduceEqDiff, Nat.reduceAdd, Nat.reduceLeDiff, Nat.reduceSub, Nat.reduceMul, Nat.reduceLT, Nat.reduceShiftRight, Nat.reduceMod, Int.reduceLE, Int.reduceLT, Int.reduceToNat, List.cons.injEq, cdB]
      refine vj ua (Nat.le_of_ble_eq_true rfl) ?_
      simp -implicitDefEqProofs only [cdA, go_sem, Go.Proofs.Tryz.f140, hck, cdN, reduceIte, reduceCtorEq, Nat.reduceEqDiff, Nat.reduceAdd, Nat.reduceLeDiff, Nat.reduceSub, Nat.reduceMul, Nat.reduceLT, Nat.reduceShiftRight, Nat.reduceMod, Int.reduceLE, Int.reduceLT, Int.reduceToNat, List.cons.injEq, cdB]
      refine js ua (Nat.le_of_ble_eq_true rfl) ?_
      simp -implicitDefEqProofs only [cdA, go_sem, Go.Proofs.Tryz.f47, hck, cdN, reduceIte, reduceCtorEq, Nat.reduceEqDiff, Nat.reduceAdd, Nat.reduceLeDiff, Nat.reduceSub, Nat.reduceMul, Nat.reduceLT, Nat.reduceShiftRight, Nat.reduceMod, Int.reduceLE, Int.reduceLT, Int.reduceToNat, List.cons.injEq, cdB]
      refine uc.run yf ua qa (by kernel_rfl) (by kernel_rfl) ?_
      simp -implicitDefEqProofs only [cdA, go_sem, hck, cdN, reduceIte, reduceCtorEq, Nat.reduceEqDiff, Nat.reduceAdd, Nat.reduceLeDiff, Nat.reduceSub, Nat.reduceMul, Nat.reduceLT, Nat.reduceShiftRight, Nat.reduceMod, Int.reduceLE, Int.reduceLT, Int.reduceToNat, List.cons.injEq, cdB]
      exact hbad _ (he.trans hc1.symm) (by rw [hc1]; decide)
    have hck : (bq v = 0) = True := eq_true (qm.2 hok)
    refine yaU ua (Nat.le_of_ble_eq_true rfl) ?_
    simp -implicitDefEqProofs only [cdA, go_sem, Go.Proofs.Tryz.f50, hck, cdN, reduceIte, reduceCtorEq, Nat.reduceEqDiff, Nat.reduceAdd, Nat.reduceLeDiff, Nat.reduceSub, Nat.reduceMul, Nat.reduceLT, Nat.reduceShiftRight, Nat.reduceMod, Int.reduceLE, Int.reduceLT, Int.reduceToNat, List.cons.injEq, cdB]
    refine kc3 ua (Nat.le_of_ble_eq_true rfl) ?_
    simp -implicitDefEqProofs only [cdA, go_sem, Go.Proofs.Tryz.f58, reduceIte, reduceCtorEq, Nat.reduceEqDiff, Nat.reduceAdd, Nat.reduceLeDiff, Nat.reduceSub, Nat.reduceMul, Nat.reduceLT, Nat.reduceShiftRight, Nat.reduceMod, Int.reduceLE, Int.reduceLT, Int.reduceToNat, List.cons.injEq, cdB]
    have eP : jq v.p id false = gat v id false := rfl
    rw [eP]
    refine ⟨fun hs0 => ?_, fun hs0 => ?_⟩
    rotate_left 1
    · skip
      refine vW ua (Nat.le_of_ble_eq_true rfl) ?_
      simp -implicitDefEqProofs only [cdA, go_sem, Go.Proofs.Tryz.f53, hs0, cdN, reduceIte, reduceCtorEq, Nat.reduceEqDiff, Nat.reduceAdd, Nat.reduceLeDiff, Nat.reduceSub, Nat.reduceMul, Nat.reduceLT, Nat.reduceShiftRight, Nat.reduceMod, Int.reduceLE, Int.reduceLT, Int.reduceToNat, List.cons.injEq, cdB]
      refine wF ua (Nat.le_of_ble_eq_true rfl) ?_
      simp -implicitDefEqProofs only [cdA, go_sem, Go.Proofs.Tryz.f56, reduceIte, reduceCtorEq, Nat.reduceEqDiff, Nat.reduceAdd, Nat.reduceLeDiff, Nat.reduceSub, Nat.reduceMul, Nat.reduceLT, Nat.reduceShiftRight, Nat.reduceMod, Int.reduceLE, Int.reduceLT, Int.reduceToNat, List.cons.injEq, cdB]
      refine vj ua (Nat.le_of_ble_eq_true rfl) ?_
      simp -implicitDefEqProofs only [cdA, go_sem, Go.Proofs.Tryz.f140, hs0, cdN, reduceIte, reduceCtorEq, Nat.reduceEqDiff, Nat.reduceAdd, Nat.reduceLeDiff, Nat.reduceSub, Nat.reduceMul, Nat.reduceLT, Nat.reduceShiftRight, Nat.reduceMod, Int.reduceLE, Int.reduceLT, Int.reduceToNat, List.cons.injEq, cdB]
      refine js ua (Nat.le_of_ble_eq_true rfl) ?_
      simp -implicitDefEqProofs only [cdA, go_sem, Go.Proofs.Tryz.f47, hs0, cdN, reduceIte, reduceCtorEq, Nat.reduceEqDiff, Nat.reduceAdd, Nat.reduceLeDiff, Nat.reduceSub, Nat.reduceMul, Nat.reduceLT, Nat.reduceShiftRight, Nat.reduceMod, Int.reduceLE, Int.reduceLT, Int.reduceToNat, List.cons.injEq, cdB]
      refine uc.run yf ua qa (by kernel_rfl) (by kernel_rfl) ?_
      simp -implicitDefEqProofs only [cdA, go_sem, hs0, cdN, reduceIte, reduceCtorEq, Nat.reduceEqDiff, Nat.reduceAdd, Nat.reduceLeDiff, Nat.reduceSub, Nat.reduceMul, Nat.reduceLT, Nat.reduceShiftRight, Nat.reduceMod, Int.reduceLE, Int.reduceLT, Int.reduceToNat, List.cons.injEq, cdB]
      exact hbad _ (by rw [uW, if_neg (fun h => h hok), if_pos hs0]) hs0
    refine vW ua (Nat.le_of_ble_eq_true rfl) ?_
    simp -implicitDefEqProofs only [cdA, go_sem, Go.Proofs.Tryz.f53, hck, cdN, reduceIte, reduceCtorEq, Nat.reduceEqDiff, Nat.reduceAdd, Nat.reduceLeDiff, Nat.reduceSub, Nat.reduceMul, Nat.reduceLT, Nat.reduceShiftRight, Nat.reduceMod, Int.reduceLE, Int.reduceLT, Int.reduceToNat, List.cons.injEq, cdB]
    refine bcX ua (Nat.le_of_ble_eq_true rfl) ?_
    simp -implicitDefEqProofs only [cdA, go_sem, Go.Proofs.Tryz.f60, reduceIte, reduceCtorEq, Nat.reduceEqDiff, Nat.reduceAdd, Nat.reduceLeDiff, Nat.reduceSub, Nat.reduceMul, Nat.reduceLT, Nat.reduceShiftRight, Nat.reduceMod, Int.reduceLE, Int.reduceLT, Int.reduceToNat, List.cons.injEq, cdB]
    have eC1 : (vi v.c id false).1 = (yam v id false).1 := rfl
    have eC2 : (vi v.c id false).2.2 = (yam v id false).2 := rfl
    rw [eC1, eC2]
    refine ⟨fun hs1 => ?_, fun hs1 => ?_⟩
    rotate_left 1
    · skip
      refine wF ua (Nat.le_of_ble_eq_true rfl) ?_
      simp -implicitDefEqProofs only [cdA, go_sem, Go.Proofs.Tryz.f56, reduceIte, reduceCtorEq, Nat.reduceEqDiff, Nat.reduceAdd, Nat.reduceLeDiff, Nat.reduceSub, Nat.reduceMul, Nat.reduceLT, Nat.reduceShiftRight, Nat.reduceMod, Int.reduceLE, Int.reduceLT, Int.reduceToNat, List.cons.injEq, cdB]
      refine vj ua (Nat.le_of_ble_eq_true rfl) ?_
      simp -implicitDefEqProofs only [cdA, go_sem, Go.Proofs.Tryz.f140, hs1, cdN, reduceIte, reduceCtorEq, Nat.reduceEqDiff, Nat.reduceAdd, Nat.reduceLeDiff, Nat.reduceSub, Nat.reduceMul, Nat.reduceLT, Nat.reduceShiftRight, Nat.reduceMod, Int.reduceLE, Int.reduceLT, Int.reduceToNat, List.cons.injEq, cdB]
      refine js ua (Nat.le_of_ble_eq_true rfl) ?_
      simp -implicitDefEqProofs only [cdA, go_sem, Go.Proofs.Tryz.f47, hs1, cdN, reduceIte, reduceCtorEq, Nat.reduceEqDiff, Nat.reduceAdd, Nat.reduceLeDiff, Nat.reduceSub, Nat.reduceMul, Nat.reduceLT, Nat.reduceShiftRight, Nat.reduceMod, Int.reduceLE, Int.reduceLT, Int.reduceToNat, List.cons.injEq, cdB]
      refine uc.run yf ua qa (by kernel_rfl) (by kernel_rfl) ?_
      simp -implicitDefEqProofs only [cdA, go_sem, hs1, cdN, reduceIte, reduceCtorEq, Nat.reduceEqDiff, Nat.reduceAdd, Nat.reduceLeDiff, Nat.reduceSub, Nat.reduceMul, Nat.reduceLT, Nat.reduceShiftRight, Nat.reduceMod, Int.reduceLE, Int.reduceLT, Int.reduceToNat, List.cons.injEq, cdB]
      exact hbad _ (by rw [uW, if_neg (fun h => h hok), if_neg (fun h => h hs0), if_pos hs1]) hs1
    refine wF ua (Nat.le_of_ble_eq_true rfl) ?_
    simp -implicitDefEqProofs only [cdA, go_sem, Go.Proofs.Tryz.f56, reduceIte, reduceCtorEq, Nat.reduceEqDiff, Nat.reduceAdd, Nat.reduceLeDiff, Nat.reduceSub, Nat.reduceMul, Nat.reduceLT, Nat.reduceShiftRight, Nat.reduceMod, Int.reduceLE, Int.reduceLT, Int.reduceToNat, List.cons.injEq, cdB]
    refine vj ua (Nat.le_of_ble_eq_true rfl) ?_
    simp -implicitDefEqProofs only [cdA, go_sem, Go.Proofs.Tryz.f140, hck, cdN, reduceIte, reduceCtorEq, Nat.reduceEqDiff, Nat.reduceAdd, Nat.reduceLeDiff, Nat.reduceSub, Nat.reduceMul, Nat.reduceLT, Nat.reduceShiftRight, Nat.reduceMod, Int.reduceLE, Int.reduceLT, Int.reduceToNat, List.cons.injEq, cdB]
    refine qan ua (Nat.le_of_ble_eq_true rfl) ?_
    simp -implicitDefEqProofs only [cdA, go_sem, Go.Proofs.Tryz.f141, reduceIte, reduceCtorEq, Nat.reduceEqDiff, Nat.reduceAdd, Nat.reduceLeDiff, Nat.reduceSub, Nat.reduceMul, Nat.reduceLT, Nat.reduceShiftRight, Nat.reduceMod, Int.reduceLE, Int.reduceLT, Int.reduceToNat, List.cons.injEq, cdB]
    have eF : vm v.f 2 id (vi v.c id false).2.1 = gan v id false := rfl
    rw [eF]
    refine ⟨h, fun hfd => ?_, fun hfd => ?_⟩
    rotate_left 1
    · skip
      refine js ua (Nat.le_of_ble_eq_true rfl) ?_
      simp -implicitDefEqProofs only [cdA, go_sem, Go.Proofs.Tryz.f47, hfd, cdN, reduceIte, reduceCtorEq, Nat.reduceEqDiff, Nat.reduceAdd, Nat.reduceLeDiff, Nat.reduceSub, Nat.reduceMul, Nat.reduceLT, Nat.reduceShiftRight, Nat.reduceMod, Int.reduceLE, Int.reduceLT, Int.reduceToNat, List.cons.injEq, cdB]
      refine uc.run yf ua qa (by kernel_rfl) (by kernel_rfl) ?_
      simp -implicitDefEqProofs only [cdA, go_sem, hfd, cdN, reduceIte, reduceCtorEq, Nat.reduceEqDiff, Nat.reduceAdd, Nat.reduceLeDiff, Nat.reduceSub, Nat.reduceMul, Nat.reduceLT, Nat.reduceShiftRight, Nat.reduceMod, Int.reduceLE, Int.reduceLT, Int.reduceToNat, List.cons.injEq, cdB]
      exact hbad _ (by rw [uW, if_neg (fun h => h hok), if_neg (fun h => h hs0), if_neg (fun h => h hs1)]) hfd
    have hsm : qv ⟨(yam v id false).1, v.w, v.i, (gat v id false).1, (gan v id false).1, v.next, v.tick⟩ := by
      have h2 := qo hok
      have h50 := gaz hs0
      have h51 := wan hs1
      exact ⟨(by have := h51.1; show (yam v id false).1.length ≤ _; unfold yam; (try dsimp only); omega), (fun d hd => by have := (h51.2.1 d hd).2.2.1; omega), h2.2.2.1, h2.2.2.2.1, (by show (gat v id false).1.length ≤ _; unfold gat; omega), (by show (gan v id false).1.l.length ≤ _; unfold gan; exact Nat.le_trans qz (by decide))⟩
    have hfin : wq v id false = (⟨(yam v id false).1, v.w, v.i, (gat v id false).1, (gan v id false).1, v.next, v.tick⟩, 0) := by
      have : uW v id false = 0 := by rw [uW, if_neg (fun h => h hok), if_neg (fun h => h hs0), if_neg (fun h => h hs1)]; exact hfd
      rw [wq, if_pos this]
    refine js ua (Nat.le_of_ble_eq_true rfl) ?_
    simp -implicitDefEqProofs only [cdA, go_sem, Go.Proofs.Tryz.f47, hck, eq_true hsm, cdN, reduceIte, reduceCtorEq, Nat.reduceEqDiff, Nat.reduceAdd, Nat.reduceLeDiff, Nat.reduceSub, Nat.reduceMul, Nat.reduceLT, Nat.reduceShiftRight, Nat.reduceMod, Int.reduceLE, Int.reduceLT, Int.reduceToNat, List.cons.injEq, cdB]
    rw [hfin]
    exact ⟨⟨rfl, rfl, rfl, rfl, rfl, rfl, rfl, rfl⟩, rfl⟩
  · skip
    refine qaX ua (Nat.le_of_ble_eq_true rfl) ?_
    simp -implicitDefEqProofs only [cdA, go_sem, Go.Proofs.Tryz.f45, reduceIte, reduceCtorEq, Nat.reduceEqDiff, Nat.reduceAdd, Nat.reduceLeDiff, Nat.reduceSub, Nat.reduceMul, Nat.reduceLT, Nat.reduceShiftRight, Nat.reduceMod, Int.reduceLE, Int.reduceLT, Int.reduceToNat, List.cons.injEq, cdB]
    refine uc.run yG ua qa (by kernel_rfl) (by kernel_rfl) ?_
    simp -implicitDefEqProofs only [cdA, go_sem, reduceIte, reduceCtorEq, Nat.reduceEqDiff, Nat.reduceAdd, Nat.reduceLeDiff, Nat.reduceSub, Nat.reduceMul, Nat.reduceLT, Nat.reduceShiftRight, Nat.reduceMod, Int.reduceLE, Int.reduceLT, Int.reduceToNat, List.cons.injEq, cdB]
    refine ⟨h, ?_⟩
    have hbad : ∀ e : Int, uW v id true = e → ¬ e = 0 → (chs (wq v id true).1.c = [] ∧ wts (wq v id true).1.w = [] ∧ ivs (wq v id true).1.i = [] ∧ pys (wq v id true).1.p = [] ∧ 0 = ((wq v id true).1.f.next : Int) ∧ evs (wq v id true).1.f.l = [] ∧ 0 = ((wq v id true).1.next : Int) ∧ 0 = ((wq v id true).1.tick : Int)) ∧ e = (wq v id true).2 := fun e h1 h2 => by
      have : wq v id true = (yx, e) := by rw [wq, if_neg (by rw [h1]; exact h2), h1]
      rw [this]; exact ⟨⟨rfl, rfl, rfl, rfl, rfl, rfl, rfl, rfl⟩, rfl⟩
    by_cases hok : okW v
    rotate_left 1
    · have hck : (bq v = 0) = False := eq_false fun h => hok (qm.1 h)
      have he : uW v id true = 1 := by rw [uW, if_pos hok]
      have hc1 : bq v = 1 := by rw [bq, if_neg hok]
      skip
      refine yaU ua (Nat.le_of_ble_eq_true rfl) ?_
      simp -implicitDefEqProofs only [cdA, go_sem, Go.Proofs.Tryz.f50, hck, cdN, reduceIte, reduceCtorEq, Nat.reduceEqDiff, Nat.reduceAdd, Nat.reduceLeDiff, Nat.reduceSub, Nat.reduceMul, Nat.reduceLT, Nat.reduceShiftRight, Nat.reduceMod, Int.reduceLE, Int.reduceLT, Int.reduceToNat, List.cons.injEq, cdB]
      refine vW ua (Nat.le_of_ble_eq_true rfl) ?_
      simp -implicitDefEqProofs only [cdA, go_sem, Go.Proofs.Tryz.f53, hck, cdN, reduceIte, reduceCtorEq, Nat.reduceEqDiff, Nat.reduceAdd, Nat.reduceLeDiff, Nat.reduceSub, Nat.reduceMul, Nat.reduceLT, Nat.reduceShiftRight, Nat.reduceMod, Int.reduceLE, Int.reduceLT, Int.reduceToNat, List.cons.injEq, cdB]
      refine wF ua (Nat.le_of_ble_eq_true rfl) ?_
      simp -implicitDefEqProofs only [cdA, go_sem, Go.Proofs.Tryz.f56, reduceIte, reduceCtorEq, Nat.reduceEqDiff, Nat.reduceAdd, Nat.reduceLeDiff, Nat.reduceSub, Nat.reduceMul, Nat.reduceLT, Nat.reduceShiftRight, Nat.reduceMod, Int.reduceLE, Int.reduceLT, Int.reduceToNat, List.cons.injEq, cdB]
      refine vj ua (Nat.le_of_ble_eq_true rfl) ?_
      simp -implicitDefEqProofs only [cdA, go_sem, Go.Proofs.Tryz.f140, hck, cdN, reduceIte, reduceCtorEq, Nat.reduceEqDiff, Nat.reduceAdd, Nat.reduceLeDiff, Nat.reduceSub, Nat.reduceMul, Nat.reduceLT, Nat.reduceShiftRight, Nat.reduceMod, Int.reduceLE, Int.reduceLT, Int.reduceToNat, List.cons.injEq, cdB]
      refine js ua (Nat.le_of_ble_eq_true rfl) ?_
      simp -implicitDefEqProofs only [cdA, go_sem, Go.Proofs.Tryz.f47, hck, cdN, reduceIte, reduceCtorEq, Nat.reduceEqDiff, Nat.reduceAdd, Nat.reduceLeDiff, Nat.reduceSub, Nat.reduceMul, Nat.reduceLT, Nat.reduceShiftRight, Nat.reduceMod, Int.reduceLE, Int.reduceLT, Int.reduceToNat, List.cons.injEq, cdB]
      refine uc.run yf ua qa (by kernel_rfl) (by kernel_rfl) ?_
      simp -implicitDefEqProofs only [cdA, go_sem, hck, cdN, reduceIte, reduceCtorEq, Nat.reduceEqDiff, Nat.reduceAdd, Nat.reduceLeDiff, Nat.reduceSub, Nat.reduceMul, Nat.reduceLT, Nat.reduceShiftRight, Nat.reduceMod, Int.reduceLE, Int.reduceLT, Int.reduceToNat, List.cons.injEq, cdB]
      exact hbad _ (he.trans hc1.symm) (by rw [hc1]; decide)
    have hck : (bq v = 0) = True := eq_true (qm.2 hok)
    refine yaU ua (Nat.le_of_ble_eq_true rfl) ?_
    simp -implicitDefEqProofs only [cdA, go_sem, Go.Proofs.Tryz.f50, hck, cdN, reduceIte, reduceCtorEq, Nat.reduceEqDiff, Nat.reduceAdd, Nat.reduceLeDiff, Nat.reduceSub, Nat.reduceMul, Nat.reduceLT, Nat.reduceShiftRight, Nat.reduceMod, Int.reduceLE, Int.reduceLT, Int.reduceToNat, List.cons.injEq, cdB]
    refine kc3 ua (Nat.le_of_ble_eq_true rfl) ?_
    simp -implicitDefEqProofs only [cdA, go_sem, Go.Proofs.Tryz.f58, reduceIte, reduceCtorEq, Nat.reduceEqDiff, Nat.reduceAdd, Nat.reduceLeDiff, Nat.reduceSub, Nat.reduceMul, Nat.reduceLT, Nat.reduceShiftRight, Nat.reduceMod, Int.reduceLE, Int.reduceLT, Int.reduceToNat, List.cons.injEq, cdB]
    have eP : jq v.p id true = gat v id true := rfl
    rw [eP]
    refine ⟨fun hs0 => ?_, fun hs0 => ?_⟩
    rotate_left 1
    · skip
      refine vW ua (Nat.le_of_ble_eq_true rfl) ?_
      simp -implicitDefEqProofs only [cdA, go_sem, Go.Proofs.Tryz.f53, hs0, cdN, reduceIte, reduceCtorEq, Nat.reduceEqDiff, Nat.reduceAdd, Nat.reduceLeDiff, Nat.reduceSub, Nat.reduceMul, Nat.reduceLT, Nat.reduceShiftRight, Nat.reduceMod, Int.reduceLE, Int.reduceLT, Int.reduceToNat, List.cons.injEq, cdB]
      refine wF ua (Nat.le_of_ble_eq_true rfl) ?_
      simp -implicitDefEqProofs only [cdA, go_sem, Go.Proofs.Tryz.f56, reduceIte, reduceCtorEq, Nat.reduceEqDiff, Nat.reduceAdd, Nat.reduceLeDiff, Nat.reduceSub, Nat.reduceMul, Nat.reduceLT, Nat.reduceShiftRight, Nat.reduceMod, Int.reduceLE, Int.reduceLT, Int.reduceToNat, List.cons.injEq, cdB]
      refine vj ua (Nat.le_of_ble_eq_true rfl) ?_
      simp -implicitDefEqProofs only [cdA, go_sem, Go.Proofs.Tryz.f140, hs0, cdN, reduceIte, reduceCtorEq, Nat.reduceEqDiff, Nat.reduceAdd, Nat.reduceLeDiff, Nat.reduceSub, Nat.reduceMul, Nat.reduceLT, Nat.reduceShiftRight, Nat.reduceMod, Int.reduceLE, Int.reduceLT, Int.reduceToNat, List.cons.injEq, cdB]
      refine js ua (Nat.le_of_ble_eq_true rfl) ?_
      simp -implicitDefEqProofs only [cdA, go_sem, Go.Proofs.Tryz.f47, hs0, cdN, reduceIte, reduceCtorEq, Nat.reduceEqDiff, Nat.reduceAdd, Nat.reduceLeDiff, Nat.reduceSub, Nat.reduceMul, Nat.reduceLT, Nat.reduceShiftRight, Nat.reduceMod, Int.reduceLE, Int.reduceLT, Int.reduceToNat, List.cons.injEq, cdB]
      refine uc.run yf ua qa (by kernel_rfl) (by kernel_rfl) ?_
      simp -implicitDefEqProofs only [cdA, go_sem, hs0, cdN, reduceIte, reduceCtorEq, Nat.reduceEqDiff, Nat.reduceAdd, Nat.reduceLeDiff, Nat.reduceSub, Nat.reduceMul, Nat.reduceLT, Nat.reduceShiftRight, Nat.reduceMod, Int.reduceLE, Int.reduceLT, Int.reduceToNat, List.cons.injEq, cdB]
      exact hbad _ (by rw [uW, if_neg (fun h => h hok), if_pos hs0]) hs0
    refine vW ua (Nat.le_of_ble_eq_true rfl) ?_
    simp -implicitDefEqProofs only [cdA, go_sem, Go.Proofs.Tryz.f53, hck, cdN, reduceIte, reduceCtorEq, Nat.reduceEqDiff, Nat.reduceAdd, Nat.reduceLeDiff, Nat.reduceSub, Nat.reduceMul, Nat.reduceLT, Nat.reduceShiftRight, Nat.reduceMod, Int.reduceLE, Int.reduceLT, Int.reduceToNat, List.cons.injEq, cdB]
    refine bcX ua (Nat.le_of_ble_eq_true rfl) ?_
    simp -implicitDefEqProofs only [cdA, go_sem, Go.Proofs.Tryz.f60, reduceIte, reduceCtorEq, Nat.reduceEqDiff, Nat.reduceAdd, Nat.reduceLeDiff, Nat.reduceSub, Nat.reduceMul, Nat.reduceLT, Nat.reduceShiftRight, Nat.reduceMod, Int.reduceLE, Int.reduceLT, Int.reduceToNat, List.cons.injEq, cdB]
    have eC1 : (vi v.c id true).1 = (yam v id true).1 := rfl
    have eC2 : (vi v.c id true).2.2 = (yam v id true).2 := rfl
    rw [eC1, eC2]
    refine ⟨fun hs1 => ?_, fun hs1 => ?_⟩
    rotate_left 1
    · skip
      refine wF ua (Nat.le_of_ble_eq_true rfl) ?_
      simp -implicitDefEqProofs only [cdA, go_sem, Go.Proofs.Tryz.f56, reduceIte, reduceCtorEq, Nat.reduceEqDiff, Nat.reduceAdd, Nat.reduceLeDiff, Nat.reduceSub, Nat.reduceMul, Nat.reduceLT, Nat.reduceShiftRight, Nat.reduceMod, Int.reduceLE, Int.reduceLT, Int.reduceToNat, List.cons.injEq, cdB]
      refine vj ua (Nat.le_of_ble_eq_true rfl) ?_
      simp -implicitDefEqProofs only [cdA, go_sem, Go.Proofs.Tryz.f140, hs1, cdN, reduceIte, reduceCtorEq, Nat.reduceEqDiff, Nat.reduceAdd, Nat.reduceLeDiff, Nat.reduceSub, Nat.reduceMul, Nat.reduceLT, Nat.reduceShiftRight, Nat.reduceMod, Int.reduceLE, Int.reduceLT, Int.reduceToNat, List.cons.injEq, cdB]
      refine js ua (Nat.le_of_ble_eq_true rfl) ?_
      simp -implicitDefEqProofs only [cdA, go_sem, Go.Proofs.Tryz.f47, hs1, cdN, reduceIte, reduceCtorEq, Nat.reduceEqDiff, Nat.reduceAdd, Nat.reduceLeDiff, Nat.reduceSub, Nat.reduceMul, Nat.reduceLT, Nat.reduceShiftRight, Nat.reduceMod, Int.reduceLE, Int.reduceLT, Int.reduceToNat, List.cons.injEq, cdB]
      refine uc.run yf ua qa (by kernel_rfl) (by kernel_rfl) ?_
      simp -implicitDefEqProofs only [cdA, go_sem, hs1, cdN, reduceIte, reduceCtorEq, Nat.reduceEqDiff, Nat.reduceAdd, Nat.reduceLeDiff, Nat.reduceSub, Nat.reduceMul, Nat.reduceLT, Nat.reduceShiftRight, Nat.reduceMod, Int.reduceLE, Int.reduceLT, Int.reduceToNat, List.cons.injEq, cdB]
      exact hbad _ (by rw [uW, if_neg (fun h => h hok), if_neg (fun h => h hs0), if_pos hs1]) hs1
    refine wF ua (Nat.le_of_ble_eq_true rfl) ?_
    simp -implicitDefEqProofs only [cdA, go_sem, Go.Proofs.Tryz.f56, reduceIte, reduceCtorEq, Nat.reduceEqDiff, Nat.reduceAdd, Nat.reduceLeDiff, Nat.reduceSub, Nat.reduceMul, Nat.reduceLT, Nat.reduceShiftRight, Nat.reduceMod, Int.reduceLE, Int.reduceLT, Int.reduceToNat, List.cons.injEq, cdB]
    refine vj ua (Nat.le_of_ble_eq_true rfl) ?_
    simp -implicitDefEqProofs only [cdA, go_sem, Go.Proofs.Tryz.f140, hck, cdN, reduceIte, reduceCtorEq, Nat.reduceEqDiff, Nat.reduceAdd, Nat.reduceLeDiff, Nat.reduceSub, Nat.reduceMul, Nat.reduceLT, Nat.reduceShiftRight, Nat.reduceMod, Int.reduceLE, Int.reduceLT, Int.reduceToNat, List.cons.injEq, cdB]
    refine qan ua (Nat.le_of_ble_eq_true rfl) ?_
    simp -implicitDefEqProofs only [cdA, go_sem, Go.Proofs.Tryz.f141, reduceIte, reduceCtorEq, Nat.reduceEqDiff, Nat.reduceAdd, Nat.reduceLeDiff, Nat.reduceSub, Nat.reduceMul, Nat.reduceLT, Nat.reduceShiftRight, Nat.reduceMod, Int.reduceLE, Int.reduceLT, Int.reduceToNat, List.cons.injEq, cdB]
    have eF : vm v.f 1 id (vi v.c id true).2.1 = gan v id true := rfl
    rw [eF]
    refine ⟨h, fun hfd => ?_, fun hfd => ?_⟩
    rotate_left 1
    · skip
      refine js ua (Nat.le_of_ble_eq_true rfl) ?_
      simp -implicitDefEqProofs only [cdA, go_sem, Go.Proofs.Tryz.f47, hfd, cdN, reduceIte, reduceCtorEq, Nat.reduceEqDiff, Nat.reduceAdd, Nat.reduceLeDiff, Nat.reduceSub, Nat.reduceMul, Nat.reduceLT, Nat.reduceShiftRight, Nat.reduceMod, Int.reduceLE, Int.reduceLT, Int.reduceToNat, List.cons.injEq, cdB]
      refine uc.run yf ua qa (by kernel_rfl) (by kernel_rfl) ?_
      simp -implicitDefEqProofs only [cdA, go_sem, hfd, cdN, reduceIte, reduceCtorEq, Nat.reduceEqDiff, Nat.reduceAdd, Nat.reduceLeDiff, Nat.reduceSub, Nat.reduceMul, Nat.reduceLT, Nat.reduceShiftRight, Nat.reduceMod, Int.reduceLE, Int.reduceLT, Int.reduceToNat, List.cons.injEq, cdB]
      exact hbad _ (by rw [uW, if_neg (fun h => h hok), if_neg (fun h => h hs0), if_neg (fun h => h hs1)]) hfd
    have hsm : qv ⟨(yam v id true).1, v.w, v.i, (gat v id true).1, (gan v id true).1, v.next, v.tick⟩ := by
      have h2 := qo hok
      have h50 := gaz hs0
      have h51 := wan hs1
      exact ⟨(by have := h51.1; show (yam v id true).1.length ≤ _; unfold yam; (try dsimp only); omega), (fun d hd => by have := (h51.2.1 d hd).2.2.1; omega), h2.2.2.1, h2.2.2.2.1, (by show (gat v id true).1.length ≤ _; unfold gat; omega), (by show (gan v id true).1.l.length ≤ _; unfold gan; exact Nat.le_trans qz (by decide))⟩
    have hfin : wq v id true = (⟨(yam v id true).1, v.w, v.i, (gat v id true).1, (gan v id true).1, v.next, v.tick⟩, 0) := by
      have : uW v id true = 0 := by rw [uW, if_neg (fun h => h hok), if_neg (fun h => h hs0), if_neg (fun h => h hs1)]; exact hfd
      rw [wq, if_pos this]
    refine js ua (Nat.le_of_ble_eq_true rfl) ?_
    simp -implicitDefEqProofs only [cdA, go_sem, Go.Proofs.Tryz.f47, hck, eq_true hsm, cdN, reduceIte, reduceCtorEq, Nat.reduceEqDiff, Nat.reduceAdd, Nat.reduceLeDiff, Nat.reduceSub, Nat.reduceMul, Nat.reduceLT, Nat.reduceShiftRight, Nat.reduceMod, Int.reduceLE, Int.reduceLT, Int.reduceToNat, List.cons.injEq, cdB]
    rw [hfin]
    exact ⟨⟨rfl, rfl, rfl, rfl, rfl, rfl, rfl, rfl⟩, rfl⟩
@[go_sem] def gbe (v : Wl) (id : Nat) (paid : Bool) : Prop := (v.f.next ≤ 18446744073709551615)
def vS : List D → Option (Prop × D × Fr)
  | [.agg [.c (.sl z2), .c (.sl z3), .c (.sl z4), .c (.sl z5), .c (.int .u64 z7), .c (.sl z8), .c (.int .u64 z9), .c (.int .u64 z10)], .c (.int .u64 z11), .c (.bool z12)] => some (z2 = chs (xh z2) ∧ z3 = wts (jj z3) ∧ z4 = ivs (wj z4) ∧ z5 = pys (gj z5) ∧ z7 = (z7.toNat : Int) ∧ z8 = evs (uk z8) ∧ z9 = (z9.toNat : Int) ∧ z10 = (z10.toNat : Int) ∧ z11 = (z11.toNat : Int) ∧ gbe (⟨(xh z2), (jj z3), (wj z4), (gj z5), (⟨z7.toNat, (uk z8)⟩ : Fd), z9.toNat, z10.toNat⟩ : Wl) z11.toNat z12, xbd (⟨(xh z2), (jj z3), (wj z4), (gj z5), (⟨z7.toNat, (uk z8)⟩ : Fd), z9.toNat, z10.toNat⟩ : Wl) z11.toNat z12, [])
  | _ => none
attribute [go_sem] vS
theorem xZ : ∀ rs p r fr, vS rs = some (p, r, fr) → p → zg Tryz.prog 15 rs r fr := by
  intro rs p r fr h hp
  unfold vS at h
  split at h <;> cases h
  obtain ⟨hc0, hc1, hc2, hc3, hc4, hc5, hc6, hc7, hc8, hp⟩ := hp
  rename_i z2 z3 z4 z5 z7 z8 z9 z10 z11 z12
  obtain ⟨z2, rfl⟩ : ∃ m, z2 = chs m := ⟨_, hc0⟩
  obtain ⟨z3, rfl⟩ : ∃ m, z3 = wts m := ⟨_, hc1⟩
  obtain ⟨z4, rfl⟩ : ∃ m, z4 = ivs m := ⟨_, hc2⟩
  obtain ⟨z5, rfl⟩ : ∃ m, z5 = pys m := ⟨_, hc3⟩
  obtain ⟨z7, rfl⟩ : ∃ m : Nat, z7 = m := ⟨_, hc4⟩
  obtain ⟨z8, rfl⟩ : ∃ m, z8 = evs m := ⟨_, hc5⟩
  obtain ⟨z9, rfl⟩ : ∃ m : Nat, z9 = m := ⟨_, hc6⟩
  obtain ⟨z10, rfl⟩ : ∃ m : Nat, z10 = m := ⟨_, hc7⟩
  obtain ⟨z11, rfl⟩ : ∃ m : Nat, z11 = m := ⟨_, hc8⟩
  simp only [Int.toNat_natCast, xb, vb, qc, jc, qd]
  simp only [Int.toNat_natCast, xb, vb, qc, jc, qd, gbe] at hp
  exact jbj ⟨z2, z3, z4, z5, ⟨z7, z8⟩, z9, z10⟩ z11 z12 hp
end Dm
namespace Dm
open Go Go.Proofs Go.IntWalk
theorem uaN {f : Fd} {k : Int} {a n : Nat} (h : (vm f k a n).2.2 = 0) : (vm f k a n).1.next = f.next + 1 ∧ f.next ≠ MM ∧ (vm f k a n).1.l.getLast? = some ⟨f.next, k, a, n⟩ := by
  unfold vm at h ⊢
  split at h
  rotate_left 1
  · cases h
  rename_i h1
  split at h
  · cases h
  rename_i h2
  rw [if_pos h1, if_neg h2]
  have h3 := h1.1.2.2.1
  refine ⟨rfl, h2, ?_⟩
  dsimp only
  rw [List.getLast?_drop, if_neg (by rw [List.length_append, List.length_singleton]; omega), List.getLast?_concat]
theorem jbe {v : Wl} {id : Nat} {paid : Bool} : (wq v id paid).2 = uW v id paid := by
  unfold wq
  split
  · rename_i h; exact h.symm
  · rfl
theorem bbL {v : Wl} {id : Nat} {paid : Bool} (h : uW v id paid = 0) : okW v ∧ (gat v id paid).2 = 0 ∧ (yam v id paid).2 = 0 ∧ (gan v id paid).2.2 = 0 := by
  unfold uW at h
  split at h
  · cases h
  rename_i h1
  split at h
  · rename_i h2; exact absurd h h2
  rename_i h2
  split at h
  · rename_i h3; exact absurd h h3
  rename_i h3
  exact ⟨Decidable.byContradiction h1, Decidable.byContradiction h2, Decidable.byContradiction h3, h⟩
theorem jbl {l : List Py} {k : Nat} (h : ∀ x ∈ l, x.id < k) : 0 < l.length → (l.getD (l.length - 1) default).id < k := fun h0 => h _ (jb.2 ⟨_, by omega, rfl⟩)
theorem kbp {v : Wl} {id : Nat} {paid : Bool} (h : (wq v id paid).2 = 0) : okW v ∧ okW (wq v id paid).1 ∧ (wq v id paid).1 = ⟨(vi v.c id paid).1, v.w, v.i, (jq v.p id paid).1, (gan v id paid).1, v.next, v.tick⟩ ∧ (jq v.p id paid).2 = 0 ∧ (vi v.c id paid).2.2 = 0 ∧ (gan v id paid).2.2 = 0 := by
  rw [jbe] at h
  obtain ⟨hok, hP, hC, hF⟩ := bbL h
  have e : wq v id paid = (⟨(yam v id paid).1, v.w, v.i, (gat v id paid).1, (gan v id paid).1, v.next, v.tick⟩, 0) := by rw [wq, if_pos h]
  rw [e]
  have hids := vbl hok
  obtain ⟨o1, o2, o3, o4, o5, o6, o7, o8⟩ := hok
  obtain ⟨h1, h2, -⟩ := vbp (paid := paid) o8 o1 hP
  obtain ⟨-, l1, -⟩ := x8 h1
  obtain ⟨-, -, p1, -⟩ := xaw hP
  refine ⟨⟨o1, o2, o3, o4, o5, o6, o7, o8⟩, ⟨l1, o2, bG hF, o4, o5, o6, jbl fun x hx => ?_, h2⟩, rfl, hP, h1, hF⟩
  have : x.id ∈ (jq v.p id paid).1.map Py.id := List.mem_map.2 ⟨x, hx, rfl⟩
  rw [p1] at this
  obtain ⟨y, hy, he⟩ := List.mem_map.1 this
  rw [← he]; exact hids y hy
end Dm
namespace Dm
open Go Go.Proofs Go.IntWalk
end Dm
namespace Dm
open Go Go.Proofs Go.IntWalk
def qF (v : Wl) (l : List Wt) : Wl × Int := if okW v ∧ l.length ≤ 32 then ({ v with w := l }, 0) else (yx, 1)
@[go_sem] def yaW (v : Wl) (l : List Wt) : D := .tup [.agg [.sl (chs (qF v l).1.c), .sl (wts (qF v l).1.w), .sl (ivs (qF v l).1.i), .sl (pys (qF v l).1.p), .int .u64 (qF v l).1.f.next, .sl (evs (qF v l).1.f.l), .int .u64 (qF v l).1.next, .int .u64 (qF v l).1.tick], .int .i64 (qF v l).2]
@[go_sem] abbrev bcs : FuncId := 11
@[go_sem] def kbs : Tab := [(37, bh), (119, gp)]
theorem qh : ya Tryz.prog kbs := (ya.cons vg (ya.cons yj ya.nil))
set_option maxRecDepth 8000 in
set_option maxHeartbeats 1000000 in
theorem ya5 (v : Wl) (l : List Wt) (h : v.f.next ≤ 18446744073709551615) : yb Tryz.prog 11 [.agg [.sl (chs v.c), .sl (wts v.w), .sl (ivs v.i), .sl (pys v.p), .c (.int .u64 (v.f.next : Int)), .sl (evs v.f.l), .c (.int .u64 (v.next : Int)), .c (.int .u64 (v.tick : Int))], .sl (wts l)] (yaW v l) := by
  refine .of (vdc qh (Nat.le_of_ble_eq_true rfl) ?_)
  simp -implicitDefEqProofs only [cdA, go_sem, Go.Proofs.Tryz.f11, reduceIte, reduceCtorEq, Nat.reduceEqDiff, Nat.reduceAdd, Nat.reduceLeDiff, Nat.reduceSub, Nat.reduceMul, Nat.reduceLT, Nat.reduceShiftRight, Nat.reduceMod, Int.reduceLE, Int.reduceLT, Int.reduceToNat, List.cons.injEq, cdB]
  refine qaX qh (Nat.le_of_ble_eq_true rfl) ?_
  simp -implicitDefEqProofs only [cdA, go_sem, Go.Proofs.Tryz.f45, reduceIte, reduceCtorEq, Nat.reduceEqDiff, Nat.reduceAdd, Nat.reduceLeDiff, Nat.reduceSub, Nat.reduceMul, Nat.reduceLT, Nat.reduceShiftRight, Nat.reduceMod, Int.reduceLE, Int.reduceLT, Int.reduceToNat, List.cons.injEq, cdB]
  refine uc.run yG qh qa (by kernel_rfl) (by kernel_rfl) ?_
  simp -implicitDefEqProofs only [cdA, go_sem, reduceIte, reduceCtorEq, Nat.reduceEqDiff, Nat.reduceAdd, Nat.reduceLeDiff, Nat.reduceSub, Nat.reduceMul, Nat.reduceLT, Nat.reduceShiftRight, Nat.reduceMod, Int.reduceLE, Int.reduceLT, Int.reduceToNat, List.cons.injEq, cdB]
  refine ⟨h, ?_⟩
  intro hll
  have hbad : ¬ (okW v ∧ l.length ≤ 32) → (chs (qF v l).1.c = [] ∧ wts (qF v l).1.w = [] ∧ ivs (qF v l).1.i = [] ∧ pys (qF v l).1.p = [] ∧ 0 = ((qF v l).1.f.next : Int) ∧ evs (qF v l).1.f.l = [] ∧ 0 = ((qF v l).1.next : Int) ∧ 0 = ((qF v l).1.tick : Int)) ∧ 1 = (qF v l).2 := fun h => by
    have : qF v l = (yx, 1) := by rw [qF, if_neg h]
    rw [this]; exact ⟨⟨rfl, rfl, rfl, rfl, rfl, rfl, rfl, rfl⟩, rfl⟩
  by_cases hok : okW v
  rotate_left 1
  · have hc1 : bq v = 1 := by rw [bq, if_neg hok]
    rw [hc1]
    refine kR qh (Nat.le_of_ble_eq_true rfl) ?_
    simp -implicitDefEqProofs only [cdA, go_sem, Go.Proofs.Tryz.f46, zT, cdN, reduceIte, reduceCtorEq, Nat.reduceEqDiff, Nat.reduceAdd, Nat.reduceLeDiff, Nat.reduceSub, Nat.reduceMul, Nat.reduceLT, Nat.reduceShiftRight, Nat.reduceMod, Int.reduceLE, Int.reduceLT, Int.reduceToNat, List.cons.injEq, cdB]
    refine js qh (Nat.le_of_ble_eq_true rfl) ?_
    simp -implicitDefEqProofs only [cdA, go_sem, Go.Proofs.Tryz.f47, zT, cdN, reduceIte, reduceCtorEq, Nat.reduceEqDiff, Nat.reduceAdd, Nat.reduceLeDiff, Nat.reduceSub, Nat.reduceMul, Nat.reduceLT, Nat.reduceShiftRight, Nat.reduceMod, Int.reduceLE, Int.reduceLT, Int.reduceToNat, List.cons.injEq, cdB]
    refine uc.run yf qh qa (by kernel_rfl) (by kernel_rfl) ?_
    simp -implicitDefEqProofs only [cdA, go_sem, zT, cdN, reduceIte, reduceCtorEq, Nat.reduceEqDiff, Nat.reduceAdd, Nat.reduceLeDiff, Nat.reduceSub, Nat.reduceMul, Nat.reduceLT, Nat.reduceShiftRight, Nat.reduceMod, Int.reduceLE, Int.reduceLT, Int.reduceToNat, List.cons.injEq, cdB]
    exact hbad fun h => hok h.1
  have hck : bq v = 0 := qm.2 hok
  rw [hck]
  by_cases hl : l.length ≤ 32
  rotate_left 1
  · have hl' : ((l.length : Int) ≤ 32) = False := eq_false (by omega)
    refine kR qh (Nat.le_of_ble_eq_true rfl) ?_
    simp -implicitDefEqProofs only [cdA, go_sem, Go.Proofs.Tryz.f46, hl', decide_false, cdN, reduceIte, reduceCtorEq, Nat.reduceEqDiff, Nat.reduceAdd, Nat.reduceLeDiff, Nat.reduceSub, Nat.reduceMul, Nat.reduceLT, Nat.reduceShiftRight, Nat.reduceMod, Int.reduceLE, Int.reduceLT, Int.reduceToNat, List.cons.injEq, cdB]
    refine js qh (Nat.le_of_ble_eq_true rfl) ?_
    simp -implicitDefEqProofs only [cdA, go_sem, Go.Proofs.Tryz.f47, zT, cdN, reduceIte, reduceCtorEq, Nat.reduceEqDiff, Nat.reduceAdd, Nat.reduceLeDiff, Nat.reduceSub, Nat.reduceMul, Nat.reduceLT, Nat.reduceShiftRight, Nat.reduceMod, Int.reduceLE, Int.reduceLT, Int.reduceToNat, List.cons.injEq, cdB]
    refine uc.run yf qh qa (by kernel_rfl) (by kernel_rfl) ?_
    simp -implicitDefEqProofs only [cdA, go_sem, zT, cdN, reduceIte, reduceCtorEq, Nat.reduceEqDiff, Nat.reduceAdd, Nat.reduceLeDiff, Nat.reduceSub, Nat.reduceMul, Nat.reduceLT, Nat.reduceShiftRight, Nat.reduceMod, Int.reduceLE, Int.reduceLT, Int.reduceToNat, List.cons.injEq, cdB]
    exact hbad fun h => hl h.2
  have hl' : ((l.length : Int) ≤ 32) = True := eq_true (by omega)
  refine kR qh (Nat.le_of_ble_eq_true rfl) ?_
  simp -implicitDefEqProofs only [cdA, go_sem, Go.Proofs.Tryz.f46, hl', decide_true, cdN, reduceIte, reduceCtorEq, Nat.reduceEqDiff, Nat.reduceAdd, Nat.reduceLeDiff, Nat.reduceSub, Nat.reduceMul, Nat.reduceLT, Nat.reduceShiftRight, Nat.reduceMod, Int.reduceLE, Int.reduceLT, Int.reduceToNat, List.cons.injEq, cdB]
  have hsm : qv ⟨v.c, l, v.i, v.p, v.f, v.next, v.tick⟩ := by
    have h2 := qo hok
    exact ⟨h2.1, h2.2.1, by show l.length ≤ _; omega, h2.2.2.2.1, h2.2.2.2.2.1, h2.2.2.2.2.2⟩
  have hfin : qF v l = (⟨v.c, l, v.i, v.p, v.f, v.next, v.tick⟩, 0) := by rw [qF, if_pos ⟨hok, hl⟩]
  refine js qh (Nat.le_of_ble_eq_true rfl) ?_
  simp -implicitDefEqProofs only [cdA, go_sem, Go.Proofs.Tryz.f47, eq_true hsm, cdN, reduceIte, reduceCtorEq, Nat.reduceEqDiff, Nat.reduceAdd, Nat.reduceLeDiff, Nat.reduceSub, Nat.reduceMul, Nat.reduceLT, Nat.reduceShiftRight, Nat.reduceMod, Int.reduceLE, Int.reduceLT, Int.reduceToNat, List.cons.injEq, cdB]
  rw [hfin]
  exact ⟨⟨rfl, rfl, rfl, rfl, rfl, rfl, rfl, rfl⟩, rfl⟩
@[go_sem] def jaO (v : Wl) (l : List Wt) : Prop := (v.f.next ≤ 18446744073709551615)
def zR : List D → Option (Prop × D × Fr)
  | [.agg [.c (.sl z2), .c (.sl z3), .c (.sl z4), .c (.sl z5), .c (.int .u64 z7), .c (.sl z8), .c (.int .u64 z9), .c (.int .u64 z10)], .c (.sl z11)] => some (z2 = chs (xh z2) ∧ z3 = wts (jj z3) ∧ z4 = ivs (wj z4) ∧ z5 = pys (gj z5) ∧ z7 = (z7.toNat : Int) ∧ z8 = evs (uk z8) ∧ z9 = (z9.toNat : Int) ∧ z10 = (z10.toNat : Int) ∧ z11 = wts (jj z11) ∧ jaO (⟨(xh z2), (jj z3), (wj z4), (gj z5), (⟨z7.toNat, (uk z8)⟩ : Fd), z9.toNat, z10.toNat⟩ : Wl) (jj z11), yaW (⟨(xh z2), (jj z3), (wj z4), (gj z5), (⟨z7.toNat, (uk z8)⟩ : Fd), z9.toNat, z10.toNat⟩ : Wl) (jj z11), [])
  | _ => none
attribute [go_sem] zR
theorem kap : ∀ rs p r fr, zR rs = some (p, r, fr) → p → zg Tryz.prog 11 rs r fr := by
  intro rs p r fr h hp
  unfold zR at h
  split at h <;> cases h
  obtain ⟨hc0, hc1, hc2, hc3, hc4, hc5, hc6, hc7, hc8, hp⟩ := hp
  rename_i z2 z3 z4 z5 z7 z8 z9 z10 z11
  obtain ⟨z2, rfl⟩ : ∃ m, z2 = chs m := ⟨_, hc0⟩
  obtain ⟨z3, rfl⟩ : ∃ m, z3 = wts m := ⟨_, hc1⟩
  obtain ⟨z4, rfl⟩ : ∃ m, z4 = ivs m := ⟨_, hc2⟩
  obtain ⟨z5, rfl⟩ : ∃ m, z5 = pys m := ⟨_, hc3⟩
  obtain ⟨z7, rfl⟩ : ∃ m : Nat, z7 = m := ⟨_, hc4⟩
  obtain ⟨z8, rfl⟩ : ∃ m, z8 = evs m := ⟨_, hc5⟩
  obtain ⟨z9, rfl⟩ : ∃ m : Nat, z9 = m := ⟨_, hc6⟩
  obtain ⟨z10, rfl⟩ : ∃ m : Nat, z10 = m := ⟨_, hc7⟩
  obtain ⟨z11, rfl⟩ : ∃ m, z11 = wts m := ⟨_, hc8⟩
  simp only [Int.toNat_natCast, xb, vb, qc, jc, qd]
  simp only [Int.toNat_natCast, xb, vb, qc, jc, qd, jaO] at hp
  exact ya5 ⟨z2, z3, z4, z5, ⟨z7, z8⟩, z9, z10⟩ z11 hp
end Dm
namespace Dm
open Go Go.Proofs Go.IntWalk
def wN : Wl := ⟨[], [], [], [], ⟨1, []⟩, 1, 0⟩
def bah : Ch := ⟨1, 10, 0, 0, 10, [], true⟩
theorem jcB : (qx wN bah).2 = 0 := by decide
theorem ycE : (qx wN bah).1.f.next ≤ 18446744073709551615 := by decide
set_option maxRecDepth 100000 in
theorem gcG : (gz (qx wN bah).1 7 4).2 = (1, 0) := by decide
set_option maxRecDepth 100000 in
theorem ucw : (gz (qx wN bah).1 7 4).1.f.next ≤ 18446744073709551615 ∧ qak (gz (qx wN bah).1 7 4).1.c = (6, 4, 0) := by decide
set_option maxRecDepth 100000 in
theorem wcS : (wq (gz (qx wN bah).1 7 4).1 1 false).2 = 0 := by decide
set_option maxRecDepth 100000 in
theorem ucE : qak (wq (gz (qx wN bah).1 7 4).1 1 false).1.c = (10, 0, 0) := by decide
@[go_sem] def zaJ (w : Wl) : D := .bool (decide (((∀ c ∈ w.c, c.holds.length ≤ 20) ∧ w.c.length ≤ 34) ∧ w.w.length ≤ 40 ∧ w.i.length ≤ 40 ∧ (w.p.length ≤ 40 ∨ 256 ≤ w.p.length ∧ w.p.length ≤ 258) ∧ w.f.l.length ≤ 70))
@[go_sem] abbrev xcQ : FuncId := 10
@[go_sem] def bbk : Tab := [(44, gax)]
theorem jaC : ya Tryz.prog bbk := (ya.cons uaV ya.nil)
set_option maxRecDepth 8000 in
set_option maxHeartbeats 1000000 in
theorem xaY (w : Wl)  : yb Tryz.prog 10 [.agg [.sl (chs w.c), .sl (wts w.w), .sl (ivs w.i), .sl (pys w.p), .c (.int .u64 (w.f.next : Int)), .sl (evs w.f.l), .c (.int .u64 (w.next : Int)), .c (.int .u64 (w.tick : Int))]] (zaJ w) := by
  refine .of (jdd jaC (Nat.le_of_ble_eq_true rfl) ?_)
  simp -implicitDefEqProofs only [cdA, go_sem, Go.Proofs.Tryz.f10, reduceIte, reduceCtorEq, Nat.reduceEqDiff, Nat.reduceAdd, Nat.reduceLeDiff, Nat.reduceSub, Nat.reduceMul, Nat.reduceLT, Nat.reduceShiftRight, Nat.reduceMod, Int.reduceLE, Int.reduceLT, Int.reduceToNat, List.cons.injEq, cdB]
  refine ⟨fun hq _ => ⟨fun h1 _ => ⟨fun h2 _ => ⟨fun h3 _ => ⟨fun h4 _ => ⟨fun h5 _ => ?_, fun h5 => (decide_eq_false fun h => by have := h.2; omega).symm⟩, fun h4 => (decide_eq_false fun h => by have := h.2; omega).symm⟩, fun h3 _ => ?_⟩, fun h2 => (decide_eq_false fun h => by have := h.2; omega).symm⟩, fun h1 => (decide_eq_false fun h => by have := h.2; omega).symm⟩, fun hq => (decide_eq_false fun h => hq h.1).symm⟩
  · rw [decide_eq_decide]; exact ⟨fun h => ⟨hq, by omega, by omega, by omega, by omega⟩, fun h => by have := h.2; omega⟩
  · rw [decide_eq_decide]; exact ⟨fun h => ⟨hq, by omega, by omega, by omega, by omega⟩, fun h => by have := h.2; omega⟩
def qQ : List D → Option (Prop × D × Fr)
  | [.agg [.c (.sl z2), .c (.sl z3), .c (.sl z4), .c (.sl z5), .c (.int .u64 z7), .c (.sl z8), .c (.int .u64 z9), .c (.int .u64 z10)]] => some (z2 = chs (xh z2) ∧ z3 = wts (jj z3) ∧ z4 = ivs (wj z4) ∧ z5 = pys (gj z5) ∧ z7 = (z7.toNat : Int) ∧ z8 = evs (uk z8) ∧ z9 = (z9.toNat : Int) ∧ z10 = (z10.toNat : Int), zaJ (⟨(xh z2), (jj z3), (wj z4), (gj z5), (⟨z7.toNat, (uk z8)⟩ : Fd), z9.toNat, z10.toNat⟩ : Wl), [])
  | _ => none
attribute [go_sem] qQ
theorem yas : ∀ rs p r fr, qQ rs = some (p, r, fr) → p → zg Tryz.prog 10 rs r fr := by
  intro rs p r fr h hp
  unfold qQ at h
  split at h <;> cases h
  obtain ⟨hc0, hc1, hc2, hc3, hc4, hc5, hc6, hc7⟩ := hp
  rename_i z2 z3 z4 z5 z7 z8 z9 z10
  obtain ⟨z2, rfl⟩ : ∃ m, z2 = chs m := ⟨_, hc0⟩
  obtain ⟨z3, rfl⟩ : ∃ m, z3 = wts m := ⟨_, hc1⟩
  obtain ⟨z4, rfl⟩ : ∃ m, z4 = ivs m := ⟨_, hc2⟩
  obtain ⟨z5, rfl⟩ : ∃ m, z5 = pys m := ⟨_, hc3⟩
  obtain ⟨z7, rfl⟩ : ∃ m : Nat, z7 = m := ⟨_, hc4⟩
  obtain ⟨z8, rfl⟩ : ∃ m, z8 = evs m := ⟨_, hc5⟩
  obtain ⟨z9, rfl⟩ : ∃ m : Nat, z9 = m := ⟨_, hc6⟩
  obtain ⟨z10, rfl⟩ : ∃ m : Nat, z10 = m := ⟨_, hc7⟩
  simp only [Int.toNat_natCast, xb, vb, qc, jc, qd]
  exact xaY ⟨z2, z3, z4, z5, ⟨z7, z8⟩, z9, z10⟩
@[go_sem] def ubb  : D := .bool true
@[go_sem] abbrev gcV : FuncId := 9
@[go_sem] def vbN : Tab := [(40, kab), (30, xJ), (13, xU), (43, yaa), (15, vS)]
theorem jaU : ya Tryz.prog vbN := (ya.cons yaG (ya.cons xW (ya.cons bZ (ya.cons jaE (ya.cons xZ ya.nil)))))
set_option maxRecDepth 8000 in
set_option maxHeartbeats 1000000 in
theorem vbu   : yb Tryz.prog 9 [] (ubb ) := by
  refine .of (ac9 jaU (Nat.le_of_ble_eq_true rfl) ?_)
  simp -implicitDefEqProofs only [cdA, go_sem, Go.Proofs.Tryz.f9, reduceIte, reduceCtorEq, Nat.reduceEqDiff, Nat.reduceAdd, Nat.reduceLeDiff, Nat.reduceSub, Nat.reduceMul, Nat.reduceLT, Nat.reduceShiftRight, Nat.reduceMod, Int.reduceLE, Int.reduceLT, Int.reduceToNat, List.cons.injEq, cdB]
  have a1 := jcB
  have a2 := ycE
  have a3 := gcG
  obtain ⟨a4, a5⟩ := ucw
  have a6 := wcS
  have a7 := ucE
  unfold wN bah at a1 a2 a3 a4 a5 a6 a7
  simp only [show um [] = [] from rfl]
  refine ⟨rfl, ?_⟩
  generalize qx _ _ = x at *
  generalize gz x.1 7 4 = y at *
  have b1 : y.2.1 = 1 := congrArg Prod.fst a3
  have b2 : y.2.2 = 0 := congrArg Prod.snd a3
  rw [b1, b2, a5]
  generalize wq y.1 1 false = z at *
  rw [a1, a6, a7]
  exact ⟨a2, a4, by simp⟩
def v7 : List D → Option (Prop × D × Fr)
  | [] => some (True, ubb , [])
  | _ => none
attribute [go_sem] v7
theorem uaE : ∀ rs p r fr, v7 rs = some (p, r, fr) → p → zg Tryz.prog 9 rs r fr := by
  intro rs p r fr h hp
  unfold v7 at h
  split at h <;> cases h
  exact vbu 
end Dm
namespace Dm
open Go Go.Proofs
set_option maxRecDepth 20000
theorem wf_u64 {n : Int} (h : (Lit.int .u64 n).wf = true) : 0 ≤ n ∧ n ≤ 18446744073709551615 := by
  simp [Lit.wf, IntKind.min, IntKind.max, IntKind.bits, IntKind.signed] at h
  omega
theorem wf_i64 {n : Int} (h : (Lit.int .i64 n).wf = true) : -9223372036854775808 ≤ n ∧ n ≤ 9223372036854775807 := by
  simp [Lit.wf, IntKind.min, IntKind.max, IntKind.bits, IntKind.signed] at h
  omega
theorem vaF {k : Nat} {xs : List C} (h : Typ Tryz.prog (k + 1) 26 xs) : ∃ n : Nat, xs = [.int .u64 (n : Int)] ∧ n ≤ 18446744073709551615 := by
  simp only [Typ, Tryz.underlying26] at h
  obtain ⟨n, rfl, h1⟩ := h
  have := wf_u64 h1
  exact ⟨n.toNat, by rw [Int.toNat_of_nonneg (by omega)], by omega⟩
theorem vdl {k : Nat} {xs : List C} (h : Typ Tryz.prog (k + 1) 4 xs) : ∃ b, xs = [.bool b] := by
  simp only [Typ, Tryz.underlying4] at h
  exact h
def Hd.rng (e : Hd) : Prop := e.id ≤ 18446744073709551615 ∧ e.n ≤ 18446744073709551615
theorem zcC {k : Nat} {xs : List C} (h : Typ Tryz.prog (k + 2) 62 xs) : (Hd.dec xs).enc = xs ∧ (Hd.dec xs).rng := by
  simp only [Typ, Tryz.underlying62, qP, Tryz.underlying26] at h
  obtain ⟨_, _, rfl, ⟨s0, rfl, h0⟩, _, _, rfl, ⟨s1, rfl, h1⟩, rfl⟩ := h
  have q0 := wf_u64 h0
  have q1 := wf_u64 h1
  simp only [List.cons_append, List.nil_append, List.append_nil]
  refine ⟨by simp [Hd.dec, Hd.enc, Int.toNat_of_nonneg q0.1, Int.toNat_of_nonneg q1.1], ?_⟩
  simp only [Hd.dec, Hd.rng]
  exact ⟨by omega, by omega⟩
theorem qa4 {els : List (List C)} (h : ∀ x ∈ els, (Hd.dec x).enc = x) : hds (um els) = els := by
  simp only [hds, um, List.map_map]
  refine (List.map_congr_left fun x hx => ?_).trans (List.map_id _)
  exact h x hx
theorem xcV {k : Nat} {xs : List C} (h : Typ Tryz.prog (k + 3) 48 xs) : ∃ l, xs = [.sl (hds l)] ∧ ∀ e ∈ l, e.rng := by
  simp only [Typ, Tryz.underlying48] at h
  obtain ⟨els, rfl, _, h2⟩ := h
  have h3 : ∀ x ∈ els, (Hd.dec x).enc = x ∧ (Hd.dec x).rng := fun x hx => zcC (k := k) (h2 x hx)
  refine ⟨um els, by rw [qa4 fun x hx => (h3 x hx).1], fun e he => ?_⟩
  obtain ⟨x, hx, rfl⟩ := List.mem_map.1 he
  exact (h3 x hx).2
def Ch.rng (e : Ch) : Prop := e.id ≤ 18446744073709551615 ∧ e.loc ≤ 18446744073709551615 ∧ e.rem ≤ 18446744073709551615 ∧ e.res ≤ 18446744073709551615 ∧ e.most ≤ 18446744073709551615 ∧ (∀ q ∈ e.holds, q.rng) ∧ True
theorem qbL {k : Nat} {xs : List C} (h : Typ Tryz.prog (k + 4) 50 xs) : (Ch.dec xs).enc = xs ∧ (Ch.dec xs).rng := by
  simp only [Typ, Tryz.underlying50, qP, Tryz.underlying4, Tryz.underlying26] at h
  obtain ⟨_, _, rfl, ⟨s0, rfl, h0⟩, _, _, rfl, ⟨s1, rfl, h1⟩, _, _, rfl, ⟨s2, rfl, h2⟩, _, _, rfl, ⟨s3, rfl, h3⟩, _, _, rfl, ⟨s4, rfl, h4⟩, _, _, rfl, hs5, _, _, rfl, ⟨s6, rfl⟩, rfl⟩ := h
  have q0 := wf_u64 h0
  have q1 := wf_u64 h1
  have q2 := wf_u64 h2
  have q3 := wf_u64 h3
  have q4 := wf_u64 h4
  obtain ⟨s5, rfl, q5⟩ := xcV (k := k + 0) hs5
  simp only [List.cons_append, List.nil_append, List.append_nil]
  refine ⟨by simp [Ch.dec, Ch.enc, Int.toNat_of_nonneg q0.1, Int.toNat_of_nonneg q1.1, Int.toNat_of_nonneg q2.1, Int.toNat_of_nonneg q3.1, Int.toNat_of_nonneg q4.1, ze], ?_⟩
  simp only [Ch.dec, Ch.rng, ze]
  exact ⟨by omega, by omega, by omega, by omega, by omega, q5, trivial⟩
theorem ka3 {els : List (List C)} (h : ∀ x ∈ els, (Ch.dec x).enc = x) : chs (xh els) = els := by
  simp only [chs, xh, List.map_map]
  refine (List.map_congr_left fun x hx => ?_).trans (List.map_id _)
  exact h x hx
theorem xcT {k : Nat} {xs : List C} (h : Typ Tryz.prog (k + 5) 22 xs) : ∃ l, xs = [.sl (chs l)] ∧ ∀ e ∈ l, e.rng := by
  simp only [Typ, Tryz.underlying22] at h
  obtain ⟨els, rfl, _, h2⟩ := h
  have h3 : ∀ x ∈ els, (Ch.dec x).enc = x ∧ (Ch.dec x).rng := fun x hx => qbL (k := k) (h2 x hx)
  refine ⟨xh els, by rw [ka3 fun x hx => (h3 x hx).1], fun e he => ?_⟩
  obtain ⟨x, hx, rfl⟩ := List.mem_map.1 he
  exact (h3 x hx).2
def Wt.rng (e : Wt) : Prop := e.id ≤ 18446744073709551615 ∧ True
theorem wcC {k : Nat} {xs : List C} (h : Typ Tryz.prog (k + 2) 72 xs) : (Wt.dec xs).enc = xs ∧ (Wt.dec xs).rng := by
  simp only [Typ, Tryz.underlying72, qP, Tryz.underlying26, Tryz.underlying70] at h
  obtain ⟨_, _, rfl, ⟨s0, rfl, h0⟩, _, _, rfl, ⟨s1, rfl, h1⟩, rfl⟩ := h
  have q0 := wf_u64 h0
  simp only [List.cons_append, List.nil_append, List.append_nil]
  refine ⟨by simp [Wt.dec, Wt.enc, Int.toNat_of_nonneg q0.1], ?_⟩
  simp only [Wt.dec, Wt.rng]
  exact ⟨by omega, trivial⟩
theorem va6 {els : List (List C)} (h : ∀ x ∈ els, (Wt.dec x).enc = x) : wts (jj els) = els := by
  simp only [wts, jj, List.map_map]
  refine (List.map_congr_left fun x hx => ?_).trans (List.map_id _)
  exact h x hx
theorem gbS {k : Nat} {xs : List C} (h : Typ Tryz.prog (k + 3) 23 xs) : ∃ l, xs = [.sl (wts l)] ∧ ∀ e ∈ l, e.rng := by
  simp only [Typ, Tryz.underlying23] at h
  obtain ⟨els, rfl, _, h2⟩ := h
  have h3 : ∀ x ∈ els, (Wt.dec x).enc = x ∧ (Wt.dec x).rng := fun x hx => wcC (k := k) (h2 x hx)
  refine ⟨jj els, by rw [va6 fun x hx => (h3 x hx).1], fun e he => ?_⟩
  obtain ⟨x, hx, rfl⟩ := List.mem_map.1 he
  exact (h3 x hx).2
def Iv.rng (e : Iv) : Prop := e.hash ≤ 18446744073709551615 ∧ e.n ≤ 18446744073709551615 ∧ e.till ≤ 18446744073709551615 ∧ (-9223372036854775808 ≤ e.state ∧ e.state ≤ 9223372036854775807)
theorem wcU {k : Nat} {xs : List C} (h : Typ Tryz.prog (k + 2) 64 xs) : (Iv.dec xs).enc = xs ∧ (Iv.dec xs).rng := by
  simp only [Typ, Tryz.underlying64, qP, Tryz.underlying3, Tryz.underlying26] at h
  obtain ⟨_, _, rfl, ⟨s0, rfl, h0⟩, _, _, rfl, ⟨s1, rfl, h1⟩, _, _, rfl, ⟨s2, rfl, h2⟩, _, _, rfl, ⟨s3, rfl, h3⟩, rfl⟩ := h
  have q0 := wf_u64 h0
  have q1 := wf_u64 h1
  have q2 := wf_u64 h2
  have q3 := wf_i64 h3
  simp only [List.cons_append, List.nil_append, List.append_nil]
  refine ⟨by simp [Iv.dec, Iv.enc, Int.toNat_of_nonneg q0.1, Int.toNat_of_nonneg q1.1, Int.toNat_of_nonneg q2.1], ?_⟩
  simp only [Iv.dec, Iv.rng]
  exact ⟨by omega, by omega, by omega, ⟨by omega, by omega⟩⟩
theorem qaY {els : List (List C)} (h : ∀ x ∈ els, (Iv.dec x).enc = x) : ivs (wj els) = els := by
  simp only [ivs, wj, List.map_map]
  refine (List.map_congr_left fun x hx => ?_).trans (List.map_id _)
  exact h x hx
theorem kcv {k : Nat} {xs : List C} (h : Typ Tryz.prog (k + 3) 24 xs) : ∃ l, xs = [.sl (ivs l)] ∧ ∀ e ∈ l, e.rng := by
  simp only [Typ, Tryz.underlying24] at h
  obtain ⟨els, rfl, _, h2⟩ := h
  have h3 : ∀ x ∈ els, (Iv.dec x).enc = x ∧ (Iv.dec x).rng := fun x hx => wcU (k := k) (h2 x hx)
  refine ⟨wj els, by rw [qaY fun x hx => (h3 x hx).1], fun e he => ?_⟩
  obtain ⟨x, hx, rfl⟩ := List.mem_map.1 he
  exact (h3 x hx).2
def Py.rng (e : Py) : Prop := e.id ≤ 18446744073709551615 ∧ e.hash ≤ 18446744073709551615 ∧ e.chan ≤ 18446744073709551615 ∧ e.n ≤ 18446744073709551615 ∧ (-9223372036854775808 ≤ e.state ∧ e.state ≤ 9223372036854775807)
theorem wcu {k : Nat} {xs : List C} (h : Typ Tryz.prog (k + 2) 45 xs) : (Py.dec xs).enc = xs ∧ (Py.dec xs).rng := by
  simp only [Typ, Tryz.underlying45, qP, Tryz.underlying3, Tryz.underlying26] at h
  obtain ⟨_, _, rfl, ⟨s0, rfl, h0⟩, _, _, rfl, ⟨s1, rfl, h1⟩, _, _, rfl, ⟨s2, rfl, h2⟩, _, _, rfl, ⟨s3, rfl, h3⟩, _, _, rfl, ⟨s4, rfl, h4⟩, rfl⟩ := h
  have q0 := wf_u64 h0
  have q1 := wf_u64 h1
  have q2 := wf_u64 h2
  have q3 := wf_u64 h3
  have q4 := wf_i64 h4
  simp only [List.cons_append, List.nil_append, List.append_nil]
  refine ⟨by simp [Py.dec, Py.enc, Int.toNat_of_nonneg q0.1, Int.toNat_of_nonneg q1.1, Int.toNat_of_nonneg q2.1, Int.toNat_of_nonneg q3.1], ?_⟩
  simp only [Py.dec, Py.rng]
  exact ⟨by omega, by omega, by omega, by omega, ⟨by omega, by omega⟩⟩
theorem wa1 {els : List (List C)} (h : ∀ x ∈ els, (Py.dec x).enc = x) : pys (gj els) = els := by
  simp only [pys, gj, List.map_map]
  refine (List.map_congr_left fun x hx => ?_).trans (List.map_id _)
  exact h x hx
theorem bcE {k : Nat} {xs : List C} (h : Typ Tryz.prog (k + 3) 25 xs) : ∃ l, xs = [.sl (pys l)] ∧ ∀ e ∈ l, e.rng := by
  simp only [Typ, Tryz.underlying25] at h
  obtain ⟨els, rfl, _, h2⟩ := h
  have h3 : ∀ x ∈ els, (Py.dec x).enc = x ∧ (Py.dec x).rng := fun x hx => wcu (k := k) (h2 x hx)
  refine ⟨gj els, by rw [wa1 fun x hx => (h3 x hx).1], fun e he => ?_⟩
  obtain ⟨x, hx, rfl⟩ := List.mem_map.1 he
  exact (h3 x hx).2
def Ev.rng (e : Ev) : Prop := e.seq ≤ 18446744073709551615 ∧ (-9223372036854775808 ≤ e.kind ∧ e.kind ≤ 9223372036854775807) ∧ e.a ≤ 18446744073709551615 ∧ e.n ≤ 18446744073709551615
theorem qcM {k : Nat} {xs : List C} (h : Typ Tryz.prog (k + 2) 74 xs) : (Ev.dec xs).enc = xs ∧ (Ev.dec xs).rng := by
  simp only [Typ, Tryz.underlying74, qP, Tryz.underlying3, Tryz.underlying26] at h
  obtain ⟨_, _, rfl, ⟨s0, rfl, h0⟩, _, _, rfl, ⟨s1, rfl, h1⟩, _, _, rfl, ⟨s2, rfl, h2⟩, _, _, rfl, ⟨s3, rfl, h3⟩, rfl⟩ := h
  have q0 := wf_u64 h0
  have q1 := wf_i64 h1
  have q2 := wf_u64 h2
  have q3 := wf_u64 h3
  simp only [List.cons_append, List.nil_append, List.append_nil]
  refine ⟨by simp [Ev.dec, Ev.enc, Int.toNat_of_nonneg q0.1, Int.toNat_of_nonneg q2.1, Int.toNat_of_nonneg q3.1], ?_⟩
  simp only [Ev.dec, Ev.rng]
  exact ⟨by omega, ⟨by omega, by omega⟩, by omega, by omega⟩
theorem ja1 {els : List (List C)} (h : ∀ x ∈ els, (Ev.dec x).enc = x) : evs (uk els) = els := by
  simp only [evs, uk, List.map_map]
  refine (List.map_congr_left fun x hx => ?_).trans (List.map_id _)
  exact h x hx
theorem qcE {k : Nat} {xs : List C} (h : Typ Tryz.prog (k + 3) 27 xs) : ∃ l, xs = [.sl (evs l)] ∧ ∀ e ∈ l, e.rng := by
  simp only [Typ, Tryz.underlying27] at h
  obtain ⟨els, rfl, _, h2⟩ := h
  have h3 : ∀ x ∈ els, (Ev.dec x).enc = x ∧ (Ev.dec x).rng := fun x hx => qcM (k := k) (h2 x hx)
  refine ⟨uk els, by rw [ja1 fun x hx => (h3 x hx).1], fun e he => ?_⟩
  obtain ⟨x, hx, rfl⟩ := List.mem_map.1 he
  exact (h3 x hx).2
def Fd.rng (e : Fd) : Prop := e.next ≤ 18446744073709551615 ∧ (∀ q ∈ e.l, q.rng)
theorem vcO {k : Nat} {xs : List C} (h : Typ Tryz.prog (k + 4) 29 xs) : (Fd.dec xs).enc = xs ∧ (Fd.dec xs).rng := by
  simp only [Typ, Tryz.underlying29, qP, Tryz.underlying26] at h
  obtain ⟨_, _, rfl, ⟨s0, rfl, h0⟩, _, _, rfl, hs1, rfl⟩ := h
  have q0 := wf_u64 h0
  obtain ⟨s1, rfl, q1⟩ := qcE (k := k + 0) hs1
  simp only [List.cons_append, List.nil_append, List.append_nil]
  refine ⟨by simp [Fd.dec, Fd.enc, Int.toNat_of_nonneg q0.1, vb], ?_⟩
  simp only [Fd.dec, Fd.rng, vb]
  exact ⟨by omega, q1⟩
def Wl.rng (w : Wl) : Prop := (∀ e ∈ w.c, e.rng) ∧ (∀ e ∈ w.w, e.rng) ∧ (∀ e ∈ w.i, e.rng) ∧ (∀ e ∈ w.p, e.rng) ∧ w.f.rng ∧ w.next ≤ 18446744073709551615 ∧ w.tick ≤ 18446744073709551615
theorem vb2 {k : Nat} {xs : List C} (h : Typ Tryz.prog (k + 6) 31 xs) : ∃ w : Wl, xs = w.enc ∧ w.rng := by
  rw [show k + 6 = (k + 5) + 1 from rfl, Typ, Tryz.underlying31] at h
  simp only [qP] at h
  obtain ⟨_, _, rfl, h0, _, _, rfl, h1, _, _, rfl, h2, _, _, rfl, h3, _, _, rfl, h4, _, _, rfl, h5, _, _, rfl, h6, rfl⟩ := h
  obtain ⟨c, rfl, q0⟩ := xcT (k := k) h0
  obtain ⟨w, rfl, q1⟩ := gbS (k := k + 2) h1
  obtain ⟨i, rfl, q2⟩ := kcv (k := k + 2) h2
  obtain ⟨p, rfl, q3⟩ := bcE (k := k + 2) h3
  obtain ⟨e4, q4⟩ := vcO (k := k + 1) h4
  obtain ⟨n, rfl, q5⟩ := vaF (k := k + 4) h5
  obtain ⟨t, rfl, q6⟩ := vaF (k := k + 4) h6
  refine ⟨⟨c, w, i, p, Fd.dec _, n, t⟩, ?_, q0, q1, q2, q3, q4, q5, q6⟩
  rw [← e4]
  simp [Wl.enc, Fd.enc, Fd.dec, vb]
end Dm
namespace Dm
open Go Go.Proofs Go.IntWalk
def yap (c : Ch) (n : Nat) : Int := if ¬ yl c ∨ ¬ n ≤ MM then 1 else if c.op = false then 14 else if c.rem < n then 9 else 0
def gK (c : Ch) (n : Nat) : Ch × Int := if yap c n = 0 then (⟨c.id, c.loc + n, c.rem - n, c.res, c.most, c.holds, c.op⟩, 0) else (default, yap c n)
theorem zbU {c : Ch} {n : Nat} : (gK c n).2 = yap c n := by
  unfold gK
  split
  · rename_i h; exact h.symm
  · rfl
@[go_sem] def waQ (c : Ch) (n : Nat) : D := .tup [.agg [.int .u64 (gK c n).1.id, .int .u64 (gK c n).1.loc, .int .u64 (gK c n).1.rem, .int .u64 (gK c n).1.res, .int .u64 (gK c n).1.most, .sl (hds (gK c n).1.holds), .bool (gK c n).1.op], .int .i64 (gK c n).2]
@[go_sem] abbrev vcT : FuncId := 178
@[go_sem] def kbt : Tab := [(183, yp), (49, yg), (207, qB), (153, qw)]
theorem gaG : ya Tryz.prog kbt := (ya.cons ko (ya.cons uf (ya.cons uO (ya.cons wA ya.nil))))
set_option maxRecDepth 8000 in
set_option maxHeartbeats 1000000 in
theorem va1 (c : Ch) (n : Nat)  : yb Tryz.prog 178 [.agg [.c (.int .u64 (c.id : Int)), .c (.int .u64 (c.loc : Int)), .c (.int .u64 (c.rem : Int)), .c (.int .u64 (c.res : Int)), .c (.int .u64 (c.most : Int)), .sl (hds c.holds), .c (.bool c.op)], .c (.int .u64 (n : Int))] (waQ c n) := by
  refine .of (gcO gaG (Nat.le_of_ble_eq_true rfl) ?_)
  simp -implicitDefEqProofs only [cdA, go_sem, Go.Proofs.Tryz.f178, reduceIte, reduceCtorEq, Nat.reduceEqDiff, Nat.reduceAdd, Nat.reduceLeDiff, Nat.reduceSub, Nat.reduceMul, Nat.reduceLT, Nat.reduceShiftRight, Nat.reduceMod, Int.reduceLE, Int.reduceLT, Int.reduceToNat, List.cons.injEq, cdB]
  have hc0 : bay c = 0 ↔ yl c := by unfold bay; split <;> rename_i h <;> simp only [h] <;> decide
  have hm : wS [n] = 0 ↔ n ≤ MM := van
  have hbad : ∀ k, yap c n = k → ¬ k = 0 → (0 = ((gK c n).1.id : Int) ∧ 0 = ((gK c n).1.loc : Int) ∧ 0 = ((gK c n).1.rem : Int) ∧ 0 = ((gK c n).1.res : Int) ∧ 0 = ((gK c n).1.most : Int) ∧ hds (gK c n).1.holds = [] ∧ false = (gK c n).1.op) ∧ k = (gK c n).2 := fun k hk h0 => by
    have : gK c n = (default, k) := by rw [gK, if_neg (by rw [hk]; exact h0), hk]
    rw [this]; exact ⟨⟨rfl, rfl, rfl, rfl, rfl, rfl, rfl⟩, rfl⟩
  refine ⟨fun h1 => ⟨fun h2 => ?_, fun h2 => hbad 1 (by rw [yap, if_pos (.inr fun h => h2 (hm.2 h))]) (by decide)⟩, fun h1 => hbad 1 (by rw [yap, if_pos (.inl fun h => h1 (hc0.2 h))]) (by decide)⟩
  have hok := hc0.1 h1
  have hn := hm.1 h2
  have hr : c.rem ≤ MM := hok.2.2.2.2.2.2.2.2.1
  have hl : c.loc ≤ MM := hok.2.2.2.2.2.2.2.1
  have hA : ¬ (¬ yl c ∨ ¬ n ≤ MM) := by rintro (h | h) <;> first | exact h hok | exact h hn
  unfold MM at hn hr hl
  rw [xb1, if_pos ⟨hr, hn⟩]
  refine ⟨fun h3 => ?_, fun h3 => hbad 14 (by rw [yap, if_neg hA, if_pos h3]) (by decide)⟩
  have h3' : ¬ c.op = false := by rw [h3]; decide
  by_cases h4 : n ≤ c.rem
  · have e : yap c n = 0 := by rw [yap, if_neg hA, if_neg h3', if_neg (by omega)]
    rw [if_pos h4, gK, if_pos e]
    refine ⟨fun _ => ⟨by have := hok.2.2.1; omega, ⟨rfl, by rw [u64_in _ (by omega)]; dsimp only; omega, rfl, rfl, rfl, rfl, rfl⟩, rfl⟩, fun h => absurd rfl h⟩
  · rw [if_neg h4]
    exact ⟨fun h => absurd (show (9 : Int) = 0 from h) (by decide), fun _ => hbad 9 (by rw [yap, if_neg hA, if_neg h3', if_pos (by omega)]) (by decide)⟩
def jR : List D → Option (Prop × D × Fr)
  | [.agg [.c (.int .u64 z2), .c (.int .u64 z3), .c (.int .u64 z4), .c (.int .u64 z5), .c (.int .u64 z6), .c (.sl z7), .c (.bool z8)], .c (.int .u64 z9)] => some (z2 = (z2.toNat : Int) ∧ z3 = (z3.toNat : Int) ∧ z4 = (z4.toNat : Int) ∧ z5 = (z5.toNat : Int) ∧ z6 = (z6.toNat : Int) ∧ z7 = hds (um z7) ∧ z9 = (z9.toNat : Int), waQ (⟨z2.toNat, z3.toNat, z4.toNat, z5.toNat, z6.toNat, (um z7), z8⟩ : Ch) z9.toNat, [])
  | _ => none
attribute [go_sem] jR
theorem zao : ∀ rs p r fr, jR rs = some (p, r, fr) → p → zg Tryz.prog 178 rs r fr := by
  intro rs p r fr h hp
  unfold jR at h
  split at h <;> cases h
  obtain ⟨hc0, hc1, hc2, hc3, hc4, hc5, hc6⟩ := hp
  rename_i z2 z3 z4 z5 z6 z7 z8 z9
  obtain ⟨z2, rfl⟩ : ∃ m : Nat, z2 = m := ⟨_, hc0⟩
  obtain ⟨z3, rfl⟩ : ∃ m : Nat, z3 = m := ⟨_, hc1⟩
  obtain ⟨z4, rfl⟩ : ∃ m : Nat, z4 = m := ⟨_, hc2⟩
  obtain ⟨z5, rfl⟩ : ∃ m : Nat, z5 = m := ⟨_, hc3⟩
  obtain ⟨z6, rfl⟩ : ∃ m : Nat, z6 = m := ⟨_, hc4⟩
  obtain ⟨z7, rfl⟩ : ∃ m, z7 = hds m := ⟨_, hc5⟩
  obtain ⟨z9, rfl⟩ : ∃ m : Nat, z9 = m := ⟨_, hc6⟩
  simp only [Int.toNat_natCast, ze]
  exact va1 ⟨z2, z3, z4, z5, z6, z7, z8⟩ z9
def qau (c : Ch) : Int := if ¬ yl c then 1 else if c.op = false then 14 else if c.holds.length ≠ 0 then 10 else 0
def bK (c : Ch) : Ch × Int := if qau c = 0 then (⟨c.id, c.loc, c.rem, c.res, c.most, [], false⟩, 0) else (default, qau c)
theorem qbO {c : Ch} : (bK c).2 = qau c := by
  unfold bK
  split
  · rename_i h; exact h.symm
  · rfl
@[go_sem] def gau (c : Ch) : D := .tup [.agg [.int .u64 (bK c).1.id, .int .u64 (bK c).1.loc, .int .u64 (bK c).1.rem, .int .u64 (bK c).1.res, .int .u64 (bK c).1.most, .sl (hds (bK c).1.holds), .bool (bK c).1.op], .int .i64 (bK c).2]
@[go_sem] abbrev ycl : FuncId := 189
@[go_sem] def xa0 : Tab := [(183, yp)]
theorem gaq : ya Tryz.prog xa0 := (ya.cons ko ya.nil)
set_option maxRecDepth 8000 in
set_option maxHeartbeats 1000000 in
theorem zaS (c : Ch)  : yb Tryz.prog 189 [.agg [.c (.int .u64 (c.id : Int)), .c (.int .u64 (c.loc : Int)), .c (.int .u64 (c.rem : Int)), .c (.int .u64 (c.res : Int)), .c (.int .u64 (c.most : Int)), .sl (hds c.holds), .c (.bool c.op)]] (gau c) := by
  refine .of (vcE gaq (Nat.le_of_ble_eq_true rfl) ?_)
  simp -implicitDefEqProofs only [cdA, go_sem, Go.Proofs.Tryz.f189, reduceIte, reduceCtorEq, Nat.reduceEqDiff, Nat.reduceAdd, Nat.reduceLeDiff, Nat.reduceSub, Nat.reduceMul, Nat.reduceLT, Nat.reduceShiftRight, Nat.reduceMod, Int.reduceLE, Int.reduceLT, Int.reduceToNat, List.cons.injEq, cdB]
  have hc0 : bay c = 0 ↔ yl c := by unfold bay; split <;> rename_i h <;> simp only [h] <;> decide
  have hbad : ∀ k, qau c = k → ¬ k = 0 → (0 = ((bK c).1.id : Int) ∧ 0 = ((bK c).1.loc : Int) ∧ 0 = ((bK c).1.rem : Int) ∧ 0 = ((bK c).1.res : Int) ∧ 0 = ((bK c).1.most : Int) ∧ hds (bK c).1.holds = [] ∧ false = (bK c).1.op) ∧ k = (bK c).2 := fun k hk h0 => by
    have : bK c = (default, k) := by rw [bK, if_neg (by rw [hk]; exact h0), hk]
    rw [this]; exact ⟨⟨rfl, rfl, rfl, rfl, rfl, rfl, rfl⟩, rfl⟩
  refine ⟨fun h1 => ?_, fun h1 => hbad 1 (by rw [qau, if_pos fun h => h1 (hc0.2 h)]) (by decide)⟩
  have hok := hc0.1 h1
  refine ⟨fun h3 _ => ?_, fun h3 => hbad 14 (by rw [qau, if_neg (fun h => h hok), if_pos h3]) (by decide)⟩
  have h3' : ¬ c.op = false := by rw [h3]; decide
  refine ⟨fun h4 => hbad 10 (by rw [qau, if_neg (fun h => h hok), if_neg h3', if_pos (by omega)]) (by decide), fun h4 => ?_⟩
  have e : qau c = 0 := by rw [qau, if_neg (fun h => h hok), if_neg h3', if_neg (by omega)]
  rw [bK, if_pos e]
  exact ⟨⟨rfl, rfl, rfl, rfl, rfl, rfl, rfl⟩, rfl⟩
def vH : List D → Option (Prop × D × Fr)
  | [.agg [.c (.int .u64 z11), .c (.int .u64 z12), .c (.int .u64 z13), .c (.int .u64 z14), .c (.int .u64 z15), .c (.sl z16), .c (.bool z17)]] => some (z11 = (z11.toNat : Int) ∧ z12 = (z12.toNat : Int) ∧ z13 = (z13.toNat : Int) ∧ z14 = (z14.toNat : Int) ∧ z15 = (z15.toNat : Int) ∧ z16 = hds (um z16), gau (⟨z11.toNat, z12.toNat, z13.toNat, z14.toNat, z15.toNat, (um z16), z17⟩ : Ch), [])
  | _ => none
attribute [go_sem] vH
theorem yal : ∀ rs p r fr, vH rs = some (p, r, fr) → p → zg Tryz.prog 189 rs r fr := by
  intro rs p r fr h hp
  unfold vH at h
  split at h <;> cases h
  obtain ⟨hc0, hc1, hc2, hc3, hc4, hc5⟩ := hp
  rename_i z11 z12 z13 z14 z15 z16 z17
  obtain ⟨z11, rfl⟩ : ∃ m : Nat, z11 = m := ⟨_, hc0⟩
  obtain ⟨z12, rfl⟩ : ∃ m : Nat, z12 = m := ⟨_, hc1⟩
  obtain ⟨z13, rfl⟩ : ∃ m : Nat, z13 = m := ⟨_, hc2⟩
  obtain ⟨z14, rfl⟩ : ∃ m : Nat, z14 = m := ⟨_, hc3⟩
  obtain ⟨z15, rfl⟩ : ∃ m : Nat, z15 = m := ⟨_, hc4⟩
  obtain ⟨z16, rfl⟩ : ∃ m, z16 = hds m := ⟨_, hc5⟩
  simp only [Int.toNat_natCast, ze]
  exact zaS ⟨z11, z12, z13, z14, z15, z16, z17⟩
def vX (l : List Ch) (id n : Nat) : List Ch × Int :=
  if ym l then (if Srt.thr Ch.id ltN l id = true then (if yap (l.getD (Srt.pos Ch.id ltN l id) default) n = 0 then (l.set (Srt.pos Ch.id ltN l id) (gK (l.getD (Srt.pos Ch.id ltN l id) default) n).1, 0) else ([], yap (l.getD (Srt.pos Ch.id ltN l id) default) n)) else ([], 5)) else ([], 1)
@[go_sem] def jaN (l : List Ch) (id : Nat) (n : Nat) : D := .tup [.sl (chs (vX l id n).1), .int .i64 (vX l id n).2]
@[go_sem] abbrev wcN : FuncId := 85
@[go_sem] def ybj : Tab := [(63, jy), (178, jR), (185, vB)]
theorem kM : ya Tryz.prog ybj := (ya.cons xz (ya.cons zao (ya.cons zw ya.nil)))
set_option maxRecDepth 8000 in
set_option maxHeartbeats 1000000 in
theorem za2 (l : List Ch) (id : Nat) (n : Nat)  : yb Tryz.prog 85 [.sl (chs l), .c (.int .u64 (id : Int)), .c (.int .u64 (n : Int))] (jaN l id n) := by
  refine .of (ydm kM (Nat.le_of_ble_eq_true rfl) ?_)
  simp -implicitDefEqProofs only [cdA, go_sem, Go.Proofs.Tryz.f85, reduceIte, reduceCtorEq, Nat.reduceEqDiff, Nat.reduceAdd, Nat.reduceLeDiff, Nat.reduceSub, Nat.reduceMul, Nat.reduceLT, Nat.reduceShiftRight, Nat.reduceMod, Int.reduceLE, Int.reduceLT, Int.reduceToNat, List.cons.injEq, cdB]
  refine za8 kM (Nat.le_of_ble_eq_true rfl) ?_
  simp -implicitDefEqProofs only [cdA, go_sem, Go.Proofs.Tryz.f137, reduceIte, reduceCtorEq, Nat.reduceEqDiff, Nat.reduceAdd, Nat.reduceLeDiff, Nat.reduceSub, Nat.reduceMul, Nat.reduceLT, Nat.reduceShiftRight, Nat.reduceMod, Int.reduceLE, Int.reduceLT, Int.reduceToNat, List.cons.injEq, cdB]
  by_cases hok : ym l
  · by_cases ht : Srt.thr Ch.id ltN l id = true
    · have e1 : vf l id = (((Srt.pos Ch.id ltN l id : Nat) : Int), 0) := by rw [vf, if_pos hok, if_pos ht]
      have hp : Srt.pos Ch.id ltN l id < l.length := by
        unfold Srt.thr at ht
        exact (of_decide_eq_true ht).1
      rw [e1, Int.toNat_natCast, vX, if_pos hok, if_pos ht]
      refine ⟨fun _ => ⟨⟨by omega, by omega⟩, ?_⟩, fun h => absurd rfl h⟩
      refine gcu kM (Nat.le_of_ble_eq_true rfl) ?_
      simp -implicitDefEqProofs only [cdA, go_sem, Go.Proofs.Tryz.f177, reduceIte, reduceCtorEq, Nat.reduceEqDiff, Nat.reduceAdd, Nat.reduceLeDiff, Nat.reduceSub, Nat.reduceMul, Nat.reduceLT, Nat.reduceShiftRight, Nat.reduceMod, Int.reduceLE, Int.reduceLT, Int.reduceToNat, List.cons.injEq, cdB]
      have h32 : l.length ≤ 1000000 ∧ ∀ c ∈ l, c.holds.length ≤ 1000000 := ⟨by have := hok.1; omega, fun c hc => by have := (hok.2.1 c hc).2.2.1; omega⟩
      rw [zbU]
      refine ⟨fun h0 => ?_, fun h0 => ?_⟩
      · rw [if_pos h0]
        exact ⟨h32, by omega, hp, ⟨by simp, _, _, _, rfl⟩, rfl⟩
      · rw [if_neg h0]
        exact ⟨rfl, rfl⟩
    · have e1 : vf l id = (0, 5) := by rw [vf, if_pos hok, if_neg ht]
      have e2 : vX l id n = ([], 5) := by rw [vX, if_pos hok, if_neg ht]
      rw [e1, e2]
      exact ⟨fun h => absurd h (by decide), fun _ => ⟨rfl, rfl⟩⟩
  · have e1 : vf l id = (0, 1) := by rw [vf, if_neg hok]
    have e2 : vX l id n = ([], 1) := by rw [vX, if_neg hok]
    rw [e1, e2]
    exact ⟨fun h => absurd h (by decide), fun _ => ⟨rfl, rfl⟩⟩
def wR : List D → Option (Prop × D × Fr)
  | [.c (.sl z18), .c (.int .u64 z19), .c (.int .u64 z20)] => some (z18 = chs (xh z18) ∧ z19 = (z19.toNat : Int) ∧ z20 = (z20.toNat : Int), jaN (xh z18) z19.toNat z20.toNat, [])
  | _ => none
attribute [go_sem] wR
theorem xat : ∀ rs p r fr, wR rs = some (p, r, fr) → p → zg Tryz.prog 85 rs r fr := by
  intro rs p r fr h hp
  unfold wR at h
  split at h <;> cases h
  obtain ⟨hc0, hc1, hc2⟩ := hp
  rename_i z18 z19 z20
  obtain ⟨z18, rfl⟩ : ∃ m, z18 = chs m := ⟨_, hc0⟩
  obtain ⟨z19, rfl⟩ : ∃ m : Nat, z19 = m := ⟨_, hc1⟩
  obtain ⟨z20, rfl⟩ : ∃ m : Nat, z20 = m := ⟨_, hc2⟩
  simp only [Int.toNat_natCast, xb]
  exact za2 z18 z19 z20
def y5 (l : List Ch) (id : Nat) : List Ch × Int :=
  if ym l then (if Srt.thr Ch.id ltN l id = true then (if qau (l.getD (Srt.pos Ch.id ltN l id) default) = 0 then (l.set (Srt.pos Ch.id ltN l id) (bK (l.getD (Srt.pos Ch.id ltN l id) default)).1, 0) else ([], qau (l.getD (Srt.pos Ch.id ltN l id) default))) else ([], 5)) else ([], 1)
@[go_sem] def uaA (l : List Ch) (id : Nat) : D := .tup [.sl (chs (y5 l id).1), .int .i64 (y5 l id).2]
@[go_sem] abbrev jb8 : FuncId := 97
@[go_sem] def zaZ : Tab := [(63, jy), (189, vH), (185, vB)]
theorem yW : ya Tryz.prog zaZ := (ya.cons xz (ya.cons yal (ya.cons zw ya.nil)))
set_option maxRecDepth 8000 in
set_option maxHeartbeats 1000000 in
theorem gaO (l : List Ch) (id : Nat)  : yb Tryz.prog 97 [.sl (chs l), .c (.int .u64 (id : Int))] (uaA l id) := by
  refine .of (xdf yW (Nat.le_of_ble_eq_true rfl) ?_)
  simp -implicitDefEqProofs only [cdA, go_sem, Go.Proofs.Tryz.f97, reduceIte, reduceCtorEq, Nat.reduceEqDiff, Nat.reduceAdd, Nat.reduceLeDiff, Nat.reduceSub, Nat.reduceMul, Nat.reduceLT, Nat.reduceShiftRight, Nat.reduceMod, Int.reduceLE, Int.reduceLT, Int.reduceToNat, List.cons.injEq, cdB]
  refine za8 yW (Nat.le_of_ble_eq_true rfl) ?_
  simp -implicitDefEqProofs only [cdA, go_sem, Go.Proofs.Tryz.f137, reduceIte, reduceCtorEq, Nat.reduceEqDiff, Nat.reduceAdd, Nat.reduceLeDiff, Nat.reduceSub, Nat.reduceMul, Nat.reduceLT, Nat.reduceShiftRight, Nat.reduceMod, Int.reduceLE, Int.reduceLT, Int.reduceToNat, List.cons.injEq, cdB]
  by_cases hok : ym l
  · by_cases ht : Srt.thr Ch.id ltN l id = true
    · have e1 : vf l id = (((Srt.pos Ch.id ltN l id : Nat) : Int), 0) := by rw [vf, if_pos hok, if_pos ht]
      have hp : Srt.pos Ch.id ltN l id < l.length := by
        unfold Srt.thr at ht
        exact (of_decide_eq_true ht).1
      rw [e1, Int.toNat_natCast, y5, if_pos hok, if_pos ht]
      have h32 : l.length ≤ 1000000 ∧ ∀ c ∈ l, c.holds.length ≤ 1000000 := ⟨by have := hok.1; omega, fun c hc => by have := (hok.2.1 c hc).2.2.1; omega⟩
      rw [qbO]
      refine ⟨fun _ => ⟨⟨by omega, by omega⟩, fun h0 => ?_, fun h0 => ?_⟩, fun h => absurd rfl h⟩
      · rw [if_pos h0]
        exact ⟨h32, by omega, hp, ⟨by simp, _, _, _, rfl⟩, rfl⟩
      · rw [if_neg h0]
        exact ⟨rfl, rfl⟩
    · have e1 : vf l id = (0, 5) := by rw [vf, if_pos hok, if_neg ht]
      have e2 : y5 l id = ([], 5) := by rw [y5, if_pos hok, if_neg ht]
      rw [e1, e2]
      exact ⟨fun h => absurd h (by decide), fun _ => ⟨rfl, rfl⟩⟩
  · have e1 : vf l id = (0, 1) := by rw [vf, if_neg hok]
    have e2 : y5 l id = ([], 1) := by rw [y5, if_neg hok]
    rw [e1, e2]
    exact ⟨fun h => absurd h (by decide), fun _ => ⟨rfl, rfl⟩⟩
def wH : List D → Option (Prop × D × Fr)
  | [.c (.sl z21), .c (.int .u64 z22)] => some (z21 = chs (xh z21) ∧ z22 = (z22.toNat : Int), uaA (xh z21) z22.toNat, [])
  | _ => none
attribute [go_sem] wH
theorem xam : ∀ rs p r fr, wH rs = some (p, r, fr) → p → zg Tryz.prog 97 rs r fr := by
  intro rs p r fr h hp
  unfold wH at h
  split at h <;> cases h
  obtain ⟨hc0, hc1⟩ := hp
  rename_i z21 z22
  obtain ⟨z21, rfl⟩ : ∃ m, z21 = chs m := ⟨_, hc0⟩
  obtain ⟨z22, rfl⟩ : ∃ m : Nat, z22 = m := ⟨_, hc1⟩
  simp only [Int.toNat_natCast, xb]
  exact gaO z21 z22
end Dm
