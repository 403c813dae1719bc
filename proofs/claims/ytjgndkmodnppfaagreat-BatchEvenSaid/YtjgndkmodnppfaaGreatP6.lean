import Derived.Test.YtjgndkmodnppfaaGreatP5

set_option linter.unusedSimpArgs false
set_option linter.unusedVariables false
set_option linter.unusedSectionVars false
namespace Dm
open Go Go.Proofs Go.IntWalk
abbrev allC (c : Ch) : Nat := (sumsC c).2.1
def totL (l : List Ch) : Nat := (l.map allC).sum
theorem allC_le (c : Ch) : allC c ≤ MM := by
  unfold allC sumsC
  split
  · rename_i h; exact h.2.2.2.2.2.2.2.2.2
  · exact Nat.zero_le _
theorem totL_succ {l : List Ch} {i : Nat} (h : i < l.length) : totL (l.take (i + 1)) = totL (l.take i) + allC (l.getD i default) := by
  rw [take_succ h, totL, List.map_append, List.sum_append]; simp [totL]
theorem totL_le {l : List Ch} {i : Nat} : totL (l.take i) ≤ totL l := by
  conv => rhs; rw [← List.take_append_drop i l, totL, List.map_append, List.sum_append]
  exact Nat.le_add_right _ _
def hidL (l : List Ch) : List Nat := l.flatMap fun c => c.holds.map Hd.id
def okLd (l : List Ch) : Prop := l.length ≤ 32 ∧ (∀ c ∈ l, okCh c) ∧ Srt.Chn Ch.id ltN l ∧ (hidL l).Nodup ∧ totL l ≤ MM
instance (l : List Ch) : Decidable (Srt.Chn Ch.id ltN l) := by unfold Srt.Chn; infer_instance
instance (l : List Ch) : Decidable (okLd l) := by unfold okLd; infer_instance
def chkL (l : List Ch) : Int := if okLd l then 0 else 1
def hm : Int → List Ch → List (Nat × Int)
  | _, [] => []
  | i, c :: l => c.holds.map (fun h => (h.id, i)) ++ hm (i + 1) l
def readL (l : List Ch) : List (Nat × Int) × Int := if okLd l then (hm 0 l, 0) else ([], 1)
@[go_sem] def lorder_r (c : Ch) (id : Nat) : D := .int .i64 (cmpS c.id id)
@[go_sem] abbrev n_lorder : FuncId := 121
@[go_sem] def lorder_T : Tab := [(133, sp_cmp)]
theorem lorder_T_ok : TabOk Tryz.prog lorder_T := (TabOk.cons sp_cmp_ok TabOk.nil)
set_option maxRecDepth 8000 in
set_option maxHeartbeats 1000000 in
theorem lorder_ok (c : Ch) (id : Nat)  : PureFn Tryz.prog 121 [.agg [.c (.int .u64 (c.id : Int)), .c (.int .u64 (c.loc : Int)), .c (.int .u64 (c.rem : Int)), .c (.int .u64 (c.res : Int)), .c (.int .u64 (c.most : Int)), .sl (hds c.holds), .c (.bool c.op)], .c (.int .u64 (id : Int))] (lorder_r c id) := by
  refine .of (ac121 lorder_T_ok (Nat.le_of_ble_eq_true rfl) ?_)
  simp -implicitDefEqProofs only [cdA, go_sem, Go.Proofs.Tryz.f121, reduceIte, reduceCtorEq, Nat.reduceEqDiff, Nat.reduceAdd, Nat.reduceLeDiff, Nat.reduceSub, Nat.reduceMul, Nat.reduceLT, Nat.reduceShiftRight, Nat.reduceMod, Int.reduceLE, Int.reduceLT, Int.reduceToNat, List.cons.injEq, cdB]
def sp_lorder : List D → Option (Prop × D × Fr)
  | [.agg [.c (.int .u64 z94), .c (.int .u64 z95), .c (.int .u64 z96), .c (.int .u64 z97), .c (.int .u64 z98), .c (.sl z99), .c (.bool z100)], .c (.int .u64 z101)] => some (z94 = (z94.toNat : Int) ∧ z95 = (z95.toNat : Int) ∧ z96 = (z96.toNat : Int) ∧ z97 = (z97.toNat : Int) ∧ z98 = (z98.toNat : Int) ∧ z99 = hds (dhds z99) ∧ z101 = (z101.toNat : Int), lorder_r (⟨z94.toNat, z95.toNat, z96.toNat, z97.toNat, z98.toNat, (dhds z99), z100⟩ : Ch) z101.toNat, [])
  | _ => none
attribute [go_sem] sp_lorder
theorem sp_lorder_ok : ∀ rs p r fr, sp_lorder rs = some (p, r, fr) → p → FnOk Tryz.prog 121 rs r fr := by
  intro rs p r fr h hp
  unfold sp_lorder at h
  split at h <;> cases h
  obtain ⟨hc0, hc1, hc2, hc3, hc4, hc5, hc6⟩ := hp
  rename_i z94 z95 z96 z97 z98 z99 z100 z101
  obtain ⟨z94, rfl⟩ : ∃ m : Nat, z94 = m := ⟨_, hc0⟩
  obtain ⟨z95, rfl⟩ : ∃ m : Nat, z95 = m := ⟨_, hc1⟩
  obtain ⟨z96, rfl⟩ : ∃ m : Nat, z96 = m := ⟨_, hc2⟩
  obtain ⟨z97, rfl⟩ : ∃ m : Nat, z97 = m := ⟨_, hc3⟩
  obtain ⟨z98, rfl⟩ : ∃ m : Nat, z98 = m := ⟨_, hc4⟩
  obtain ⟨z99, rfl⟩ : ∃ m, z99 = hds m := ⟨_, hc5⟩
  obtain ⟨z101, rfl⟩ : ∃ m : Nat, z101 = m := ⟨_, hc6⟩
  simp only [Int.toNat_natCast, dhds_hds]
  exact lorder_ok ⟨z94, z95, z96, z97, z98, z99, z100⟩ z101
theorem hidL_succ {l : List Ch} {i : Nat} (h : i < l.length) : hidL (l.take (i + 1)) = hidL (l.take i) ++ (l.getD i default).holds.map Hd.id := by
  rw [take_succ h, hidL, List.flatMap_append]; simp [hidL]
theorem hidL_nd {l : List Ch} {i : Nat} (h : (hidL l).Nodup) : (hidL (l.take i)).Nodup := by
  rw [← List.take_append_drop i l, hidL, List.flatMap_append] at h
  exact (List.nodup_append.1 h).1
theorem okCh_nd {c : Ch} (h : okCh c) : (c.holds.map Hd.id).Nodup := by
  have h1 := (Srt.chn_up (lt := ltN) Srt.totNat).1 h.2.2.2.2.2.1
  unfold Srt.Up at h1
  rw [List.Nodup, List.pairwise_map]
  exact h1.imp fun hlt he => by
    simp only [Hd.key, ltN] at hlt
    omega
theorem hm_keys : ∀ {l : List Ch} {s : Int}, (hm s l).map (·.1) = hidL l
  | [], _ => rfl
  | c :: l, s => by
    have e : hidL (c :: l) = c.holds.map Hd.id ++ hidL l := by simp [hidL]
    rw [hm, List.map_append, hm_keys, List.map_map, e]; rfl
theorem hm_succ {l : List Ch} {i : Nat} (h : i < l.length) : hm 0 (l.take (i + 1)) = hm 0 (l.take i) ++ (l.getD i default).holds.map fun x => (x.id, (i : Int)) := by
  have key : ∀ (l : List Ch) (s : Int) (c : Ch), hm s (l ++ [c]) = hm s l ++ c.holds.map fun x => (x.id, s + l.length) := by
    intro l
    induction l with
    | nil => intro s c; simp [hm]
    | cons d l ih =>
      intro s c
      rw [List.cons_append, hm, ih, hm, List.append_assoc]
      simp only [List.length_cons]
      rw [show s + ((l.length + 1 : Nat) : Int) = s + 1 + l.length by omega]
  rw [take_succ h, key]
  simp only [Int.zero_add, List.length_take]
  rw [show min i l.length = i by omega]
@[go_sem] def lread_r (l : List Ch) : D := .tup [.c (.map [.int .u64] (kvF .u64 .i64 (readL l).1)), .int .i64 (readL l).2]
@[go_sem] abbrev n_lread : FuncId := 87
@[go_sem] def lread_T : Tab := [(145, sp_call), (31, sp_monadd), (121, sp_lorder)]
theorem lread_T_ok : TabOk Tryz.prog lread_T := (TabOk.cons sp_call_ok (TabOk.cons sp_monadd_ok (TabOk.cons sp_lorder_ok TabOk.nil)))
set_option maxRecDepth 8000 in
set_option maxHeartbeats 1000000 in
theorem lread_ok (l : List Ch)  : PureFn Tryz.prog 87 [.sl (chs l)] (lread_r l) := by
  refine .of (ac87 lread_T_ok (Nat.le_of_ble_eq_true rfl) ?_)
  simp -implicitDefEqProofs only [cdA, go_sem, Go.Proofs.Tryz.f87, reduceIte, reduceCtorEq, Nat.reduceEqDiff, Nat.reduceAdd, Nat.reduceLeDiff, Nat.reduceSub, Nat.reduceMul, Nat.reduceLT, Nat.reduceShiftRight, Nat.reduceMod, Int.reduceLE, Int.reduceLT, Int.reduceToNat, List.cons.injEq, cdB]
  have hbad : ¬ okLd l → kvF .u64 .i64 (readL l).1 = [] ∧ 1 = (readL l).2 := fun h => by rw [readL, if_neg h]; exact ⟨rfl, rfl⟩
  refine fun hl => ⟨fun h1 => hbad fun h => ?_, fun h1 _ => ?_⟩
  · have := h.1; omega
  refine SWp.loop (ι := { i : Nat // i ≤ l.length ∧ (∀ c ∈ l.take i, okCh c) ∧ (∀ j, j < i → 0 < j → (l.getD (j - 1) default).id < (l.getD j default).id) ∧ (hidL (l.take i)).Nodup ∧ totL (l.take i) ≤ MM }) (fun i => ⟨[(0, .sl (chs l)), (4, .mp 0), (5, .int .u64 (totL (l.take i.1) : Nat)), (18, .sl (chs l)), (19, .int .i64 l.length), (20, .int .i64 i.1)], [(0, .map [.int .u64] (kvN .u64 .i64 (hm 0 (l.take i.1))))], 1⟩) (fun i => l.length - i.1) ⟨0, by simp [hidL, totL]⟩ ?_ ?_
  · simp [go_sem, totL]; rfl
  · rintro ⟨i, hi, hall, ho, hn, hs⟩
    refine awp_sound lread_T_ok.toS lv87 _ _ _ rfl ?_
    simp -implicitDefEqProofs only [cdA, go_sem, reduceIte, reduceCtorEq, Nat.reduceEqDiff, Nat.reduceAdd, Nat.reduceLeDiff, Nat.reduceSub, Nat.reduceMul, Nat.reduceLT, Nat.reduceShiftRight, Nat.reduceMod, Int.reduceLE, Int.reduceLT, Int.reduceToNat, List.cons.injEq, cdB]
    refine ⟨fun h => ⟨by omega, ?_⟩, fun h => ?_⟩
    · refine ADraw.run us87_8 lread_T_ok follows_mixed (by kernel_rfl) (by kernel_rfl) ?_
      simp -implicitDefEqProofs only [cdA, go_sem, reduceIte, reduceCtorEq, Nat.reduceEqDiff, Nat.reduceAdd, Nat.reduceLeDiff, Nat.reduceSub, Nat.reduceMul, Nat.reduceLT, Nat.reduceShiftRight, Nat.reduceMod, Int.reduceLE, Int.reduceLT, Int.reduceToNat, List.cons.injEq, cdB]
      have hi' : i < l.length := by omega
      have hmem : l.getD i default ∈ l := mem_getD.2 ⟨i, hi', rfl⟩
      have hsub : ∀ {a b : List Nat}, (a ++ b).Nodup ↔ a.Nodup ∧ b.Nodup ∧ ∀ x ∈ b, x ∉ a := fun {a b} => by
        rw [List.nodup_append]
        exact and_congr_right fun _ => and_congr_right fun _ => ⟨fun h x hb ha => h x ha x hb rfl, fun h x ha y hb e => h y hb (e ▸ ha)⟩
      have hks := hidL_succ hi'
      have hts := totL_succ hi'
      have hmsu := hm_succ hi'
      have htle := totL_le (l := l) (i := i + 1)
      have htk : ∀ c, c ∈ l.take (i + 1) ↔ c ∈ l.take i ∨ c = l.getD i default := fun c => by rw [take_succ hi']; simp
      refine ⟨fun h2 => ?_, fun h2 => hbad fun h => h2 (by rw [sumsC, if_pos (h.2.1 _ hmem)])⟩
      have hc0 : okCh (l.getD i default) := sumsC_0.1 h2
      have hcn := okCh_nd hc0
      have hA := allC_le (l.getD i default)
      change totL (l.take (i + 1)) = totL (l.take i) + (sumsC (l.getD i default)).2.1 at hts
      change (sumsC (l.getD i default)).2.1 ≤ MM at hA
      have hadd : ¬ (addM [totL (l.take i), (sumsC (l.getD i default)).2.1]).2 = 0 → ¬ okLd l := fun h3 h => h3 (addM_0.2 (by
        have := h.2.2.2.2
        simp only [List.mem_cons, List.not_mem_nil, or_false, forall_eq_or_imp, forall_eq, List.sum_cons, List.sum_nil]
        unfold MM at *
        omega))
      generalize hc : l.getD i default = c at *
      refine ⟨fun h3 => ⟨?_, fun h4 => hbad fun h => ?_, fun h4 => ⟨fun h5 _ => ?_, fun h5 => hbad (hadd h5)⟩⟩, fun h3 => ⟨fun h5 _ => ?_, fun h5 => hbad (hadd h5)⟩⟩
      · rw [i64_in _ (by omega)]; omega
      · rw [i64_in _ (by omega), show ((i : Int) - 1).toNat = i - 1 by omega] at h4
        have := h.2.2.1 i hi' (by omega)
        rw [hc] at this
        simp only [ltN] at this
        have := cmpS_neg (x := ((l.getD (i - 1) default).id : Int)) (y := c.id)
        omega
      all_goals
        have hord : 0 < i → (l.getD (i - 1) default).id < c.id := fun h0 => by
          first
          | (exfalso; omega)
          | (rw [i64_in _ (by omega), show ((i : Int) - 1).toNat = i - 1 by omega] at h4
             have := cmpS_neg (x := ((l.getD (i - 1) default).id : Int)) (y := c.id)
             omega)
        have hsum := addM_1 h5
        have hsum2 := (addM_0.1 h5).2
        simp only [List.sum_cons, List.sum_nil, Nat.add_zero] at hsum hsum2
        rw [hsum]
        refine SWp.loop (ι := { k : Nat // k ≤ c.holds.length ∧ ∀ j, j < k → (c.holds.getD j default).id ∉ hidL (l.take i) }) (fun k => ⟨[(0, .sl (chs l)), (4, .mp 0), (5, .int .u64 ((totL (l.take i) + (sumsC c).2.1 : Nat) : Int)), (6, .int .i64 i), (18, .sl (chs l)), (19, .int .i64 l.length), (20, .int .i64 i), (57, .sl (hds c.holds)), (58, .int .i64 c.holds.length), (59, .int .i64 k.1)], [(0, .map [.int .u64] (kvN .u64 .i64 (hm 0 (l.take i) ++ (c.holds.take k.1).map fun x => (x.id, (i : Int)))))], 3⟩) (fun k => c.holds.length - k.1) ⟨0, by simp⟩ ?_ ?_
        · simp [go_sem]
        · rintro ⟨k, hk, hin⟩
          refine awp_sound lread_T_ok.toS lv87 _ _ _ rfl ?_
          simp -implicitDefEqProofs only [cdA, go_sem, reduceIte, reduceCtorEq, Nat.reduceEqDiff, Nat.reduceAdd, Nat.reduceLeDiff, Nat.reduceSub, Nat.reduceMul, Nat.reduceLT, Nat.reduceShiftRight, Nat.reduceMod, Int.reduceLE, Int.reduceLT, Int.reduceToNat, List.cons.injEq, cdB]
          have hkeys : ∀ m, m ≤ c.holds.length → (hm 0 (l.take i) ++ (c.holds.take m).map fun x => (x.id, (i : Int))).map (·.1) = hidL (l.take i) ++ (c.holds.take m).map Hd.id := fun m hm => by
            rw [List.map_append, hm_keys, List.map_map]; rfl
          refine ⟨fun h6 => ⟨by omega, fun a ha => hbad fun h => ?_, fun ha => ?_⟩, fun h6 => ?_⟩
          · have hk' : k < c.holds.length := by omega
            have h7 : ¬ nlk (c.holds.getD k default).id (hm 0 (l.take i) ++ (c.holds.take k).map fun x => (x.id, (i : Int))) = none := by rw [ha]; simp
            rw [nlk_none, hkeys k hk, Classical.not_not, List.mem_append] at h7
            rcases h7 with h7 | h7
            · have := hidL_nd (i := i + 1) h.2.2.2.1
              rw [hks, hsub] at this
              exact this.2.2 _ (List.mem_map.2 ⟨_, mem_getD.2 ⟨k, hk', rfl⟩, rfl⟩) h7
            · have h8 : (c.holds.take (k + 1)).map Hd.id = (c.holds.take k).map Hd.id ++ [(c.holds.getD k default).id] := by rw [take_succ hk']; simp
              have h9 : ((c.holds.take (k + 1)).map Hd.id).Nodup := by
                rw [List.map_take]; exact hcn.sublist (List.take_sublist _ _)
              rw [h8, hsub] at h9
              exact h9.2.2 _ (by simp) h7
          · have hk' : k < c.holds.length := by omega
            have h7 := nlk_none.1 ha
            rw [nset_new h7]
            rw [hkeys k hk, List.mem_append, not_or] at h7
            refine ⟨⟨k + 1, hk', fun j hj => ?_⟩, by dsimp only; omega, i64_in _ (by omega), ?_⟩
            · by_cases hji : j = k
              · subst hji; exact h7.1
              · exact hin j (by omega)
            · dsimp only
              rw [take_succ hk', List.map_append, ← List.append_assoc]; rfl
          · have hk' : k = c.holds.length := by omega
            subst hk'
            refine ⟨⟨i + 1, hi', fun d hd => ((htk d).1 hd).elim (hall d) (fun e => e ▸ hc0), fun j hj h0 => ?_, ?_, by rw [hts]; exact hsum2⟩, by dsimp only; omega, ⟨by dsimp only; rw [hts]; omega, i64_in _ (by omega)⟩, ?_⟩
            · by_cases hji : j = i
              · subst hji; rw [hc]; exact hord h0
              · exact ho j (by omega) h0
            · rw [hks, hsub]
              refine ⟨hn, hcn, fun x hx => ?_⟩
              obtain ⟨y, hy, rfl⟩ := List.mem_map.1 hx
              obtain ⟨j, hj, rfl⟩ := mem_getD.1 hy
              exact hin j (by omega)
            · dsimp only
              rw [List.take_length, hmsu]
    · have hi' : i = l.length := by omega
      subst hi'
      rw [List.take_length] at hall hn hs ⊢
      rw [readL, if_pos ⟨by omega, hall, fun j hj h0 => ho j hj h0, hn, hs⟩]
      exact ⟨⟨_, _, rfl, kvC_kvN, .refl _⟩, rfl⟩
def sp_lread : List D → Option (Prop × D × Fr)
  | [.c (.sl z107)] => some (z107 = chs (dchs z107), lread_r (dchs z107), [])
  | _ => none
attribute [go_sem] sp_lread
theorem sp_lread_ok : ∀ rs p r fr, sp_lread rs = some (p, r, fr) → p → FnOk Tryz.prog 87 rs r fr := by
  intro rs p r fr h hp
  unfold sp_lread at h
  split at h <;> cases h
  have hc0 := hp
  rename_i z107
  obtain ⟨z107, rfl⟩ : ∃ m, z107 = chs m := ⟨_, hc0⟩
  simp only [dchs_chs]
  exact lread_ok z107
@[go_sem] def lcheck_r (l : List Ch) : D := .int .i64 (chkL l)
@[go_sem] abbrev n_lcheck : FuncId := 43
@[go_sem] def lcheck_T : Tab := [(87, sp_lread)]
theorem lcheck_T_ok : TabOk Tryz.prog lcheck_T := (TabOk.cons sp_lread_ok TabOk.nil)
set_option maxRecDepth 8000 in
set_option maxHeartbeats 1000000 in
theorem lcheck_ok (l : List Ch)  : PureFn Tryz.prog 43 [.sl (chs l)] (lcheck_r l) := by
  refine .of (ac43 lcheck_T_ok (Nat.le_of_ble_eq_true rfl) ?_)
  simp -implicitDefEqProofs only [cdA, go_sem, Go.Proofs.Tryz.f43, reduceIte, reduceCtorEq, Nat.reduceEqDiff, Nat.reduceAdd, Nat.reduceLeDiff, Nat.reduceSub, Nat.reduceMul, Nat.reduceLT, Nat.reduceShiftRight, Nat.reduceMod, Int.reduceLE, Int.reduceLT, Int.reduceToNat, List.cons.injEq, cdB]
  rw [readL, chkL]; split <;> rfl
def sp_lcheck : List D → Option (Prop × D × Fr)
  | [.c (.sl z108)] => some (z108 = chs (dchs z108), lcheck_r (dchs z108), [])
  | _ => none
attribute [go_sem] sp_lcheck
theorem sp_lcheck_ok : ∀ rs p r fr, sp_lcheck rs = some (p, r, fr) → p → FnOk Tryz.prog 43 rs r fr := by
  intro rs p r fr h hp
  unfold sp_lcheck at h
  split at h <;> cases h
  have hc0 := hp
  rename_i z108
  obtain ⟨z108, rfl⟩ : ∃ m, z108 = chs m := ⟨_, hc0⟩
  simp only [dchs_chs]
  exact lcheck_ok z108
end Dm
namespace Dm
open Go Go.Proofs Go.IntWalk
@[go_sem] def hclone_r (l : List Hd) : D := .sl (hds l)
@[go_sem] abbrev n_hclone : FuncId := 140
@[go_sem] def hclone_T : Tab := []
theorem hclone_T_ok : TabOk Tryz.prog hclone_T := TabOk.nil
set_option maxRecDepth 8000 in
set_option maxHeartbeats 1000000 in
theorem hclone_ok (l : List Hd) (h : l.length ≤ 1000000) : PureFn Tryz.prog 140 [.sl (hds l)] (hclone_r l) := by
  refine .of (ac140 hclone_T_ok (Nat.le_of_ble_eq_true rfl) ?_)
  simp -implicitDefEqProofs only [cdA, go_sem, Go.Proofs.Tryz.f140, reduceIte, reduceCtorEq, Nat.reduceEqDiff, Nat.reduceAdd, Nat.reduceLeDiff, Nat.reduceSub, Nat.reduceMul, Nat.reduceLT, Nat.reduceShiftRight, Nat.reduceMod, Int.reduceLE, Int.reduceLT, Int.reduceToNat, List.cons.injEq, cdB]
  exact fun b hb => ⟨hb, fun _ => ⟨by omega, _, _, _, rfl⟩⟩
@[go_sem] def hclone_p (l : List Hd) : Prop := (l.length ≤ 1000000)
def sp_hclone : List D → Option (Prop × D × Fr)
  | [.c (.sl z171)] => some (z171 = hds (dhds z171) ∧ hclone_p (dhds z171), hclone_r (dhds z171), [])
  | _ => none
attribute [go_sem] sp_hclone
theorem sp_hclone_ok : ∀ rs p r fr, sp_hclone rs = some (p, r, fr) → p → FnOk Tryz.prog 140 rs r fr := by
  intro rs p r fr h hp
  unfold sp_hclone at h
  split at h <;> cases h
  obtain ⟨hc0, hp⟩ := hp
  rename_i z171
  obtain ⟨z171, rfl⟩ : ∃ m, z171 = hds m := ⟨_, hc0⟩
  simp only [dhds_hds]
  simp only [dhds_hds, hclone_p] at hp
  exact hclone_ok z171 hp
@[go_sem] def own_r (c : Ch) : D := .agg [.int .u64 c.id, .int .u64 c.loc, .int .u64 c.rem, .int .u64 c.res, .int .u64 c.most, .sl (hds c.holds), .bool c.op]
@[go_sem] abbrev n_own : FuncId := 124
@[go_sem] def own_T : Tab := [(140, sp_hclone)]
theorem own_T_ok : TabOk Tryz.prog own_T := (TabOk.cons sp_hclone_ok TabOk.nil)
set_option maxRecDepth 8000 in
set_option maxHeartbeats 1000000 in
theorem own_ok (c : Ch) (h : c.holds.length ≤ 1000000) : PureFn Tryz.prog 124 [.agg [.c (.int .u64 (c.id : Int)), .c (.int .u64 (c.loc : Int)), .c (.int .u64 (c.rem : Int)), .c (.int .u64 (c.res : Int)), .c (.int .u64 (c.most : Int)), .sl (hds c.holds), .c (.bool c.op)]] (own_r c) := by
  refine .of (ac124 own_T_ok (Nat.le_of_ble_eq_true rfl) ?_)
  simp -implicitDefEqProofs only [cdA, go_sem, Go.Proofs.Tryz.f124, reduceIte, reduceCtorEq, Nat.reduceEqDiff, Nat.reduceAdd, Nat.reduceLeDiff, Nat.reduceSub, Nat.reduceMul, Nat.reduceLT, Nat.reduceShiftRight, Nat.reduceMod, Int.reduceLE, Int.reduceLT, Int.reduceToNat, List.cons.injEq, cdB]
  exact h
@[go_sem] def own_p (c : Ch) : Prop := (c.holds.length ≤ 1000000)
def sp_own : List D → Option (Prop × D × Fr)
  | [.agg [.c (.int .u64 z173), .c (.int .u64 z174), .c (.int .u64 z175), .c (.int .u64 z176), .c (.int .u64 z177), .c (.sl z178), .c (.bool z179)]] => some (z173 = (z173.toNat : Int) ∧ z174 = (z174.toNat : Int) ∧ z175 = (z175.toNat : Int) ∧ z176 = (z176.toNat : Int) ∧ z177 = (z177.toNat : Int) ∧ z178 = hds (dhds z178) ∧ own_p (⟨z173.toNat, z174.toNat, z175.toNat, z176.toNat, z177.toNat, (dhds z178), z179⟩ : Ch), own_r (⟨z173.toNat, z174.toNat, z175.toNat, z176.toNat, z177.toNat, (dhds z178), z179⟩ : Ch), [])
  | _ => none
attribute [go_sem] sp_own
theorem sp_own_ok : ∀ rs p r fr, sp_own rs = some (p, r, fr) → p → FnOk Tryz.prog 124 rs r fr := by
  intro rs p r fr h hp
  unfold sp_own at h
  split at h <;> cases h
  obtain ⟨hc0, hc1, hc2, hc3, hc4, hc5, hp⟩ := hp
  rename_i z173 z174 z175 z176 z177 z178 z179
  obtain ⟨z173, rfl⟩ : ∃ m : Nat, z173 = m := ⟨_, hc0⟩
  obtain ⟨z174, rfl⟩ : ∃ m : Nat, z174 = m := ⟨_, hc1⟩
  obtain ⟨z175, rfl⟩ : ∃ m : Nat, z175 = m := ⟨_, hc2⟩
  obtain ⟨z176, rfl⟩ : ∃ m : Nat, z176 = m := ⟨_, hc3⟩
  obtain ⟨z177, rfl⟩ : ∃ m : Nat, z177 = m := ⟨_, hc4⟩
  obtain ⟨z178, rfl⟩ : ∃ m, z178 = hds m := ⟨_, hc5⟩
  simp only [Int.toNat_natCast, dhds_hds]
  simp only [Int.toNat_natCast, dhds_hds, own_p] at hp
  exact own_ok ⟨z173, z174, z175, z176, z177, z178, z179⟩ hp
def placeL (l : List Ch) (id : Nat) : Int × Int := if okLd l then (if Srt.thr Ch.id ltN l id = true then ((Srt.pos Ch.id ltN l id : Nat), 0) else (0, 5)) else (0, 1)
@[go_sem] def place_r (l : List Ch) (id : Nat) : D := .tup [.int .i64 (placeL l id).1, .int .i64 (placeL l id).2]
@[go_sem] abbrev n_place : FuncId := 136
@[go_sem] def place_T : Tab := [(43, sp_lcheck), (121, sp_lorder)]
theorem place_T_ok : TabOk Tryz.prog place_T := (TabOk.cons sp_lcheck_ok (TabOk.cons sp_lorder_ok TabOk.nil))
set_option maxRecDepth 8000 in
set_option maxHeartbeats 1000000 in
theorem place_ok (l : List Ch) (id : Nat)  : PureFn Tryz.prog 136 [.sl (chs l), .c (.int .u64 (id : Int))] (place_r l id) := by
  refine .of (ac136 place_T_ok (Nat.le_of_ble_eq_true rfl) ?_)
  simp -implicitDefEqProofs only [cdA, go_sem, Go.Proofs.Tryz.f136, reduceIte, reduceCtorEq, Nat.reduceEqDiff, Nat.reduceAdd, Nat.reduceLeDiff, Nat.reduceSub, Nat.reduceMul, Nat.reduceLT, Nat.reduceShiftRight, Nat.reduceMod, Int.reduceLE, Int.reduceLT, Int.reduceToNat, List.cons.injEq, cdB]
  have hcz : chkL l = 0 ↔ okLd l := by unfold chkL; split <;> simp_all
  refine ⟨fun hok0 => ?_, fun hno0 => by
    have hno : ¬ okLd l := fun h => hno0 (hcz.2 h)
    rw [placeL, chkL, if_neg hno, if_neg hno]; exact ⟨rfl, rfl⟩⟩
  have hok := hcz.1 hok0
  have hu : Srt.Up Ch.id ltN l := (Srt.chn_up (lt := ltN) Srt.totNat).1 hok.2.2.1
  have hl32 := hok.1
  refine ac120 place_T_ok (Nat.le_of_ble_eq_true rfl) ?_
  simp -implicitDefEqProofs only [cdA, go_sem, Go.Proofs.Tryz.f120, reduceIte, reduceCtorEq, Nat.reduceEqDiff, Nat.reduceAdd, Nat.reduceLeDiff, Nat.reduceSub, Nat.reduceMul, Nat.reduceLT, Nat.reduceShiftRight, Nat.reduceMod, Int.reduceLE, Int.reduceLT, Int.reduceToNat, List.cons.injEq, cdB]
  refine fun _ => SWp.loop (ι := { x : Nat × Nat // x.1 ≤ x.2 ∧ x.2 ≤ l.length ∧ (∀ k, k < x.1 → (l.getD k default).id < id) ∧ ∀ k, x.2 ≤ k → k < l.length → ¬ (l.getD k default).id < id }) (fun x => ⟨[(0, .sl (chs l)), (1, .int .u64 id), (2, .fn (.func 121) [] []), (8, .int .i64 l.length), (9, .int .i64 x.1.1), (10, .int .i64 x.1.2)], [], 0⟩) (fun x => x.1.2 - x.1.1) ⟨(0, l.length), by simp, by simp, fun k hk => absurd hk (by simp), fun k h1 h2 => absurd h1 (by simpa using h2)⟩ ?_ ?_
  · simp [go_sem]
  · rintro ⟨⟨i, j⟩, hij, hj, hlo, hup⟩
    dsimp only at hij hj hlo hup
    refine awp_sound place_T_ok.toS lv120 _ _ _ rfl ?_
    simp -implicitDefEqProofs only [cdA, go_sem, reduceIte, reduceCtorEq, Nat.reduceEqDiff, Nat.reduceAdd, Nat.reduceLeDiff, Nat.reduceSub, Nat.reduceMul, Nat.reduceLT, Nat.reduceShiftRight, Nat.reduceMod, Int.reduceLE, Int.reduceLT, Int.reduceToNat, List.cons.injEq, cdB]
    rw [mid_eq hij hj ‹_›]
    refine ⟨fun h4 => ?_, fun h4 => ?_⟩
    · have hm : (i + j) / 2 < l.length := by omega
      rw [cmpS_neg, Int.toNat_natCast]
      refine ⟨by omega, fun h5 => ⟨⟨((i + j) / 2 + 1, j), by dsimp only; omega, hj, fun k hk => ?_, hup⟩, by dsimp only; omega, i64_in _ (by omega), rfl⟩, fun h5 => ⟨⟨(i, (i + j) / 2), by dsimp only; omega, by dsimp only; omega, hlo, fun k hk1 hk2 => ?_⟩, by dsimp only; omega, rfl, rfl⟩⟩
      · dsimp only at hk
        by_cases hkm : k = (i + j) / 2
        · rw [hkm]; omega
        · have := Srt.up_get.1 hu k _ (by omega) hm
          simp only [ltN] at this; omega
      · dsimp only at hk1
        by_cases hkm : k = (i + j) / 2
        · rw [hkm]; omega
        · have := Srt.up_get.1 hu ((i + j) / 2) k (by omega) hk2
          simp only [ltN] at this; omega
    · have hp : Srt.pos Ch.id ltN l id = i := Srt.pos_eq (by omega) hlo (fun h => hup i (by omega) h)
      rw [placeL, if_pos hok, Srt.thr, hp, cmpS_0]
      refine ⟨fun h5 => ⟨by omega, fun h6 => ?_, fun h6 => ?_⟩, fun h5 => ?_⟩
      · rw [if_pos (decide_eq_true ⟨by omega, by omega⟩)]; exact ⟨rfl, rfl⟩
      · rw [if_neg (by rw [decide_eq_true_iff]; omega)]; exact ⟨rfl, rfl⟩
      · rw [if_neg (by rw [decide_eq_true_iff]; omega)]; exact ⟨rfl, rfl⟩
def sp_place : List D → Option (Prop × D × Fr)
  | [.c (.sl z180), .c (.int .u64 z181)] => some (z180 = chs (dchs z180) ∧ z181 = (z181.toNat : Int), place_r (dchs z180) z181.toNat, [])
  | _ => none
attribute [go_sem] sp_place
theorem sp_place_ok : ∀ rs p r fr, sp_place rs = some (p, r, fr) → p → FnOk Tryz.prog 136 rs r fr := by
  intro rs p r fr h hp
  unfold sp_place at h
  split at h <;> cases h
  obtain ⟨hc0, hc1⟩ := hp
  rename_i z180 z181
  obtain ⟨z180, rfl⟩ : ∃ m, z180 = chs m := ⟨_, hc0⟩
  obtain ⟨z181, rfl⟩ : ∃ m : Nat, z181 = m := ⟨_, hc1⟩
  simp only [Int.toNat_natCast, dchs_chs]
  exact place_ok z180 z181
end Dm
namespace Dm
open Go Go.Proofs Go.IntWalk
@[go_sem] def cclone_r (l : List Ch) : D := .vec 0 l.length
@[go_sem] def cclone_fr (l : List Ch) : Fr := [(7, 67, true, chs l)]
@[go_sem] abbrev n_cclone : FuncId := 142
@[go_sem] def cclone_T : Tab := []
theorem cclone_T_ok : TabOk Tryz.prog cclone_T := TabOk.nil
set_option maxRecDepth 8000 in
set_option maxHeartbeats 1000000 in
theorem cclone_ok (l : List Ch) (h : l.length ≤ 1000000) : FreshFn Tryz.prog 142 [.sl (chs l)] (cclone_r l) (cclone_fr l) := by
  refine .of (ac142 cclone_T_ok (Nat.le_of_ble_eq_true rfl) ?_)
  simp -implicitDefEqProofs only [cdA, go_sem, Go.Proofs.Tryz.f142, reduceIte, reduceCtorEq, Nat.reduceEqDiff, Nat.reduceAdd, Nat.reduceLeDiff, Nat.reduceSub, Nat.reduceMul, Nat.reduceLT, Nat.reduceShiftRight, Nat.reduceMod, Int.reduceLE, Int.reduceLT, Int.reduceToNat, List.cons.injEq, cdB]
  refine fun b hb => ⟨fun h => ?_, fun h => ?_⟩
  · exact ⟨[none], by simp [go_sem, hb h], by cases l <;> simp_all [go_sem, chs]⟩
  · exact ⟨by omega, [some 0], by simp [go_sem]⟩
@[go_sem] def cclone_p (l : List Ch) : Prop := (l.length ≤ 1000000)
def sp_cclone : List D → Option (Prop × D × Fr)
  | [.c (.sl z182)] => some (z182 = chs (dchs z182) ∧ cclone_p (dchs z182), cclone_r (dchs z182), cclone_fr (dchs z182))
  | _ => none
attribute [go_sem] sp_cclone
theorem sp_cclone_ok : ∀ rs p r fr, sp_cclone rs = some (p, r, fr) → p → FnOk Tryz.prog 142 rs r fr := by
  intro rs p r fr h hp
  unfold sp_cclone at h
  split at h <;> cases h
  obtain ⟨hc0, hp⟩ := hp
  rename_i z182
  obtain ⟨z182, rfl⟩ : ∃ m, z182 = chs m := ⟨_, hc0⟩
  simp only [dchs_chs]
  simp only [dchs_chs, cclone_p] at hp
  exact (show FnOk _ _ _ _ _ from And.intro rfl (cclone_ok z182 hp))
def whereI (l : List Ch) (h : Nat) : Nat × Int := if okLd l then (match nlk h (hm 0 l) with
  | some i => ((l.getD i.toNat default).id, 0)
  | none => (0, 5)) else (0, 1)
theorem hm_range : ∀ {l : List Ch} {s : Int} {k : Nat} {a : Int}, (k, a) ∈ hm s l → s ≤ a ∧ a < s + l.length
  | [], _, _, _, h => by cases h
  | c :: l, s, k, a, h => by
    rw [hm, List.mem_append] at h
    simp only [List.length_cons]
    rcases h with h | h
    · obtain ⟨x, _, hx⟩ := List.mem_map.1 h
      cases hx
      omega
    · have := hm_range h
      omega
@[go_sem] def lwhere_r (l : List Ch) (h : Nat) : D := .tup [.int .u64 ((whereI l h).1 : Int), .int .i64 (whereI l h).2]
@[go_sem] abbrev n_lwhere : FuncId := 81
@[go_sem] def lwhere_T : Tab := [(87, sp_lread)]
theorem lwhere_T_ok : TabOk Tryz.prog lwhere_T := (TabOk.cons sp_lread_ok TabOk.nil)
set_option maxRecDepth 8000 in
set_option maxHeartbeats 1000000 in
theorem lwhere_ok (l : List Ch) (h : Nat)  : PureFn Tryz.prog 81 [.sl (chs l), .c (.int .u64 (h : Int))] (lwhere_r l h) := by
  refine .of (ac81 lwhere_T_ok (Nat.le_of_ble_eq_true rfl) ?_)
  simp -implicitDefEqProofs only [cdA, go_sem, Go.Proofs.Tryz.f81, reduceIte, reduceCtorEq, Nat.reduceEqDiff, Nat.reduceAdd, Nat.reduceLeDiff, Nat.reduceSub, Nat.reduceMul, Nat.reduceLT, Nat.reduceShiftRight, Nat.reduceMod, Int.reduceLE, Int.reduceLT, Int.reduceToNat, List.cons.injEq, cdB]
  by_cases hok : okLd l
  · have e1 : readL l = (hm 0 l, 0) := by rw [readL, if_pos hok]
    rw [e1, whereI, if_pos hok]
    refine ⟨fun _ => ⟨fun a ha => ?_, fun hn => ?_⟩, fun h => absurd rfl h⟩
    · have hnd : ((hm 0 l).map (·.1)).Nodup := by rw [hm_keys]; exact hok.2.2.2.1
      have := hm_range ((nlk_some hnd).1 ha)
      rw [ha]
      exact ⟨⟨by omega, by omega⟩, rfl, rfl⟩
    · rw [hn]; exact ⟨rfl, rfl⟩
  · have e1 : readL l = ([], 1) := by rw [readL, if_neg hok]
    rw [e1, whereI, if_neg hok]
    exact ⟨fun h => absurd h (by decide), fun _ => ⟨rfl, rfl⟩⟩
def sp_lwhere : List D → Option (Prop × D × Fr)
  | [.c (.sl z183), .c (.int .u64 z184)] => some (z183 = chs (dchs z183) ∧ z184 = (z184.toNat : Int), lwhere_r (dchs z183) z184.toNat, [])
  | _ => none
attribute [go_sem] sp_lwhere
theorem sp_lwhere_ok : ∀ rs p r fr, sp_lwhere rs = some (p, r, fr) → p → FnOk Tryz.prog 81 rs r fr := by
  intro rs p r fr h hp
  unfold sp_lwhere at h
  split at h <;> cases h
  obtain ⟨hc0, hc1⟩ := hp
  rename_i z183 z184
  obtain ⟨z183, rfl⟩ : ∃ m, z183 = chs m := ⟨_, hc0⟩
  obtain ⟨z184, rfl⟩ : ∃ m : Nat, z184 = m := ⟨_, hc1⟩
  simp only [Int.toNat_natCast, dchs_chs]
  exact lwhere_ok z183 z184
@[go_sem] def owns_r (l : List Ch) : D := .vec 0 l.length
@[go_sem] def owns_fr (l : List Ch) : Fr := [(7, 67, true, chs l)]
@[go_sem] abbrev n_owns : FuncId := 123
@[go_sem] def owns_T : Tab := [(142, sp_cclone), (124, sp_own)]
theorem owns_T_ok : TabOk Tryz.prog owns_T := (TabOk.cons sp_cclone_ok (TabOk.cons sp_own_ok TabOk.nil))
set_option maxRecDepth 8000 in
set_option maxHeartbeats 1000000 in
theorem owns_ok (l : List Ch) (h : l.length ≤ 1000000 ∧ ∀ c ∈ l, c.holds.length ≤ 1000000) : FreshFn Tryz.prog 123 [.sl (chs l)] (owns_r l) (owns_fr l) := by
  refine .of (ac123 owns_T_ok (Nat.le_of_ble_eq_true rfl) ?_)
  simp -implicitDefEqProofs only [cdA, go_sem, Go.Proofs.Tryz.f123, reduceIte, reduceCtorEq, Nat.reduceEqDiff, Nat.reduceAdd, Nat.reduceLeDiff, Nat.reduceSub, Nat.reduceMul, Nat.reduceLT, Nat.reduceShiftRight, Nat.reduceMod, Int.reduceLE, Int.reduceLT, Int.reduceToNat, List.cons.injEq, cdB]
  refine ⟨h.1, fun _ => SWp.loop (ι := { i : Nat // i ≤ l.length }) (fun i => ⟨[(0, .vec 0 l.length), (7, .vec 0 l.length), (8, .int .i64 l.length), (9, .int .i64 i.1)], [(0, .vec true 7 67 (chs l))], 1⟩) (fun i => l.length - i.1) ⟨0, by omega⟩ ?_ ?_⟩
  · simp [go_sem]
  · rintro ⟨i, hi⟩
    refine awp_sound owns_T_ok.toS lv123 _ _ _ rfl ?_
    simp -implicitDefEqProofs only [cdA, go_sem, reduceIte, reduceCtorEq, Nat.reduceEqDiff, Nat.reduceAdd, Nat.reduceLeDiff, Nat.reduceSub, Nat.reduceMul, Nat.reduceLT, Nat.reduceShiftRight, Nat.reduceMod, Int.reduceLE, Int.reduceLT, Int.reduceToNat, List.cons.injEq, cdB]
    refine ⟨fun h1 => ?_, fun _ => ⟨[some 0], by simp [go_sem]⟩⟩
    have hi' : i < l.length := by omega
    have hself : l.set i (l.getD i default) = l := by
      rw [getD_lt hi']; exact List.set_getElem_self hi'
    exact ⟨by omega, hi', h.2 _ (mem_getD.2 ⟨i, hi', rfl⟩), by omega, hi', ⟨i + 1, hi'⟩, by dsimp only; omega, i64_in _ (by omega), by rw [hself]⟩
@[go_sem] def owns_p (l : List Ch) : Prop := (l.length ≤ 1000000 ∧ ∀ c ∈ l, c.holds.length ≤ 1000000)
def sp_owns : List D → Option (Prop × D × Fr)
  | [.c (.sl z185)] => some (z185 = chs (dchs z185) ∧ owns_p (dchs z185), owns_r (dchs z185), owns_fr (dchs z185))
  | _ => none
attribute [go_sem] sp_owns
theorem sp_owns_ok : ∀ rs p r fr, sp_owns rs = some (p, r, fr) → p → FnOk Tryz.prog 123 rs r fr := by
  intro rs p r fr h hp
  unfold sp_owns at h
  split at h <;> cases h
  obtain ⟨hc0, hp⟩ := hp
  rename_i z185
  obtain ⟨z185, rfl⟩ : ∃ m, z185 = chs m := ⟨_, hc0⟩
  simp only [dchs_chs]
  simp only [dchs_chs, owns_p] at hp
  exact (show FnOk _ _ _ _ _ from And.intro rfl (owns_ok z185 hp))
end Dm
namespace Dm
open Go Go.Proofs Go.IntWalk
structure Py where
  id : Nat
  hash : Nat
  chan : Nat
  n : Nat
  state : Int
deriving DecidableEq, Inhabited
@[go_sem] def Py.enc (e : Py) : List C := [.int .u64 (e.id : Int), .int .u64 (e.hash : Int), .int .u64 (e.chan : Int), .int .u64 (e.n : Int), .int .i64 e.state]
def Py.dec : List C → Py
  | [.int .u64 z219, .int .u64 z220, .int .u64 z221, .int .u64 z222, .int .i64 z223] => (⟨z219.toNat, z220.toNat, z221.toNat, z222.toNat, z223⟩ : Py)
  | _ => default
def pys (l : List Py) : List (List C) := l.map Py.enc
def dpys (l : List (List C)) : List Py := l.map Py.dec
@[simp, go_sem] theorem pys_length (l : List Py) : (pys l).length = l.length := by simp [pys]
@[go_sem] theorem pys_get (l : List Py) (i : Nat) : (pys l).getD i [.int .u64 0, .int .u64 0, .int .u64 0, .int .u64 0, .int .i64 0] = (l.getD i default).enc := by
  simp only [pys, List.getD_eq_getElem?_getD, List.getElem?_map]
  cases l[i]? <;> rfl
@[go_sem] theorem pys_wide (l : List Py) : Wide 5 (pys l) = True := by
  simp [Wide, pys, Py.enc]
theorem Py.dec_enc (e : Py) : Py.dec e.enc = e := by
  simp [Py.enc, Py.dec]
@[go_sem] theorem dpys_pys (l : List Py) : dpys (pys l) = l := by
  simp only [dpys, pys, List.map_map]
  exact List.map_id'' (fun e => Py.dec_enc e) l
@[go_sem] theorem pys_app (a b : List Py) : pys a ++ pys b = pys (a ++ b) := by simp [pys]
@[go_sem] theorem pys_drop (l : List Py) (k : Nat) : (pys l).drop k = pys (l.drop k) := by simp [pys]
@[go_sem] theorem pys_take (l : List Py) (k : Nat) : (pys l).take k = pys (l.take k) := by simp [pys]
@[go_sem] theorem pys_one (z224 : Int) (z225 : Int) (z226 : Int) (z227 : Int) (z228 : Int) (hz224 : 0 ≤ z224) (hz225 : 0 ≤ z225) (hz226 : 0 ≤ z226) (hz227 : 0 ≤ z227) : [[C.int .u64 z224, C.int .u64 z225, C.int .u64 z226, C.int .u64 z227, C.int .i64 z228]] = pys [⟨z224.toNat, z225.toNat, z226.toNat, z227.toNat, z228⟩] := by simp [pys, Py.enc, Int.toNat_of_nonneg hz224, Int.toNat_of_nonneg hz225, Int.toNat_of_nonneg hz226, Int.toNat_of_nonneg hz227]
@[go_sem] theorem pys_set (l : List Py) (i : Nat) (z224 : Int) (z225 : Int) (z226 : Int) (z227 : Int) (z228 : Int) (hz224 : 0 ≤ z224) (hz225 : 0 ≤ z225) (hz226 : 0 ≤ z226) (hz227 : 0 ≤ z227) : (pys l).set i [C.int .u64 z224, C.int .u64 z225, C.int .u64 z226, C.int .u64 z227, C.int .i64 z228] = pys (l.set i ⟨z224.toNat, z225.toNat, z226.toNat, z227.toNat, z228⟩) := by simp [pys, List.map_set, Py.enc, Int.toNat_of_nonneg hz224, Int.toNat_of_nonneg hz225, Int.toNat_of_nonneg hz226, Int.toNat_of_nonneg hz227]
@[go_sem] theorem pys_cons (l : List Py) (z224 : Int) (z225 : Int) (z226 : Int) (z227 : Int) (z228 : Int) (hz224 : 0 ≤ z224) (hz225 : 0 ≤ z225) (hz226 : 0 ≤ z226) (hz227 : 0 ≤ z227) : [C.int .u64 z224, C.int .u64 z225, C.int .u64 z226, C.int .u64 z227, C.int .i64 z228] :: pys l = pys (⟨z224.toNat, z225.toNat, z226.toNat, z227.toNat, z228⟩ :: l) := by simp [pys, Py.enc, Int.toNat_of_nonneg hz224, Int.toNat_of_nonneg hz225, Int.toNat_of_nonneg hz226, Int.toNat_of_nonneg hz227]
@[go_sem] theorem pys_flat (l : List Py) : flatE (pys l) = True := eq_true fun x hx c hc => by
  obtain ⟨e, _, rfl⟩ := List.mem_map.1 hx
  simp only [Py.enc, List.mem_cons, List.not_mem_nil, or_false] at hc
  rcases hc with rfl | rfl | rfl | rfl | rfl <;> rfl
@[go_sem] theorem Py.eta {e : Py} : (⟨e.id, e.hash, e.chan, e.n, e.state⟩ : Py) = e := rfl
@[go_sem] theorem Py.eqD {a b : Py} : eqD Tryz.prog 50 [D.c (.int .u64 (a.id : Int)), D.c (.int .u64 (a.hash : Int)), D.c (.int .u64 (a.chan : Int)), D.c (.int .u64 (a.n : Int)), D.c (.int .i64 a.state)] [D.c (.int .u64 (b.id : Int)), D.c (.int .u64 (b.hash : Int)), D.c (.int .u64 (b.chan : Int)), D.c (.int .u64 (b.n : Int)), D.c (.int .i64 b.state)] = some (decide (a = b)) := by
  cases a; cases b
  simp only [Dm.eqD, eqOf_50, eqCells, eqC, List.getElem?_cons_zero, List.getElem?_cons_succ, if_true, Option.some.injEq, Py.mk.injEq]
  rw [Bool.eq_iff_iff]
  simp [Int.ofNat_inj]
def okPy1 (x : Py) : Prop := (x.n ≠ 0 ∧ x.n ≤ MM) ∧ 1 ≤ x.state ∧ x.state ≤ 3
instance (x : Py) : Decidable (okPy1 x) := by unfold okPy1; infer_instance
def okPy (l : List Py) : Prop := l.length ≤ 256 ∧ (∀ x ∈ l, okPy1 x) ∧ Srt.Chn Py.id ltN l
instance (l : List Py) : Decidable (Srt.Chn Py.id ltN l) := by unfold Srt.Chn; infer_instance
instance (l : List Py) : Decidable (okPy l) := by unfold okPy; infer_instance
def chkP (l : List Py) : Int := if okPy l then 0 else 1
@[go_sem] def porder_r (x : Py) (id : Nat) : D := .int .i64 (cmpS x.id id)
@[go_sem] abbrev n_porder : FuncId := 95
@[go_sem] def porder_T : Tab := [(133, sp_cmp)]
theorem porder_T_ok : TabOk Tryz.prog porder_T := (TabOk.cons sp_cmp_ok TabOk.nil)
set_option maxRecDepth 8000 in
set_option maxHeartbeats 1000000 in
theorem porder_ok (x : Py) (id : Nat)  : PureFn Tryz.prog 95 [.agg [.c (.int .u64 (x.id : Int)), .c (.int .u64 (x.hash : Int)), .c (.int .u64 (x.chan : Int)), .c (.int .u64 (x.n : Int)), .c (.int .i64 x.state)], .c (.int .u64 (id : Int))] (porder_r x id) := by
  refine .of (ac95 porder_T_ok (Nat.le_of_ble_eq_true rfl) ?_)
  simp -implicitDefEqProofs only [cdA, go_sem, Go.Proofs.Tryz.f95, reduceIte, reduceCtorEq, Nat.reduceEqDiff, Nat.reduceAdd, Nat.reduceLeDiff, Nat.reduceSub, Nat.reduceMul, Nat.reduceLT, Nat.reduceShiftRight, Nat.reduceMod, Int.reduceLE, Int.reduceLT, Int.reduceToNat, List.cons.injEq, cdB]
def sp_porder : List D → Option (Prop × D × Fr)
  | [.agg [.c (.int .u64 z230), .c (.int .u64 z231), .c (.int .u64 z232), .c (.int .u64 z233), .c (.int .i64 z234)], .c (.int .u64 z235)] => some (z230 = (z230.toNat : Int) ∧ z231 = (z231.toNat : Int) ∧ z232 = (z232.toNat : Int) ∧ z233 = (z233.toNat : Int) ∧ z235 = (z235.toNat : Int), porder_r (⟨z230.toNat, z231.toNat, z232.toNat, z233.toNat, z234⟩ : Py) z235.toNat, [])
  | _ => none
attribute [go_sem] sp_porder
theorem sp_porder_ok : ∀ rs p r fr, sp_porder rs = some (p, r, fr) → p → FnOk Tryz.prog 95 rs r fr := by
  intro rs p r fr h hp
  unfold sp_porder at h
  split at h <;> cases h
  obtain ⟨hc0, hc1, hc2, hc3, hc4⟩ := hp
  rename_i z230 z231 z232 z233 z234 z235
  obtain ⟨z230, rfl⟩ : ∃ m : Nat, z230 = m := ⟨_, hc0⟩
  obtain ⟨z231, rfl⟩ : ∃ m : Nat, z231 = m := ⟨_, hc1⟩
  obtain ⟨z232, rfl⟩ : ∃ m : Nat, z232 = m := ⟨_, hc2⟩
  obtain ⟨z233, rfl⟩ : ∃ m : Nat, z233 = m := ⟨_, hc3⟩
  obtain ⟨z235, rfl⟩ : ∃ m : Nat, z235 = m := ⟨_, hc4⟩
  simp only [Int.toNat_natCast]
  exact porder_ok ⟨z230, z231, z232, z233, z234⟩ z235
@[go_sem] def pmay_r (p : Py) : D := .bool (decide (okPy1 p))
@[go_sem] abbrev n_pmay : FuncId := 73
@[go_sem] def pmay_T : Tab := [(29, sp_moncheck)]
theorem pmay_T_ok : TabOk Tryz.prog pmay_T := (TabOk.cons sp_moncheck_ok TabOk.nil)
set_option maxRecDepth 8000 in
set_option maxHeartbeats 1000000 in
theorem pmay_ok (p : Py)  : PureFn Tryz.prog 73 [.agg [.c (.int .u64 (p.id : Int)), .c (.int .u64 (p.hash : Int)), .c (.int .u64 (p.chan : Int)), .c (.int .u64 (p.n : Int)), .c (.int .i64 p.state)]] (pmay_r p) := by
  refine .of (ac73 pmay_T_ok (Nat.le_of_ble_eq_true rfl) ?_)
  simp -implicitDefEqProofs only [cdA, go_sem, Go.Proofs.Tryz.f73, reduceIte, reduceCtorEq, Nat.reduceEqDiff, Nat.reduceAdd, Nat.reduceLeDiff, Nat.reduceSub, Nat.reduceMul, Nat.reduceLT, Nat.reduceShiftRight, Nat.reduceMod, Int.reduceLE, Int.reduceLT, Int.reduceToNat, List.cons.injEq, cdB]
  have hm : monS [p.n] = 0 ↔ p.n ≤ MM := mon1_0
  rw [hm]
  have ho : okPy1 p ↔ (p.n ≠ 0 ∧ p.n ≤ MM) ∧ 1 ≤ p.state ∧ p.state ≤ 3 := .rfl
  rw [show decide (okPy1 p) = decide ((p.n ≠ 0 ∧ p.n ≤ MM) ∧ 1 ≤ p.state ∧ p.state ≤ 3) from decide_eq_decide.2 ho]
  refine ⟨fun h => ⟨fun h2 => ⟨fun h3 => ?_, fun h3 => ?_⟩, fun h2 => ?_⟩, fun h => ?_⟩
  · rw [decide_eq_decide]; exact ⟨fun h4 => ⟨⟨by omega, h2⟩, h3, h4⟩, fun h4 => h4.2.2⟩
  · exact (decide_eq_false fun h4 => h3 h4.2.1).symm
  · exact (decide_eq_false fun h4 => h2 h4.1.2).symm
  · exact (decide_eq_false fun h4 => h4.1.1 (by omega)).symm
def sp_pmay : List D → Option (Prop × D × Fr)
  | [.agg [.c (.int .u64 z237), .c (.int .u64 z238), .c (.int .u64 z239), .c (.int .u64 z240), .c (.int .i64 z241)]] => some (z237 = (z237.toNat : Int) ∧ z238 = (z238.toNat : Int) ∧ z239 = (z239.toNat : Int) ∧ z240 = (z240.toNat : Int), pmay_r (⟨z237.toNat, z238.toNat, z239.toNat, z240.toNat, z241⟩ : Py), [])
  | _ => none
attribute [go_sem] sp_pmay
theorem sp_pmay_ok : ∀ rs p r fr, sp_pmay rs = some (p, r, fr) → p → FnOk Tryz.prog 73 rs r fr := by
  intro rs p r fr h hp
  unfold sp_pmay at h
  split at h <;> cases h
  obtain ⟨hc0, hc1, hc2, hc3⟩ := hp
  rename_i z237 z238 z239 z240 z241
  obtain ⟨z237, rfl⟩ : ∃ m : Nat, z237 = m := ⟨_, hc0⟩
  obtain ⟨z238, rfl⟩ : ∃ m : Nat, z238 = m := ⟨_, hc1⟩
  obtain ⟨z239, rfl⟩ : ∃ m : Nat, z239 = m := ⟨_, hc2⟩
  obtain ⟨z240, rfl⟩ : ∃ m : Nat, z240 = m := ⟨_, hc3⟩
  simp only [Int.toNat_natCast]
  exact pmay_ok ⟨z237, z238, z239, z240, z241⟩
@[go_sem] def pcheck_r (l : List Py) : D := .int .i64 (chkP l)
@[go_sem] abbrev n_pcheck : FuncId := 93
@[go_sem] def pcheck_T : Tab := [(73, sp_pmay), (95, sp_porder)]
theorem pcheck_T_ok : TabOk Tryz.prog pcheck_T := (TabOk.cons sp_pmay_ok (TabOk.cons sp_porder_ok TabOk.nil))
set_option maxRecDepth 8000 in
set_option maxHeartbeats 1000000 in
theorem pcheck_ok (l : List Py)  : PureFn Tryz.prog 93 [.sl (pys l)] (pcheck_r l) := by
  refine .of (ac93 pcheck_T_ok (Nat.le_of_ble_eq_true rfl) ?_)
  simp -implicitDefEqProofs only [cdA, go_sem, Go.Proofs.Tryz.f93, reduceIte, reduceCtorEq, Nat.reduceEqDiff, Nat.reduceAdd, Nat.reduceLeDiff, Nat.reduceSub, Nat.reduceMul, Nat.reduceLT, Nat.reduceShiftRight, Nat.reduceMod, Int.reduceLE, Int.reduceLT, Int.reduceToNat, List.cons.injEq, cdB]
  have hbad : ¬ okPy l → 1 = chkP l := fun h => by rw [chkP, if_neg h]
  refine fun _ => ⟨fun h => hbad fun ho => ?_, fun h _ => ?_⟩
  · have := ho.1; omega
  refine SWp.loop (ι := { i : Nat // i ≤ l.length ∧ (∀ j, j < i → okPy1 (l.getD j default) ∧ (0 < j → (l.getD (j - 1) default).id < (l.getD j default).id)) }) (fun i => ⟨[(0, .sl (pys l)), (8, .sl (pys l)), (9, .int .i64 l.length), (10, .int .i64 i.1)], [], 0⟩) (fun i => l.length - i.1) ⟨0, by simp⟩ ?_ ?_
  · simp [go_sem]
  · rintro ⟨i, hi, hall⟩
    refine awp_sound pcheck_T_ok.toS lv93 _ _ _ rfl ?_
    simp -implicitDefEqProofs only [cdA, go_sem, reduceIte, reduceCtorEq, Nat.reduceEqDiff, Nat.reduceAdd, Nat.reduceLeDiff, Nat.reduceSub, Nat.reduceMul, Nat.reduceLT, Nat.reduceShiftRight, Nat.reduceMod, Int.reduceLE, Int.reduceLT, Int.reduceToNat, List.cons.injEq, cdB]
    refine ⟨fun h1 => ⟨by omega, ?_⟩, fun h1 => ?_⟩
    · refine ADraw.run us93_6 pcheck_T_ok follows_mixed (by kernel_rfl) (by kernel_rfl) ?_
      simp -implicitDefEqProofs only [cdA, go_sem, reduceIte, reduceCtorEq, Nat.reduceEqDiff, Nat.reduceAdd, Nat.reduceLeDiff, Nat.reduceSub, Nat.reduceMul, Nat.reduceLT, Nat.reduceShiftRight, Nat.reduceMod, Int.reduceLE, Int.reduceLT, Int.reduceToNat, List.cons.injEq, cdB]
      have hi' : i < l.length := by omega
      have hm : okPy l → okPy1 (l.getD i default) := fun h => h.2.1 _ (mem_getD.2 ⟨i, hi', rfl⟩)
      refine ⟨fun h2 => ?_, fun h2 => hbad fun h => h2 (hm h)⟩
      have hnext : (0 < i → (l.getD (i - 1) default).id < (l.getD i default).id) → ∃ i_1 : { i : Nat // i ≤ l.length ∧ (∀ j, j < i → okPy1 (l.getD j default) ∧ (0 < j → (l.getD (j - 1) default).id < (l.getD j default).id)) }, l.length - i_1.val < l.length - i ∧ IntKind.i64.wrap ((i : Int) + 1) = i_1.val := fun ho => by
        refine ⟨⟨i + 1, hi', fun j hj => ?_⟩, by dsimp only; omega, i64_in _ (by omega)⟩
        by_cases hji : j = i
        · subst hji; exact ⟨h2, ho⟩
        · exact hall j (by omega)
      refine ⟨fun h3 => ?_, fun h3 => hnext fun h => absurd h (by omega)⟩
      rw [i64_in _ (by omega), show ((i : Int) - 1).toNat = i - 1 by omega]
      have hc : ∀ a b : Nat, 0 ≤ cmpS a b ↔ ¬ a < b := fun a b => by
        have := cmpS_neg (x := a) (y := b); omega
      rw [hc]
      exact ⟨by omega, fun h4 => hbad fun h => h4 (h.2.2 i hi' (by omega)), fun h4 => hnext fun _ => by omega⟩
    · have hi' : i = l.length := by omega
      subst hi'
      rw [chkP, if_pos]
      exact ⟨by omega, fun x hx => by obtain ⟨j, hj, rfl⟩ := mem_getD.1 hx; exact (hall j hj).1, fun j hj h0 => (hall j hj).2 h0⟩
def sp_pcheck : List D → Option (Prop × D × Fr)
  | [.c (.sl z242)] => some (z242 = pys (dpys z242), pcheck_r (dpys z242), [])
  | _ => none
attribute [go_sem] sp_pcheck
theorem sp_pcheck_ok : ∀ rs p r fr, sp_pcheck rs = some (p, r, fr) → p → FnOk Tryz.prog 93 rs r fr := by
  intro rs p r fr h hp
  unfold sp_pcheck at h
  split at h <;> cases h
  have hc0 := hp
  rename_i z242
  obtain ⟨z242, rfl⟩ : ∃ m, z242 = pys m := ⟨_, hc0⟩
  simp only [dpys_pys]
  exact pcheck_ok z242
def findP (l : List Py) (id : Nat) : Int × Int := if okPy l then ((Srt.pos Py.id ltN l id : Nat), if Srt.thr Py.id ltN l id = true then 0 else 5) else (0, 1)
@[go_sem] def pfind_r (l : List Py) (id : Nat) : D := .tup [.int .i64 (findP l id).1, .int .i64 (findP l id).2]
@[go_sem] abbrev n_pfind : FuncId := 48
@[go_sem] def pfind_T : Tab := [(93, sp_pcheck), (95, sp_porder)]
theorem pfind_T_ok : TabOk Tryz.prog pfind_T := (TabOk.cons sp_pcheck_ok (TabOk.cons sp_porder_ok TabOk.nil))
set_option maxRecDepth 8000 in
set_option maxHeartbeats 1000000 in
theorem pfind_ok (l : List Py) (id : Nat)  : PureFn Tryz.prog 48 [.sl (pys l), .c (.int .u64 (id : Int))] (pfind_r l id) := by
  refine .of (ac48 pfind_T_ok (Nat.le_of_ble_eq_true rfl) ?_)
  simp -implicitDefEqProofs only [cdA, go_sem, Go.Proofs.Tryz.f48, reduceIte, reduceCtorEq, Nat.reduceEqDiff, Nat.reduceAdd, Nat.reduceLeDiff, Nat.reduceSub, Nat.reduceMul, Nat.reduceLT, Nat.reduceShiftRight, Nat.reduceMod, Int.reduceLE, Int.reduceLT, Int.reduceToNat, List.cons.injEq, cdB]
  have hcz : chkP l = 0 ↔ okPy l := by unfold chkP; split <;> simp_all
  refine ⟨fun hok0 => ?_, fun hno0 => by
    have hno : ¬ okPy l := fun h => hno0 (hcz.2 h)
    rw [findP, chkP, if_neg hno, if_neg hno]; exact ⟨rfl, rfl⟩⟩
  have hok := hcz.1 hok0
  have hu : Srt.Up Py.id ltN l := (Srt.chn_up (lt := ltN) Srt.totNat).1 hok.2.2
  have hl32 := hok.1
  refine ac94 pfind_T_ok (Nat.le_of_ble_eq_true rfl) ?_
  simp -implicitDefEqProofs only [cdA, go_sem, Go.Proofs.Tryz.f94, reduceIte, reduceCtorEq, Nat.reduceEqDiff, Nat.reduceAdd, Nat.reduceLeDiff, Nat.reduceSub, Nat.reduceMul, Nat.reduceLT, Nat.reduceShiftRight, Nat.reduceMod, Int.reduceLE, Int.reduceLT, Int.reduceToNat, List.cons.injEq, cdB]
  refine fun _ => SWp.loop (ι := { x : Nat × Nat // x.1 ≤ x.2 ∧ x.2 ≤ l.length ∧ (∀ k, k < x.1 → (l.getD k default).id < id) ∧ ∀ k, x.2 ≤ k → k < l.length → ¬ (l.getD k default).id < id }) (fun x => ⟨[(0, .sl (pys l)), (1, .int .u64 id), (2, .fn (.func 95) [] []), (8, .int .i64 l.length), (9, .int .i64 x.1.1), (10, .int .i64 x.1.2)], [], 0⟩) (fun x => x.1.2 - x.1.1) ⟨(0, l.length), by simp, by simp, fun k hk => absurd hk (by simp), fun k h1 h2 => absurd h1 (by simpa using h2)⟩ ?_ ?_
  · simp [go_sem]
  · rintro ⟨⟨i, j⟩, hij, hj, hlo, hup⟩
    dsimp only at hij hj hlo hup
    refine awp_sound pfind_T_ok.toS lv94 _ _ _ rfl ?_
    simp -implicitDefEqProofs only [cdA, go_sem, reduceIte, reduceCtorEq, Nat.reduceEqDiff, Nat.reduceAdd, Nat.reduceLeDiff, Nat.reduceSub, Nat.reduceMul, Nat.reduceLT, Nat.reduceShiftRight, Nat.reduceMod, Int.reduceLE, Int.reduceLT, Int.reduceToNat, List.cons.injEq, cdB]
    rw [mid_eq hij hj ‹_›]
    refine ⟨fun h4 => ?_, fun h4 => ?_⟩
    · have hm : (i + j) / 2 < l.length := by omega
      rw [cmpS_neg, Int.toNat_natCast]
      refine ⟨by omega, fun h5 => ⟨⟨((i + j) / 2 + 1, j), by dsimp only; omega, hj, fun k hk => ?_, hup⟩, by dsimp only; omega, i64_in _ (by omega), rfl⟩, fun h5 => ⟨⟨(i, (i + j) / 2), by dsimp only; omega, by dsimp only; omega, hlo, fun k hk1 hk2 => ?_⟩, by dsimp only; omega, rfl, rfl⟩⟩
      · dsimp only at hk
        by_cases hkm : k = (i + j) / 2
        · rw [hkm]; omega
        · have := Srt.up_get.1 hu k _ (by omega) hm
          simp only [ltN] at this; omega
      · dsimp only at hk1
        by_cases hkm : k = (i + j) / 2
        · rw [hkm]; omega
        · have := Srt.up_get.1 hu ((i + j) / 2) k (by omega) hk2
          simp only [ltN] at this; omega
    · have hp : Srt.pos Py.id ltN l id = i := Srt.pos_eq (by omega) hlo (fun h => hup i (by omega) h)
      rw [findP, if_pos hok, Srt.thr, hp, cmpS_0]
      refine ⟨fun h5 => ⟨by omega, fun h6 => ?_, fun h6 => ?_⟩, fun h5 => ?_⟩
      · rw [if_pos (decide_eq_true ⟨by omega, by omega⟩)]; exact ⟨rfl, rfl⟩
      · rw [if_neg (by rw [decide_eq_true_iff]; omega)]; exact ⟨rfl, rfl⟩
      · rw [if_neg (by rw [decide_eq_true_iff]; omega)]; exact ⟨rfl, rfl⟩
def sp_pfind : List D → Option (Prop × D × Fr)
  | [.c (.sl z243), .c (.int .u64 z244)] => some (z243 = pys (dpys z243) ∧ z244 = (z244.toNat : Int), pfind_r (dpys z243) z244.toNat, [])
  | _ => none
attribute [go_sem] sp_pfind
theorem sp_pfind_ok : ∀ rs p r fr, sp_pfind rs = some (p, r, fr) → p → FnOk Tryz.prog 48 rs r fr := by
  intro rs p r fr h hp
  unfold sp_pfind at h
  split at h <;> cases h
  obtain ⟨hc0, hc1⟩ := hp
  rename_i z243 z244
  obtain ⟨z243, rfl⟩ : ∃ m, z243 = pys m := ⟨_, hc0⟩
  obtain ⟨z244, rfl⟩ : ∃ m : Nat, z244 = m := ⟨_, hc1⟩
  simp only [Int.toNat_natCast, dpys_pys]
  exact pfind_ok z243 z244
end Dm
namespace Dm
open Go Go.Proofs Go.IntWalk
def hlC (c : Ch) : List K3 := c.holds.map fun h => (c.id, h.id, h.n)
def hlL (cs : List Ch) : List K3 := cs.flatMap hlC
def pend (l : List Py) : List Py := l.filter fun p => decide (p.state = 1)
def agrL (l : List Py) (cs : List Ch) : Bool × Int := if okPy l ∧ cs.length ≤ 32 ∧ (cs.map Ch.id).Nodup then (decide ((∀ p ∈ pend l, (p.chan, p.id, p.n) ∈ hlL cs) ∧ (hlL cs).length = (pend l).length), 0) else (false, 1)
theorem hl_len : ∀ {cs : List Ch} {n : Nat}, (∀ c ∈ cs, c.holds.length ≤ 1000000) → cs.length ≤ n → (hlL cs).length ≤ n * 1000000
  | [], n, _, _ => by simp [hlL]
  | c :: cs, n, h, hn => by
    have h1 : hlL (c :: cs) = hlC c ++ hlL cs := rfl
    rw [h1, List.length_append]
    have h2 : (hlC c).length ≤ 1000000 := by unfold hlC; rw [List.length_map]; exact h c (.head _)
    have h3 := hl_len (cs := cs) (n := cs.length) (fun d hd => h d (.tail _ hd)) (Nat.le_refl _)
    simp only [List.length_cons] at hn
    omega
@[go_sem] def pagree_r (l : List Py) (cs : List Ch) : D := .tup [.bool (agrL l cs).1, .int .i64 (agrL l cs).2]
@[go_sem] abbrev n_pagree : FuncId := 47
@[go_sem] def pagree_T : Tab := [(93, sp_pcheck)]
theorem pagree_T_ok : TabOk Tryz.prog pagree_T := (TabOk.cons sp_pcheck_ok TabOk.nil)
set_option maxRecDepth 8000 in
set_option maxHeartbeats 1000000 in
theorem pagree_ok (l : List Py) (cs : List Ch) (hs : ∀ c ∈ cs, c.holds.length ≤ 1000000) : PureFn Tryz.prog 47 [.sl (pys l), .sl (chs cs)] (pagree_r l cs) := by
  refine .of (ac47 pagree_T_ok (Nat.le_of_ble_eq_true rfl) ?_)
  simp -implicitDefEqProofs only [cdA, go_sem, Go.Proofs.Tryz.f47, reduceIte, reduceCtorEq, Nat.reduceEqDiff, Nat.reduceAdd, Nat.reduceLeDiff, Nat.reduceSub, Nat.reduceMul, Nat.reduceLT, Nat.reduceShiftRight, Nat.reduceMod, Int.reduceLE, Int.reduceLT, Int.reduceToNat, List.cons.injEq, cdB]
  have hbad : ¬ (okPy l ∧ cs.length ≤ 32 ∧ (cs.map Ch.id).Nodup) → false = (agrL l cs).1 ∧ 1 = (agrL l cs).2 := fun h => by rw [agrL, if_neg h]; exact ⟨rfl, rfl⟩
  have hcz : chkP l = 0 ↔ okPy l := by unfold chkP; split <;> rename_i h <;> simp only [h] <;> decide
  refine ⟨fun h0 hl => ⟨fun h => hbad fun ho => ?_, fun hle _ => ?_⟩, fun h0 => hbad fun h => h0 (hcz.2 h.1)⟩
  · have := ho.2.1; omega
  have hok := hcz.1 h0
  refine SWp.loop (ι := { x : Nat × List (K3 × Int) × List (Nat × Int) // x.1 ≤ cs.length ∧ ((cs.take x.1).map Ch.id).Nodup ∧ (∀ k, (alk k x.2.1).getD 0 = (List.count k (hlL (cs.take x.1)) : Nat)) ∧ (∀ k, (nlk k x.2.2).getD 0 = (List.count k ((cs.take x.1).map Ch.id) : Nat)) })
    (fun x => ⟨[(0, .sl (pys l)), (6, .mp 0), (7, .mp 1), (8, .int .i64 (hlL (cs.take x.1.1)).length), (25, .sl (chs cs)), (26, .int .i64 cs.length), (27, .int .i64 x.1.1)], [(1, .map [.int .u64] (kvN .u64 .i64 x.1.2.2)), (0, .map [.int .u64, .int .u64, .int .u64] (kv3 x.1.2.1))], 2⟩) (fun x => cs.length - x.1.1)
    ⟨(0, [], []), by simp, by simp, fun k => by simp [alk, hlL], fun k => by simp [nlk]⟩ ?_ ?_
  · simp [go_sem, kvN, kv3, hlL]
  · rintro ⟨⟨i, m, ids⟩, hi, hnd, hm, hids⟩
    dsimp only at hi hnd hm hids
    refine awp_sound pagree_T_ok.toS lv47 _ _ _ rfl ?_
    simp -implicitDefEqProofs only [cdA, go_sem, okL_z, reduceIte, reduceCtorEq, Nat.reduceEqDiff, Nat.reduceAdd, Nat.reduceLeDiff, Nat.reduceSub, Nat.reduceMul, Nat.reduceLT, Nat.reduceShiftRight, Nat.reduceMod, Int.reduceLE, Int.reduceLT, Int.reduceToNat, List.cons.injEq, cdB]
    have hlen : (hlL (cs.take i)).length ≤ i * 1000000 := hl_len (fun c hc => hs c (List.mem_of_mem_take hc)) (by rw [List.length_take]; omega)
    refine ⟨fun h1 => ⟨by omega, ?_⟩, fun h1 _ => ?_⟩
    · have hi' : i < cs.length := by omega
      have hcm : cs.getD i default ∈ cs := mem_getD.2 ⟨i, hi', rfl⟩
      have htk : cs.take (i + 1) = cs.take i ++ [cs.getD i default] := take_succ hi'
      generalize cs.getD i default = c at *
      have hcl := hs c hcm
      have hcle : List.count c.id ((cs.take i).map Ch.id) ≤ 32 := Nat.le_trans List.count_le_length (by simp; omega)
      rw [hids, i64_in _ (by omega), nlk_nset, if_pos rfl]
      generalize hids' : nset c.id ((List.count c.id ((cs.take i).map Ch.id) : Nat) + 1 : Int) ids = ids'
      have hid2 : ∀ k, (nlk k ids').getD 0 = (List.count k ((cs.take (i + 1)).map Ch.id) : Nat) := fun k => by
        rw [← hids', nlk_nset, htk, List.map_append, List.count_append]
        split
        · rename_i h; subst h; simp
        · rename_i h
          rw [hids]; simp [List.count_cons, Ne.symm h]
      refine ⟨fun h2 => hbad fun ho => ?_, fun h2 _ => ?_⟩
      · have h3 : (cs.take (i + 1)).map Ch.id <+: cs.map Ch.id := (List.take_prefix _ _).map _
        have h4 := h3.sublist.nodup ho.2.2
        rw [htk, List.map_append, List.nodup_append] at h4
        have h5 : 0 < List.count c.id ((cs.take i).map Ch.id) := by
          simp only [Option.getD_some] at h2; omega
        exact h4.2.2 _ (List.count_pos_iff.1 h5) c.id (by simp) rfl
      · have hnd' : ((cs.take (i + 1)).map Ch.id).Nodup := by
          rw [htk, List.map_append, List.nodup_append]
          refine ⟨hnd, by simp, fun x hx y hy => ?_⟩
          simp at hy
          rintro rfl
          subst hy
          have := List.count_pos_iff.2 hx
          simp only [Option.getD_some] at h2; omega
        refine SWp.loop (ι := { x : Nat × List (K3 × Int) // x.1 ≤ c.holds.length ∧ ∀ k, (alk k x.2).getD 0 = (List.count k (hlL (cs.take i) ++ (hlC c).take x.1) : Nat) })
          (fun x => ⟨[(0, .sl (pys l)), (6, .mp 0), (7, .mp 1), (8, .int .i64 ((hlL (cs.take i)).length + x.1.1 : Nat)), (10, .ref 2 0), (25, .sl (chs cs)), (26, .int .i64 cs.length), (27, .int .i64 i), (42, .c (.sl (hds c.holds))), (43, .int .i64 c.holds.length), (44, .int .i64 x.1.1)],
            [(2, .box [.c (.int .u64 c.id), .c (.int .u64 c.loc), .c (.int .u64 c.rem), .c (.int .u64 c.res), .c (.int .u64 c.most), .c (.sl (hds c.holds)), .c (.bool c.op)]), (1, .map [.int .u64] (kvN .u64 .i64 ids')), (0, .map [.int .u64, .int .u64, .int .u64] (kv3 x.1.2))], 3⟩) (fun x => c.holds.length - x.1.1)
          ⟨(0, m), by simp, fun k => by simp [hm]⟩ ?_ ?_
        · simp [go_sem]
        · rintro ⟨⟨k, m⟩, hk, hm⟩
          dsimp only at hk hm
          refine awp_sound pagree_T_ok.toS lv47 _ _ _ rfl ?_
          simp -implicitDefEqProofs only [cdA, go_sem, okL_z, reduceIte, reduceCtorEq, Nat.reduceEqDiff, Nat.reduceAdd, Nat.reduceLeDiff, Nat.reduceSub, Nat.reduceMul, Nat.reduceLT, Nat.reduceShiftRight, Nat.reduceMod, Int.reduceLE, Int.reduceLT, Int.reduceToNat, List.cons.injEq, cdB]
          refine ⟨fun h3 => ⟨by omega, ?_⟩, fun h3 => ?_⟩
          · refine ADraw.runC us47_13 [0, 0, 2, 0, 14, 31, 63, 63, 159, 511] pagree_T_ok follows_mixed (by kernel_rfl) (by kernel_rfl) (by kernel_rfl) ?_
            simp -implicitDefEqProofs only [cdA, go_sem, okL_z, reduceIte, reduceCtorEq, Nat.reduceEqDiff, Nat.reduceAdd, Nat.reduceLeDiff, Nat.reduceSub, Nat.reduceMul, Nat.reduceLT, Nat.reduceShiftRight, Nat.reduceMod, Int.reduceLE, Int.reduceLT, Int.reduceToNat, List.cons.injEq, cdB]
            have hk' : k < c.holds.length := by omega
            have hcl' : (hlC c).length = c.holds.length := by unfold hlC; rw [List.length_map]
            have hct : List.count (c.id, (c.holds.getD k default).id, (c.holds.getD k default).n) (hlL (cs.take i) ++ (hlC c).take k) ≤ i * 1000000 + 1000000 :=
              Nat.le_trans List.count_le_length (by rw [List.length_append, List.length_take]; omega)
            have hstep : (hlC c).take (k + 1) = (hlC c).take k ++ [(c.id, (c.holds.getD k default).id, (c.holds.getD k default).n)] := by
              rw [take_succ (by rw [hcl']; exact hk')]
              congr 2
              unfold hlC
              rw [getD_lt (by rw [List.length_map]; exact hk'), getD_lt hk', List.getElem_map]
            refine ⟨⟨(k + 1, _), hk', fun q => ?_⟩, by dsimp only; omega, ⟨by rw [i64_in _ (by omega)]; dsimp only; omega, i64_in _ (by omega)⟩, rfl⟩
            dsimp only
            rw [hm, i64_in _ (by omega), alk_aset, hstep, ← List.append_assoc]
            generalize hlL (cs.take i) ++ (hlC c).take k = A at *
            generalize (c.id, (c.holds.getD k default).id, (c.holds.getD k default).n) = t at *
            rw [List.count_append, List.count_singleton]
            split
            · rename_i h; subst h
              rw [if_pos (by simp), Option.getD_some]; omega
            · rename_i h
              rw [hm, if_neg (by simpa using Ne.symm h)]; omega
          · have hk' : k = c.holds.length := by omega
            subst hk'
            have hcl' : (hlC c).length = c.holds.length := by unfold hlC; rw [List.length_map]
            have hl1 : hlL (cs.take (i + 1)) = hlL (cs.take i) ++ hlC c := by rw [htk]; simp [hlL]
            refine ⟨⟨(i + 1, m, ids'), hi', hnd', fun q => ?_, hid2⟩, by dsimp only; omega, ⟨by dsimp only; rw [hl1, List.length_append, hcl']; omega, i64_in _ (by omega)⟩, rfl, rfl⟩
            dsimp only
            rw [hm, hl1, ← hcl', List.take_length]
    · have hi' : i = cs.length := by omega
      subst hi'
      rw [List.take_length] at hnd hm hids hlen ⊢
      have hA : okPy l ∧ cs.length ≤ 32 ∧ (cs.map Ch.id).Nodup := ⟨hok, by omega, hnd⟩
      have hl256 := hok.1
      have hpl : ∀ j, (pend (l.take j)).length ≤ 256 := fun j => Nat.le_trans (List.length_filter_le _ _) (by rw [List.length_take]; omega)
      refine SWp.loop (ι := { j : Nat // j ≤ l.length ∧ ∀ p ∈ pend (l.take j), (p.chan, p.id, p.n) ∈ hlL cs }) (fun j => ⟨[(6, .mp 0), (8, .int .i64 ((hlL cs).length - (pend (l.take j.1)).length : Int)), (61, .sl (pys l)), (62, .int .i64 l.length), (63, .int .i64 j.1)], [(1, .map [.int .u64] (kvN .u64 .i64 ids)), (0, .map [.int .u64, .int .u64, .int .u64] (kv3 m))], 2⟩) (fun j => l.length - j.1) ⟨0, by simp [pend]⟩ ?_ ?_
      · simp [go_sem, pend]
      · rintro ⟨j, hj, hin⟩
        have hpj := hpl j
        refine awp_sound pagree_T_ok.toS lv47 _ _ _ rfl ?_
        simp -implicitDefEqProofs only [cdA, go_sem, okL_z, reduceIte, reduceCtorEq, Nat.reduceEqDiff, Nat.reduceAdd, Nat.reduceLeDiff, Nat.reduceSub, Nat.reduceMul, Nat.reduceLT, Nat.reduceShiftRight, Nat.reduceMod, Int.reduceLE, Int.reduceLT, Int.reduceToNat, List.cons.injEq, cdB]
        refine ⟨fun h1 => ⟨by omega, fun h2 => ?_, fun h2 => ?_⟩, fun h1 => ?_⟩
        · have hj' : j < l.length := by omega
          have hst : pend (l.take (j + 1)) = pend (l.take j) ++ [l.getD j default] := by
            unfold pend
            rw [take_succ hj', List.filter_append]
            simp only [List.filter_cons, decide_eq_true h2, if_true, List.filter_nil]
          rw [hm]
          refine ⟨fun h3 => ?_, fun h3 => ?_⟩
          · rw [agrL, if_pos hA]
            refine ⟨(decide_eq_false fun h4 => ?_).symm, rfl⟩
            have h5 := h4.1 (l.getD j default) (List.mem_filter.2 ⟨mem_getD.2 ⟨j, hj', rfl⟩, decide_eq_true h2⟩)
            have := List.count_pos_iff.2 h5
            omega
          · refine ⟨⟨j + 1, hj', fun p hp => ?_⟩, by dsimp only; omega, ?_, i64_in _ (by omega)⟩
            · rw [hst] at hp
              rcases List.mem_append.1 hp with hp | hp
              · exact hin p hp
              · rw [List.mem_singleton] at hp
                rw [hp]
                exact List.count_pos_iff.1 (by omega)
            · rw [i64_in _ (by omega)]
              dsimp only
              rw [hst, List.length_append, List.length_singleton]; omega
        · have hj' : j < l.length := by omega
          have hst : pend (l.take (j + 1)) = pend (l.take j) := by
            unfold pend
            rw [take_succ hj', List.filter_append]
            simp only [List.filter_cons, decide_eq_false h2, List.filter_nil, List.append_nil, Bool.false_eq_true, if_false]
          exact ⟨⟨j + 1, hj', fun p hp => hin p (by rwa [hst] at hp)⟩, by dsimp only; omega, by dsimp only; rw [hst], i64_in _ (by omega)⟩
        · have hj' : j = l.length := by omega
          subst hj'
          rw [List.take_length] at hin hpj ⊢
          rw [agrL, if_pos hA]
          refine ⟨?_, rfl⟩
          rw [decide_eq_decide]
          exact ⟨fun h => ⟨hin, by omega⟩, fun h => by omega⟩
@[go_sem] def pagree_p (l : List Py) (cs : List Ch) : Prop := (∀ c ∈ cs, c.holds.length ≤ 1000000)
def sp_pagree : List D → Option (Prop × D × Fr)
  | [.c (.sl z245), .c (.sl z246)] => some (z245 = pys (dpys z245) ∧ z246 = chs (dchs z246) ∧ pagree_p (dpys z245) (dchs z246), pagree_r (dpys z245) (dchs z246), [])
  | _ => none
attribute [go_sem] sp_pagree
theorem sp_pagree_ok : ∀ rs p r fr, sp_pagree rs = some (p, r, fr) → p → FnOk Tryz.prog 47 rs r fr := by
  intro rs p r fr h hp
  unfold sp_pagree at h
  split at h <;> cases h
  obtain ⟨hc0, hc1, hp⟩ := hp
  rename_i z245 z246
  obtain ⟨z245, rfl⟩ : ∃ m, z245 = pys m := ⟨_, hc0⟩
  obtain ⟨z246, rfl⟩ : ∃ m, z246 = chs m := ⟨_, hc1⟩
  simp only [dchs_chs, dpys_pys]
  simp only [dchs_chs, dpys_pys, pagree_p] at hp
  exact pagree_ok z245 z246 hp
end Dm
namespace Dm
open Go Go.Proofs Go.IntWalk
structure Iv where
  hash : Nat
  n : Nat
  till : Nat
  state : Int
deriving DecidableEq, Inhabited
@[go_sem] def Iv.enc (e : Iv) : List C := [.int .u64 (e.hash : Int), .int .u64 (e.n : Int), .int .u64 (e.till : Int), .int .i64 e.state]
def Iv.dec : List C → Iv
  | [.int .u64 z202, .int .u64 z203, .int .u64 z204, .int .i64 z205] => (⟨z202.toNat, z203.toNat, z204.toNat, z205⟩ : Iv)
  | _ => default
def ivs (l : List Iv) : List (List C) := l.map Iv.enc
def divs (l : List (List C)) : List Iv := l.map Iv.dec
@[simp, go_sem] theorem ivs_length (l : List Iv) : (ivs l).length = l.length := by simp [ivs]
@[go_sem] theorem ivs_get (l : List Iv) (i : Nat) : (ivs l).getD i [.int .u64 0, .int .u64 0, .int .u64 0, .int .i64 0] = (l.getD i default).enc := by
  simp only [ivs, List.getD_eq_getElem?_getD, List.getElem?_map]
  cases l[i]? <;> rfl
@[go_sem] theorem ivs_wide (l : List Iv) : Wide 4 (ivs l) = True := by
  simp [Wide, ivs, Iv.enc]
theorem Iv.dec_enc (e : Iv) : Iv.dec e.enc = e := by
  simp [Iv.enc, Iv.dec]
@[go_sem] theorem divs_ivs (l : List Iv) : divs (ivs l) = l := by
  simp only [divs, ivs, List.map_map]
  exact List.map_id'' (fun e => Iv.dec_enc e) l
@[go_sem] theorem ivs_app (a b : List Iv) : ivs a ++ ivs b = ivs (a ++ b) := by simp [ivs]
@[go_sem] theorem ivs_drop (l : List Iv) (k : Nat) : (ivs l).drop k = ivs (l.drop k) := by simp [ivs]
@[go_sem] theorem ivs_take (l : List Iv) (k : Nat) : (ivs l).take k = ivs (l.take k) := by simp [ivs]
@[go_sem] theorem ivs_one (z206 : Int) (z207 : Int) (z208 : Int) (z209 : Int) (hz206 : 0 ≤ z206) (hz207 : 0 ≤ z207) (hz208 : 0 ≤ z208) : [[C.int .u64 z206, C.int .u64 z207, C.int .u64 z208, C.int .i64 z209]] = ivs [⟨z206.toNat, z207.toNat, z208.toNat, z209⟩] := by simp [ivs, Iv.enc, Int.toNat_of_nonneg hz206, Int.toNat_of_nonneg hz207, Int.toNat_of_nonneg hz208]
@[go_sem] theorem ivs_set (l : List Iv) (i : Nat) (z206 : Int) (z207 : Int) (z208 : Int) (z209 : Int) (hz206 : 0 ≤ z206) (hz207 : 0 ≤ z207) (hz208 : 0 ≤ z208) : (ivs l).set i [C.int .u64 z206, C.int .u64 z207, C.int .u64 z208, C.int .i64 z209] = ivs (l.set i ⟨z206.toNat, z207.toNat, z208.toNat, z209⟩) := by simp [ivs, List.map_set, Iv.enc, Int.toNat_of_nonneg hz206, Int.toNat_of_nonneg hz207, Int.toNat_of_nonneg hz208]
@[go_sem] theorem ivs_cons (l : List Iv) (z206 : Int) (z207 : Int) (z208 : Int) (z209 : Int) (hz206 : 0 ≤ z206) (hz207 : 0 ≤ z207) (hz208 : 0 ≤ z208) : [C.int .u64 z206, C.int .u64 z207, C.int .u64 z208, C.int .i64 z209] :: ivs l = ivs (⟨z206.toNat, z207.toNat, z208.toNat, z209⟩ :: l) := by simp [ivs, Iv.enc, Int.toNat_of_nonneg hz206, Int.toNat_of_nonneg hz207, Int.toNat_of_nonneg hz208]
@[go_sem] theorem ivs_flat (l : List Iv) : flatE (ivs l) = True := eq_true fun x hx c hc => by
  obtain ⟨e, _, rfl⟩ := List.mem_map.1 hx
  simp only [Iv.enc, List.mem_cons, List.not_mem_nil, or_false] at hc
  rcases hc with rfl | rfl | rfl | rfl <;> rfl
@[go_sem] theorem Iv.eta {e : Iv} : (⟨e.hash, e.n, e.till, e.state⟩ : Iv) = e := rfl
@[go_sem] theorem Iv.eqD {a b : Iv} : eqD Tryz.prog 139 [D.c (.int .u64 (a.hash : Int)), D.c (.int .u64 (a.n : Int)), D.c (.int .u64 (a.till : Int)), D.c (.int .i64 a.state)] [D.c (.int .u64 (b.hash : Int)), D.c (.int .u64 (b.n : Int)), D.c (.int .u64 (b.till : Int)), D.c (.int .i64 b.state)] = some (decide (a = b)) := by
  cases a; cases b
  simp only [Dm.eqD, eqOf_139, eqCells, eqC, List.getElem?_cons_zero, List.getElem?_cons_succ, if_true, Option.some.injEq, Iv.mk.injEq]
  rw [Bool.eq_iff_iff]
  simp [Int.ofNat_inj]
def okIv1 (x : Iv) : Prop := (x.n ≠ 0 ∧ x.n ≤ MM) ∧ 1 ≤ x.state ∧ x.state ≤ 3
instance (x : Iv) : Decidable (okIv1 x) := by unfold okIv1; infer_instance
def okIv (l : List Iv) : Prop := l.length ≤ 256 ∧ (∀ x ∈ l, okIv1 x) ∧ Srt.Chn Iv.hash ltN l
instance (l : List Iv) : Decidable (Srt.Chn Iv.hash ltN l) := by unfold Srt.Chn; infer_instance
instance (l : List Iv) : Decidable (okIv l) := by unfold okIv; infer_instance
def chkI (l : List Iv) : Int := if okIv l then 0 else 1
@[go_sem] def iorder_r (x : Iv) (id : Nat) : D := .int .i64 (cmpS x.hash id)
@[go_sem] abbrev n_iorder : FuncId := 89
@[go_sem] def iorder_T : Tab := [(133, sp_cmp)]
theorem iorder_T_ok : TabOk Tryz.prog iorder_T := (TabOk.cons sp_cmp_ok TabOk.nil)
set_option maxRecDepth 8000 in
set_option maxHeartbeats 1000000 in
theorem iorder_ok (x : Iv) (id : Nat)  : PureFn Tryz.prog 89 [.agg [.c (.int .u64 (x.hash : Int)), .c (.int .u64 (x.n : Int)), .c (.int .u64 (x.till : Int)), .c (.int .i64 x.state)], .c (.int .u64 (id : Int))] (iorder_r x id) := by
  refine .of (ac89 iorder_T_ok (Nat.le_of_ble_eq_true rfl) ?_)
  simp -implicitDefEqProofs only [cdA, go_sem, Go.Proofs.Tryz.f89, reduceIte, reduceCtorEq, Nat.reduceEqDiff, Nat.reduceAdd, Nat.reduceLeDiff, Nat.reduceSub, Nat.reduceMul, Nat.reduceLT, Nat.reduceShiftRight, Nat.reduceMod, Int.reduceLE, Int.reduceLT, Int.reduceToNat, List.cons.injEq, cdB]
def sp_iorder : List D → Option (Prop × D × Fr)
  | [.agg [.c (.int .u64 z211), .c (.int .u64 z212), .c (.int .u64 z213), .c (.int .i64 z214)], .c (.int .u64 z215)] => some (z211 = (z211.toNat : Int) ∧ z212 = (z212.toNat : Int) ∧ z213 = (z213.toNat : Int) ∧ z215 = (z215.toNat : Int), iorder_r (⟨z211.toNat, z212.toNat, z213.toNat, z214⟩ : Iv) z215.toNat, [])
  | _ => none
attribute [go_sem] sp_iorder
theorem sp_iorder_ok : ∀ rs p r fr, sp_iorder rs = some (p, r, fr) → p → FnOk Tryz.prog 89 rs r fr := by
  intro rs p r fr h hp
  unfold sp_iorder at h
  split at h <;> cases h
  obtain ⟨hc0, hc1, hc2, hc3⟩ := hp
  rename_i z211 z212 z213 z214 z215
  obtain ⟨z211, rfl⟩ : ∃ m : Nat, z211 = m := ⟨_, hc0⟩
  obtain ⟨z212, rfl⟩ : ∃ m : Nat, z212 = m := ⟨_, hc1⟩
  obtain ⟨z213, rfl⟩ : ∃ m : Nat, z213 = m := ⟨_, hc2⟩
  obtain ⟨z215, rfl⟩ : ∃ m : Nat, z215 = m := ⟨_, hc3⟩
  simp only [Int.toNat_natCast]
  exact iorder_ok ⟨z211, z212, z213, z214⟩ z215
@[go_sem] def ibill_r (n : Nat) : D := .bool (decide (n ≠ 0 ∧ n ≤ MM))
@[go_sem] abbrev n_ibill : FuncId := 90
@[go_sem] def ibill_T : Tab := [(29, sp_moncheck)]
theorem ibill_T_ok : TabOk Tryz.prog ibill_T := (TabOk.cons sp_moncheck_ok TabOk.nil)
set_option maxRecDepth 8000 in
set_option maxHeartbeats 1000000 in
theorem ibill_ok (n : Nat)  : PureFn Tryz.prog 90 [.c (.int .u64 (n : Int))] (ibill_r n) := by
  refine .of (ac90 ibill_T_ok (Nat.le_of_ble_eq_true rfl) ?_)
  simp -implicitDefEqProofs only [cdA, go_sem, Go.Proofs.Tryz.f90, reduceIte, reduceCtorEq, Nat.reduceEqDiff, Nat.reduceAdd, Nat.reduceLeDiff, Nat.reduceSub, Nat.reduceMul, Nat.reduceLT, Nat.reduceShiftRight, Nat.reduceMod, Int.reduceLE, Int.reduceLT, Int.reduceToNat, List.cons.injEq, cdB]
  have hm : monS [n] = 0 ↔ n ≤ MM := mon1_0
  refine ⟨fun h => ?_, fun h => ?_⟩
  · rw [decide_eq_decide, hm]; exact ⟨fun h2 => ⟨by omega, h2⟩, fun h2 => h2.2⟩
  · exact (decide_eq_false fun h2 => h2.1 (by omega)).symm
def sp_ibill : List D → Option (Prop × D × Fr)
  | [.c (.int .u64 z216)] => some (z216 = (z216.toNat : Int), ibill_r z216.toNat, [])
  | _ => none
attribute [go_sem] sp_ibill
theorem sp_ibill_ok : ∀ rs p r fr, sp_ibill rs = some (p, r, fr) → p → FnOk Tryz.prog 90 rs r fr := by
  intro rs p r fr h hp
  unfold sp_ibill at h
  split at h <;> cases h
  have hc0 := hp
  rename_i z216
  obtain ⟨z216, rfl⟩ : ∃ m : Nat, z216 = m := ⟨_, hc0⟩
  simp only [Int.toNat_natCast]
  exact ibill_ok z216
@[go_sem] def icheck_r (l : List Iv) : D := .int .i64 (chkI l)
@[go_sem] abbrev n_icheck : FuncId := 45
@[go_sem] def icheck_T : Tab := [(90, sp_ibill), (89, sp_iorder)]
theorem icheck_T_ok : TabOk Tryz.prog icheck_T := (TabOk.cons sp_ibill_ok (TabOk.cons sp_iorder_ok TabOk.nil))
set_option maxRecDepth 8000 in
set_option maxHeartbeats 1000000 in
theorem icheck_ok (l : List Iv)  : PureFn Tryz.prog 45 [.sl (ivs l)] (icheck_r l) := by
  refine .of (ac45 icheck_T_ok (Nat.le_of_ble_eq_true rfl) ?_)
  simp -implicitDefEqProofs only [cdA, go_sem, Go.Proofs.Tryz.f45, reduceIte, reduceCtorEq, Nat.reduceEqDiff, Nat.reduceAdd, Nat.reduceLeDiff, Nat.reduceSub, Nat.reduceMul, Nat.reduceLT, Nat.reduceShiftRight, Nat.reduceMod, Int.reduceLE, Int.reduceLT, Int.reduceToNat, List.cons.injEq, cdB]
  have hbad : ¬ okIv l → 1 = chkI l := fun h => by rw [chkI, if_neg h]
  refine fun _ => ⟨fun h => hbad fun ho => ?_, fun h _ => ?_⟩
  · have := ho.1; omega
  refine SWp.loop (ι := { i : Nat // i ≤ l.length ∧ (∀ j, j < i → okIv1 (l.getD j default) ∧ (0 < j → (l.getD (j - 1) default).hash < (l.getD j default).hash)) }) (fun i => ⟨[(0, .sl (ivs l)), (8, .sl (ivs l)), (9, .int .i64 l.length), (10, .int .i64 i.1)], [], 0⟩) (fun i => l.length - i.1) ⟨0, by simp⟩ ?_ ?_
  · simp [go_sem]
  · rintro ⟨i, hi, hall⟩
    refine awp_sound icheck_T_ok.toS lv45 _ _ _ rfl ?_
    simp -implicitDefEqProofs only [cdA, go_sem, reduceIte, reduceCtorEq, Nat.reduceEqDiff, Nat.reduceAdd, Nat.reduceLeDiff, Nat.reduceSub, Nat.reduceMul, Nat.reduceLT, Nat.reduceShiftRight, Nat.reduceMod, Int.reduceLE, Int.reduceLT, Int.reduceToNat, List.cons.injEq, cdB]
    refine ⟨fun h1 => ⟨by omega, ?_⟩, fun h1 => ?_⟩
    · refine ADraw.run us45_6 icheck_T_ok follows_mixed (by kernel_rfl) (by kernel_rfl) ?_
      simp -implicitDefEqProofs only [cdA, go_sem, reduceIte, reduceCtorEq, Nat.reduceEqDiff, Nat.reduceAdd, Nat.reduceLeDiff, Nat.reduceSub, Nat.reduceMul, Nat.reduceLT, Nat.reduceShiftRight, Nat.reduceMod, Int.reduceLE, Int.reduceLT, Int.reduceToNat, List.cons.injEq, cdB]
      have hi' : i < l.length := by omega
      have hnext : (0 < i → (l.getD (i - 1) default).hash < (l.getD i default).hash) →
          (¬(l.getD i default).n = 0 ∧ (l.getD i default).n ≤ MM → (¬(l.getD i default).state < 1 → (3 < (l.getD i default).state → 1 = chkI l) ∧ (¬3 < (l.getD i default).state →
              ∃ i_1 : { i : Nat // i ≤ l.length ∧ (∀ j, j < i → okIv1 (l.getD j default) ∧ (0 < j → (l.getD (j - 1) default).hash < (l.getD j default).hash)) }, l.length - i_1.val < l.length - i ∧ IntKind.i64.wrap ((i : Int) + 1) = i_1.val)) ∧ ((l.getD i default).state < 1 → 1 = chkI l)) ∧
          (¬(¬(l.getD i default).n = 0 ∧ (l.getD i default).n ≤ MM) → 1 = chkI l) := fun ho => by
        have hm : okIv l → okIv1 (l.getD i default) := fun h => h.2.1 _ (mem_getD.2 ⟨i, hi', rfl⟩)
        refine ⟨fun h2 => ⟨fun h3 => ⟨fun h4 => hbad fun h => ?_, fun h4 => ⟨⟨i + 1, hi', fun j hj => ?_⟩, by dsimp only; omega, i64_in _ (by omega)⟩⟩, fun h3 => hbad fun h => ?_⟩, fun h2 => hbad fun h => h2 (hm h).1⟩
        · have := (hm h).2.2; omega
        · by_cases hji : j = i
          · subst hji; exact ⟨⟨h2, by omega, by omega⟩, ho⟩
          · exact hall j (by omega)
        · have := (hm h).2.1; omega
      refine ⟨fun h2 => ?_, fun h2 => hnext fun h => absurd h (by omega)⟩
      rw [i64_in _ (by omega), show ((i : Int) - 1).toNat = i - 1 by omega]
      have hc : ∀ a b : Nat, 0 ≤ cmpS a b ↔ ¬ a < b := fun a b => by
        have := cmpS_neg (x := a) (y := b); omega
      rw [hc]
      exact ⟨by omega, fun h3 => hnext fun _ => by omega, fun h3 => hbad fun h => h3 (h.2.2 i hi' (by omega))⟩
    · have hi' : i = l.length := by omega
      subst hi'
      rw [chkI, if_pos]
      exact ⟨by omega, fun x hx => by obtain ⟨j, hj, rfl⟩ := mem_getD.1 hx; exact (hall j hj).1, fun j hj h0 => (hall j hj).2 h0⟩
def sp_icheck : List D → Option (Prop × D × Fr)
  | [.c (.sl z217)] => some (z217 = ivs (divs z217), icheck_r (divs z217), [])
  | _ => none
attribute [go_sem] sp_icheck
theorem sp_icheck_ok : ∀ rs p r fr, sp_icheck rs = some (p, r, fr) → p → FnOk Tryz.prog 45 rs r fr := by
  intro rs p r fr h hp
  unfold sp_icheck at h
  split at h <;> cases h
  have hc0 := hp
  rename_i z217
  obtain ⟨z217, rfl⟩ : ∃ m, z217 = ivs m := ⟨_, hc0⟩
  simp only [divs_ivs]
  exact icheck_ok z217
end Dm
namespace Dm
open Go Go.Proofs Go.IntWalk
structure Ev where
  seq : Nat
  kind : Int
  a : Nat
  n : Nat
deriving DecidableEq, Inhabited
@[go_sem] def Ev.enc (e : Ev) : List C := [.int .u64 (e.seq : Int), .int .i64 e.kind, .int .u64 (e.a : Int), .int .u64 (e.n : Int)]
def Ev.dec : List C → Ev
  | [.int .u64 z248, .int .i64 z249, .int .u64 z250, .int .u64 z251] => (⟨z248.toNat, z249, z250.toNat, z251.toNat⟩ : Ev)
  | _ => default
def evs (l : List Ev) : List (List C) := l.map Ev.enc
def devs (l : List (List C)) : List Ev := l.map Ev.dec
@[simp, go_sem] theorem evs_length (l : List Ev) : (evs l).length = l.length := by simp [evs]
@[go_sem] theorem evs_get (l : List Ev) (i : Nat) : (evs l).getD i [.int .u64 0, .int .i64 0, .int .u64 0, .int .u64 0] = (l.getD i default).enc := by
  simp only [evs, List.getD_eq_getElem?_getD, List.getElem?_map]
  cases l[i]? <;> rfl
@[go_sem] theorem evs_wide (l : List Ev) : Wide 4 (evs l) = True := by
  simp [Wide, evs, Ev.enc]
theorem Ev.dec_enc (e : Ev) : Ev.dec e.enc = e := by
  simp [Ev.enc, Ev.dec]
@[go_sem] theorem devs_evs (l : List Ev) : devs (evs l) = l := by
  simp only [devs, evs, List.map_map]
  exact List.map_id'' (fun e => Ev.dec_enc e) l
@[go_sem] theorem evs_app (a b : List Ev) : evs a ++ evs b = evs (a ++ b) := by simp [evs]
@[go_sem] theorem evs_drop (l : List Ev) (k : Nat) : (evs l).drop k = evs (l.drop k) := by simp [evs]
@[go_sem] theorem evs_take (l : List Ev) (k : Nat) : (evs l).take k = evs (l.take k) := by simp [evs]
@[go_sem] theorem evs_one (z252 : Int) (z253 : Int) (z254 : Int) (z255 : Int) (hz252 : 0 ≤ z252) (hz254 : 0 ≤ z254) (hz255 : 0 ≤ z255) : [[C.int .u64 z252, C.int .i64 z253, C.int .u64 z254, C.int .u64 z255]] = evs [⟨z252.toNat, z253, z254.toNat, z255.toNat⟩] := by simp [evs, Ev.enc, Int.toNat_of_nonneg hz252, Int.toNat_of_nonneg hz254, Int.toNat_of_nonneg hz255]
@[go_sem] theorem evs_set (l : List Ev) (i : Nat) (z252 : Int) (z253 : Int) (z254 : Int) (z255 : Int) (hz252 : 0 ≤ z252) (hz254 : 0 ≤ z254) (hz255 : 0 ≤ z255) : (evs l).set i [C.int .u64 z252, C.int .i64 z253, C.int .u64 z254, C.int .u64 z255] = evs (l.set i ⟨z252.toNat, z253, z254.toNat, z255.toNat⟩) := by simp [evs, List.map_set, Ev.enc, Int.toNat_of_nonneg hz252, Int.toNat_of_nonneg hz254, Int.toNat_of_nonneg hz255]
@[go_sem] theorem evs_cons (l : List Ev) (z252 : Int) (z253 : Int) (z254 : Int) (z255 : Int) (hz252 : 0 ≤ z252) (hz254 : 0 ≤ z254) (hz255 : 0 ≤ z255) : [C.int .u64 z252, C.int .i64 z253, C.int .u64 z254, C.int .u64 z255] :: evs l = evs (⟨z252.toNat, z253, z254.toNat, z255.toNat⟩ :: l) := by simp [evs, Ev.enc, Int.toNat_of_nonneg hz252, Int.toNat_of_nonneg hz254, Int.toNat_of_nonneg hz255]
@[go_sem] theorem evs_flat (l : List Ev) : flatE (evs l) = True := eq_true fun x hx c hc => by
  obtain ⟨e, _, rfl⟩ := List.mem_map.1 hx
  simp only [Ev.enc, List.mem_cons, List.not_mem_nil, or_false] at hc
  rcases hc with rfl | rfl | rfl | rfl <;> rfl
@[go_sem] theorem Ev.eta {e : Ev} : (⟨e.seq, e.kind, e.a, e.n⟩ : Ev) = e := rfl
@[go_sem] theorem Ev.eqD {a b : Ev} : eqD Tryz.prog 146 [D.c (.int .u64 (a.seq : Int)), D.c (.int .i64 a.kind), D.c (.int .u64 (a.a : Int)), D.c (.int .u64 (a.n : Int))] [D.c (.int .u64 (b.seq : Int)), D.c (.int .i64 b.kind), D.c (.int .u64 (b.a : Int)), D.c (.int .u64 (b.n : Int))] = some (decide (a = b)) := by
  cases a; cases b
  simp only [Dm.eqD, eqOf_146, eqCells, eqC, List.getElem?_cons_zero, List.getElem?_cons_succ, if_true, Option.some.injEq, Ev.mk.injEq]
  rw [Bool.eq_iff_iff]
  simp [Int.ofNat_inj]
structure Fd where
  next : Nat
  l : List Ev
deriving DecidableEq, Inhabited
@[go_sem] def Fd.enc (e : Fd) : List C := [.int .u64 (e.next : Int), .sl (evs e.l)]
def Fd.dec : List C → Fd
  | [.int .u64 z257, .sl z258] => (⟨z257.toNat, (devs z258)⟩ : Fd)
  | _ => default
def fds (l : List Fd) : List (List C) := l.map Fd.enc
def dfds (l : List (List C)) : List Fd := l.map Fd.dec
@[simp, go_sem] theorem fds_length (l : List Fd) : (fds l).length = l.length := by simp [fds]
@[go_sem] theorem fds_get (l : List Fd) (i : Nat) : (fds l).getD i [.int .u64 0, .sl []] = (l.getD i default).enc := by
  simp only [fds, List.getD_eq_getElem?_getD, List.getElem?_map]
  cases l[i]? <;> rfl
@[go_sem] theorem fds_wide (l : List Fd) : Wide 2 (fds l) = True := by
  simp [Wide, fds, Fd.enc]
theorem Fd.dec_enc (e : Fd) : Fd.dec e.enc = e := by
  simp [Fd.enc, Fd.dec, devs_evs]
@[go_sem] theorem dfds_fds (l : List Fd) : dfds (fds l) = l := by
  simp only [dfds, fds, List.map_map]
  exact List.map_id'' (fun e => Fd.dec_enc e) l
@[go_sem] theorem fds_app (a b : List Fd) : fds a ++ fds b = fds (a ++ b) := by simp [fds]
@[go_sem] theorem fds_drop (l : List Fd) (k : Nat) : (fds l).drop k = fds (l.drop k) := by simp [fds]
@[go_sem] theorem fds_take (l : List Fd) (k : Nat) : (fds l).take k = fds (l.take k) := by simp [fds]
@[go_sem] theorem fds_one (z259 : Int) (z260 : List Ev) (hz259 : 0 ≤ z259) : [[C.int .u64 z259, C.sl (evs z260)]] = fds [⟨z259.toNat, z260⟩] := by simp [fds, Fd.enc, Int.toNat_of_nonneg hz259]
@[go_sem] theorem fds_set (l : List Fd) (i : Nat) (z259 : Int) (z260 : List Ev) (hz259 : 0 ≤ z259) : (fds l).set i [C.int .u64 z259, C.sl (evs z260)] = fds (l.set i ⟨z259.toNat, z260⟩) := by simp [fds, List.map_set, Fd.enc, Int.toNat_of_nonneg hz259]
@[go_sem] theorem fds_cons (l : List Fd) (z259 : Int) (z260 : List Ev) (hz259 : 0 ≤ z259) : [C.int .u64 z259, C.sl (evs z260)] :: fds l = fds (⟨z259.toNat, z260⟩ :: l) := by simp [fds, Fd.enc, Int.toNat_of_nonneg hz259]
@[go_sem] theorem Fd.eta {e : Fd} : (⟨e.next, e.l⟩ : Fd) = e := rfl
def kindS (k : Int) : Bool := decide (0 ≤ k ∧ k < 16)
@[go_sem] def fkind_r (k : Int) : D := .bool (kindS k)
@[go_sem] abbrev n_fkind : FuncId := 92
@[go_sem] def fkind_T : Tab := []
theorem fkind_T_ok : TabOk Tryz.prog fkind_T := TabOk.nil
set_option maxRecDepth 8000 in
set_option maxHeartbeats 1000000 in
theorem fkind_ok (k : Int)  : PureFn Tryz.prog 92 [.c (.int .i64 k)] (fkind_r k) := by
  refine .of (ac92 fkind_T_ok (Nat.le_of_ble_eq_true rfl) ?_)
  simp -implicitDefEqProofs only [cdA, go_sem, Go.Proofs.Tryz.f92, reduceIte, reduceCtorEq, Nat.reduceEqDiff, Nat.reduceAdd, Nat.reduceLeDiff, Nat.reduceSub, Nat.reduceMul, Nat.reduceLT, Nat.reduceShiftRight, Nat.reduceMod, Int.reduceLE, Int.reduceLT, Int.reduceToNat, List.cons.injEq, cdB]
  have e : kindS k = decide (0 ≤ k ∧ k < 16) := rfl
  rw [e]
  exact ⟨fun h => by rw [decide_eq_decide]; exact ⟨fun h2 => ⟨h, h2⟩, fun h2 => h2.2⟩, fun h => (decide_eq_false fun h2 => h h2.1).symm⟩
def sp_fkind : List D → Option (Prop × D × Fr)
  | [.c (.int .i64 z261)] => some (True, fkind_r z261, [])
  | _ => none
attribute [go_sem] sp_fkind
theorem sp_fkind_ok : ∀ rs p r fr, sp_fkind rs = some (p, r, fr) → p → FnOk Tryz.prog 92 rs r fr := by
  intro rs p r fr h hp
  unfold sp_fkind at h
  split at h <;> cases h
  rename_i z261
  exact fkind_ok z261
@[go_sem] def fnew_r  : D := .agg [.int .u64 1, .sl (evs [])]
@[go_sem] abbrev n_fnew : FuncId := 69
@[go_sem] def fnew_T : Tab := []
theorem fnew_T_ok : TabOk Tryz.prog fnew_T := TabOk.nil
set_option maxRecDepth 8000 in
set_option maxHeartbeats 1000000 in
theorem fnew_ok   : PureFn Tryz.prog 69 [] (fnew_r ) := by
  refine .of (ac69 fnew_T_ok (Nat.le_of_ble_eq_true rfl) ?_)
  simp -implicitDefEqProofs only [cdA, go_sem, Go.Proofs.Tryz.f69, reduceIte, reduceCtorEq, Nat.reduceEqDiff, Nat.reduceAdd, Nat.reduceLeDiff, Nat.reduceSub, Nat.reduceMul, Nat.reduceLT, Nat.reduceShiftRight, Nat.reduceMod, Int.reduceLE, Int.reduceLT, Int.reduceToNat, List.cons.injEq, cdB]
  rfl
def sp_fnew : List D → Option (Prop × D × Fr)
  | [] => some (True, fnew_r , [])
  | _ => none
attribute [go_sem] sp_fnew
theorem sp_fnew_ok : ∀ rs p r fr, sp_fnew rs = some (p, r, fr) → p → FnOk Tryz.prog 69 rs r fr := by
  intro rs p r fr h hp
  unfold sp_fnew at h
  split at h <;> cases h
  exact fnew_ok 
theorem rev_take {n k : Nat} (h : k < n) : (List.finRange n).reverse.take k ++ [⟨n - 1 - k, by omega⟩] = (List.finRange n).reverse.take (k + 1) := by
  have hl : k < (List.finRange n).reverse.length := by simpa using h
  rw [List.take_add_one, List.getElem?_eq_getElem hl]
  simp
set_option maxRecDepth 4000 in
theorem back_iter (l : List Ev) (hl : l.length ≤ 1000000) : IterOk Tryz.prog 146 [.rp [.sl (evs l)]] (m := l.length) (fun x => [.int .i64 x.1, .agg ((l.getD x.1 default).enc.map .c)]) (List.finRange l.length).reverse := by
  refine IterOk.of (n := 19) (fn := Tryz.f146) (by kernel_rfl) rfl rfl rfl (Nat.le_of_ble_eq_true rfl) rfl ?_
  intro y I J Jx hY
  refine SY.seq (SY.region .nil hY rfl ?_)
  simp -implicitDefEqProofs only [cdA, go_sem, aopsY, yargs, St.nums, numsL, List.contains_cons, List.contains_nil, Nat.reduceBEq, Bool.or_self, reduceIte, reduceCtorEq, Nat.reduceEqDiff, Nat.reduceAdd, Nat.reduceLeDiff, Nat.reduceSub, Nat.reduceMul, Nat.reduceLT, Nat.reduceShiftRight, Nat.reduceMod, Int.reduceLE, Int.reduceLT, Int.reduceToNat, List.cons.injEq, cdB]
  refine fun _ => SY.block (SY.loop l.length (fun k => ⟨[(0, .fn (.yield y) [] []), (1, .rp [.sl (evs l)]), (3, .int .i64 ((l.length : Int) - 1 - k))], [], 0⟩) (fun k => ((List.finRange l.length).reverse.take k, true)) 0 ?_ (Nat.zero_le _) ?_)
  · intro a w h
    rw [i64_in _ (by omega)] at h
    have h := h.sub (s' := ⟨[(0, .fn (.yield y) [] []), (1, .rp [.sl (evs l)]), (3, .int .i64 ((l.length : Int) - 1 - (0 : Nat)))], [], 0⟩) ⟨rfl, rfl, by simp [go_sem]⟩
    simpa using h
  · intro k hk
    refine SY.seq (SY.seq (SY.region .nil hY rfl ?_))
    simp -implicitDefEqProofs only [cdA, go_sem, aopsY, yargs, St.nums, numsL, List.contains_cons, List.contains_nil, Nat.reduceBEq, Bool.or_self, reduceIte, reduceCtorEq, Nat.reduceEqDiff, Nat.reduceAdd, Nat.reduceLeDiff, Nat.reduceSub, Nat.reduceMul, Nat.reduceLT, Nat.reduceShiftRight, Nat.reduceMod, Int.reduceLE, Int.reduceLT, Int.reduceToNat, List.cons.injEq, cdB]
    refine SY.cond rfl (fun hc => SY.skip ?_) (fun hc => SY.exit ?_)
    · have hk' : k < l.length := by simp at hc; omega
      refine SY.seq (SY.block (SY.seq (SY.region .nil hY rfl ?_)))
      simp -implicitDefEqProofs only [cdA, go_sem, aopsY, yargs, St.nums, numsL, List.contains_cons, List.contains_nil, Nat.reduceBEq, Bool.or_self, reduceIte, reduceCtorEq, Nat.reduceEqDiff, Nat.reduceAdd, Nat.reduceLeDiff, Nat.reduceSub, Nat.reduceMul, Nat.reduceLT, Nat.reduceShiftRight, Nat.reduceMod, Int.reduceLE, Int.reduceLT, Int.reduceToNat, List.cons.injEq, cdB]
      refine ⟨by omega, by simp; omega, ⟨l.length - 1 - k, by omega⟩, ?_, ?_, ?_⟩
      · have e1 : ((l.length : Int) - 1 - k).toNat = l.length - 1 - k := by omega
        have e2 : ((l.length : Int) - 1 - k) = ((l.length - 1 - k : Nat) : Int) := by omega
        rw [e1, e2]; exact ⟨rfl, rfl⟩
      · refine SY.cond (b := false) rfl (fun h => by cases h) (fun _ => SY.skip (SY.region .nil hY rfl ?_))
        simp -implicitDefEqProofs only [cdA, go_sem, aopsY, yargs, reduceIte, reduceCtorEq, Nat.reduceEqDiff, Nat.reduceAdd, Nat.reduceLeDiff, Nat.reduceSub, Nat.reduceMul, Nat.reduceLT, Nat.reduceShiftRight, Nat.reduceMod, Int.reduceLE, Int.reduceLT, Int.reduceToNat, List.cons.injEq, cdB]
        rw [i64_in _ (by omega)]
        exact ⟨hk', by rw [rev_take hk'], by omega⟩
      · refine SY.cond (b := true) rfl (fun _ => SY.ret ?_) (fun h => by cases h)
        refine ⟨.inr rfl, .inr ⟨rfl, ?_⟩⟩
        rw [rev_take hk']
        exact List.take_prefix _ _
    · have hk' : k = l.length := by simp at hc; omega
      have : List.take l.length (List.finRange l.length).reverse = (List.finRange l.length).reverse := List.take_of_length_le (by simp)
      simp [hk', this]
@[go_sem] def fback_r (l : List Ev) : D := .fn (.func 146) [] [.rp [.sl (evs l)]]
@[go_sem] abbrev n_fback : FuncId := 91
@[go_sem] def fback_T : Tab := []
theorem fback_T_ok : TabOk Tryz.prog fback_T := TabOk.nil
set_option maxRecDepth 8000 in
set_option maxHeartbeats 1000000 in
theorem fback_ok (l : List Ev)  : PureFn Tryz.prog 91 [.sl (evs l)] (fback_r l) := by
  refine .of (ac91 fback_T_ok (Nat.le_of_ble_eq_true rfl) ?_)
  simp -implicitDefEqProofs only [cdA, go_sem, Go.Proofs.Tryz.f91, reduceIte, reduceCtorEq, Nat.reduceEqDiff, Nat.reduceAdd, Nat.reduceLeDiff, Nat.reduceSub, Nat.reduceMul, Nat.reduceLT, Nat.reduceShiftRight, Nat.reduceMod, Int.reduceLE, Int.reduceLT, Int.reduceToNat, List.cons.injEq, cdB]
  exact ⟨_, rfl, rfl⟩
def sp_fback : List D → Option (Prop × D × Fr)
  | [.c (.sl z262)] => some (z262 = evs (devs z262), fback_r (devs z262), [])
  | _ => none
attribute [go_sem] sp_fback
theorem sp_fback_ok : ∀ rs p r fr, sp_fback rs = some (p, r, fr) → p → FnOk Tryz.prog 91 rs r fr := by
  intro rs p r fr h hp
  unfold sp_fback at h
  split at h <;> cases h
  have hc0 := hp
  rename_i z262
  obtain ⟨z262, rfl⟩ : ∃ m, z262 = evs m := ⟨_, hc0⟩
  simp only [devs_evs]
  exact fback_ok z262
def okEv (n : Int) : List Ev → Bool
  | [] => true
  | e :: r => decide ((e.seq : Int) = n - (r.length + 1)) && kindS e.kind && okEv n r
def okFd (f : Fd) : Prop := 1 ≤ f.next ∧ f.next ≤ MM ∧ f.l.length = min (f.next - 1) 64 ∧ okEv f.next f.l = true
instance (f : Fd) : Decidable (okFd f) := by unfold okFd; infer_instance
def chkF (f : Fd) : Int := if okFd f then 0 else 1
theorem okEv_get (n : Int) : ∀ (l : List Ev), okEv n l = true ↔ ∀ i : Nat, i < l.length → ((l.getD i default).seq : Int) = n - (l.length - i : Int) ∧ kindS (l.getD i default).kind = true
  | [] => by simp [okEv]
  | e :: r => by
    rw [okEv, Bool.and_eq_true, Bool.and_eq_true, okEv_get n r, decide_eq_true_eq]
    constructor
    · rintro ⟨⟨h1, h2⟩, h3⟩ i hi
      cases i with
      | zero => simp [h1, h2]
      | succ i =>
        have := h3 i (by simpa using hi)
        simp only [List.getD_cons_succ, List.length_cons]
        refine ⟨?_, this.2⟩
        rw [this.1]
        omega
    · intro h
      refine ⟨?_, fun i hi => ?_⟩
      · have := h 0 (by simp)
        simp at this
        exact ⟨by rw [this.1], this.2⟩
      · have := h (i + 1) (by simpa using hi)
        simp only [List.getD_cons_succ, List.length_cons] at this
        refine ⟨?_, this.2⟩
        rw [this.1]
        omega
theorem check_bad {f : Fd} {pre : List (Fin f.l.length)} {x : Fin f.l.length} (h : pre ++ [x] <+: (List.finRange f.l.length).reverse)
    (hb : ¬ (((f.l.getD x.1 default).seq : Int) = f.next - (pre.length + 1 : Int) ∧ kindS (f.l.getD x.1 default).kind = true)) : chkF f = 1 := by
  unfold chkF
  rw [if_neg]
  rintro ⟨_, _, _, h4⟩
  obtain ⟨t, ht⟩ := h
  have h5 : (List.finRange f.l.length).reverse[pre.length]? = some x := by rw [← ht]; simp
  have h6 := (okEv_get f.next f.l).1 h4 x.1 x.2
  have hlt : pre.length < f.l.length := by
    have := (List.getElem?_eq_some_iff.1 h5).1
    simpa using this
  have h7 : x.1 = f.l.length - 1 - pre.length := by
    rw [List.getElem?_eq_getElem (by simpa using hlt)] at h5
    simp at h5
    rw [← h5]
  refine hb ⟨?_, h6.2⟩
  rw [h6.1, h7]
  omega
attribute [go_sem] setps asg rfp
@[go_sem] def fcheck_r (f : Fd) : D := .int .i64 (chkF f)
@[go_sem] abbrev n_fcheck : FuncId := 46
@[go_sem] def fcheck_T : Tab := [(92, sp_fkind), (91, sp_fback)]
theorem fcheck_T_ok : TabOk Tryz.prog fcheck_T := (TabOk.cons sp_fkind_ok (TabOk.cons sp_fback_ok TabOk.nil))
set_option maxRecDepth 8000 in
set_option maxHeartbeats 1000000 in
theorem fcheck_ok (f : Fd) (h : f.next ≤ 18446744073709551615) : PureFn Tryz.prog 46 [.agg [.c (.int .u64 (f.next : Int)), .sl (evs f.l)]] (fcheck_r f) := by
  refine .of (acall_introM (n := 44) (fn := Tryz.f46) (by kernel_rfl) rfl rfl rfl (Nat.le_of_ble_eq_true rfl) (rs := [.cell 2 36]) rfl ?_)
  refine SWm.seq (SWm.awp fcheck_T_ok.toS lv46 rfl ?_)
  simp -implicitDefEqProofs only [cdA, go_sem, reduceIte, reduceCtorEq, Nat.reduceEqDiff, Nat.reduceAdd, Nat.reduceLeDiff, Nat.reduceSub, Nat.reduceMul, Nat.reduceLT, Nat.reduceShiftRight, Nat.reduceMod, Int.reduceLE, Int.reduceLT, Int.reduceToNat, List.cons.injEq, cdB]
  refine SWm.seq (SWm.awp fcheck_T_ok.toS lv46 rfl ?_)
  simp -implicitDefEqProofs only [cdA, go_sem, reduceIte, reduceCtorEq, Nat.reduceEqDiff, Nat.reduceAdd, Nat.reduceLeDiff, Nat.reduceSub, Nat.reduceMul, Nat.reduceLT, Nat.reduceShiftRight, Nat.reduceMod, Int.reduceLE, Int.reduceLT, Int.reduceToNat, List.cons.injEq, cdB]
  have hbad : ¬ okFd f → 1 = chkF f := fun h => by rw [chkF, if_neg h]
  refine ⟨fun h1 => ⟨fun h2 h3 => ⟨fun h4 => ?_, fun h4 => hbad fun ho => h4 ?_⟩, fun h2 => hbad fun ho => ?_⟩, fun h1 => hbad fun ho => ?_⟩
  rotate_left 1
  · have := ho.2.2.1
    rw [u64_in f.l.length (by omega), u64_in ((f.next : Int) - 1) (by omega)]; omega
  · have := ho.2.1; unfold MM at this; omega
  · have := ho.1; omega
  · refine SWm.seq (SWm.awp fcheck_T_ok.toS lv46 rfl ?_)
    simp -implicitDefEqProofs only [cdA, go_sem, reduceIte, reduceCtorEq, Nat.reduceEqDiff, Nat.reduceAdd, Nat.reduceLeDiff, Nat.reduceSub, Nat.reduceMul, Nat.reduceLT, Nat.reduceShiftRight, Nat.reduceMod, Int.reduceLE, Int.reduceLT, Int.reduceToNat, List.cons.injEq, cdB]
    refine SWm.seq (SWm.seq (SWm.awp fcheck_T_ok.toS lv46 rfl ?_))
    simp -implicitDefEqProofs only [cdA, go_sem, reduceIte, reduceCtorEq, Nat.reduceEqDiff, Nat.reduceAdd, Nat.reduceLeDiff, Nat.reduceSub, Nat.reduceMul, Nat.reduceLT, Nat.reduceShiftRight, Nat.reduceMod, Int.reduceLE, Int.reduceLT, Int.reduceToNat, List.cons.injEq, cdB]
    have hle : (f.l.length : Int) ≤ 64 ∧ (f.l.length : Int) ≤ f.next - 1 := by
      rw [u64_in f.l.length (by omega), u64_in ((f.next : Int) - 1) (by omega)] at h4
      omega
    have hlen : f.l.length ≤ 1000000 := by omega
    refine SWm.block (SWm.rangeFunc fcheck_T_ok.toS lv46 (caps := [.rp [.sl (evs f.l)]]) rfl (by simp [D.pure1]) (back_iter f.l hlen)
      (fun pre => [(2, .box [.int .u64 ((f.next : Int) - pre.length)]), (1, .box [.int .i64 0]), (0, .box [.int .u64 f.next, .sl (evs f.l)])])
      (fun pre => ∀ (j : Nat) (x : Fin f.l.length), pre[j]? = some x → ((f.l.getD x.1 default).seq : Int) = f.next - (j + 1) ∧ kindS (f.l.getD x.1 default).kind = true)
      (fun x => rfl) (by decide) (Nat.zero_le _) rfl rfl rfl rfl ?_ ?_ ?_)
    · simp [go_sem]
    · intro pre x hok hpre
      simp -implicitDefEqProofs only [cdA, go_sem, reduceIte, reduceCtorEq, Nat.reduceEqDiff, Nat.reduceAdd, Nat.reduceLeDiff, Nat.reduceSub, Nat.reduceMul, Nat.reduceLT, Nat.reduceShiftRight, Nat.reduceMod, Int.reduceLE, Int.reduceLT, Int.reduceToNat, List.cons.injEq, cdB]
      rw [u64_in ((f.next : Int) - _ - 1) (by omega)]
      refine ⟨fun h5 => ⟨fun h6 => ⟨fun j y hj => ?_, by omega⟩, fun h6 hp => ?_⟩, fun h5 hp => ?_⟩
      · rw [List.getElem?_append] at hj
        split at hj
        · exact hok j y hj
        · rename_i hge
          have : j = pre.length := by
            have := (List.getElem?_eq_some_iff.1 hj).1
            simp at this
            omega
          subst this
          simp at hj
          subst hj
          exact ⟨by omega, h6⟩
      · exact (check_bad hp fun h => by rw [h6] at h; cases h.2).symm
      · exact (check_bad hp fun h => h5 (by omega)).symm
    · intro hok
      refine SWm.awp fcheck_T_ok.toS lv46 rfl ?_
      simp -implicitDefEqProofs only [cdA, go_sem, reduceIte, reduceCtorEq, Nat.reduceEqDiff, Nat.reduceAdd, Nat.reduceLeDiff, Nat.reduceSub, Nat.reduceMul, Nat.reduceLT, Nat.reduceShiftRight, Nat.reduceMod, Int.reduceLE, Int.reduceLT, Int.reduceToNat, List.cons.injEq, cdB]
      rw [u64_in f.l.length (by omega), u64_in ((f.next : Int) - 1) (by omega)] at h4
      have hE : okEv f.next f.l = true := by
        rw [okEv_get]
        intro i hi
        have h5 : (List.finRange f.l.length).reverse[f.l.length - 1 - i]? = some ⟨i, hi⟩ := by
          rw [List.getElem?_eq_getElem (by simp; omega)]
          simp
          try omega
        obtain ⟨h6, h7⟩ := hok _ _ h5
        refine ⟨?_, h7⟩
        rw [h6]
        omega
      rw [chkF, if_pos (show okFd f from ⟨by omega, by unfold MM; omega, by omega, hE⟩)]
@[go_sem] def fcheck_p (f : Fd) : Prop := (f.next ≤ 18446744073709551615)
def sp_fcheck : List D → Option (Prop × D × Fr)
  | [.agg [.c (.int .u64 z264), .c (.sl z265)]] => some (z264 = (z264.toNat : Int) ∧ z265 = evs (devs z265) ∧ fcheck_p (⟨z264.toNat, (devs z265)⟩ : Fd), fcheck_r (⟨z264.toNat, (devs z265)⟩ : Fd), [])
  | _ => none
attribute [go_sem] sp_fcheck
theorem sp_fcheck_ok : ∀ rs p r fr, sp_fcheck rs = some (p, r, fr) → p → FnOk Tryz.prog 46 rs r fr := by
  intro rs p r fr h hp
  unfold sp_fcheck at h
  split at h <;> cases h
  obtain ⟨hc0, hc1, hp⟩ := hp
  rename_i z264 z265
  obtain ⟨z264, rfl⟩ : ∃ m : Nat, z264 = m := ⟨_, hc0⟩
  obtain ⟨z265, rfl⟩ : ∃ m, z265 = evs m := ⟨_, hc1⟩
  simp only [Int.toNat_natCast, devs_evs]
  simp only [Int.toNat_natCast, devs_evs, fcheck_p] at hp
  exact fcheck_ok ⟨z264, z265⟩ hp
theorem chkF_0 {f : Fd} : chkF f = 0 ↔ okFd f := by unfold chkF; split <;> rename_i h <;> simp only [h] <;> decide
@[go_sem] def evclone_r (l : List Ev) : D := .vec 0 l.length
@[go_sem] def evclone_fr (l : List Ev) : Fr := [(4, 146, true, evs l)]
@[go_sem] abbrev n_evclone : FuncId := 141
@[go_sem] def evclone_T : Tab := []
theorem evclone_T_ok : TabOk Tryz.prog evclone_T := TabOk.nil
set_option maxRecDepth 8000 in
set_option maxHeartbeats 1000000 in
theorem evclone_ok (l : List Ev) (hl : l.length ≤ 1000000) : FreshFn Tryz.prog 141 [.sl (evs l)] (evclone_r l) (evclone_fr l) := by
  refine .of (ac141 evclone_T_ok (Nat.le_of_ble_eq_true rfl) ?_)
  simp -implicitDefEqProofs only [cdA, go_sem, Go.Proofs.Tryz.f141, reduceIte, reduceCtorEq, Nat.reduceEqDiff, Nat.reduceAdd, Nat.reduceLeDiff, Nat.reduceSub, Nat.reduceMul, Nat.reduceLT, Nat.reduceShiftRight, Nat.reduceMod, Int.reduceLE, Int.reduceLT, Int.reduceToNat, List.cons.injEq, cdB]
  refine fun b hb => ⟨fun h => ?_, fun h => ?_⟩
  · exact ⟨[none], by simp [go_sem, hb h], by cases l <;> simp_all [go_sem, evs]⟩
  · exact ⟨by omega, [some 0], by simp [go_sem]⟩
@[go_sem] def evclone_p (l : List Ev) : Prop := (l.length ≤ 1000000)
def sp_evclone : List D → Option (Prop × D × Fr)
  | [.c (.sl z266)] => some (z266 = evs (devs z266) ∧ evclone_p (devs z266), evclone_r (devs z266), evclone_fr (devs z266))
  | _ => none
attribute [go_sem] sp_evclone
theorem sp_evclone_ok : ∀ rs p r fr, sp_evclone rs = some (p, r, fr) → p → FnOk Tryz.prog 141 rs r fr := by
  intro rs p r fr h hp
  unfold sp_evclone at h
  split at h <;> cases h
  obtain ⟨hc0, hp⟩ := hp
  rename_i z266
  obtain ⟨z266, rfl⟩ : ∃ m, z266 = evs m := ⟨_, hc0⟩
  simp only [devs_evs]
  simp only [devs_evs, evclone_p] at hp
  exact (show FnOk _ _ _ _ _ from And.intro rfl (evclone_ok z266 hp))
def addF (f : Fd) (k : Int) (a n : Nat) : Fd × Nat × Int := if okFd f ∧ kindS k = true then (if f.next = MM then ((⟨0, []⟩ : Fd), 0, 7) else ((⟨f.next + 1, (f.l ++ [(⟨f.next, k, a, n⟩ : Ev)]).drop (f.l.length + 1 - 64)⟩ : Fd), f.next, 0)) else ((⟨0, []⟩ : Fd), 0, 1)
@[go_sem] def fadd_r (f : Fd) (k : Int) (a : Nat) (n : Nat) : D := .tup [.agg [.int .u64 (addF f k a n).1.next, .sl (evs (addF f k a n).1.l)], .int .u64 (addF f k a n).2.1, .int .i64 (addF f k a n).2.2]
@[go_sem] abbrev n_fadd : FuncId := 85
@[go_sem] def fadd_T : Tab := [(46, sp_fcheck), (92, sp_fkind), (141, sp_evclone)]
theorem fadd_T_ok : TabOk Tryz.prog fadd_T := (TabOk.cons sp_fcheck_ok (TabOk.cons sp_fkind_ok (TabOk.cons sp_evclone_ok TabOk.nil)))
set_option maxRecDepth 8000 in
set_option maxHeartbeats 1000000 in
theorem fadd_ok (f : Fd) (k : Int) (a : Nat) (n : Nat) (h : f.next ≤ 18446744073709551615) : PureFn Tryz.prog 85 [.agg [.c (.int .u64 (f.next : Int)), .sl (evs f.l)], .c (.int .i64 k), .c (.int .u64 (a : Int)), .c (.int .u64 (n : Int))] (fadd_r f k a n) := by
  refine .of (ac85 fadd_T_ok (Nat.le_of_ble_eq_true rfl) ?_)
  simp -implicitDefEqProofs only [cdA, go_sem, Go.Proofs.Tryz.f85, reduceIte, reduceCtorEq, Nat.reduceEqDiff, Nat.reduceAdd, Nat.reduceLeDiff, Nat.reduceSub, Nat.reduceMul, Nat.reduceLT, Nat.reduceShiftRight, Nat.reduceMod, Int.reduceLE, Int.reduceLT, Int.reduceToNat, List.cons.injEq, cdB]
  have hbad : ¬ (okFd f ∧ kindS k = true) → (0 = ((addF f k a n).1.next : Int) ∧ evs (addF f k a n).1.l = []) ∧ 0 = ((addF f k a n).2.1 : Int) ∧ 1 = (addF f k a n).2.2 := fun h => by
    rw [addF, if_neg h]; exact ⟨⟨rfl, rfl⟩, rfl, rfl⟩
  refine ⟨h, fun h0 => ⟨fun hk => ⟨fun hm => ?_, fun hm => ?_⟩, fun hk => hbad fun ho => by rw [hk] at ho; cases ho.2⟩, fun h0 => hbad fun ho => h0 (chkF_0.2 ho.1)⟩
  · rw [addF, if_pos ⟨chkF_0.1 h0, hk⟩, if_pos (by unfold MM; omega)]; exact ⟨⟨rfl, rfl⟩, rfl, rfl⟩
  · have ho := chkF_0.1 h0
    have h1 := ho.2.2.1
    have h2 := ho.2.1
    unfold MM at h2
    rw [addF, if_pos ⟨ho, hk⟩, if_neg (by unfold MM; omega)]
    have e : (max (IntKind.i64.wrap ((f.l.length : Int) + 1 - 64)) 0).toNat = f.l.length + 1 - 64 := by rw [i64_in _ (by omega)]; omega
    rw [e, u64_in _ (by omega)]
    refine ⟨by omega, by omega, fun _ => ⟨⟨by omega, by rw [i64_in _ (by omega)]; omega⟩, ⟨by dsimp only; omega, rfl, _, _, _, rfl⟩, rfl, rfl⟩⟩
@[go_sem] def fadd_p (f : Fd) (k : Int) (a : Nat) (n : Nat) : Prop := (f.next ≤ 18446744073709551615)
def sp_fadd : List D → Option (Prop × D × Fr)
  | [.agg [.c (.int .u64 z268), .c (.sl z269)], .c (.int .i64 z270), .c (.int .u64 z271), .c (.int .u64 z272)] => some (z268 = (z268.toNat : Int) ∧ z269 = evs (devs z269) ∧ z271 = (z271.toNat : Int) ∧ z272 = (z272.toNat : Int) ∧ fadd_p (⟨z268.toNat, (devs z269)⟩ : Fd) z270 z271.toNat z272.toNat, fadd_r (⟨z268.toNat, (devs z269)⟩ : Fd) z270 z271.toNat z272.toNat, [])
  | _ => none
attribute [go_sem] sp_fadd
theorem sp_fadd_ok : ∀ rs p r fr, sp_fadd rs = some (p, r, fr) → p → FnOk Tryz.prog 85 rs r fr := by
  intro rs p r fr h hp
  unfold sp_fadd at h
  split at h <;> cases h
  obtain ⟨hc0, hc1, hc2, hc3, hp⟩ := hp
  rename_i z268 z269 z270 z271 z272
  obtain ⟨z268, rfl⟩ : ∃ m : Nat, z268 = m := ⟨_, hc0⟩
  obtain ⟨z269, rfl⟩ : ∃ m, z269 = evs m := ⟨_, hc1⟩
  obtain ⟨z271, rfl⟩ : ∃ m : Nat, z271 = m := ⟨_, hc2⟩
  obtain ⟨z272, rfl⟩ : ∃ m : Nat, z272 = m := ⟨_, hc3⟩
  simp only [Int.toNat_natCast, devs_evs]
  simp only [Int.toNat_natCast, devs_evs, fadd_p] at hp
  exact fadd_ok ⟨z268, z269⟩ z270 z271 z272 hp
end Dm
namespace Dm
open Go Go.Proofs Go.IntWalk
structure Wt where
  id : Nat
  w : Option Nat
deriving DecidableEq
instance : Inhabited Wt := ⟨⟨default, some 0⟩⟩
@[go_sem] def Wt.enc (e : Wt) : List C := [.int .u64 (e.id : Int), .flt .f64 e.w]
def Wt.dec : List C → Wt
  | [.int .u64 z110, .flt .f64 z111] => (⟨z110.toNat, z111⟩ : Wt)
  | _ => default
def wts (l : List Wt) : List (List C) := l.map Wt.enc
def dwts (l : List (List C)) : List Wt := l.map Wt.dec
@[simp, go_sem] theorem wts_length (l : List Wt) : (wts l).length = l.length := by simp [wts]
@[go_sem] theorem wts_get (l : List Wt) (i : Nat) : (wts l).getD i [.int .u64 0, .flt .f64 (some 0)] = (l.getD i default).enc := by
  simp only [wts, List.getD_eq_getElem?_getD, List.getElem?_map]
  cases l[i]? <;> rfl
@[go_sem] theorem wts_wide (l : List Wt) : Wide 2 (wts l) = True := by
  simp [Wide, wts, Wt.enc]
theorem Wt.dec_enc (e : Wt) : Wt.dec e.enc = e := by
  simp [Wt.enc, Wt.dec]
@[go_sem] theorem dwts_wts (l : List Wt) : dwts (wts l) = l := by
  simp only [dwts, wts, List.map_map]
  exact List.map_id'' (fun e => Wt.dec_enc e) l
@[go_sem] theorem wts_app (a b : List Wt) : wts a ++ wts b = wts (a ++ b) := by simp [wts]
@[go_sem] theorem wts_drop (l : List Wt) (k : Nat) : (wts l).drop k = wts (l.drop k) := by simp [wts]
@[go_sem] theorem wts_take (l : List Wt) (k : Nat) : (wts l).take k = wts (l.take k) := by simp [wts]
@[go_sem] theorem wts_one (z112 : Int) (z113 : Option Nat) (hz112 : 0 ≤ z112) : [[C.int .u64 z112, C.flt .f64 z113]] = wts [⟨z112.toNat, z113⟩] := by simp [wts, Wt.enc, Int.toNat_of_nonneg hz112]
@[go_sem] theorem wts_set (l : List Wt) (i : Nat) (z112 : Int) (z113 : Option Nat) (hz112 : 0 ≤ z112) : (wts l).set i [C.int .u64 z112, C.flt .f64 z113] = wts (l.set i ⟨z112.toNat, z113⟩) := by simp [wts, List.map_set, Wt.enc, Int.toNat_of_nonneg hz112]
@[go_sem] theorem wts_cons (l : List Wt) (z112 : Int) (z113 : Option Nat) (hz112 : 0 ≤ z112) : [C.int .u64 z112, C.flt .f64 z113] :: wts l = wts (⟨z112.toNat, z113⟩ :: l) := by simp [wts, Wt.enc, Int.toNat_of_nonneg hz112]
@[go_sem] theorem wts_flat (l : List Wt) : flatE (wts l) = True := eq_true fun x hx c hc => by
  obtain ⟨e, _, rfl⟩ := List.mem_map.1 hx
  simp only [Wt.enc, List.mem_cons, List.not_mem_nil, or_false] at hc
  rcases hc with rfl | rfl <;> rfl
@[go_sem] theorem Wt.eta {e : Wt} : (⟨e.id, e.w⟩ : Wt) = e := rfl
structure Mk where
  id : Nat
  s : Option Nat
deriving DecidableEq
instance : Inhabited Mk := ⟨⟨default, some 0⟩⟩
@[go_sem] def Mk.enc (e : Mk) : List C := [.int .u64 (e.id : Int), .flt .f64 e.s]
def Mk.dec : List C → Mk
  | [.int .u64 z115, .flt .f64 z116] => (⟨z115.toNat, z116⟩ : Mk)
  | _ => default
def mks (l : List Mk) : List (List C) := l.map Mk.enc
def dmks (l : List (List C)) : List Mk := l.map Mk.dec
@[simp, go_sem] theorem mks_length (l : List Mk) : (mks l).length = l.length := by simp [mks]
@[go_sem] theorem mks_get (l : List Mk) (i : Nat) : (mks l).getD i [.int .u64 0, .flt .f64 (some 0)] = (l.getD i default).enc := by
  simp only [mks, List.getD_eq_getElem?_getD, List.getElem?_map]
  cases l[i]? <;> rfl
@[go_sem] theorem mks_wide (l : List Mk) : Wide 2 (mks l) = True := by
  simp [Wide, mks, Mk.enc]
theorem Mk.dec_enc (e : Mk) : Mk.dec e.enc = e := by
  simp [Mk.enc, Mk.dec]
@[go_sem] theorem dmks_mks (l : List Mk) : dmks (mks l) = l := by
  simp only [dmks, mks, List.map_map]
  exact List.map_id'' (fun e => Mk.dec_enc e) l
@[go_sem] theorem mks_app (a b : List Mk) : mks a ++ mks b = mks (a ++ b) := by simp [mks]
@[go_sem] theorem mks_drop (l : List Mk) (k : Nat) : (mks l).drop k = mks (l.drop k) := by simp [mks]
@[go_sem] theorem mks_take (l : List Mk) (k : Nat) : (mks l).take k = mks (l.take k) := by simp [mks]
@[go_sem] theorem mks_one (z117 : Int) (z118 : Option Nat) (hz117 : 0 ≤ z117) : [[C.int .u64 z117, C.flt .f64 z118]] = mks [⟨z117.toNat, z118⟩] := by simp [mks, Mk.enc, Int.toNat_of_nonneg hz117]
@[go_sem] theorem mks_set (l : List Mk) (i : Nat) (z117 : Int) (z118 : Option Nat) (hz117 : 0 ≤ z117) : (mks l).set i [C.int .u64 z117, C.flt .f64 z118] = mks (l.set i ⟨z117.toNat, z118⟩) := by simp [mks, List.map_set, Mk.enc, Int.toNat_of_nonneg hz117]
@[go_sem] theorem mks_cons (l : List Mk) (z117 : Int) (z118 : Option Nat) (hz117 : 0 ≤ z117) : [C.int .u64 z117, C.flt .f64 z118] :: mks l = mks (⟨z117.toNat, z118⟩ :: l) := by simp [mks, Mk.enc, Int.toNat_of_nonneg hz117]
@[go_sem] theorem mks_flat (l : List Mk) : flatE (mks l) = True := eq_true fun x hx c hc => by
  obtain ⟨e, _, rfl⟩ := List.mem_map.1 hx
  simp only [Mk.enc, List.mem_cons, List.not_mem_nil, or_false] at hc
  rcases hc with rfl | rfl <;> rfl
@[go_sem] theorem Mk.eta {e : Mk} : (⟨e.id, e.s⟩ : Mk) = e := rfl
abbrev F1 : Option Nat := some 4607182418800017408
@[go_sem] def isnanf_r (x : Option Nat) : D := .bool (fnan x)
@[go_sem] abbrev n_isnanf : FuncId := 148
@[go_sem] def isnanf_T : Tab := []
theorem isnanf_T_ok : TabOk Tryz.prog isnanf_T := TabOk.nil
set_option maxRecDepth 8000 in
set_option maxHeartbeats 1000000 in
theorem isnanf_ok (x : Option Nat)  : PureFn Tryz.prog 148 [.c (.flt .f64 x)] (isnanf_r x) := by
  refine .of (ac148 isnanf_T_ok (Nat.le_of_ble_eq_true rfl) ?_)
  simp -implicitDefEqProofs only [cdA, go_sem, Go.Proofs.Tryz.f148, reduceIte, reduceCtorEq, Nat.reduceEqDiff, Nat.reduceAdd, Nat.reduceLeDiff, Nat.reduceSub, Nat.reduceMul, Nat.reduceLT, Nat.reduceShiftRight, Nat.reduceMod, Int.reduceLE, Int.reduceLT, Int.reduceToNat, List.cons.injEq, cdB]
  rfl
def sp_isnanf : List D → Option (Prop × D × Fr)
  | [.c (.flt .f64 z119)] => some (True, isnanf_r z119, [])
  | _ => none
attribute [go_sem] sp_isnanf
theorem sp_isnanf_ok : ∀ rs p r fr, sp_isnanf rs = some (p, r, fr) → p → FnOk Tryz.prog 148 rs r fr := by
  intro rs p r fr h hp
  unfold sp_isnanf at h
  split at h <;> cases h
  rename_i z119
  exact isnanf_ok z119
@[go_sem] def cmpf_r (x : Option Nat) (y : Option Nat) : D := .int .i64 (cmpS (fkey x) (fkey y))
@[go_sem] abbrev n_cmpf : FuncId := 98
@[go_sem] def cmpf_T : Tab := [(148, sp_isnanf)]
theorem cmpf_T_ok : TabOk Tryz.prog cmpf_T := (TabOk.cons sp_isnanf_ok TabOk.nil)
set_option maxRecDepth 8000 in
set_option maxHeartbeats 1000000 in
theorem cmpf_ok (x : Option Nat) (y : Option Nat)  : PureFn Tryz.prog 98 [.c (.flt .f64 x), .c (.flt .f64 y)] (cmpf_r x y) := by
  refine .of (ac98 cmpf_T_ok (Nat.le_of_ble_eq_true rfl) ?_)
  simp -implicitDefEqProofs only [cdA, go_sem, Go.Proofs.Tryz.f98, reduceIte, reduceCtorEq, Nat.reduceEqDiff, Nat.reduceAdd, Nat.reduceLeDiff, Nat.reduceSub, Nat.reduceMul, Nat.reduceLT, Nat.reduceShiftRight, Nat.reduceMod, Int.reduceLE, Int.reduceLT, Int.reduceToNat, List.cons.injEq, cdB]
  have h1 := fkey_ge x
  have h2 := fkey_ge y
  rw [fnan_key, fnan_key, ford_lt, ford_gt]
  generalize fkey x = a at *
  generalize fkey y = b at *
  generalize kNan = k at *
  unfold cmpS
  simp only [decide_eq_true_eq, decide_eq_false_iff_not, Bool.and_eq_true, Bool.and_eq_false_iff, ne_eq, Classical.not_not]
  refine ⟨fun h3 => ⟨fun h4 => ?_, fun h4 => ?_⟩, fun h3 => ⟨fun h4 => ?_, fun h4 => ⟨fun h5 => ?_, fun h5 => ⟨fun h6 => ?_, fun h6 => ?_⟩⟩⟩⟩
  all_goals (repeat' split) <;> first | rfl | (exfalso; omega)
def sp_cmpf : List D → Option (Prop × D × Fr)
  | [.c (.flt .f64 z120), .c (.flt .f64 z121)] => some (True, cmpf_r z120 z121, [])
  | _ => none
attribute [go_sem] sp_cmpf
theorem sp_cmpf_ok : ∀ rs p r fr, sp_cmpf rs = some (p, r, fr) → p → FnOk Tryz.prog 98 rs r fr := by
  intro rs p r fr h hp
  unfold sp_cmpf at h
  split at h <;> cases h
  rename_i z120 z121
  exact cmpf_ok z120 z121
def weighS (l : List Wt) (id : Nat) : Option Nat := match l.find? fun x => decide (x.id = id) with
  | some x => x.w
  | none => F1
@[go_sem] def weigh_r (l : List Wt) (id : Nat) : D := .c (.flt .f64 (weighS l id))
@[go_sem] abbrev n_weigh : FuncId := 127
@[go_sem] def weigh_T : Tab := []
theorem weigh_T_ok : TabOk Tryz.prog weigh_T := TabOk.nil
set_option maxRecDepth 8000 in
set_option maxHeartbeats 1000000 in
theorem weigh_ok (l : List Wt) (id : Nat)  : PureFn Tryz.prog 127 [.sl (wts l), .c (.int .u64 (id : Int))] (weigh_r l id) := by
  refine .of (ac127 weigh_T_ok (Nat.le_of_ble_eq_true rfl) ?_)
  simp -implicitDefEqProofs only [cdA, go_sem, Go.Proofs.Tryz.f127, reduceIte, reduceCtorEq, Nat.reduceEqDiff, Nat.reduceAdd, Nat.reduceLeDiff, Nat.reduceSub, Nat.reduceMul, Nat.reduceLT, Nat.reduceShiftRight, Nat.reduceMod, Int.reduceLE, Int.reduceLT, Int.reduceToNat, List.cons.injEq, cdB]
  refine ac171 weigh_T_ok (Nat.le_of_ble_eq_true rfl) ?_
  simp -implicitDefEqProofs only [cdA, go_sem, Go.Proofs.Tryz.f171, reduceIte, reduceCtorEq, Nat.reduceEqDiff, Nat.reduceAdd, Nat.reduceLeDiff, Nat.reduceSub, Nat.reduceMul, Nat.reduceLT, Nat.reduceShiftRight, Nat.reduceMod, Int.reduceLE, Int.reduceLT, Int.reduceToNat, List.cons.injEq, cdB]
  refine fun hl => SWp.loop (ι := { i : Nat // i ≤ l.length ∧ ∀ j, j < i → (l.getD j default).id ≠ id }) (fun i => ⟨[(0, .sl (wts l)), (1, .fn (.func 172) [] [.ref 0 0]), (7, .int .i64 l.length), (8, .int .i64 i.1)], [(0, .box [.int .u64 id])], 1⟩) (fun i => l.length - i.1) ⟨0, by simp⟩ ?_ ?_
  · simp [go_sem]
  · rintro ⟨i, hi, hall⟩
    refine awp_sound weigh_T_ok.toS lv171 _ _ _ rfl ?_
    simp -implicitDefEqProofs only [cdA, go_sem, reduceIte, reduceCtorEq, Nat.reduceEqDiff, Nat.reduceAdd, Nat.reduceLeDiff, Nat.reduceSub, Nat.reduceMul, Nat.reduceLT, Nat.reduceShiftRight, Nat.reduceMod, Int.reduceLE, Int.reduceLT, Int.reduceToNat, List.cons.injEq, cdB]
    have hno : (∀ j, j < l.length → (l.getD j default).id ≠ id) → weighS l id = F1 := fun h => by
      have : l.find? (fun x => decide (x.id = id)) = none := by
        rw [List.find?_eq_none]
        intro x hx
        obtain ⟨j, hj, rfl⟩ := mem_getD.1 hx
        simpa using h j hj
      rw [weighS, this]
    have hyes : i < l.length → (l.getD i default).id = id → weighS l id = (l.getD i default).w := fun h h' => by
      have : l.find? (fun x => decide (x.id = id)) = some (l.getD i default) := by
        rw [List.find?_eq_some_iff_getElem]
        refine ⟨by simpa using h', i, h, (getD_lt h).symm, fun j hj => ?_⟩
        have := hall j hj
        rw [getD_lt (by omega)] at this
        simpa using this
      rw [weighS, this]
    refine ⟨fun h => ⟨by omega, ?_⟩, fun h => ?_⟩
    · skip
      refine ac172 weigh_T_ok (Nat.le_of_ble_eq_true rfl) ?_
      simp -implicitDefEqProofs only [cdA, go_sem, Go.Proofs.Tryz.f172, reduceIte, reduceCtorEq, Nat.reduceEqDiff, Nat.reduceAdd, Nat.reduceLeDiff, Nat.reduceSub, Nat.reduceMul, Nat.reduceLT, Nat.reduceShiftRight, Nat.reduceMod, Int.reduceLE, Int.reduceLT, Int.reduceToNat, List.cons.injEq, cdB]
      refine ⟨fun h1 => ⟨fun h2 => by omega, fun _ => ⟨by omega, ?_⟩⟩, fun h1 => ⟨⟨i + 1, by omega, fun j hj => ?_⟩, by dsimp only; omega, i64_in _ (by omega)⟩⟩
      · rw [hyes (by omega) (by omega)]
      · by_cases hji : j = i
        · subst hji; omega
        · exact hall j (by omega)
    · rw [hno fun j hj => hall j (by omega)]
def sp_weigh : List D → Option (Prop × D × Fr)
  | [.c (.sl z128), .c (.int .u64 z129)] => some (z128 = wts (dwts z128) ∧ z129 = (z129.toNat : Int), weigh_r (dwts z128) z129.toNat, [])
  | _ => none
attribute [go_sem] sp_weigh
theorem sp_weigh_ok : ∀ rs p r fr, sp_weigh rs = some (p, r, fr) → p → FnOk Tryz.prog 127 rs r fr := by
  intro rs p r fr h hp
  unfold sp_weigh at h
  split at h <;> cases h
  obtain ⟨hc0, hc1⟩ := hp
  rename_i z128 z129
  obtain ⟨z128, rfl⟩ : ∃ m, z128 = wts m := ⟨_, hc0⟩
  obtain ⟨z129, rfl⟩ : ∃ m : Nat, z129 = m := ⟨_, hc1⟩
  simp only [Int.toNat_natCast, dwts_wts]
  exact weigh_ok z128 z129
def oneS (c : Ch) (w n : Option Nat) : Option Nat × Int := if okCh c then (far .mul w (far .quo (far .sub (fofi (roomC c).1) n) (fofi (sumsC c).2.1)), 0) else (some 0, 1)
theorem roomC_0 {c : Ch} : (roomC c).2 = 0 ↔ okCh c := by
  unfold roomC
  by_cases h : okCh c
  · rw [if_pos h]
    simp only [h, iff_true]
    split <;> rfl
  · rw [if_neg h]
    simp [h]
@[go_sem] def one_r (c : Ch) (w : Option Nat) (n : Option Nat) : D := .tup [.c (.flt .f64 (oneS c w n).1), .int .i64 (oneS c w n).2]
@[go_sem] abbrev n_one : FuncId := 126
@[go_sem] def one_T : Tab := [(125, sp_croom), (145, sp_call)]
theorem one_T_ok : TabOk Tryz.prog one_T := (TabOk.cons sp_croom_ok (TabOk.cons sp_call_ok TabOk.nil))
set_option maxRecDepth 8000 in
set_option maxHeartbeats 1000000 in
theorem one_ok (c : Ch) (w : Option Nat) (n : Option Nat)  : PureFn Tryz.prog 126 [.agg [.c (.int .u64 (c.id : Int)), .c (.int .u64 (c.loc : Int)), .c (.int .u64 (c.rem : Int)), .c (.int .u64 (c.res : Int)), .c (.int .u64 (c.most : Int)), .sl (hds c.holds), .c (.bool c.op)], .c (.flt .f64 w), .c (.flt .f64 n)] (one_r c w n) := by
  refine .of (ac126 one_T_ok (Nat.le_of_ble_eq_true rfl) ?_)
  simp -implicitDefEqProofs only [cdA, go_sem, Go.Proofs.Tryz.f126, reduceIte, reduceCtorEq, Nat.reduceEqDiff, Nat.reduceAdd, Nat.reduceLeDiff, Nat.reduceSub, Nat.reduceMul, Nat.reduceLT, Nat.reduceShiftRight, Nat.reduceMod, Int.reduceLE, Int.reduceLT, Int.reduceToNat, List.cons.injEq, cdB]
  have hr := roomC_0 (c := c)
  rw [hr, sumsC_0, oneS]
  by_cases h : okCh c
  · have e : (sumsC c).2.2 = 0 := sumsC_0.2 h
    simp [h]
  · have e : (roomC c).2 = 1 := by rw [roomC, if_neg h]
    simp [h, e]
def sp_one : List D → Option (Prop × D × Fr)
  | [.agg [.c (.int .u64 z131), .c (.int .u64 z132), .c (.int .u64 z133), .c (.int .u64 z134), .c (.int .u64 z135), .c (.sl z136), .c (.bool z137)], .c (.flt .f64 z138), .c (.flt .f64 z139)] => some (z131 = (z131.toNat : Int) ∧ z132 = (z132.toNat : Int) ∧ z133 = (z133.toNat : Int) ∧ z134 = (z134.toNat : Int) ∧ z135 = (z135.toNat : Int) ∧ z136 = hds (dhds z136), one_r (⟨z131.toNat, z132.toNat, z133.toNat, z134.toNat, z135.toNat, (dhds z136), z137⟩ : Ch) z138 z139, [])
  | _ => none
attribute [go_sem] sp_one
theorem sp_one_ok : ∀ rs p r fr, sp_one rs = some (p, r, fr) → p → FnOk Tryz.prog 126 rs r fr := by
  intro rs p r fr h hp
  unfold sp_one at h
  split at h <;> cases h
  obtain ⟨hc0, hc1, hc2, hc3, hc4, hc5⟩ := hp
  rename_i z131 z132 z133 z134 z135 z136 z137 z138 z139
  obtain ⟨z131, rfl⟩ : ∃ m : Nat, z131 = m := ⟨_, hc0⟩
  obtain ⟨z132, rfl⟩ : ∃ m : Nat, z132 = m := ⟨_, hc1⟩
  obtain ⟨z133, rfl⟩ : ∃ m : Nat, z133 = m := ⟨_, hc2⟩
  obtain ⟨z134, rfl⟩ : ∃ m : Nat, z134 = m := ⟨_, hc3⟩
  obtain ⟨z135, rfl⟩ : ∃ m : Nat, z135 = m := ⟨_, hc4⟩
  obtain ⟨z136, rfl⟩ : ∃ m, z136 = hds m := ⟨_, hc5⟩
  simp only [Int.toNat_natCast, dhds_hds]
  exact one_ok ⟨z131, z132, z133, z134, z135, z136, z137⟩ z138 z139
@[go_sem] def misnan_r (x : Option Nat) : D := .bool (fnan x)
@[go_sem] abbrev n_misnan : FuncId := 128
@[go_sem] def misnan_T : Tab := []
theorem misnan_T_ok : TabOk Tryz.prog misnan_T := TabOk.nil
set_option maxRecDepth 8000 in
set_option maxHeartbeats 1000000 in
theorem misnan_ok (x : Option Nat)  : PureFn Tryz.prog 128 [.c (.flt .f64 x)] (misnan_r x) := by
  refine .of (ac128 misnan_T_ok (Nat.le_of_ble_eq_true rfl) ?_)
  simp -implicitDefEqProofs only [cdA, go_sem, Go.Proofs.Tryz.f128, reduceIte, reduceCtorEq, Nat.reduceEqDiff, Nat.reduceAdd, Nat.reduceLeDiff, Nat.reduceSub, Nat.reduceMul, Nat.reduceLT, Nat.reduceShiftRight, Nat.reduceMod, Int.reduceLE, Int.reduceLT, Int.reduceToNat, List.cons.injEq, cdB]
  rfl
def sp_misnan : List D → Option (Prop × D × Fr)
  | [.c (.flt .f64 z150)] => some (True, misnan_r z150, [])
  | _ => none
attribute [go_sem] sp_misnan
theorem sp_misnan_ok : ∀ rs p r fr, sp_misnan rs = some (p, r, fr) → p → FnOk Tryz.prog 128 rs r fr := by
  intro rs p r fr h hp
  unfold sp_misnan at h
  split at h <;> cases h
  rename_i z150
  exact misnan_ok z150
@[go_sem] def mnan_r  : D := .c (.flt .f64 none)
@[go_sem] abbrev n_mnan : FuncId := 129
@[go_sem] def mnan_T : Tab := [ovk 173]
theorem mnan_T_ok : TabOk Tryz.prog mnan_T := (TabOk.cons (ov_ok 173) TabOk.nil)
set_option maxRecDepth 8000 in
set_option maxHeartbeats 1000000 in
theorem mnan_ok   : PureFn Tryz.prog 129 [] (mnan_r ) := by
  refine .of (ac129 mnan_T_ok (Nat.le_of_ble_eq_true rfl) ?_)
  simp -implicitDefEqProofs only [cdA, go_sem, Go.Proofs.Tryz.f129, reduceIte, reduceCtorEq, Nat.reduceEqDiff, Nat.reduceAdd, Nat.reduceLeDiff, Nat.reduceSub, Nat.reduceMul, Nat.reduceLT, Nat.reduceShiftRight, Nat.reduceMod, Int.reduceLE, Int.reduceLT, Int.reduceToNat, List.cons.injEq, cdB]
  exact ⟨_, rfl, rfl, rfl, rfl, by kernel_rfl⟩
def sp_mnan : List D → Option (Prop × D × Fr)
  | [] => some (True, mnan_r , [])
  | _ => none
attribute [go_sem] sp_mnan
theorem sp_mnan_ok : ∀ rs p r fr, sp_mnan rs = some (p, r, fr) → p → FnOk Tryz.prog 129 rs r fr := by
  intro rs p r fr h hp
  unfold sp_mnan at h
  split at h <;> cases h
  exact mnan_ok 
def mkO (a b : Mk) : Int := orS [cmpS (fkey b.s) (fkey a.s), cmpS a.id b.id]
@[go_sem] def mkcmp_r (a : Mk) (b : Mk) : D := .int .i64 (mkO a b)
@[go_sem] abbrev n_mkcmp : FuncId := 131
@[go_sem] def mkcmp_T : Tab := [(98, sp_cmpf), (133, sp_cmp), (132, sp_cmpor)]
theorem mkcmp_T_ok : TabOk Tryz.prog mkcmp_T := (TabOk.cons sp_cmpf_ok (TabOk.cons sp_cmp_ok (TabOk.cons sp_cmpor_ok TabOk.nil)))
set_option maxRecDepth 8000 in
set_option maxHeartbeats 1000000 in
theorem mkcmp_ok (a : Mk) (b : Mk)  : PureFn Tryz.prog 131 [.agg [.c (.int .u64 (a.id : Int)), .c (.flt .f64 a.s)], .agg [.c (.int .u64 (b.id : Int)), .c (.flt .f64 b.s)]] (mkcmp_r a b) := by
  refine .of (ac131 mkcmp_T_ok (Nat.le_of_ble_eq_true rfl) ?_)
  simp -implicitDefEqProofs only [cdA, go_sem, Go.Proofs.Tryz.f131, reduceIte, reduceCtorEq, Nat.reduceEqDiff, Nat.reduceAdd, Nat.reduceLeDiff, Nat.reduceSub, Nat.reduceMul, Nat.reduceLT, Nat.reduceShiftRight, Nat.reduceMod, Int.reduceLE, Int.reduceLT, Int.reduceToNat, List.cons.injEq, cdB]
  refine ADraw.run us131_1 mkcmp_T_ok follows_mixed (by kernel_rfl) (by kernel_rfl) ?_
  simp -implicitDefEqProofs only [cdA, go_sem, reduceIte, reduceCtorEq, Nat.reduceEqDiff, Nat.reduceAdd, Nat.reduceLeDiff, Nat.reduceSub, Nat.reduceMul, Nat.reduceLT, Nat.reduceShiftRight, Nat.reduceMod, Int.reduceLE, Int.reduceLT, Int.reduceToNat, List.cons.injEq, cdB]
  rfl
def sp_mkcmp : List D → Option (Prop × D × Fr)
  | [.agg [.c (.int .u64 z152), .c (.flt .f64 z153)], .agg [.c (.int .u64 z155), .c (.flt .f64 z156)]] => some (z152 = (z152.toNat : Int) ∧ z155 = (z155.toNat : Int), mkcmp_r (⟨z152.toNat, z153⟩ : Mk) (⟨z155.toNat, z156⟩ : Mk), [])
  | _ => none
attribute [go_sem] sp_mkcmp
end Dm
