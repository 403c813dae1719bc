import Derived.Test.YtceoichdaepegaaGreatP5

set_option linter.unusedSimpArgs false
set_option linter.unusedVariables false
set_option linter.unusedSectionVars false
namespace Dm
open Go Go.Proofs Go.IntWalk
abbrev qR (c : Ch) : Nat := (xg c).2.1
def yP (l : List Ch) : Nat := (l.map qR).sum
theorem gbi (c : Ch) : qR c ≤ MM := by
  unfold qR xg
  split
  · rename_i h; exact h.2.2.2.2.2.2.2.2.2
  · exact Nat.zero_le _
theorem waU {l : List Ch} {i : Nat} (h : i < l.length) : yP (l.take (i + 1)) = yP (l.take i) + qR (l.getD i default) := by
  rw [take_succ h, yP, List.map_append, List.sum_append]; simp [yP]
theorem kbv {l : List Ch} {i : Nat} : yP (l.take i) ≤ yP l := by
  conv => rhs; rw [← List.take_append_drop i l, yP, List.map_append, List.sum_append]
  exact Nat.le_add_right _ _
def zL (l : List Ch) : List Nat := l.flatMap fun c => c.holds.map Hd.id
def ym (l : List Ch) : Prop := l.length ≤ 32 ∧ (∀ c ∈ l, yl c) ∧ Srt.Chn Ch.id ltN l ∧ (zL l).Nodup ∧ yP l ≤ MM
instance (l : List Ch) : Decidable (Srt.Chn Ch.id ltN l) := by unfold Srt.Chn; infer_instance
instance (l : List Ch) : Decidable (ym l) := by unfold ym; infer_instance
def u9 (l : List Ch) : Int := if ym l then 0 else 1
def hm : Int → List Ch → List (Nat × Int)
  | _, [] => []
  | i, c :: l => c.holds.map (fun h => (h.id, i)) ++ hm (i + 1) l
def zV (l : List Ch) : List (Nat × Int) × Int := if ym l then (hm 0 l, 0) else ([], 1)
@[go_sem] def waA (c : Ch) (id : Nat) : D := .int .i64 (vad c.id id)
@[go_sem] abbrev xcm : FuncId := 144
@[go_sem] def vaY : Tab := [(129, xO)]
theorem qaq : ya Tryz.prog vaY := (ya.cons wC ya.nil)
set_option maxRecDepth 8000 in
set_option maxHeartbeats 1000000 in
theorem xaJ (c : Ch) (id : Nat)  : yb Tryz.prog 144 [.agg [.c (.int .u64 (c.id : Int)), .c (.int .u64 (c.loc : Int)), .c (.int .u64 (c.rem : Int)), .c (.int .u64 (c.res : Int)), .c (.int .u64 (c.most : Int)), .sl (hds c.holds), .c (.bool c.op)], .c (.int .u64 (id : Int))] (waA c id) := by
  refine .of (xcv qaq (Nat.le_of_ble_eq_true rfl) ?_)
  simp -implicitDefEqProofs only [cdA, go_sem, Go.Proofs.Tryz.f144, reduceIte, reduceCtorEq, Nat.reduceEqDiff, Nat.reduceAdd, Nat.reduceLeDiff, Nat.reduceSub, Nat.reduceMul, Nat.reduceLT, Nat.reduceShiftRight, Nat.reduceMod, Int.reduceLE, Int.reduceLT, Int.reduceToNat, List.cons.injEq, cdB]
def yw : List D → Option (Prop × D × Fr)
  | [.agg [.c (.int .u64 z94), .c (.int .u64 z95), .c (.int .u64 z96), .c (.int .u64 z97), .c (.int .u64 z98), .c (.sl z99), .c (.bool z100)], .c (.int .u64 z101)] => some (z94 = (z94.toNat : Int) ∧ z95 = (z95.toNat : Int) ∧ z96 = (z96.toNat : Int) ∧ z97 = (z97.toNat : Int) ∧ z98 = (z98.toNat : Int) ∧ z99 = hds (um z99) ∧ z101 = (z101.toNat : Int), waA (⟨z94.toNat, z95.toNat, z96.toNat, z97.toNat, z98.toNat, (um z99), z100⟩ : Ch) z101.toNat, [])
  | _ => none
attribute [go_sem] yw
theorem xB : ∀ rs p r fr, yw rs = some (p, r, fr) → p → zg Tryz.prog 144 rs r fr := by
  intro rs p r fr h hp
  unfold yw at h
  split at h <;> cases h
  obtain ⟨hc0, hc1, hc2, hc3, hc4, hc5, hc6⟩ := hp
  rename_i z94 z95 z96 z97 z98 z99 z100 z101
  obtain ⟨z94, rfl⟩ : ∃ m : Nat, z94 = m := ⟨_, hc0⟩
  obtain ⟨z95, rfl⟩ : ∃ m : Nat, z95 = m := ⟨_, hc1⟩
  obtain ⟨z96, rfl⟩ : ∃ m : Nat, z96 = m := ⟨_, hc2⟩
  obtain ⟨z97, rfl⟩ : ∃ m : Nat, z97 = m := ⟨_, hc3⟩
  obtain ⟨z98, rfl⟩ : ∃ m : Nat, z98 = m := ⟨_, hc4⟩
  obtain ⟨z99, rfl⟩ : ∃ m, z99 = hds m := ⟨_, hc5⟩
  obtain ⟨z101, rfl⟩ : ∃ m : Nat, z101 = m := ⟨_, hc6⟩
  simp only [Int.toNat_natCast, ze]
  exact xaJ ⟨z94, z95, z96, z97, z98, z99, z100⟩ z101
@[go_sem] def zbQ (l : List Ch) : D := .bool (decide ((∀ c ∈ l, c.holds.length ≤ 20) ∧ l.length ≤ 34))
@[go_sem] abbrev wdd : FuncId := 44
@[go_sem] def wcs : Tab := []
theorem kau : ya Tryz.prog wcs := ya.nil
set_option maxRecDepth 8000 in
set_option maxHeartbeats 1000000 in
theorem xb4 (l : List Ch)  : yb Tryz.prog 44 [.sl (chs l)] (zbQ l) := by
  refine .of (wdh kau (Nat.le_of_ble_eq_true rfl) ?_)
  simp -implicitDefEqProofs only [cdA, go_sem, Go.Proofs.Tryz.f44, reduceIte, reduceCtorEq, Nat.reduceEqDiff, Nat.reduceAdd, Nat.reduceLeDiff, Nat.reduceSub, Nat.reduceMul, Nat.reduceLT, Nat.reduceShiftRight, Nat.reduceMod, Int.reduceLE, Int.reduceLT, Int.reduceToNat, List.cons.injEq, cdB]
  refine fun hl => SWp.loop (ι := { i : Nat // i ≤ l.length ∧ ∀ j, j < i → (l.getD j default).holds.length ≤ 20 }) (fun i => ⟨[(0, .sl (chs l)), (5, .sl (chs l)), (6, .int .i64 l.length), (7, .int .i64 i.1)], [], 0⟩) (fun i => l.length - i.1) ⟨0, by simp⟩ ?_ ?_
  · simp [go_sem]
  · rintro ⟨i, hi, hall⟩
    refine qb kau.toS qcR _ _ _ rfl ?_
    simp -implicitDefEqProofs only [cdA, go_sem, reduceIte, reduceCtorEq, Nat.reduceEqDiff, Nat.reduceAdd, Nat.reduceLeDiff, Nat.reduceSub, Nat.reduceMul, Nat.reduceLT, Nat.reduceShiftRight, Nat.reduceMod, Int.reduceLE, Int.reduceLT, Int.reduceToNat, List.cons.injEq, cdB]
    refine ⟨fun h => ⟨by omega, fun _ => ⟨fun h1 => ?_, fun h1 => ⟨⟨i + 1, by omega, fun j hj => ?_⟩, by dsimp only; omega, i64_in _ (by omega)⟩⟩⟩, fun h => ?_⟩
    · rw [eq_comm, decide_eq_false_iff_not]
      intro h2
      have := h2.1 _ (jb.2 ⟨i, by omega, rfl⟩)
      omega
    · by_cases hji : j = i
      · subst hji; omega
      · exact hall j (by omega)
    · intro _
      have : (∀ c ∈ l, c.holds.length ≤ 20) := fun c hc => by obtain ⟨j, hj, rfl⟩ := jb.1 hc; exact hall j (by omega)
      rw [decide_eq_decide]
      exact ⟨fun h => ⟨this, by omega⟩, fun h => by omega⟩
def gax : List D → Option (Prop × D × Fr)
  | [.c (.sl z102)] => some (z102 = chs (xh z102), zbQ (xh z102), [])
  | _ => none
attribute [go_sem] gax
theorem uaV : ∀ rs p r fr, gax rs = some (p, r, fr) → p → zg Tryz.prog 44 rs r fr := by
  intro rs p r fr h hp
  unfold gax at h
  split at h <;> cases h
  have hc0 := hp
  rename_i z102
  obtain ⟨z102, rfl⟩ : ∃ m, z102 = chs m := ⟨_, hc0⟩
  simp only [xb]
  exact xb4 z102
theorem gaH {l : List Ch} {i : Nat} (h : i < l.length) : zL (l.take (i + 1)) = zL (l.take i) ++ (l.getD i default).holds.map Hd.id := by
  rw [take_succ h, zL, List.flatMap_append]; simp [zL]
theorem jbo {l : List Ch} {i : Nat} (h : (zL l).Nodup) : (zL (l.take i)).Nodup := by
  rw [← List.take_append_drop i l, zL, List.flatMap_append] at h
  exact (List.nodup_append.1 h).1
theorem zbm {c : Ch} (h : yl c) : (c.holds.map Hd.id).Nodup := by
  have h1 := (Srt.jg (lt := ltN) Srt.qf).1 h.2.2.2.2.2.1
  unfold Srt.Up at h1
  rw [List.Nodup, List.pairwise_map]
  exact h1.imp fun hlt he => by
    simp only [Hd.key, ltN] at hlt
    omega
theorem xH : ∀ {l : List Ch} {s : Int}, (hm s l).map (·.1) = zL l
  | [], _ => rfl
  | c :: l, s => by
    have e : zL (c :: l) = c.holds.map Hd.id ++ zL l := by simp [zL]
    rw [hm, List.map_append, xH, List.map_map, e]; rfl
theorem vbo {l : List Ch} {i : Nat} (h : i < l.length) : hm 0 (l.take (i + 1)) = hm 0 (l.take i) ++ (l.getD i default).holds.map fun x => (x.id, (i : Int)) := by
  have key : ∀ (l : List Ch) (s : Int) (c : Ch), hm s (l ++ [c]) = hm s l ++ c.holds.map fun x => (x.id, s + l.length) := by
    intro l
    induction l with
    | nil => intro s c; simp [hm]
    | cons d l ih =>
      intro s c
      rw [List.cons_append, hm, ih, hm, List.append_assoc]
      simp only [List.length_cons]
      rw [show s + ((l.length + 1 : Nat) : Int) = s + 1 + l.length by omega]
  rw [take_succ h, key]
  simp only [Int.zero_add, List.length_take]
  rw [show min i l.length = i by omega]
@[go_sem] def kaJ (l : List Ch) : D := .tup [.c (.map [.int .u64] (kvF .u64 .i64 (zV l).1)), .int .i64 (zV l).2]
@[go_sem] abbrev gcM : FuncId := 57
@[go_sem] def vbm : Tab := [(143, zW), (145, gB), (144, yw)]
theorem qE : ya Tryz.prog vbm := (ya.cons j4 (ya.cons bN (ya.cons xB ya.nil)))
set_option maxRecDepth 8000 in
set_option maxHeartbeats 1000000 in
theorem ja7 (l : List Ch)  : yb Tryz.prog 57 [.sl (chs l)] (kaJ l) := by
  refine .of (gdk qE (Nat.le_of_ble_eq_true rfl) ?_)
  simp -implicitDefEqProofs only [cdA, go_sem, Go.Proofs.Tryz.f57, reduceIte, reduceCtorEq, Nat.reduceEqDiff, Nat.reduceAdd, Nat.reduceLeDiff, Nat.reduceSub, Nat.reduceMul, Nat.reduceLT, Nat.reduceShiftRight, Nat.reduceMod, Int.reduceLE, Int.reduceLT, Int.reduceToNat, List.cons.injEq, cdB]
  have hbad : ¬ ym l → kvF .u64 .i64 (zV l).1 = [] ∧ 1 = (zV l).2 := fun h => by rw [zV, if_neg h]; exact ⟨rfl, rfl⟩
  refine fun hl => ⟨fun h1 => hbad fun h => ?_, fun h1 _ => ?_⟩
  · have := h.1; omega
  refine SWp.loop (ι := { i : Nat // i ≤ l.length ∧ (∀ c ∈ l.take i, yl c) ∧ (∀ j, j < i → 0 < j → (l.getD (j - 1) default).id < (l.getD j default).id) ∧ (zL (l.take i)).Nodup ∧ yP (l.take i) ≤ MM }) (fun i => ⟨[(0, .sl (chs l)), (4, .mp 0), (5, .int .u64 (yP (l.take i.1) : Nat)), (18, .sl (chs l)), (19, .int .i64 l.length), (20, .int .i64 i.1)], [(0, .map [.int .u64] (kvN .u64 .i64 (hm 0 (l.take i.1))))], 1⟩) (fun i => l.length - i.1) ⟨0, by simp [zL, yP]⟩ ?_ ?_
  · simp [go_sem, yP]; rfl
  · rintro ⟨i, hi, hall, ho, hn, hs⟩
    refine qb qE.toS zch _ _ _ rfl ?_
    simp -implicitDefEqProofs only [cdA, go_sem, reduceIte, reduceCtorEq, Nat.reduceEqDiff, Nat.reduceAdd, Nat.reduceLeDiff, Nat.reduceSub, Nat.reduceMul, Nat.reduceLT, Nat.reduceShiftRight, Nat.reduceMod, Int.reduceLE, Int.reduceLT, Int.reduceToNat, List.cons.injEq, cdB]
    refine ⟨fun h => ⟨by omega, ?_⟩, fun h => ?_⟩
    · refine uc.run bbT qE qa (by kernel_rfl) (by kernel_rfl) ?_
      simp -implicitDefEqProofs only [cdA, go_sem, reduceIte, reduceCtorEq, Nat.reduceEqDiff, Nat.reduceAdd, Nat.reduceLeDiff, Nat.reduceSub, Nat.reduceMul, Nat.reduceLT, Nat.reduceShiftRight, Nat.reduceMod, Int.reduceLE, Int.reduceLT, Int.reduceToNat, List.cons.injEq, cdB]
      have hi' : i < l.length := by omega
      have hmem : l.getD i default ∈ l := jb.2 ⟨i, hi', rfl⟩
      have hsub : ∀ {a b : List Nat}, (a ++ b).Nodup ↔ a.Nodup ∧ b.Nodup ∧ ∀ x ∈ b, x ∉ a := fun {a b} => by
        rw [List.nodup_append]
        exact and_congr_right fun _ => and_congr_right fun _ => ⟨fun h x hb ha => h x ha x hb rfl, fun h x ha y hb e => h y hb (e ▸ ha)⟩
      have hks := gaH hi'
      have hts := waU hi'
      have hmsu := vbo hi'
      have htle := kbv (l := l) (i := i + 1)
      have htk : ∀ c, c ∈ l.take (i + 1) ↔ c ∈ l.take i ∨ c = l.getD i default := fun c => by rw [take_succ hi']; simp
      refine ⟨fun h2 => ?_, fun h2 => hbad fun h => h2 (by rw [xg, if_pos (h.2.1 _ hmem)])⟩
      have hc0 : yl (l.getD i default) := gG.1 h2
      have hcn := zbm hc0
      have hA := gbi (l.getD i default)
      change yP (l.take (i + 1)) = yP (l.take i) + (xg (l.getD i default)).2.1 at hts
      change (xg (l.getD i default)).2.1 ≤ MM at hA
      have hadd : ¬ (ban [yP (l.take i), (xg (l.getD i default)).2.1]).2 = 0 → ¬ ym l := fun h3 h => h3 (jX.2 (by
        have := h.2.2.2.2
        simp only [List.mem_cons, List.not_mem_nil, or_false, forall_eq_or_imp, forall_eq, List.sum_cons, List.sum_nil]
        unfold MM at *
        omega))
      generalize hc : l.getD i default = c at *
      refine ⟨fun h3 => ⟨?_, fun h4 => hbad fun h => ?_, fun h4 => ⟨fun h5 _ => ?_, fun h5 => hbad (hadd h5)⟩⟩, fun h3 => ⟨fun h5 _ => ?_, fun h5 => hbad (hadd h5)⟩⟩
      · rw [i64_in _ (by omega)]; omega
      · rw [i64_in _ (by omega), show ((i : Int) - 1).toNat = i - 1 by omega] at h4
        have := h.2.2.1 i hi' (by omega)
        rw [hc] at this
        simp only [ltN] at this
        have := xk (x := ((l.getD (i - 1) default).id : Int)) (y := c.id)
        omega
      all_goals
        have hord : 0 < i → (l.getD (i - 1) default).id < c.id := fun h0 => by
          first
          | (exfalso; omega)
          | (rw [i64_in _ (by omega), show ((i : Int) - 1).toNat = i - 1 by omega] at h4
             have := xk (x := ((l.getD (i - 1) default).id : Int)) (y := c.id)
             omega)
        have hsum := vaU h5
        have hsum2 := (jX.1 h5).2
        simp only [List.sum_cons, List.sum_nil, Nat.add_zero] at hsum hsum2
        rw [hsum]
        refine SWp.loop (ι := { k : Nat // k ≤ c.holds.length ∧ ∀ j, j < k → (c.holds.getD j default).id ∉ zL (l.take i) }) (fun k => ⟨[(0, .sl (chs l)), (4, .mp 0), (5, .int .u64 ((yP (l.take i) + (xg c).2.1 : Nat) : Int)), (6, .int .i64 i), (18, .sl (chs l)), (19, .int .i64 l.length), (20, .int .i64 i), (57, .sl (hds c.holds)), (58, .int .i64 c.holds.length), (59, .int .i64 k.1)], [(0, .map [.int .u64] (kvN .u64 .i64 (hm 0 (l.take i) ++ (c.holds.take k.1).map fun x => (x.id, (i : Int)))))], 3⟩) (fun k => c.holds.length - k.1) ⟨0, by simp⟩ ?_ ?_
        · simp [go_sem]
        · rintro ⟨k, hk, hin⟩
          refine qb qE.toS zch _ _ _ rfl ?_
          simp -implicitDefEqProofs only [cdA, go_sem, reduceIte, reduceCtorEq, Nat.reduceEqDiff, Nat.reduceAdd, Nat.reduceLeDiff, Nat.reduceSub, Nat.reduceMul, Nat.reduceLT, Nat.reduceShiftRight, Nat.reduceMod, Int.reduceLE, Int.reduceLT, Int.reduceToNat, List.cons.injEq, cdB]
          have hkeys : ∀ m, m ≤ c.holds.length → (hm 0 (l.take i) ++ (c.holds.take m).map fun x => (x.id, (i : Int))).map (·.1) = zL (l.take i) ++ (c.holds.take m).map Hd.id := fun m hm => by
            rw [List.map_append, xH, List.map_map]; rfl
          refine ⟨fun h6 => ⟨by omega, fun a ha => hbad fun h => ?_, fun ha => ?_⟩, fun h6 => ?_⟩
          · have hk' : k < c.holds.length := by omega
            have h7 : ¬ nlk (c.holds.getD k default).id (hm 0 (l.take i) ++ (c.holds.take k).map fun x => (x.id, (i : Int))) = none := by rw [ha]; simp
            rw [u7, hkeys k hk, Classical.not_not, List.mem_append] at h7
            rcases h7 with h7 | h7
            · have := jbo (i := i + 1) h.2.2.2.1
              rw [hks, hsub] at this
              exact this.2.2 _ (List.mem_map.2 ⟨_, jb.2 ⟨k, hk', rfl⟩, rfl⟩) h7
            · have h8 : (c.holds.take (k + 1)).map Hd.id = (c.holds.take k).map Hd.id ++ [(c.holds.getD k default).id] := by rw [take_succ hk']; simp
              have h9 : ((c.holds.take (k + 1)).map Hd.id).Nodup := by
                rw [List.map_take]; exact hcn.sublist (List.take_sublist _ _)
              rw [h8, hsub] at h9
              exact h9.2.2 _ (by simp) h7
          · have hk' : k < c.holds.length := by omega
            have h7 := u7.1 ha
            rw [bau h7]
            rw [hkeys k hk, List.mem_append, not_or] at h7
            refine ⟨⟨k + 1, hk', fun j hj => ?_⟩, by dsimp only; omega, i64_in _ (by omega), ?_⟩
            · by_cases hji : j = k
              · subst hji; exact h7.1
              · exact hin j (by omega)
            · dsimp only
              rw [take_succ hk', List.map_append, ← List.append_assoc]; rfl
          · have hk' : k = c.holds.length := by omega
            subst hk'
            refine ⟨⟨i + 1, hi', fun d hd => ((htk d).1 hd).elim (hall d) (fun e => e ▸ hc0), fun j hj h0 => ?_, ?_, by rw [hts]; exact hsum2⟩, by dsimp only; omega, ⟨by dsimp only; rw [hts]; omega, i64_in _ (by omega)⟩, ?_⟩
            · by_cases hji : j = i
              · subst hji; rw [hc]; exact hord h0
              · exact ho j (by omega) h0
            · rw [hks, hsub]
              refine ⟨hn, hcn, fun x hx => ?_⟩
              obtain ⟨y, hy, rfl⟩ := List.mem_map.1 hx
              obtain ⟨j, hj, rfl⟩ := jb.1 hy
              exact hin j (by omega)
            · dsimp only
              rw [List.take_length, hmsu]
    · have hi' : i = l.length := by omega
      subst hi'
      rw [List.take_length] at hall hn hs ⊢
      rw [zV, if_pos ⟨by omega, hall, fun j hj h0 => ho j hj h0, hn, hs⟩]
      exact ⟨⟨_, _, rfl, vat, .refl _⟩, rfl⟩
def xK : List D → Option (Prop × D × Fr)
  | [.c (.sl z107)] => some (z107 = chs (xh z107), kaJ (xh z107), [])
  | _ => none
attribute [go_sem] xK
theorem bR : ∀ rs p r fr, xK rs = some (p, r, fr) → p → zg Tryz.prog 57 rs r fr := by
  intro rs p r fr h hp
  unfold xK at h
  split at h <;> cases h
  have hc0 := hp
  rename_i z107
  obtain ⟨z107, rfl⟩ : ∃ m, z107 = chs m := ⟨_, hc0⟩
  simp only [xb]
  exact ja7 z107
@[go_sem] def yaB (l : List Ch) : D := .int .i64 (u9 l)
@[go_sem] abbrev wcl : FuncId := 102
@[go_sem] def wa2 : Tab := [(57, xK)]
theorem xaq : ya Tryz.prog wa2 := (ya.cons bR ya.nil)
set_option maxRecDepth 8000 in
set_option maxHeartbeats 1000000 in
theorem vaN (l : List Ch)  : yb Tryz.prog 102 [.sl (chs l)] (yaB l) := by
  refine .of (vcD xaq (Nat.le_of_ble_eq_true rfl) ?_)
  simp -implicitDefEqProofs only [cdA, go_sem, Go.Proofs.Tryz.f102, reduceIte, reduceCtorEq, Nat.reduceEqDiff, Nat.reduceAdd, Nat.reduceLeDiff, Nat.reduceSub, Nat.reduceMul, Nat.reduceLT, Nat.reduceShiftRight, Nat.reduceMod, Int.reduceLE, Int.reduceLT, Int.reduceToNat, List.cons.injEq, cdB]
  rw [zV, u9]; split <;> rfl
def uo : List D → Option (Prop × D × Fr)
  | [.c (.sl z108)] => some (z108 = chs (xh z108), yaB (xh z108), [])
  | _ => none
attribute [go_sem] uo
theorem vo : ∀ rs p r fr, uo rs = some (p, r, fr) → p → zg Tryz.prog 102 rs r fr := by
  intro rs p r fr h hp
  unfold uo at h
  split at h <;> cases h
  have hc0 := hp
  rename_i z108
  obtain ⟨z108, rfl⟩ : ∃ m, z108 = chs m := ⟨_, hc0⟩
  simp only [xb]
  exact vaN z108
end Dm
namespace Dm
open Go Go.Proofs Go.IntWalk
structure Py where
  id : Nat
  hash : Nat
  chan : Nat
  n : Nat
  state : Int
deriving DecidableEq, Inhabited
@[go_sem] def Py.enc (e : Py) : List C := [.int .u64 (e.id : Int), .int .u64 (e.hash : Int), .int .u64 (e.chan : Int), .int .u64 (e.n : Int), .int .i64 e.state]
def Py.dec : List C → Py
  | [.int .u64 z219, .int .u64 z220, .int .u64 z221, .int .u64 z222, .int .i64 z223] => (⟨z219.toNat, z220.toNat, z221.toNat, z222.toNat, z223⟩ : Py)
  | _ => default
def pys (l : List Py) : List (List C) := l.map Py.enc
def gj (l : List (List C)) : List Py := l.map Py.dec
@[simp, go_sem] theorem ue (l : List Py) : (pys l).length = l.length := by simp [pys]
@[go_sem] theorem wcI (l : List Py) (i : Nat) : (pys l).getD i [.int .u64 0, .int .u64 0, .int .u64 0, .int .u64 0, .int .i64 0] = (l.getD i default).enc := by
  simp only [pys, List.getD_eq_getElem?_getD, List.getElem?_map]
  cases l[i]? <;> rfl
@[go_sem] theorem qaw (l : List Py) : vh 5 (pys l) = True := by
  simp [vh, pys, Py.enc]
theorem Py.zh (e : Py) : Py.dec e.enc = e := by
  simp [Py.enc, Py.dec]
@[go_sem] theorem jc (l : List Py) : gj (pys l) = l := by
  simp only [gj, pys, List.map_map]
  exact List.map_id'' (fun e => Py.zh e) l
@[go_sem] theorem ycz (a b : List Py) : pys a ++ pys b = pys (a ++ b) := by simp [pys]
@[go_sem] theorem jcc (l : List Py) (k : Nat) : (pys l).drop k = pys (l.drop k) := by simp [pys]
@[go_sem] theorem bcn (l : List Py) (k : Nat) : (pys l).take k = pys (l.take k) := by simp [pys]
@[go_sem] theorem vcw (z224 : Int) (z225 : Int) (z226 : Int) (z227 : Int) (z228 : Int) (hz224 : 0 ≤ z224) (hz225 : 0 ≤ z225) (hz226 : 0 ≤ z226) (hz227 : 0 ≤ z227) : [[C.int .u64 z224, C.int .u64 z225, C.int .u64 z226, C.int .u64 z227, C.int .i64 z228]] = pys [⟨z224.toNat, z225.toNat, z226.toNat, z227.toNat, z228⟩] := by simp [pys, Py.enc, Int.toNat_of_nonneg hz224, Int.toNat_of_nonneg hz225, Int.toNat_of_nonneg hz226, Int.toNat_of_nonneg hz227]
@[go_sem] theorem ycC (l : List Py) (i : Nat) (z224 : Int) (z225 : Int) (z226 : Int) (z227 : Int) (z228 : Int) (hz224 : 0 ≤ z224) (hz225 : 0 ≤ z225) (hz226 : 0 ≤ z226) (hz227 : 0 ≤ z227) : (pys l).set i [C.int .u64 z224, C.int .u64 z225, C.int .u64 z226, C.int .u64 z227, C.int .i64 z228] = pys (l.set i ⟨z224.toNat, z225.toNat, z226.toNat, z227.toNat, z228⟩) := by simp [pys, List.map_set, Py.enc, Int.toNat_of_nonneg hz224, Int.toNat_of_nonneg hz225, Int.toNat_of_nonneg hz226, Int.toNat_of_nonneg hz227]
@[go_sem] theorem vci (l : List Py) (z224 : Int) (z225 : Int) (z226 : Int) (z227 : Int) (z228 : Int) (hz224 : 0 ≤ z224) (hz225 : 0 ≤ z225) (hz226 : 0 ≤ z226) (hz227 : 0 ≤ z227) : [C.int .u64 z224, C.int .u64 z225, C.int .u64 z226, C.int .u64 z227, C.int .i64 z228] :: pys l = pys (⟨z224.toNat, z225.toNat, z226.toNat, z227.toNat, z228⟩ :: l) := by simp [pys, Py.enc, Int.toNat_of_nonneg hz224, Int.toNat_of_nonneg hz225, Int.toNat_of_nonneg hz226, Int.toNat_of_nonneg hz227]
@[go_sem] theorem vcp (l : List Py) : kah (pys l) = True := eq_true fun x hx c hc => by
  obtain ⟨e, _, rfl⟩ := List.mem_map.1 hx
  simp only [Py.enc, List.mem_cons, List.not_mem_nil, or_false] at hc
  rcases hc with rfl | rfl | rfl | rfl | rfl <;> rfl
@[go_sem] theorem Py.eta {e : Py} : (⟨e.id, e.hash, e.chan, e.n, e.state⟩ : Py) = e := rfl
@[go_sem] theorem Py.eqD {a b : Py} : eqD Tryz.prog 45 [D.c (.int .u64 (a.id : Int)), D.c (.int .u64 (a.hash : Int)), D.c (.int .u64 (a.chan : Int)), D.c (.int .u64 (a.n : Int)), D.c (.int .i64 a.state)] [D.c (.int .u64 (b.id : Int)), D.c (.int .u64 (b.hash : Int)), D.c (.int .u64 (b.chan : Int)), D.c (.int .u64 (b.n : Int)), D.c (.int .i64 b.state)] = some (decide (a = b)) := by
  cases a; cases b
  simp only [Dm.eqD, xbu, yH, eqC, List.getElem?_cons_zero, List.getElem?_cons_succ, if_true, Option.some.injEq, Py.mk.injEq]
  rw [Bool.eq_iff_iff]
  simp [Int.ofNat_inj]
def uL (x : Py) : Prop := (x.n ≠ 0 ∧ x.n ≤ MM) ∧ 1 ≤ x.state ∧ x.state ≤ 3
instance (x : Py) : Decidable (uL x) := by unfold uL; infer_instance
def yL (l : List Py) : Prop := l.length ≤ 256 ∧ (∀ x ∈ l, uL x) ∧ Srt.Chn Py.id ltN l
instance (l : List Py) : Decidable (Srt.Chn Py.id ltN l) := by unfold Srt.Chn; infer_instance
instance (l : List Py) : Decidable (yL l) := by unfold yL; infer_instance
def ya3 (l : List Py) : Int := if yL l then 0 else 1
@[go_sem] def wav (x : Py) (id : Nat) : D := .int .i64 (vad x.id id)
@[go_sem] abbrev wcf : FuncId := 151
@[go_sem] def ba9 : Tab := [(129, xO)]
theorem bas : ya Tryz.prog ba9 := (ya.cons wC ya.nil)
set_option maxRecDepth 8000 in
set_option maxHeartbeats 1000000 in
theorem uaR (x : Py) (id : Nat)  : yb Tryz.prog 151 [.agg [.c (.int .u64 (x.id : Int)), .c (.int .u64 (x.hash : Int)), .c (.int .u64 (x.chan : Int)), .c (.int .u64 (x.n : Int)), .c (.int .i64 x.state)], .c (.int .u64 (id : Int))] (wav x id) := by
  refine .of (xcS bas (Nat.le_of_ble_eq_true rfl) ?_)
  simp -implicitDefEqProofs only [cdA, go_sem, Go.Proofs.Tryz.f151, reduceIte, reduceCtorEq, Nat.reduceEqDiff, Nat.reduceAdd, Nat.reduceLeDiff, Nat.reduceSub, Nat.reduceMul, Nat.reduceLT, Nat.reduceShiftRight, Nat.reduceMod, Int.reduceLE, Int.reduceLT, Int.reduceToNat, List.cons.injEq, cdB]
def kC : List D → Option (Prop × D × Fr)
  | [.agg [.c (.int .u64 z230), .c (.int .u64 z231), .c (.int .u64 z232), .c (.int .u64 z233), .c (.int .i64 z234)], .c (.int .u64 z235)] => some (z230 = (z230.toNat : Int) ∧ z231 = (z231.toNat : Int) ∧ z232 = (z232.toNat : Int) ∧ z233 = (z233.toNat : Int) ∧ z235 = (z235.toNat : Int), wav (⟨z230.toNat, z231.toNat, z232.toNat, z233.toNat, z234⟩ : Py) z235.toNat, [])
  | _ => none
attribute [go_sem] kC
theorem jN : ∀ rs p r fr, kC rs = some (p, r, fr) → p → zg Tryz.prog 151 rs r fr := by
  intro rs p r fr h hp
  unfold kC at h
  split at h <;> cases h
  obtain ⟨hc0, hc1, hc2, hc3, hc4⟩ := hp
  rename_i z230 z231 z232 z233 z234 z235
  obtain ⟨z230, rfl⟩ : ∃ m : Nat, z230 = m := ⟨_, hc0⟩
  obtain ⟨z231, rfl⟩ : ∃ m : Nat, z231 = m := ⟨_, hc1⟩
  obtain ⟨z232, rfl⟩ : ∃ m : Nat, z232 = m := ⟨_, hc2⟩
  obtain ⟨z233, rfl⟩ : ∃ m : Nat, z233 = m := ⟨_, hc3⟩
  obtain ⟨z235, rfl⟩ : ∃ m : Nat, z235 = m := ⟨_, hc4⟩
  simp only [Int.toNat_natCast]
  exact uaR ⟨z230, z231, z232, z233, z234⟩ z235
@[go_sem] def vba (p : Py) : D := .bool (decide (uL p))
@[go_sem] abbrev bc4 : FuncId := 131
@[go_sem] def ybV : Tab := [(49, yg)]
theorem zaI : ya Tryz.prog ybV := (ya.cons uf ya.nil)
set_option maxRecDepth 8000 in
set_option maxHeartbeats 1000000 in
theorem jbt (p : Py)  : yb Tryz.prog 131 [.agg [.c (.int .u64 (p.id : Int)), .c (.int .u64 (p.hash : Int)), .c (.int .u64 (p.chan : Int)), .c (.int .u64 (p.n : Int)), .c (.int .i64 p.state)]] (vba p) := by
  refine .of (vcy zaI (Nat.le_of_ble_eq_true rfl) ?_)
  simp -implicitDefEqProofs only [cdA, go_sem, Go.Proofs.Tryz.f131, reduceIte, reduceCtorEq, Nat.reduceEqDiff, Nat.reduceAdd, Nat.reduceLeDiff, Nat.reduceSub, Nat.reduceMul, Nat.reduceLT, Nat.reduceShiftRight, Nat.reduceMod, Int.reduceLE, Int.reduceLT, Int.reduceToNat, List.cons.injEq, cdB]
  have hm : wS [p.n] = 0 ↔ p.n ≤ MM := van
  rw [hm]
  have ho : uL p ↔ (p.n ≠ 0 ∧ p.n ≤ MM) ∧ 1 ≤ p.state ∧ p.state ≤ 3 := .rfl
  rw [show decide (uL p) = decide ((p.n ≠ 0 ∧ p.n ≤ MM) ∧ 1 ≤ p.state ∧ p.state ≤ 3) from decide_eq_decide.2 ho]
  refine ⟨fun h => ⟨fun h2 => ⟨fun h3 => ?_, fun h3 => ?_⟩, fun h2 => ?_⟩, fun h => ?_⟩
  · rw [decide_eq_decide]; exact ⟨fun h4 => ⟨⟨by omega, h2⟩, h3, h4⟩, fun h4 => h4.2.2⟩
  · exact (decide_eq_false fun h4 => h3 h4.2.1).symm
  · exact (decide_eq_false fun h4 => h2 h4.1.2).symm
  · exact (decide_eq_false fun h4 => h4.1.1 (by omega)).symm
def yV : List D → Option (Prop × D × Fr)
  | [.agg [.c (.int .u64 z237), .c (.int .u64 z238), .c (.int .u64 z239), .c (.int .u64 z240), .c (.int .i64 z241)]] => some (z237 = (z237.toNat : Int) ∧ z238 = (z238.toNat : Int) ∧ z239 = (z239.toNat : Int) ∧ z240 = (z240.toNat : Int), vba (⟨z237.toNat, z238.toNat, z239.toNat, z240.toNat, z241⟩ : Py), [])
  | _ => none
attribute [go_sem] yV
theorem yZ : ∀ rs p r fr, yV rs = some (p, r, fr) → p → zg Tryz.prog 131 rs r fr := by
  intro rs p r fr h hp
  unfold yV at h
  split at h <;> cases h
  obtain ⟨hc0, hc1, hc2, hc3⟩ := hp
  rename_i z237 z238 z239 z240 z241
  obtain ⟨z237, rfl⟩ : ∃ m : Nat, z237 = m := ⟨_, hc0⟩
  obtain ⟨z238, rfl⟩ : ∃ m : Nat, z238 = m := ⟨_, hc1⟩
  obtain ⟨z239, rfl⟩ : ∃ m : Nat, z239 = m := ⟨_, hc2⟩
  obtain ⟨z240, rfl⟩ : ∃ m : Nat, z240 = m := ⟨_, hc3⟩
  simp only [Int.toNat_natCast]
  exact jbt ⟨z237, z238, z239, z240, z241⟩
@[go_sem] def kav (l : List Py) : D := .int .i64 (ya3 l)
@[go_sem] abbrev jcp : FuncId := 149
@[go_sem] def va8 : Tab := [(131, yV), (151, kC)]
theorem wG : ya Tryz.prog va8 := (ya.cons yZ (ya.cons jN ya.nil))
set_option maxRecDepth 8000 in
set_option maxHeartbeats 1000000 in
theorem waJ (l : List Py)  : yb Tryz.prog 149 [.sl (pys l)] (kav l) := by
  refine .of (qcS wG (Nat.le_of_ble_eq_true rfl) ?_)
  simp -implicitDefEqProofs only [cdA, go_sem, Go.Proofs.Tryz.f149, reduceIte, reduceCtorEq, Nat.reduceEqDiff, Nat.reduceAdd, Nat.reduceLeDiff, Nat.reduceSub, Nat.reduceMul, Nat.reduceLT, Nat.reduceShiftRight, Nat.reduceMod, Int.reduceLE, Int.reduceLT, Int.reduceToNat, List.cons.injEq, cdB]
  have hbad : ¬ yL l → 1 = ya3 l := fun h => by rw [ya3, if_neg h]
  refine fun _ => ⟨fun h => hbad fun ho => ?_, fun h _ => ?_⟩
  · have := ho.1; omega
  refine SWp.loop (ι := { i : Nat // i ≤ l.length ∧ (∀ j, j < i → uL (l.getD j default) ∧ (0 < j → (l.getD (j - 1) default).id < (l.getD j default).id)) }) (fun i => ⟨[(0, .sl (pys l)), (8, .sl (pys l)), (9, .int .i64 l.length), (10, .int .i64 i.1)], [], 0⟩) (fun i => l.length - i.1) ⟨0, by simp⟩ ?_ ?_
  · simp [go_sem]
  · rintro ⟨i, hi, hall⟩
    refine qb wG.toS kbw _ _ _ rfl ?_
    simp -implicitDefEqProofs only [cdA, go_sem, reduceIte, reduceCtorEq, Nat.reduceEqDiff, Nat.reduceAdd, Nat.reduceLeDiff, Nat.reduceSub, Nat.reduceMul, Nat.reduceLT, Nat.reduceShiftRight, Nat.reduceMod, Int.reduceLE, Int.reduceLT, Int.reduceToNat, List.cons.injEq, cdB]
    refine ⟨fun h1 => ⟨by omega, ?_⟩, fun h1 => ?_⟩
    · refine uc.run vbs wG qa (by kernel_rfl) (by kernel_rfl) ?_
      simp -implicitDefEqProofs only [cdA, go_sem, reduceIte, reduceCtorEq, Nat.reduceEqDiff, Nat.reduceAdd, Nat.reduceLeDiff, Nat.reduceSub, Nat.reduceMul, Nat.reduceLT, Nat.reduceShiftRight, Nat.reduceMod, Int.reduceLE, Int.reduceLT, Int.reduceToNat, List.cons.injEq, cdB]
      have hi' : i < l.length := by omega
      have hm : yL l → uL (l.getD i default) := fun h => h.2.1 _ (jb.2 ⟨i, hi', rfl⟩)
      refine ⟨fun h2 => ?_, fun h2 => hbad fun h => h2 (hm h)⟩
      have hnext : (0 < i → (l.getD (i - 1) default).id < (l.getD i default).id) → ∃ i_1 : { i : Nat // i ≤ l.length ∧ (∀ j, j < i → uL (l.getD j default) ∧ (0 < j → (l.getD (j - 1) default).id < (l.getD j default).id)) }, l.length - i_1.val < l.length - i ∧ IntKind.i64.wrap ((i : Int) + 1) = i_1.val := fun ho => by
        refine ⟨⟨i + 1, hi', fun j hj => ?_⟩, by dsimp only; omega, i64_in _ (by omega)⟩
        by_cases hji : j = i
        · subst hji; exact ⟨h2, ho⟩
        · exact hall j (by omega)
      refine ⟨fun h3 => ?_, fun h3 => hnext fun h => absurd h (by omega)⟩
      rw [i64_in _ (by omega), show ((i : Int) - 1).toNat = i - 1 by omega]
      have hc : ∀ a b : Nat, 0 ≤ vad a b ↔ ¬ a < b := fun a b => by
        have := xk (x := a) (y := b); omega
      rw [hc]
      exact ⟨by omega, fun h4 => hbad fun h => h4 (h.2.2 i hi' (by omega)), fun h4 => hnext fun _ => by omega⟩
    · have hi' : i = l.length := by omega
      subst hi'
      rw [ya3, if_pos]
      exact ⟨by omega, fun x hx => by obtain ⟨j, hj, rfl⟩ := jb.1 hx; exact (hall j hj).1, fun j hj h0 => (hall j hj).2 h0⟩
def bC : List D → Option (Prop × D × Fr)
  | [.c (.sl z242)] => some (z242 = pys (gj z242), kav (gj z242), [])
  | _ => none
attribute [go_sem] bC
theorem zO : ∀ rs p r fr, bC rs = some (p, r, fr) → p → zg Tryz.prog 149 rs r fr := by
  intro rs p r fr h hp
  unfold bC at h
  split at h <;> cases h
  have hc0 := hp
  rename_i z242
  obtain ⟨z242, rfl⟩ : ∃ m, z242 = pys m := ⟨_, hc0⟩
  simp only [jc]
  exact waJ z242
def qK (l : List Py) (id : Nat) : Int × Int := if yL l then ((Srt.pos Py.id ltN l id : Nat), if Srt.thr Py.id ltN l id = true then 0 else 5) else (0, 1)
@[go_sem] def gaI (l : List Py) (id : Nat) : D := .tup [.int .i64 (qK l id).1, .int .i64 (qK l id).2]
@[go_sem] abbrev ycV : FuncId := 62
@[go_sem] def ubo : Tab := [(149, bC), (151, kC)]
theorem yN : ya Tryz.prog ubo := (ya.cons zO (ya.cons jN ya.nil))
set_option maxRecDepth 8000 in
set_option maxHeartbeats 1000000 in
theorem gaZ (l : List Py) (id : Nat)  : yb Tryz.prog 62 [.sl (pys l), .c (.int .u64 (id : Int))] (gaI l id) := by
  refine .of (zdl yN (Nat.le_of_ble_eq_true rfl) ?_)
  simp -implicitDefEqProofs only [cdA, go_sem, Go.Proofs.Tryz.f62, reduceIte, reduceCtorEq, Nat.reduceEqDiff, Nat.reduceAdd, Nat.reduceLeDiff, Nat.reduceSub, Nat.reduceMul, Nat.reduceLT, Nat.reduceShiftRight, Nat.reduceMod, Int.reduceLE, Int.reduceLT, Int.reduceToNat, List.cons.injEq, cdB]
  have hcz : ya3 l = 0 ↔ yL l := by unfold ya3; split <;> simp_all
  refine ⟨fun hok0 => ?_, fun hno0 => by
    have hno : ¬ yL l := fun h => hno0 (hcz.2 h)
    rw [qK, ya3, if_neg hno, if_neg hno]; exact ⟨rfl, rfl⟩⟩
  have hok := hcz.1 hok0
  have hu : Srt.Up Py.id ltN l := (Srt.jg (lt := ltN) Srt.qf).1 hok.2.2
  have hl32 := hok.1
  refine wcE yN (Nat.le_of_ble_eq_true rfl) ?_
  simp -implicitDefEqProofs only [cdA, go_sem, Go.Proofs.Tryz.f150, reduceIte, reduceCtorEq, Nat.reduceEqDiff, Nat.reduceAdd, Nat.reduceLeDiff, Nat.reduceSub, Nat.reduceMul, Nat.reduceLT, Nat.reduceShiftRight, Nat.reduceMod, Int.reduceLE, Int.reduceLT, Int.reduceToNat, List.cons.injEq, cdB]
  refine fun _ => SWp.loop (ι := { x : Nat × Nat // x.1 ≤ x.2 ∧ x.2 ≤ l.length ∧ (∀ k, k < x.1 → (l.getD k default).id < id) ∧ ∀ k, x.2 ≤ k → k < l.length → ¬ (l.getD k default).id < id }) (fun x => ⟨[(0, .sl (pys l)), (1, .int .u64 id), (2, .fn (.func 151) [] []), (8, .int .i64 l.length), (9, .int .i64 x.1.1), (10, .int .i64 x.1.2)], [], 0⟩) (fun x => x.1.2 - x.1.1) ⟨(0, l.length), by simp, by simp, fun k hk => absurd hk (by simp), fun k h1 h2 => absurd h1 (by simpa using h2)⟩ ?_ ?_
  · simp [go_sem]
  · rintro ⟨⟨i, j⟩, hij, hj, hlo, hup⟩
    dsimp only at hij hj hlo hup
    refine qb yN.toS xbw _ _ _ rfl ?_
    simp -implicitDefEqProofs only [cdA, go_sem, reduceIte, reduceCtorEq, Nat.reduceEqDiff, Nat.reduceAdd, Nat.reduceLeDiff, Nat.reduceSub, Nat.reduceMul, Nat.reduceLT, Nat.reduceShiftRight, Nat.reduceMod, Int.reduceLE, Int.reduceLT, Int.reduceToNat, List.cons.injEq, cdB]
    rw [yS hij hj ‹_›]
    refine ⟨fun h4 => ?_, fun h4 => ?_⟩
    · have hm : (i + j) / 2 < l.length := by omega
      rw [xk, Int.toNat_natCast]
      refine ⟨by omega, fun h5 => ⟨⟨((i + j) / 2 + 1, j), by dsimp only; omega, hj, fun k hk => ?_, hup⟩, by dsimp only; omega, i64_in _ (by omega), rfl⟩, fun h5 => ⟨⟨(i, (i + j) / 2), by dsimp only; omega, by dsimp only; omega, hlo, fun k hk1 hk2 => ?_⟩, by dsimp only; omega, rfl, rfl⟩⟩
      · dsimp only at hk
        by_cases hkm : k = (i + j) / 2
        · rw [hkm]; omega
        · have := Srt.kj.1 hu k _ (by omega) hm
          simp only [ltN] at this; omega
      · dsimp only at hk1
        by_cases hkm : k = (i + j) / 2
        · rw [hkm]; omega
        · have := Srt.kj.1 hu ((i + j) / 2) k (by omega) hk2
          simp only [ltN] at this; omega
    · have hp : Srt.pos Py.id ltN l id = i := Srt.pos_eq (by omega) hlo (fun h => hup i (by omega) h)
      rw [qK, if_pos hok, Srt.thr, hp, wz]
      refine ⟨fun h5 => ⟨by omega, fun h6 => ?_, fun h6 => ?_⟩, fun h5 => ?_⟩
      · rw [if_pos (decide_eq_true ⟨by omega, by omega⟩)]; exact ⟨rfl, rfl⟩
      · rw [if_neg (by rw [decide_eq_true_iff]; omega)]; exact ⟨rfl, rfl⟩
      · rw [if_neg (by rw [decide_eq_true_iff]; omega)]; exact ⟨rfl, rfl⟩
def jK : List D → Option (Prop × D × Fr)
  | [.c (.sl z243), .c (.int .u64 z244)] => some (z243 = pys (gj z243) ∧ z244 = (z244.toNat : Int), gaI (gj z243) z244.toNat, [])
  | _ => none
attribute [go_sem] jK
theorem kU : ∀ rs p r fr, jK rs = some (p, r, fr) → p → zg Tryz.prog 62 rs r fr := by
  intro rs p r fr h hp
  unfold jK at h
  split at h <;> cases h
  obtain ⟨hc0, hc1⟩ := hp
  rename_i z243 z244
  obtain ⟨z243, rfl⟩ : ∃ m, z243 = pys m := ⟨_, hc0⟩
  obtain ⟨z244, rfl⟩ : ∃ m : Nat, z244 = m := ⟨_, hc1⟩
  simp only [Int.toNat_natCast, jc]
  exact gaZ z243 z244
end Dm
namespace Dm
open Go Go.Proofs Go.IntWalk
@[go_sem] def jbv : Tab := [ovk 215]
theorem wM : ya Tryz.prog jbv := .cons (waD 215) .nil
@[go_sem] def qbj : Tab := [fg 12]
theorem yaC : ya Tryz.prog qbj := .cons (bao 12) .nil
theorem zag (l : List Py) : vh 5 (pys l) := of_eq_true (qaw l)
set_option maxRecDepth 8000 in
set_option maxHeartbeats 1000000 in
theorem vap (l : List Py) (x : Py) (i : Nat) (hi : i ≤ l.length) (hl : l.length ≤ 1000000) :
    va Tryz.prog 136 [.vec 0 l.length, .int .i64 i, .vec 1 1] [(1, .vec true 5 45 (pys [x])), (0, .vec true 5 45 (pys l))] 2 fun d os _ => Grown 5 45 (pys (Srt.ins l i x)) d os := by
  have hil : (Srt.ins l i x).length = l.length + 1 := Srt.jk
  have hq : ∀ j os, lk j os = some (.vec true 5 45 (pys (Srt.ins l i x))) → Grown 5 45 (pys (Srt.ins l i x)) (.vec j (l.length + 1)) os := fun j os h => ⟨j, by rw [ue, hil], h⟩
  by_cases hin : i = l.length
  · refine gbU yaC (Nat.le_of_ble_eq_true rfl) ?_
    have e4 : ((1 : Int) = 0) = False := eq_false (by decide)
    subst hin
    simp -implicitDefEqProofs only [cdA, go_sem, Go.Proofs.Tryz.f136, e4, decide_true, reduceIte, reduceCtorEq, Nat.reduceEqDiff, Nat.reduceAdd, Nat.reduceLeDiff, Nat.reduceSub, Nat.reduceMul, Nat.reduceLT, Nat.reduceShiftRight, Nat.reduceMod, Int.reduceLE, Int.reduceLT, Int.reduceToNat, List.cons.injEq, cdB]
    refine ⟨Int.le_refl _, fun h => h.elim, fun _ => ⟨by omega, hq _ _ ?_⟩⟩
    rw [gb, if_neg (by decide), kP]
    simp [Srt.ins]
  · have hlt : i < l.length := by omega
    refine va.opn 0 rfl (by rw [ue]; omega) fun c hc hcm => ?_
    refine va.sld ?_
    rw [ue] at hc
    refine gbU wM (Nat.le_of_ble_eq_true rfl) ?_
    have e1 : IntKind.i64.wrap ((l.length : Int) + 1) = ((l.length + 1 : Nat) : Int) := by rw [i64_in _ (by omega)]; omega
    have e2 : IntKind.i64.wrap ((i : Int) + 1) = ((i + 1 : Nat) : Int) := by rw [i64_in _ (by omega)]; omega
    have e3 : ((i : Int) = (l.length : Int)) = False := eq_false (by omega)
    have e4 : ((1 : Int) = 0) = False := eq_false (by decide)
    have e5 : IntKind.i64.wrap ((l.length : Int) + 1 - (i : Int)) = ((l.length + 1 - i : Nat) : Int) := by rw [i64_in _ (by omega)]; omega
    have e6 : ((l.length : Int) + 1).toNat = l.length + 1 := by omega
    have e7 : ((i : Int) + 1).toNat = i + 1 := by omega
    have e8 : i + (l.length + 1 - i) = l.length + 1 := by omega
    simp -implicitDefEqProofs only [cdA, go_sem, Go.Proofs.Tryz.f136, e3, e4, e1, e2, e5, e6, e7, e8, decide_false, reduceIte, reduceCtorEq, Nat.reduceEqDiff, Nat.reduceAdd, Nat.reduceLeDiff, Nat.reduceSub, Nat.reduceMul, Nat.reduceLT, Nat.reduceShiftRight, Nat.reduceMod, Int.reduceLE, Int.reduceLT, Int.reduceToNat, List.cons.injEq, cdB]
    refine ⟨by omega, fun _ => ⟨fun h1 => ⟨by omega, by omega, fun c1 h2 h3 => ⟨by omega, ?_⟩⟩, fun h1 => ⟨by omega, by omega, ?_, ?_⟩⟩⟩
    · refine uc.run ka1 wM qa (by kernel_rfl) (by kernel_rfl) ?_
      simp -implicitDefEqProofs only [cdA, go_sem, e1, e2, e5, e6, e7, e8, reduceIte, reduceCtorEq, Nat.reduceEqDiff, Nat.reduceAdd, Nat.reduceLeDiff, Nat.reduceSub, Nat.reduceMul, Nat.reduceLT, Nat.reduceShiftRight, Nat.reduceMod, Int.reduceLE, Int.reduceLT, Int.reduceToNat, List.cons.injEq, cdB]
      refine ⟨by omega, by omega, fun y hy => qk (zag l) y (List.mem_of_mem_take (List.mem_of_mem_drop hy)), ?_⟩
      have := k7 (sz := 5) (c := c) (c1 := c1) (i := i) (E := pys l) (x := x.enc) (z := [C.int .u64 0, C.int .u64 0, C.int .u64 0, C.int .u64 0, C.int .i64 0]) (by rw [ue]; exact hlt) (by rw [ue]; exact hc) (by rw [ue]; exact h2)
      rw [ue] at this
      refine hq _ _ ?_
      rw [kP]
      congr 2
      rw [show pys (List.take (l.length + 1 - i) [x]) = List.take (l.length + 1 - i) [x.enc] by simp [pys], this]
      simp [pys, Srt.ins]
    · exact ⟨_, 25, 4, _, rfl, rfl, rfl, rfl, by kernel_rfl, wbx⟩
    · refine uc.run jaZ wM qa (by kernel_rfl) (by kernel_rfl) ?_
      simp -implicitDefEqProofs only [cdA, go_sem, e1, e2, e5, e6, e7, e8, reduceIte, reduceCtorEq, Nat.reduceEqDiff, Nat.reduceAdd, Nat.reduceLeDiff, Nat.reduceSub, Nat.reduceMul, Nat.reduceLT, Nat.reduceShiftRight, Nat.reduceMod, Int.reduceLE, Int.reduceLT, Int.reduceToNat, List.cons.injEq, cdB]
      refine ⟨by omega, by omega, fun y hy => qk (zag l) y (List.mem_of_mem_take (List.mem_of_mem_drop hy)), by omega, ?_⟩
      have := baa (sz := 5) (c := c) (i := i) (E := pys l) (x := x.enc) (by rw [ue]; exact hlt) (by rw [ue]; omega)
      rw [ue] at this
      refine hq _ _ ?_
      rw [kP]
      congr 2
      rw [show pys (List.take (l.length + 1 - i) [x]) = List.take (l.length + 1 - i) [x.enc] by simp [pys], this]
      simp [pys, Srt.ins]

@[go_sem] def kax (l : List Py) : D := .vec 0 l.length
@[go_sem] def kan (l : List Py) : Fr := [(5, 45, true, pys l)]
@[go_sem] abbrev gcc : FuncId := 132
@[go_sem] def baX : Tab := []
theorem baq : ya Tryz.prog baX := ya.nil
set_option maxRecDepth 8000 in
set_option maxHeartbeats 1000000 in
theorem uaP (l : List Py) (hl : l.length ≤ 1000000) : zn Tryz.prog 132 [.sl (pys l)] (kax l) (kan l) := by
  refine .of (ybP baq (Nat.le_of_ble_eq_true rfl) ?_)
  simp -implicitDefEqProofs only [cdA, go_sem, Go.Proofs.Tryz.f132, reduceIte, reduceCtorEq, Nat.reduceEqDiff, Nat.reduceAdd, Nat.reduceLeDiff, Nat.reduceSub, Nat.reduceMul, Nat.reduceLT, Nat.reduceShiftRight, Nat.reduceMod, Int.reduceLE, Int.reduceLT, Int.reduceToNat, List.cons.injEq, cdB]
  refine fun b hb => ⟨fun h => ?_, fun h => ?_⟩
  · exact ⟨[none], by simp [go_sem, hb h], by cases l <;> simp_all [go_sem, pys]⟩
  · exact ⟨by omega, [some 0], by simp [go_sem]⟩
@[go_sem] def yaw (l : List Py) : Prop := (l.length ≤ 1000000)
def uA : List D → Option (Prop × D × Fr)
  | [.c (.sl z273)] => some (z273 = pys (gj z273) ∧ yaw (gj z273), kax (gj z273), kan (gj z273))
  | _ => none
attribute [go_sem] uA
theorem qO : ∀ rs p r fr, uA rs = some (p, r, fr) → p → zg Tryz.prog 132 rs r fr := by
  intro rs p r fr h hp
  unfold uA at h
  split at h <;> cases h
  obtain ⟨hc0, hp⟩ := hp
  rename_i z273
  obtain ⟨z273, rfl⟩ : ∃ m, z273 = pys m := ⟨_, hc0⟩
  simp only [jc]
  simp only [jc, yaw] at hp
  exact (show zg _ _ _ _ _ from And.intro rfl (uaP z273 hp))
theorem xap {c z i : Nat} {E Z : List (List C)} (hi : i < E.length) (hc : E.length ≤ c) :
    (fit c z ((fit c z ((fit c z E).take i ++ (E.drop (i + 1) ++ (fit c z E).drop (i + (E.drop (i + 1)).length)))).take (i + (E.drop (i + 1)).length) ++ Z)).take (i + (E.drop (i + 1)).length) = E.eraseIdx i := by
  have hD : (E.drop (i + 1)).length = E.length - (i + 1) := List.length_drop
  have hF : (fit c z E).length = c := zf _ _ _
  have h1 : ((fit c z E).take i ++ (E.drop (i + 1) ++ (fit c z E).drop (i + (E.drop (i + 1)).length))).length = c := by
    simp only [List.length_append, List.length_take, List.length_drop, hF]; omega
  rw [yo (by rw [List.length_append, List.length_take, zf]; omega) (by omega), List.take_append_of_le_length (by rw [List.length_take, zf]; omega), List.take_take, Nat.min_self,
    yo (by omega) (by omega), ← List.append_assoc, yo (by omega) (by omega), List.take_append_of_le_length (by rw [List.length_append, List.length_take]; omega), List.eraseIdx_eq_take_drop_succ]
  rw [List.take_of_length_le (by rw [List.length_append, List.length_take]; omega)]
theorem uaT (l : List Py) (i : Nat) : (pys l).eraseIdx i = pys (l.eraseIdx i) := by
  simp [pys, List.eraseIdx_eq_take_drop_succ]
def idle (l : List Py) : Option Nat := l.findIdx? fun p => decide (p.state ≠ 1)
def bt (l : List Py) (p : Py) : List Py × Int :=
  if ¬ yL l ∨ ¬ uL p ∨ p.state ≠ 1 then ([], 1) else if Srt.thr Py.id ltN l p.id = true then ([], 6) else if l.length = 256 then (match idle l with
    | none => ([], 7)
    | some k => (Srt.ins (l.eraseIdx k) (if k < Srt.pos Py.id ltN l p.id then Srt.pos Py.id ltN l p.id - 1 else Srt.pos Py.id ltN l p.id) p, 0))
  else (Srt.ins l (Srt.pos Py.id ltN l p.id) p, 0)
@[go_sem] def xaB (l : List Py) (p : Py) : D := .tup [.sl (pys (bt l p).1), .int .i64 (bt l p).2]
@[go_sem] abbrev kcp : FuncId := 52
@[go_sem] def ka5 : Tab := [(62, jK), (131, yV), (132, uA), fg 13]
theorem wm : ya Tryz.prog ka5 := (ya.cons kU (ya.cons yZ (ya.cons qO (ya.cons (bao 13) ya.nil))))
set_option maxRecDepth 8000 in
set_option maxHeartbeats 1000000 in
theorem kaO (l : List Py) (p : Py)  : yb Tryz.prog 52 [.sl (pys l), .agg [.c (.int .u64 (p.id : Int)), .c (.int .u64 (p.hash : Int)), .c (.int .u64 (p.chan : Int)), .c (.int .u64 (p.n : Int)), .c (.int .i64 p.state)]] (xaB l p) := by
  refine .of (wdg wm (Nat.le_of_ble_eq_true rfl) ?_)
  simp -implicitDefEqProofs only [cdA, go_sem, Go.Proofs.Tryz.f52, reduceIte, reduceCtorEq, Nat.reduceEqDiff, Nat.reduceAdd, Nat.reduceLeDiff, Nat.reduceSub, Nat.reduceMul, Nat.reduceLT, Nat.reduceShiftRight, Nat.reduceMod, Int.reduceLE, Int.reduceLT, Int.reduceToNat, List.cons.injEq, cdB]
  have hbad : (¬ yL l ∨ ¬ uL p ∨ p.state ≠ 1) → pys (bt l p).1 = [] ∧ 1 = (bt l p).2 := fun h => by rw [bt, if_pos h]; exact ⟨rfl, rfl⟩
  by_cases hok : yL l
  rotate_left 1
  · have e : qK l p.id = (0, 1) := by rw [qK, if_neg hok]
    rw [e]
    exact ⟨fun h => absurd rfl h, fun _ => hbad (.inl hok)⟩
  have e : qK l p.id = (((Srt.pos Py.id ltN l p.id : Nat) : Int), if Srt.thr Py.id ltN l p.id = true then 0 else 5) := by rw [qK, if_pos hok]
  have h256 := hok.1
  rw [e]
  refine ⟨fun _ => ⟨fun h1 => ⟨fun h2 => ?_, fun h2 => hbad (.inr (.inr h2))⟩, fun h1 => hbad (.inr (.inl h1))⟩, fun h => by dsimp only at h; split at h <;> cases h⟩
  have hA : ¬ (¬ yL l ∨ ¬ uL p ∨ p.state ≠ 1) := by rintro (h | h | h) <;> first | exact h hok | exact h h1 | exact h h2
  by_cases ht : Srt.thr Py.id ltN l p.id = true
  · rw [if_pos ht]
    exact ⟨fun _ => by rw [bt, if_neg hA, if_pos ht]; exact ⟨rfl, rfl⟩, fun h => absurd rfl h⟩
  rw [if_neg ht]
  refine ⟨fun h => absurd h (by dsimp only; decide), fun _ => ⟨by omega, fun _ => ⟨fun h3 => ?_, fun h3 => ?_⟩⟩⟩
  · skip
    refine wct wm (Nat.le_of_ble_eq_true rfl) ?_
    simp -implicitDefEqProofs only [cdA, go_sem, Go.Proofs.Tryz.f133, reduceIte, reduceCtorEq, Nat.reduceEqDiff, Nat.reduceAdd, Nat.reduceLeDiff, Nat.reduceSub, Nat.reduceMul, Nat.reduceLT, Nat.reduceShiftRight, Nat.reduceMod, Int.reduceLE, Int.reduceLT, Int.reduceToNat, List.cons.injEq, cdB]
    refine fun _ => SWp.loop (ι := { i : Nat // i ≤ l.length ∧ ∀ j, j < i → (l.getD j default).state = 1 }) (fun i => ⟨[(0, .vec 1 l.length), (1, .fn (.func 134) [] []), (7, .int .i64 l.length), (8, .int .i64 i.1)],
      [(1, .vec true 5 45 (pys l)), (0, .box [.c (.int .u64 p.id), .c (.int .u64 p.hash), .c (.int .u64 p.chan), .c (.int .u64 p.n), .c (.int .i64 p.state)])], 2⟩) (fun i => l.length - i.1) ⟨0, by simp⟩ ?_ ?_
    · simp [go_sem]
    · rintro ⟨i, hi, hall⟩
      refine qb wm.toS kbx _ _ _ rfl ?_
      simp -implicitDefEqProofs only [cdA, go_sem, reduceIte, reduceCtorEq, Nat.reduceEqDiff, Nat.reduceAdd, Nat.reduceLeDiff, Nat.reduceSub, Nat.reduceMul, Nat.reduceLT, Nat.reduceShiftRight, Nat.reduceMod, Int.reduceLE, Int.reduceLT, Int.reduceToNat, List.cons.injEq, cdB]
      refine ⟨fun h4 => ⟨by omega, by omega, ?_⟩, fun h4 => ?_⟩
      · skip
        refine ucN wm (Nat.le_of_ble_eq_true rfl) ?_
        simp -implicitDefEqProofs only [cdA, go_sem, Go.Proofs.Tryz.f134, reduceIte, reduceCtorEq, Nat.reduceEqDiff, Nat.reduceAdd, Nat.reduceLeDiff, Nat.reduceSub, Nat.reduceMul, Nat.reduceLT, Nat.reduceShiftRight, Nat.reduceMod, Int.reduceLE, Int.reduceLT, Int.reduceToNat, List.cons.injEq, cdB]
        refine ⟨fun h5 => ⟨⟨i + 1, by omega, fun j hj => ?_⟩, by dsimp only; omega, i64_in _ (by omega)⟩, fun h5 => ⟨fun h6 => by omega, fun _ => ?_⟩⟩
        · by_cases hji : j = i
          · subst hji; exact h5
          · exact hall j (by omega)
        · have hi' : i < l.length := by omega
          have hidle : idle l = some i := by
            refine List.findIdx?_eq_some_iff_getElem.2 ⟨hi', ?_, fun j hj => ?_⟩
            · rw [← ve hi']; exact decide_eq_true h5
            · rw [← ve (by omega)]; simpa using hall j hj
          rw [i64_in _ (by omega)]
          refine va.opn 1 rfl (by rw [ue]; omega) fun c hc hcm => ?_
          refine va.sld ?_
          rw [ue] at hc
          refine gcH wm (Nat.le_of_ble_eq_true rfl) ?_
          simp -implicitDefEqProofs only [cdA, go_sem, Go.Proofs.Tryz.f135, reduceIte, reduceCtorEq, Nat.reduceEqDiff, Nat.reduceAdd, Nat.reduceLeDiff, Nat.reduceSub, Nat.reduceMul, Nat.reduceLT, Nat.reduceShiftRight, Nat.reduceMod, Int.reduceLE, Int.reduceLT, Int.reduceToNat, List.cons.injEq, cdB]
          refine fun _ => ⟨⟨by omega, by omega, by omega⟩, fun h => absurd h (by omega), fun _ _ => ?_⟩
          refine uc.run ubq wm qa (by kernel_rfl) (by kernel_rfl) ?_
          simp -implicitDefEqProofs only [cdA, go_sem, reduceIte, reduceCtorEq, Nat.reduceEqDiff, Nat.reduceAdd, Nat.reduceLeDiff, Nat.reduceSub, Nat.reduceMul, Nat.reduceLT, Nat.reduceShiftRight, Nat.reduceMod, Int.reduceLE, Int.reduceLT, Int.reduceToNat, List.cons.injEq, cdB]
          have eF : List.take l.length (fit c 5 (pys l)) = pys l := by rw [yo (by rw [ue]; exact Nat.le_refl _) hc, List.take_of_length_le (by rw [ue]; exact Nat.le_refl _)]
          have e2 : ((i : Int) + 1).toNat = i + 1 := by omega
          rw [eF, e2]
          have hD : ((pys l).drop (i + 1)).length = l.length - (i + 1) := by rw [List.length_drop, ue]
          have e3 : ((i : Int) + (((pys l).drop (i + 1)).length : Int)).toNat = i + ((pys l).drop (i + 1)).length := by omega
          simp only [e3]
          have hE : ∀ Z : List (List C), (fit c 5 ((fit c 5 ((fit c 5 (pys l)).take i ++ ((pys l).drop (i + 1) ++ (fit c 5 (pys l)).drop (i + ((pys l).drop (i + 1)).length)))).take (i + ((pys l).drop (i + 1)).length) ++ Z)).take (i + ((pys l).drop (i + 1)).length) = pys (l.eraseIdx i) := fun Z => by
            rw [xap (by rw [ue]; exact hi') (by rw [ue]; exact hc), uaT]
          rw [hE, hD]
          have hl1 : i + (l.length - (i + 1)) = (l.eraseIdx i).length := by rw [List.length_eraseIdx_of_lt hi']; omega
          rw [hl1]
          have hl2 : (l.eraseIdx i).length = l.length - 1 := List.length_eraseIdx_of_lt hi'
          have hpl : Srt.pos Py.id ltN l p.id ≤ l.length := Srt.uau
          refine ⟨by omega, ⟨by omega, by omega⟩, ⟨fun x hx => ?_, by omega⟩, fun _ => ⟨⟨by omega, by omega, by omega⟩, fun h7 => ?_, fun h7 => ?_⟩⟩
          · exact (of_eq_true (qaw l)) x (List.mem_of_mem_drop hx)
          · rw [i64_in _ (by omega), show ((Srt.pos Py.id ltN l p.id : Nat) : Int) - 1 = ((Srt.pos Py.id ltN l p.id - 1 : Nat) : Int) by omega]
            refine va.grow (mid := [.int .i64 _]) (vap (l.eraseIdx i) p (Srt.pos Py.id ltN l p.id - 1) (by omega) (by omega)) rfl rfl (by decide) (by simp [Srt.jk]) (fun d hd g g' w v hv => ?_) ?_
            · simp at hd; subst hd
              cases hv with
              | c _ _ h => cases h; exact .c _ _ (.int _ _)
            · simp -implicitDefEqProofs only [cdA, go_sem, reduceIte, reduceCtorEq, Nat.reduceEqDiff, Nat.reduceAdd, Nat.reduceLeDiff, Nat.reduceSub, Nat.reduceMul, Nat.reduceLT, Nat.reduceShiftRight, Nat.reduceMod, Int.reduceLE, Int.reduceLT, Int.reduceToNat, List.cons.injEq, cdB]
              rw [bt, if_neg hA, if_neg ht, if_pos (by omega), hidle]
              dsimp only
              rw [if_pos (by omega)]
              exact ⟨⟨rfl, _, _, _, rfl⟩, rfl⟩
          · refine va.grow (mid := [.int .i64 _]) (vap (l.eraseIdx i) p (Srt.pos Py.id ltN l p.id) (by omega) (by omega)) rfl rfl (by decide) (by simp [Srt.jk]) (fun d hd g g' w v hv => ?_) ?_
            · simp at hd; subst hd
              cases hv with
              | c _ _ h => cases h; exact .c _ _ (.int _ _)
            · simp -implicitDefEqProofs only [cdA, go_sem, reduceIte, reduceCtorEq, Nat.reduceEqDiff, Nat.reduceAdd, Nat.reduceLeDiff, Nat.reduceSub, Nat.reduceMul, Nat.reduceLT, Nat.reduceShiftRight, Nat.reduceMod, Int.reduceLE, Int.reduceLT, Int.reduceToNat, List.cons.injEq, cdB]
              rw [bt, if_neg hA, if_neg ht, if_pos (by omega), hidle]
              dsimp only
              rw [if_neg (by omega)]
              exact ⟨⟨rfl, _, _, _, rfl⟩, rfl⟩
      · have : idle l = none := by
          refine List.findIdx?_eq_none_iff.2 fun x hx => ?_
          obtain ⟨j, hj, rfl⟩ := jb.1 hx
          simpa using hall j (by omega)
        rw [bt, if_neg hA, if_neg ht, if_pos (by omega), this]
        exact ⟨rfl, rfl⟩
  · have hpos : Srt.pos Py.id ltN l p.id ≤ l.length := Srt.uau
    refine va.grow (mid := [.int .i64 _]) (vap l p (Srt.pos Py.id ltN l p.id) hpos (by omega)) rfl rfl (by decide) (by simp [Srt.jk]) (fun d hd g g' w v hv => ?_) ?_
    · simp at hd; subst hd
      cases hv with
      | c _ _ h => cases h; exact .c _ _ (.int _ _)
    · simp -implicitDefEqProofs only [cdA, go_sem, reduceIte, reduceCtorEq, Nat.reduceEqDiff, Nat.reduceAdd, Nat.reduceLeDiff, Nat.reduceSub, Nat.reduceMul, Nat.reduceLT, Nat.reduceShiftRight, Nat.reduceMod, Int.reduceLE, Int.reduceLT, Int.reduceToNat, List.cons.injEq, cdB]
      rw [bt, if_neg hA, if_neg ht, if_neg (by omega)]
      exact ⟨⟨rfl, _, _, _, rfl⟩, rfl⟩
def gI : List D → Option (Prop × D × Fr)
  | [.c (.sl z274), .agg [.c (.int .u64 z276), .c (.int .u64 z277), .c (.int .u64 z278), .c (.int .u64 z279), .c (.int .i64 z280)]] => some (z274 = pys (gj z274) ∧ z276 = (z276.toNat : Int) ∧ z277 = (z277.toNat : Int) ∧ z278 = (z278.toNat : Int) ∧ z279 = (z279.toNat : Int), xaB (gj z274) (⟨z276.toNat, z277.toNat, z278.toNat, z279.toNat, z280⟩ : Py), [])
  | _ => none
attribute [go_sem] gI
theorem yaf : ∀ rs p r fr, gI rs = some (p, r, fr) → p → zg Tryz.prog 52 rs r fr := by
  intro rs p r fr h hp
  unfold gI at h
  split at h <;> cases h
  obtain ⟨hc0, hc1, hc2, hc3, hc4⟩ := hp
  rename_i z274 z276 z277 z278 z279 z280
  obtain ⟨z274, rfl⟩ : ∃ m, z274 = pys m := ⟨_, hc0⟩
  obtain ⟨z276, rfl⟩ : ∃ m : Nat, z276 = m := ⟨_, hc1⟩
  obtain ⟨z277, rfl⟩ : ∃ m : Nat, z277 = m := ⟨_, hc2⟩
  obtain ⟨z278, rfl⟩ : ∃ m : Nat, z278 = m := ⟨_, hc3⟩
  obtain ⟨z279, rfl⟩ : ∃ m : Nat, z279 = m := ⟨_, hc4⟩
  simp only [Int.toNat_natCast, jc]
  exact kaO z274 ⟨z276, z277, z278, z279, z280⟩
end Dm
namespace Dm
open Go Go.Proofs Go.IntWalk
def jq (l : List Py) (id : Nat) (paid : Bool) : List Py × Int :=
  if yL l then (if Srt.thr Py.id ltN l id = true then (if (l.getD (Srt.pos Py.id ltN l id) default).state = 1 then (l.set (Srt.pos Py.id ltN l id) { l.getD (Srt.pos Py.id ltN l id) default with state := if paid = true then 2 else 3 }, 0) else ([], 10)) else ([], 5)) else ([], 1)
@[go_sem] def vbg (l : List Py) (id : Nat) (paid : Bool) : D := .tup [.sl (pys (jq l id paid).1), .int .i64 (jq l id paid).2]
@[go_sem] abbrev gc9 : FuncId := 59
@[go_sem] def ubX : Tab := [(62, jK), (132, uA)]
theorem gaM : ya Tryz.prog ubX := (ya.cons kU (ya.cons qO ya.nil))
set_option maxRecDepth 8000 in
set_option maxHeartbeats 1000000 in
theorem gbx (l : List Py) (id : Nat) (paid : Bool)  : yb Tryz.prog 59 [.sl (pys l), .c (.int .u64 (id : Int)), .c (.bool paid)] (vbg l id paid) := by
  refine .of (qdm gaM (Nat.le_of_ble_eq_true rfl) ?_)
  simp -implicitDefEqProofs only [cdA, go_sem, Go.Proofs.Tryz.f59, reduceIte, reduceCtorEq, Nat.reduceEqDiff, Nat.reduceAdd, Nat.reduceLeDiff, Nat.reduceSub, Nat.reduceMul, Nat.reduceLT, Nat.reduceShiftRight, Nat.reduceMod, Int.reduceLE, Int.reduceLT, Int.reduceToNat, List.cons.injEq, cdB]
  by_cases hok : yL l
  rotate_left 1
  · have ef : qK l id = (0, 1) := by rw [qK, if_neg hok]
    rw [ef, jq, if_neg hok]
    exact ⟨fun h => absurd (show (1 : Int) = 0 from h) (by decide), fun _ => ⟨rfl, rfl⟩⟩
  by_cases ht : Srt.thr Py.id ltN l id = true
  rotate_left 1
  · have ef : qK l id = (((Srt.pos Py.id ltN l id : Nat) : Int), 5) := by rw [qK, if_pos hok, if_neg ht]
    rw [ef, jq, if_pos hok, if_neg ht]
    exact ⟨fun h => absurd (show (5 : Int) = 0 from h) (by decide), fun _ => ⟨rfl, rfl⟩⟩
  have ef : qK l id = (((Srt.pos Py.id ltN l id : Nat) : Int), 0) := by rw [qK, if_pos hok, if_pos ht]
  have hp : Srt.pos Py.id ltN l id < l.length := by
    have ht := ht
    unfold Srt.thr at ht
    exact (of_decide_eq_true ht).1
  rw [ef, jq, if_pos hok, if_pos ht]
  generalize Srt.pos Py.id ltN l id = r at hp
  dsimp only
  have h256 := hok.1
  have hg : ∀ x : Py, (l.set r x).getD r default = x := fun x => by rw [Srt.qy hp, if_pos rfl]
  simp only [Int.toNat_natCast, hg, List.set_set]
  refine ⟨fun _ => ⟨⟨by omega, by omega⟩, fun hs => ⟨by omega, ⟨by omega, by omega⟩, hp, fun hp1 => ⟨⟨by omega, by omega⟩, hp, ?_⟩, fun hp1 => ?_⟩, fun hs => ?_⟩, fun h => absurd trivial h⟩
  · rw [if_pos hs, if_pos hp1]; exact ⟨⟨by rw [List.length_set], _, _, _, rfl⟩, rfl⟩
  · rw [if_pos hs, if_neg (by rw [hp1]; decide)]; exact ⟨⟨by rw [List.length_set], _, _, _, rfl⟩, rfl⟩
  · rw [if_neg hs]; exact ⟨rfl, rfl⟩
def u6 : List D → Option (Prop × D × Fr)
  | [.c (.sl z1), .c (.int .u64 z2), .c (.bool z3)] => some (z1 = pys (gj z1) ∧ z2 = (z2.toNat : Int), vbg (gj z1) z2.toNat z3, [])
  | _ => none
attribute [go_sem] u6
theorem gaD : ∀ rs p r fr, u6 rs = some (p, r, fr) → p → zg Tryz.prog 59 rs r fr := by
  intro rs p r fr h hp
  unfold u6 at h
  split at h <;> cases h
  obtain ⟨hc0, hc1⟩ := hp
  rename_i z1 z2 z3
  obtain ⟨z1, rfl⟩ : ∃ m, z1 = pys m := ⟨_, hc0⟩
  obtain ⟨z2, rfl⟩ : ∃ m : Nat, z2 = m := ⟨_, hc1⟩
  simp only [Int.toNat_natCast, jc]
  exact gbx z1 z2 z3
end Dm
namespace Dm
open Go Go.Proofs Go.IntWalk
def hlC (c : Ch) : List K3 := c.holds.map fun h => (c.id, h.id, h.n)
def hlL (cs : List Ch) : List K3 := cs.flatMap hlC
def wL (l : List Py) : List Py := l.filter fun p => decide (p.state = 1)
def uY (l : List Py) (cs : List Ch) : Bool × Int := if yL l ∧ cs.length ≤ 32 ∧ (cs.map Ch.id).Nodup then (decide ((∀ p ∈ wL l, (p.chan, p.id, p.n) ∈ hlL cs) ∧ (hlL cs).length = (wL l).length), 0) else (false, 1)
theorem jbd : ∀ {cs : List Ch} {n : Nat}, (∀ c ∈ cs, c.holds.length ≤ 1000000) → cs.length ≤ n → (hlL cs).length ≤ n * 1000000
  | [], n, _, _ => by simp [hlL]
  | c :: cs, n, h, hn => by
    have h1 : hlL (c :: cs) = hlC c ++ hlL cs := rfl
    rw [h1, List.length_append]
    have h2 : (hlC c).length ≤ 1000000 := by unfold hlC; rw [List.length_map]; exact h c (.head _)
    have h3 := jbd (cs := cs) (n := cs.length) (fun d hd => h d (.tail _ hd)) (Nat.le_refl _)
    simp only [List.length_cons] at hn
    omega
@[go_sem] def vay (l : List Py) (cs : List Ch) : D := .tup [.bool (uY l cs).1, .int .i64 (uY l cs).2]
@[go_sem] abbrev jch : FuncId := 105
@[go_sem] def ba5 : Tab := [(149, bC)]
theorem br : ya Tryz.prog ba5 := (ya.cons zO ya.nil)
set_option maxRecDepth 8000 in
set_option maxHeartbeats 1000000 in
theorem baM (l : List Py) (cs : List Ch) (hs : ∀ c ∈ cs, c.holds.length ≤ 1000000) : yb Tryz.prog 105 [.sl (pys l), .sl (chs cs)] (vay l cs) := by
  refine .of (zcP br (Nat.le_of_ble_eq_true rfl) ?_)
  simp -implicitDefEqProofs only [cdA, go_sem, Go.Proofs.Tryz.f105, reduceIte, reduceCtorEq, Nat.reduceEqDiff, Nat.reduceAdd, Nat.reduceLeDiff, Nat.reduceSub, Nat.reduceMul, Nat.reduceLT, Nat.reduceShiftRight, Nat.reduceMod, Int.reduceLE, Int.reduceLT, Int.reduceToNat, List.cons.injEq, cdB]
  have hbad : ¬ (yL l ∧ cs.length ≤ 32 ∧ (cs.map Ch.id).Nodup) → false = (uY l cs).1 ∧ 1 = (uY l cs).2 := fun h => by rw [uY, if_neg h]; exact ⟨rfl, rfl⟩
  have hcz : ya3 l = 0 ↔ yL l := by unfold ya3; split <;> rename_i h <;> simp only [h] <;> decide
  refine ⟨fun h0 hl => ⟨fun h => hbad fun ho => ?_, fun hle _ => ?_⟩, fun h0 => hbad fun h => h0 (hcz.2 h.1)⟩
  · have := ho.2.1; omega
  have hok := hcz.1 h0
  refine SWp.loop (ι := { x : Nat × List (K3 × Int) × List (Nat × Int) // x.1 ≤ cs.length ∧ ((cs.take x.1).map Ch.id).Nodup ∧ (∀ k, (alk k x.2.1).getD 0 = (List.count k (hlL (cs.take x.1)) : Nat)) ∧ (∀ k, (nlk k x.2.2).getD 0 = (List.count k ((cs.take x.1).map Ch.id) : Nat)) })
    (fun x => ⟨[(0, .sl (pys l)), (6, .mp 0), (7, .mp 1), (8, .int .i64 (hlL (cs.take x.1.1)).length), (25, .sl (chs cs)), (26, .int .i64 cs.length), (27, .int .i64 x.1.1)], [(1, .map [.int .u64] (kvN .u64 .i64 x.1.2.2)), (0, .map [.int .u64, .int .u64, .int .u64] (kv3 x.1.2.1))], 2⟩) (fun x => cs.length - x.1.1)
    ⟨(0, [], []), by simp, by simp, fun k => by simp [alk, hlL], fun k => by simp [nlk]⟩ ?_ ?_
  · simp [go_sem, kvN, kv3, hlL]
  · rintro ⟨⟨i, m, ids⟩, hi, hnd, hm, hids⟩
    dsimp only at hi hnd hm hids
    refine qb br.toS yaO _ _ _ rfl ?_
    simp -implicitDefEqProofs only [cdA, go_sem, xa1, reduceIte, reduceCtorEq, Nat.reduceEqDiff, Nat.reduceAdd, Nat.reduceLeDiff, Nat.reduceSub, Nat.reduceMul, Nat.reduceLT, Nat.reduceShiftRight, Nat.reduceMod, Int.reduceLE, Int.reduceLT, Int.reduceToNat, List.cons.injEq, cdB]
    have hlen : (hlL (cs.take i)).length ≤ i * 1000000 := jbd (fun c hc => hs c (List.mem_of_mem_take hc)) (by rw [List.length_take]; omega)
    refine ⟨fun h1 => ⟨by omega, ?_⟩, fun h1 _ => ?_⟩
    · have hi' : i < cs.length := by omega
      have hcm : cs.getD i default ∈ cs := jb.2 ⟨i, hi', rfl⟩
      have htk : cs.take (i + 1) = cs.take i ++ [cs.getD i default] := take_succ hi'
      generalize cs.getD i default = c at *
      have hcl := hs c hcm
      have hcle : List.count c.id ((cs.take i).map Ch.id) ≤ 32 := Nat.le_trans List.count_le_length (by simp; omega)
      rw [hids, i64_in _ (by omega), kaa, if_pos rfl]
      generalize hids' : kaX c.id ((List.count c.id ((cs.take i).map Ch.id) : Nat) + 1 : Int) ids = ids'
      have hid2 : ∀ k, (nlk k ids').getD 0 = (List.count k ((cs.take (i + 1)).map Ch.id) : Nat) := fun k => by
        rw [← hids', kaa, htk, List.map_append, List.count_append]
        split
        · rename_i h; subst h; simp
        · rename_i h
          rw [hids]; simp [List.count_cons, Ne.symm h]
      refine ⟨fun h2 => hbad fun ho => ?_, fun h2 _ => ?_⟩
      · have h3 : (cs.take (i + 1)).map Ch.id <+: cs.map Ch.id := (List.take_prefix _ _).map _
        have h4 := h3.sublist.nodup ho.2.2
        rw [htk, List.map_append, List.nodup_append] at h4
        have h5 : 0 < List.count c.id ((cs.take i).map Ch.id) := by
          simp only [Option.getD_some] at h2; omega
        exact h4.2.2 _ (List.count_pos_iff.1 h5) c.id (by simp) rfl
      · have hnd' : ((cs.take (i + 1)).map Ch.id).Nodup := by
          rw [htk, List.map_append, List.nodup_append]
          refine ⟨hnd, by simp, fun x hx y hy => ?_⟩
          simp at hy
          rintro rfl
          subst hy
          have := List.count_pos_iff.2 hx
          simp only [Option.getD_some] at h2; omega
        refine SWp.loop (ι := { x : Nat × List (K3 × Int) // x.1 ≤ c.holds.length ∧ ∀ k, (alk k x.2).getD 0 = (List.count k (hlL (cs.take i) ++ (hlC c).take x.1) : Nat) })
          (fun x => ⟨[(0, .sl (pys l)), (6, .mp 0), (7, .mp 1), (8, .int .i64 ((hlL (cs.take i)).length + x.1.1 : Nat)), (10, .ref 2 0), (25, .sl (chs cs)), (26, .int .i64 cs.length), (27, .int .i64 i), (42, .c (.sl (hds c.holds))), (43, .int .i64 c.holds.length), (44, .int .i64 x.1.1)],
            [(2, .box [.c (.int .u64 c.id), .c (.int .u64 c.loc), .c (.int .u64 c.rem), .c (.int .u64 c.res), .c (.int .u64 c.most), .c (.sl (hds c.holds)), .c (.bool c.op)]), (1, .map [.int .u64] (kvN .u64 .i64 ids')), (0, .map [.int .u64, .int .u64, .int .u64] (kv3 x.1.2))], 3⟩) (fun x => c.holds.length - x.1.1)
          ⟨(0, m), by simp, fun k => by simp [hm]⟩ ?_ ?_
        · simp [go_sem]
        · rintro ⟨⟨k, m⟩, hk, hm⟩
          dsimp only at hk hm
          refine qb br.toS yaO _ _ _ rfl ?_
          simp -implicitDefEqProofs only [cdA, go_sem, xa1, reduceIte, reduceCtorEq, Nat.reduceEqDiff, Nat.reduceAdd, Nat.reduceLeDiff, Nat.reduceSub, Nat.reduceMul, Nat.reduceLT, Nat.reduceShiftRight, Nat.reduceMod, Int.reduceLE, Int.reduceLT, Int.reduceToNat, List.cons.injEq, cdB]
          refine ⟨fun h3 => ⟨by omega, ?_⟩, fun h3 => ?_⟩
          · refine uc.ucW qa5 [0, 0, 2, 0, 14, 31, 63, 63, 159, 511] br qa (by kernel_rfl) (by kernel_rfl) (by kernel_rfl) ?_
            simp -implicitDefEqProofs only [cdA, go_sem, xa1, reduceIte, reduceCtorEq, Nat.reduceEqDiff, Nat.reduceAdd, Nat.reduceLeDiff, Nat.reduceSub, Nat.reduceMul, Nat.reduceLT, Nat.reduceShiftRight, Nat.reduceMod, Int.reduceLE, Int.reduceLT, Int.reduceToNat, List.cons.injEq, cdB]
            have hk' : k < c.holds.length := by omega
            have hcl' : (hlC c).length = c.holds.length := by unfold hlC; rw [List.length_map]
            have hct : List.count (c.id, (c.holds.getD k default).id, (c.holds.getD k default).n) (hlL (cs.take i) ++ (hlC c).take k) ≤ i * 1000000 + 1000000 :=
              Nat.le_trans List.count_le_length (by rw [List.length_append, List.length_take]; omega)
            have hstep : (hlC c).take (k + 1) = (hlC c).take k ++ [(c.id, (c.holds.getD k default).id, (c.holds.getD k default).n)] := by
              rw [take_succ (by rw [hcl']; exact hk')]
              congr 2
              unfold hlC
              rw [ve (by rw [List.length_map]; exact hk'), ve hk', List.getElem_map]
            refine ⟨⟨(k + 1, _), hk', fun q => ?_⟩, by dsimp only; omega, ⟨by rw [i64_in _ (by omega)]; dsimp only; omega, i64_in _ (by omega)⟩, rfl⟩
            dsimp only
            rw [hm, i64_in _ (by omega), vaw, hstep, ← List.append_assoc]
            generalize hlL (cs.take i) ++ (hlC c).take k = A at *
            generalize (c.id, (c.holds.getD k default).id, (c.holds.getD k default).n) = t at *
            rw [List.count_append, List.count_singleton]
            split
            · rename_i h; subst h
              rw [if_pos (by simp), Option.getD_some]; omega
            · rename_i h
              rw [hm, if_neg (by simpa using Ne.symm h)]; omega
          · have hk' : k = c.holds.length := by omega
            subst hk'
            have hcl' : (hlC c).length = c.holds.length := by unfold hlC; rw [List.length_map]
            have hl1 : hlL (cs.take (i + 1)) = hlL (cs.take i) ++ hlC c := by rw [htk]; simp [hlL]
            refine ⟨⟨(i + 1, m, ids'), hi', hnd', fun q => ?_, hid2⟩, by dsimp only; omega, ⟨by dsimp only; rw [hl1, List.length_append, hcl']; omega, i64_in _ (by omega)⟩, rfl, rfl⟩
            dsimp only
            rw [hm, hl1, ← hcl', List.take_length]
    · have hi' : i = cs.length := by omega
      subst hi'
      rw [List.take_length] at hnd hm hids hlen ⊢
      have hA : yL l ∧ cs.length ≤ 32 ∧ (cs.map Ch.id).Nodup := ⟨hok, by omega, hnd⟩
      have hl256 := hok.1
      have hpl : ∀ j, (wL (l.take j)).length ≤ 256 := fun j => Nat.le_trans (List.length_filter_le _ _) (by rw [List.length_take]; omega)
      refine SWp.loop (ι := { j : Nat // j ≤ l.length ∧ ∀ p ∈ wL (l.take j), (p.chan, p.id, p.n) ∈ hlL cs }) (fun j => ⟨[(6, .mp 0), (8, .int .i64 ((hlL cs).length - (wL (l.take j.1)).length : Int)), (61, .sl (pys l)), (62, .int .i64 l.length), (63, .int .i64 j.1)], [(1, .map [.int .u64] (kvN .u64 .i64 ids)), (0, .map [.int .u64, .int .u64, .int .u64] (kv3 m))], 2⟩) (fun j => l.length - j.1) ⟨0, by simp [wL]⟩ ?_ ?_
      · simp [go_sem, wL]
      · rintro ⟨j, hj, hin⟩
        have hpj := hpl j
        refine qb br.toS yaO _ _ _ rfl ?_
        simp -implicitDefEqProofs only [cdA, go_sem, xa1, reduceIte, reduceCtorEq, Nat.reduceEqDiff, Nat.reduceAdd, Nat.reduceLeDiff, Nat.reduceSub, Nat.reduceMul, Nat.reduceLT, Nat.reduceShiftRight, Nat.reduceMod, Int.reduceLE, Int.reduceLT, Int.reduceToNat, List.cons.injEq, cdB]
        refine ⟨fun h1 => ⟨by omega, fun h2 => ?_, fun h2 => ?_⟩, fun h1 => ?_⟩
        · have hj' : j < l.length := by omega
          have hst : wL (l.take (j + 1)) = wL (l.take j) ++ [l.getD j default] := by
            unfold wL
            rw [take_succ hj', List.filter_append]
            simp only [List.filter_cons, decide_eq_true h2, if_true, List.filter_nil]
          rw [hm]
          refine ⟨fun h3 => ?_, fun h3 => ?_⟩
          · rw [uY, if_pos hA]
            refine ⟨(decide_eq_false fun h4 => ?_).symm, rfl⟩
            have h5 := h4.1 (l.getD j default) (List.mem_filter.2 ⟨jb.2 ⟨j, hj', rfl⟩, decide_eq_true h2⟩)
            have := List.count_pos_iff.2 h5
            omega
          · refine ⟨⟨j + 1, hj', fun p hp => ?_⟩, by dsimp only; omega, ?_, i64_in _ (by omega)⟩
            · rw [hst] at hp
              rcases List.mem_append.1 hp with hp | hp
              · exact hin p hp
              · rw [List.mem_singleton] at hp
                rw [hp]
                exact List.count_pos_iff.1 (by omega)
            · rw [i64_in _ (by omega)]
              dsimp only
              rw [hst, List.length_append, List.length_singleton]; omega
        · have hj' : j < l.length := by omega
          have hst : wL (l.take (j + 1)) = wL (l.take j) := by
            unfold wL
            rw [take_succ hj', List.filter_append]
            simp only [List.filter_cons, decide_eq_false h2, List.filter_nil, List.append_nil, Bool.false_eq_true, if_false]
          exact ⟨⟨j + 1, hj', fun p hp => hin p (by rwa [hst] at hp)⟩, by dsimp only; omega, by dsimp only; rw [hst], i64_in _ (by omega)⟩
        · have hj' : j = l.length := by omega
          subst hj'
          rw [List.take_length] at hin hpj ⊢
          rw [uY, if_pos hA]
          refine ⟨?_, rfl⟩
          rw [decide_eq_decide]
          exact ⟨fun h => ⟨hin, by omega⟩, fun h => by omega⟩
@[go_sem] def wax (l : List Py) (cs : List Ch) : Prop := (∀ c ∈ cs, c.holds.length ≤ 1000000)
def xI : List D → Option (Prop × D × Fr)
  | [.c (.sl z245), .c (.sl z246)] => some (z245 = pys (gj z245) ∧ z246 = chs (xh z246) ∧ wax (gj z245) (xh z246), vay (gj z245) (xh z246), [])
  | _ => none
attribute [go_sem] xI
theorem zam : ∀ rs p r fr, xI rs = some (p, r, fr) → p → zg Tryz.prog 105 rs r fr := by
  intro rs p r fr h hp
  unfold xI at h
  split at h <;> cases h
  obtain ⟨hc0, hc1, hp⟩ := hp
  rename_i z245 z246
  obtain ⟨z245, rfl⟩ : ∃ m, z245 = pys m := ⟨_, hc0⟩
  obtain ⟨z246, rfl⟩ : ∃ m, z246 = chs m := ⟨_, hc1⟩
  simp only [xb, jc]
  simp only [xb, jc, wax] at hp
  exact baM z245 z246 hp
end Dm
namespace Dm
open Go Go.Proofs Go.IntWalk
structure Iv where
  hash : Nat
  n : Nat
  till : Nat
  state : Int
deriving DecidableEq, Inhabited
@[go_sem] def Iv.enc (e : Iv) : List C := [.int .u64 (e.hash : Int), .int .u64 (e.n : Int), .int .u64 (e.till : Int), .int .i64 e.state]
def Iv.dec : List C → Iv
  | [.int .u64 z202, .int .u64 z203, .int .u64 z204, .int .i64 z205] => (⟨z202.toNat, z203.toNat, z204.toNat, z205⟩ : Iv)
  | _ => default
def ivs (l : List Iv) : List (List C) := l.map Iv.enc
def wj (l : List (List C)) : List Iv := l.map Iv.dec
@[simp, go_sem] theorem kg (l : List Iv) : (ivs l).length = l.length := by simp [ivs]
@[go_sem] theorem xcL (l : List Iv) (i : Nat) : (ivs l).getD i [.int .u64 0, .int .u64 0, .int .u64 0, .int .i64 0] = (l.getD i default).enc := by
  simp only [ivs, List.getD_eq_getElem?_getD, List.getElem?_map]
  cases l[i]? <;> rfl
@[go_sem] theorem za6 (l : List Iv) : vh 4 (ivs l) = True := by
  simp [vh, ivs, Iv.enc]
theorem Iv.zh (e : Iv) : Iv.dec e.enc = e := by
  simp [Iv.enc, Iv.dec]
@[go_sem] theorem qc (l : List Iv) : wj (ivs l) = l := by
  simp only [wj, ivs, List.map_map]
  exact List.map_id'' (fun e => Iv.zh e) l
@[go_sem] theorem zcR (a b : List Iv) : ivs a ++ ivs b = ivs (a ++ b) := by simp [ivs]
@[go_sem] theorem xcl (l : List Iv) (k : Nat) : (ivs l).drop k = ivs (l.drop k) := by simp [ivs]
@[go_sem] theorem kb9 (l : List Iv) (k : Nat) : (ivs l).take k = ivs (l.take k) := by simp [ivs]
@[go_sem] theorem ucP (z206 : Int) (z207 : Int) (z208 : Int) (z209 : Int) (hz206 : 0 ≤ z206) (hz207 : 0 ≤ z207) (hz208 : 0 ≤ z208) : [[C.int .u64 z206, C.int .u64 z207, C.int .u64 z208, C.int .i64 z209]] = ivs [⟨z206.toNat, z207.toNat, z208.toNat, z209⟩] := by simp [ivs, Iv.enc, Int.toNat_of_nonneg hz206, Int.toNat_of_nonneg hz207, Int.toNat_of_nonneg hz208]
@[go_sem] theorem jcL (l : List Iv) (i : Nat) (z206 : Int) (z207 : Int) (z208 : Int) (z209 : Int) (hz206 : 0 ≤ z206) (hz207 : 0 ≤ z207) (hz208 : 0 ≤ z208) : (ivs l).set i [C.int .u64 z206, C.int .u64 z207, C.int .u64 z208, C.int .i64 z209] = ivs (l.set i ⟨z206.toNat, z207.toNat, z208.toNat, z209⟩) := by simp [ivs, List.map_set, Iv.enc, Int.toNat_of_nonneg hz206, Int.toNat_of_nonneg hz207, Int.toNat_of_nonneg hz208]
@[go_sem] theorem xcc (l : List Iv) (z206 : Int) (z207 : Int) (z208 : Int) (z209 : Int) (hz206 : 0 ≤ z206) (hz207 : 0 ≤ z207) (hz208 : 0 ≤ z208) : [C.int .u64 z206, C.int .u64 z207, C.int .u64 z208, C.int .i64 z209] :: ivs l = ivs (⟨z206.toNat, z207.toNat, z208.toNat, z209⟩ :: l) := by simp [ivs, Iv.enc, Int.toNat_of_nonneg hz206, Int.toNat_of_nonneg hz207, Int.toNat_of_nonneg hz208]
@[go_sem] theorem vcf (l : List Iv) : kah (ivs l) = True := eq_true fun x hx c hc => by
  obtain ⟨e, _, rfl⟩ := List.mem_map.1 hx
  simp only [Iv.enc, List.mem_cons, List.not_mem_nil, or_false] at hc
  rcases hc with rfl | rfl | rfl | rfl <;> rfl
@[go_sem] theorem Iv.eta {e : Iv} : (⟨e.hash, e.n, e.till, e.state⟩ : Iv) = e := rfl
@[go_sem] theorem Iv.eqD {a b : Iv} : eqD Tryz.prog 64 [D.c (.int .u64 (a.hash : Int)), D.c (.int .u64 (a.n : Int)), D.c (.int .u64 (a.till : Int)), D.c (.int .i64 a.state)] [D.c (.int .u64 (b.hash : Int)), D.c (.int .u64 (b.n : Int)), D.c (.int .u64 (b.till : Int)), D.c (.int .i64 b.state)] = some (decide (a = b)) := by
  cases a; cases b
  simp only [Dm.eqD, gbt, yH, eqC, List.getElem?_cons_zero, List.getElem?_cons_succ, if_true, Option.some.injEq, Iv.mk.injEq]
  rw [Bool.eq_iff_iff]
  simp [Int.ofNat_inj]
def waB (x : Iv) : Prop := (x.n ≠ 0 ∧ x.n ≤ MM) ∧ 1 ≤ x.state ∧ x.state ≤ 3
instance (x : Iv) : Decidable (waB x) := by unfold waB; infer_instance
def uK (l : List Iv) : Prop := l.length ≤ 256 ∧ (∀ x ∈ l, waB x) ∧ Srt.Chn Iv.hash ltN l
instance (l : List Iv) : Decidable (Srt.Chn Iv.hash ltN l) := by unfold Srt.Chn; infer_instance
instance (l : List Iv) : Decidable (uK l) := by unfold uK; infer_instance
def jas (l : List Iv) : Int := if uK l then 0 else 1
@[go_sem] def gav (x : Iv) (id : Nat) : D := .int .i64 (vad x.hash id)
@[go_sem] abbrev ycf : FuncId := 195
@[go_sem] def ua7 : Tab := [(129, xO)]
theorem vao : ya Tryz.prog ua7 := (ya.cons wC ya.nil)
set_option maxRecDepth 8000 in
set_option maxHeartbeats 1000000 in
theorem xaW (x : Iv) (id : Nat)  : yb Tryz.prog 195 [.agg [.c (.int .u64 (x.hash : Int)), .c (.int .u64 (x.n : Int)), .c (.int .u64 (x.till : Int)), .c (.int .i64 x.state)], .c (.int .u64 (id : Int))] (gav x id) := by
  refine .of (zcV vao (Nat.le_of_ble_eq_true rfl) ?_)
  simp -implicitDefEqProofs only [cdA, go_sem, Go.Proofs.Tryz.f195, reduceIte, reduceCtorEq, Nat.reduceEqDiff, Nat.reduceAdd, Nat.reduceLeDiff, Nat.reduceSub, Nat.reduceMul, Nat.reduceLT, Nat.reduceShiftRight, Nat.reduceMod, Int.reduceLE, Int.reduceLT, Int.reduceToNat, List.cons.injEq, cdB]
def wB : List D → Option (Prop × D × Fr)
  | [.agg [.c (.int .u64 z211), .c (.int .u64 z212), .c (.int .u64 z213), .c (.int .i64 z214)], .c (.int .u64 z215)] => some (z211 = (z211.toNat : Int) ∧ z212 = (z212.toNat : Int) ∧ z213 = (z213.toNat : Int) ∧ z215 = (z215.toNat : Int), gav (⟨z211.toNat, z212.toNat, z213.toNat, z214⟩ : Iv) z215.toNat, [])
  | _ => none
attribute [go_sem] wB
theorem kO : ∀ rs p r fr, wB rs = some (p, r, fr) → p → zg Tryz.prog 195 rs r fr := by
  intro rs p r fr h hp
  unfold wB at h
  split at h <;> cases h
  obtain ⟨hc0, hc1, hc2, hc3⟩ := hp
  rename_i z211 z212 z213 z214 z215
  obtain ⟨z211, rfl⟩ : ∃ m : Nat, z211 = m := ⟨_, hc0⟩
  obtain ⟨z212, rfl⟩ : ∃ m : Nat, z212 = m := ⟨_, hc1⟩
  obtain ⟨z213, rfl⟩ : ∃ m : Nat, z213 = m := ⟨_, hc2⟩
  obtain ⟨z215, rfl⟩ : ∃ m : Nat, z215 = m := ⟨_, hc3⟩
  simp only [Int.toNat_natCast]
  exact xaW ⟨z211, z212, z213, z214⟩ z215
@[go_sem] def yaJ (n : Nat) : D := .bool (decide (n ≠ 0 ∧ n ≤ MM))
@[go_sem] abbrev ycH : FuncId := 170
@[go_sem] def vbx : Tab := [(49, yg)]
theorem yaE : ya Tryz.prog vbx := (ya.cons uf ya.nil)
set_option maxRecDepth 8000 in
set_option maxHeartbeats 1000000 in
theorem ga7 (n : Nat)  : yb Tryz.prog 170 [.c (.int .u64 (n : Int))] (yaJ n) := by
  refine .of (ycN yaE (Nat.le_of_ble_eq_true rfl) ?_)
  simp -implicitDefEqProofs only [cdA, go_sem, Go.Proofs.Tryz.f170, reduceIte, reduceCtorEq, Nat.reduceEqDiff, Nat.reduceAdd, Nat.reduceLeDiff, Nat.reduceSub, Nat.reduceMul, Nat.reduceLT, Nat.reduceShiftRight, Nat.reduceMod, Int.reduceLE, Int.reduceLT, Int.reduceToNat, List.cons.injEq, cdB]
  have hm : wS [n] = 0 ↔ n ≤ MM := van
  refine ⟨fun h => ?_, fun h => ?_⟩
  · rw [decide_eq_decide, hm]; exact ⟨fun h2 => ⟨by omega, h2⟩, fun h2 => h2.2⟩
  · exact (decide_eq_false fun h2 => h2.1 (by omega)).symm
def zK : List D → Option (Prop × D × Fr)
  | [.c (.int .u64 z216)] => some (z216 = (z216.toNat : Int), yaJ z216.toNat, [])
  | _ => none
attribute [go_sem] zK
theorem qS : ∀ rs p r fr, zK rs = some (p, r, fr) → p → zg Tryz.prog 170 rs r fr := by
  intro rs p r fr h hp
  unfold zK at h
  split at h <;> cases h
  have hc0 := hp
  rename_i z216
  obtain ⟨z216, rfl⟩ : ∃ m : Nat, z216 = m := ⟨_, hc0⟩
  simp only [Int.toNat_natCast]
  exact ga7 z216
@[go_sem] def zaw (l : List Iv) : D := .int .i64 (jas l)
@[go_sem] abbrev xch : FuncId := 103
@[go_sem] def ua9 : Tab := [(170, zK), (195, wB)]
theorem uG : ya Tryz.prog ua9 := (ya.cons qS (ya.cons kO ya.nil))
set_option maxRecDepth 8000 in
set_option maxHeartbeats 1000000 in
theorem xaS (l : List Iv)  : yb Tryz.prog 103 [.sl (ivs l)] (zaw l) := by
  refine .of (wcF uG (Nat.le_of_ble_eq_true rfl) ?_)
  simp -implicitDefEqProofs only [cdA, go_sem, Go.Proofs.Tryz.f103, reduceIte, reduceCtorEq, Nat.reduceEqDiff, Nat.reduceAdd, Nat.reduceLeDiff, Nat.reduceSub, Nat.reduceMul, Nat.reduceLT, Nat.reduceShiftRight, Nat.reduceMod, Int.reduceLE, Int.reduceLT, Int.reduceToNat, List.cons.injEq, cdB]
  have hbad : ¬ uK l → 1 = jas l := fun h => by rw [jas, if_neg h]
  refine fun _ => ⟨fun h => hbad fun ho => ?_, fun h _ => ?_⟩
  · have := ho.1; omega
  refine SWp.loop (ι := { i : Nat // i ≤ l.length ∧ (∀ j, j < i → waB (l.getD j default) ∧ (0 < j → (l.getD (j - 1) default).hash < (l.getD j default).hash)) }) (fun i => ⟨[(0, .sl (ivs l)), (8, .sl (ivs l)), (9, .int .i64 l.length), (10, .int .i64 i.1)], [], 0⟩) (fun i => l.length - i.1) ⟨0, by simp⟩ ?_ ?_
  · simp [go_sem]
  · rintro ⟨i, hi, hall⟩
    refine qb uG.toS wbk _ _ _ rfl ?_
    simp -implicitDefEqProofs only [cdA, go_sem, reduceIte, reduceCtorEq, Nat.reduceEqDiff, Nat.reduceAdd, Nat.reduceLeDiff, Nat.reduceSub, Nat.reduceMul, Nat.reduceLT, Nat.reduceShiftRight, Nat.reduceMod, Int.reduceLE, Int.reduceLT, Int.reduceToNat, List.cons.injEq, cdB]
    refine ⟨fun h1 => ⟨by omega, ?_⟩, fun h1 => ?_⟩
    · refine uc.run bbr uG qa (by kernel_rfl) (by kernel_rfl) ?_
      simp -implicitDefEqProofs only [cdA, go_sem, reduceIte, reduceCtorEq, Nat.reduceEqDiff, Nat.reduceAdd, Nat.reduceLeDiff, Nat.reduceSub, Nat.reduceMul, Nat.reduceLT, Nat.reduceShiftRight, Nat.reduceMod, Int.reduceLE, Int.reduceLT, Int.reduceToNat, List.cons.injEq, cdB]
      have hi' : i < l.length := by omega
      have hnext : (0 < i → (l.getD (i - 1) default).hash < (l.getD i default).hash) →
          (¬(l.getD i default).n = 0 ∧ (l.getD i default).n ≤ MM → (¬(l.getD i default).state < 1 → (3 < (l.getD i default).state → 1 = jas l) ∧ (¬3 < (l.getD i default).state →
              ∃ i_1 : { i : Nat // i ≤ l.length ∧ (∀ j, j < i → waB (l.getD j default) ∧ (0 < j → (l.getD (j - 1) default).hash < (l.getD j default).hash)) }, l.length - i_1.val < l.length - i ∧ IntKind.i64.wrap ((i : Int) + 1) = i_1.val)) ∧ ((l.getD i default).state < 1 → 1 = jas l)) ∧
          (¬(¬(l.getD i default).n = 0 ∧ (l.getD i default).n ≤ MM) → 1 = jas l) := fun ho => by
        have hm : uK l → waB (l.getD i default) := fun h => h.2.1 _ (jb.2 ⟨i, hi', rfl⟩)
        refine ⟨fun h2 => ⟨fun h3 => ⟨fun h4 => hbad fun h => ?_, fun h4 => ⟨⟨i + 1, hi', fun j hj => ?_⟩, by dsimp only; omega, i64_in _ (by omega)⟩⟩, fun h3 => hbad fun h => ?_⟩, fun h2 => hbad fun h => h2 (hm h).1⟩
        · have := (hm h).2.2; omega
        · by_cases hji : j = i
          · subst hji; exact ⟨⟨h2, by omega, by omega⟩, ho⟩
          · exact hall j (by omega)
        · have := (hm h).2.1; omega
      refine ⟨fun h2 => ?_, fun h2 => hnext fun h => absurd h (by omega)⟩
      rw [i64_in _ (by omega), show ((i : Int) - 1).toNat = i - 1 by omega]
      have hc : ∀ a b : Nat, 0 ≤ vad a b ↔ ¬ a < b := fun a b => by
        have := xk (x := a) (y := b); omega
      rw [hc]
      exact ⟨by omega, fun h3 => hnext fun _ => by omega, fun h3 => hbad fun h => h3 (h.2.2 i hi' (by omega))⟩
    · have hi' : i = l.length := by omega
      subst hi'
      rw [jas, if_pos]
      exact ⟨by omega, fun x hx => by obtain ⟨j, hj, rfl⟩ := jb.1 hx; exact (hall j hj).1, fun j hj h0 => (hall j hj).2 h0⟩
def xw : List D → Option (Prop × D × Fr)
  | [.c (.sl z217)] => some (z217 = ivs (wj z217), zaw (wj z217), [])
  | _ => none
attribute [go_sem] xw
theorem vC : ∀ rs p r fr, xw rs = some (p, r, fr) → p → zg Tryz.prog 103 rs r fr := by
  intro rs p r fr h hp
  unfold xw at h
  split at h <;> cases h
  have hc0 := hp
  rename_i z217
  obtain ⟨z217, rfl⟩ : ∃ m, z217 = ivs m := ⟨_, hc0⟩
  simp only [qc]
  exact xaS z217
end Dm
namespace Dm
open Go Go.Proofs Go.IntWalk
structure Ev where
  seq : Nat
  kind : Int
  a : Nat
  n : Nat
deriving DecidableEq, Inhabited
@[go_sem] def Ev.enc (e : Ev) : List C := [.int .u64 (e.seq : Int), .int .i64 e.kind, .int .u64 (e.a : Int), .int .u64 (e.n : Int)]
def Ev.dec : List C → Ev
  | [.int .u64 z248, .int .i64 z249, .int .u64 z250, .int .u64 z251] => (⟨z248.toNat, z249, z250.toNat, z251.toNat⟩ : Ev)
  | _ => default
def evs (l : List Ev) : List (List C) := l.map Ev.enc
def uk (l : List (List C)) : List Ev := l.map Ev.dec
@[simp, go_sem] theorem bby (l : List Ev) : (evs l).length = l.length := by simp [evs]
@[go_sem] theorem bct (l : List Ev) (i : Nat) : (evs l).getD i [.int .u64 0, .int .i64 0, .int .u64 0, .int .u64 0] = (l.getD i default).enc := by
  simp only [evs, List.getD_eq_getElem?_getD, List.getElem?_map]
  cases l[i]? <;> rfl
@[go_sem] theorem kb8 (l : List Ev) : vh 4 (evs l) = True := by
  simp [vh, evs, Ev.enc]
theorem Ev.zh (e : Ev) : Ev.dec e.enc = e := by
  simp [Ev.enc, Ev.dec]
@[go_sem] theorem vb (l : List Ev) : uk (evs l) = l := by
  simp only [uk, evs, List.map_map]
  exact List.map_id'' (fun e => Ev.zh e) l
@[go_sem] theorem jcy (a b : List Ev) : evs a ++ evs b = evs (a ++ b) := by simp [evs]
@[go_sem] theorem xcr (l : List Ev) (k : Nat) : (evs l).drop k = evs (l.drop k) := by simp [evs]
@[go_sem] theorem ucd (l : List Ev) (k : Nat) : (evs l).take k = evs (l.take k) := by simp [evs]
@[go_sem] theorem gcU (z252 : Int) (z253 : Int) (z254 : Int) (z255 : Int) (hz252 : 0 ≤ z252) (hz254 : 0 ≤ z254) (hz255 : 0 ≤ z255) : [[C.int .u64 z252, C.int .i64 z253, C.int .u64 z254, C.int .u64 z255]] = evs [⟨z252.toNat, z253, z254.toNat, z255.toNat⟩] := by simp [evs, Ev.enc, Int.toNat_of_nonneg hz252, Int.toNat_of_nonneg hz254, Int.toNat_of_nonneg hz255]
@[go_sem] theorem yct (l : List Ev) (i : Nat) (z252 : Int) (z253 : Int) (z254 : Int) (z255 : Int) (hz252 : 0 ≤ z252) (hz254 : 0 ≤ z254) (hz255 : 0 ≤ z255) : (evs l).set i [C.int .u64 z252, C.int .i64 z253, C.int .u64 z254, C.int .u64 z255] = evs (l.set i ⟨z252.toNat, z253, z254.toNat, z255.toNat⟩) := by simp [evs, List.map_set, Ev.enc, Int.toNat_of_nonneg hz252, Int.toNat_of_nonneg hz254, Int.toNat_of_nonneg hz255]
@[go_sem] theorem jcn (l : List Ev) (z252 : Int) (z253 : Int) (z254 : Int) (z255 : Int) (hz252 : 0 ≤ z252) (hz254 : 0 ≤ z254) (hz255 : 0 ≤ z255) : [C.int .u64 z252, C.int .i64 z253, C.int .u64 z254, C.int .u64 z255] :: evs l = evs (⟨z252.toNat, z253, z254.toNat, z255.toNat⟩ :: l) := by simp [evs, Ev.enc, Int.toNat_of_nonneg hz252, Int.toNat_of_nonneg hz254, Int.toNat_of_nonneg hz255]
@[go_sem] theorem zcb (l : List Ev) : kah (evs l) = True := eq_true fun x hx c hc => by
  obtain ⟨e, _, rfl⟩ := List.mem_map.1 hx
  simp only [Ev.enc, List.mem_cons, List.not_mem_nil, or_false] at hc
  rcases hc with rfl | rfl | rfl | rfl <;> rfl
@[go_sem] theorem Ev.eta {e : Ev} : (⟨e.seq, e.kind, e.a, e.n⟩ : Ev) = e := rfl
@[go_sem] theorem Ev.eqD {a b : Ev} : eqD Tryz.prog 74 [D.c (.int .u64 (a.seq : Int)), D.c (.int .i64 a.kind), D.c (.int .u64 (a.a : Int)), D.c (.int .u64 (a.n : Int))] [D.c (.int .u64 (b.seq : Int)), D.c (.int .i64 b.kind), D.c (.int .u64 (b.a : Int)), D.c (.int .u64 (b.n : Int))] = some (decide (a = b)) := by
  cases a; cases b
  simp only [Dm.eqD, bbt, yH, eqC, List.getElem?_cons_zero, List.getElem?_cons_succ, if_true, Option.some.injEq, Ev.mk.injEq]
  rw [Bool.eq_iff_iff]
  simp [Int.ofNat_inj]
structure Fd where
  next : Nat
  l : List Ev
deriving DecidableEq, Inhabited
@[go_sem] def Fd.enc (e : Fd) : List C := [.int .u64 (e.next : Int), .sl (evs e.l)]
def Fd.dec : List C → Fd
  | [.int .u64 z257, .sl z258] => (⟨z257.toNat, (uk z258)⟩ : Fd)
  | _ => default
def fds (l : List Fd) : List (List C) := l.map Fd.enc
def yc9 (l : List (List C)) : List Fd := l.map Fd.dec
@[simp, go_sem] theorem vbD (l : List Fd) : (fds l).length = l.length := by simp [fds]
@[go_sem] theorem kct (l : List Fd) (i : Nat) : (fds l).getD i [.int .u64 0, .sl []] = (l.getD i default).enc := by
  simp only [fds, List.getD_eq_getElem?_getD, List.getElem?_map]
  cases l[i]? <;> rfl
@[go_sem] theorem kch (l : List Fd) : vh 2 (fds l) = True := by
  simp [vh, fds, Fd.enc]
theorem Fd.zh (e : Fd) : Fd.dec e.enc = e := by
  simp [Fd.enc, Fd.dec, vb]
@[go_sem] theorem ucf (l : List Fd) : yc9 (fds l) = l := by
  simp only [yc9, fds, List.map_map]
  exact List.map_id'' (fun e => Fd.zh e) l
@[go_sem] theorem vcx (a b : List Fd) : fds a ++ fds b = fds (a ++ b) := by simp [fds]
@[go_sem] theorem bcp (l : List Fd) (k : Nat) : (fds l).drop k = fds (l.drop k) := by simp [fds]
@[go_sem] theorem gb7 (l : List Fd) (k : Nat) : (fds l).take k = fds (l.take k) := by simp [fds]
@[go_sem] theorem jcH (z259 : Int) (z260 : List Ev) (hz259 : 0 ≤ z259) : [[C.int .u64 z259, C.sl (evs z260)]] = fds [⟨z259.toNat, z260⟩] := by simp [fds, Fd.enc, Int.toNat_of_nonneg hz259]
@[go_sem] theorem kcy (l : List Fd) (i : Nat) (z259 : Int) (z260 : List Ev) (hz259 : 0 ≤ z259) : (fds l).set i [C.int .u64 z259, C.sl (evs z260)] = fds (l.set i ⟨z259.toNat, z260⟩) := by simp [fds, List.map_set, Fd.enc, Int.toNat_of_nonneg hz259]
@[go_sem] theorem qb8 (l : List Fd) (z259 : Int) (z260 : List Ev) (hz259 : 0 ≤ z259) : [C.int .u64 z259, C.sl (evs z260)] :: fds l = fds (⟨z259.toNat, z260⟩ :: l) := by simp [fds, Fd.enc, Int.toNat_of_nonneg hz259]
@[go_sem] theorem Fd.eta {e : Fd} : (⟨e.next, e.l⟩ : Fd) = e := rfl
def qah (k : Int) : Bool := decide (0 ≤ k ∧ k < 16)
@[go_sem] def uaL (k : Int) : D := .bool (qah k)
@[go_sem] abbrev jcv : FuncId := 197
@[go_sem] def qbl : Tab := []
theorem yaD : ya Tryz.prog qbl := ya.nil
set_option maxRecDepth 8000 in
set_option maxHeartbeats 1000000 in
theorem va2 (k : Int)  : yb Tryz.prog 197 [.c (.int .i64 k)] (uaL k) := by
  refine .of (bcF yaD (Nat.le_of_ble_eq_true rfl) ?_)
  simp -implicitDefEqProofs only [cdA, go_sem, Go.Proofs.Tryz.f197, reduceIte, reduceCtorEq, Nat.reduceEqDiff, Nat.reduceAdd, Nat.reduceLeDiff, Nat.reduceSub, Nat.reduceMul, Nat.reduceLT, Nat.reduceShiftRight, Nat.reduceMod, Int.reduceLE, Int.reduceLT, Int.reduceToNat, List.cons.injEq, cdB]
  have e : qah k = decide (0 ≤ k ∧ k < 16) := rfl
  rw [e]
  exact ⟨fun h => by rw [decide_eq_decide]; exact ⟨fun h2 => ⟨h, h2⟩, fun h2 => h2.2⟩, fun h => (decide_eq_false fun h2 => h h2.1).symm⟩
def bH : List D → Option (Prop × D × Fr)
  | [.c (.int .i64 z261)] => some (True, uaL z261, [])
  | _ => none
attribute [go_sem] bH
theorem uT : ∀ rs p r fr, bH rs = some (p, r, fr) → p → zg Tryz.prog 197 rs r fr := by
  intro rs p r fr h hp
  unfold bH at h
  split at h <;> cases h
  rename_i z261
  exact va2 z261
@[go_sem] def ubf  : D := .agg [.int .u64 1, .sl (evs [])]
@[go_sem] abbrev zc6 : FuncId := 116
@[go_sem] def vb5 : Tab := []
theorem kaP : ya Tryz.prog vb5 := ya.nil
set_option maxRecDepth 8000 in
set_option maxHeartbeats 1000000 in
theorem qbk   : yb Tryz.prog 116 [] (ubf ) := by
  refine .of (wcP kaP (Nat.le_of_ble_eq_true rfl) ?_)
  simp -implicitDefEqProofs only [cdA, go_sem, Go.Proofs.Tryz.f116, reduceIte, reduceCtorEq, Nat.reduceEqDiff, Nat.reduceAdd, Nat.reduceLeDiff, Nat.reduceSub, Nat.reduceMul, Nat.reduceLT, Nat.reduceShiftRight, Nat.reduceMod, Int.reduceLE, Int.reduceLT, Int.reduceToNat, List.cons.injEq, cdB]
  rfl
def qaa : List D → Option (Prop × D × Fr)
  | [] => some (True, ubf , [])
  | _ => none
attribute [go_sem] qaa
theorem jaB : ∀ rs p r fr, qaa rs = some (p, r, fr) → p → zg Tryz.prog 116 rs r fr := by
  intro rs p r fr h hp
  unfold qaa at h
  split at h <;> cases h
  exact qbk 
theorem vav {n k : Nat} (h : k < n) : (List.finRange n).reverse.take k ++ [⟨n - 1 - k, by omega⟩] = (List.finRange n).reverse.take (k + 1) := by
  have hl : k < (List.finRange n).reverse.length := by simpa using h
  rw [List.take_add_one, List.getElem?_eq_getElem hl]
  simp
set_option maxRecDepth 4000 in
theorem xaN (l : List Ev) (hl : l.length ≤ 1000000) : xag Tryz.prog 239 [.rp [.sl (evs l)]] (m := l.length) (fun x => [.int .i64 x.1, .agg ((l.getD x.1 default).enc.map .c)]) (List.finRange l.length).reverse := by
  refine xag.of (n := 19) (fn := Tryz.f239) (by kernel_rfl) rfl rfl rfl (Nat.le_of_ble_eq_true rfl) rfl ?_
  intro y I J Jx hY
  refine SY.seq (SY.region .nil hY rfl ?_)
  simp -implicitDefEqProofs only [cdA, go_sem, qac, qat, St.qaH, zab, List.contains_cons, List.contains_nil, Nat.reduceBEq, Bool.or_self, reduceIte, reduceCtorEq, Nat.reduceEqDiff, Nat.reduceAdd, Nat.reduceLeDiff, Nat.reduceSub, Nat.reduceMul, Nat.reduceLT, Nat.reduceShiftRight, Nat.reduceMod, Int.reduceLE, Int.reduceLT, Int.reduceToNat, List.cons.injEq, cdB]
  refine fun _ => SY.block (SY.loop l.length (fun k => ⟨[(0, .fn (.yield y) [] []), (1, .rp [.sl (evs l)]), (3, .int .i64 ((l.length : Int) - 1 - k))], [], 0⟩) (fun k => ((List.finRange l.length).reverse.take k, true)) 0 ?_ (Nat.zero_le _) ?_)
  · intro a w h
    rw [i64_in _ (by omega)] at h
    have h := h.sub (s' := ⟨[(0, .fn (.yield y) [] []), (1, .rp [.sl (evs l)]), (3, .int .i64 ((l.length : Int) - 1 - (0 : Nat)))], [], 0⟩) ⟨rfl, rfl, by simp [go_sem]⟩
    simpa using h
  · intro k hk
    refine SY.seq (SY.seq (SY.region .nil hY rfl ?_))
    simp -implicitDefEqProofs only [cdA, go_sem, qac, qat, St.qaH, zab, List.contains_cons, List.contains_nil, Nat.reduceBEq, Bool.or_self, reduceIte, reduceCtorEq, Nat.reduceEqDiff, Nat.reduceAdd, Nat.reduceLeDiff, Nat.reduceSub, Nat.reduceMul, Nat.reduceLT, Nat.reduceShiftRight, Nat.reduceMod, Int.reduceLE, Int.reduceLT, Int.reduceToNat, List.cons.injEq, cdB]
    refine SY.cond rfl (fun hc => SY.skip ?_) (fun hc => SY.exit ?_)
    · have hk' : k < l.length := by simp at hc; omega
      refine SY.seq (SY.block (SY.seq (SY.region .nil hY rfl ?_)))
      simp -implicitDefEqProofs only [cdA, go_sem, qac, qat, St.qaH, zab, List.contains_cons, List.contains_nil, Nat.reduceBEq, Bool.or_self, reduceIte, reduceCtorEq, Nat.reduceEqDiff, Nat.reduceAdd, Nat.reduceLeDiff, Nat.reduceSub, Nat.reduceMul, Nat.reduceLT, Nat.reduceShiftRight, Nat.reduceMod, Int.reduceLE, Int.reduceLT, Int.reduceToNat, List.cons.injEq, cdB]
      refine ⟨by omega, by simp; omega, ⟨l.length - 1 - k, by omega⟩, ?_, ?_, ?_⟩
      · have e1 : ((l.length : Int) - 1 - k).toNat = l.length - 1 - k := by omega
        have e2 : ((l.length : Int) - 1 - k) = ((l.length - 1 - k : Nat) : Int) := by omega
        rw [e1, e2]; exact ⟨rfl, rfl⟩
      · refine SY.cond (b := false) rfl (fun h => by cases h) (fun _ => SY.skip (SY.region .nil hY rfl ?_))
        simp -implicitDefEqProofs only [cdA, go_sem, qac, qat, reduceIte, reduceCtorEq, Nat.reduceEqDiff, Nat.reduceAdd, Nat.reduceLeDiff, Nat.reduceSub, Nat.reduceMul, Nat.reduceLT, Nat.reduceShiftRight, Nat.reduceMod, Int.reduceLE, Int.reduceLT, Int.reduceToNat, List.cons.injEq, cdB]
        rw [i64_in _ (by omega)]
        exact ⟨hk', by rw [vav hk'], by omega⟩
      · refine SY.cond (b := true) rfl (fun _ => SY.ret ?_) (fun h => by cases h)
        refine ⟨.inr rfl, .inr ⟨rfl, ?_⟩⟩
        rw [vav hk']
        exact List.take_prefix _ _
    · have hk' : k = l.length := by simp at hc; omega
      have : List.take l.length (List.finRange l.length).reverse = (List.finRange l.length).reverse := List.take_of_length_le (by simp)
      simp [hk', this]
@[go_sem] def gaJ (l : List Ev) : D := .fn (.func 239) [] [.rp [.sl (evs l)]]
@[go_sem] abbrev gcy : FuncId := 196
@[go_sem] def kbn : Tab := []
theorem baE : ya Tryz.prog kbn := ya.nil
set_option maxRecDepth 8000 in
set_option maxHeartbeats 1000000 in
theorem ga3 (l : List Ev)  : yb Tryz.prog 196 [.sl (evs l)] (gaJ l) := by
  refine .of (ucL baE (Nat.le_of_ble_eq_true rfl) ?_)
  simp -implicitDefEqProofs only [cdA, go_sem, Go.Proofs.Tryz.f196, reduceIte, reduceCtorEq, Nat.reduceEqDiff, Nat.reduceAdd, Nat.reduceLeDiff, Nat.reduceSub, Nat.reduceMul, Nat.reduceLT, Nat.reduceShiftRight, Nat.reduceMod, Int.reduceLE, Int.reduceLT, Int.reduceToNat, List.cons.injEq, cdB]
  exact ⟨_, rfl, rfl⟩
def uQ : List D → Option (Prop × D × Fr)
  | [.c (.sl z262)] => some (z262 = evs (uk z262), gaJ (uk z262), [])
  | _ => none
attribute [go_sem] uQ
theorem uas : ∀ rs p r fr, uQ rs = some (p, r, fr) → p → zg Tryz.prog 196 rs r fr := by
  intro rs p r fr h hp
  unfold uQ at h
  split at h <;> cases h
  have hc0 := hp
  rename_i z262
  obtain ⟨z262, rfl⟩ : ∃ m, z262 = evs m := ⟨_, hc0⟩
  simp only [vb]
  exact ga3 z262
def bbF (n : Int) : List Ev → Bool
  | [] => true
  | e :: r => decide ((e.seq : Int) = n - (r.length + 1)) && qah e.kind && bbF n r
def kaH (f : Fd) : Prop := 1 ≤ f.next ∧ f.next ≤ MM ∧ f.l.length = min (f.next - 1) 64 ∧ bbF f.next f.l = true
instance (f : Fd) : Decidable (kaH f) := by unfold kaH; infer_instance
def xbg (f : Fd) : Int := if kaH f then 0 else 1
theorem qJ (n : Int) : ∀ (l : List Ev), bbF n l = true ↔ ∀ i : Nat, i < l.length → ((l.getD i default).seq : Int) = n - (l.length - i : Int) ∧ qah (l.getD i default).kind = true
  | [] => by simp [bbF]
  | e :: r => by
    rw [bbF, Bool.and_eq_true, Bool.and_eq_true, qJ n r, decide_eq_true_eq]
    constructor
    · rintro ⟨⟨h1, h2⟩, h3⟩ i hi
      cases i with
      | zero => simp [h1, h2]
      | succ i =>
        have := h3 i (by simpa using hi)
        simp only [List.getD_cons_succ, List.length_cons]
        refine ⟨?_, this.2⟩
        rw [this.1]
        omega
    · intro h
      refine ⟨?_, fun i hi => ?_⟩
      · have := h 0 (by simp)
        simp at this
        exact ⟨by rw [this.1], this.2⟩
      · have := h (i + 1) (by simpa using hi)
        simp only [List.getD_cons_succ, List.length_cons] at this
        refine ⟨?_, this.2⟩
        rw [this.1]
        omega
theorem jah {f : Fd} {pre : List (Fin f.l.length)} {x : Fin f.l.length} (h : pre ++ [x] <+: (List.finRange f.l.length).reverse)
    (hb : ¬ (((f.l.getD x.1 default).seq : Int) = f.next - (pre.length + 1 : Int) ∧ qah (f.l.getD x.1 default).kind = true)) : xbg f = 1 := by
  unfold xbg
  rw [if_neg]
  rintro ⟨_, _, _, h4⟩
  obtain ⟨t, ht⟩ := h
  have h5 : (List.finRange f.l.length).reverse[pre.length]? = some x := by rw [← ht]; simp
  have h6 := (qJ f.next f.l).1 h4 x.1 x.2
  have hlt : pre.length < f.l.length := by
    have := (List.getElem?_eq_some_iff.1 h5).1
    simpa using this
  have h7 : x.1 = f.l.length - 1 - pre.length := by
    rw [List.getElem?_eq_getElem (by simpa using hlt)] at h5
    simp at h5
    rw [← h5]
  refine hb ⟨?_, h6.2⟩
  rw [h6.1, h7]
  omega
attribute [go_sem] wao asg rfp
@[go_sem] def qaz (f : Fd) : D := .int .i64 (xbg f)
@[go_sem] abbrev kcd : FuncId := 104
@[go_sem] def zba : Tab := [(197, bH), (196, uQ)]
theorem vn : ya Tryz.prog zba := (ya.cons uT (ya.cons uas ya.nil))
set_option maxRecDepth 8000 in
set_option maxHeartbeats 1000000 in
theorem baW (f : Fd) (h : f.next ≤ 18446744073709551615) : yb Tryz.prog 104 [.agg [.c (.int .u64 (f.next : Int)), .sl (evs f.l)]] (qaz f) := by
  refine .of (vN (n := 44) (fn := Tryz.f104) (by kernel_rfl) rfl rfl rfl (Nat.le_of_ble_eq_true rfl) (rs := [.cell 2 34]) rfl ?_)
  refine SWm.seq (SWm.awp vn.toS bam rfl ?_)
  simp -implicitDefEqProofs only [cdA, go_sem, reduceIte, reduceCtorEq, Nat.reduceEqDiff, Nat.reduceAdd, Nat.reduceLeDiff, Nat.reduceSub, Nat.reduceMul, Nat.reduceLT, Nat.reduceShiftRight, Nat.reduceMod, Int.reduceLE, Int.reduceLT, Int.reduceToNat, List.cons.injEq, cdB]
  refine SWm.seq (SWm.awp vn.toS bam rfl ?_)
  simp -implicitDefEqProofs only [cdA, go_sem, reduceIte, reduceCtorEq, Nat.reduceEqDiff, Nat.reduceAdd, Nat.reduceLeDiff, Nat.reduceSub, Nat.reduceMul, Nat.reduceLT, Nat.reduceShiftRight, Nat.reduceMod, Int.reduceLE, Int.reduceLT, Int.reduceToNat, List.cons.injEq, cdB]
  have hbad : ¬ kaH f → 1 = xbg f := fun h => by rw [xbg, if_neg h]
  refine ⟨fun h1 => ⟨fun h2 h3 => ⟨fun h4 => ?_, fun h4 => hbad fun ho => h4 ?_⟩, fun h2 => hbad fun ho => ?_⟩, fun h1 => hbad fun ho => ?_⟩
  rotate_left 1
  · have := ho.2.2.1
    rw [u64_in f.l.length (by omega), u64_in ((f.next : Int) - 1) (by omega)]; omega
  · have := ho.2.1; unfold MM at this; omega
  · have := ho.1; omega
  · refine SWm.seq (SWm.awp vn.toS bam rfl ?_)
    simp -implicitDefEqProofs only [cdA, go_sem, reduceIte, reduceCtorEq, Nat.reduceEqDiff, Nat.reduceAdd, Nat.reduceLeDiff, Nat.reduceSub, Nat.reduceMul, Nat.reduceLT, Nat.reduceShiftRight, Nat.reduceMod, Int.reduceLE, Int.reduceLT, Int.reduceToNat, List.cons.injEq, cdB]
    refine SWm.seq (SWm.seq (SWm.awp vn.toS bam rfl ?_))
    simp -implicitDefEqProofs only [cdA, go_sem, reduceIte, reduceCtorEq, Nat.reduceEqDiff, Nat.reduceAdd, Nat.reduceLeDiff, Nat.reduceSub, Nat.reduceMul, Nat.reduceLT, Nat.reduceShiftRight, Nat.reduceMod, Int.reduceLE, Int.reduceLT, Int.reduceToNat, List.cons.injEq, cdB]
    have hle : (f.l.length : Int) ≤ 64 ∧ (f.l.length : Int) ≤ f.next - 1 := by
      rw [u64_in f.l.length (by omega), u64_in ((f.next : Int) - 1) (by omega)] at h4
      omega
    have hlen : f.l.length ≤ 1000000 := by omega
    refine SWm.block (SWm.rangeFunc vn.toS bam (caps := [.rp [.sl (evs f.l)]]) rfl (by simp [D.yX]) (xaN f.l hlen)
      (fun pre => [(2, .box [.int .u64 ((f.next : Int) - pre.length)]), (1, .box [.int .i64 0]), (0, .box [.int .u64 f.next, .sl (evs f.l)])])
      (fun pre => ∀ (j : Nat) (x : Fin f.l.length), pre[j]? = some x → ((f.l.getD x.1 default).seq : Int) = f.next - (j + 1) ∧ qah (f.l.getD x.1 default).kind = true)
      (fun x => rfl) (by decide) (Nat.zero_le _) rfl rfl rfl rfl ?_ ?_ ?_)
    · simp [go_sem]
    · intro pre x hok hpre
      simp -implicitDefEqProofs only [cdA, go_sem, reduceIte, reduceCtorEq, Nat.reduceEqDiff, Nat.reduceAdd, Nat.reduceLeDiff, Nat.reduceSub, Nat.reduceMul, Nat.reduceLT, Nat.reduceShiftRight, Nat.reduceMod, Int.reduceLE, Int.reduceLT, Int.reduceToNat, List.cons.injEq, cdB]
      rw [u64_in ((f.next : Int) - _ - 1) (by omega)]
      refine ⟨fun h5 => ⟨fun h6 => ⟨fun j y hj => ?_, by omega⟩, fun h6 hp => ?_⟩, fun h5 hp => ?_⟩
      · rw [List.getElem?_append] at hj
        split at hj
        · exact hok j y hj
        · rename_i hge
          have : j = pre.length := by
            have := (List.getElem?_eq_some_iff.1 hj).1
            simp at this
            omega
          subst this
          simp at hj
          subst hj
          exact ⟨by omega, h6⟩
      · exact (jah hp fun h => by rw [h6] at h; cases h.2).symm
      · exact (jah hp fun h => h5 (by omega)).symm
    · intro hok
      refine SWm.awp vn.toS bam rfl ?_
      simp -implicitDefEqProofs only [cdA, go_sem, reduceIte, reduceCtorEq, Nat.reduceEqDiff, Nat.reduceAdd, Nat.reduceLeDiff, Nat.reduceSub, Nat.reduceMul, Nat.reduceLT, Nat.reduceShiftRight, Nat.reduceMod, Int.reduceLE, Int.reduceLT, Int.reduceToNat, List.cons.injEq, cdB]
      rw [u64_in f.l.length (by omega), u64_in ((f.next : Int) - 1) (by omega)] at h4
      have hE : bbF f.next f.l = true := by
        rw [qJ]
        intro i hi
        have h5 : (List.finRange f.l.length).reverse[f.l.length - 1 - i]? = some ⟨i, hi⟩ := by
          rw [List.getElem?_eq_getElem (by simp; omega)]
          simp
          try omega
        obtain ⟨h6, h7⟩ := hok _ _ h5
        refine ⟨?_, h7⟩
        rw [h6]
        omega
      rw [xbg, if_pos (show kaH f from ⟨by omega, by unfold MM; omega, by omega, hE⟩)]
@[go_sem] def xaA (f : Fd) : Prop := (f.next ≤ 18446744073709551615)
def gC : List D → Option (Prop × D × Fr)
  | [.agg [.c (.int .u64 z264), .c (.sl z265)]] => some (z264 = (z264.toNat : Int) ∧ z265 = evs (uk z265) ∧ xaA (⟨z264.toNat, (uk z265)⟩ : Fd), qaz (⟨z264.toNat, (uk z265)⟩ : Fd), [])
  | _ => none
attribute [go_sem] gC
theorem uN : ∀ rs p r fr, gC rs = some (p, r, fr) → p → zg Tryz.prog 104 rs r fr := by
  intro rs p r fr h hp
  unfold gC at h
  split at h <;> cases h
  obtain ⟨hc0, hc1, hp⟩ := hp
  rename_i z264 z265
  obtain ⟨z264, rfl⟩ : ∃ m : Nat, z264 = m := ⟨_, hc0⟩
  obtain ⟨z265, rfl⟩ : ∃ m, z265 = evs m := ⟨_, hc1⟩
  simp only [Int.toNat_natCast, vb]
  simp only [Int.toNat_natCast, vb, xaA] at hp
  exact baW ⟨z264, z265⟩ hp
theorem vag {f : Fd} : xbg f = 0 ↔ kaH f := by unfold xbg; split <;> rename_i h <;> simp only [h] <;> decide
@[go_sem] def waf (l : List Ev) : D := .vec 0 l.length
@[go_sem] def qY (l : List Ev) : Fr := [(4, 74, true, evs l)]
@[go_sem] abbrev ybW : FuncId := 206
@[go_sem] def kaN : Tab := []
theorem kak : ya Tryz.prog kaN := ya.nil
set_option maxRecDepth 8000 in
set_option maxHeartbeats 1000000 in
theorem vaG (l : List Ev) (hl : l.length ≤ 1000000) : zn Tryz.prog 206 [.sl (evs l)] (waf l) (qY l) := by
  refine .of (kb5 kak (Nat.le_of_ble_eq_true rfl) ?_)
  simp -implicitDefEqProofs only [cdA, go_sem, Go.Proofs.Tryz.f206, reduceIte, reduceCtorEq, Nat.reduceEqDiff, Nat.reduceAdd, Nat.reduceLeDiff, Nat.reduceSub, Nat.reduceMul, Nat.reduceLT, Nat.reduceShiftRight, Nat.reduceMod, Int.reduceLE, Int.reduceLT, Int.reduceToNat, List.cons.injEq, cdB]
  refine fun b hb => ⟨fun h => ?_, fun h => ?_⟩
  · exact ⟨[none], by simp [go_sem, hb h], by cases l <;> simp_all [go_sem, evs]⟩
  · exact ⟨by omega, [some 0], by simp [go_sem]⟩
@[go_sem] def qaj (l : List Ev) : Prop := (l.length ≤ 1000000)
def jE : List D → Option (Prop × D × Fr)
  | [.c (.sl z266)] => some (z266 = evs (uk z266) ∧ qaj (uk z266), waf (uk z266), qY (uk z266))
  | _ => none
attribute [go_sem] jE
theorem jac : ∀ rs p r fr, jE rs = some (p, r, fr) → p → zg Tryz.prog 206 rs r fr := by
  intro rs p r fr h hp
  unfold jE at h
  split at h <;> cases h
  obtain ⟨hc0, hp⟩ := hp
  rename_i z266
  obtain ⟨z266, rfl⟩ : ∃ m, z266 = evs m := ⟨_, hc0⟩
  simp only [vb]
  simp only [vb, qaj] at hp
  exact (show zg _ _ _ _ _ from And.intro rfl (vaG z266 hp))
def vm (f : Fd) (k : Int) (a n : Nat) : Fd × Nat × Int := if kaH f ∧ qah k = true then (if f.next = MM then ((⟨0, []⟩ : Fd), 0, 7) else ((⟨f.next + 1, (f.l ++ [(⟨f.next, k, a, n⟩ : Ev)]).drop (f.l.length + 1 - 64)⟩ : Fd), f.next, 0)) else ((⟨0, []⟩ : Fd), 0, 1)
@[go_sem] def wbd (f : Fd) (k : Int) (a : Nat) (n : Nat) : D := .tup [.agg [.int .u64 (vm f k a n).1.next, .sl (evs (vm f k a n).1.l)], .int .u64 (vm f k a n).2.1, .int .i64 (vm f k a n).2.2]
@[go_sem] abbrev qc5 : FuncId := 142
@[go_sem] def kb6 : Tab := [(104, gC), (197, bH), (206, jE)]
theorem qaM : ya Tryz.prog kb6 := (ya.cons uN (ya.cons uT (ya.cons jac ya.nil)))
set_option maxRecDepth 8000 in
set_option maxHeartbeats 1000000 in
theorem wbj (f : Fd) (k : Int) (a : Nat) (n : Nat) (h : f.next ≤ 18446744073709551615) : yb Tryz.prog 142 [.agg [.c (.int .u64 (f.next : Int)), .sl (evs f.l)], .c (.int .i64 k), .c (.int .u64 (a : Int)), .c (.int .u64 (n : Int))] (wbd f k a n) := by
  refine .of (ucU qaM (Nat.le_of_ble_eq_true rfl) ?_)
  simp -implicitDefEqProofs only [cdA, go_sem, Go.Proofs.Tryz.f142, reduceIte, reduceCtorEq, Nat.reduceEqDiff, Nat.reduceAdd, Nat.reduceLeDiff, Nat.reduceSub, Nat.reduceMul, Nat.reduceLT, Nat.reduceShiftRight, Nat.reduceMod, Int.reduceLE, Int.reduceLT, Int.reduceToNat, List.cons.injEq, cdB]
  have hbad : ¬ (kaH f ∧ qah k = true) → (0 = ((vm f k a n).1.next : Int) ∧ evs (vm f k a n).1.l = []) ∧ 0 = ((vm f k a n).2.1 : Int) ∧ 1 = (vm f k a n).2.2 := fun h => by
    rw [vm, if_neg h]; exact ⟨⟨rfl, rfl⟩, rfl, rfl⟩
  refine ⟨h, fun h0 => ⟨fun hk => ⟨fun hm => ?_, fun hm => ?_⟩, fun hk => hbad fun ho => by rw [hk] at ho; cases ho.2⟩, fun h0 => hbad fun ho => h0 (vag.2 ho.1)⟩
  · rw [vm, if_pos ⟨vag.1 h0, hk⟩, if_pos (by unfold MM; omega)]; exact ⟨⟨rfl, rfl⟩, rfl, rfl⟩
  · have ho := vag.1 h0
    have h1 := ho.2.2.1
    have h2 := ho.2.1
    unfold MM at h2
    rw [vm, if_pos ⟨ho, hk⟩, if_neg (by unfold MM; omega)]
    have e : (max (IntKind.i64.wrap ((f.l.length : Int) + 1 - 64)) 0).toNat = f.l.length + 1 - 64 := by rw [i64_in _ (by omega)]; omega
    rw [e, u64_in _ (by omega)]
    refine ⟨by omega, by omega, fun _ => ⟨⟨by omega, by rw [i64_in _ (by omega)]; omega⟩, ⟨by dsimp only; omega, rfl, _, _, _, rfl⟩, rfl, rfl⟩⟩
@[go_sem] def vbd (f : Fd) (k : Int) (a : Nat) (n : Nat) : Prop := (f.next ≤ 18446744073709551615)
def wu : List D → Option (Prop × D × Fr)
  | [.agg [.c (.int .u64 z268), .c (.sl z269)], .c (.int .i64 z270), .c (.int .u64 z271), .c (.int .u64 z272)] => some (z268 = (z268.toNat : Int) ∧ z269 = evs (uk z269) ∧ z271 = (z271.toNat : Int) ∧ z272 = (z272.toNat : Int) ∧ vbd (⟨z268.toNat, (uk z269)⟩ : Fd) z270 z271.toNat z272.toNat, wbd (⟨z268.toNat, (uk z269)⟩ : Fd) z270 z271.toNat z272.toNat, [])
  | _ => none
attribute [go_sem] wu
theorem gn : ∀ rs p r fr, wu rs = some (p, r, fr) → p → zg Tryz.prog 142 rs r fr := by
  intro rs p r fr h hp
  unfold wu at h
  split at h <;> cases h
  obtain ⟨hc0, hc1, hc2, hc3, hp⟩ := hp
  rename_i z268 z269 z270 z271 z272
  obtain ⟨z268, rfl⟩ : ∃ m : Nat, z268 = m := ⟨_, hc0⟩
  obtain ⟨z269, rfl⟩ : ∃ m, z269 = evs m := ⟨_, hc1⟩
  obtain ⟨z271, rfl⟩ : ∃ m : Nat, z271 = m := ⟨_, hc2⟩
  obtain ⟨z272, rfl⟩ : ∃ m : Nat, z272 = m := ⟨_, hc3⟩
  simp only [Int.toNat_natCast, vb]
  simp only [Int.toNat_natCast, vb, vbd] at hp
  exact wbj ⟨z268, z269⟩ z270 z271 z272 hp
end Dm
namespace Dm
open Go Go.Proofs Go.IntWalk
structure Wt where
  id : Nat
  w : Option Nat
deriving DecidableEq
instance : Inhabited Wt := ⟨⟨default, some 0⟩⟩
@[go_sem] def Wt.enc (e : Wt) : List C := [.int .u64 (e.id : Int), .flt .f64 e.w]
def Wt.dec : List C → Wt
  | [.int .u64 z110, .flt .f64 z111] => (⟨z110.toNat, z111⟩ : Wt)
  | _ => default
def wts (l : List Wt) : List (List C) := l.map Wt.enc
def jj (l : List (List C)) : List Wt := l.map Wt.dec
@[simp, go_sem] theorem qbG (l : List Wt) : (wts l).length = l.length := by simp [wts]
@[go_sem] theorem qcw (l : List Wt) (i : Nat) : (wts l).getD i [.int .u64 0, .flt .f64 (some 0)] = (l.getD i default).enc := by
  simp only [wts, List.getD_eq_getElem?_getD, List.getElem?_map]
  cases l[i]? <;> rfl
@[go_sem] theorem gcb (l : List Wt) : vh 2 (wts l) = True := by
  simp [vh, wts, Wt.enc]
theorem Wt.zh (e : Wt) : Wt.dec e.enc = e := by
  simp [Wt.enc, Wt.dec]
@[go_sem] theorem qd (l : List Wt) : jj (wts l) = l := by
  simp only [jj, wts, List.map_map]
  exact List.map_id'' (fun e => Wt.zh e) l
@[go_sem] theorem ycK (a b : List Wt) : wts a ++ wts b = wts (a ++ b) := by simp [wts]
@[go_sem] theorem yb9 (l : List Wt) (k : Nat) : (wts l).drop k = wts (l.drop k) := by simp [wts]
@[go_sem] theorem yca (l : List Wt) (k : Nat) : (wts l).take k = wts (l.take k) := by simp [wts]
@[go_sem] theorem xcO (z112 : Int) (z113 : Option Nat) (hz112 : 0 ≤ z112) : [[C.int .u64 z112, C.flt .f64 z113]] = wts [⟨z112.toNat, z113⟩] := by simp [wts, Wt.enc, Int.toNat_of_nonneg hz112]
@[go_sem] theorem jcP (l : List Wt) (i : Nat) (z112 : Int) (z113 : Option Nat) (hz112 : 0 ≤ z112) : (wts l).set i [C.int .u64 z112, C.flt .f64 z113] = wts (l.set i ⟨z112.toNat, z113⟩) := by simp [wts, List.map_set, Wt.enc, Int.toNat_of_nonneg hz112]
@[go_sem] theorem bcb (l : List Wt) (z112 : Int) (z113 : Option Nat) (hz112 : 0 ≤ z112) : [C.int .u64 z112, C.flt .f64 z113] :: wts l = wts (⟨z112.toNat, z113⟩ :: l) := by simp [wts, Wt.enc, Int.toNat_of_nonneg hz112]
@[go_sem] theorem wb8 (l : List Wt) : kah (wts l) = True := eq_true fun x hx c hc => by
  obtain ⟨e, _, rfl⟩ := List.mem_map.1 hx
  simp only [Wt.enc, List.mem_cons, List.not_mem_nil, or_false] at hc
  rcases hc with rfl | rfl <;> rfl
@[go_sem] theorem Wt.eta {e : Wt} : (⟨e.id, e.w⟩ : Wt) = e := rfl
structure Mk where
  id : Nat
  s : Option Nat
deriving DecidableEq
instance : Inhabited Mk := ⟨⟨default, some 0⟩⟩
@[go_sem] def Mk.enc (e : Mk) : List C := [.int .u64 (e.id : Int), .flt .f64 e.s]
def Mk.dec : List C → Mk
  | [.int .u64 z115, .flt .f64 z116] => (⟨z115.toNat, z116⟩ : Mk)
  | _ => default
def mks (l : List Mk) : List (List C) := l.map Mk.enc
def ycX (l : List (List C)) : List Mk := l.map Mk.dec
@[simp, go_sem] theorem vY (l : List Mk) : (mks l).length = l.length := by simp [mks]
@[go_sem] theorem kcG (l : List Mk) (i : Nat) : (mks l).getD i [.int .u64 0, .flt .f64 (some 0)] = (l.getD i default).enc := by
  simp only [mks, List.getD_eq_getElem?_getD, List.getElem?_map]
  cases l[i]? <;> rfl
@[go_sem] theorem jcj (l : List Mk) : vh 2 (mks l) = True := by
  simp [vh, mks, Mk.enc]
theorem Mk.zh (e : Mk) : Mk.dec e.enc = e := by
  simp [Mk.enc, Mk.dec]
@[go_sem] theorem ya2 (l : List Mk) : ycX (mks l) = l := by
  simp only [ycX, mks, List.map_map]
  exact List.map_id'' (fun e => Mk.zh e) l
@[go_sem] theorem ybu (a b : List Mk) : mks a ++ mks b = mks (a ++ b) := by simp [mks]
@[go_sem] theorem bcf (l : List Mk) (k : Nat) : (mks l).drop k = mks (l.drop k) := by simp [mks]
@[go_sem] theorem uci (l : List Mk) (k : Nat) : (mks l).take k = mks (l.take k) := by simp [mks]
@[go_sem] theorem jcR (z117 : Int) (z118 : Option Nat) (hz117 : 0 ≤ z117) : [[C.int .u64 z117, C.flt .f64 z118]] = mks [⟨z117.toNat, z118⟩] := by simp [mks, Mk.enc, Int.toNat_of_nonneg hz117]
@[go_sem] theorem bcQ (l : List Mk) (i : Nat) (z117 : Int) (z118 : Option Nat) (hz117 : 0 ≤ z117) : (mks l).set i [C.int .u64 z117, C.flt .f64 z118] = mks (l.set i ⟨z117.toNat, z118⟩) := by simp [mks, List.map_set, Mk.enc, Int.toNat_of_nonneg hz117]
@[go_sem] theorem ucg (l : List Mk) (z117 : Int) (z118 : Option Nat) (hz117 : 0 ≤ z117) : [C.int .u64 z117, C.flt .f64 z118] :: mks l = mks (⟨z117.toNat, z118⟩ :: l) := by simp [mks, Mk.enc, Int.toNat_of_nonneg hz117]
@[go_sem] theorem bca (l : List Mk) : kah (mks l) = True := eq_true fun x hx c hc => by
  obtain ⟨e, _, rfl⟩ := List.mem_map.1 hx
  simp only [Mk.enc, List.mem_cons, List.not_mem_nil, or_false] at hc
  rcases hc with rfl | rfl <;> rfl
@[go_sem] theorem Mk.eta {e : Mk} : (⟨e.id, e.s⟩ : Mk) = e := rfl
abbrev F1 : Option Nat := some 4607182418800017408
@[go_sem] def yaA (x : Option Nat) : D := .bool (vbw x)
@[go_sem] abbrev xce : FuncId := 213
@[go_sem] def ja9 : Tab := []
theorem war : ya Tryz.prog ja9 := ya.nil
set_option maxRecDepth 8000 in
set_option maxHeartbeats 1000000 in
theorem zaU (x : Option Nat)  : yb Tryz.prog 213 [.c (.flt .f64 x)] (yaA x) := by
  refine .of (kcD war (Nat.le_of_ble_eq_true rfl) ?_)
  simp -implicitDefEqProofs only [cdA, go_sem, Go.Proofs.Tryz.f213, reduceIte, reduceCtorEq, Nat.reduceEqDiff, Nat.reduceAdd, Nat.reduceLeDiff, Nat.reduceSub, Nat.reduceMul, Nat.reduceLT, Nat.reduceShiftRight, Nat.reduceMod, Int.reduceLE, Int.reduceLT, Int.reduceToNat, List.cons.injEq, cdB]
  rfl
def kK : List D → Option (Prop × D × Fr)
  | [.c (.flt .f64 z119)] => some (True, yaA z119, [])
  | _ => none
attribute [go_sem] kK
theorem yaj : ∀ rs p r fr, kK rs = some (p, r, fr) → p → zg Tryz.prog 213 rs r fr := by
  intro rs p r fr h hp
  unfold kK at h
  split at h <;> cases h
  rename_i z119
  exact zaU z119
@[go_sem] def zbe (x : Option Nat) (y : Option Nat) : D := .int .i64 (vad (yt x) (yt y))
@[go_sem] abbrev ucV : FuncId := 128
@[go_sem] def bb2 : Tab := [(213, kK)]
theorem waN : ya Tryz.prog bb2 := (ya.cons yaj ya.nil)
set_option maxRecDepth 8000 in
set_option maxHeartbeats 1000000 in
theorem ybx (x : Option Nat) (y : Option Nat)  : yb Tryz.prog 128 [.c (.flt .f64 x), .c (.flt .f64 y)] (zbe x y) := by
  refine .of (kcS waN (Nat.le_of_ble_eq_true rfl) ?_)
  simp -implicitDefEqProofs only [cdA, go_sem, Go.Proofs.Tryz.f128, reduceIte, reduceCtorEq, Nat.reduceEqDiff, Nat.reduceAdd, Nat.reduceLeDiff, Nat.reduceSub, Nat.reduceMul, Nat.reduceLT, Nat.reduceShiftRight, Nat.reduceMod, Int.reduceLE, Int.reduceLT, Int.reduceToNat, List.cons.injEq, cdB]
  have h1 := jM x
  have h2 := jM y
  rw [j7, j7, zbt, jbw]
  generalize yt x = a at *
  generalize yt y = b at *
  generalize w5 = k at *
  unfold vad
  simp only [decide_eq_true_eq, decide_eq_false_iff_not, Bool.and_eq_true, Bool.and_eq_false_iff, ne_eq, Classical.not_not]
  refine ⟨fun h3 => ⟨fun h4 => ?_, fun h4 => ?_⟩, fun h3 => ⟨fun h4 => ?_, fun h4 => ⟨fun h5 => ?_, fun h5 => ⟨fun h6 => ?_, fun h6 => ?_⟩⟩⟩⟩
  all_goals (repeat' split) <;> first | rfl | (exfalso; omega)
def j9 : List D → Option (Prop × D × Fr)
  | [.c (.flt .f64 z120), .c (.flt .f64 z121)] => some (True, zbe z120 z121, [])
  | _ => none
attribute [go_sem] j9
theorem kaB : ∀ rs p r fr, j9 rs = some (p, r, fr) → p → zg Tryz.prog 128 rs r fr := by
  intro rs p r fr h hp
  unfold j9 at h
  split at h <;> cases h
  rename_i z120 z121
  exact ybx z120 z121
def xD (l : List Wt) (id : Nat) : Option Nat := match l.find? fun x => decide (x.id = id) with
  | some x => x.w
  | none => F1
@[go_sem] def xaT (l : List Wt) (id : Nat) : D := .c (.flt .f64 (xD l id))
@[go_sem] abbrev qcy : FuncId := 122
@[go_sem] def xby : Tab := []
theorem kE : ya Tryz.prog xby := ya.nil
set_option maxRecDepth 8000 in
set_option maxHeartbeats 1000000 in
theorem ga1 (l : List Wt) (id : Nat)  : yb Tryz.prog 122 [.sl (wts l), .c (.int .u64 (id : Int))] (xaT l id) := by
  refine .of (zcB kE (Nat.le_of_ble_eq_true rfl) ?_)
  simp -implicitDefEqProofs only [cdA, go_sem, Go.Proofs.Tryz.f122, reduceIte, reduceCtorEq, Nat.reduceEqDiff, Nat.reduceAdd, Nat.reduceLeDiff, Nat.reduceSub, Nat.reduceMul, Nat.reduceLT, Nat.reduceShiftRight, Nat.reduceMod, Int.reduceLE, Int.reduceLT, Int.reduceToNat, List.cons.injEq, cdB]
  refine ucB kE (Nat.le_of_ble_eq_true rfl) ?_
  simp -implicitDefEqProofs only [cdA, go_sem, Go.Proofs.Tryz.f208, reduceIte, reduceCtorEq, Nat.reduceEqDiff, Nat.reduceAdd, Nat.reduceLeDiff, Nat.reduceSub, Nat.reduceMul, Nat.reduceLT, Nat.reduceShiftRight, Nat.reduceMod, Int.reduceLE, Int.reduceLT, Int.reduceToNat, List.cons.injEq, cdB]
  refine fun hl => SWp.loop (ι := { i : Nat // i ≤ l.length ∧ ∀ j, j < i → (l.getD j default).id ≠ id }) (fun i => ⟨[(0, .sl (wts l)), (1, .fn (.func 209) [] [.ref 0 0]), (7, .int .i64 l.length), (8, .int .i64 i.1)], [(0, .box [.int .u64 id])], 1⟩) (fun i => l.length - i.1) ⟨0, by simp⟩ ?_ ?_
  · simp [go_sem]
  · rintro ⟨i, hi, hall⟩
    refine qb kE.toS wbv _ _ _ rfl ?_
    simp -implicitDefEqProofs only [cdA, go_sem, reduceIte, reduceCtorEq, Nat.reduceEqDiff, Nat.reduceAdd, Nat.reduceLeDiff, Nat.reduceSub, Nat.reduceMul, Nat.reduceLT, Nat.reduceShiftRight, Nat.reduceMod, Int.reduceLE, Int.reduceLT, Int.reduceToNat, List.cons.injEq, cdB]
    have hno : (∀ j, j < l.length → (l.getD j default).id ≠ id) → xD l id = F1 := fun h => by
      have : l.find? (fun x => decide (x.id = id)) = none := by
        rw [List.find?_eq_none]
        intro x hx
        obtain ⟨j, hj, rfl⟩ := jb.1 hx
        simpa using h j hj
      rw [xD, this]
    have hyes : i < l.length → (l.getD i default).id = id → xD l id = (l.getD i default).w := fun h h' => by
      have : l.find? (fun x => decide (x.id = id)) = some (l.getD i default) := by
        rw [List.find?_eq_some_iff_getElem]
        refine ⟨by simpa using h', i, h, (ve h).symm, fun j hj => ?_⟩
        have := hall j hj
        rw [ve (by omega)] at this
        simpa using this
      rw [xD, this]
    refine ⟨fun h => ⟨by omega, ?_⟩, fun h => ?_⟩
    · skip
      refine bcv kE (Nat.le_of_ble_eq_true rfl) ?_
      simp -implicitDefEqProofs only [cdA, go_sem, Go.Proofs.Tryz.f209, reduceIte, reduceCtorEq, Nat.reduceEqDiff, Nat.reduceAdd, Nat.reduceLeDiff, Nat.reduceSub, Nat.reduceMul, Nat.reduceLT, Nat.reduceShiftRight, Nat.reduceMod, Int.reduceLE, Int.reduceLT, Int.reduceToNat, List.cons.injEq, cdB]
      refine ⟨fun h1 => ⟨fun h2 => by omega, fun _ => ⟨by omega, ?_⟩⟩, fun h1 => ⟨⟨i + 1, by omega, fun j hj => ?_⟩, by dsimp only; omega, i64_in _ (by omega)⟩⟩
      · rw [hyes (by omega) (by omega)]
      · by_cases hji : j = i
        · subst hji; omega
        · exact hall j (by omega)
    · rw [hno fun j hj => hall j (by omega)]
def uP : List D → Option (Prop × D × Fr)
  | [.c (.sl z128), .c (.int .u64 z129)] => some (z128 = wts (jj z128) ∧ z129 = (z129.toNat : Int), xaT (jj z128) z129.toNat, [])
  | _ => none
attribute [go_sem] uP
theorem gar : ∀ rs p r fr, uP rs = some (p, r, fr) → p → zg Tryz.prog 122 rs r fr := by
  intro rs p r fr h hp
  unfold uP at h
  split at h <;> cases h
  obtain ⟨hc0, hc1⟩ := hp
  rename_i z128 z129
  obtain ⟨z128, rfl⟩ : ∃ m, z128 = wts m := ⟨_, hc0⟩
  obtain ⟨z129, rfl⟩ : ∃ m : Nat, z129 = m := ⟨_, hc1⟩
  simp only [Int.toNat_natCast, qd]
  exact ga1 z128 z129
def xaX (c : Ch) (w n : Option Nat) : Option Nat × Int := if yl c then (far .mul w (far .quo (far .sub (vaK (zU c).1) n) (vaK (xg c).2.1)), 0) else (some 0, 1)
theorem yaL {c : Ch} : (zU c).2 = 0 ↔ yl c := by
  unfold zU
  by_cases h : yl c
  · rw [if_pos h]
    simp only [h, iff_true]
    split <;> rfl
  · rw [if_neg h]
    simp [h]
@[go_sem] def yb3 (c : Ch) (w : Option Nat) (n : Option Nat) : D := .tup [.c (.flt .f64 (xaX c w n).1), .int .i64 (xaX c w n).2]
@[go_sem] abbrev udj : FuncId := 121
@[go_sem] def jcF : Tab := [(120, vK), (143, zW)]
theorem ja3 : ya Tryz.prog jcF := (ya.cons wV (ya.cons j4 ya.nil))
set_option maxRecDepth 8000 in
set_option maxHeartbeats 1000000 in
theorem jbN (c : Ch) (w : Option Nat) (n : Option Nat)  : yb Tryz.prog 121 [.agg [.c (.int .u64 (c.id : Int)), .c (.int .u64 (c.loc : Int)), .c (.int .u64 (c.rem : Int)), .c (.int .u64 (c.res : Int)), .c (.int .u64 (c.most : Int)), .sl (hds c.holds), .c (.bool c.op)], .c (.flt .f64 w), .c (.flt .f64 n)] (yb3 c w n) := by
  refine .of (ucH ja3 (Nat.le_of_ble_eq_true rfl) ?_)
  simp -implicitDefEqProofs only [cdA, go_sem, Go.Proofs.Tryz.f121, reduceIte, reduceCtorEq, Nat.reduceEqDiff, Nat.reduceAdd, Nat.reduceLeDiff, Nat.reduceSub, Nat.reduceMul, Nat.reduceLT, Nat.reduceShiftRight, Nat.reduceMod, Int.reduceLE, Int.reduceLT, Int.reduceToNat, List.cons.injEq, cdB]
  have hr := yaL (c := c)
  rw [hr, gG, xaX]
  by_cases h : yl c
  · have e : (xg c).2.2 = 0 := gG.2 h
    simp [h]
  · have e : (zU c).2 = 1 := by rw [zU, if_neg h]
    simp [h, e]
def zaB : List D → Option (Prop × D × Fr)
  | [.agg [.c (.int .u64 z131), .c (.int .u64 z132), .c (.int .u64 z133), .c (.int .u64 z134), .c (.int .u64 z135), .c (.sl z136), .c (.bool z137)], .c (.flt .f64 z138), .c (.flt .f64 z139)] => some (z131 = (z131.toNat : Int) ∧ z132 = (z132.toNat : Int) ∧ z133 = (z133.toNat : Int) ∧ z134 = (z134.toNat : Int) ∧ z135 = (z135.toNat : Int) ∧ z136 = hds (um z136), yb3 (⟨z131.toNat, z132.toNat, z133.toNat, z134.toNat, z135.toNat, (um z136), z137⟩ : Ch) z138 z139, [])
  | _ => none
attribute [go_sem] zaB
theorem jaT : ∀ rs p r fr, zaB rs = some (p, r, fr) → p → zg Tryz.prog 121 rs r fr := by
  intro rs p r fr h hp
  unfold zaB at h
  split at h <;> cases h
  obtain ⟨hc0, hc1, hc2, hc3, hc4, hc5⟩ := hp
  rename_i z131 z132 z133 z134 z135 z136 z137 z138 z139
  obtain ⟨z131, rfl⟩ : ∃ m : Nat, z131 = m := ⟨_, hc0⟩
  obtain ⟨z132, rfl⟩ : ∃ m : Nat, z132 = m := ⟨_, hc1⟩
  obtain ⟨z133, rfl⟩ : ∃ m : Nat, z133 = m := ⟨_, hc2⟩
  obtain ⟨z134, rfl⟩ : ∃ m : Nat, z134 = m := ⟨_, hc3⟩
  obtain ⟨z135, rfl⟩ : ∃ m : Nat, z135 = m := ⟨_, hc4⟩
  obtain ⟨z136, rfl⟩ : ∃ m, z136 = hds m := ⟨_, hc5⟩
  simp only [Int.toNat_natCast, ze]
  exact jbN ⟨z131, z132, z133, z134, z135, z136, z137⟩ z138 z139
@[go_sem] def vax (x : Option Nat) : D := .bool (vbw x)
@[go_sem] abbrev gci : FuncId := 123
@[go_sem] def ba0 : Tab := []
theorem kas : ya Tryz.prog ba0 := ya.nil
set_option maxRecDepth 8000 in
set_option maxHeartbeats 1000000 in
theorem vaO (x : Option Nat)  : yb Tryz.prog 123 [.c (.flt .f64 x)] (vax x) := by
  refine .of (ucI kas (Nat.le_of_ble_eq_true rfl) ?_)
  simp -implicitDefEqProofs only [cdA, go_sem, Go.Proofs.Tryz.f123, reduceIte, reduceCtorEq, Nat.reduceEqDiff, Nat.reduceAdd, Nat.reduceLeDiff, Nat.reduceSub, Nat.reduceMul, Nat.reduceLT, Nat.reduceShiftRight, Nat.reduceMod, Int.reduceLE, Int.reduceLT, Int.reduceToNat, List.cons.injEq, cdB]
  rfl
def kJ : List D → Option (Prop × D × Fr)
  | [.c (.flt .f64 z150)] => some (True, vax z150, [])
  | _ => none
attribute [go_sem] kJ
theorem jae : ∀ rs p r fr, kJ rs = some (p, r, fr) → p → zg Tryz.prog 123 rs r fr := by
  intro rs p r fr h hp
  unfold kJ at h
  split at h <;> cases h
  rename_i z150
  exact vaO z150
@[go_sem] def ybb  : D := .c (.flt .f64 none)
@[go_sem] abbrev wcW : FuncId := 124
@[go_sem] def ubV : Tab := [ovk 210]
theorem zaW : ya Tryz.prog ubV := (ya.cons (waD 210) ya.nil)
set_option maxRecDepth 8000 in
set_option maxHeartbeats 1000000 in
theorem bbs   : yb Tryz.prog 124 [] (ybb ) := by
  refine .of (kcQ zaW (Nat.le_of_ble_eq_true rfl) ?_)
  simp -implicitDefEqProofs only [cdA, go_sem, Go.Proofs.Tryz.f124, reduceIte, reduceCtorEq, Nat.reduceEqDiff, Nat.reduceAdd, Nat.reduceLeDiff, Nat.reduceSub, Nat.reduceMul, Nat.reduceLT, Nat.reduceShiftRight, Nat.reduceMod, Int.reduceLE, Int.reduceLT, Int.reduceToNat, List.cons.injEq, cdB]
  exact ⟨_, rfl, rfl, rfl, rfl, by kernel_rfl⟩
def xab : List D → Option (Prop × D × Fr)
  | [] => some (True, ybb , [])
  | _ => none
attribute [go_sem] xab
theorem uaG : ∀ rs p r fr, xab rs = some (p, r, fr) → p → zg Tryz.prog 124 rs r fr := by
  intro rs p r fr h hp
  unfold xab at h
  split at h <;> cases h
  exact bbs 
def mkO (a b : Mk) : Int := orS [vad (yt b.s) (yt a.s), vad a.id b.id]
@[go_sem] def waL (a : Mk) (b : Mk) : D := .int .i64 (mkO a b)
@[go_sem] abbrev xcC : FuncId := 126
@[go_sem] def kby : Tab := [(128, j9), (129, xO), (127, yQ)]
theorem wY : ya Tryz.prog kby := (ya.cons kaB (ya.cons wC (ya.cons xar ya.nil)))
set_option maxRecDepth 8000 in
set_option maxHeartbeats 1000000 in
theorem yaZ (a : Mk) (b : Mk)  : yb Tryz.prog 126 [.agg [.c (.int .u64 (a.id : Int)), .c (.flt .f64 a.s)], .agg [.c (.int .u64 (b.id : Int)), .c (.flt .f64 b.s)]] (waL a b) := by
  refine .of (jcS wY (Nat.le_of_ble_eq_true rfl) ?_)
  simp -implicitDefEqProofs only [cdA, go_sem, Go.Proofs.Tryz.f126, reduceIte, reduceCtorEq, Nat.reduceEqDiff, Nat.reduceAdd, Nat.reduceLeDiff, Nat.reduceSub, Nat.reduceMul, Nat.reduceLT, Nat.reduceShiftRight, Nat.reduceMod, Int.reduceLE, Int.reduceLT, Int.reduceToNat, List.cons.injEq, cdB]
  refine uc.run zbu wY qa (by kernel_rfl) (by kernel_rfl) ?_
  simp -implicitDefEqProofs only [cdA, go_sem, reduceIte, reduceCtorEq, Nat.reduceEqDiff, Nat.reduceAdd, Nat.reduceLeDiff, Nat.reduceSub, Nat.reduceMul, Nat.reduceLT, Nat.reduceShiftRight, Nat.reduceMod, Int.reduceLE, Int.reduceLT, Int.reduceToNat, List.cons.injEq, cdB]
  rfl
def ga2 : List D → Option (Prop × D × Fr)
  | [.agg [.c (.int .u64 z152), .c (.flt .f64 z153)], .agg [.c (.int .u64 z155), .c (.flt .f64 z156)]] => some (z152 = (z152.toNat : Int) ∧ z155 = (z155.toNat : Int), waL (⟨z152.toNat, z153⟩ : Mk) (⟨z155.toNat, z156⟩ : Mk), [])
  | _ => none
attribute [go_sem] ga2
end Dm
