import Derived.Test.YthcioaapafehhaaGreatDoorP6

set_option linter.unusedSimpArgs false
set_option linter.unusedVariables false
set_option linter.unusedSectionVars false
namespace Dm
open Go Go.Proofs Go.IntWalk
def hlC (c : Ch) : List K3 := c.holds.map fun h => (c.id, h.id, h.n)
def hlL (cs : List Ch) : List K3 := cs.flatMap hlC
def pend (l : List Py) : List Py := l.filter fun p => decide (p.state = 1)
def agrL (l : List Py) (cs : List Ch) : Bool × Int := if okPy l ∧ cs.length ≤ 32 ∧ (cs.map Ch.id).Nodup then (decide ((∀ p ∈ pend l, (p.chan, p.id, p.n) ∈ hlL cs) ∧ (hlL cs).length = (pend l).length), 0) else (false, 1)
theorem hl_len : ∀ {cs : List Ch} {n : Nat}, (∀ c ∈ cs, c.holds.length ≤ 1000000) → cs.length ≤ n → (hlL cs).length ≤ n * 1000000
  | [], n, _, _ => by simp [hlL]
  | c :: cs, n, h, hn => by
    have h1 : hlL (c :: cs) = hlC c ++ hlL cs := rfl
    rw [h1, List.length_append]
    have h2 : (hlC c).length ≤ 1000000 := by unfold hlC; rw [List.length_map]; exact h c (.head _)
    have h3 := hl_len (cs := cs) (n := cs.length) (fun d hd => h d (.tail _ hd)) (Nat.le_refl _)
    simp only [List.length_cons] at hn
    omega
@[go_sem] def pagree_r (l : List Py) (cs : List Ch) : D := .tup [.bool (agrL l cs).1, .int .i64 (agrL l cs).2]
@[go_sem] abbrev n_pagree : FuncId := 162
@[go_sem] def pagree_T : Tab := [(224, sp_pcheck)]
theorem pagree_T_ok : TabOk Tryz.prog pagree_T := (TabOk.cons sp_pcheck_ok TabOk.nil)
set_option maxRecDepth 8000 in
set_option maxHeartbeats 1000000 in
theorem pagree_ok (l : List Py) (cs : List Ch) (hs : ∀ c ∈ cs, c.holds.length ≤ 1000000) : PureFn Tryz.prog 162 [.sl (pys l), .sl (chs cs)] (pagree_r l cs) := by
  refine .of (ac162 pagree_T_ok (Nat.le_of_ble_eq_true rfl) ?_)
  simp -implicitDefEqProofs only [cdA, go_sem, Go.Proofs.Tryz.f162, reduceIte, reduceCtorEq, Nat.reduceEqDiff, Nat.reduceAdd, Nat.reduceLeDiff, Nat.reduceSub, Nat.reduceMul, Nat.reduceLT, Nat.reduceShiftRight, Nat.reduceMod, Int.reduceLE, Int.reduceLT, Int.reduceToNat, List.cons.injEq, cdB]
  have hbad : ¬ (okPy l ∧ cs.length ≤ 32 ∧ (cs.map Ch.id).Nodup) → false = (agrL l cs).1 ∧ 1 = (agrL l cs).2 := fun h => by rw [agrL, if_neg h]; exact ⟨rfl, rfl⟩
  have hcz : chkP l = 0 ↔ okPy l := by unfold chkP; split <;> rename_i h <;> simp only [h] <;> decide
  refine ⟨fun h0 hl => ⟨fun h => hbad fun ho => ?_, fun hle _ => ?_⟩, fun h0 => hbad fun h => h0 (hcz.2 h.1)⟩
  · have := ho.2.1; omega
  have hok := hcz.1 h0
  refine SWp.loop (ι := { x : Nat × List (K3 × Int) × List (Nat × Int) // x.1 ≤ cs.length ∧ ((cs.take x.1).map Ch.id).Nodup ∧ (∀ k, (alk k x.2.1).getD 0 = (List.count k (hlL (cs.take x.1)) : Nat)) ∧ (∀ k, (nlk k x.2.2).getD 0 = (List.count k ((cs.take x.1).map Ch.id) : Nat)) })
    (fun x => ⟨[(0, .sl (pys l)), (6, .mp 0), (7, .mp 1), (8, .int .i64 (hlL (cs.take x.1.1)).length), (25, .sl (chs cs)), (26, .int .i64 cs.length), (27, .int .i64 x.1.1)], [(1, .map [.int .u64] (kvN .u64 .i64 x.1.2.2)), (0, .map [.int .u64, .int .u64, .int .u64] (kv3 x.1.2.1))], 2⟩) (fun x => cs.length - x.1.1)
    ⟨(0, [], []), by simp, by simp, fun k => by simp [alk, hlL], fun k => by simp [nlk]⟩ ?_ ?_
  · simp [go_sem, kvN, kv3, hlL]
  · rintro ⟨⟨i, m, ids⟩, hi, hnd, hm, hids⟩
    dsimp only at hi hnd hm hids
    refine awp_sound pagree_T_ok.toS lv162 _ _ _ rfl ?_
    simp -implicitDefEqProofs only [cdA, go_sem, okL_z, reduceIte, reduceCtorEq, Nat.reduceEqDiff, Nat.reduceAdd, Nat.reduceLeDiff, Nat.reduceSub, Nat.reduceMul, Nat.reduceLT, Nat.reduceShiftRight, Nat.reduceMod, Int.reduceLE, Int.reduceLT, Int.reduceToNat, List.cons.injEq, cdB]
    have hlen : (hlL (cs.take i)).length ≤ i * 1000000 := hl_len (fun c hc => hs c (List.mem_of_mem_take hc)) (by rw [List.length_take]; omega)
    refine ⟨fun h1 => ⟨by omega, ?_⟩, fun h1 _ => ?_⟩
    · have hi' : i < cs.length := by omega
      have hcm : cs.getD i default ∈ cs := mem_getD.2 ⟨i, hi', rfl⟩
      have htk : cs.take (i + 1) = cs.take i ++ [cs.getD i default] := take_succ hi'
      generalize cs.getD i default = c at *
      have hcl := hs c hcm
      have hcle : List.count c.id ((cs.take i).map Ch.id) ≤ 32 := Nat.le_trans List.count_le_length (by simp; omega)
      rw [hids, i64_in _ (by omega), nlk_nset, if_pos rfl]
      generalize hids' : nset c.id ((List.count c.id ((cs.take i).map Ch.id) : Nat) + 1 : Int) ids = ids'
      have hid2 : ∀ k, (nlk k ids').getD 0 = (List.count k ((cs.take (i + 1)).map Ch.id) : Nat) := fun k => by
        rw [← hids', nlk_nset, htk, List.map_append, List.count_append]
        split
        · rename_i h; subst h; simp
        · rename_i h
          rw [hids]; simp [List.count_cons, Ne.symm h]
      refine ⟨fun h2 => hbad fun ho => ?_, fun h2 _ => ?_⟩
      · have h3 : (cs.take (i + 1)).map Ch.id <+: cs.map Ch.id := (List.take_prefix _ _).map _
        have h4 := h3.sublist.nodup ho.2.2
        rw [htk, List.map_append, List.nodup_append] at h4
        have h5 : 0 < List.count c.id ((cs.take i).map Ch.id) := by
          simp only [Option.getD_some] at h2; omega
        exact h4.2.2 _ (List.count_pos_iff.1 h5) c.id (by simp) rfl
      · have hnd' : ((cs.take (i + 1)).map Ch.id).Nodup := by
          rw [htk, List.map_append, List.nodup_append]
          refine ⟨hnd, by simp, fun x hx y hy => ?_⟩
          simp at hy
          rintro rfl
          subst hy
          have := List.count_pos_iff.2 hx
          simp only [Option.getD_some] at h2; omega
        refine SWp.loop (ι := { x : Nat × List (K3 × Int) // x.1 ≤ c.holds.length ∧ ∀ k, (alk k x.2).getD 0 = (List.count k (hlL (cs.take i) ++ (hlC c).take x.1) : Nat) })
          (fun x => ⟨[(0, .sl (pys l)), (6, .mp 0), (7, .mp 1), (8, .int .i64 ((hlL (cs.take i)).length + x.1.1 : Nat)), (10, .ref 2 0), (25, .sl (chs cs)), (26, .int .i64 cs.length), (27, .int .i64 i), (42, .c (.sl (hds c.holds))), (43, .int .i64 c.holds.length), (44, .int .i64 x.1.1)],
            [(2, .box [.c (.int .u64 c.id), .c (.int .u64 c.loc), .c (.int .u64 c.rem), .c (.int .u64 c.res), .c (.int .u64 c.most), .c (.sl (hds c.holds)), .c (.bool c.op)]), (1, .map [.int .u64] (kvN .u64 .i64 ids')), (0, .map [.int .u64, .int .u64, .int .u64] (kv3 x.1.2))], 3⟩) (fun x => c.holds.length - x.1.1)
          ⟨(0, m), by simp, fun k => by simp [hm]⟩ ?_ ?_
        · simp [go_sem]
        · rintro ⟨⟨k, m⟩, hk, hm⟩
          dsimp only at hk hm
          refine awp_sound pagree_T_ok.toS lv162 _ _ _ rfl ?_
          simp -implicitDefEqProofs only [cdA, go_sem, okL_z, reduceIte, reduceCtorEq, Nat.reduceEqDiff, Nat.reduceAdd, Nat.reduceLeDiff, Nat.reduceSub, Nat.reduceMul, Nat.reduceLT, Nat.reduceShiftRight, Nat.reduceMod, Int.reduceLE, Int.reduceLT, Int.reduceToNat, List.cons.injEq, cdB]
          refine ⟨fun h3 => ⟨by omega, ?_⟩, fun h3 => ?_⟩
          · refine ADraw.runC us162_13 [0, 0, 2, 0, 14, 31, 63, 63, 159, 511] pagree_T_ok follows_mixed (by kernel_rfl) (by kernel_rfl) (by kernel_rfl) ?_
            simp -implicitDefEqProofs only [cdA, go_sem, okL_z, reduceIte, reduceCtorEq, Nat.reduceEqDiff, Nat.reduceAdd, Nat.reduceLeDiff, Nat.reduceSub, Nat.reduceMul, Nat.reduceLT, Nat.reduceShiftRight, Nat.reduceMod, Int.reduceLE, Int.reduceLT, Int.reduceToNat, List.cons.injEq, cdB]
            have hk' : k < c.holds.length := by omega
            have hcl' : (hlC c).length = c.holds.length := by unfold hlC; rw [List.length_map]
            have hct : List.count (c.id, (c.holds.getD k default).id, (c.holds.getD k default).n) (hlL (cs.take i) ++ (hlC c).take k) ≤ i * 1000000 + 1000000 :=
              Nat.le_trans List.count_le_length (by rw [List.length_append, List.length_take]; omega)
            have hstep : (hlC c).take (k + 1) = (hlC c).take k ++ [(c.id, (c.holds.getD k default).id, (c.holds.getD k default).n)] := by
              rw [take_succ (by rw [hcl']; exact hk')]
              congr 2
              unfold hlC
              rw [getD_lt (by rw [List.length_map]; exact hk'), getD_lt hk', List.getElem_map]
            refine ⟨⟨(k + 1, _), hk', fun q => ?_⟩, by dsimp only; omega, ⟨by rw [i64_in _ (by omega)]; dsimp only; omega, i64_in _ (by omega)⟩, rfl⟩
            dsimp only
            rw [hm, i64_in _ (by omega), alk_aset, hstep, ← List.append_assoc]
            generalize hlL (cs.take i) ++ (hlC c).take k = A at *
            generalize (c.id, (c.holds.getD k default).id, (c.holds.getD k default).n) = t at *
            rw [List.count_append, List.count_singleton]
            split
            · rename_i h; subst h
              rw [if_pos (by simp), Option.getD_some]; omega
            · rename_i h
              rw [hm, if_neg (by simpa using Ne.symm h)]; omega
          · have hk' : k = c.holds.length := by omega
            subst hk'
            have hcl' : (hlC c).length = c.holds.length := by unfold hlC; rw [List.length_map]
            have hl1 : hlL (cs.take (i + 1)) = hlL (cs.take i) ++ hlC c := by rw [htk]; simp [hlL]
            refine ⟨⟨(i + 1, m, ids'), hi', hnd', fun q => ?_, hid2⟩, by dsimp only; omega, ⟨by dsimp only; rw [hl1, List.length_append, hcl']; omega, i64_in _ (by omega)⟩, rfl, rfl⟩
            dsimp only
            rw [hm, hl1, ← hcl', List.take_length]
    · have hi' : i = cs.length := by omega
      subst hi'
      rw [List.take_length] at hnd hm hids hlen ⊢
      have hA : okPy l ∧ cs.length ≤ 32 ∧ (cs.map Ch.id).Nodup := ⟨hok, by omega, hnd⟩
      have hl256 := hok.1
      have hpl : ∀ j, (pend (l.take j)).length ≤ 256 := fun j => Nat.le_trans (List.length_filter_le _ _) (by rw [List.length_take]; omega)
      refine SWp.loop (ι := { j : Nat // j ≤ l.length ∧ ∀ p ∈ pend (l.take j), (p.chan, p.id, p.n) ∈ hlL cs }) (fun j => ⟨[(6, .mp 0), (8, .int .i64 ((hlL cs).length - (pend (l.take j.1)).length : Int)), (61, .sl (pys l)), (62, .int .i64 l.length), (63, .int .i64 j.1)], [(1, .map [.int .u64] (kvN .u64 .i64 ids)), (0, .map [.int .u64, .int .u64, .int .u64] (kv3 m))], 2⟩) (fun j => l.length - j.1) ⟨0, by simp [pend]⟩ ?_ ?_
      · simp [go_sem, pend]
      · rintro ⟨j, hj, hin⟩
        have hpj := hpl j
        refine awp_sound pagree_T_ok.toS lv162 _ _ _ rfl ?_
        simp -implicitDefEqProofs only [cdA, go_sem, okL_z, reduceIte, reduceCtorEq, Nat.reduceEqDiff, Nat.reduceAdd, Nat.reduceLeDiff, Nat.reduceSub, Nat.reduceMul, Nat.reduceLT, Nat.reduceShiftRight, Nat.reduceMod, Int.reduceLE, Int.reduceLT, Int.reduceToNat, List.cons.injEq, cdB]
        refine ⟨fun h1 => ⟨by omega, fun h2 => ?_, fun h2 => ?_⟩, fun h1 => ?_⟩
        · have hj' : j < l.length := by omega
          have hst : pend (l.take (j + 1)) = pend (l.take j) ++ [l.getD j default] := by
            unfold pend
            rw [take_succ hj', List.filter_append]
            simp only [List.filter_cons, decide_eq_true h2, if_true, List.filter_nil]
          rw [hm]
          refine ⟨fun h3 => ?_, fun h3 => ?_⟩
          · rw [agrL, if_pos hA]
            refine ⟨(decide_eq_false fun h4 => ?_).symm, rfl⟩
            have h5 := h4.1 (l.getD j default) (List.mem_filter.2 ⟨mem_getD.2 ⟨j, hj', rfl⟩, decide_eq_true h2⟩)
            have := List.count_pos_iff.2 h5
            omega
          · refine ⟨⟨j + 1, hj', fun p hp => ?_⟩, by dsimp only; omega, ?_, i64_in _ (by omega)⟩
            · rw [hst] at hp
              rcases List.mem_append.1 hp with hp | hp
              · exact hin p hp
              · rw [List.mem_singleton] at hp
                rw [hp]
                exact List.count_pos_iff.1 (by omega)
            · rw [i64_in _ (by omega)]
              dsimp only
              rw [hst, List.length_append, List.length_singleton]; omega
        · have hj' : j < l.length := by omega
          have hst : pend (l.take (j + 1)) = pend (l.take j) := by
            unfold pend
            rw [take_succ hj', List.filter_append]
            simp only [List.filter_cons, decide_eq_false h2, List.filter_nil, List.append_nil, Bool.false_eq_true, if_false]
          exact ⟨⟨j + 1, hj', fun p hp => hin p (by rwa [hst] at hp)⟩, by dsimp only; omega, by dsimp only; rw [hst], i64_in _ (by omega)⟩
        · have hj' : j = l.length := by omega
          subst hj'
          rw [List.take_length] at hin hpj ⊢
          rw [agrL, if_pos hA]
          refine ⟨?_, rfl⟩
          rw [decide_eq_decide]
          exact ⟨fun h => ⟨hin, by omega⟩, fun h => by omega⟩
@[go_sem] def pagree_p (l : List Py) (cs : List Ch) : Prop := (∀ c ∈ cs, c.holds.length ≤ 1000000)
def sp_pagree : List D → Option (Prop × D × Fr)
  | [.c (.sl z133), .c (.sl z134)] => some (z133 = pys (dpys z133) ∧ z134 = chs (dchs z134) ∧ pagree_p (dpys z133) (dchs z134), pagree_r (dpys z133) (dchs z134), [])
  | _ => none
attribute [go_sem] sp_pagree
theorem sp_pagree_ok : ∀ rs p r fr, sp_pagree rs = some (p, r, fr) → p → FnOk Tryz.prog 162 rs r fr := by
  intro rs p r fr h hp
  unfold sp_pagree at h
  split at h <;> cases h
  obtain ⟨hc0, hc1, hp⟩ := hp
  rename_i z133 z134
  obtain ⟨z133, rfl⟩ : ∃ m, z133 = pys m := ⟨_, hc0⟩
  obtain ⟨z134, rfl⟩ : ∃ m, z134 = chs m := ⟨_, hc1⟩
  simp only [dchs_chs, dpys_pys]
  simp only [dchs_chs, dpys_pys, pagree_p] at hp
  exact pagree_ok z133 z134 hp
end Dm
namespace Dm
open Go Go.Proofs Go.IntWalk
structure Iv where
  hash : Nat
  n : Nat
  till : Nat
  state : Int
deriving DecidableEq, Inhabited
@[go_sem] def Iv.enc (e : Iv) : List C := [.int .u64 (e.hash : Int), .int .u64 (e.n : Int), .int .u64 (e.till : Int), .int .i64 e.state]
def Iv.dec : List C → Iv
  | [.int .u64 z92, .int .u64 z93, .int .u64 z94, .int .i64 z95] => (⟨z92.toNat, z93.toNat, z94.toNat, z95⟩ : Iv)
  | _ => default
def ivs (l : List Iv) : List (List C) := l.map Iv.enc
def divs (l : List (List C)) : List Iv := l.map Iv.dec
@[simp, go_sem] theorem ivs_length (l : List Iv) : (ivs l).length = l.length := by simp [ivs]
@[go_sem] theorem ivs_get (l : List Iv) (i : Nat) : (ivs l).getD i [.int .u64 0, .int .u64 0, .int .u64 0, .int .i64 0] = (l.getD i default).enc := by
  simp only [ivs, List.getD_eq_getElem?_getD, List.getElem?_map]
  cases l[i]? <;> rfl
@[go_sem] theorem ivs_wide (l : List Iv) : Wide 4 (ivs l) = True := by
  simp [Wide, ivs, Iv.enc]
theorem Iv.dec_enc (e : Iv) : Iv.dec e.enc = e := by
  simp [Iv.enc, Iv.dec]
@[go_sem] theorem divs_ivs (l : List Iv) : divs (ivs l) = l := by
  simp only [divs, ivs, List.map_map]
  exact List.map_id'' (fun e => Iv.dec_enc e) l
@[go_sem] theorem ivs_app (a b : List Iv) : ivs a ++ ivs b = ivs (a ++ b) := by simp [ivs]
@[go_sem] theorem ivs_drop (l : List Iv) (k : Nat) : (ivs l).drop k = ivs (l.drop k) := by simp [ivs]
@[go_sem] theorem ivs_take (l : List Iv) (k : Nat) : (ivs l).take k = ivs (l.take k) := by simp [ivs]
@[go_sem] theorem ivs_one (z96 : Int) (z97 : Int) (z98 : Int) (z99 : Int) (hz96 : 0 ≤ z96) (hz97 : 0 ≤ z97) (hz98 : 0 ≤ z98) : [[C.int .u64 z96, C.int .u64 z97, C.int .u64 z98, C.int .i64 z99]] = ivs [⟨z96.toNat, z97.toNat, z98.toNat, z99⟩] := by simp [ivs, Iv.enc, Int.toNat_of_nonneg hz96, Int.toNat_of_nonneg hz97, Int.toNat_of_nonneg hz98]
@[go_sem] theorem ivs_set (l : List Iv) (i : Nat) (z96 : Int) (z97 : Int) (z98 : Int) (z99 : Int) (hz96 : 0 ≤ z96) (hz97 : 0 ≤ z97) (hz98 : 0 ≤ z98) : (ivs l).set i [C.int .u64 z96, C.int .u64 z97, C.int .u64 z98, C.int .i64 z99] = ivs (l.set i ⟨z96.toNat, z97.toNat, z98.toNat, z99⟩) := by simp [ivs, List.map_set, Iv.enc, Int.toNat_of_nonneg hz96, Int.toNat_of_nonneg hz97, Int.toNat_of_nonneg hz98]
@[go_sem] theorem ivs_cons (l : List Iv) (z96 : Int) (z97 : Int) (z98 : Int) (z99 : Int) (hz96 : 0 ≤ z96) (hz97 : 0 ≤ z97) (hz98 : 0 ≤ z98) : [C.int .u64 z96, C.int .u64 z97, C.int .u64 z98, C.int .i64 z99] :: ivs l = ivs (⟨z96.toNat, z97.toNat, z98.toNat, z99⟩ :: l) := by simp [ivs, Iv.enc, Int.toNat_of_nonneg hz96, Int.toNat_of_nonneg hz97, Int.toNat_of_nonneg hz98]
@[go_sem] theorem ivs_flat (l : List Iv) : flatE (ivs l) = True := eq_true fun x hx c hc => by
  obtain ⟨e, _, rfl⟩ := List.mem_map.1 hx
  simp only [Iv.enc, List.mem_cons, List.not_mem_nil, or_false] at hc
  rcases hc with rfl | rfl | rfl | rfl <;> rfl
@[go_sem] theorem Iv.eta {e : Iv} : (⟨e.hash, e.n, e.till, e.state⟩ : Iv) = e := rfl
@[go_sem] theorem Iv.eqD {a b : Iv} : eqD Tryz.prog 189 [D.c (.int .u64 (a.hash : Int)), D.c (.int .u64 (a.n : Int)), D.c (.int .u64 (a.till : Int)), D.c (.int .i64 a.state)] [D.c (.int .u64 (b.hash : Int)), D.c (.int .u64 (b.n : Int)), D.c (.int .u64 (b.till : Int)), D.c (.int .i64 b.state)] = some (decide (a = b)) := by
  cases a; cases b
  simp only [Dm.eqD, eqOf_189, eqCells, eqC, List.getElem?_cons_zero, List.getElem?_cons_succ, if_true, Option.some.injEq, Iv.mk.injEq]
  rw [Bool.eq_iff_iff]
  simp [Int.ofNat_inj]
def okIv1 (x : Iv) : Prop := (x.n ≠ 0 ∧ x.n ≤ MM) ∧ 1 ≤ x.state ∧ x.state ≤ 3
instance (x : Iv) : Decidable (okIv1 x) := by unfold okIv1; infer_instance
def okIv (l : List Iv) : Prop := l.length ≤ 256 ∧ (∀ x ∈ l, okIv1 x) ∧ Srt.Chn Iv.hash ltN l
instance (l : List Iv) : Decidable (Srt.Chn Iv.hash ltN l) := by unfold Srt.Chn; infer_instance
instance (l : List Iv) : Decidable (okIv l) := by unfold okIv; infer_instance
def chkI (l : List Iv) : Int := if okIv l then 0 else 1
@[go_sem] def iorder_r (x : Iv) (id : Nat) : D := .int .i64 (cmpS x.hash id)
@[go_sem] abbrev n_iorder : FuncId := 220
@[go_sem] def iorder_T : Tab := [(225, sp_cmp)]
theorem iorder_T_ok : TabOk Tryz.prog iorder_T := (TabOk.cons sp_cmp_ok TabOk.nil)
set_option maxRecDepth 8000 in
set_option maxHeartbeats 1000000 in
theorem iorder_ok (x : Iv) (id : Nat)  : PureFn Tryz.prog 220 [.agg [.c (.int .u64 (x.hash : Int)), .c (.int .u64 (x.n : Int)), .c (.int .u64 (x.till : Int)), .c (.int .i64 x.state)], .c (.int .u64 (id : Int))] (iorder_r x id) := by
  refine .of (ac220 iorder_T_ok (Nat.le_of_ble_eq_true rfl) ?_)
  simp -implicitDefEqProofs only [cdA, go_sem, Go.Proofs.Tryz.f220, reduceIte, reduceCtorEq, Nat.reduceEqDiff, Nat.reduceAdd, Nat.reduceLeDiff, Nat.reduceSub, Nat.reduceMul, Nat.reduceLT, Nat.reduceShiftRight, Nat.reduceMod, Int.reduceLE, Int.reduceLT, Int.reduceToNat, List.cons.injEq, cdB]
def sp_iorder : List D → Option (Prop × D × Fr)
  | [.agg [.c (.int .u64 z101), .c (.int .u64 z102), .c (.int .u64 z103), .c (.int .i64 z104)], .c (.int .u64 z105)] => some (z101 = (z101.toNat : Int) ∧ z102 = (z102.toNat : Int) ∧ z103 = (z103.toNat : Int) ∧ z105 = (z105.toNat : Int), iorder_r (⟨z101.toNat, z102.toNat, z103.toNat, z104⟩ : Iv) z105.toNat, [])
  | _ => none
attribute [go_sem] sp_iorder
theorem sp_iorder_ok : ∀ rs p r fr, sp_iorder rs = some (p, r, fr) → p → FnOk Tryz.prog 220 rs r fr := by
  intro rs p r fr h hp
  unfold sp_iorder at h
  split at h <;> cases h
  obtain ⟨hc0, hc1, hc2, hc3⟩ := hp
  rename_i z101 z102 z103 z104 z105
  obtain ⟨z101, rfl⟩ : ∃ m : Nat, z101 = m := ⟨_, hc0⟩
  obtain ⟨z102, rfl⟩ : ∃ m : Nat, z102 = m := ⟨_, hc1⟩
  obtain ⟨z103, rfl⟩ : ∃ m : Nat, z103 = m := ⟨_, hc2⟩
  obtain ⟨z105, rfl⟩ : ∃ m : Nat, z105 = m := ⟨_, hc3⟩
  simp only [Int.toNat_natCast]
  exact iorder_ok ⟨z101, z102, z103, z104⟩ z105
@[go_sem] def ibill_r (n : Nat) : D := .bool (decide (n ≠ 0 ∧ n ≤ MM))
@[go_sem] abbrev n_ibill : FuncId := 221
@[go_sem] def ibill_T : Tab := [(122, sp_moncheck)]
theorem ibill_T_ok : TabOk Tryz.prog ibill_T := (TabOk.cons sp_moncheck_ok TabOk.nil)
set_option maxRecDepth 8000 in
set_option maxHeartbeats 1000000 in
theorem ibill_ok (n : Nat)  : PureFn Tryz.prog 221 [.c (.int .u64 (n : Int))] (ibill_r n) := by
  refine .of (ac221 ibill_T_ok (Nat.le_of_ble_eq_true rfl) ?_)
  simp -implicitDefEqProofs only [cdA, go_sem, Go.Proofs.Tryz.f221, reduceIte, reduceCtorEq, Nat.reduceEqDiff, Nat.reduceAdd, Nat.reduceLeDiff, Nat.reduceSub, Nat.reduceMul, Nat.reduceLT, Nat.reduceShiftRight, Nat.reduceMod, Int.reduceLE, Int.reduceLT, Int.reduceToNat, List.cons.injEq, cdB]
  have hm : monS [n] = 0 ↔ n ≤ MM := mon1_0
  refine ⟨fun h => ?_, fun h => ?_⟩
  · rw [decide_eq_decide, hm]; exact ⟨fun h2 => ⟨by omega, h2⟩, fun h2 => h2.2⟩
  · exact (decide_eq_false fun h2 => h2.1 (by omega)).symm
def sp_ibill : List D → Option (Prop × D × Fr)
  | [.c (.int .u64 z106)] => some (z106 = (z106.toNat : Int), ibill_r z106.toNat, [])
  | _ => none
attribute [go_sem] sp_ibill
theorem sp_ibill_ok : ∀ rs p r fr, sp_ibill rs = some (p, r, fr) → p → FnOk Tryz.prog 221 rs r fr := by
  intro rs p r fr h hp
  unfold sp_ibill at h
  split at h <;> cases h
  have hc0 := hp
  rename_i z106
  obtain ⟨z106, rfl⟩ : ∃ m : Nat, z106 = m := ⟨_, hc0⟩
  simp only [Int.toNat_natCast]
  exact ibill_ok z106
@[go_sem] def icheck_r (l : List Iv) : D := .int .i64 (chkI l)
@[go_sem] abbrev n_icheck : FuncId := 160
@[go_sem] def icheck_T : Tab := [(221, sp_ibill), (220, sp_iorder)]
theorem icheck_T_ok : TabOk Tryz.prog icheck_T := (TabOk.cons sp_ibill_ok (TabOk.cons sp_iorder_ok TabOk.nil))
set_option maxRecDepth 8000 in
set_option maxHeartbeats 1000000 in
theorem icheck_ok (l : List Iv)  : PureFn Tryz.prog 160 [.sl (ivs l)] (icheck_r l) := by
  refine .of (ac160 icheck_T_ok (Nat.le_of_ble_eq_true rfl) ?_)
  simp -implicitDefEqProofs only [cdA, go_sem, Go.Proofs.Tryz.f160, reduceIte, reduceCtorEq, Nat.reduceEqDiff, Nat.reduceAdd, Nat.reduceLeDiff, Nat.reduceSub, Nat.reduceMul, Nat.reduceLT, Nat.reduceShiftRight, Nat.reduceMod, Int.reduceLE, Int.reduceLT, Int.reduceToNat, List.cons.injEq, cdB]
  have hbad : ¬ okIv l → 1 = chkI l := fun h => by rw [chkI, if_neg h]
  refine fun _ => ⟨fun h => hbad fun ho => ?_, fun h _ => ?_⟩
  · have := ho.1; omega
  refine SWp.loop (ι := { i : Nat // i ≤ l.length ∧ (∀ j, j < i → okIv1 (l.getD j default) ∧ (0 < j → (l.getD (j - 1) default).hash < (l.getD j default).hash)) }) (fun i => ⟨[(0, .sl (ivs l)), (8, .sl (ivs l)), (9, .int .i64 l.length), (10, .int .i64 i.1)], [], 0⟩) (fun i => l.length - i.1) ⟨0, by simp⟩ ?_ ?_
  · simp [go_sem]
  · rintro ⟨i, hi, hall⟩
    refine awp_sound icheck_T_ok.toS lv160 _ _ _ rfl ?_
    simp -implicitDefEqProofs only [cdA, go_sem, reduceIte, reduceCtorEq, Nat.reduceEqDiff, Nat.reduceAdd, Nat.reduceLeDiff, Nat.reduceSub, Nat.reduceMul, Nat.reduceLT, Nat.reduceShiftRight, Nat.reduceMod, Int.reduceLE, Int.reduceLT, Int.reduceToNat, List.cons.injEq, cdB]
    refine ⟨fun h1 => ⟨by omega, ?_⟩, fun h1 => ?_⟩
    · refine ADraw.run us160_6 icheck_T_ok follows_mixed (by kernel_rfl) (by kernel_rfl) ?_
      simp -implicitDefEqProofs only [cdA, go_sem, reduceIte, reduceCtorEq, Nat.reduceEqDiff, Nat.reduceAdd, Nat.reduceLeDiff, Nat.reduceSub, Nat.reduceMul, Nat.reduceLT, Nat.reduceShiftRight, Nat.reduceMod, Int.reduceLE, Int.reduceLT, Int.reduceToNat, List.cons.injEq, cdB]
      have hi' : i < l.length := by omega
      have hnext : (0 < i → (l.getD (i - 1) default).hash < (l.getD i default).hash) →
          (¬(l.getD i default).n = 0 ∧ (l.getD i default).n ≤ MM → (¬(l.getD i default).state < 1 → (3 < (l.getD i default).state → 1 = chkI l) ∧ (¬3 < (l.getD i default).state →
              ∃ i_1 : { i : Nat // i ≤ l.length ∧ (∀ j, j < i → okIv1 (l.getD j default) ∧ (0 < j → (l.getD (j - 1) default).hash < (l.getD j default).hash)) }, l.length - i_1.val < l.length - i ∧ IntKind.i64.wrap ((i : Int) + 1) = i_1.val)) ∧ ((l.getD i default).state < 1 → 1 = chkI l)) ∧
          (¬(¬(l.getD i default).n = 0 ∧ (l.getD i default).n ≤ MM) → 1 = chkI l) := fun ho => by
        have hm : okIv l → okIv1 (l.getD i default) := fun h => h.2.1 _ (mem_getD.2 ⟨i, hi', rfl⟩)
        refine ⟨fun h2 => ⟨fun h3 => ⟨fun h4 => hbad fun h => ?_, fun h4 => ⟨⟨i + 1, hi', fun j hj => ?_⟩, by dsimp only; omega, i64_in _ (by omega)⟩⟩, fun h3 => hbad fun h => ?_⟩, fun h2 => hbad fun h => h2 (hm h).1⟩
        · have := (hm h).2.2; omega
        · by_cases hji : j = i
          · subst hji; exact ⟨⟨h2, by omega, by omega⟩, ho⟩
          · exact hall j (by omega)
        · have := (hm h).2.1; omega
      refine ⟨fun h2 => ?_, fun h2 => hnext fun h => absurd h (by omega)⟩
      rw [i64_in _ (by omega), show ((i : Int) - 1).toNat = i - 1 by omega]
      have hc : ∀ a b : Nat, 0 ≤ cmpS a b ↔ ¬ a < b := fun a b => by
        have := cmpS_neg (x := a) (y := b); omega
      rw [hc]
      exact ⟨by omega, fun h3 => hnext fun _ => by omega, fun h3 => hbad fun h => h3 (h.2.2 i hi' (by omega))⟩
    · have hi' : i = l.length := by omega
      subst hi'
      rw [chkI, if_pos]
      exact ⟨by omega, fun x hx => by obtain ⟨j, hj, rfl⟩ := mem_getD.1 hx; exact (hall j hj).1, fun j hj h0 => (hall j hj).2 h0⟩
def sp_icheck : List D → Option (Prop × D × Fr)
  | [.c (.sl z107)] => some (z107 = ivs (divs z107), icheck_r (divs z107), [])
  | _ => none
attribute [go_sem] sp_icheck
theorem sp_icheck_ok : ∀ rs p r fr, sp_icheck rs = some (p, r, fr) → p → FnOk Tryz.prog 160 rs r fr := by
  intro rs p r fr h hp
  unfold sp_icheck at h
  split at h <;> cases h
  have hc0 := hp
  rename_i z107
  obtain ⟨z107, rfl⟩ : ∃ m, z107 = ivs m := ⟨_, hc0⟩
  simp only [divs_ivs]
  exact icheck_ok z107
end Dm
namespace Dm
open Go Go.Proofs Go.IntWalk
structure Ev where
  seq : Nat
  kind : Int
  a : Nat
  n : Nat
deriving DecidableEq, Inhabited
@[go_sem] def Ev.enc (e : Ev) : List C := [.int .u64 (e.seq : Int), .int .i64 e.kind, .int .u64 (e.a : Int), .int .u64 (e.n : Int)]
def Ev.dec : List C → Ev
  | [.int .u64 z136, .int .i64 z137, .int .u64 z138, .int .u64 z139] => (⟨z136.toNat, z137, z138.toNat, z139.toNat⟩ : Ev)
  | _ => default
def evs (l : List Ev) : List (List C) := l.map Ev.enc
def devs (l : List (List C)) : List Ev := l.map Ev.dec
@[simp, go_sem] theorem evs_length (l : List Ev) : (evs l).length = l.length := by simp [evs]
@[go_sem] theorem evs_get (l : List Ev) (i : Nat) : (evs l).getD i [.int .u64 0, .int .i64 0, .int .u64 0, .int .u64 0] = (l.getD i default).enc := by
  simp only [evs, List.getD_eq_getElem?_getD, List.getElem?_map]
  cases l[i]? <;> rfl
@[go_sem] theorem evs_wide (l : List Ev) : Wide 4 (evs l) = True := by
  simp [Wide, evs, Ev.enc]
theorem Ev.dec_enc (e : Ev) : Ev.dec e.enc = e := by
  simp [Ev.enc, Ev.dec]
@[go_sem] theorem devs_evs (l : List Ev) : devs (evs l) = l := by
  simp only [devs, evs, List.map_map]
  exact List.map_id'' (fun e => Ev.dec_enc e) l
@[go_sem] theorem evs_app (a b : List Ev) : evs a ++ evs b = evs (a ++ b) := by simp [evs]
@[go_sem] theorem evs_drop (l : List Ev) (k : Nat) : (evs l).drop k = evs (l.drop k) := by simp [evs]
@[go_sem] theorem evs_take (l : List Ev) (k : Nat) : (evs l).take k = evs (l.take k) := by simp [evs]
@[go_sem] theorem evs_one (z140 : Int) (z141 : Int) (z142 : Int) (z143 : Int) (hz140 : 0 ≤ z140) (hz142 : 0 ≤ z142) (hz143 : 0 ≤ z143) : [[C.int .u64 z140, C.int .i64 z141, C.int .u64 z142, C.int .u64 z143]] = evs [⟨z140.toNat, z141, z142.toNat, z143.toNat⟩] := by simp [evs, Ev.enc, Int.toNat_of_nonneg hz140, Int.toNat_of_nonneg hz142, Int.toNat_of_nonneg hz143]
@[go_sem] theorem evs_set (l : List Ev) (i : Nat) (z140 : Int) (z141 : Int) (z142 : Int) (z143 : Int) (hz140 : 0 ≤ z140) (hz142 : 0 ≤ z142) (hz143 : 0 ≤ z143) : (evs l).set i [C.int .u64 z140, C.int .i64 z141, C.int .u64 z142, C.int .u64 z143] = evs (l.set i ⟨z140.toNat, z141, z142.toNat, z143.toNat⟩) := by simp [evs, List.map_set, Ev.enc, Int.toNat_of_nonneg hz140, Int.toNat_of_nonneg hz142, Int.toNat_of_nonneg hz143]
@[go_sem] theorem evs_cons (l : List Ev) (z140 : Int) (z141 : Int) (z142 : Int) (z143 : Int) (hz140 : 0 ≤ z140) (hz142 : 0 ≤ z142) (hz143 : 0 ≤ z143) : [C.int .u64 z140, C.int .i64 z141, C.int .u64 z142, C.int .u64 z143] :: evs l = evs (⟨z140.toNat, z141, z142.toNat, z143.toNat⟩ :: l) := by simp [evs, Ev.enc, Int.toNat_of_nonneg hz140, Int.toNat_of_nonneg hz142, Int.toNat_of_nonneg hz143]
@[go_sem] theorem evs_flat (l : List Ev) : flatE (evs l) = True := eq_true fun x hx c hc => by
  obtain ⟨e, _, rfl⟩ := List.mem_map.1 hx
  simp only [Ev.enc, List.mem_cons, List.not_mem_nil, or_false] at hc
  rcases hc with rfl | rfl | rfl | rfl <;> rfl
@[go_sem] theorem Ev.eta {e : Ev} : (⟨e.seq, e.kind, e.a, e.n⟩ : Ev) = e := rfl
@[go_sem] theorem Ev.eqD {a b : Ev} : eqD Tryz.prog 195 [D.c (.int .u64 (a.seq : Int)), D.c (.int .i64 a.kind), D.c (.int .u64 (a.a : Int)), D.c (.int .u64 (a.n : Int))] [D.c (.int .u64 (b.seq : Int)), D.c (.int .i64 b.kind), D.c (.int .u64 (b.a : Int)), D.c (.int .u64 (b.n : Int))] = some (decide (a = b)) := by
  cases a; cases b
  simp only [Dm.eqD, eqOf_195, eqCells, eqC, List.getElem?_cons_zero, List.getElem?_cons_succ, if_true, Option.some.injEq, Ev.mk.injEq]
  rw [Bool.eq_iff_iff]
  simp [Int.ofNat_inj]
structure Fd where
  next : Nat
  l : List Ev
deriving DecidableEq, Inhabited
@[go_sem] def Fd.enc (e : Fd) : List C := [.int .u64 (e.next : Int), .sl (evs e.l)]
def Fd.dec : List C → Fd
  | [.int .u64 z145, .sl z146] => (⟨z145.toNat, (devs z146)⟩ : Fd)
  | _ => default
def fds (l : List Fd) : List (List C) := l.map Fd.enc
def dfds (l : List (List C)) : List Fd := l.map Fd.dec
@[simp, go_sem] theorem fds_length (l : List Fd) : (fds l).length = l.length := by simp [fds]
@[go_sem] theorem fds_get (l : List Fd) (i : Nat) : (fds l).getD i [.int .u64 0, .sl []] = (l.getD i default).enc := by
  simp only [fds, List.getD_eq_getElem?_getD, List.getElem?_map]
  cases l[i]? <;> rfl
@[go_sem] theorem fds_wide (l : List Fd) : Wide 2 (fds l) = True := by
  simp [Wide, fds, Fd.enc]
theorem Fd.dec_enc (e : Fd) : Fd.dec e.enc = e := by
  simp [Fd.enc, Fd.dec, devs_evs]
@[go_sem] theorem dfds_fds (l : List Fd) : dfds (fds l) = l := by
  simp only [dfds, fds, List.map_map]
  exact List.map_id'' (fun e => Fd.dec_enc e) l
@[go_sem] theorem fds_app (a b : List Fd) : fds a ++ fds b = fds (a ++ b) := by simp [fds]
@[go_sem] theorem fds_drop (l : List Fd) (k : Nat) : (fds l).drop k = fds (l.drop k) := by simp [fds]
@[go_sem] theorem fds_take (l : List Fd) (k : Nat) : (fds l).take k = fds (l.take k) := by simp [fds]
@[go_sem] theorem fds_one (z147 : Int) (z148 : List Ev) (hz147 : 0 ≤ z147) : [[C.int .u64 z147, C.sl (evs z148)]] = fds [⟨z147.toNat, z148⟩] := by simp [fds, Fd.enc, Int.toNat_of_nonneg hz147]
@[go_sem] theorem fds_set (l : List Fd) (i : Nat) (z147 : Int) (z148 : List Ev) (hz147 : 0 ≤ z147) : (fds l).set i [C.int .u64 z147, C.sl (evs z148)] = fds (l.set i ⟨z147.toNat, z148⟩) := by simp [fds, List.map_set, Fd.enc, Int.toNat_of_nonneg hz147]
@[go_sem] theorem fds_cons (l : List Fd) (z147 : Int) (z148 : List Ev) (hz147 : 0 ≤ z147) : [C.int .u64 z147, C.sl (evs z148)] :: fds l = fds (⟨z147.toNat, z148⟩ :: l) := by simp [fds, Fd.enc, Int.toNat_of_nonneg hz147]
@[go_sem] theorem Fd.eta {e : Fd} : (⟨e.next, e.l⟩ : Fd) = e := rfl
def kindS (k : Int) : Bool := decide (0 ≤ k ∧ k < 16)
@[go_sem] def fkind_r (k : Int) : D := .bool (kindS k)
@[go_sem] abbrev n_fkind : FuncId := 223
@[go_sem] def fkind_T : Tab := []
theorem fkind_T_ok : TabOk Tryz.prog fkind_T := TabOk.nil
set_option maxRecDepth 8000 in
set_option maxHeartbeats 1000000 in
theorem fkind_ok (k : Int)  : PureFn Tryz.prog 223 [.c (.int .i64 k)] (fkind_r k) := by
  refine .of (ac223 fkind_T_ok (Nat.le_of_ble_eq_true rfl) ?_)
  simp -implicitDefEqProofs only [cdA, go_sem, Go.Proofs.Tryz.f223, reduceIte, reduceCtorEq, Nat.reduceEqDiff, Nat.reduceAdd, Nat.reduceLeDiff, Nat.reduceSub, Nat.reduceMul, Nat.reduceLT, Nat.reduceShiftRight, Nat.reduceMod, Int.reduceLE, Int.reduceLT, Int.reduceToNat, List.cons.injEq, cdB]
  have e : kindS k = decide (0 ≤ k ∧ k < 16) := rfl
  rw [e]
  exact ⟨fun h => by rw [decide_eq_decide]; exact ⟨fun h2 => ⟨h, h2⟩, fun h2 => h2.2⟩, fun h => (decide_eq_false fun h2 => h h2.1).symm⟩
def sp_fkind : List D → Option (Prop × D × Fr)
  | [.c (.int .i64 z149)] => some (True, fkind_r z149, [])
  | _ => none
attribute [go_sem] sp_fkind
theorem sp_fkind_ok : ∀ rs p r fr, sp_fkind rs = some (p, r, fr) → p → FnOk Tryz.prog 223 rs r fr := by
  intro rs p r fr h hp
  unfold sp_fkind at h
  split at h <;> cases h
  rename_i z149
  exact fkind_ok z149
@[go_sem] def fnew_r  : D := .agg [.int .u64 1, .sl (evs [])]
@[go_sem] abbrev n_fnew : FuncId := 102
@[go_sem] def fnew_T : Tab := []
theorem fnew_T_ok : TabOk Tryz.prog fnew_T := TabOk.nil
set_option maxRecDepth 8000 in
set_option maxHeartbeats 1000000 in
theorem fnew_ok   : PureFn Tryz.prog 102 [] (fnew_r ) := by
  refine .of (ac102 fnew_T_ok (Nat.le_of_ble_eq_true rfl) ?_)
  simp -implicitDefEqProofs only [cdA, go_sem, Go.Proofs.Tryz.f102, reduceIte, reduceCtorEq, Nat.reduceEqDiff, Nat.reduceAdd, Nat.reduceLeDiff, Nat.reduceSub, Nat.reduceMul, Nat.reduceLT, Nat.reduceShiftRight, Nat.reduceMod, Int.reduceLE, Int.reduceLT, Int.reduceToNat, List.cons.injEq, cdB]
  rfl
def sp_fnew : List D → Option (Prop × D × Fr)
  | [] => some (True, fnew_r , [])
  | _ => none
attribute [go_sem] sp_fnew
theorem sp_fnew_ok : ∀ rs p r fr, sp_fnew rs = some (p, r, fr) → p → FnOk Tryz.prog 102 rs r fr := by
  intro rs p r fr h hp
  unfold sp_fnew at h
  split at h <;> cases h
  exact fnew_ok 
theorem rev_take {n k : Nat} (h : k < n) : (List.finRange n).reverse.take k ++ [⟨n - 1 - k, by omega⟩] = (List.finRange n).reverse.take (k + 1) := by
  have hl : k < (List.finRange n).reverse.length := by simpa using h
  rw [List.take_add_one, List.getElem?_eq_getElem hl]
  simp
set_option maxRecDepth 4000 in
theorem back_iter (l : List Ev) (hl : l.length ≤ 1000000) : IterOk Tryz.prog 250 [.rp [.sl (evs l)]] (m := l.length) (fun x => [.int .i64 x.1, .agg ((l.getD x.1 default).enc.map .c)]) (List.finRange l.length).reverse := by
  refine IterOk.of (n := 19) (fn := Tryz.f250) (by kernel_rfl) rfl rfl rfl (Nat.le_of_ble_eq_true rfl) rfl ?_
  intro y I J Jx hY
  refine SY.seq (SY.region .nil hY rfl ?_)
  simp -implicitDefEqProofs only [cdA, go_sem, aopsY, yargs, St.nums, numsL, List.contains_cons, List.contains_nil, Nat.reduceBEq, Bool.or_self, reduceIte, reduceCtorEq, Nat.reduceEqDiff, Nat.reduceAdd, Nat.reduceLeDiff, Nat.reduceSub, Nat.reduceMul, Nat.reduceLT, Nat.reduceShiftRight, Nat.reduceMod, Int.reduceLE, Int.reduceLT, Int.reduceToNat, List.cons.injEq, cdB]
  refine fun _ => SY.block (SY.loop l.length (fun k => ⟨[(0, .fn (.yield y) [] []), (1, .rp [.sl (evs l)]), (3, .int .i64 ((l.length : Int) - 1 - k))], [], 0⟩) (fun k => ((List.finRange l.length).reverse.take k, true)) 0 ?_ (Nat.zero_le _) ?_)
  · intro a w h
    rw [i64_in _ (by omega)] at h
    have h := h.sub (s' := ⟨[(0, .fn (.yield y) [] []), (1, .rp [.sl (evs l)]), (3, .int .i64 ((l.length : Int) - 1 - (0 : Nat)))], [], 0⟩) ⟨rfl, rfl, by simp [go_sem]⟩
    simpa using h
  · intro k hk
    refine SY.seq (SY.seq (SY.region .nil hY rfl ?_))
    simp -implicitDefEqProofs only [cdA, go_sem, aopsY, yargs, St.nums, numsL, List.contains_cons, List.contains_nil, Nat.reduceBEq, Bool.or_self, reduceIte, reduceCtorEq, Nat.reduceEqDiff, Nat.reduceAdd, Nat.reduceLeDiff, Nat.reduceSub, Nat.reduceMul, Nat.reduceLT, Nat.reduceShiftRight, Nat.reduceMod, Int.reduceLE, Int.reduceLT, Int.reduceToNat, List.cons.injEq, cdB]
    refine SY.cond rfl (fun hc => SY.skip ?_) (fun hc => SY.exit ?_)
    · have hk' : k < l.length := by simp at hc; omega
      refine SY.seq (SY.block (SY.seq (SY.region .nil hY rfl ?_)))
      simp -implicitDefEqProofs only [cdA, go_sem, aopsY, yargs, St.nums, numsL, List.contains_cons, List.contains_nil, Nat.reduceBEq, Bool.or_self, reduceIte, reduceCtorEq, Nat.reduceEqDiff, Nat.reduceAdd, Nat.reduceLeDiff, Nat.reduceSub, Nat.reduceMul, Nat.reduceLT, Nat.reduceShiftRight, Nat.reduceMod, Int.reduceLE, Int.reduceLT, Int.reduceToNat, List.cons.injEq, cdB]
      refine ⟨by omega, by simp; omega, ⟨l.length - 1 - k, by omega⟩, ?_, ?_, ?_⟩
      · have e1 : ((l.length : Int) - 1 - k).toNat = l.length - 1 - k := by omega
        have e2 : ((l.length : Int) - 1 - k) = ((l.length - 1 - k : Nat) : Int) := by omega
        rw [e1, e2]; exact ⟨rfl, rfl⟩
      · refine SY.cond (b := false) rfl (fun h => by cases h) (fun _ => SY.skip (SY.region .nil hY rfl ?_))
        simp -implicitDefEqProofs only [cdA, go_sem, aopsY, yargs, reduceIte, reduceCtorEq, Nat.reduceEqDiff, Nat.reduceAdd, Nat.reduceLeDiff, Nat.reduceSub, Nat.reduceMul, Nat.reduceLT, Nat.reduceShiftRight, Nat.reduceMod, Int.reduceLE, Int.reduceLT, Int.reduceToNat, List.cons.injEq, cdB]
        rw [i64_in _ (by omega)]
        exact ⟨hk', by rw [rev_take hk'], by omega⟩
      · refine SY.cond (b := true) rfl (fun _ => SY.ret ?_) (fun h => by cases h)
        refine ⟨.inr rfl, .inr ⟨rfl, ?_⟩⟩
        rw [rev_take hk']
        exact List.take_prefix _ _
    · have hk' : k = l.length := by simp at hc; omega
      have : List.take l.length (List.finRange l.length).reverse = (List.finRange l.length).reverse := List.take_of_length_le (by simp)
      simp [hk', this]
@[go_sem] def fback_r (l : List Ev) : D := .fn (.func 250) [] [.rp [.sl (evs l)]]
@[go_sem] abbrev n_fback : FuncId := 222
@[go_sem] def fback_T : Tab := []
theorem fback_T_ok : TabOk Tryz.prog fback_T := TabOk.nil
set_option maxRecDepth 8000 in
set_option maxHeartbeats 1000000 in
theorem fback_ok (l : List Ev)  : PureFn Tryz.prog 222 [.sl (evs l)] (fback_r l) := by
  refine .of (ac222 fback_T_ok (Nat.le_of_ble_eq_true rfl) ?_)
  simp -implicitDefEqProofs only [cdA, go_sem, Go.Proofs.Tryz.f222, reduceIte, reduceCtorEq, Nat.reduceEqDiff, Nat.reduceAdd, Nat.reduceLeDiff, Nat.reduceSub, Nat.reduceMul, Nat.reduceLT, Nat.reduceShiftRight, Nat.reduceMod, Int.reduceLE, Int.reduceLT, Int.reduceToNat, List.cons.injEq, cdB]
  exact ⟨_, rfl, rfl⟩
def sp_fback : List D → Option (Prop × D × Fr)
  | [.c (.sl z150)] => some (z150 = evs (devs z150), fback_r (devs z150), [])
  | _ => none
attribute [go_sem] sp_fback
theorem sp_fback_ok : ∀ rs p r fr, sp_fback rs = some (p, r, fr) → p → FnOk Tryz.prog 222 rs r fr := by
  intro rs p r fr h hp
  unfold sp_fback at h
  split at h <;> cases h
  have hc0 := hp
  rename_i z150
  obtain ⟨z150, rfl⟩ : ∃ m, z150 = evs m := ⟨_, hc0⟩
  simp only [devs_evs]
  exact fback_ok z150
def okEv (n : Int) : List Ev → Bool
  | [] => true
  | e :: r => decide ((e.seq : Int) = n - (r.length + 1)) && kindS e.kind && okEv n r
def okFd (f : Fd) : Prop := 1 ≤ f.next ∧ f.next ≤ MM ∧ f.l.length = min (f.next - 1) 64 ∧ okEv f.next f.l = true
instance (f : Fd) : Decidable (okFd f) := by unfold okFd; infer_instance
def chkF (f : Fd) : Int := if okFd f then 0 else 1
theorem okEv_get (n : Int) : ∀ (l : List Ev), okEv n l = true ↔ ∀ i : Nat, i < l.length → ((l.getD i default).seq : Int) = n - (l.length - i : Int) ∧ kindS (l.getD i default).kind = true
  | [] => by simp [okEv]
  | e :: r => by
    rw [okEv, Bool.and_eq_true, Bool.and_eq_true, okEv_get n r, decide_eq_true_eq]
    constructor
    · rintro ⟨⟨h1, h2⟩, h3⟩ i hi
      cases i with
      | zero => simp [h1, h2]
      | succ i =>
        have := h3 i (by simpa using hi)
        simp only [List.getD_cons_succ, List.length_cons]
        refine ⟨?_, this.2⟩
        rw [this.1]
        omega
    · intro h
      refine ⟨?_, fun i hi => ?_⟩
      · have := h 0 (by simp)
        simp at this
        exact ⟨by rw [this.1], this.2⟩
      · have := h (i + 1) (by simpa using hi)
        simp only [List.getD_cons_succ, List.length_cons] at this
        refine ⟨?_, this.2⟩
        rw [this.1]
        omega
theorem check_bad {f : Fd} {pre : List (Fin f.l.length)} {x : Fin f.l.length} (h : pre ++ [x] <+: (List.finRange f.l.length).reverse)
    (hb : ¬ (((f.l.getD x.1 default).seq : Int) = f.next - (pre.length + 1 : Int) ∧ kindS (f.l.getD x.1 default).kind = true)) : chkF f = 1 := by
  unfold chkF
  rw [if_neg]
  rintro ⟨_, _, _, h4⟩
  obtain ⟨t, ht⟩ := h
  have h5 : (List.finRange f.l.length).reverse[pre.length]? = some x := by rw [← ht]; simp
  have h6 := (okEv_get f.next f.l).1 h4 x.1 x.2
  have hlt : pre.length < f.l.length := by
    have := (List.getElem?_eq_some_iff.1 h5).1
    simpa using this
  have h7 : x.1 = f.l.length - 1 - pre.length := by
    rw [List.getElem?_eq_getElem (by simpa using hlt)] at h5
    simp at h5
    rw [← h5]
  refine hb ⟨?_, h6.2⟩
  rw [h6.1, h7]
  omega
attribute [go_sem] setps asg rfp
@[go_sem] def fcheck_r (f : Fd) : D := .int .i64 (chkF f)
@[go_sem] abbrev n_fcheck : FuncId := 161
@[go_sem] def fcheck_T : Tab := [(223, sp_fkind), (222, sp_fback)]
theorem fcheck_T_ok : TabOk Tryz.prog fcheck_T := (TabOk.cons sp_fkind_ok (TabOk.cons sp_fback_ok TabOk.nil))
set_option maxRecDepth 8000 in
set_option maxHeartbeats 1000000 in
theorem fcheck_ok (f : Fd) (h : f.next ≤ 18446744073709551615) : PureFn Tryz.prog 161 [.agg [.c (.int .u64 (f.next : Int)), .sl (evs f.l)]] (fcheck_r f) := by
  refine .of (acall_introM (n := 44) (fn := Tryz.f161) (by kernel_rfl) rfl rfl rfl (Nat.le_of_ble_eq_true rfl) (rs := [.cell 2 50]) rfl ?_)
  refine SWm.seq (SWm.awp fcheck_T_ok.toS lv161 rfl ?_)
  simp -implicitDefEqProofs only [cdA, go_sem, reduceIte, reduceCtorEq, Nat.reduceEqDiff, Nat.reduceAdd, Nat.reduceLeDiff, Nat.reduceSub, Nat.reduceMul, Nat.reduceLT, Nat.reduceShiftRight, Nat.reduceMod, Int.reduceLE, Int.reduceLT, Int.reduceToNat, List.cons.injEq, cdB]
  refine SWm.seq (SWm.awp fcheck_T_ok.toS lv161 rfl ?_)
  simp -implicitDefEqProofs only [cdA, go_sem, reduceIte, reduceCtorEq, Nat.reduceEqDiff, Nat.reduceAdd, Nat.reduceLeDiff, Nat.reduceSub, Nat.reduceMul, Nat.reduceLT, Nat.reduceShiftRight, Nat.reduceMod, Int.reduceLE, Int.reduceLT, Int.reduceToNat, List.cons.injEq, cdB]
  have hbad : ¬ okFd f → 1 = chkF f := fun h => by rw [chkF, if_neg h]
  refine ⟨fun h1 => ⟨fun h2 h3 => ⟨fun h4 => ?_, fun h4 => hbad fun ho => h4 ?_⟩, fun h2 => hbad fun ho => ?_⟩, fun h1 => hbad fun ho => ?_⟩
  rotate_left 1
  · have := ho.2.2.1
    rw [u64_in f.l.length (by omega), u64_in ((f.next : Int) - 1) (by omega)]; omega
  · have := ho.2.1; unfold MM at this; omega
  · have := ho.1; omega
  · refine SWm.seq (SWm.awp fcheck_T_ok.toS lv161 rfl ?_)
    simp -implicitDefEqProofs only [cdA, go_sem, reduceIte, reduceCtorEq, Nat.reduceEqDiff, Nat.reduceAdd, Nat.reduceLeDiff, Nat.reduceSub, Nat.reduceMul, Nat.reduceLT, Nat.reduceShiftRight, Nat.reduceMod, Int.reduceLE, Int.reduceLT, Int.reduceToNat, List.cons.injEq, cdB]
    refine SWm.seq (SWm.seq (SWm.awp fcheck_T_ok.toS lv161 rfl ?_))
    simp -implicitDefEqProofs only [cdA, go_sem, reduceIte, reduceCtorEq, Nat.reduceEqDiff, Nat.reduceAdd, Nat.reduceLeDiff, Nat.reduceSub, Nat.reduceMul, Nat.reduceLT, Nat.reduceShiftRight, Nat.reduceMod, Int.reduceLE, Int.reduceLT, Int.reduceToNat, List.cons.injEq, cdB]
    have hle : (f.l.length : Int) ≤ 64 ∧ (f.l.length : Int) ≤ f.next - 1 := by
      rw [u64_in f.l.length (by omega), u64_in ((f.next : Int) - 1) (by omega)] at h4
      omega
    have hlen : f.l.length ≤ 1000000 := by omega
    refine SWm.block (SWm.rangeFunc fcheck_T_ok.toS lv161 (caps := [.rp [.sl (evs f.l)]]) rfl (by simp [D.pure1]) (back_iter f.l hlen)
      (fun pre => [(2, .box [.int .u64 ((f.next : Int) - pre.length)]), (1, .box [.int .i64 0]), (0, .box [.int .u64 f.next, .sl (evs f.l)])])
      (fun pre => ∀ (j : Nat) (x : Fin f.l.length), pre[j]? = some x → ((f.l.getD x.1 default).seq : Int) = f.next - (j + 1) ∧ kindS (f.l.getD x.1 default).kind = true)
      (fun x => rfl) (by decide) (Nat.zero_le _) rfl rfl rfl rfl ?_ ?_ ?_)
    · simp [go_sem]
    · intro pre x hok hpre
      simp -implicitDefEqProofs only [cdA, go_sem, reduceIte, reduceCtorEq, Nat.reduceEqDiff, Nat.reduceAdd, Nat.reduceLeDiff, Nat.reduceSub, Nat.reduceMul, Nat.reduceLT, Nat.reduceShiftRight, Nat.reduceMod, Int.reduceLE, Int.reduceLT, Int.reduceToNat, List.cons.injEq, cdB]
      rw [u64_in ((f.next : Int) - _ - 1) (by omega)]
      refine ⟨fun h5 => ⟨fun h6 => ⟨fun j y hj => ?_, by omega⟩, fun h6 hp => ?_⟩, fun h5 hp => ?_⟩
      · rw [List.getElem?_append] at hj
        split at hj
        · exact hok j y hj
        · rename_i hge
          have : j = pre.length := by
            have := (List.getElem?_eq_some_iff.1 hj).1
            simp at this
            omega
          subst this
          simp at hj
          subst hj
          exact ⟨by omega, h6⟩
      · exact (check_bad hp fun h => by rw [h6] at h; cases h.2).symm
      · exact (check_bad hp fun h => h5 (by omega)).symm
    · intro hok
      refine SWm.awp fcheck_T_ok.toS lv161 rfl ?_
      simp -implicitDefEqProofs only [cdA, go_sem, reduceIte, reduceCtorEq, Nat.reduceEqDiff, Nat.reduceAdd, Nat.reduceLeDiff, Nat.reduceSub, Nat.reduceMul, Nat.reduceLT, Nat.reduceShiftRight, Nat.reduceMod, Int.reduceLE, Int.reduceLT, Int.reduceToNat, List.cons.injEq, cdB]
      rw [u64_in f.l.length (by omega), u64_in ((f.next : Int) - 1) (by omega)] at h4
      have hE : okEv f.next f.l = true := by
        rw [okEv_get]
        intro i hi
        have h5 : (List.finRange f.l.length).reverse[f.l.length - 1 - i]? = some ⟨i, hi⟩ := by
          rw [List.getElem?_eq_getElem (by simp; omega)]
          simp
          try omega
        obtain ⟨h6, h7⟩ := hok _ _ h5
        refine ⟨?_, h7⟩
        rw [h6]
        omega
      rw [chkF, if_pos (show okFd f from ⟨by omega, by unfold MM; omega, by omega, hE⟩)]
@[go_sem] def fcheck_p (f : Fd) : Prop := (f.next ≤ 18446744073709551615)
def sp_fcheck : List D → Option (Prop × D × Fr)
  | [.agg [.c (.int .u64 z152), .c (.sl z153)]] => some (z152 = (z152.toNat : Int) ∧ z153 = evs (devs z153) ∧ fcheck_p (⟨z152.toNat, (devs z153)⟩ : Fd), fcheck_r (⟨z152.toNat, (devs z153)⟩ : Fd), [])
  | _ => none
attribute [go_sem] sp_fcheck
theorem sp_fcheck_ok : ∀ rs p r fr, sp_fcheck rs = some (p, r, fr) → p → FnOk Tryz.prog 161 rs r fr := by
  intro rs p r fr h hp
  unfold sp_fcheck at h
  split at h <;> cases h
  obtain ⟨hc0, hc1, hp⟩ := hp
  rename_i z152 z153
  obtain ⟨z152, rfl⟩ : ∃ m : Nat, z152 = m := ⟨_, hc0⟩
  obtain ⟨z153, rfl⟩ : ∃ m, z153 = evs m := ⟨_, hc1⟩
  simp only [Int.toNat_natCast, devs_evs]
  simp only [Int.toNat_natCast, devs_evs, fcheck_p] at hp
  exact fcheck_ok ⟨z152, z153⟩ hp
theorem chkF_0 {f : Fd} : chkF f = 0 ↔ okFd f := by unfold chkF; split <;> rename_i h <;> simp only [h] <;> decide
end Dm
namespace Dm
open Go Go.Proofs Go.IntWalk
structure Wt where
  id : Nat
  w : Option Nat
deriving DecidableEq
instance : Inhabited Wt := ⟨⟨default, some 0⟩⟩
@[go_sem] def Wt.enc (e : Wt) : List C := [.int .u64 (e.id : Int), .flt .f64 e.w]
def Wt.dec : List C → Wt
  | [.int .u64 z2, .flt .f64 z3] => (⟨z2.toNat, z3⟩ : Wt)
  | _ => default
def wts (l : List Wt) : List (List C) := l.map Wt.enc
def dwts (l : List (List C)) : List Wt := l.map Wt.dec
@[simp, go_sem] theorem wts_length (l : List Wt) : (wts l).length = l.length := by simp [wts]
@[go_sem] theorem wts_get (l : List Wt) (i : Nat) : (wts l).getD i [.int .u64 0, .flt .f64 (some 0)] = (l.getD i default).enc := by
  simp only [wts, List.getD_eq_getElem?_getD, List.getElem?_map]
  cases l[i]? <;> rfl
@[go_sem] theorem wts_wide (l : List Wt) : Wide 2 (wts l) = True := by
  simp [Wide, wts, Wt.enc]
theorem Wt.dec_enc (e : Wt) : Wt.dec e.enc = e := by
  simp [Wt.enc, Wt.dec]
@[go_sem] theorem dwts_wts (l : List Wt) : dwts (wts l) = l := by
  simp only [dwts, wts, List.map_map]
  exact List.map_id'' (fun e => Wt.dec_enc e) l
@[go_sem] theorem wts_app (a b : List Wt) : wts a ++ wts b = wts (a ++ b) := by simp [wts]
@[go_sem] theorem wts_drop (l : List Wt) (k : Nat) : (wts l).drop k = wts (l.drop k) := by simp [wts]
@[go_sem] theorem wts_take (l : List Wt) (k : Nat) : (wts l).take k = wts (l.take k) := by simp [wts]
@[go_sem] theorem wts_one (z4 : Int) (z5 : Option Nat) (hz4 : 0 ≤ z4) : [[C.int .u64 z4, C.flt .f64 z5]] = wts [⟨z4.toNat, z5⟩] := by simp [wts, Wt.enc, Int.toNat_of_nonneg hz4]
@[go_sem] theorem wts_set (l : List Wt) (i : Nat) (z4 : Int) (z5 : Option Nat) (hz4 : 0 ≤ z4) : (wts l).set i [C.int .u64 z4, C.flt .f64 z5] = wts (l.set i ⟨z4.toNat, z5⟩) := by simp [wts, List.map_set, Wt.enc, Int.toNat_of_nonneg hz4]
@[go_sem] theorem wts_cons (l : List Wt) (z4 : Int) (z5 : Option Nat) (hz4 : 0 ≤ z4) : [C.int .u64 z4, C.flt .f64 z5] :: wts l = wts (⟨z4.toNat, z5⟩ :: l) := by simp [wts, Wt.enc, Int.toNat_of_nonneg hz4]
@[go_sem] theorem wts_flat (l : List Wt) : flatE (wts l) = True := eq_true fun x hx c hc => by
  obtain ⟨e, _, rfl⟩ := List.mem_map.1 hx
  simp only [Wt.enc, List.mem_cons, List.not_mem_nil, or_false] at hc
  rcases hc with rfl | rfl <;> rfl
@[go_sem] theorem Wt.eta {e : Wt} : (⟨e.id, e.w⟩ : Wt) = e := rfl
end Dm
namespace Dm
open Go Go.Proofs Go.IntWalk
structure Wl where
  c : List Ch
  w : List Wt
  i : List Iv
  p : List Py
  f : Fd
  next : Nat
  tick : Nat
deriving DecidableEq, Inhabited
@[go_sem] def Wl.enc (e : Wl) : List C := [.sl (chs e.c), .sl (wts e.w), .sl (ivs e.i), .sl (pys e.p), .int .u64 (e.f.next : Int), .sl (evs e.f.l), .int .u64 (e.next : Int), .int .u64 (e.tick : Int)]
def Wl.dec : List C → Wl
  | [.sl z7, .sl z8, .sl z9, .sl z10, .int .u64 z12, .sl z13, .int .u64 z14, .int .u64 z15] => (⟨(dchs z7), (dwts z8), (divs z9), (dpys z10), (⟨z12.toNat, (devs z13)⟩ : Fd), z14.toNat, z15.toNat⟩ : Wl)
  | _ => default
def wls (l : List Wl) : List (List C) := l.map Wl.enc
def dwls (l : List (List C)) : List Wl := l.map Wl.dec
@[simp, go_sem] theorem wls_length (l : List Wl) : (wls l).length = l.length := by simp [wls]
@[go_sem] theorem wls_get (l : List Wl) (i : Nat) : (wls l).getD i [.sl [], .sl [], .sl [], .sl [], .int .u64 0, .sl [], .int .u64 0, .int .u64 0] = (l.getD i default).enc := by
  simp only [wls, List.getD_eq_getElem?_getD, List.getElem?_map]
  cases l[i]? <;> rfl
@[go_sem] theorem wls_wide (l : List Wl) : Wide 8 (wls l) = True := by
  simp [Wide, wls, Wl.enc]
theorem Wl.dec_enc (e : Wl) : Wl.dec e.enc = e := by
  simp [Wl.enc, Wl.dec, dchs_chs, devs_evs, divs_ivs, dpys_pys, dwts_wts]
@[go_sem] theorem dwls_wls (l : List Wl) : dwls (wls l) = l := by
  simp only [dwls, wls, List.map_map]
  exact List.map_id'' (fun e => Wl.dec_enc e) l
@[go_sem] theorem wls_app (a b : List Wl) : wls a ++ wls b = wls (a ++ b) := by simp [wls]
@[go_sem] theorem wls_drop (l : List Wl) (k : Nat) : (wls l).drop k = wls (l.drop k) := by simp [wls]
@[go_sem] theorem wls_take (l : List Wl) (k : Nat) : (wls l).take k = wls (l.take k) := by simp [wls]
@[go_sem] theorem wls_one (z16 : List Ch) (z17 : List Wt) (z18 : List Iv) (z19 : List Py) (z20 : Int) (z21 : List Ev) (z22 : Int) (z23 : Int) (hz20 : 0 ≤ z20) (hz22 : 0 ≤ z22) (hz23 : 0 ≤ z23) : [[C.sl (chs z16), C.sl (wts z17), C.sl (ivs z18), C.sl (pys z19), C.int .u64 z20, C.sl (evs z21), C.int .u64 z22, C.int .u64 z23]] = wls [⟨z16, z17, z18, z19, ⟨z20.toNat, z21⟩, z22.toNat, z23.toNat⟩] := by simp [wls, Wl.enc, Int.toNat_of_nonneg hz20, Int.toNat_of_nonneg hz22, Int.toNat_of_nonneg hz23]
@[go_sem] theorem wls_set (l : List Wl) (i : Nat) (z16 : List Ch) (z17 : List Wt) (z18 : List Iv) (z19 : List Py) (z20 : Int) (z21 : List Ev) (z22 : Int) (z23 : Int) (hz20 : 0 ≤ z20) (hz22 : 0 ≤ z22) (hz23 : 0 ≤ z23) : (wls l).set i [C.sl (chs z16), C.sl (wts z17), C.sl (ivs z18), C.sl (pys z19), C.int .u64 z20, C.sl (evs z21), C.int .u64 z22, C.int .u64 z23] = wls (l.set i ⟨z16, z17, z18, z19, ⟨z20.toNat, z21⟩, z22.toNat, z23.toNat⟩) := by simp [wls, List.map_set, Wl.enc, Int.toNat_of_nonneg hz20, Int.toNat_of_nonneg hz22, Int.toNat_of_nonneg hz23]
@[go_sem] theorem wls_cons (l : List Wl) (z16 : List Ch) (z17 : List Wt) (z18 : List Iv) (z19 : List Py) (z20 : Int) (z21 : List Ev) (z22 : Int) (z23 : Int) (hz20 : 0 ≤ z20) (hz22 : 0 ≤ z22) (hz23 : 0 ≤ z23) : [C.sl (chs z16), C.sl (wts z17), C.sl (ivs z18), C.sl (pys z19), C.int .u64 z20, C.sl (evs z21), C.int .u64 z22, C.int .u64 z23] :: wls l = wls (⟨z16, z17, z18, z19, ⟨z20.toNat, z21⟩, z22.toNat, z23.toNat⟩ :: l) := by simp [wls, Wl.enc, Int.toNat_of_nonneg hz20, Int.toNat_of_nonneg hz22, Int.toNat_of_nonneg hz23]
@[go_sem] theorem Wl.eta {e : Wl} : (⟨e.c, e.w, e.i, e.p, e.f, e.next, e.tick⟩ : Wl) = e := rfl
def okW (w : Wl) : Prop := okLd w.c ∧ okIv w.i ∧ okFd w.f ∧ w.w.length ≤ 32 ∧ w.next ≠ 0 ∧ w.next ≤ MM ∧ (0 < w.p.length → (w.p.getD (w.p.length - 1) default).id < w.next) ∧ agrL w.p w.c = (true, 0)
instance (w : Wl) : Decidable (okW w) := by unfold okW; infer_instance
def chkW (w : Wl) : Int := if okW w then 0 else 1
theorem chkW_0 {w : Wl} : chkW w = 0 ↔ okW w := by unfold chkW; split <;> rename_i h <;> simp only [h] <;> decide
@[go_sem] def wnew_r  : D := .agg [.sl (chs []), .sl (wts []), .sl (ivs []), .sl (pys []), .int .u64 1, .sl (evs []), .int .u64 1, .int .u64 0]
@[go_sem] abbrev n_wnew : FuncId := 35
@[go_sem] def wnew_T : Tab := [(102, sp_fnew)]
theorem wnew_T_ok : TabOk Tryz.prog wnew_T := (TabOk.cons sp_fnew_ok TabOk.nil)
set_option maxRecDepth 8000 in
set_option maxHeartbeats 1000000 in
theorem wnew_ok   : PureFn Tryz.prog 35 [] (wnew_r ) := by
  refine .of (ac35 wnew_T_ok (Nat.le_of_ble_eq_true rfl) ?_)
  simp -implicitDefEqProofs only [cdA, go_sem, Go.Proofs.Tryz.f35, reduceIte, reduceCtorEq, Nat.reduceEqDiff, Nat.reduceAdd, Nat.reduceLeDiff, Nat.reduceSub, Nat.reduceMul, Nat.reduceLT, Nat.reduceShiftRight, Nat.reduceMod, Int.reduceLE, Int.reduceLT, Int.reduceToNat, List.cons.injEq, cdB]
  exact ⟨rfl, rfl, rfl, rfl⟩
def sp_wnew : List D → Option (Prop × D × Fr)
  | [] => some (True, wnew_r , [])
  | _ => none
attribute [go_sem] sp_wnew
theorem sp_wnew_ok : ∀ rs p r fr, sp_wnew rs = some (p, r, fr) → p → FnOk Tryz.prog 35 rs r fr := by
  intro rs p r fr h hp
  unfold sp_wnew at h
  split at h <;> cases h
  exact wnew_ok 
@[go_sem] def wcheck_r (w : Wl) : D := .int .i64 (chkW w)
@[go_sem] abbrev n_wcheck : FuncId := 82
@[go_sem] def wcheck_T : Tab := [(159, sp_lcheck), (160, sp_icheck), (161, sp_fcheck), (162, sp_pagree)]
theorem wcheck_T_ok : TabOk Tryz.prog wcheck_T := (TabOk.cons sp_lcheck_ok (TabOk.cons sp_icheck_ok (TabOk.cons sp_fcheck_ok (TabOk.cons sp_pagree_ok TabOk.nil))))
set_option maxRecDepth 8000 in
set_option maxHeartbeats 1000000 in
theorem wcheck_ok (w : Wl) (h : w.f.next ≤ 18446744073709551615) : PureFn Tryz.prog 82 [.agg [.sl (chs w.c), .sl (wts w.w), .sl (ivs w.i), .sl (pys w.p), .c (.int .u64 (w.f.next : Int)), .sl (evs w.f.l), .c (.int .u64 (w.next : Int)), .c (.int .u64 (w.tick : Int))]] (wcheck_r w) := by
  refine .of (ac82 wcheck_T_ok (Nat.le_of_ble_eq_true rfl) ?_)
  simp -implicitDefEqProofs only [cdA, go_sem, Go.Proofs.Tryz.f82, reduceIte, reduceCtorEq, Nat.reduceEqDiff, Nat.reduceAdd, Nat.reduceLeDiff, Nat.reduceSub, Nat.reduceMul, Nat.reduceLT, Nat.reduceShiftRight, Nat.reduceMod, Int.reduceLE, Int.reduceLT, Int.reduceToNat, List.cons.injEq, cdB]
  have hbad : ¬ okW w → 1 = chkW w := fun h => by rw [chkW, if_neg h]
  have hl0 : chkL w.c = 0 ↔ okLd w.c := by unfold chkL; split <;> rename_i h <;> simp only [h] <;> decide
  have hi0 : chkI w.i = 0 ↔ okIv w.i := by unfold chkI; split <;> rename_i h <;> simp only [h] <;> decide
  refine ⟨fun h1 => ⟨fun h2 => ⟨h, fun h3 _ => ⟨fun h4 => ⟨fun h5 => ⟨fun h6 => hbad fun ho => ?_, fun h6 _ => ?_⟩, fun h5 => hbad fun ho => ?_⟩, fun h4 => hbad fun ho => ?_⟩, fun h3 => hbad fun ho => h3 (chkF_0.2 ho.2.2.1)⟩, fun h2 => hbad fun ho => h2 (hi0.2 ho.2.1)⟩, fun h1 => hbad fun ho => h1 (hl0.2 ho.1)⟩
  rotate_left 1
  · refine ADraw.run us82_4 wcheck_T_ok follows_mixed (by kernel_rfl) (by kernel_rfl) ?_
    simp -implicitDefEqProofs only [cdA, go_sem, reduceIte, reduceCtorEq, Nat.reduceEqDiff, Nat.reduceAdd, Nat.reduceLeDiff, Nat.reduceSub, Nat.reduceMul, Nat.reduceLT, Nat.reduceShiftRight, Nat.reduceMod, Int.reduceLE, Int.reduceLT, Int.reduceToNat, List.cons.injEq, cdB]
    have hL := hl0.1 h1
    have hh : ∀ c ∈ w.c, c.holds.length ≤ 1000000 := fun c hc => by have := (hL.2.1 c hc).2.2.1; omega
    have hfin : (0 < w.p.length → (w.p.getD (w.p.length - 1) default).id < w.next) → ((agrL w.p w.c).2 = 0 → ((agrL w.p w.c).1 = true → 0 = chkW w) ∧ ((agrL w.p w.c).1 = false → 1 = chkW w)) ∧ (¬(agrL w.p w.c).2 = 0 → 1 = chkW w) := fun h7 =>
      ⟨fun h8 => ⟨fun h9 => by
        rw [chkW, if_pos (show okW w from ⟨hL, hi0.1 h2, chkF_0.1 h3, by omega, by omega, by unfold MM; omega, h7, Prod.ext h9 h8⟩)], fun h9 => hbad fun ho => by have := ho.2.2.2.2.2.2.2; rw [this] at h9; cases h9⟩,
        fun h8 => hbad fun ho => by have := ho.2.2.2.2.2.2.2; rw [this] at h8; exact h8 rfl⟩
    refine ⟨fun h7 => ?_, fun h7 => ⟨hh, hfin fun h => absurd h (by omega)⟩⟩
    rw [i64_in _ (by omega), show ((w.p.length : Int) - 1).toNat = w.p.length - 1 by omega]
    refine ⟨by omega, fun h8 => hbad fun ho => ?_, fun h8 => ⟨hh, hfin fun _ => by omega⟩⟩
    have := ho.2.2.2.2.2.2.1 (by omega); omega
  · have := ho.2.2.2.2.1; omega
  · have := ho.2.2.2.1; omega
  · have := ho.2.2.2.2.2.1; unfold MM at this; omega
@[go_sem] def wcheck_p (w : Wl) : Prop := (w.f.next ≤ 18446744073709551615)
def sp_wcheck : List D → Option (Prop × D × Fr)
  | [.agg [.c (.sl z25), .c (.sl z26), .c (.sl z27), .c (.sl z28), .c (.int .u64 z30), .c (.sl z31), .c (.int .u64 z32), .c (.int .u64 z33)]] => some (z25 = chs (dchs z25) ∧ z26 = wts (dwts z26) ∧ z27 = ivs (divs z27) ∧ z28 = pys (dpys z28) ∧ z30 = (z30.toNat : Int) ∧ z31 = evs (devs z31) ∧ z32 = (z32.toNat : Int) ∧ z33 = (z33.toNat : Int) ∧ wcheck_p (⟨(dchs z25), (dwts z26), (divs z27), (dpys z28), (⟨z30.toNat, (devs z31)⟩ : Fd), z32.toNat, z33.toNat⟩ : Wl), wcheck_r (⟨(dchs z25), (dwts z26), (divs z27), (dpys z28), (⟨z30.toNat, (devs z31)⟩ : Fd), z32.toNat, z33.toNat⟩ : Wl), [])
  | _ => none
attribute [go_sem] sp_wcheck
theorem sp_wcheck_ok : ∀ rs p r fr, sp_wcheck rs = some (p, r, fr) → p → FnOk Tryz.prog 82 rs r fr := by
  intro rs p r fr h hp
  unfold sp_wcheck at h
  split at h <;> cases h
  obtain ⟨hc0, hc1, hc2, hc3, hc4, hc5, hc6, hc7, hp⟩ := hp
  rename_i z25 z26 z27 z28 z30 z31 z32 z33
  obtain ⟨z25, rfl⟩ : ∃ m, z25 = chs m := ⟨_, hc0⟩
  obtain ⟨z26, rfl⟩ : ∃ m, z26 = wts m := ⟨_, hc1⟩
  obtain ⟨z27, rfl⟩ : ∃ m, z27 = ivs m := ⟨_, hc2⟩
  obtain ⟨z28, rfl⟩ : ∃ m, z28 = pys m := ⟨_, hc3⟩
  obtain ⟨z30, rfl⟩ : ∃ m : Nat, z30 = m := ⟨_, hc4⟩
  obtain ⟨z31, rfl⟩ : ∃ m, z31 = evs m := ⟨_, hc5⟩
  obtain ⟨z32, rfl⟩ : ∃ m : Nat, z32 = m := ⟨_, hc6⟩
  obtain ⟨z33, rfl⟩ : ∃ m : Nat, z33 = m := ⟨_, hc7⟩
  simp only [Int.toNat_natCast, dchs_chs, devs_evs, divs_ivs, dpys_pys, dwts_wts]
  simp only [Int.toNat_natCast, dchs_chs, devs_evs, divs_ivs, dpys_pys, dwts_wts, wcheck_p] at hp
  exact wcheck_ok ⟨z25, z26, z27, z28, ⟨z30, z31⟩, z32, z33⟩ hp
end Dm
namespace Dm
open Go Go.Proofs Go.IntWalk
@[go_sem] def hclone_r (l : List Hd) : D := .sl (hds l)
@[go_sem] abbrev n_hclone : FuncId := 132
@[go_sem] def hclone_T : Tab := []
theorem hclone_T_ok : TabOk Tryz.prog hclone_T := TabOk.nil
set_option maxRecDepth 8000 in
set_option maxHeartbeats 1000000 in
theorem hclone_ok (l : List Hd) (h : l.length ≤ 1000000) : PureFn Tryz.prog 132 [.sl (hds l)] (hclone_r l) := by
  refine .of (ac132 hclone_T_ok (Nat.le_of_ble_eq_true rfl) ?_)
  simp -implicitDefEqProofs only [cdA, go_sem, Go.Proofs.Tryz.f132, reduceIte, reduceCtorEq, Nat.reduceEqDiff, Nat.reduceAdd, Nat.reduceLeDiff, Nat.reduceSub, Nat.reduceMul, Nat.reduceLT, Nat.reduceShiftRight, Nat.reduceMod, Int.reduceLE, Int.reduceLT, Int.reduceToNat, List.cons.injEq, cdB]
  exact fun b hb => ⟨hb, fun _ => ⟨by omega, _, _, _, rfl⟩⟩
@[go_sem] def hclone_p (l : List Hd) : Prop := (l.length ≤ 1000000)
def sp_hclone : List D → Option (Prop × D × Fr)
  | [.c (.sl z183)] => some (z183 = hds (dhds z183) ∧ hclone_p (dhds z183), hclone_r (dhds z183), [])
  | _ => none
attribute [go_sem] sp_hclone
theorem sp_hclone_ok : ∀ rs p r fr, sp_hclone rs = some (p, r, fr) → p → FnOk Tryz.prog 132 rs r fr := by
  intro rs p r fr h hp
  unfold sp_hclone at h
  split at h <;> cases h
  obtain ⟨hc0, hp⟩ := hp
  rename_i z183
  obtain ⟨z183, rfl⟩ : ∃ m, z183 = hds m := ⟨_, hc0⟩
  simp only [dhds_hds]
  simp only [dhds_hds, hclone_p] at hp
  exact hclone_ok z183 hp
end Dm
namespace Dm
open Go Go.Proofs Go.IntWalk
@[go_sem] def cclone_r (l : List Ch) : D := .vec 0 l.length
@[go_sem] def cclone_fr (l : List Ch) : Fr := [(7, 86, true, chs l)]
@[go_sem] abbrev n_cclone : FuncId := 127
@[go_sem] def cclone_T : Tab := []
theorem cclone_T_ok : TabOk Tryz.prog cclone_T := TabOk.nil
set_option maxRecDepth 8000 in
set_option maxHeartbeats 1000000 in
theorem cclone_ok (l : List Ch) (h : l.length ≤ 1000000) : FreshFn Tryz.prog 127 [.sl (chs l)] (cclone_r l) (cclone_fr l) := by
  refine .of (ac127 cclone_T_ok (Nat.le_of_ble_eq_true rfl) ?_)
  simp -implicitDefEqProofs only [cdA, go_sem, Go.Proofs.Tryz.f127, reduceIte, reduceCtorEq, Nat.reduceEqDiff, Nat.reduceAdd, Nat.reduceLeDiff, Nat.reduceSub, Nat.reduceMul, Nat.reduceLT, Nat.reduceShiftRight, Nat.reduceMod, Int.reduceLE, Int.reduceLT, Int.reduceToNat, List.cons.injEq, cdB]
  refine fun b hb => ⟨fun h => ?_, fun h => ?_⟩
  · exact ⟨[none], by simp [go_sem, hb h], by cases l <;> simp_all [go_sem, chs]⟩
  · exact ⟨by omega, [some 0], by simp [go_sem]⟩
@[go_sem] def cclone_p (l : List Ch) : Prop := (l.length ≤ 1000000)
def sp_cclone : List D → Option (Prop × D × Fr)
  | [.c (.sl z184)] => some (z184 = chs (dchs z184) ∧ cclone_p (dchs z184), cclone_r (dchs z184), cclone_fr (dchs z184))
  | _ => none
attribute [go_sem] sp_cclone
theorem sp_cclone_ok : ∀ rs p r fr, sp_cclone rs = some (p, r, fr) → p → FnOk Tryz.prog 127 rs r fr := by
  intro rs p r fr h hp
  unfold sp_cclone at h
  split at h <;> cases h
  obtain ⟨hc0, hp⟩ := hp
  rename_i z184
  obtain ⟨z184, rfl⟩ : ∃ m, z184 = chs m := ⟨_, hc0⟩
  simp only [dchs_chs]
  simp only [dchs_chs, cclone_p] at hp
  exact (show FnOk _ _ _ _ _ from And.intro rfl (cclone_ok z184 hp))
end Dm
namespace Dm
open Go Go.Proofs Go.IntWalk
end Dm
namespace Dm
open Go Go.Proofs Go.IntWalk
@[go_sem] def wtclone_r (l : List Wt) : D := .sl (wts l)
@[go_sem] abbrev n_wtclone : FuncId := 128
@[go_sem] def wtclone_T : Tab := []
theorem wtclone_T_ok : TabOk Tryz.prog wtclone_T := TabOk.nil
set_option maxRecDepth 8000 in
set_option maxHeartbeats 1000000 in
theorem wtclone_ok (l : List Wt) (h : l.length ≤ 1000000) : PureFn Tryz.prog 128 [.sl (wts l)] (wtclone_r l) := by
  refine .of (ac128 wtclone_T_ok (Nat.le_of_ble_eq_true rfl) ?_)
  simp -implicitDefEqProofs only [cdA, go_sem, Go.Proofs.Tryz.f128, reduceIte, reduceCtorEq, Nat.reduceEqDiff, Nat.reduceAdd, Nat.reduceLeDiff, Nat.reduceSub, Nat.reduceMul, Nat.reduceLT, Nat.reduceShiftRight, Nat.reduceMod, Int.reduceLE, Int.reduceLT, Int.reduceToNat, List.cons.injEq, cdB]
  exact fun b hb => ⟨hb, fun _ => ⟨by omega, _, _, _, rfl⟩⟩
@[go_sem] def wtclone_p (l : List Wt) : Prop := (l.length ≤ 1000000)
def sp_wtclone : List D → Option (Prop × D × Fr)
  | [.c (.sl z34)] => some (z34 = wts (dwts z34) ∧ wtclone_p (dwts z34), wtclone_r (dwts z34), [])
  | _ => none
attribute [go_sem] sp_wtclone
theorem sp_wtclone_ok : ∀ rs p r fr, sp_wtclone rs = some (p, r, fr) → p → FnOk Tryz.prog 128 rs r fr := by
  intro rs p r fr h hp
  unfold sp_wtclone at h
  split at h <;> cases h
  obtain ⟨hc0, hp⟩ := hp
  rename_i z34
  obtain ⟨z34, rfl⟩ : ∃ m, z34 = wts m := ⟨_, hc0⟩
  simp only [dwts_wts]
  simp only [dwts_wts, wtclone_p] at hp
  exact wtclone_ok z34 hp
@[go_sem] def ivclone_r (l : List Iv) : D := .sl (ivs l)
@[go_sem] abbrev n_ivclone : FuncId := 129
@[go_sem] def ivclone_T : Tab := []
theorem ivclone_T_ok : TabOk Tryz.prog ivclone_T := TabOk.nil
set_option maxRecDepth 8000 in
set_option maxHeartbeats 1000000 in
theorem ivclone_ok (l : List Iv) (h : l.length ≤ 1000000) : PureFn Tryz.prog 129 [.sl (ivs l)] (ivclone_r l) := by
  refine .of (ac129 ivclone_T_ok (Nat.le_of_ble_eq_true rfl) ?_)
  simp -implicitDefEqProofs only [cdA, go_sem, Go.Proofs.Tryz.f129, reduceIte, reduceCtorEq, Nat.reduceEqDiff, Nat.reduceAdd, Nat.reduceLeDiff, Nat.reduceSub, Nat.reduceMul, Nat.reduceLT, Nat.reduceShiftRight, Nat.reduceMod, Int.reduceLE, Int.reduceLT, Int.reduceToNat, List.cons.injEq, cdB]
  exact fun b hb => ⟨hb, fun _ => ⟨by omega, _, _, _, rfl⟩⟩
@[go_sem] def ivclone_p (l : List Iv) : Prop := (l.length ≤ 1000000)
def sp_ivclone : List D → Option (Prop × D × Fr)
  | [.c (.sl z35)] => some (z35 = ivs (divs z35) ∧ ivclone_p (divs z35), ivclone_r (divs z35), [])
  | _ => none
attribute [go_sem] sp_ivclone
theorem sp_ivclone_ok : ∀ rs p r fr, sp_ivclone rs = some (p, r, fr) → p → FnOk Tryz.prog 129 rs r fr := by
  intro rs p r fr h hp
  unfold sp_ivclone at h
  split at h <;> cases h
  obtain ⟨hc0, hp⟩ := hp
  rename_i z35
  obtain ⟨z35, rfl⟩ : ∃ m, z35 = ivs m := ⟨_, hc0⟩
  simp only [divs_ivs]
  simp only [divs_ivs, ivclone_p] at hp
  exact ivclone_ok z35 hp
@[go_sem] def pyclone_r (l : List Py) : D := .sl (pys l)
@[go_sem] abbrev n_pyclone : FuncId := 130
@[go_sem] def pyclone_T : Tab := []
theorem pyclone_T_ok : TabOk Tryz.prog pyclone_T := TabOk.nil
set_option maxRecDepth 8000 in
set_option maxHeartbeats 1000000 in
theorem pyclone_ok (l : List Py) (h : l.length ≤ 1000000) : PureFn Tryz.prog 130 [.sl (pys l)] (pyclone_r l) := by
  refine .of (ac130 pyclone_T_ok (Nat.le_of_ble_eq_true rfl) ?_)
  simp -implicitDefEqProofs only [cdA, go_sem, Go.Proofs.Tryz.f130, reduceIte, reduceCtorEq, Nat.reduceEqDiff, Nat.reduceAdd, Nat.reduceLeDiff, Nat.reduceSub, Nat.reduceMul, Nat.reduceLT, Nat.reduceShiftRight, Nat.reduceMod, Int.reduceLE, Int.reduceLT, Int.reduceToNat, List.cons.injEq, cdB]
  exact fun b hb => ⟨hb, fun _ => ⟨by omega, _, _, _, rfl⟩⟩
@[go_sem] def pyclone_p (l : List Py) : Prop := (l.length ≤ 1000000)
def sp_pyclone : List D → Option (Prop × D × Fr)
  | [.c (.sl z36)] => some (z36 = pys (dpys z36) ∧ pyclone_p (dpys z36), pyclone_r (dpys z36), [])
  | _ => none
attribute [go_sem] sp_pyclone
theorem sp_pyclone_ok : ∀ rs p r fr, sp_pyclone rs = some (p, r, fr) → p → FnOk Tryz.prog 130 rs r fr := by
  intro rs p r fr h hp
  unfold sp_pyclone at h
  split at h <;> cases h
  obtain ⟨hc0, hp⟩ := hp
  rename_i z36
  obtain ⟨z36, rfl⟩ : ∃ m, z36 = pys m := ⟨_, hc0⟩
  simp only [dpys_pys]
  simp only [dpys_pys, pyclone_p] at hp
  exact pyclone_ok z36 hp
@[go_sem] def evclonep_r (l : List Ev) : D := .sl (evs l)
@[go_sem] abbrev n_evclonep : FuncId := 131
@[go_sem] def evclonep_T : Tab := []
theorem evclonep_T_ok : TabOk Tryz.prog evclonep_T := TabOk.nil
set_option maxRecDepth 8000 in
set_option maxHeartbeats 1000000 in
theorem evclonep_ok (l : List Ev) (h : l.length ≤ 1000000) : PureFn Tryz.prog 131 [.sl (evs l)] (evclonep_r l) := by
  refine .of (ac131 evclonep_T_ok (Nat.le_of_ble_eq_true rfl) ?_)
  simp -implicitDefEqProofs only [cdA, go_sem, Go.Proofs.Tryz.f131, reduceIte, reduceCtorEq, Nat.reduceEqDiff, Nat.reduceAdd, Nat.reduceLeDiff, Nat.reduceSub, Nat.reduceMul, Nat.reduceLT, Nat.reduceShiftRight, Nat.reduceMod, Int.reduceLE, Int.reduceLT, Int.reduceToNat, List.cons.injEq, cdB]
  exact fun b hb => ⟨hb, fun _ => ⟨by omega, _, _, _, rfl⟩⟩
@[go_sem] def evclonep_p (l : List Ev) : Prop := (l.length ≤ 1000000)
def sp_evclonep : List D → Option (Prop × D × Fr)
  | [.c (.sl z37)] => some (z37 = evs (devs z37) ∧ evclonep_p (devs z37), evclonep_r (devs z37), [])
  | _ => none
attribute [go_sem] sp_evclonep
theorem sp_evclonep_ok : ∀ rs p r fr, sp_evclonep rs = some (p, r, fr) → p → FnOk Tryz.prog 131 rs r fr := by
  intro rs p r fr h hp
  unfold sp_evclonep at h
  split at h <;> cases h
  obtain ⟨hc0, hp⟩ := hp
  rename_i z37
  obtain ⟨z37, rfl⟩ : ∃ m, z37 = evs m := ⟨_, hc0⟩
  simp only [devs_evs]
  simp only [devs_evs, evclonep_p] at hp
  exact evclonep_ok z37 hp
def smallW (w : Wl) : Prop := w.c.length ≤ 1000000 ∧ (∀ c ∈ w.c, c.holds.length ≤ 1000000) ∧ w.w.length ≤ 1000000 ∧ w.i.length ≤ 1000000 ∧ w.p.length ≤ 1000000 ∧ w.f.l.length ≤ 1000000
@[go_sem] def wown_r (w : Wl) : D := .agg [.sl (chs w.c), .sl (wts w.w), .sl (ivs w.i), .sl (pys w.p), .int .u64 w.f.next, .sl (evs w.f.l), .int .u64 w.next, .int .u64 w.tick]
@[go_sem] abbrev n_wown : FuncId := 189
@[go_sem] def wown_T : Tab := [(127, sp_cclone), (132, sp_hclone), (128, sp_wtclone), (129, sp_ivclone), (130, sp_pyclone), (131, sp_evclonep)]
theorem wown_T_ok : TabOk Tryz.prog wown_T := (TabOk.cons sp_cclone_ok (TabOk.cons sp_hclone_ok (TabOk.cons sp_wtclone_ok (TabOk.cons sp_ivclone_ok (TabOk.cons sp_pyclone_ok (TabOk.cons sp_evclonep_ok TabOk.nil))))))
set_option maxRecDepth 8000 in
set_option maxHeartbeats 1000000 in
theorem wown_ok (w : Wl) (h : smallW w) : PureFn Tryz.prog 189 [.agg [.sl (chs w.c), .sl (wts w.w), .sl (ivs w.i), .sl (pys w.p), .c (.int .u64 (w.f.next : Int)), .sl (evs w.f.l), .c (.int .u64 (w.next : Int)), .c (.int .u64 (w.tick : Int))]] (wown_r w) := by
  refine .of (ac189 wown_T_ok (Nat.le_of_ble_eq_true rfl) ?_)
  simp -implicitDefEqProofs only [cdA, go_sem, Go.Proofs.Tryz.f189, reduceIte, reduceCtorEq, Nat.reduceEqDiff, Nat.reduceAdd, Nat.reduceLeDiff, Nat.reduceSub, Nat.reduceMul, Nat.reduceLT, Nat.reduceShiftRight, Nat.reduceMod, Int.reduceLE, Int.reduceLT, Int.reduceToNat, List.cons.injEq, cdB]
  refine ADraw.run us189_1 wown_T_ok follows_mixed (by kernel_rfl) (by kernel_rfl) ?_
  simp -implicitDefEqProofs only [cdA, go_sem, reduceIte, reduceCtorEq, Nat.reduceEqDiff, Nat.reduceAdd, Nat.reduceLeDiff, Nat.reduceSub, Nat.reduceMul, Nat.reduceLT, Nat.reduceShiftRight, Nat.reduceMod, Int.reduceLE, Int.reduceLT, Int.reduceToNat, List.cons.injEq, cdB]
  obtain ⟨h1, h2, h3, h4, h5, h6⟩ := h
  refine ⟨h1, h3, h4, h5, h6, fun _ => SWp.loop (ι := { i : Nat // i ≤ w.c.length }) (fun i => ⟨[(1, .ref 0 0), (2, .ref 1 0), (28, .vec 2 w.c.length), (29, .int .i64 w.c.length), (30, .int .i64 i.1)],
    [(2, .vec true 7 86 (chs w.c)), (0, .box [.vec 2 w.c.length, .sl (wts w.w), .sl (ivs w.i), .sl (pys w.p), .c (.int .u64 w.f.next), .sl (evs w.f.l), .c (.int .u64 w.next), .c (.int .u64 w.tick)]),
      (1, .box [.nil, .nil, .nil, .nil, .c (.int .u64 0), .nil, .c (.int .u64 0), .c (.int .u64 0)])], 3⟩) (fun i => w.c.length - i.1) ⟨0, by omega⟩ ?_ ?_⟩
  · simp [go_sem]
  · rintro ⟨i, hi⟩
    refine awp_sound wown_T_ok.toS lv189 _ _ _ rfl ?_
    simp -implicitDefEqProofs only [cdA, go_sem, reduceIte, reduceCtorEq, Nat.reduceEqDiff, Nat.reduceAdd, Nat.reduceLeDiff, Nat.reduceSub, Nat.reduceMul, Nat.reduceLT, Nat.reduceShiftRight, Nat.reduceMod, Int.reduceLE, Int.reduceLT, Int.reduceToNat, List.cons.injEq, cdB]
    refine ⟨fun h7 => ⟨by omega, by omega, ?_⟩, fun _ => ⟨_, _, _, rfl⟩⟩
    have hi' : i < w.c.length := by omega
    have hself : w.c.set i (w.c.getD i default) = w.c := by
      rw [getD_lt hi']; exact List.set_getElem_self hi'
    have hhl := h2 _ (mem_getD.2 ⟨i, hi', rfl⟩)
    refine ADraw.run us189_5 wown_T_ok follows_mixed (by kernel_rfl) (by kernel_rfl) ?_
    simp -implicitDefEqProofs only [cdA, go_sem, reduceIte, reduceCtorEq, Nat.reduceEqDiff, Nat.reduceAdd, Nat.reduceLeDiff, Nat.reduceSub, Nat.reduceMul, Nat.reduceLT, Nat.reduceShiftRight, Nat.reduceMod, Int.reduceLE, Int.reduceLT, Int.reduceToNat, List.cons.injEq, cdB]
    exact ⟨hhl, by omega, hi', ⟨i + 1, hi'⟩, by dsimp only; omega, i64_in _ (by omega), by rw [hself]⟩
@[go_sem] def wown_p (w : Wl) : Prop := (smallW w)
def sp_wown : List D → Option (Prop × D × Fr)
  | [.agg [.c (.sl z39), .c (.sl z40), .c (.sl z41), .c (.sl z42), .c (.int .u64 z44), .c (.sl z45), .c (.int .u64 z46), .c (.int .u64 z47)]] => some (z39 = chs (dchs z39) ∧ z40 = wts (dwts z40) ∧ z41 = ivs (divs z41) ∧ z42 = pys (dpys z42) ∧ z44 = (z44.toNat : Int) ∧ z45 = evs (devs z45) ∧ z46 = (z46.toNat : Int) ∧ z47 = (z47.toNat : Int) ∧ wown_p (⟨(dchs z39), (dwts z40), (divs z41), (dpys z42), (⟨z44.toNat, (devs z45)⟩ : Fd), z46.toNat, z47.toNat⟩ : Wl), wown_r (⟨(dchs z39), (dwts z40), (divs z41), (dpys z42), (⟨z44.toNat, (devs z45)⟩ : Fd), z46.toNat, z47.toNat⟩ : Wl), [])
  | _ => none
attribute [go_sem] sp_wown
theorem sp_wown_ok : ∀ rs p r fr, sp_wown rs = some (p, r, fr) → p → FnOk Tryz.prog 189 rs r fr := by
  intro rs p r fr h hp
  unfold sp_wown at h
  split at h <;> cases h
  obtain ⟨hc0, hc1, hc2, hc3, hc4, hc5, hc6, hc7, hp⟩ := hp
  rename_i z39 z40 z41 z42 z44 z45 z46 z47
  obtain ⟨z39, rfl⟩ : ∃ m, z39 = chs m := ⟨_, hc0⟩
  obtain ⟨z40, rfl⟩ : ∃ m, z40 = wts m := ⟨_, hc1⟩
  obtain ⟨z41, rfl⟩ : ∃ m, z41 = ivs m := ⟨_, hc2⟩
  obtain ⟨z42, rfl⟩ : ∃ m, z42 = pys m := ⟨_, hc3⟩
  obtain ⟨z44, rfl⟩ : ∃ m : Nat, z44 = m := ⟨_, hc4⟩
  obtain ⟨z45, rfl⟩ : ∃ m, z45 = evs m := ⟨_, hc5⟩
  obtain ⟨z46, rfl⟩ : ∃ m : Nat, z46 = m := ⟨_, hc6⟩
  obtain ⟨z47, rfl⟩ : ∃ m : Nat, z47 = m := ⟨_, hc7⟩
  simp only [Int.toNat_natCast, dchs_chs, devs_evs, divs_ivs, dpys_pys, dwts_wts]
  simp only [Int.toNat_natCast, dchs_chs, devs_evs, divs_ivs, dpys_pys, dwts_wts, wown_p] at hp
  exact wown_ok ⟨z39, z40, z41, z42, ⟨z44, z45⟩, z46, z47⟩ hp
end Dm
namespace Dm
open Go Go.Proofs Go.IntWalk
structure Rk where
  id : Nat
  key : Nat
  gone : Bool
deriving DecidableEq, Inhabited
@[go_sem] def Rk.enc (e : Rk) : List C := [.int .u64 (e.id : Int), .int .u64 (e.key : Int), .bool e.gone]
def Rk.dec : List C → Rk
  | [.int .u64 z2, .int .u64 z3, .bool z4] => (⟨z2.toNat, z3.toNat, z4⟩ : Rk)
  | _ => default
def rks (l : List Rk) : List (List C) := l.map Rk.enc
def drks (l : List (List C)) : List Rk := l.map Rk.dec
@[simp, go_sem] theorem rks_length (l : List Rk) : (rks l).length = l.length := by simp [rks]
@[go_sem] theorem rks_get (l : List Rk) (i : Nat) : (rks l).getD i [.int .u64 0, .int .u64 0, .bool false] = (l.getD i default).enc := by
  simp only [rks, List.getD_eq_getElem?_getD, List.getElem?_map]
  cases l[i]? <;> rfl
@[go_sem] theorem rks_wide (l : List Rk) : Wide 3 (rks l) = True := by
  simp [Wide, rks, Rk.enc]
theorem Rk.dec_enc (e : Rk) : Rk.dec e.enc = e := by
  simp [Rk.enc, Rk.dec]
@[go_sem] theorem drks_rks (l : List Rk) : drks (rks l) = l := by
  simp only [drks, rks, List.map_map]
  exact List.map_id'' (fun e => Rk.dec_enc e) l
@[go_sem] theorem rks_app (a b : List Rk) : rks a ++ rks b = rks (a ++ b) := by simp [rks]
@[go_sem] theorem rks_drop (l : List Rk) (k : Nat) : (rks l).drop k = rks (l.drop k) := by simp [rks]
@[go_sem] theorem rks_take (l : List Rk) (k : Nat) : (rks l).take k = rks (l.take k) := by simp [rks]
@[go_sem] theorem rks_one (z5 : Int) (z6 : Int) (z7 : Bool) (hz5 : 0 ≤ z5) (hz6 : 0 ≤ z6) : [[C.int .u64 z5, C.int .u64 z6, C.bool z7]] = rks [⟨z5.toNat, z6.toNat, z7⟩] := by simp [rks, Rk.enc, Int.toNat_of_nonneg hz5, Int.toNat_of_nonneg hz6]
@[go_sem] theorem rks_set (l : List Rk) (i : Nat) (z5 : Int) (z6 : Int) (z7 : Bool) (hz5 : 0 ≤ z5) (hz6 : 0 ≤ z6) : (rks l).set i [C.int .u64 z5, C.int .u64 z6, C.bool z7] = rks (l.set i ⟨z5.toNat, z6.toNat, z7⟩) := by simp [rks, List.map_set, Rk.enc, Int.toNat_of_nonneg hz5, Int.toNat_of_nonneg hz6]
@[go_sem] theorem rks_cons (l : List Rk) (z5 : Int) (z6 : Int) (z7 : Bool) (hz5 : 0 ≤ z5) (hz6 : 0 ≤ z6) : [C.int .u64 z5, C.int .u64 z6, C.bool z7] :: rks l = rks (⟨z5.toNat, z6.toNat, z7⟩ :: l) := by simp [rks, Rk.enc, Int.toNat_of_nonneg hz5, Int.toNat_of_nonneg hz6]
@[go_sem] theorem rks_flat (l : List Rk) : flatE (rks l) = True := eq_true fun x hx c hc => by
  obtain ⟨e, _, rfl⟩ := List.mem_map.1 hx
  simp only [Rk.enc, List.mem_cons, List.not_mem_nil, or_false] at hc
  rcases hc with rfl | rfl | rfl <;> rfl
@[go_sem] theorem Rk.eta {e : Rk} : (⟨e.id, e.key, e.gone⟩ : Rk) = e := rfl
@[go_sem] theorem Rk.eqD {a b : Rk} : eqD Tryz.prog 70 [D.c (.int .u64 (a.id : Int)), D.c (.int .u64 (a.key : Int)), D.c (.bool a.gone)] [D.c (.int .u64 (b.id : Int)), D.c (.int .u64 (b.key : Int)), D.c (.bool b.gone)] = some (decide (a = b)) := by
  cases a; cases b
  simp only [Dm.eqD, eqOf_70, eqCells, eqC, List.getElem?_cons_zero, List.getElem?_cons_succ, if_true, Option.some.injEq, Rk.mk.injEq]
  rw [Bool.eq_iff_iff]
  simp [Int.ofNat_inj]
@[go_sem] def roorder_r (r : Rk) (id : Nat) : D := .int .i64 (cmpS r.id id)
@[go_sem] abbrev n_roorder : FuncId := 163
@[go_sem] def roorder_T : Tab := [(225, sp_cmp)]
theorem roorder_T_ok : TabOk Tryz.prog roorder_T := (TabOk.cons sp_cmp_ok TabOk.nil)
set_option maxRecDepth 8000 in
set_option maxHeartbeats 1000000 in
theorem roorder_ok (r : Rk) (id : Nat)  : PureFn Tryz.prog 163 [.agg [.c (.int .u64 (r.id : Int)), .c (.int .u64 (r.key : Int)), .c (.bool r.gone)], .c (.int .u64 (id : Int))] (roorder_r r id) := by
  refine .of (ac163 roorder_T_ok (Nat.le_of_ble_eq_true rfl) ?_)
  simp -implicitDefEqProofs only [cdA, go_sem, Go.Proofs.Tryz.f163, reduceIte, reduceCtorEq, Nat.reduceEqDiff, Nat.reduceAdd, Nat.reduceLeDiff, Nat.reduceSub, Nat.reduceMul, Nat.reduceLT, Nat.reduceShiftRight, Nat.reduceMod, Int.reduceLE, Int.reduceLT, Int.reduceToNat, List.cons.injEq, cdB]
def sp_roorder : List D → Option (Prop × D × Fr)
  | [.agg [.c (.int .u64 z9), .c (.int .u64 z10), .c (.bool z11)], .c (.int .u64 z12)] => some (z9 = (z9.toNat : Int) ∧ z10 = (z10.toNat : Int) ∧ z12 = (z12.toNat : Int), roorder_r (⟨z9.toNat, z10.toNat, z11⟩ : Rk) z12.toNat, [])
  | _ => none
attribute [go_sem] sp_roorder
theorem sp_roorder_ok : ∀ rs p r fr, sp_roorder rs = some (p, r, fr) → p → FnOk Tryz.prog 163 rs r fr := by
  intro rs p r fr h hp
  unfold sp_roorder at h
  split at h <;> cases h
  obtain ⟨hc0, hc1, hc2⟩ := hp
  rename_i z9 z10 z11 z12
  obtain ⟨z9, rfl⟩ : ∃ m : Nat, z9 = m := ⟨_, hc0⟩
  obtain ⟨z10, rfl⟩ : ∃ m : Nat, z10 = m := ⟨_, hc1⟩
  obtain ⟨z12, rfl⟩ : ∃ m : Nat, z12 = m := ⟨_, hc2⟩
  simp only [Int.toNat_natCast]
  exact roorder_ok ⟨z9, z10, z11⟩ z12
def takenR (l : List Rk) (key : Nat) : Bool := decide (∃ r ∈ l, r.key = key)
@[go_sem] def rotaken_r (l : List Rk) (key : Nat) : D := .bool (takenR l key)
@[go_sem] abbrev n_rotaken : FuncId := 139
@[go_sem] def rotaken_T : Tab := []
theorem rotaken_T_ok : TabOk Tryz.prog rotaken_T := TabOk.nil
set_option maxRecDepth 8000 in
set_option maxHeartbeats 1000000 in
theorem rotaken_ok (l : List Rk) (key : Nat)  : PureFn Tryz.prog 139 [.sl (rks l), .c (.int .u64 (key : Int))] (rotaken_r l key) := by
  refine .of (ac139 rotaken_T_ok (Nat.le_of_ble_eq_true rfl) ?_)
  simp -implicitDefEqProofs only [cdA, go_sem, Go.Proofs.Tryz.f139, reduceIte, reduceCtorEq, Nat.reduceEqDiff, Nat.reduceAdd, Nat.reduceLeDiff, Nat.reduceSub, Nat.reduceMul, Nat.reduceLT, Nat.reduceShiftRight, Nat.reduceMod, Int.reduceLE, Int.reduceLT, Int.reduceToNat, List.cons.injEq, cdB]
  refine ac207 rotaken_T_ok (Nat.le_of_ble_eq_true rfl) ?_
  simp -implicitDefEqProofs only [cdA, go_sem, Go.Proofs.Tryz.f207, reduceIte, reduceCtorEq, Nat.reduceEqDiff, Nat.reduceAdd, Nat.reduceLeDiff, Nat.reduceSub, Nat.reduceMul, Nat.reduceLT, Nat.reduceShiftRight, Nat.reduceMod, Int.reduceLE, Int.reduceLT, Int.reduceToNat, List.cons.injEq, cdB]
  refine ac244 rotaken_T_ok (Nat.le_of_ble_eq_true rfl) ?_
  simp -implicitDefEqProofs only [cdA, go_sem, Go.Proofs.Tryz.f244, reduceIte, reduceCtorEq, Nat.reduceEqDiff, Nat.reduceAdd, Nat.reduceLeDiff, Nat.reduceSub, Nat.reduceMul, Nat.reduceLT, Nat.reduceShiftRight, Nat.reduceMod, Int.reduceLE, Int.reduceLT, Int.reduceToNat, List.cons.injEq, cdB]
  refine fun _ => SWp.loop (ι := { i : Nat // i ≤ l.length ∧ ∀ j, j < i → (l.getD j default).key ≠ key }) (fun i => ⟨[(0, .sl (rks l)), (1, .fn (.func 208) [] [.ref 0 0]), (7, .int .i64 l.length), (8, .int .i64 i.1)], [(0, .box [.c (.int .u64 key)])], 1⟩) (fun i => l.length - i.1) ⟨0, by simp⟩ ?_ ?_
  · simp [go_sem]
  · rintro ⟨i, hi, hall⟩
    refine awp_sound rotaken_T_ok.toS lv244 _ _ _ rfl ?_
    simp -implicitDefEqProofs only [cdA, go_sem, reduceIte, reduceCtorEq, Nat.reduceEqDiff, Nat.reduceAdd, Nat.reduceLeDiff, Nat.reduceSub, Nat.reduceMul, Nat.reduceLT, Nat.reduceShiftRight, Nat.reduceMod, Int.reduceLE, Int.reduceLT, Int.reduceToNat, List.cons.injEq, cdB]
    refine ⟨fun h4 => ⟨h4, ?_⟩, fun h4 => ?_⟩
    · skip
      refine ac208 rotaken_T_ok (Nat.le_of_ble_eq_true rfl) ?_
      simp -implicitDefEqProofs only [cdA, go_sem, Go.Proofs.Tryz.f208, reduceIte, reduceCtorEq, Nat.reduceEqDiff, Nat.reduceAdd, Nat.reduceLeDiff, Nat.reduceSub, Nat.reduceMul, Nat.reduceLT, Nat.reduceShiftRight, Nat.reduceMod, Int.reduceLE, Int.reduceLT, Int.reduceToNat, List.cons.injEq, cdB]
      have hi' : i < l.length := by omega
      refine ⟨fun h5 => (decide_eq_true ⟨_, mem_getD.2 ⟨i, hi', rfl⟩, by omega⟩).symm, fun h5 => ⟨⟨i + 1, hi', fun j hj => ?_⟩, by dsimp only; omega, i64_in _ (by omega)⟩⟩
      by_cases hji : j = i
      · subst hji; omega
      · exact hall j (by omega)
    · have hi' : i = l.length := by omega
      subst hi'
      rw [takenR, decide_eq_decide]
      refine ⟨False.elim, fun ⟨r, hr, hk⟩ => ?_⟩
      obtain ⟨j, hj, rfl⟩ := mem_getD.1 hr
      exact hall j hj hk
def sp_rotaken : List D → Option (Prop × D × Fr)
  | [.c (.sl z13), .c (.int .u64 z14)] => some (z13 = rks (drks z13) ∧ z14 = (z14.toNat : Int), rotaken_r (drks z13) z14.toNat, [])
  | _ => none
attribute [go_sem] sp_rotaken
theorem sp_rotaken_ok : ∀ rs p r fr, sp_rotaken rs = some (p, r, fr) → p → FnOk Tryz.prog 139 rs r fr := by
  intro rs p r fr h hp
  unfold sp_rotaken at h
  split at h <;> cases h
  obtain ⟨hc0, hc1⟩ := hp
  rename_i z13 z14
  obtain ⟨z13, rfl⟩ : ∃ m, z13 = rks m := ⟨_, hc0⟩
  obtain ⟨z14, rfl⟩ : ∃ m : Nat, z14 = m := ⟨_, hc1⟩
  simp only [Int.toNat_natCast, drks_rks]
  exact rotaken_ok z13 z14
def okRk (l : List Rk) : Prop := l.length ≤ 64 ∧ Srt.Chn Rk.id ltN l ∧ (l.map Rk.key).Nodup
instance (l : List Rk) : Decidable (Srt.Chn Rk.id ltN l) := by unfold Srt.Chn; infer_instance
instance (l : List Rk) : Decidable (okRk l) := by unfold okRk; infer_instance
def chkR (l : List Rk) : Int := if okRk l then 0 else 1
@[go_sem] def rocheck_r (l : List Rk) : D := .int .i64 (chkR l)
@[go_sem] abbrev n_rocheck : FuncId := 83
@[go_sem] def rocheck_T : Tab := [(163, sp_roorder), (139, sp_rotaken)]
theorem rocheck_T_ok : TabOk Tryz.prog rocheck_T := (TabOk.cons sp_roorder_ok (TabOk.cons sp_rotaken_ok TabOk.nil))
set_option maxRecDepth 8000 in
set_option maxHeartbeats 1000000 in
theorem rocheck_ok (l : List Rk)  : PureFn Tryz.prog 83 [.sl (rks l)] (rocheck_r l) := by
  refine .of (ac83 rocheck_T_ok (Nat.le_of_ble_eq_true rfl) ?_)
  simp -implicitDefEqProofs only [cdA, go_sem, Go.Proofs.Tryz.f83, reduceIte, reduceCtorEq, Nat.reduceEqDiff, Nat.reduceAdd, Nat.reduceLeDiff, Nat.reduceSub, Nat.reduceMul, Nat.reduceLT, Nat.reduceShiftRight, Nat.reduceMod, Int.reduceLE, Int.reduceLT, Int.reduceToNat, List.cons.injEq, cdB]
  have hbad : ¬ okRk l → 1 = chkR l := fun h => by rw [chkR, if_neg h]
  refine fun _ => ⟨fun h1 => hbad fun h => by have := h.1; omega, fun h1 _ => ?_⟩
  refine SWp.loop (ι := { i : Nat // i ≤ l.length ∧ (∀ j, j < i → 0 < j → (l.getD (j - 1) default).id < (l.getD j default).id) ∧ ((l.take i).map Rk.key).Nodup }) (fun i => ⟨[(0, .sl (rks l)), (8, .sl (rks l)), (9, .int .i64 l.length), (10, .int .i64 i.1)], [], 0⟩) (fun i => l.length - i.1) ⟨0, by simp, by simp, by simp⟩ ?_ ?_
  · simp [go_sem]
  · rintro ⟨i, hi, hall, hnd⟩
    refine awp_sound rocheck_T_ok.toS lv83 _ _ _ rfl ?_
    simp -implicitDefEqProofs only [cdA, go_sem, reduceIte, reduceCtorEq, Nat.reduceEqDiff, Nat.reduceAdd, Nat.reduceLeDiff, Nat.reduceSub, Nat.reduceMul, Nat.reduceLT, Nat.reduceShiftRight, Nat.reduceMod, Int.reduceLE, Int.reduceLT, Int.reduceToNat, List.cons.injEq, cdB]
    refine ⟨fun h2 => ⟨h2, ?_⟩, fun h2 => ?_⟩
    · refine ADraw.run us83_6 rocheck_T_ok follows_mixed (by kernel_rfl) (by kernel_rfl) ?_
      simp -implicitDefEqProofs only [cdA, go_sem, reduceIte, reduceCtorEq, Nat.reduceEqDiff, Nat.reduceAdd, Nat.reduceLeDiff, Nat.reduceSub, Nat.reduceMul, Nat.reduceLT, Nat.reduceShiftRight, Nat.reduceMod, Int.reduceLE, Int.reduceLT, Int.reduceToNat, List.cons.injEq, cdB]
      have hi' : i < l.length := by omega
      have htk := take_succ hi'
      have hnext : (0 < i → (l.getD (i - 1) default).id < (l.getD i default).id) → (takenR (l.take i) (l.getD i default).key = true → 1 = chkR l) ∧ (takenR (l.take i) (l.getD i default).key = false → ∃ i_1 : { i : Nat // i ≤ l.length ∧ (∀ j, j < i → 0 < j → (l.getD (j - 1) default).id < (l.getD j default).id) ∧ ((l.take i).map Rk.key).Nodup }, l.length - i_1.val < l.length - i ∧ IntKind.i64.wrap ((i : Int) + 1) = i_1.val) := fun ho => by
        refine ⟨fun h3 => hbad fun h => ?_, fun h3 => ⟨⟨i + 1, hi', fun j hj h0 => ?_, ?_⟩, by dsimp only; omega, i64_in _ (by omega)⟩⟩
        · obtain ⟨r, hr, hk⟩ := of_decide_eq_true h3
          have h4 : ((l.take (i + 1)).map Rk.key).Nodup := ((List.take_prefix _ _).map _).sublist.nodup h.2.2
          rw [htk, List.map_append, List.nodup_append] at h4
          exact h4.2.2 _ (List.mem_map.2 ⟨r, hr, hk⟩) _ (by simp) rfl
        · by_cases hji : j = i
          · subst hji; exact ho h0
          · exact hall j (by omega) h0
        · rw [htk, List.map_append, List.nodup_append]
          refine ⟨hnd, by simp, fun x hx y hy => ?_⟩
          simp at hy
          rintro rfl
          obtain ⟨r, hr, hk⟩ := List.mem_map.1 hx
          exact of_decide_eq_false h3 ⟨r, hr, by rw [hk, hy, List.getD_eq_getElem?_getD]⟩
      refine ⟨fun h3 => ?_, fun h3 => ⟨by omega, hnext fun h => absurd h (by omega)⟩⟩
      rw [i64_in _ (by omega), show ((i : Int) - 1).toNat = i - 1 by omega]
      have hc : ∀ a b : Nat, 0 ≤ cmpS a b ↔ ¬ a < b := fun a b => by
        have := cmpS_neg (x := a) (y := b); omega
      rw [hc]
      exact ⟨by omega, fun h4 => ⟨by omega, hnext fun _ => by omega⟩, fun h4 => hbad fun h => h4 (h.2.1 i hi' (by omega))⟩
    · have hi' : i = l.length := by omega
      subst hi'
      rw [List.take_length] at hnd
      rw [chkR, if_pos ⟨by omega, fun j hj h0 => hall j hj h0, hnd⟩]
def sp_rocheck : List D → Option (Prop × D × Fr)
  | [.c (.sl z15)] => some (z15 = rks (drks z15), rocheck_r (drks z15), [])
  | _ => none
attribute [go_sem] sp_rocheck
theorem sp_rocheck_ok : ∀ rs p r fr, sp_rocheck rs = some (p, r, fr) → p → FnOk Tryz.prog 83 rs r fr := by
  intro rs p r fr h hp
  unfold sp_rocheck at h
  split at h <;> cases h
  have hc0 := hp
  rename_i z15
  obtain ⟨z15, rfl⟩ : ∃ m, z15 = rks m := ⟨_, hc0⟩
  simp only [drks_rks]
  exact rocheck_ok z15
def rfind (l : List Rk) (id : Nat) : Nat × Bool × Int := if okRk l then (Srt.pos Rk.id ltN l id, Srt.thr Rk.id ltN l id, 0) else (0, false, 1)
@[go_sem] def rofind_r (l : List Rk) (id : Nat) : D := .tup [.int .i64 (rfind l id).1, .bool (rfind l id).2.1, .int .i64 (rfind l id).2.2]
@[go_sem] abbrev n_rofind : FuncId := 154
@[go_sem] def rofind_T : Tab := [(83, sp_rocheck), (163, sp_roorder)]
theorem rofind_T_ok : TabOk Tryz.prog rofind_T := (TabOk.cons sp_rocheck_ok (TabOk.cons sp_roorder_ok TabOk.nil))
set_option maxRecDepth 8000 in
set_option maxHeartbeats 1000000 in
theorem rofind_ok (l : List Rk) (id : Nat)  : PureFn Tryz.prog 154 [.sl (rks l), .c (.int .u64 (id : Int))] (rofind_r l id) := by
  refine .of (ac154 rofind_T_ok (Nat.le_of_ble_eq_true rfl) ?_)
  simp -implicitDefEqProofs only [cdA, go_sem, Go.Proofs.Tryz.f154, reduceIte, reduceCtorEq, Nat.reduceEqDiff, Nat.reduceAdd, Nat.reduceLeDiff, Nat.reduceSub, Nat.reduceMul, Nat.reduceLT, Nat.reduceShiftRight, Nat.reduceMod, Int.reduceLE, Int.reduceLT, Int.reduceToNat, List.cons.injEq, cdB]
  have hcz : chkR l = 0 ↔ okRk l := by unfold chkR; split <;> simp_all
  refine ⟨fun hok0 => ?_, fun hno0 => by
    have hno : ¬ okRk l := fun h => hno0 (hcz.2 h)
    rw [rfind, chkR, if_neg hno, if_neg hno]; exact ⟨rfl, rfl, rfl⟩⟩
  have hok := hcz.1 hok0
  have hu : Srt.Up Rk.id ltN l := (Srt.chn_up (lt := ltN) Srt.totNat).1 hok.2.1
  have hl32 := hok.1
  refine ac215 rofind_T_ok (Nat.le_of_ble_eq_true rfl) ?_
  simp -implicitDefEqProofs only [cdA, go_sem, Go.Proofs.Tryz.f215, reduceIte, reduceCtorEq, Nat.reduceEqDiff, Nat.reduceAdd, Nat.reduceLeDiff, Nat.reduceSub, Nat.reduceMul, Nat.reduceLT, Nat.reduceShiftRight, Nat.reduceMod, Int.reduceLE, Int.reduceLT, Int.reduceToNat, List.cons.injEq, cdB]
  refine fun _ => SWp.loop (ι := { x : Nat × Nat // x.1 ≤ x.2 ∧ x.2 ≤ l.length ∧ (∀ k, k < x.1 → (l.getD k default).id < id) ∧ ∀ k, x.2 ≤ k → k < l.length → ¬ (l.getD k default).id < id }) (fun x => ⟨[(0, .sl (rks l)), (1, .int .u64 id), (2, .fn (.func 163) [] []), (8, .int .i64 l.length), (9, .int .i64 x.1.1), (10, .int .i64 x.1.2)], [], 0⟩) (fun x => x.1.2 - x.1.1) ⟨(0, l.length), by simp, by simp, fun k hk => absurd hk (by simp), fun k h1 h2 => absurd h1 (by simpa using h2)⟩ ?_ ?_
  · simp [go_sem]
  · rintro ⟨⟨i, j⟩, hij, hj, hlo, hup⟩
    dsimp only at hij hj hlo hup
    refine awp_sound rofind_T_ok.toS lv215 _ _ _ rfl ?_
    simp -implicitDefEqProofs only [cdA, go_sem, reduceIte, reduceCtorEq, Nat.reduceEqDiff, Nat.reduceAdd, Nat.reduceLeDiff, Nat.reduceSub, Nat.reduceMul, Nat.reduceLT, Nat.reduceShiftRight, Nat.reduceMod, Int.reduceLE, Int.reduceLT, Int.reduceToNat, List.cons.injEq, cdB]
    rw [mid_eq hij hj ‹_›]
    refine ⟨fun h4 => ?_, fun h4 => ?_⟩
    · have hm : (i + j) / 2 < l.length := by omega
      rw [cmpS_neg, Int.toNat_natCast]
      refine ⟨by omega, fun h5 => ⟨⟨((i + j) / 2 + 1, j), by dsimp only; omega, hj, fun k hk => ?_, hup⟩, by dsimp only; omega, i64_in _ (by omega), rfl⟩, fun h5 => ⟨⟨(i, (i + j) / 2), by dsimp only; omega, by dsimp only; omega, hlo, fun k hk1 hk2 => ?_⟩, by dsimp only; omega, rfl, rfl⟩⟩
      · dsimp only at hk
        by_cases hkm : k = (i + j) / 2
        · rw [hkm]; omega
        · have := Srt.up_get.1 hu k _ (by omega) hm
          simp only [ltN] at this; omega
      · dsimp only at hk1
        by_cases hkm : k = (i + j) / 2
        · rw [hkm]; omega
        · have := Srt.up_get.1 hu ((i + j) / 2) k (by omega) hk2
          simp only [ltN] at this; omega
    · have hp : Srt.pos Rk.id ltN l id = i := Srt.pos_eq (by omega) hlo (fun h => hup i (by omega) h)
      rw [rfind, if_pos hok, Srt.thr, hp]
      refine ⟨fun h5 => ⟨h5, rfl, ?_, rfl⟩, fun h5 => ⟨rfl, ?_, rfl⟩⟩
      · rw [decide_eq_decide, cmpS_0]
        exact ⟨fun h => ⟨by omega, by omega⟩, fun h => by have := h.2; omega⟩
      · exact (decide_eq_false fun h => h5 (by omega)).symm
def sp_rofind : List D → Option (Prop × D × Fr)
  | [.c (.sl z16), .c (.int .u64 z17)] => some (z16 = rks (drks z16) ∧ z17 = (z17.toNat : Int), rofind_r (drks z16) z17.toNat, [])
  | _ => none
attribute [go_sem] sp_rofind
theorem sp_rofind_ok : ∀ rs p r fr, sp_rofind rs = some (p, r, fr) → p → FnOk Tryz.prog 154 rs r fr := by
  intro rs p r fr h hp
  unfold sp_rofind at h
  split at h <;> cases h
  obtain ⟨hc0, hc1⟩ := hp
  rename_i z16 z17
  obtain ⟨z16, rfl⟩ : ∃ m, z16 = rks m := ⟨_, hc0⟩
  obtain ⟨z17, rfl⟩ : ∃ m : Nat, z17 = m := ⟨_, hc1⟩
  simp only [Int.toNat_natCast, drks_rks]
  exact rofind_ok z16 z17
def rgood (l : List Rk) (id : Nat) : Nat × Int := if ¬ okRk l then (0, 1) else if Srt.thr Rk.id ltN l id = false then (0, 5) else if (l.getD (Srt.pos Rk.id ltN l id) default).gone = true then (0, 13) else (Srt.pos Rk.id ltN l id, 0)
@[go_sem] def rogood_r (l : List Rk) (id : Nat) : D := .tup [.int .i64 (rgood l id).1, .int .i64 (rgood l id).2]
@[go_sem] abbrev n_rogood : FuncId := 111
@[go_sem] def rogood_T : Tab := [(154, sp_rofind)]
theorem rogood_T_ok : TabOk Tryz.prog rogood_T := (TabOk.cons sp_rofind_ok TabOk.nil)
set_option maxRecDepth 8000 in
set_option maxHeartbeats 1000000 in
theorem rogood_ok (l : List Rk) (id : Nat)  : PureFn Tryz.prog 111 [.sl (rks l), .c (.int .u64 (id : Int))] (rogood_r l id) := by
  refine .of (ac111 rogood_T_ok (Nat.le_of_ble_eq_true rfl) ?_)
  simp -implicitDefEqProofs only [cdA, go_sem, Go.Proofs.Tryz.f111, reduceIte, reduceCtorEq, Nat.reduceEqDiff, Nat.reduceAdd, Nat.reduceLeDiff, Nat.reduceSub, Nat.reduceMul, Nat.reduceLT, Nat.reduceShiftRight, Nat.reduceMod, Int.reduceLE, Int.reduceLT, Int.reduceToNat, List.cons.injEq, cdB]
  by_cases hok : okRk l
  rotate_left 1
  · have e1 : rfind l id = (0, false, 1) := by rw [rfind, if_neg hok]
    have e2 : rgood l id = (0, 1) := by rw [rgood, if_pos hok]
    rw [e1, e2]
    exact ⟨fun h => absurd (show (1 : Int) = 0 from h) (by decide), fun _ => ⟨rfl, rfl⟩⟩
  have e1 : rfind l id = (Srt.pos Rk.id ltN l id, Srt.thr Rk.id ltN l id, 0) := by rw [rfind, if_pos hok]
  have e2 : rgood l id = if Srt.thr Rk.id ltN l id = false then (0, 5) else if (l.getD (Srt.pos Rk.id ltN l id) default).gone = true then (0, 13) else (Srt.pos Rk.id ltN l id, 0) := by rw [rgood, if_neg fun h => h hok]
  rw [e1, e2]
  refine ⟨fun _ => ⟨fun h2 => ?_, fun h2 => ?_⟩, fun h => absurd rfl h⟩
  · dsimp only at h2 ⊢
    have hp : Srt.pos Rk.id ltN l id < l.length := by
      have h2 := h2
      unfold Srt.thr at h2
      exact (of_decide_eq_true h2).1
    rw [if_neg (by rw [h2]; decide)]
    refine ⟨by omega, fun h3 => ?_, fun h3 => ?_⟩
    · rw [if_pos h3]; exact ⟨rfl, rfl⟩
    · rw [if_neg (by rw [h3]; decide)]; exact ⟨rfl, rfl⟩
  · rw [if_pos h2]; exact ⟨rfl, rfl⟩
def sp_rogood : List D → Option (Prop × D × Fr)
  | [.c (.sl z18), .c (.int .u64 z19)] => some (z18 = rks (drks z18) ∧ z19 = (z19.toNat : Int), rogood_r (drks z18) z19.toNat, [])
  | _ => none
attribute [go_sem] sp_rogood
theorem sp_rogood_ok : ∀ rs p r fr, sp_rogood rs = some (p, r, fr) → p → FnOk Tryz.prog 111 rs r fr := by
  intro rs p r fr h hp
  unfold sp_rogood at h
  split at h <;> cases h
  obtain ⟨hc0, hc1⟩ := hp
  rename_i z18 z19
  obtain ⟨z18, rfl⟩ : ∃ m, z18 = rks m := ⟨_, hc0⟩
  obtain ⟨z19, rfl⟩ : ∃ m : Nat, z19 = m := ⟨_, hc1⟩
  simp only [Int.toNat_natCast, drks_rks]
  exact rogood_ok z18 z19
theorem rgood_lt {l : List Rk} {id : Nat} (h : (rgood l id).2 = 0) : okRk l ∧ (rgood l id).1 = Srt.pos Rk.id ltN l id ∧ (rgood l id).1 < l.length ∧ (l.getD (rgood l id).1 default).id = id ∧ (l.getD (rgood l id).1 default).gone = false := by
  unfold rgood at *
  split at h
  · exact absurd h (by decide)
  · rename_i h1
    rw [if_neg h1]
    have hok : okRk l := Classical.not_not.1 h1
    split at h
    · exact absurd h (by decide)
    · rename_i h2
      rw [if_neg h2]
      split at h
      · exact absurd h (by decide)
      · rename_i h3
        rw [if_neg h3]
        have h2 : Srt.thr Rk.id ltN l id = true := by simpa using h2
        unfold Srt.thr at h2
        have h4 := of_decide_eq_true h2
        exact ⟨hok, rfl, h4.1, h4.2, by simpa using h3⟩
def rkey (l : List Rk) (id : Nat) : Nat × Int := if (rgood l id).2 = 0 then ((l.getD (rgood l id).1 default).key, 0) else (0, (rgood l id).2)
@[go_sem] def rokey_r (l : List Rk) (id : Nat) : D := .tup [.int .u64 (rkey l id).1, .int .i64 (rkey l id).2]
@[go_sem] abbrev n_rokey : FuncId := 42
@[go_sem] def rokey_T : Tab := [(111, sp_rogood)]
theorem rokey_T_ok : TabOk Tryz.prog rokey_T := (TabOk.cons sp_rogood_ok TabOk.nil)
set_option maxRecDepth 8000 in
set_option maxHeartbeats 1000000 in
theorem rokey_ok (l : List Rk) (id : Nat)  : PureFn Tryz.prog 42 [.sl (rks l), .c (.int .u64 (id : Int))] (rokey_r l id) := by
  refine .of (ac42 rokey_T_ok (Nat.le_of_ble_eq_true rfl) ?_)
  simp -implicitDefEqProofs only [cdA, go_sem, Go.Proofs.Tryz.f42, reduceIte, reduceCtorEq, Nat.reduceEqDiff, Nat.reduceAdd, Nat.reduceLeDiff, Nat.reduceSub, Nat.reduceMul, Nat.reduceLT, Nat.reduceShiftRight, Nat.reduceMod, Int.reduceLE, Int.reduceLT, Int.reduceToNat, List.cons.injEq, cdB]
  refine ⟨fun h => ⟨by have := (rgood_lt h).2.2.1; omega, ?_⟩, fun h => ?_⟩
  · rw [rkey, if_pos h]; exact ⟨rfl, rfl⟩
  · rw [rkey, if_neg h]; exact ⟨rfl, rfl⟩
def sp_rokey : List D → Option (Prop × D × Fr)
  | [.c (.sl z20), .c (.int .u64 z21)] => some (z20 = rks (drks z20) ∧ z21 = (z21.toNat : Int), rokey_r (drks z20) z21.toNat, [])
  | _ => none
attribute [go_sem] sp_rokey
theorem sp_rokey_ok : ∀ rs p r fr, sp_rokey rs = some (p, r, fr) → p → FnOk Tryz.prog 42 rs r fr := by
  intro rs p r fr h hp
  unfold sp_rokey at h
  split at h <;> cases h
  obtain ⟨hc0, hc1⟩ := hp
  rename_i z20 z21
  obtain ⟨z20, rfl⟩ : ∃ m, z20 = rks m := ⟨_, hc0⟩
  obtain ⟨z21, rfl⟩ : ∃ m : Nat, z21 = m := ⟨_, hc1⟩
  simp only [Int.toNat_natCast, drks_rks]
  exact rokey_ok z20 z21
end Dm
namespace Dm
open Go Go.Proofs Go.IntWalk
def ltC (a b : Nat × Nat) : Prop := a.1 < b.1 ∨ (a.1 = b.1 ∧ a.2 < b.2)
instance : DecidableRel ltC := fun a b => by unfold ltC; infer_instance
theorem totC : Srt.Tot ltC := ⟨fun a => by unfold ltC; omega, fun h h' => by unfold ltC at *; omega, fun a b => by
  unfold ltC
  have : a = b ↔ a.1 = b.1 ∧ a.2 = b.2 := Prod.ext_iff
  rw [this]; omega⟩
def Ct.key (c : Ct) : Nat × Nat := (c.root, c.b)
def ordSp (a b : Ct) : Int := orS [cmpS a.root b.root, cmpS a.b b.b]
theorem ordSp_neg {a b : Ct} : ordSp a b < 0 ↔ ltC a.key b.key := by
  unfold ordSp orS ltC Ct.key cmpS
  by_cases h1 : (a.root : Int) < b.root
  · simp [h1]; omega
  · by_cases h2 : (b.root : Int) < a.root
    · simp [h1, h2]; omega
    · by_cases h3 : (a.b : Int) < b.b
      · simp [h1, h2, h3]; omega
      · by_cases h4 : (b.b : Int) < a.b
        · simp [h1, h2, h3, h4]; omega
        · simp [h1, h2, h3, h4]; omega
theorem ordSp_0 {a b : Ct} : ordSp a b = 0 ↔ a.key = b.key := by
  have hk : a.key = b.key ↔ a.root = b.root ∧ a.b = b.b := Prod.ext_iff
  rw [hk]
  unfold ordSp orS cmpS
  by_cases h1 : (a.root : Int) < b.root
  · simp [h1]; omega
  · by_cases h2 : (b.root : Int) < a.root
    · simp [h1, h2]; omega
    · by_cases h3 : (a.b : Int) < b.b
      · simp [h1, h2, h3]; omega
      · by_cases h4 : (b.b : Int) < a.b
        · simp [h1, h2, h3, h4]; omega
        · simp [h1, h2, h3, h4]; omega
@[go_sem] def sporder_r (a : Ct) (b : Ct) : D := .int .i64 (ordSp a b)
@[go_sem] abbrev n_sporder : FuncId := 166
@[go_sem] def sporder_T : Tab := [(225, sp_cmp), (226, sp_cmpor)]
theorem sporder_T_ok : TabOk Tryz.prog sporder_T := (TabOk.cons sp_cmp_ok (TabOk.cons sp_cmpor_ok TabOk.nil))
set_option maxRecDepth 8000 in
set_option maxHeartbeats 1000000 in
theorem sporder_ok (a : Ct) (b : Ct)  : PureFn Tryz.prog 166 [.agg [.c (.int .u64 (a.root : Int)), .c (.int .u64 (a.b : Int)), .c (.int .u64 (a.n : Int))], .agg [.c (.int .u64 (b.root : Int)), .c (.int .u64 (b.b : Int)), .c (.int .u64 (b.n : Int))]] (sporder_r a b) := by
  refine .of (ac166 sporder_T_ok (Nat.le_of_ble_eq_true rfl) ?_)
  simp -implicitDefEqProofs only [cdA, go_sem, Go.Proofs.Tryz.f166, reduceIte, reduceCtorEq, Nat.reduceEqDiff, Nat.reduceAdd, Nat.reduceLeDiff, Nat.reduceSub, Nat.reduceMul, Nat.reduceLT, Nat.reduceShiftRight, Nat.reduceMod, Int.reduceLE, Int.reduceLT, Int.reduceToNat, List.cons.injEq, cdB]
  refine ADraw.run us166_1 sporder_T_ok follows_mixed (by kernel_rfl) (by kernel_rfl) ?_
  simp -implicitDefEqProofs only [cdA, go_sem, reduceIte, reduceCtorEq, Nat.reduceEqDiff, Nat.reduceAdd, Nat.reduceLeDiff, Nat.reduceSub, Nat.reduceMul, Nat.reduceLT, Nat.reduceShiftRight, Nat.reduceMod, Int.reduceLE, Int.reduceLT, Int.reduceToNat, List.cons.injEq, cdB]
  rfl
def sp_sporder : List D → Option (Prop × D × Fr)
  | [.agg [.c (.int .u64 z2), .c (.int .u64 z3), .c (.int .u64 z4)], .agg [.c (.int .u64 z6), .c (.int .u64 z7), .c (.int .u64 z8)]] => some (z2 = (z2.toNat : Int) ∧ z3 = (z3.toNat : Int) ∧ z4 = (z4.toNat : Int) ∧ z6 = (z6.toNat : Int) ∧ z7 = (z7.toNat : Int) ∧ z8 = (z8.toNat : Int), sporder_r (⟨z2.toNat, z3.toNat, z4.toNat⟩ : Ct) (⟨z6.toNat, z7.toNat, z8.toNat⟩ : Ct), [])
  | _ => none
attribute [go_sem] sp_sporder
theorem sp_sporder_ok : ∀ rs p r fr, sp_sporder rs = some (p, r, fr) → p → FnOk Tryz.prog 166 rs r fr := by
  intro rs p r fr h hp
  unfold sp_sporder at h
  split at h <;> cases h
  obtain ⟨hc0, hc1, hc2, hc3, hc4, hc5⟩ := hp
  rename_i z2 z3 z4 z6 z7 z8
  obtain ⟨z2, rfl⟩ : ∃ m : Nat, z2 = m := ⟨_, hc0⟩
  obtain ⟨z3, rfl⟩ : ∃ m : Nat, z3 = m := ⟨_, hc1⟩
  obtain ⟨z4, rfl⟩ : ∃ m : Nat, z4 = m := ⟨_, hc2⟩
  obtain ⟨z6, rfl⟩ : ∃ m : Nat, z6 = m := ⟨_, hc3⟩
  obtain ⟨z7, rfl⟩ : ∃ m : Nat, z7 = m := ⟨_, hc4⟩
  obtain ⟨z8, rfl⟩ : ∃ m : Nat, z8 = m := ⟨_, hc5⟩
  simp only [Int.toNat_natCast]
  exact sporder_ok ⟨z2, z3, z4⟩ ⟨z6, z7, z8⟩
def capF (m : List (Nat × Int)) (c : Cv) : List (Nat × Int) := if c.kind = 4 then (match nlk c.b m with
  | some n => if (c.a : Int) < n then nset c.b c.a m else m
  | none => nset c.b c.a m) else m
def capS (l : List Cv) : List (Nat × Int) × Int := if l.length ≤ 16 ∧ l.all (fun c => decide (cavS c = 0)) = true then (l.foldl capF [], 0) else ([], 1)
theorem cavS_1 {c : Cv} (h : ¬ cavS c = 0) : cavS c = 1 := by unfold cavS at *; split <;> simp_all
@[go_sem] def spcaps_r (l : List Cv) : D := .tup [.c (.map [.int .u64] (kvF .u64 .u64 (capS l).1)), .int .i64 (capS l).2]
@[go_sem] abbrev n_spcaps : FuncId := 196
@[go_sem] def spcaps_T : Tab := [(58, sp_cavcheck)]
theorem spcaps_T_ok : TabOk Tryz.prog spcaps_T := (TabOk.cons sp_cavcheck_ok TabOk.nil)
set_option maxRecDepth 8000 in
set_option maxHeartbeats 1000000 in
theorem spcaps_ok (l : List Cv)  : PureFn Tryz.prog 196 [.sl (cvs l)] (spcaps_r l) := by
  refine .of (ac196 spcaps_T_ok (Nat.le_of_ble_eq_true rfl) ?_)
  simp -implicitDefEqProofs only [cdA, go_sem, Go.Proofs.Tryz.f196, reduceIte, reduceCtorEq, Nat.reduceEqDiff, Nat.reduceAdd, Nat.reduceLeDiff, Nat.reduceSub, Nat.reduceMul, Nat.reduceLT, Nat.reduceShiftRight, Nat.reduceMod, Int.reduceLE, Int.reduceLT, Int.reduceToNat, List.cons.injEq, cdB]
  refine fun hl => ⟨fun h1 => ?_, fun h1 _ => ?_⟩
  · rw [capS, if_neg (by omega)]; exact ⟨rfl, rfl⟩
  · refine SWp.loop (ι := { i : Nat // i ≤ l.length ∧ ∀ j, j < i → cavS (l.getD j default) = 0 }) (fun i => ⟨[(4, .mp 0), (14, .sl (cvs l)), (15, .int .i64 l.length), (16, .int .i64 i.1)], [(0, .map [.int .u64] (kvN .u64 .u64 ((l.take i.1).foldl capF [])))], 1⟩) (fun i => l.length - i.1) ⟨0, by simp⟩ ?_ ?_
    · simp [go_sem]; rfl
    · rintro ⟨i, hi, hall⟩
      refine awp_sound spcaps_T_ok.toS lv196 _ _ _ rfl ?_
      simp -implicitDefEqProofs only [cdA, go_sem, reduceIte, reduceCtorEq, Nat.reduceEqDiff, Nat.reduceAdd, Nat.reduceLeDiff, Nat.reduceSub, Nat.reduceMul, Nat.reduceLT, Nat.reduceShiftRight, Nat.reduceMod, Int.reduceLE, Int.reduceLT, Int.reduceToNat, List.cons.injEq, cdB]
      refine ⟨fun h => ⟨by omega, fun hc => ?_, fun hc => ?_⟩, fun h => ?_⟩
      · have hi' : i < l.length := by omega
        have hs : (l.take (i + 1)).foldl capF [] = capF ((l.take i).foldl capF []) (l.getD i default) := by rw [take_succ hi', List.foldl_append]; rfl
        have hn : ∀ m, m = (l.take (i + 1)).foldl capF [] → ∃ i_1 : { i : Nat // i ≤ l.length ∧ ∀ j, j < i → cavS (l.getD j default) = 0 }, l.length - i_1.val < l.length - i ∧ IntKind.i64.wrap (↑i + 1) = ↑i_1.val ∧ kvN .u64 .u64 m = kvN .u64 .u64 ((l.take i_1.val).foldl capF []) := fun m hm =>
          ⟨⟨i + 1, hi', fun j hj => by
            by_cases hji : j = i
            · subst hji; exact hc
            · exact hall j (by omega)⟩, by dsimp only; omega, i64_in _ (by omega), congrArg _ hm⟩
        rw [capF] at hs
        refine ⟨fun h4 => ⟨fun a ha => ⟨fun h5 => hn _ ?_, fun h5 => hn _ ?_⟩, fun ha => hn _ ?_⟩, fun h4 => hn _ ?_⟩
        · rw [hs, if_pos h4, ha]; exact (if_pos h5).symm
        · rw [hs, if_pos h4, ha]; exact (if_neg h5).symm
        · rw [hs, if_pos h4, ha]
        · rw [hs, if_neg h4]
      · have hb : capS l = ([], 1) := by
          rw [capS, if_neg]
          rintro ⟨_, h2⟩
          have := List.all_eq_true.1 h2 _ (mem_getD.2 ⟨i, by omega, rfl⟩)
          exact hc (by simpa using this)
        rw [hb]; exact ⟨rfl, cavS_1 hc⟩
      · have hi' : i = l.length := by omega
        subst hi'
        have hb : capS l = (l.foldl capF [], 0) := by
          rw [capS, if_pos]
          refine ⟨by omega, List.all_eq_true.2 fun x hx => ?_⟩
          obtain ⟨j, hj, rfl⟩ := mem_getD.1 hx
          simpa using hall j hj
        rw [hb, List.take_length]
        exact ⟨⟨_, _, rfl, kvC_kvN, .refl _⟩, rfl⟩
def sp_spcaps : List D → Option (Prop × D × Fr)
  | [.c (.sl z9)] => some (z9 = cvs (dcvs z9), spcaps_r (dcvs z9), [])
  | _ => none
attribute [go_sem] sp_spcaps
theorem sp_spcaps_ok : ∀ rs p r fr, sp_spcaps rs = some (p, r, fr) → p → FnOk Tryz.prog 196 rs r fr := by
  intro rs p r fr h hp
  unfold sp_spcaps at h
  split at h <;> cases h
  have hc0 := hp
  rename_i z9
  obtain ⟨z9, rfl⟩ : ∃ m, z9 = cvs m := ⟨_, hc0⟩
  simp only [dcvs_cvs]
  exact spcaps_ok z9
def okSp (l : List Ct) : Prop := Srt.Chn Ct.key ltC l ∧ ∀ c ∈ l, ¬ c.n = 0 ∧ c.n ≤ 4611686018427387904
instance (l : List Ct) : Decidable (okSp l) := by unfold okSp; infer_instance
def chkSp (l : List Ct) : Int := if l.length ≤ 128 ∧ okSp l then 0 else 1
@[go_sem] def spcheck_r (l : List Ct) : D := .int .i64 (chkSp l)
@[go_sem] abbrev n_spcheck : FuncId := 85
@[go_sem] def spcheck_T : Tab := [(122, sp_moncheck), (166, sp_sporder)]
theorem spcheck_T_ok : TabOk Tryz.prog spcheck_T := (TabOk.cons sp_moncheck_ok (TabOk.cons sp_sporder_ok TabOk.nil))
set_option maxRecDepth 8000 in
set_option maxHeartbeats 1000000 in
theorem spcheck_ok (l : List Ct)  : PureFn Tryz.prog 85 [.sl (cts l)] (spcheck_r l) := by
  refine .of (ac85 spcheck_T_ok (Nat.le_of_ble_eq_true rfl) ?_)
  simp -implicitDefEqProofs only [cdA, go_sem, Go.Proofs.Tryz.f85, reduceIte, reduceCtorEq, Nat.reduceEqDiff, Nat.reduceAdd, Nat.reduceLeDiff, Nat.reduceSub, Nat.reduceMul, Nat.reduceLT, Nat.reduceShiftRight, Nat.reduceMod, Int.reduceLE, Int.reduceLT, Int.reduceToNat, List.cons.injEq, cdB]
  refine fun hl => ⟨fun h1 => ?_, fun h1 _ => ?_⟩
  · rw [chkSp, if_neg (by omega)]
  · refine SWp.loop (ι := { i : Nat // i ≤ l.length ∧ ∀ j, j < i → (0 < j → ltC (l.getD (j - 1) default).key (l.getD j default).key) ∧ ¬ (l.getD j default).n = 0 ∧ (l.getD j default).n ≤ 4611686018427387904 }) (fun i => ⟨[(0, .sl (cts l)), (8, .sl (cts l)), (9, .int .i64 l.length), (10, .int .i64 i.1)], [], 0⟩) (fun i => l.length - i.1) ⟨0, by simp⟩ ?_ ?_
    · simp [go_sem]
    · rintro ⟨i, hi, hall⟩
      refine awp_sound spcheck_T_ok.toS lv85 _ _ _ rfl ?_
      simp -implicitDefEqProofs only [cdA, go_sem, reduceIte, reduceCtorEq, Nat.reduceEqDiff, Nat.reduceAdd, Nat.reduceLeDiff, Nat.reduceSub, Nat.reduceMul, Nat.reduceLT, Nat.reduceShiftRight, Nat.reduceMod, Int.reduceLE, Int.reduceLT, Int.reduceToNat, List.cons.injEq, cdB]
      refine ⟨fun h => ⟨by omega, ?_⟩, fun h => ?_⟩
      · have hi' : i < l.length := by omega
        refine ADraw.run us85_6 spcheck_T_ok follows_mixed (by kernel_rfl) (by kernel_rfl) ?_
        simp -implicitDefEqProofs only [cdA, go_sem, reduceIte, reduceCtorEq, Nat.reduceEqDiff, Nat.reduceAdd, Nat.reduceLeDiff, Nat.reduceSub, Nat.reduceMul, Nat.reduceLT, Nat.reduceShiftRight, Nat.reduceMod, Int.reduceLE, Int.reduceLT, Int.reduceToNat, List.cons.injEq, cdB]
        have hbad : ¬ ((0 < i → ltC (l.getD (i - 1) default).key (l.getD i default).key) ∧ ¬ (l.getD i default).n = 0 ∧ (l.getD i default).n ≤ 4611686018427387904) → 1 = chkSp l := fun hb => by
          rw [chkSp, if_neg]
          rintro ⟨_, h2, h3⟩
          exact hb ⟨fun h0 => h2 i hi' h0, h3 _ (mem_getD.2 ⟨i, hi', rfl⟩)⟩
        have hnext : (0 < i → ltC (l.getD (i - 1) default).key (l.getD i default).key) → ¬ (l.getD i default).n = 0 ∧ (l.getD i default).n ≤ 4611686018427387904 → ∃ i_1 : { i : Nat // i ≤ l.length ∧ ∀ j, j < i → (0 < j → ltC (l.getD (j - 1) default).key (l.getD j default).key) ∧ ¬ (l.getD j default).n = 0 ∧ (l.getD j default).n ≤ 4611686018427387904 }, l.length - i_1.val < l.length - i ∧ IntKind.i64.wrap (↑i + 1) = ↑i_1.val := fun ha hb =>
          ⟨⟨i + 1, hi', fun j hj => by
            by_cases hji : j = i
            · subst hji; exact ⟨ha, hb⟩
            · exact hall j (by omega)⟩, by dsimp only; omega, i64_in _ (by omega)⟩
        rw [mon1_0]
        have ho : ∀ a b, 0 ≤ ordSp a b ↔ ¬ ltC a.key b.key := fun a b => by rw [← ordSp_neg]; omega
        simp only [ho, Classical.not_not]
        refine ⟨fun h2 => ⟨fun h3 => ⟨fun h4 => ?_, fun h4 => hnext (fun h => absurd h (by omega)) ⟨by omega, h3⟩⟩, fun h3 => hbad fun h => h3 h.2.2⟩, fun h2 => hbad fun h => h.2.1 (by omega)⟩
        rw [i64_in _ (by omega), show ((i : Int) - 1).toNat = i - 1 by omega]
        exact ⟨by omega, fun h5 => hbad fun h => h5 (h.1 (by omega)), fun h5 => hnext (fun _ => h5) ⟨by omega, h3⟩⟩
      · have hi' : i = l.length := by omega
        subst hi'
        rw [chkSp, if_pos]
        refine ⟨by omega, fun j hj h0 => (hall j hj).1 h0, fun c hc => ?_⟩
        obtain ⟨j, hj, rfl⟩ := mem_getD.1 hc
        exact (hall j hj).2
def sp_spcheck : List D → Option (Prop × D × Fr)
  | [.c (.sl z10)] => some (z10 = cts (dcts z10), spcheck_r (dcts z10), [])
  | _ => none
attribute [go_sem] sp_spcheck
theorem sp_spcheck_ok : ∀ rs p r fr, sp_spcheck rs = some (p, r, fr) → p → FnOk Tryz.prog 85 rs r fr := by
  intro rs p r fr h hp
  unfold sp_spcheck at h
  split at h <;> cases h
  have hc0 := hp
  rename_i z10
  obtain ⟨z10, rfl⟩ : ∃ m, z10 = cts m := ⟨_, hc0⟩
  simp only [dcts_cts]
  exact spcheck_ok z10
@[go_sem] def spspent_r (l : List Ct) (root : Nat) (b : Nat) : D := .tup [.int .u64 (((Srt.fnd Ct.key l (root, b)).map Ct.n).getD 0 : Nat), .int .i64 (Srt.pos Ct.key ltC l (root, b) : Nat), .bool (Srt.thr Ct.key ltC l (root, b))]
@[go_sem] abbrev n_spspent : FuncId := 197
@[go_sem] def spspent_T : Tab := [(166, sp_sporder)]
theorem spspent_T_ok : TabOk Tryz.prog spspent_T := (TabOk.cons sp_sporder_ok TabOk.nil)
set_option maxRecDepth 8000 in
set_option maxHeartbeats 1000000 in
theorem spspent_ok (l : List Ct) (root : Nat) (b : Nat) (h : Srt.Up Ct.key ltC l) : PureFn Tryz.prog 197 [.sl (cts l), .c (.int .u64 (root : Int)), .c (.int .u64 (b : Int))] (spspent_r l root b) := by
  refine .of (ac197 spspent_T_ok (Nat.le_of_ble_eq_true rfl) ?_)
  simp -implicitDefEqProofs only [cdA, go_sem, Go.Proofs.Tryz.f197, reduceIte, reduceCtorEq, Nat.reduceEqDiff, Nat.reduceAdd, Nat.reduceLeDiff, Nat.reduceSub, Nat.reduceMul, Nat.reduceLT, Nat.reduceShiftRight, Nat.reduceMod, Int.reduceLE, Int.reduceLT, Int.reduceToNat, List.cons.injEq, cdB]
  refine ac242 spspent_T_ok (Nat.le_of_ble_eq_true rfl) ?_
  simp -implicitDefEqProofs only [cdA, go_sem, Go.Proofs.Tryz.f242, reduceIte, reduceCtorEq, Nat.reduceEqDiff, Nat.reduceAdd, Nat.reduceLeDiff, Nat.reduceSub, Nat.reduceMul, Nat.reduceLT, Nat.reduceShiftRight, Nat.reduceMod, Int.reduceLE, Int.reduceLT, Int.reduceToNat, List.cons.injEq, cdB]
  refine fun _ => SWp.loop (ι := { x : Nat × Nat // x.1 ≤ x.2 ∧ x.2 ≤ l.length ∧ (∀ k, k < x.1 → ltC (l.getD k default).key (root, b)) ∧ ∀ k, x.2 ≤ k → k < l.length → ¬ ltC (l.getD k default).key (root, b) }) (fun x => ⟨[(0, .sl (cts l)), (2, .fn (.func 166) [] []), (4, .ref 0 0), (8, .int .i64 l.length), (9, .int .i64 x.1.1), (10, .int .i64 x.1.2)], [(0, .box [.int .u64 root, .int .u64 b, .int .u64 0])], 1⟩) (fun x => x.1.2 - x.1.1) ⟨(0, l.length), by simp, by simp, fun k hk => absurd hk (by simp), fun k h1 h2 => absurd h1 (by simpa using h2)⟩ ?_ ?_
  · simp [go_sem]
  · rintro ⟨⟨i, j⟩, hij, hj, hlo, hup⟩
    dsimp only at hij hj hlo hup
    refine awp_sound spspent_T_ok.toS lv242 _ _ _ rfl ?_
    simp -implicitDefEqProofs only [cdA, go_sem, reduceIte, reduceCtorEq, Nat.reduceEqDiff, Nat.reduceAdd, Nat.reduceLeDiff, Nat.reduceSub, Nat.reduceMul, Nat.reduceLT, Nat.reduceShiftRight, Nat.reduceMod, Int.reduceLE, Int.reduceLT, Int.reduceToNat, List.cons.injEq, cdB]
    rw [mid_eq hij hj ‹_›]
    refine ⟨fun h4 => ?_, fun h4 => ?_⟩
    · have hm : (i + j) / 2 < l.length := by omega
      refine ADraw.run us242_5 spspent_T_ok follows_mixed (by kernel_rfl) (by kernel_rfl) ?_
      simp -implicitDefEqProofs only [cdA, go_sem, reduceIte, reduceCtorEq, Nat.reduceEqDiff, Nat.reduceAdd, Nat.reduceLeDiff, Nat.reduceSub, Nat.reduceMul, Nat.reduceLT, Nat.reduceShiftRight, Nat.reduceMod, Int.reduceLE, Int.reduceLT, Int.reduceToNat, List.cons.injEq, cdB]
      rw [ordSp_neg]
      refine ⟨by omega, fun h5 => ⟨⟨((i + j) / 2 + 1, j), by dsimp only; omega, hj, fun k hk => ?_, hup⟩, by dsimp only; omega, i64_in _ (by omega), rfl⟩, fun h5 => ⟨⟨(i, (i + j) / 2), by dsimp only; omega, by dsimp only; omega, hlo, fun k hk1 hk2 => ?_⟩, by dsimp only; omega, rfl, rfl⟩⟩
      · dsimp only at hk
        by_cases hkm : k = (i + j) / 2
        · rw [hkm]; exact h5
        · exact totC.tr (Srt.up_get.1 h k _ (by omega) hm) h5
      · dsimp only at hk1
        by_cases hkm : k = (i + j) / 2
        · rw [hkm]; exact h5
        · exact fun h6 => h5 (totC.tr (Srt.up_get.1 h _ k (by omega) hk2) h6)
    · refine ADraw.run us242_8 spspent_T_ok follows_mixed (by kernel_rfl) (by kernel_rfl) ?_
      simp -implicitDefEqProofs only [cdA, go_sem, reduceIte, reduceCtorEq, Nat.reduceEqDiff, Nat.reduceAdd, Nat.reduceLeDiff, Nat.reduceSub, Nat.reduceMul, Nat.reduceLT, Nat.reduceShiftRight, Nat.reduceMod, Int.reduceLE, Int.reduceLT, Int.reduceToNat, List.cons.injEq, cdB]
      have hp : Srt.pos Ct.key ltC l (root, b) = i := Srt.pos_eq (by omega) hlo (fun h => hup i (by omega) h)
      rw [Srt.fnd_thr totC h, Srt.thr, hp, ordSp_0]
      refine ⟨fun h5 => ⟨by omega, fun h6 => ⟨by omega, ?_⟩, fun h6 => ?_⟩, fun h5 => ?_⟩
      · have h7 : i < l.length ∧ (l.getD i default).key = (root, b) := ⟨by omega, h6⟩
        rw [decide_eq_true h7]; exact ⟨rfl, rfl, rfl⟩
      · have h7 : ¬ (i < l.length ∧ (l.getD i default).key = (root, b)) := fun h => h6 h.2
        rw [decide_eq_false h7]; exact ⟨rfl, rfl, rfl⟩
      · have h7 : ¬ (i < l.length ∧ (l.getD i default).key = (root, b)) := fun h => by omega
        rw [decide_eq_false h7]; exact ⟨rfl, rfl, rfl⟩
@[go_sem] def spspent_p (l : List Ct) (root : Nat) (b : Nat) : Prop := (Srt.Up Ct.key ltC l)
def sp_spspent : List D → Option (Prop × D × Fr)
  | [.c (.sl z11), .c (.int .u64 z12), .c (.int .u64 z13)] => some (z11 = cts (dcts z11) ∧ z12 = (z12.toNat : Int) ∧ z13 = (z13.toNat : Int) ∧ spspent_p (dcts z11) z12.toNat z13.toNat, spspent_r (dcts z11) z12.toNat z13.toNat, [])
  | _ => none
attribute [go_sem] sp_spspent
theorem sp_spspent_ok : ∀ rs p r fr, sp_spspent rs = some (p, r, fr) → p → FnOk Tryz.prog 197 rs r fr := by
  intro rs p r fr h hp
  unfold sp_spspent at h
  split at h <;> cases h
  obtain ⟨hc0, hc1, hc2, hp⟩ := hp
  rename_i z11 z12 z13
  obtain ⟨z11, rfl⟩ : ∃ m, z11 = cts m := ⟨_, hc0⟩
  obtain ⟨z12, rfl⟩ : ∃ m : Nat, z12 = m := ⟨_, hc1⟩
  obtain ⟨z13, rfl⟩ : ∃ m : Nat, z13 = m := ⟨_, hc2⟩
  simp only [Int.toNat_natCast, dcts_cts]
  simp only [Int.toNat_natCast, dcts_cts, spspent_p] at hp
  exact spspent_ok z11 z12 z13 hp
@[go_sem] def spclone_r (l : List Ct) : D := .vec 0 l.length
@[go_sem] def spclone_fr (l : List Ct) : Fr := [(3, 160, true, cts l)]
@[go_sem] abbrev n_spclone : FuncId := 136
@[go_sem] def spclone_T : Tab := []
theorem spclone_T_ok : TabOk Tryz.prog spclone_T := TabOk.nil
set_option maxRecDepth 8000 in
set_option maxHeartbeats 1000000 in
theorem spclone_ok (l : List Ct) (hl : l.length ≤ 1000000) : FreshFn Tryz.prog 136 [.sl (cts l)] (spclone_r l) (spclone_fr l) := by
  refine .of (ac136 spclone_T_ok (Nat.le_of_ble_eq_true rfl) ?_)
  simp -implicitDefEqProofs only [cdA, go_sem, Go.Proofs.Tryz.f136, reduceIte, reduceCtorEq, Nat.reduceEqDiff, Nat.reduceAdd, Nat.reduceLeDiff, Nat.reduceSub, Nat.reduceMul, Nat.reduceLT, Nat.reduceShiftRight, Nat.reduceMod, Int.reduceLE, Int.reduceLT, Int.reduceToNat, List.cons.injEq, cdB]
  refine fun b hb => ⟨fun h => ?_, fun h => ?_⟩
  · exact ⟨[none], by simp [go_sem, hb h], by cases l <;> simp_all [go_sem, cts]⟩
  · exact ⟨by omega, [some 0], by simp [go_sem]⟩
@[go_sem] def spclone_p (l : List Ct) : Prop := (l.length ≤ 1000000)
def sp_spclone : List D → Option (Prop × D × Fr)
  | [.c (.sl z14)] => some (z14 = cts (dcts z14) ∧ spclone_p (dcts z14), spclone_r (dcts z14), spclone_fr (dcts z14))
  | _ => none
attribute [go_sem] sp_spclone
theorem sp_spclone_ok : ∀ rs p r fr, sp_spclone rs = some (p, r, fr) → p → FnOk Tryz.prog 136 rs r fr := by
  intro rs p r fr h hp
  unfold sp_spclone at h
  split at h <;> cases h
  obtain ⟨hc0, hp⟩ := hp
  rename_i z14
  obtain ⟨z14, rfl⟩ : ∃ m, z14 = cts m := ⟨_, hc0⟩
  simp only [dcts_cts]
  simp only [dcts_cts, spclone_p] at hp
  exact (show FnOk _ _ _ _ _ from And.intro rfl (spclone_ok z14 hp))
theorem chkSp_0 {l : List Ct} (h : chkSp l = 0) : l.length ≤ 128 ∧ Srt.Up Ct.key ltC l ∧ ∀ c ∈ l, ¬ c.n = 0 ∧ c.n ≤ 4611686018427387904 := by
  unfold chkSp at h
  split at h
  · rename_i h1; exact ⟨h1.1, (Srt.chn_up totC).1 h1.2.1, h1.2.2⟩
  · cases h
def wasSp (l : List Ct) (root b : Nat) : Nat := ((Srt.fnd Ct.key l (root, b)).map Ct.n).getD 0
def sumsS (l : List Ct) (root : Nat) (cav : List Cv) (n : Nat) : List (Nat × Int) × Int :=
  if (capS cav).2 = 0 ∧ chkSp l = 0 ∧ n ≤ 4611686018427387904 then
    (if (capS cav).1.all (fun x => decide ((wasSp l root x.1 : Int) + n ≤ 4611686018427387904 ∧ (wasSp l root x.1 : Int) + n ≤ x.2)) = true then ((capS cav).1.map fun x => (x.1, (wasSp l root x.1 : Int) + n), 0) else ([], 8))
  else ([], 1)
theorem cap_nd (l : List Cv) : ((capS l).1.map (·.1)).Nodup := by
  have : ∀ (l : List Cv) (m : List (Nat × Int)), (m.map (·.1)).Nodup → ((l.foldl capF m).map (·.1)).Nodup := by
    intro l
    induction l with
    | nil => exact fun m h => h
    | cons c l ih =>
      intro m h
      refine ih _ ?_
      unfold capF
      split
      · split
        · split
          · exact nset_nd h
          · exact h
        · exact nset_nd h
      · exact h
  unfold capS
  split
  · exact this l [] (by simp)
  · simp
theorem addM2 {a b : Nat} (ha : a ≤ 4611686018427387904) (hb : b ≤ 4611686018427387904) : addM [a, b] = if a + b ≤ 4611686018427387904 then (a + b, 0) else (0, 8) := by
  have : monS [a, b] = 0 := by simp [monS, ha, hb]
  have e : [a, b].sum = a + b := by simp
  rw [addM, if_pos this, e]
theorem was_le {l : List Ct} (h : chkSp l = 0) (root b : Nat) : wasSp l root b ≤ 4611686018427387904 := by
  unfold wasSp
  cases hf : Srt.fnd Ct.key l (root, b) with
  | none => simp
  | some c => exact ((chkSp_0 h).2.2 c ((Srt.fnd_some totC (chkSp_0 h).2.1).1 hf).1).2
@[go_sem] def spsums_r (l : List Ct) (root : Nat) (cav : List Cv) (n : Nat) : D := .tup [.c (.map [.int .u64] (kvF .u64 .u64 (sumsS l root cav n).1)), .int .i64 (sumsS l root cav n).2]
@[go_sem] abbrev n_spsums : FuncId := 114
@[go_sem] def spsums_T : Tab := [(196, sp_spcaps), (85, sp_spcheck), (122, sp_moncheck), (197, sp_spspent), (198, sp_monadd)]
theorem spsums_T_ok : TabOk Tryz.prog spsums_T := (TabOk.cons sp_spcaps_ok (TabOk.cons sp_spcheck_ok (TabOk.cons sp_moncheck_ok (TabOk.cons sp_spspent_ok (TabOk.cons sp_monadd_ok TabOk.nil)))))
set_option maxRecDepth 8000 in
set_option maxHeartbeats 1000000 in
theorem spsums_ok (l : List Ct) (root : Nat) (cav : List Cv) (n : Nat)  : PureFn Tryz.prog 114 [.sl (cts l), .c (.int .u64 (root : Int)), .sl (cvs cav), .c (.int .u64 (n : Int))] (spsums_r l root cav n) := by
  refine .of (ac114 spsums_T_ok (Nat.le_of_ble_eq_true rfl) ?_)
  simp -implicitDefEqProofs only [cdA, go_sem, Go.Proofs.Tryz.f114, reduceIte, reduceCtorEq, Nat.reduceEqDiff, Nat.reduceAdd, Nat.reduceLeDiff, Nat.reduceSub, Nat.reduceMul, Nat.reduceLT, Nat.reduceShiftRight, Nat.reduceMod, Int.reduceLE, Int.reduceLT, Int.reduceToNat, List.cons.injEq, cdB]
  rw [mon1_0]
  refine ⟨fun h1 => ⟨fun h2 => ⟨fun h3 => ?_, fun h3 => ?_⟩, fun h2 => ?_⟩, fun h1 => ?_⟩
  · have hnd := cap_nd cav
    have hs : sumsS l root cav n = if (capS cav).1.all (fun x => decide ((wasSp l root x.1 : Int) + n ≤ 4611686018427387904 ∧ (wasSp l root x.1 : Int) + n ≤ x.2)) = true then ((capS cav).1.map fun x => (x.1, (wasSp l root x.1 : Int) + n), 0) else ([], 8) := by rw [sumsS, if_pos ⟨h1, h2, h3⟩]
    rw [hs]
    generalize (capS cav).1 = m at *
    refine SWp.loop (ι := { sn : List (Nat × Int) // sn.Nodup ∧ (∀ x ∈ sn, x ∈ m) ∧ ∀ x ∈ sn, (wasSp l root x.1 : Int) + n ≤ 4611686018427387904 ∧ (wasSp l root x.1 : Int) + n ≤ x.2 }) (fun sn => ⟨[(0, .sl (cts l)), (1, .int .u64 root), (3, .int .u64 n), (12, .mp 1), (40, .ref 2 0)],
      [(2, .it (kvF .u64 .u64 m) (kvF .u64 .u64 sn.1)), (1, .map [.int .u64] (kvN .u64 .u64 (sn.1.map fun x => (x.1, (wasSp l root x.1 : Int) + n))))], 3⟩) (fun sn => m.length - sn.1.length) ⟨[], by simp⟩ ?_ ?_
    · simp [go_sem]; exact ⟨rfl, rfl⟩
    · rintro ⟨sn, hsn, hsm, hok⟩
      refine awp_sound spsums_T_ok.toS lv114 _ _ _ rfl ?_
      simp -implicitDefEqProofs only [cdA, go_sem, reduceIte, reduceCtorEq, Nat.reduceEqDiff, Nat.reduceAdd, Nat.reduceLeDiff, Nat.reduceSub, Nat.reduceMul, Nat.reduceLT, Nat.reduceShiftRight, Nat.reduceMod, Int.reduceLE, Int.reduceLT, Int.reduceToNat, List.cons.injEq, cdB]
      have hfail : ∀ a b, (a, b) ∈ m → ¬ ((wasSp l root a : Int) + n ≤ 4611686018427387904 ∧ (wasSp l root a : Int) + n ≤ b) → m.all (fun x => decide ((wasSp l root x.1 : Int) + n ≤ 4611686018427387904 ∧ (wasSp l root x.1 : Int) + n ≤ x.2)) = false := fun a b hab hn => by
        rw [List.all_eq_false]
        exact ⟨_, hab, by simpa using hn⟩
      refine ⟨fun a b hab hns => ⟨(chkSp_0 h2).2.1, ?_⟩, fun hall => ?_⟩
      · rw [show ((Srt.fnd Ct.key l (root, a)).map Ct.n).getD 0 = wasSp l root a from rfl, addM2 (was_le h2 root a) h3]
        by_cases h4 : wasSp l root a + n ≤ 4611686018427387904
        · rw [if_pos h4]
          refine ⟨fun _ => ⟨fun h5 => ?_, fun h5 => ?_⟩, fun h => absurd rfl h⟩
          · rw [hfail a b hab (by dsimp only at h5; omega)]; exact ⟨rfl, rfl⟩
          · dsimp only at h5
            refine ⟨⟨sn ++ [(a, b)], nd_add hsn hns, fun x hx => ?_, fun x hx => ?_⟩, ?_, rfl, ?_⟩
            · rcases List.mem_append.1 hx with hx | hx
              · exact hsm x hx
              · simp at hx; subst hx; exact hab
            · rcases List.mem_append.1 hx with hx | hx
              · exact hok x hx
              · simp at hx; subst hx; exact ⟨by dsimp only; omega, by dsimp only; omega⟩
            · have := List.Nodup.length_le_of_subset (nd_add hsn hns) (l₂ := m) (fun x hx => by
                rcases List.mem_append.1 hx with hx | hx
                · exact hsm x hx
                · simp at hx; subst hx; exact hab)
              simp at this ⊢
              omega
            · have hk : a ∉ (sn.map fun x => (x.1, (wasSp l root x.1 : Int) + n)).map (·.1) := by
                rw [List.map_map]; exact nd_key hnd hsm hab hns
              rw [nset_new hk, List.map_append]; simp
        · rw [if_neg h4]
          refine ⟨fun h => absurd h (by decide), fun _ => ?_⟩
          rw [hfail a b hab (by omega)]; exact ⟨rfl, rfl⟩
      · have hp : sn.Perm m := (List.perm_ext_iff_of_nodup hsn (nd_of_keys hnd)).2 fun x => ⟨hsm x, fun hx => hall x.1 x.2 hx⟩
        rw [if_pos (List.all_eq_true.2 fun x hx => by simpa using hok x (hp.mem_iff.2 hx))]
        exact ⟨⟨_, _, rfl, kvC_kvN, kvF_perm (hp.map _)⟩, rfl⟩
  · rw [sumsS, if_neg (fun h => h3 h.2.2)]; exact ⟨rfl, rfl⟩
  · rw [sumsS, if_neg (fun h => h2 h.2.1)]; exact ⟨rfl, rfl⟩
  · rw [sumsS, if_neg (fun h => h1 h.1)]; exact ⟨rfl, rfl⟩
def sp_spsums : List D → Option (Prop × D × Fr)
  | [.c (.sl z15), .c (.int .u64 z16), .c (.sl z17), .c (.int .u64 z18)] => some (z15 = cts (dcts z15) ∧ z16 = (z16.toNat : Int) ∧ z17 = cvs (dcvs z17) ∧ z18 = (z18.toNat : Int), spsums_r (dcts z15) z16.toNat (dcvs z17) z18.toNat, [])
  | _ => none
attribute [go_sem] sp_spsums
theorem sp_spsums_ok : ∀ rs p r fr, sp_spsums rs = some (p, r, fr) → p → FnOk Tryz.prog 114 rs r fr := by
  intro rs p r fr h hp
  unfold sp_spsums at h
  split at h <;> cases h
  obtain ⟨hc0, hc1, hc2, hc3⟩ := hp
  rename_i z15 z16 z17 z18
  obtain ⟨z15, rfl⟩ : ∃ m, z15 = cts m := ⟨_, hc0⟩
  obtain ⟨z16, rfl⟩ : ∃ m : Nat, z16 = m := ⟨_, hc1⟩
  obtain ⟨z17, rfl⟩ : ∃ m, z17 = cvs m := ⟨_, hc2⟩
  obtain ⟨z18, rfl⟩ : ∃ m : Nat, z18 = m := ⟨_, hc3⟩
  simp only [Int.toNat_natCast, dcts_cts, dcvs_cvs]
  exact spsums_ok z15 z16 z17 z18
def mayS (l : List Ct) (root : Nat) (cav : List Cv) (n : Nat) : Bool × Int := if (sumsS l root cav n).2 = 8 then (false, 0) else (decide ((sumsS l root cav n).2 = 0), (sumsS l root cav n).2)
@[go_sem] def spMay_r (l : List Ct) (root : Nat) (cav : List Cv) (n : Nat) : D := .tup [.bool (mayS l root cav n).1, .int .i64 (mayS l root cav n).2]
@[go_sem] abbrev n_spMay : FuncId := 48
@[go_sem] def spMay_T : Tab := [(114, sp_spsums)]
theorem spMay_T_ok : TabOk Tryz.prog spMay_T := (TabOk.cons sp_spsums_ok TabOk.nil)
set_option maxRecDepth 8000 in
set_option maxHeartbeats 1000000 in
theorem spMay_ok (l : List Ct) (root : Nat) (cav : List Cv) (n : Nat)  : PureFn Tryz.prog 48 [.sl (cts l), .c (.int .u64 (root : Int)), .sl (cvs cav), .c (.int .u64 (n : Int))] (spMay_r l root cav n) := by
  refine .of (ac48 spMay_T_ok (Nat.le_of_ble_eq_true rfl) ?_)
  simp -implicitDefEqProofs only [cdA, go_sem, Go.Proofs.Tryz.f48, reduceIte, reduceCtorEq, Nat.reduceEqDiff, Nat.reduceAdd, Nat.reduceLeDiff, Nat.reduceSub, Nat.reduceMul, Nat.reduceLT, Nat.reduceShiftRight, Nat.reduceMod, Int.reduceLE, Int.reduceLT, Int.reduceToNat, List.cons.injEq, cdB]
  refine ⟨fun h => ?_, fun h => ?_⟩
  · rw [mayS, if_pos h]; exact ⟨rfl, rfl⟩
  · rw [mayS, if_neg h]; exact ⟨rfl, rfl⟩
def sp_spMay : List D → Option (Prop × D × Fr)
  | [.c (.sl z19), .c (.int .u64 z20), .c (.sl z21), .c (.int .u64 z22)] => some (z19 = cts (dcts z19) ∧ z20 = (z20.toNat : Int) ∧ z21 = cvs (dcvs z21) ∧ z22 = (z22.toNat : Int), spMay_r (dcts z19) z20.toNat (dcvs z21) z22.toNat, [])
  | _ => none
attribute [go_sem] sp_spMay
theorem sp_spMay_ok : ∀ rs p r fr, sp_spMay rs = some (p, r, fr) → p → FnOk Tryz.prog 48 rs r fr := by
  intro rs p r fr h hp
  unfold sp_spMay at h
  split at h <;> cases h
  obtain ⟨hc0, hc1, hc2, hc3⟩ := hp
  rename_i z19 z20 z21 z22
  obtain ⟨z19, rfl⟩ : ∃ m, z19 = cts m := ⟨_, hc0⟩
  obtain ⟨z20, rfl⟩ : ∃ m : Nat, z20 = m := ⟨_, hc1⟩
  obtain ⟨z21, rfl⟩ : ∃ m, z21 = cvs m := ⟨_, hc2⟩
  obtain ⟨z22, rfl⟩ : ∃ m : Nat, z22 = m := ⟨_, hc3⟩
  simp only [Int.toNat_natCast, dcts_cts, dcvs_cvs]
  exact spMay_ok z19 z20 z21 z22
end Dm
namespace Dm
open Go Go.Proofs Go.IntWalk
def amtS (r : Rq) : Nat × Int := if rqS r = 0 then (if r.method = 1 then (r.n, 0) else if r.method = 2 then sumB r.items else (0, 0)) else (0, rqS r)
@[go_sem] def amt_r (r : Rq) : D := .tup [.int .u64 ((amtS r).1 : Nat), .int .i64 (amtS r).2]
@[go_sem] abbrev n_amt : FuncId := 57
@[go_sem] def amt_T : Tab := [(120, sp_rqcheck), (121, sp_bsum)]
theorem amt_T_ok : TabOk Tryz.prog amt_T := (TabOk.cons sp_rqcheck_ok (TabOk.cons sp_bsum_ok TabOk.nil))
set_option maxRecDepth 8000 in
set_option maxHeartbeats 1000000 in
theorem amt_ok (r : Rq)  : PureFn Tryz.prog 57 [.agg [.c (.int .u64 (r.id : Int)), .c (.int .i64 r.method), .c (.int .u64 (r.key : Int)), .c (.int .u64 (r.t.root : Int)), .sl (cvs r.t.l), .c (.int .i64 r.t.tag), .c (.int .u64 (r.a : Int)), .c (.int .u64 (r.n : Int)), .c (.int .u64 (r.till : Int)), .sl (its r.items), .sl (cvs r.l)]] (amt_r r) := by
  refine .of (ac57 amt_T_ok (Nat.le_of_ble_eq_true rfl) ?_)
  simp -implicitDefEqProofs only [cdA, go_sem, Go.Proofs.Tryz.f57, reduceIte, reduceCtorEq, Nat.reduceEqDiff, Nat.reduceAdd, Nat.reduceLeDiff, Nat.reduceSub, Nat.reduceMul, Nat.reduceLT, Nat.reduceShiftRight, Nat.reduceMod, Int.reduceLE, Int.reduceLT, Int.reduceToNat, List.cons.injEq, cdB]
  refine ⟨fun h => ⟨fun h1 => ?_, fun h1 => ⟨fun h2 => ?_, fun h2 => ?_⟩⟩, fun h => ?_⟩
  · rw [amtS, if_pos h, if_pos h1]; exact ⟨rfl, rfl⟩
  · rw [amtS, if_pos h, if_neg h1, if_pos h2]; exact ⟨rfl, rfl⟩
  · rw [amtS, if_pos h, if_neg h1, if_neg h2]; exact ⟨rfl, rfl⟩
  · rw [amtS, if_neg h]; exact ⟨rfl, rfl⟩
def sp_amt : List D → Option (Prop × D × Fr)
  | [.agg [.c (.int .u64 z2), .c (.int .i64 z3), .c (.int .u64 z4), .c (.int .u64 z6), .c (.sl z7), .c (.int .i64 z8), .c (.int .u64 z9), .c (.int .u64 z10), .c (.int .u64 z11), .c (.sl z12), .c (.sl z13)]] => some (z2 = (z2.toNat : Int) ∧ z4 = (z4.toNat : Int) ∧ z6 = (z6.toNat : Int) ∧ z7 = cvs (dcvs z7) ∧ z9 = (z9.toNat : Int) ∧ z10 = (z10.toNat : Int) ∧ z11 = (z11.toNat : Int) ∧ z12 = its (dits z12) ∧ z13 = cvs (dcvs z13), amt_r (⟨z2.toNat, z3, z4.toNat, (⟨z6.toNat, (dcvs z7), z8⟩ : Tk), z9.toNat, z10.toNat, z11.toNat, (dits z12), (dcvs z13)⟩ : Rq), [])
  | _ => none
attribute [go_sem] sp_amt
theorem sp_amt_ok : ∀ rs p r fr, sp_amt rs = some (p, r, fr) → p → FnOk Tryz.prog 57 rs r fr := by
  intro rs p r fr h hp
  unfold sp_amt at h
  split at h <;> cases h
  obtain ⟨hc0, hc1, hc2, hc3, hc4, hc5, hc6, hc7, hc8⟩ := hp
  rename_i z2 z3 z4 z6 z7 z8 z9 z10 z11 z12 z13
  obtain ⟨z2, rfl⟩ : ∃ m : Nat, z2 = m := ⟨_, hc0⟩
  obtain ⟨z4, rfl⟩ : ∃ m : Nat, z4 = m := ⟨_, hc1⟩
  obtain ⟨z6, rfl⟩ : ∃ m : Nat, z6 = m := ⟨_, hc2⟩
  obtain ⟨z7, rfl⟩ : ∃ m, z7 = cvs m := ⟨_, hc3⟩
  obtain ⟨z9, rfl⟩ : ∃ m : Nat, z9 = m := ⟨_, hc4⟩
  obtain ⟨z10, rfl⟩ : ∃ m : Nat, z10 = m := ⟨_, hc5⟩
  obtain ⟨z11, rfl⟩ : ∃ m : Nat, z11 = m := ⟨_, hc6⟩
  obtain ⟨z12, rfl⟩ : ∃ m, z12 = its m := ⟨_, hc7⟩
  obtain ⟨z13, rfl⟩ : ∃ m, z13 = cvs m := ⟨_, hc8⟩
  simp only [Int.toNat_natCast, dcvs_cvs, dits_its]
  exact amt_ok ⟨z2, z3, z4, ⟨z6, z7, z8⟩, z9, z10, z11, z12, z13⟩
structure Bk where
  w : Wl
  a : Ar
  r : List Rk
  k : List Ky
  s : List Ct
deriving DecidableEq, Inhabited
@[go_sem] def Bk.enc (e : Bk) : List C := [.sl (chs e.w.c), .sl (wts e.w.w), .sl (ivs e.w.i), .sl (pys e.w.p), .int .u64 (e.w.f.next : Int), .sl (evs e.w.f.l), .int .u64 (e.w.next : Int), .int .u64 (e.w.tick : Int), .sl (tms e.a.l), .sl (rks e.r), .sl (kys e.k), .sl (cts e.s)]
def Bk.dec : List C → Bk
  | [.sl z16, .sl z17, .sl z18, .sl z19, .int .u64 z21, .sl z22, .int .u64 z23, .int .u64 z24, .sl z26, .sl z27, .sl z28, .sl z29] => (⟨(⟨(dchs z16), (dwts z17), (divs z18), (dpys z19), (⟨z21.toNat, (devs z22)⟩ : Fd), z23.toNat, z24.toNat⟩ : Wl), (⟨(dtms z26)⟩ : Ar), (drks z27), (dkys z28), (dcts z29)⟩ : Bk)
  | _ => default
def bks (l : List Bk) : List (List C) := l.map Bk.enc
def dbks (l : List (List C)) : List Bk := l.map Bk.dec
@[simp, go_sem] theorem bks_length (l : List Bk) : (bks l).length = l.length := by simp [bks]
@[go_sem] theorem bks_get (l : List Bk) (i : Nat) : (bks l).getD i [.sl [], .sl [], .sl [], .sl [], .int .u64 0, .sl [], .int .u64 0, .int .u64 0, .sl [], .sl [], .sl [], .sl []] = (l.getD i default).enc := by
  simp only [bks, List.getD_eq_getElem?_getD, List.getElem?_map]
  cases l[i]? <;> rfl
@[go_sem] theorem bks_wide (l : List Bk) : Wide 12 (bks l) = True := by
  simp [Wide, bks, Bk.enc]
theorem Bk.dec_enc (e : Bk) : Bk.dec e.enc = e := by
  simp [Bk.enc, Bk.dec, dchs_chs, dcts_cts, devs_evs, divs_ivs, dkys_kys, dpys_pys, drks_rks, dtms_tms, dwts_wts]
@[go_sem] theorem dbks_bks (l : List Bk) : dbks (bks l) = l := by
  simp only [dbks, bks, List.map_map]
  exact List.map_id'' (fun e => Bk.dec_enc e) l
@[go_sem] theorem bks_app (a b : List Bk) : bks a ++ bks b = bks (a ++ b) := by simp [bks]
@[go_sem] theorem bks_drop (l : List Bk) (k : Nat) : (bks l).drop k = bks (l.drop k) := by simp [bks]
@[go_sem] theorem bks_take (l : List Bk) (k : Nat) : (bks l).take k = bks (l.take k) := by simp [bks]
@[go_sem] theorem bks_one (z30 : List Ch) (z31 : List Wt) (z32 : List Iv) (z33 : List Py) (z34 : Int) (z35 : List Ev) (z36 : Int) (z37 : Int) (z38 : List Tm) (z39 : List Rk) (z40 : List Ky) (z41 : List Ct) (hz34 : 0 ≤ z34) (hz36 : 0 ≤ z36) (hz37 : 0 ≤ z37) : [[C.sl (chs z30), C.sl (wts z31), C.sl (ivs z32), C.sl (pys z33), C.int .u64 z34, C.sl (evs z35), C.int .u64 z36, C.int .u64 z37, C.sl (tms z38), C.sl (rks z39), C.sl (kys z40), C.sl (cts z41)]] = bks [⟨⟨z30, z31, z32, z33, ⟨z34.toNat, z35⟩, z36.toNat, z37.toNat⟩, ⟨z38⟩, z39, z40, z41⟩] := by simp [bks, Bk.enc, Int.toNat_of_nonneg hz34, Int.toNat_of_nonneg hz36, Int.toNat_of_nonneg hz37]
@[go_sem] theorem bks_set (l : List Bk) (i : Nat) (z30 : List Ch) (z31 : List Wt) (z32 : List Iv) (z33 : List Py) (z34 : Int) (z35 : List Ev) (z36 : Int) (z37 : Int) (z38 : List Tm) (z39 : List Rk) (z40 : List Ky) (z41 : List Ct) (hz34 : 0 ≤ z34) (hz36 : 0 ≤ z36) (hz37 : 0 ≤ z37) : (bks l).set i [C.sl (chs z30), C.sl (wts z31), C.sl (ivs z32), C.sl (pys z33), C.int .u64 z34, C.sl (evs z35), C.int .u64 z36, C.int .u64 z37, C.sl (tms z38), C.sl (rks z39), C.sl (kys z40), C.sl (cts z41)] = bks (l.set i ⟨⟨z30, z31, z32, z33, ⟨z34.toNat, z35⟩, z36.toNat, z37.toNat⟩, ⟨z38⟩, z39, z40, z41⟩) := by simp [bks, List.map_set, Bk.enc, Int.toNat_of_nonneg hz34, Int.toNat_of_nonneg hz36, Int.toNat_of_nonneg hz37]
@[go_sem] theorem bks_cons (l : List Bk) (z30 : List Ch) (z31 : List Wt) (z32 : List Iv) (z33 : List Py) (z34 : Int) (z35 : List Ev) (z36 : Int) (z37 : Int) (z38 : List Tm) (z39 : List Rk) (z40 : List Ky) (z41 : List Ct) (hz34 : 0 ≤ z34) (hz36 : 0 ≤ z36) (hz37 : 0 ≤ z37) : [C.sl (chs z30), C.sl (wts z31), C.sl (ivs z32), C.sl (pys z33), C.int .u64 z34, C.sl (evs z35), C.int .u64 z36, C.int .u64 z37, C.sl (tms z38), C.sl (rks z39), C.sl (kys z40), C.sl (cts z41)] :: bks l = bks (⟨⟨z30, z31, z32, z33, ⟨z34.toNat, z35⟩, z36.toNat, z37.toNat⟩, ⟨z38⟩, z39, z40, z41⟩ :: l) := by simp [bks, Bk.enc, Int.toNat_of_nonneg hz34, Int.toNat_of_nonneg hz36, Int.toNat_of_nonneg hz37]
@[go_sem] theorem Bk.eta {e : Bk} : (⟨e.w, e.a, e.r, e.k, e.s⟩ : Bk) = e := rfl
def chkB (b : Bk) : Int := if chkW b.w ≠ 0 then chkW b.w else if chkAr b.a.l ≠ 0 then chkAr b.a.l else if chkR b.r ≠ 0 then chkR b.r else if chkK b.k ≠ 0 then chkK b.k else chkSp b.s
@[go_sem] def gcheck_r (b : Bk) : D := .int .i64 (chkB b)
@[go_sem] abbrev n_gcheck : FuncId := 31
@[go_sem] def gcheck_T : Tab := [(82, sp_wcheck), (54, sp_archeck), (83, sp_rocheck), (84, sp_idcheck), (85, sp_spcheck)]
theorem gcheck_T_ok : TabOk Tryz.prog gcheck_T := (TabOk.cons sp_wcheck_ok (TabOk.cons sp_archeck_ok (TabOk.cons sp_rocheck_ok (TabOk.cons sp_idcheck_ok (TabOk.cons sp_spcheck_ok TabOk.nil)))))
set_option maxRecDepth 8000 in
set_option maxHeartbeats 1000000 in
theorem gcheck_ok (b : Bk) (h : b.w.f.next ≤ 18446744073709551615) : PureFn Tryz.prog 31 [.agg [.sl (chs b.w.c), .sl (wts b.w.w), .sl (ivs b.w.i), .sl (pys b.w.p), .c (.int .u64 (b.w.f.next : Int)), .sl (evs b.w.f.l), .c (.int .u64 (b.w.next : Int)), .c (.int .u64 (b.w.tick : Int)), .sl (tms b.a.l), .sl (rks b.r), .sl (kys b.k), .sl (cts b.s)]] (gcheck_r b) := by
  refine .of (ac31 gcheck_T_ok (Nat.le_of_ble_eq_true rfl) ?_)
  simp -implicitDefEqProofs only [cdA, go_sem, Go.Proofs.Tryz.f31, reduceIte, reduceCtorEq, Nat.reduceEqDiff, Nat.reduceAdd, Nat.reduceLeDiff, Nat.reduceSub, Nat.reduceMul, Nat.reduceLT, Nat.reduceShiftRight, Nat.reduceMod, Int.reduceLE, Int.reduceLT, Int.reduceToNat, List.cons.injEq, cdB]
  refine ADraw.run us31_1 gcheck_T_ok follows_mixed (by kernel_rfl) (by kernel_rfl) ?_
  simp -implicitDefEqProofs only [cdA, go_sem, reduceIte, reduceCtorEq, Nat.reduceEqDiff, Nat.reduceAdd, Nat.reduceLeDiff, Nat.reduceSub, Nat.reduceMul, Nat.reduceLT, Nat.reduceShiftRight, Nat.reduceMod, Int.reduceLE, Int.reduceLT, Int.reduceToNat, List.cons.injEq, cdB]
  refine ⟨h, SWp.loop (ι := { i : Nat // i ≤ 5 ∧ (0 < i → chkW b.w = 0) ∧ (1 < i → chkAr b.a.l = 0) ∧ (2 < i → chkR b.r = 0) ∧ (3 < i → chkK b.k = 0) ∧ (4 < i → chkSp b.s = 0) }) (fun i => ⟨[(20, .agg [.int .i64 (chkW b.w), .int .i64 (chkAr b.a.l), .int .i64 (chkR b.r), .int .i64 (chkK b.k), .int .i64 (chkSp b.s)]), (21, .int .i64 i.1)], [], 1⟩) (fun i => 5 - i.1) ⟨0, by simp⟩ ?_ ?_⟩
  · simp [go_sem]
  · rintro ⟨i, hi, h1, h2, h3, h4, h5⟩
    match i, hi, h1, h2, h3, h4, h5 with
    | 5, _, h1, h2, h3, h4, h5 =>
      refine awp_sound gcheck_T_ok.toS lv31 _ _ _ rfl ?_
      simp -implicitDefEqProofs only [cdA, go_sem, reduceIte, reduceCtorEq, Nat.reduceEqDiff, Nat.reduceAdd, Nat.reduceLeDiff, Nat.reduceSub, Nat.reduceMul, Nat.reduceLT, Nat.reduceShiftRight, Nat.reduceMod, Int.reduceLE, Int.reduceLT, Int.reduceToNat, List.cons.injEq, cdB]
      refine ⟨fun h => h.elim, ?_⟩
      rw [chkB, if_neg (fun h => h (h1 (by decide))), if_neg (fun h => h (h2 (by decide))), if_neg (fun h => h (h3 (by decide))), if_neg (fun h => h (h4 (by decide))), h5 (by decide)]
    | 4, _, h1, h2, h3, h4, h5 =>
      refine awp_sound gcheck_T_ok.toS lv31 _ _ _ rfl ?_
      simp -implicitDefEqProofs only [cdA, go_sem, reduceIte, reduceCtorEq, Nat.reduceEqDiff, Nat.reduceAdd, Nat.reduceLeDiff, Nat.reduceSub, Nat.reduceMul, Nat.reduceLT, Nat.reduceShiftRight, Nat.reduceMod, Int.reduceLE, Int.reduceLT, Int.reduceToNat, List.cons.injEq, cdB]
      refine ⟨fun h6 => ⟨⟨5, by decide, fun _ => h1 (by decide), fun _ => h2 (by decide), fun _ => h3 (by decide), fun _ => h4 (by decide), fun _ => h6⟩, by dsimp only; omega, by kernel_rfl⟩, fun h6 => ?_⟩
      rw [chkB, if_neg (fun h => h (h1 (by decide))), if_neg (fun h => h (h2 (by decide))), if_neg (fun h => h (h3 (by decide))), if_neg (fun h => h (h4 (by decide)))]
    | 3, _, h1, h2, h3, h4, h5 =>
      refine awp_sound gcheck_T_ok.toS lv31 _ _ _ rfl ?_
      simp -implicitDefEqProofs only [cdA, go_sem, reduceIte, reduceCtorEq, Nat.reduceEqDiff, Nat.reduceAdd, Nat.reduceLeDiff, Nat.reduceSub, Nat.reduceMul, Nat.reduceLT, Nat.reduceShiftRight, Nat.reduceMod, Int.reduceLE, Int.reduceLT, Int.reduceToNat, List.cons.injEq, cdB]
      refine ⟨fun h6 => ⟨⟨4, by decide, fun _ => h1 (by decide), fun _ => h2 (by decide), fun _ => h3 (by decide), fun _ => h6, fun h => absurd h (by decide)⟩, by dsimp only; omega, by kernel_rfl⟩, fun h6 => ?_⟩
      rw [chkB, if_neg (fun h => h (h1 (by decide))), if_neg (fun h => h (h2 (by decide))), if_neg (fun h => h (h3 (by decide))), if_pos h6]
    | 2, _, h1, h2, h3, h4, h5 =>
      refine awp_sound gcheck_T_ok.toS lv31 _ _ _ rfl ?_
      simp -implicitDefEqProofs only [cdA, go_sem, reduceIte, reduceCtorEq, Nat.reduceEqDiff, Nat.reduceAdd, Nat.reduceLeDiff, Nat.reduceSub, Nat.reduceMul, Nat.reduceLT, Nat.reduceShiftRight, Nat.reduceMod, Int.reduceLE, Int.reduceLT, Int.reduceToNat, List.cons.injEq, cdB]
      refine ⟨fun h6 => ⟨⟨3, by decide, fun _ => h1 (by decide), fun _ => h2 (by decide), fun _ => h6, fun h => absurd h (by decide), fun h => absurd h (by decide)⟩, by dsimp only; omega, by kernel_rfl⟩, fun h6 => ?_⟩
      rw [chkB, if_neg (fun h => h (h1 (by decide))), if_neg (fun h => h (h2 (by decide))), if_pos h6]
    | 1, _, h1, h2, h3, h4, h5 =>
      refine awp_sound gcheck_T_ok.toS lv31 _ _ _ rfl ?_
      simp -implicitDefEqProofs only [cdA, go_sem, reduceIte, reduceCtorEq, Nat.reduceEqDiff, Nat.reduceAdd, Nat.reduceLeDiff, Nat.reduceSub, Nat.reduceMul, Nat.reduceLT, Nat.reduceShiftRight, Nat.reduceMod, Int.reduceLE, Int.reduceLT, Int.reduceToNat, List.cons.injEq, cdB]
      refine ⟨fun h6 => ⟨⟨2, by decide, fun _ => h1 (by decide), fun _ => h6, fun h => absurd h (by decide), fun h => absurd h (by decide), fun h => absurd h (by decide)⟩, by dsimp only; omega, by kernel_rfl⟩, fun h6 => ?_⟩
      rw [chkB, if_neg (fun h => h (h1 (by decide))), if_pos h6]
    | 0, _, h1, h2, h3, h4, h5 =>
      refine awp_sound gcheck_T_ok.toS lv31 _ _ _ rfl ?_
      simp -implicitDefEqProofs only [cdA, go_sem, reduceIte, reduceCtorEq, Nat.reduceEqDiff, Nat.reduceAdd, Nat.reduceLeDiff, Nat.reduceSub, Nat.reduceMul, Nat.reduceLT, Nat.reduceShiftRight, Nat.reduceMod, Int.reduceLE, Int.reduceLT, Int.reduceToNat, List.cons.injEq, cdB]
      refine ⟨fun h6 => ⟨⟨1, by decide, fun _ => h6, fun h => absurd h (by decide), fun h => absurd h (by decide), fun h => absurd h (by decide), fun h => absurd h (by decide)⟩, by dsimp only; omega, by kernel_rfl⟩, fun h6 => ?_⟩
      rw [chkB, if_pos h6]
@[go_sem] def gcheck_p (b : Bk) : Prop := (b.w.f.next ≤ 18446744073709551615)
def sp_gcheck : List D → Option (Prop × D × Fr)
  | [.agg [.c (.sl z44), .c (.sl z45), .c (.sl z46), .c (.sl z47), .c (.int .u64 z49), .c (.sl z50), .c (.int .u64 z51), .c (.int .u64 z52), .c (.sl z54), .c (.sl z55), .c (.sl z56), .c (.sl z57)]] => some (z44 = chs (dchs z44) ∧ z45 = wts (dwts z45) ∧ z46 = ivs (divs z46) ∧ z47 = pys (dpys z47) ∧ z49 = (z49.toNat : Int) ∧ z50 = evs (devs z50) ∧ z51 = (z51.toNat : Int) ∧ z52 = (z52.toNat : Int) ∧ z54 = tms (dtms z54) ∧ z55 = rks (drks z55) ∧ z56 = kys (dkys z56) ∧ z57 = cts (dcts z57) ∧ gcheck_p (⟨(⟨(dchs z44), (dwts z45), (divs z46), (dpys z47), (⟨z49.toNat, (devs z50)⟩ : Fd), z51.toNat, z52.toNat⟩ : Wl), (⟨(dtms z54)⟩ : Ar), (drks z55), (dkys z56), (dcts z57)⟩ : Bk), gcheck_r (⟨(⟨(dchs z44), (dwts z45), (divs z46), (dpys z47), (⟨z49.toNat, (devs z50)⟩ : Fd), z51.toNat, z52.toNat⟩ : Wl), (⟨(dtms z54)⟩ : Ar), (drks z55), (dkys z56), (dcts z57)⟩ : Bk), [])
  | _ => none
attribute [go_sem] sp_gcheck
theorem sp_gcheck_ok : ∀ rs p r fr, sp_gcheck rs = some (p, r, fr) → p → FnOk Tryz.prog 31 rs r fr := by
  intro rs p r fr h hp
  unfold sp_gcheck at h
  split at h <;> cases h
  obtain ⟨hc0, hc1, hc2, hc3, hc4, hc5, hc6, hc7, hc8, hc9, hc10, hc11, hp⟩ := hp
  rename_i z44 z45 z46 z47 z49 z50 z51 z52 z54 z55 z56 z57
  obtain ⟨z44, rfl⟩ : ∃ m, z44 = chs m := ⟨_, hc0⟩
  obtain ⟨z45, rfl⟩ : ∃ m, z45 = wts m := ⟨_, hc1⟩
  obtain ⟨z46, rfl⟩ : ∃ m, z46 = ivs m := ⟨_, hc2⟩
  obtain ⟨z47, rfl⟩ : ∃ m, z47 = pys m := ⟨_, hc3⟩
  obtain ⟨z49, rfl⟩ : ∃ m : Nat, z49 = m := ⟨_, hc4⟩
  obtain ⟨z50, rfl⟩ : ∃ m, z50 = evs m := ⟨_, hc5⟩
  obtain ⟨z51, rfl⟩ : ∃ m : Nat, z51 = m := ⟨_, hc6⟩
  obtain ⟨z52, rfl⟩ : ∃ m : Nat, z52 = m := ⟨_, hc7⟩
  obtain ⟨z54, rfl⟩ : ∃ m, z54 = tms m := ⟨_, hc8⟩
  obtain ⟨z55, rfl⟩ : ∃ m, z55 = rks m := ⟨_, hc9⟩
  obtain ⟨z56, rfl⟩ : ∃ m, z56 = kys m := ⟨_, hc10⟩
  obtain ⟨z57, rfl⟩ : ∃ m, z57 = cts m := ⟨_, hc11⟩
  simp only [Int.toNat_natCast, dchs_chs, dcts_cts, devs_evs, divs_ivs, dkys_kys, dpys_pys, drks_rks, dtms_tms, dwts_wts]
  simp only [Int.toNat_natCast, dchs_chs, dcts_cts, devs_evs, divs_ivs, dkys_kys, dpys_pys, drks_rks, dtms_tms, dwts_wts, gcheck_p] at hp
  exact gcheck_ok ⟨⟨z44, z45, z46, z47, ⟨z49, z50⟩, z51, z52⟩, ⟨z54⟩, z55, z56, z57⟩ hp
end Dm
namespace Dm
open Go Go.Proofs Go.IntWalk
@[go_sem] def rkclone_r (l : List Rk) : D := .vec 0 l.length
@[go_sem] def rkclone_fr (l : List Rk) : Fr := [(3, 70, true, rks l)]
@[go_sem] abbrev n_rkclone : FuncId := 134
@[go_sem] def rkclone_T : Tab := []
theorem rkclone_T_ok : TabOk Tryz.prog rkclone_T := TabOk.nil
set_option maxRecDepth 8000 in
set_option maxHeartbeats 1000000 in
theorem rkclone_ok (l : List Rk) (hl : l.length ≤ 1000000) : FreshFn Tryz.prog 134 [.sl (rks l)] (rkclone_r l) (rkclone_fr l) := by
  refine .of (ac134 rkclone_T_ok (Nat.le_of_ble_eq_true rfl) ?_)
  simp -implicitDefEqProofs only [cdA, go_sem, Go.Proofs.Tryz.f134, reduceIte, reduceCtorEq, Nat.reduceEqDiff, Nat.reduceAdd, Nat.reduceLeDiff, Nat.reduceSub, Nat.reduceMul, Nat.reduceLT, Nat.reduceShiftRight, Nat.reduceMod, Int.reduceLE, Int.reduceLT, Int.reduceToNat, List.cons.injEq, cdB]
  refine fun b hb => ⟨fun h => ?_, fun h => ?_⟩
  · exact ⟨[none], by simp [go_sem, hb h], by cases l <;> simp_all [go_sem, rks]⟩
  · exact ⟨by omega, [some 0], by simp [go_sem]⟩
@[go_sem] def rkclone_p (l : List Rk) : Prop := (l.length ≤ 1000000)
def sp_rkclone : List D → Option (Prop × D × Fr)
  | [.c (.sl z1)] => some (z1 = rks (drks z1) ∧ rkclone_p (drks z1), rkclone_r (drks z1), rkclone_fr (drks z1))
  | _ => none
attribute [go_sem] sp_rkclone
theorem sp_rkclone_ok : ∀ rs p r fr, sp_rkclone rs = some (p, r, fr) → p → FnOk Tryz.prog 134 rs r fr := by
  intro rs p r fr h hp
  unfold sp_rkclone at h
  split at h <;> cases h
  obtain ⟨hc0, hp⟩ := hp
  rename_i z1
  obtain ⟨z1, rfl⟩ : ∃ m, z1 = rks m := ⟨_, hc0⟩
  simp only [drks_rks]
  simp only [drks_rks, rkclone_p] at hp
  exact (show FnOk _ _ _ _ _ from And.intro rfl (rkclone_ok z1 hp))
def turnR (l : List Rk) (id key : Nat) : List Rk × Int := if (rgood l id).2 ≠ 0 then ([], (rgood l id).2) else if takenR l key = true then ([], 6) else (l.set (Srt.pos Rk.id ltN l id) ⟨id, key, false⟩, 0)
@[go_sem] def rturn_r (l : List Rk) (id : Nat) (key : Nat) : D := .tup [.sl (rks (turnR l id key).1), .int .i64 (turnR l id key).2]
@[go_sem] abbrev n_rturn : FuncId := 66
@[go_sem] def rturn_T : Tab := [(134, sp_rkclone), (111, sp_rogood), (139, sp_rotaken)]
theorem rturn_T_ok : TabOk Tryz.prog rturn_T := (TabOk.cons sp_rkclone_ok (TabOk.cons sp_rogood_ok (TabOk.cons sp_rotaken_ok TabOk.nil)))
set_option maxRecDepth 8000 in
set_option maxHeartbeats 1000000 in
theorem rturn_ok (l : List Rk) (id : Nat) (key : Nat)  : PureFn Tryz.prog 66 [.sl (rks l), .c (.int .u64 (id : Int)), .c (.int .u64 (key : Int))] (rturn_r l id key) := by
  refine .of (ac66 rturn_T_ok (Nat.le_of_ble_eq_true rfl) ?_)
  simp -implicitDefEqProofs only [cdA, go_sem, Go.Proofs.Tryz.f66, reduceIte, reduceCtorEq, Nat.reduceEqDiff, Nat.reduceAdd, Nat.reduceLeDiff, Nat.reduceSub, Nat.reduceMul, Nat.reduceLT, Nat.reduceShiftRight, Nat.reduceMod, Int.reduceLE, Int.reduceLT, Int.reduceToNat, List.cons.injEq, cdB]
  refine ac125 rturn_T_ok (Nat.le_of_ble_eq_true rfl) ?_
  simp -implicitDefEqProofs only [cdA, go_sem, Go.Proofs.Tryz.f125, reduceIte, reduceCtorEq, Nat.reduceEqDiff, Nat.reduceAdd, Nat.reduceLeDiff, Nat.reduceSub, Nat.reduceMul, Nat.reduceLT, Nat.reduceShiftRight, Nat.reduceMod, Int.reduceLE, Int.reduceLT, Int.reduceToNat, List.cons.injEq, cdB]
  refine ⟨fun h => ?_, fun h => ?_⟩
  rotate_left 1
  · rw [turnR, if_pos h]; exact ⟨rfl, rfl⟩
  have hg := rgood_lt h
  have h64 := hg.1.1
  refine ⟨by omega, by have := hg.2.2.1; omega, ?_⟩
  refine ac138 rturn_T_ok (Nat.le_of_ble_eq_true rfl) ?_
  simp -implicitDefEqProofs only [cdA, go_sem, Go.Proofs.Tryz.f138, reduceIte, reduceCtorEq, Nat.reduceEqDiff, Nat.reduceAdd, Nat.reduceLeDiff, Nat.reduceSub, Nat.reduceMul, Nat.reduceLT, Nat.reduceShiftRight, Nat.reduceMod, Int.reduceLE, Int.reduceLT, Int.reduceToNat, List.cons.injEq, cdB]
  refine ⟨fun h1 => ⟨fun h2 => absurd h2 (by decide), fun _ => ?_⟩, fun h1 => ?_⟩
  · rw [turnR, if_neg (fun h' => h' h), if_pos h1]; exact ⟨rfl, rfl⟩
  · rw [turnR, if_neg (fun h' => h' h), if_neg (by rw [h1]; decide), ← hg.2.1, hg.2.2.2.1, hg.2.2.2.2]
    exact ⟨hg.2.2.1, ⟨by simp, _, _, _, rfl⟩, rfl⟩
def sp_rturn : List D → Option (Prop × D × Fr)
  | [.c (.sl z2), .c (.int .u64 z3), .c (.int .u64 z4)] => some (z2 = rks (drks z2) ∧ z3 = (z3.toNat : Int) ∧ z4 = (z4.toNat : Int), rturn_r (drks z2) z3.toNat z4.toNat, [])
  | _ => none
attribute [go_sem] sp_rturn
theorem sp_rturn_ok : ∀ rs p r fr, sp_rturn rs = some (p, r, fr) → p → FnOk Tryz.prog 66 rs r fr := by
  intro rs p r fr h hp
  unfold sp_rturn at h
  split at h <;> cases h
  obtain ⟨hc0, hc1, hc2⟩ := hp
  rename_i z2 z3 z4
  obtain ⟨z2, rfl⟩ : ∃ m, z2 = rks m := ⟨_, hc0⟩
  obtain ⟨z3, rfl⟩ : ∃ m : Nat, z3 = m := ⟨_, hc1⟩
  obtain ⟨z4, rfl⟩ : ∃ m : Nat, z4 = m := ⟨_, hc2⟩
  simp only [Int.toNat_natCast, drks_rks]
  exact rturn_ok z2 z3 z4
def revR (l : List Rk) (id : Nat) : List Rk × Int := if (rgood l id).2 ≠ 0 then ([], (rgood l id).2) else (l.set (Srt.pos Rk.id ltN l id) ⟨id, (l.getD (Srt.pos Rk.id ltN l id) default).key, true⟩, 0)
@[go_sem] def rrev_r (l : List Rk) (id : Nat) : D := .tup [.sl (rks (revR l id).1), .int .i64 (revR l id).2]
@[go_sem] abbrev n_rrev : FuncId := 63
@[go_sem] def rrev_T : Tab := [(134, sp_rkclone), (111, sp_rogood)]
theorem rrev_T_ok : TabOk Tryz.prog rrev_T := (TabOk.cons sp_rkclone_ok (TabOk.cons sp_rogood_ok TabOk.nil))
set_option maxRecDepth 8000 in
set_option maxHeartbeats 1000000 in
theorem rrev_ok (l : List Rk) (id : Nat)  : PureFn Tryz.prog 63 [.sl (rks l), .c (.int .u64 (id : Int))] (rrev_r l id) := by
  refine .of (ac63 rrev_T_ok (Nat.le_of_ble_eq_true rfl) ?_)
  simp -implicitDefEqProofs only [cdA, go_sem, Go.Proofs.Tryz.f63, reduceIte, reduceCtorEq, Nat.reduceEqDiff, Nat.reduceAdd, Nat.reduceLeDiff, Nat.reduceSub, Nat.reduceMul, Nat.reduceLT, Nat.reduceShiftRight, Nat.reduceMod, Int.reduceLE, Int.reduceLT, Int.reduceToNat, List.cons.injEq, cdB]
  refine ac125 rrev_T_ok (Nat.le_of_ble_eq_true rfl) ?_
  simp -implicitDefEqProofs only [cdA, go_sem, Go.Proofs.Tryz.f125, reduceIte, reduceCtorEq, Nat.reduceEqDiff, Nat.reduceAdd, Nat.reduceLeDiff, Nat.reduceSub, Nat.reduceMul, Nat.reduceLT, Nat.reduceShiftRight, Nat.reduceMod, Int.reduceLE, Int.reduceLT, Int.reduceToNat, List.cons.injEq, cdB]
  refine ⟨fun h => ?_, fun h => ?_⟩
  rotate_left 1
  · rw [revR, if_pos h]; exact ⟨rfl, rfl⟩
  have hg := rgood_lt h
  have h64 := hg.1.1
  refine ⟨by omega, by have := hg.2.2.1; omega, ?_⟩
  refine ac126 rrev_T_ok (Nat.le_of_ble_eq_true rfl) ?_
  simp -implicitDefEqProofs only [cdA, go_sem, Go.Proofs.Tryz.f126, reduceIte, reduceCtorEq, Nat.reduceEqDiff, Nat.reduceAdd, Nat.reduceLeDiff, Nat.reduceSub, Nat.reduceMul, Nat.reduceLT, Nat.reduceShiftRight, Nat.reduceMod, Int.reduceLE, Int.reduceLT, Int.reduceToNat, List.cons.injEq, cdB]
  rw [revR, if_neg (fun h' => h' h), ← hg.2.1, hg.2.2.2.1]
  exact ⟨hg.2.2.1, ⟨by simp, _, _, _, rfl⟩, rfl⟩
def sp_rrev : List D → Option (Prop × D × Fr)
  | [.c (.sl z5), .c (.int .u64 z6)] => some (z5 = rks (drks z5) ∧ z6 = (z6.toNat : Int), rrev_r (drks z5) z6.toNat, [])
  | _ => none
attribute [go_sem] sp_rrev
theorem sp_rrev_ok : ∀ rs p r fr, sp_rrev rs = some (p, r, fr) → p → FnOk Tryz.prog 63 rs r fr := by
  intro rs p r fr h hp
  unfold sp_rrev at h
  split at h <;> cases h
  obtain ⟨hc0, hc1⟩ := hp
  rename_i z5 z6
  obtain ⟨z5, rfl⟩ : ∃ m, z5 = rks m := ⟨_, hc0⟩
  obtain ⟨z6, rfl⟩ : ∃ m : Nat, z6 = m := ⟨_, hc1⟩
  simp only [Int.toNat_natCast, drks_rks]
  exact rrev_ok z5 z6
end Dm
namespace Dm
open Go Go.Proofs Go.IntWalk
@[go_sem] def kyclone_r (l : List Ky) : D := .vec 0 l.length
@[go_sem] def kyclone_fr (l : List Ky) : Fr := [(4, 158, true, kys l)]
@[go_sem] abbrev n_kyclone : FuncId := 135
@[go_sem] def kyclone_T : Tab := []
theorem kyclone_T_ok : TabOk Tryz.prog kyclone_T := TabOk.nil
set_option maxRecDepth 8000 in
set_option maxHeartbeats 1000000 in
theorem kyclone_ok (l : List Ky) (hl : l.length ≤ 1000000) : FreshFn Tryz.prog 135 [.sl (kys l)] (kyclone_r l) (kyclone_fr l) := by
  refine .of (ac135 kyclone_T_ok (Nat.le_of_ble_eq_true rfl) ?_)
  simp -implicitDefEqProofs only [cdA, go_sem, Go.Proofs.Tryz.f135, reduceIte, reduceCtorEq, Nat.reduceEqDiff, Nat.reduceAdd, Nat.reduceLeDiff, Nat.reduceSub, Nat.reduceMul, Nat.reduceLT, Nat.reduceShiftRight, Nat.reduceMod, Int.reduceLE, Int.reduceLT, Int.reduceToNat, List.cons.injEq, cdB]
  refine fun b hb => ⟨fun h => ?_, fun h => ?_⟩
  · exact ⟨[none], by simp [go_sem, hb h], by cases l <;> simp_all [go_sem, kys]⟩
  · exact ⟨by omega, [some 0], by simp [go_sem]⟩
@[go_sem] def kyclone_p (l : List Ky) : Prop := (l.length ≤ 1000000)
def sp_kyclone : List D → Option (Prop × D × Fr)
  | [.c (.sl z1)] => some (z1 = kys (dkys z1) ∧ kyclone_p (dkys z1), kyclone_r (dkys z1), kyclone_fr (dkys z1))
  | _ => none
attribute [go_sem] sp_kyclone
theorem sp_kyclone_ok : ∀ rs p r fr, sp_kyclone rs = some (p, r, fr) → p → FnOk Tryz.prog 135 rs r fr := by
  intro rs p r fr h hp
  unfold sp_kyclone at h
  split at h <;> cases h
  obtain ⟨hc0, hp⟩ := hp
  rename_i z1
  obtain ⟨z1, rfl⟩ : ∃ m, z1 = kys m := ⟨_, hc0⟩
  simp only [dkys_kys]
  simp only [dkys_kys, kyclone_p] at hp
  exact (show FnOk _ _ _ _ _ from And.intro rfl (kyclone_ok z1 hp))
def smallB (b : Bk) : Prop := smallW b.w ∧ (b.a.l.length ≤ 2000000 ∧ ∀ t ∈ b.a.l, t.text.length ≤ 1000000) ∧ b.r.length ≤ 1000000 ∧ (b.k.length ≤ 1000000 ∧ ∀ k ∈ b.k, k.print.length ≤ 1000000 ∧ k.reply.length ≤ 1000000) ∧ b.s.length ≤ 1000000
@[go_sem] def gown_r (b : Bk) : D := .agg [.sl (chs b.w.c), .sl (wts b.w.w), .sl (ivs b.w.i), .sl (pys b.w.p), .int .u64 b.w.f.next, .sl (evs b.w.f.l), .int .u64 b.w.next, .int .u64 b.w.tick, .sl (tms b.a.l), .sl (rks b.r), .sl (kys b.k), .sl (cts b.s)]
@[go_sem] abbrev n_gown : FuncId := 64
@[go_sem] def gown_T : Tab := [(127, sp_cclone), (132, sp_hclone), (128, sp_wtclone), (129, sp_ivclone), (130, sp_pyclone), (131, sp_evclonep), (137, sp_u8clone), (133, sp_tmclone), (134, sp_rkclone), (135, sp_kyclone), (136, sp_spclone)]
theorem gown_T_ok : TabOk Tryz.prog gown_T := (TabOk.cons sp_cclone_ok (TabOk.cons sp_hclone_ok (TabOk.cons sp_wtclone_ok (TabOk.cons sp_ivclone_ok (TabOk.cons sp_pyclone_ok (TabOk.cons sp_evclonep_ok (TabOk.cons sp_u8clone_ok (TabOk.cons sp_tmclone_ok (TabOk.cons sp_rkclone_ok (TabOk.cons sp_kyclone_ok (TabOk.cons sp_spclone_ok TabOk.nil)))))))))))
set_option maxRecDepth 8000 in
set_option maxHeartbeats 1000000 in
theorem gown_ok (b : Bk) (h : smallB b) : PureFn Tryz.prog 64 [.agg [.sl (chs b.w.c), .sl (wts b.w.w), .sl (ivs b.w.i), .sl (pys b.w.p), .c (.int .u64 (b.w.f.next : Int)), .sl (evs b.w.f.l), .c (.int .u64 (b.w.next : Int)), .c (.int .u64 (b.w.tick : Int)), .sl (tms b.a.l), .sl (rks b.r), .sl (kys b.k), .sl (cts b.s)]] (gown_r b) := by
  refine .of (ac64 gown_T_ok (Nat.le_of_ble_eq_true rfl) ?_)
  simp -implicitDefEqProofs only [cdA, go_sem, Go.Proofs.Tryz.f64, reduceIte, reduceCtorEq, Nat.reduceEqDiff, Nat.reduceAdd, Nat.reduceLeDiff, Nat.reduceSub, Nat.reduceMul, Nat.reduceLT, Nat.reduceShiftRight, Nat.reduceMod, Int.reduceLE, Int.reduceLT, Int.reduceToNat, List.cons.injEq, cdB]
  refine ADraw.run us64_2 gown_T_ok follows_mixed (by kernel_rfl) (by kernel_rfl) ?_
  simp -implicitDefEqProofs only [cdA, go_sem, reduceIte, reduceCtorEq, Nat.reduceEqDiff, Nat.reduceAdd, Nat.reduceLeDiff, Nat.reduceSub, Nat.reduceMul, Nat.reduceLT, Nat.reduceShiftRight, Nat.reduceMod, Int.reduceLE, Int.reduceLT, Int.reduceToNat, List.cons.injEq, cdB]
  obtain ⟨⟨h1, h2, h3, h4, h5, h6⟩, ⟨ha, ha2⟩, hr, ⟨hk, hk2⟩, hs⟩ := h
  refine ⟨h1, h3, h4, h5, h6, fun _ => SWp.loop (ι := { i : Nat // i ≤ b.w.c.length }) (fun i => ⟨[(1, .ref 0 0), (2, .ref 1 0), (3, .ref 2 0), (35, .vec 3 b.w.c.length), (36, .int .i64 b.w.c.length), (37, .int .i64 i.1)],
    [(3, .vec true 7 86 (chs b.w.c)), (2, .box [.vec 3 b.w.c.length, .sl (wts b.w.w), .sl (ivs b.w.i), .sl (pys b.w.p), .c (.int .u64 b.w.f.next), .sl (evs b.w.f.l), .c (.int .u64 b.w.next), .c (.int .u64 b.w.tick)]),
      (1, .box [.nil, .nil, .nil, .nil, .c (.int .u64 0), .nil, .c (.int .u64 0), .c (.int .u64 0), .nil, .nil, .nil, .nil]), (0, .box [.sl (chs b.w.c), .sl (wts b.w.w), .sl (ivs b.w.i), .sl (pys b.w.p), .c (.int .u64 b.w.f.next), .sl (evs b.w.f.l), .c (.int .u64 b.w.next), .c (.int .u64 b.w.tick), .sl (tms b.a.l), .sl (rks b.r), .sl (kys b.k), .sl (cts b.s)])], 4⟩) (fun i => b.w.c.length - i.1) ⟨0, by omega⟩ ?_ ?_⟩
  · simp [go_sem]
  · rintro ⟨i, hi⟩
    refine awp_sound gown_T_ok.toS lv64 _ _ _ rfl ?_
    simp -implicitDefEqProofs only [cdA, go_sem, reduceIte, reduceCtorEq, Nat.reduceEqDiff, Nat.reduceAdd, Nat.reduceLeDiff, Nat.reduceSub, Nat.reduceMul, Nat.reduceLT, Nat.reduceShiftRight, Nat.reduceMod, Int.reduceLE, Int.reduceLT, Int.reduceToNat, List.cons.injEq, cdB]
    refine ⟨fun h7 => ⟨by omega, by omega, ?_⟩, fun _ => ?_⟩
    · have hi' : i < b.w.c.length := by omega
      have hself : b.w.c.set i (b.w.c.getD i default) = b.w.c := by
        rw [getD_lt hi']; exact List.set_getElem_self hi'
      have hhl := h2 _ (mem_getD.2 ⟨i, hi', rfl⟩)
      refine ADraw.run us64_6 gown_T_ok follows_mixed (by kernel_rfl) (by kernel_rfl) ?_
      simp -implicitDefEqProofs only [cdA, go_sem, reduceIte, reduceCtorEq, Nat.reduceEqDiff, Nat.reduceAdd, Nat.reduceLeDiff, Nat.reduceSub, Nat.reduceMul, Nat.reduceLT, Nat.reduceShiftRight, Nat.reduceMod, Int.reduceLE, Int.reduceLT, Int.reduceToNat, List.cons.injEq, cdB]
      exact ⟨hhl, by omega, hi', ⟨i + 1, hi'⟩, by dsimp only; omega, i64_in _ (by omega), by rw [hself]⟩
    refine ADraw.run us64_8 gown_T_ok follows_mixed (by kernel_rfl) (by kernel_rfl) ?_
    simp -implicitDefEqProofs only [cdA, go_sem, reduceIte, reduceCtorEq, Nat.reduceEqDiff, Nat.reduceAdd, Nat.reduceLeDiff, Nat.reduceSub, Nat.reduceMul, Nat.reduceLT, Nat.reduceShiftRight, Nat.reduceMod, Int.reduceLE, Int.reduceLT, Int.reduceToNat, List.cons.injEq, cdB]
    refine ⟨by omega, hr, hk, hs, fun _ => SWp.loop (ι := { i : Nat // i ≤ b.a.l.length }) (fun i => ⟨[(1, .ref 0 0), (2, .ref 1 0), (73, .vec 4 b.a.l.length), (74, .int .i64 b.a.l.length), (75, .int .i64 i.1)], [(6, .vec true 4 158 (kys b.k)), (5, .vec true 3 70 (rks b.r)), (4, .vec true 3 83 (tms b.a.l)), (3, .vec true 7 86 (chs b.w.c)), (7, .vec true 3 160 (cts b.s)), (0, .box [.vec 3 b.w.c.length, .sl (wts b.w.w), .sl (ivs b.w.i), .sl (pys b.w.p), .c (.int .u64 b.w.f.next), .sl (evs b.w.f.l), .c (.int .u64 b.w.next), .c (.int .u64 b.w.tick), .vec 4 b.a.l.length, .vec 5 b.r.length, .vec 6 b.k.length, .vec 7 b.s.length]), (1, .box [.nil, .nil, .nil, .nil, .c (.int .u64 0), .nil, .c (.int .u64 0), .c (.int .u64 0), .nil, .nil, .nil, .nil])], 8⟩) (fun i => b.a.l.length - i.1) ⟨0, by omega⟩ ?_ ?_⟩
    · simp [go_sem]
    · rintro ⟨j, hj⟩
      refine awp_sound gown_T_ok.toS lv64 _ _ _ rfl ?_
      simp -implicitDefEqProofs only [cdA, go_sem, reduceIte, reduceCtorEq, Nat.reduceEqDiff, Nat.reduceAdd, Nat.reduceLeDiff, Nat.reduceSub, Nat.reduceMul, Nat.reduceLT, Nat.reduceShiftRight, Nat.reduceMod, Int.reduceLE, Int.reduceLT, Int.reduceToNat, List.cons.injEq, cdB]
      refine ⟨fun h7 => ⟨by omega, by omega, ?_⟩, fun _ => ?_⟩
      · have hj' : j < b.a.l.length := by omega
        have hself : b.a.l.set j (b.a.l.getD j default) = b.a.l := by
          rw [getD_lt hj']; exact List.set_getElem_self hj'
        have hhl := ha2 _ (mem_getD.2 ⟨j, hj', rfl⟩)
        refine ADraw.run us64_12 gown_T_ok follows_mixed (by kernel_rfl) (by kernel_rfl) ?_
        simp -implicitDefEqProofs only [cdA, go_sem, reduceIte, reduceCtorEq, Nat.reduceEqDiff, Nat.reduceAdd, Nat.reduceLeDiff, Nat.reduceSub, Nat.reduceMul, Nat.reduceLT, Nat.reduceShiftRight, Nat.reduceMod, Int.reduceLE, Int.reduceLT, Int.reduceToNat, List.cons.injEq, cdB]
        exact ⟨hhl, by omega, hj', ⟨j + 1, hj'⟩, by dsimp only; omega, i64_in _ (by omega), by rw [hself]⟩
      refine fun _ => SWp.loop (ι := { i : Nat // i ≤ b.k.length }) (fun i => ⟨[(1, .ref 0 0), (2, .ref 1 0), (91, .vec 6 b.k.length), (92, .int .i64 b.k.length), (93, .int .i64 i.1)], [(6, .vec true 4 158 (kys b.k)), (5, .vec true 3 70 (rks b.r)), (4, .vec true 3 83 (tms b.a.l)), (3, .vec true 7 86 (chs b.w.c)), (7, .vec true 3 160 (cts b.s)), (0, .box [.vec 3 b.w.c.length, .sl (wts b.w.w), .sl (ivs b.w.i), .sl (pys b.w.p), .c (.int .u64 b.w.f.next), .sl (evs b.w.f.l), .c (.int .u64 b.w.next), .c (.int .u64 b.w.tick), .vec 4 b.a.l.length, .vec 5 b.r.length, .vec 6 b.k.length, .vec 7 b.s.length]), (1, .box [.nil, .nil, .nil, .nil, .c (.int .u64 0), .nil, .c (.int .u64 0), .c (.int .u64 0), .nil, .nil, .nil, .nil])], 8⟩) (fun i => b.k.length - i.1) ⟨0, by omega⟩ ?_ ?_
      · simp [go_sem]
      · rintro ⟨m, hm⟩
        refine awp_sound gown_T_ok.toS lv64 _ _ _ rfl ?_
        simp -implicitDefEqProofs only [cdA, go_sem, reduceIte, reduceCtorEq, Nat.reduceEqDiff, Nat.reduceAdd, Nat.reduceLeDiff, Nat.reduceSub, Nat.reduceMul, Nat.reduceLT, Nat.reduceShiftRight, Nat.reduceMod, Int.reduceLE, Int.reduceLT, Int.reduceToNat, List.cons.injEq, cdB]
        refine ⟨fun h7 => ⟨by omega, by omega, ?_⟩, fun _ => ?_⟩
        · have hm' : m < b.k.length := by omega
          have hself : b.k.set m (b.k.getD m default) = b.k := by
            rw [getD_lt hm']; exact List.set_getElem_self hm'
          have hhl := hk2 _ (mem_getD.2 ⟨m, hm', rfl⟩)
          refine ADraw.runC us64_17 [0, 1, 0, 0, 8, 0, 0, 64, 192, 0, 512, 1984, 4039, 8135, 1267650600228229401496703221703, 32767, 65535, 131071] gown_T_ok follows_mixed (by kernel_rfl) (by kernel_rfl) (by kernel_rfl) ?_
          simp -implicitDefEqProofs only [cdA, go_sem, reduceIte, reduceCtorEq, Nat.reduceEqDiff, Nat.reduceAdd, Nat.reduceLeDiff, Nat.reduceSub, Nat.reduceMul, Nat.reduceLT, Nat.reduceShiftRight, Nat.reduceMod, Int.reduceLE, Int.reduceLT, Int.reduceToNat, List.cons.injEq, cdB]
          refine ⟨hhl.1, hhl.2, by omega, hm', by rw [hself], by omega, hm', ⟨m + 1, hm'⟩, by dsimp only; omega, i64_in _ (by omega), ?_⟩
          rw [hself]
          exact congrArg (fun l => Ob.vec true 4 158 (kys l)) hself
        exact ⟨⟨_, _, _, rfl⟩, ⟨_, _, _, rfl⟩, ⟨_, _, _, rfl⟩, ⟨_, _, _, rfl⟩, ⟨_, _, _, rfl⟩⟩
@[go_sem] def gown_p (b : Bk) : Prop := (smallB b)
def sp_gown : List D → Option (Prop × D × Fr)
  | [.agg [.c (.sl z4), .c (.sl z5), .c (.sl z6), .c (.sl z7), .c (.int .u64 z9), .c (.sl z10), .c (.int .u64 z11), .c (.int .u64 z12), .c (.sl z14), .c (.sl z15), .c (.sl z16), .c (.sl z17)]] => some (z4 = chs (dchs z4) ∧ z5 = wts (dwts z5) ∧ z6 = ivs (divs z6) ∧ z7 = pys (dpys z7) ∧ z9 = (z9.toNat : Int) ∧ z10 = evs (devs z10) ∧ z11 = (z11.toNat : Int) ∧ z12 = (z12.toNat : Int) ∧ z14 = tms (dtms z14) ∧ z15 = rks (drks z15) ∧ z16 = kys (dkys z16) ∧ z17 = cts (dcts z17) ∧ gown_p (⟨(⟨(dchs z4), (dwts z5), (divs z6), (dpys z7), (⟨z9.toNat, (devs z10)⟩ : Fd), z11.toNat, z12.toNat⟩ : Wl), (⟨(dtms z14)⟩ : Ar), (drks z15), (dkys z16), (dcts z17)⟩ : Bk), gown_r (⟨(⟨(dchs z4), (dwts z5), (divs z6), (dpys z7), (⟨z9.toNat, (devs z10)⟩ : Fd), z11.toNat, z12.toNat⟩ : Wl), (⟨(dtms z14)⟩ : Ar), (drks z15), (dkys z16), (dcts z17)⟩ : Bk), [])
  | _ => none
attribute [go_sem] sp_gown
theorem sp_gown_ok : ∀ rs p r fr, sp_gown rs = some (p, r, fr) → p → FnOk Tryz.prog 64 rs r fr := by
  intro rs p r fr h hp
  unfold sp_gown at h
  split at h <;> cases h
  obtain ⟨hc0, hc1, hc2, hc3, hc4, hc5, hc6, hc7, hc8, hc9, hc10, hc11, hp⟩ := hp
  rename_i z4 z5 z6 z7 z9 z10 z11 z12 z14 z15 z16 z17
  obtain ⟨z4, rfl⟩ : ∃ m, z4 = chs m := ⟨_, hc0⟩
  obtain ⟨z5, rfl⟩ : ∃ m, z5 = wts m := ⟨_, hc1⟩
  obtain ⟨z6, rfl⟩ : ∃ m, z6 = ivs m := ⟨_, hc2⟩
  obtain ⟨z7, rfl⟩ : ∃ m, z7 = pys m := ⟨_, hc3⟩
  obtain ⟨z9, rfl⟩ : ∃ m : Nat, z9 = m := ⟨_, hc4⟩
  obtain ⟨z10, rfl⟩ : ∃ m, z10 = evs m := ⟨_, hc5⟩
  obtain ⟨z11, rfl⟩ : ∃ m : Nat, z11 = m := ⟨_, hc6⟩
  obtain ⟨z12, rfl⟩ : ∃ m : Nat, z12 = m := ⟨_, hc7⟩
  obtain ⟨z14, rfl⟩ : ∃ m, z14 = tms m := ⟨_, hc8⟩
  obtain ⟨z15, rfl⟩ : ∃ m, z15 = rks m := ⟨_, hc9⟩
  obtain ⟨z16, rfl⟩ : ∃ m, z16 = kys m := ⟨_, hc10⟩
  obtain ⟨z17, rfl⟩ : ∃ m, z17 = cts m := ⟨_, hc11⟩
  simp only [Int.toNat_natCast, dchs_chs, dcts_cts, devs_evs, divs_ivs, dkys_kys, dpys_pys, drks_rks, dtms_tms, dwts_wts]
  simp only [Int.toNat_natCast, dchs_chs, dcts_cts, devs_evs, divs_ivs, dkys_kys, dpys_pys, drks_rks, dtms_tms, dwts_wts, gown_p] at hp
  exact gown_ok ⟨⟨z4, z5, z6, z7, ⟨z9, z10⟩, z11, z12⟩, ⟨z14⟩, z15, z16, z17⟩ hp
end Dm
