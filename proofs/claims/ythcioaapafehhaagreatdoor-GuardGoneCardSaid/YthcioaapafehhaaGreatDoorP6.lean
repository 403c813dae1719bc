import Derived.Test.YthcioaapafehhaaGreatDoorP5

set_option linter.unusedSimpArgs false
set_option linter.unusedVariables false
set_option linter.unusedSectionVars false
namespace Dm
open Go Go.Proofs Go.IntWalk
structure Tk where
  root : Nat
  l : List Cv
  tag : Int
deriving DecidableEq, Inhabited
@[go_sem] def Tk.enc (e : Tk) : List C := [.int .u64 (e.root : Int), .sl (cvs e.l), .int .i64 e.tag]
def Tk.dec : List C → Tk
  | [.int .u64 z2, .sl z3, .int .i64 z4] => (⟨z2.toNat, (dcvs z3), z4⟩ : Tk)
  | _ => default
def tks (l : List Tk) : List (List C) := l.map Tk.enc
def dtks (l : List (List C)) : List Tk := l.map Tk.dec
@[simp, go_sem] theorem tks_length (l : List Tk) : (tks l).length = l.length := by simp [tks]
@[go_sem] theorem tks_get (l : List Tk) (i : Nat) : (tks l).getD i [.int .u64 0, .sl [], .int .i64 0] = (l.getD i default).enc := by
  simp only [tks, List.getD_eq_getElem?_getD, List.getElem?_map]
  cases l[i]? <;> rfl
@[go_sem] theorem tks_wide (l : List Tk) : Wide 3 (tks l) = True := by
  simp [Wide, tks, Tk.enc]
theorem Tk.dec_enc (e : Tk) : Tk.dec e.enc = e := by
  simp [Tk.enc, Tk.dec, dcvs_cvs]
@[go_sem] theorem dtks_tks (l : List Tk) : dtks (tks l) = l := by
  simp only [dtks, tks, List.map_map]
  exact List.map_id'' (fun e => Tk.dec_enc e) l
@[go_sem] theorem tks_app (a b : List Tk) : tks a ++ tks b = tks (a ++ b) := by simp [tks]
@[go_sem] theorem tks_drop (l : List Tk) (k : Nat) : (tks l).drop k = tks (l.drop k) := by simp [tks]
@[go_sem] theorem tks_take (l : List Tk) (k : Nat) : (tks l).take k = tks (l.take k) := by simp [tks]
@[go_sem] theorem tks_one (z5 : Int) (z6 : List Cv) (z7 : Int) (hz5 : 0 ≤ z5) : [[C.int .u64 z5, C.sl (cvs z6), C.int .i64 z7]] = tks [⟨z5.toNat, z6, z7⟩] := by simp [tks, Tk.enc, Int.toNat_of_nonneg hz5]
@[go_sem] theorem tks_set (l : List Tk) (i : Nat) (z5 : Int) (z6 : List Cv) (z7 : Int) (hz5 : 0 ≤ z5) : (tks l).set i [C.int .u64 z5, C.sl (cvs z6), C.int .i64 z7] = tks (l.set i ⟨z5.toNat, z6, z7⟩) := by simp [tks, List.map_set, Tk.enc, Int.toNat_of_nonneg hz5]
@[go_sem] theorem tks_cons (l : List Tk) (z5 : Int) (z6 : List Cv) (z7 : Int) (hz5 : 0 ≤ z5) : [C.int .u64 z5, C.sl (cvs z6), C.int .i64 z7] :: tks l = tks (⟨z5.toNat, z6, z7⟩ :: l) := by simp [tks, Tk.enc, Int.toNat_of_nonneg hz5]
@[go_sem] theorem Tk.eta {e : Tk} : (⟨e.root, e.l, e.tag⟩ : Tk) = e := rfl
def okTk (t : Tk) : Prop := t.l.length ≤ 16 ∧ 0 ≤ t.tag ∧ t.tag ≤ 1048576 ∧ ∀ c ∈ t.l, cavS c = 0
instance (t : Tk) : Decidable (okTk t) := by unfold okTk; infer_instance
def tokS (t : Tk) : Int := if okTk t then 0 else 1
@[go_sem] def tcheck_r (t : Tk) : D := .int .i64 (tokS t)
@[go_sem] abbrev n_tcheck : FuncId := 53
@[go_sem] def tcheck_T : Tab := [(58, sp_cavcheck)]
theorem tcheck_T_ok : TabOk Tryz.prog tcheck_T := (TabOk.cons sp_cavcheck_ok TabOk.nil)
set_option maxRecDepth 8000 in
set_option maxHeartbeats 1000000 in
theorem tcheck_ok (t : Tk)  : PureFn Tryz.prog 53 [.agg [.c (.int .u64 (t.root : Int)), .sl (cvs t.l), .c (.int .i64 t.tag)]] (tcheck_r t) := by
  refine .of (ac53 tcheck_T_ok (Nat.le_of_ble_eq_true rfl) ?_)
  simp -implicitDefEqProofs only [cdA, go_sem, Go.Proofs.Tryz.f53, reduceIte, reduceCtorEq, Nat.reduceEqDiff, Nat.reduceAdd, Nat.reduceLeDiff, Nat.reduceSub, Nat.reduceMul, Nat.reduceLT, Nat.reduceShiftRight, Nat.reduceMod, Int.reduceLE, Int.reduceLT, Int.reduceToNat, List.cons.injEq, cdB]
  have hbad : ¬ okTk t → 1 = tokS t := fun h => by rw [tokS, if_neg h]
  refine fun _ => ⟨fun h1 => ⟨fun h2 => ⟨fun h3 => ?_, fun h3 => hbad fun h => by have := h.2.2.1; omega⟩, fun h2 => hbad fun h => by have := h.2.1; omega⟩, fun h1 => hbad fun h => by have := h.1; omega⟩
  refine ac117 tcheck_T_ok (Nat.le_of_ble_eq_true rfl) ?_
  simp -implicitDefEqProofs only [cdA, go_sem, Go.Proofs.Tryz.f117, reduceIte, reduceCtorEq, Nat.reduceEqDiff, Nat.reduceAdd, Nat.reduceLeDiff, Nat.reduceSub, Nat.reduceMul, Nat.reduceLT, Nat.reduceShiftRight, Nat.reduceMod, Int.reduceLE, Int.reduceLT, Int.reduceToNat, List.cons.injEq, cdB]
  refine ac199 tcheck_T_ok (Nat.le_of_ble_eq_true rfl) ?_
  simp -implicitDefEqProofs only [cdA, go_sem, Go.Proofs.Tryz.f199, reduceIte, reduceCtorEq, Nat.reduceEqDiff, Nat.reduceAdd, Nat.reduceLeDiff, Nat.reduceSub, Nat.reduceMul, Nat.reduceLT, Nat.reduceShiftRight, Nat.reduceMod, Int.reduceLE, Int.reduceLT, Int.reduceToNat, List.cons.injEq, cdB]
  refine fun _ => SWp.loop (ι := { i : Nat // i ≤ t.l.length ∧ ∀ j, j < i → cavS (t.l.getD j default) = 0 }) (fun i => ⟨[(0, .sl (cvs t.l)), (1, .fn (.func 116) [] []), (7, .int .i64 t.l.length), (8, .int .i64 i.1)], [], 1⟩) (fun i => t.l.length - i.1) ⟨0, by simp⟩ ?_ ?_
  · simp [go_sem]
  · rintro ⟨i, hi, hall⟩
    refine awp_sound tcheck_T_ok.toS lv199 _ _ _ rfl ?_
    simp -implicitDefEqProofs only [cdA, go_sem, reduceIte, reduceCtorEq, Nat.reduceEqDiff, Nat.reduceAdd, Nat.reduceLeDiff, Nat.reduceSub, Nat.reduceMul, Nat.reduceLT, Nat.reduceShiftRight, Nat.reduceMod, Int.reduceLE, Int.reduceLT, Int.reduceToNat, List.cons.injEq, cdB]
    refine ⟨fun h4 => ⟨h4, ?_⟩, fun h4 => ?_⟩
    · skip
      refine ac116 tcheck_T_ok (Nat.le_of_ble_eq_true rfl) ?_
      simp -implicitDefEqProofs only [cdA, go_sem, Go.Proofs.Tryz.f116, reduceIte, reduceCtorEq, Nat.reduceEqDiff, Nat.reduceAdd, Nat.reduceLeDiff, Nat.reduceSub, Nat.reduceMul, Nat.reduceLT, Nat.reduceShiftRight, Nat.reduceMod, Int.reduceLE, Int.reduceLT, Int.reduceToNat, List.cons.injEq, cdB]
      have hi' : i < t.l.length := by omega
      refine ⟨fun h5 => ⟨⟨i + 1, hi', fun j hj => ?_⟩, by dsimp only; omega, i64_in _ (by omega)⟩, fun h5 => hbad fun h => h5 (h.2.2.2 _ (mem_getD.2 ⟨i, hi', rfl⟩))⟩
      by_cases hji : j = i
      · subst hji; exact h5
      · exact hall j (by omega)
    · have hi' : i = t.l.length := by omega
      subst hi'
      have ht : okTk t := ⟨by omega, by omega, by omega, fun c hc => by
        obtain ⟨j, hj, rfl⟩ := mem_getD.1 hc
        exact hall j hj⟩
      refine ⟨False.elim, ?_⟩
      rw [tokS, if_pos ht]
def sp_tcheck : List D → Option (Prop × D × Fr)
  | [.agg [.c (.int .u64 z9), .c (.sl z10), .c (.int .i64 z11)]] => some (z9 = (z9.toNat : Int) ∧ z10 = cvs (dcvs z10), tcheck_r (⟨z9.toNat, (dcvs z10), z11⟩ : Tk), [])
  | _ => none
attribute [go_sem] sp_tcheck
theorem sp_tcheck_ok : ∀ rs p r fr, sp_tcheck rs = some (p, r, fr) → p → FnOk Tryz.prog 53 rs r fr := by
  intro rs p r fr h hp
  unfold sp_tcheck at h
  split at h <;> cases h
  obtain ⟨hc0, hc1⟩ := hp
  rename_i z9 z10 z11
  obtain ⟨z9, rfl⟩ : ∃ m : Nat, z9 = m := ⟨_, hc0⟩
  obtain ⟨z10, rfl⟩ : ∃ m, z10 = cvs m := ⟨_, hc1⟩
  simp only [Int.toNat_natCast, dcvs_cvs]
  exact tcheck_ok ⟨z9, z10, z11⟩
def cavB (c : Cv) : List UInt8 := if cavS c = 0 then putB (if c.kind = 4 then [c.kind.toNat, c.a, c.b] else [c.kind.toNat, c.a]) else []
@[go_sem] def cavput_r (c : Cv) : D := .tup [.sl (u8s (cavB c)), .int .i64 (cavS c)]
@[go_sem] abbrev n_cavput : FuncId := 52
@[go_sem] def cavput_T : Tab := [(58, sp_cavcheck), (61, sp_bput)]
theorem cavput_T_ok : TabOk Tryz.prog cavput_T := (TabOk.cons sp_cavcheck_ok (TabOk.cons sp_bput_ok TabOk.nil))
set_option maxRecDepth 8000 in
set_option maxHeartbeats 1000000 in
theorem cavput_ok (c : Cv)  : PureFn Tryz.prog 52 [.agg [.c (.int .i64 c.kind), .c (.int .u64 (c.a : Int)), .c (.int .u64 (c.b : Int))]] (cavput_r c) := by
  refine .of (ac52 cavput_T_ok (Nat.le_of_ble_eq_true rfl) ?_)
  simp -implicitDefEqProofs only [cdA, go_sem, Go.Proofs.Tryz.f52, reduceIte, reduceCtorEq, Nat.reduceEqDiff, Nat.reduceAdd, Nat.reduceLeDiff, Nat.reduceSub, Nat.reduceMul, Nat.reduceLT, Nat.reduceShiftRight, Nat.reduceMod, Int.reduceLE, Int.reduceLT, Int.reduceToNat, List.cons.injEq, cdB]
  refine ⟨fun h => ?_, fun h => by rw [cavB, if_neg h]; rfl⟩
  have hk : 0 ≤ c.kind ∧ c.kind ≤ 5 := by
    unfold cavS at h
    split at h
    · rename_i h1; omega
    · cases h
  have hw : IntKind.u64.wrap c.kind = c.kind := u64_in _ (by omega)
  rw [cavB, if_pos h, hw, h]
  exact ⟨fun h1 => ⟨by rw [if_pos h1], rfl⟩, fun h1 => ⟨by rw [if_neg h1], rfl⟩⟩
def sp_cavput : List D → Option (Prop × D × Fr)
  | [.agg [.c (.int .i64 z13), .c (.int .u64 z14), .c (.int .u64 z15)]] => some (z14 = (z14.toNat : Int) ∧ z15 = (z15.toNat : Int), cavput_r (⟨z13, z14.toNat, z15.toNat⟩ : Cv), [])
  | _ => none
attribute [go_sem] sp_cavput
theorem sp_cavput_ok : ∀ rs p r fr, sp_cavput rs = some (p, r, fr) → p → FnOk Tryz.prog 52 rs r fr := by
  intro rs p r fr h hp
  unfold sp_cavput at h
  split at h <;> cases h
  obtain ⟨hc0, hc1⟩ := hp
  rename_i z13 z14 z15
  obtain ⟨z14, rfl⟩ : ∃ m : Nat, z14 = m := ⟨_, hc0⟩
  obtain ⟨z15, rfl⟩ : ∃ m : Nat, z15 = m := ⟨_, hc1⟩
  simp only [Int.toNat_natCast]
  exact cavput_ok ⟨z13, z14, z15⟩
def txH (t : Tk) (i : Nat) : List (List UInt8) := (t.l.map cavB).take i ++ List.replicate (t.l.length - i) []
theorem txH_len {t : Tk} {i : Nat} (hi : i ≤ t.l.length) : (txH t i).length = t.l.length := by simp [txH]; omega
theorem txH_0 {t : Tk} : List.replicate t.l.length [C.sl []] = ls_u8s (txH t 0) := by simp [txH, ls_u8s, u8s]
theorem txH_all {t : Tk} : txH t t.l.length = t.l.map cavB := by
  rw [txH, Nat.sub_self, List.replicate_zero, List.append_nil, List.take_of_length_le (by rw [List.length_map]; exact Nat.le_refl _)]
theorem txH_set {t : Tk} {i : Nat} (hi : i < t.l.length) : (txH t i).set i (cavB (t.l.getD i default)) = txH t (i + 1) := by
  have hl : i < (t.l.map cavB).length := by rw [List.length_map]; exact hi
  have h1 : ((t.l.map cavB).take i).length = i := by rw [List.length_take]; omega
  rw [txH, txH, List.take_succ_eq_append_getElem hl, List.append_assoc, List.set_append_right _ _ (by omega), h1, Nat.sub_self]
  obtain ⟨k, hk⟩ : ∃ k, t.l.length - i = k + 1 := ⟨t.l.length - i - 1, by omega⟩
  rw [hk, show t.l.length - (i + 1) = k by omega, List.replicate_succ, List.set_cons_zero, getD_lt hi]
  simp
@[go_sem] def texts_r (t : Tk) : D := .sl (ls_u8s (t.l.map cavB))
@[go_sem] abbrev n_texts : FuncId := 113
@[go_sem] def texts_T : Tab := [(52, sp_cavput)]
theorem texts_T_ok : TabOk Tryz.prog texts_T := (TabOk.cons sp_cavput_ok TabOk.nil)
set_option maxRecDepth 8000 in
set_option maxHeartbeats 1000000 in
theorem texts_ok (t : Tk) (h : t.l.length ≤ 1000000) : PureFn Tryz.prog 113 [.agg [.c (.int .u64 (t.root : Int)), .sl (cvs t.l), .c (.int .i64 t.tag)]] (texts_r t) := by
  refine .of (ac113 texts_T_ok (Nat.le_of_ble_eq_true rfl) ?_)
  simp -implicitDefEqProofs only [cdA, go_sem, Go.Proofs.Tryz.f113, reduceIte, reduceCtorEq, Nat.reduceEqDiff, Nat.reduceAdd, Nat.reduceLeDiff, Nat.reduceSub, Nat.reduceMul, Nat.reduceLT, Nat.reduceShiftRight, Nat.reduceMod, Int.reduceLE, Int.reduceLT, Int.reduceToNat, List.cons.injEq, cdB]
  refine fun _ => ⟨⟨Int.le_refl _, by omega⟩, fun _ => ?_⟩
  refine SWp.loop (ι := { i : Nat // i ≤ t.l.length }) (fun i => ⟨[(3, .vec 1 t.l.length), (11, .sl (cvs t.l)), (12, .int .i64 t.l.length), (13, .int .i64 i.1)], [(1, .vec true 1 81 (ls_u8s (txH t i.1))), (0, .box [.c (.int .u64 t.root), .sl (cvs t.l), .c (.int .i64 t.tag)])], 2⟩) (fun i => t.l.length - i.1) ⟨0, by simp⟩ ?_ ?_
  · simp [go_sem, txH_0, txH_len]
  · rintro ⟨i, hi⟩
    refine awp_sound texts_T_ok.toS lv113 _ _ _ rfl ?_
    simp -implicitDefEqProofs only [cdA, go_sem, reduceIte, reduceCtorEq, Nat.reduceEqDiff, Nat.reduceAdd, Nat.reduceLeDiff, Nat.reduceSub, Nat.reduceMul, Nat.reduceLT, Nat.reduceShiftRight, Nat.reduceMod, Int.reduceLE, Int.reduceLT, Int.reduceToNat, List.cons.injEq, cdB]
    refine ⟨fun h1 => ?_, fun h1 => ?_⟩
    · have hi' : i < t.l.length := by omega
      rw [txH_set hi']
      exact ⟨h1, h1, ⟨(txH_len hi).symm, hi'⟩, ⟨i + 1, hi'⟩, by dsimp only; omega, i64_in _ (by omega), rfl⟩
    · have hi' : i = t.l.length := by omega
      subst hi'
      rw [txH_all]
      exact ⟨by rw [List.length_map], _, _, _, rfl⟩
@[go_sem] def texts_p (t : Tk) : Prop := (t.l.length ≤ 1000000)
def sp_texts : List D → Option (Prop × D × Fr)
  | [.agg [.c (.int .u64 z17), .c (.sl z18), .c (.int .i64 z19)]] => some (z17 = (z17.toNat : Int) ∧ z18 = cvs (dcvs z18) ∧ texts_p (⟨z17.toNat, (dcvs z18), z19⟩ : Tk), texts_r (⟨z17.toNat, (dcvs z18), z19⟩ : Tk), [])
  | _ => none
attribute [go_sem] sp_texts
theorem sp_texts_ok : ∀ rs p r fr, sp_texts rs = some (p, r, fr) → p → FnOk Tryz.prog 113 rs r fr := by
  intro rs p r fr h hp
  unfold sp_texts at h
  split at h <;> cases h
  obtain ⟨hc0, hc1, hp⟩ := hp
  rename_i z17 z18 z19
  obtain ⟨z17, rfl⟩ : ∃ m : Nat, z17 = m := ⟨_, hc0⟩
  obtain ⟨z18, rfl⟩ : ∃ m, z18 = cvs m := ⟨_, hc1⟩
  simp only [Int.toNat_natCast, dcvs_cvs]
  simp only [Int.toNat_natCast, dcvs_cvs, texts_p] at hp
  exact texts_ok ⟨z17, z18, z19⟩ hp
theorem putA_bad {l : List Tm} {t : Tm} (h : ¬ (putA l t).2.2 = 0) : (putA l t).1 = [] ∧ (putA l t).2.1 = 0 := by
  unfold putA at *
  split at h
  · rename_i h1; rw [if_pos h1]; exact ⟨rfl, rfl⟩
  · rename_i h1
    rw [if_neg h1]
    split at h
    · rename_i h2; rw [if_pos h2]; exact ⟨rfl, rfl⟩
    · rename_i h2
      rw [if_neg h2]
      split at h
      · exact absurd rfl h
      · rename_i h3
        split at h
        · rename_i h4; rw [if_pos h4]; exact ⟨rfl, rfl⟩
        · exact absurd rfl h
@[go_sem] def tmint_r (a : Ar) (root : Nat) (key : Nat) : D := .tup [.agg [.sl (tms (putA a.l ⟨key, -1, putB [root]⟩).1)], .agg [.int .u64 (if (putA a.l ⟨key, -1, putB [root]⟩).2.2 = 0 then root else 0 : Nat), .sl (cvs []), .int .i64 (putA a.l ⟨key, -1, putB [root]⟩).2.1], .int .i64 (putA a.l ⟨key, -1, putB [root]⟩).2.2]
@[go_sem] abbrev n_tmint : FuncId := 19
@[go_sem] def tmint_T : Tab := [(60, sp_aroot), (61, sp_bput)]
theorem tmint_T_ok : TabOk Tryz.prog tmint_T := (TabOk.cons sp_aroot_ok (TabOk.cons sp_bput_ok TabOk.nil))
set_option maxRecDepth 8000 in
set_option maxHeartbeats 1000000 in
theorem tmint_ok (a : Ar) (root : Nat) (key : Nat)  : PureFn Tryz.prog 19 [.agg [.sl (tms a.l)], .c (.int .u64 (root : Int)), .c (.int .u64 (key : Int))] (tmint_r a root key) := by
  refine .of (ac19 tmint_T_ok (Nat.le_of_ble_eq_true rfl) ?_)
  simp -implicitDefEqProofs only [cdA, go_sem, Go.Proofs.Tryz.f19, reduceIte, reduceCtorEq, Nat.reduceEqDiff, Nat.reduceAdd, Nat.reduceLeDiff, Nat.reduceSub, Nat.reduceMul, Nat.reduceLT, Nat.reduceShiftRight, Nat.reduceMod, Int.reduceLE, Int.reduceLT, Int.reduceToNat, List.cons.injEq, cdB]
  refine ADraw.run us19_1 tmint_T_ok follows_mixed (by kernel_rfl) (by kernel_rfl) ?_
  simp -implicitDefEqProofs only [cdA, go_sem, reduceIte, reduceCtorEq, Nat.reduceEqDiff, Nat.reduceAdd, Nat.reduceLeDiff, Nat.reduceSub, Nat.reduceMul, Nat.reduceLT, Nat.reduceShiftRight, Nat.reduceMod, Int.reduceLE, Int.reduceLT, Int.reduceToNat, List.cons.injEq, cdB]
  refine ⟨fun h => ⟨⟨by rw [if_pos h], rfl⟩, h.symm⟩, fun h => ?_⟩
  obtain ⟨h1, h2⟩ := putA_bad h
  rw [if_neg h, h1, h2]
  exact ⟨rfl, rfl, rfl, rfl⟩
def sp_tmint : List D → Option (Prop × D × Fr)
  | [.agg [.c (.sl z21)], .c (.int .u64 z22), .c (.int .u64 z23)] => some (z21 = tms (dtms z21) ∧ z22 = (z22.toNat : Int) ∧ z23 = (z23.toNat : Int), tmint_r (⟨(dtms z21)⟩ : Ar) z22.toNat z23.toNat, [])
  | _ => none
attribute [go_sem] sp_tmint
theorem sp_tmint_ok : ∀ rs p r fr, sp_tmint rs = some (p, r, fr) → p → FnOk Tryz.prog 19 rs r fr := by
  intro rs p r fr h hp
  unfold sp_tmint at h
  split at h <;> cases h
  obtain ⟨hc0, hc1, hc2⟩ := hp
  rename_i z21 z22 z23
  obtain ⟨z21, rfl⟩ : ∃ m, z21 = tms m := ⟨_, hc0⟩
  obtain ⟨z22, rfl⟩ : ∃ m : Nat, z22 = m := ⟨_, hc1⟩
  obtain ⟨z23, rfl⟩ : ∃ m : Nat, z23 = m := ⟨_, hc2⟩
  simp only [Int.toNat_natCast, dtms_tms]
  exact tmint_ok ⟨z21⟩ z22 z23
def bindA (a : List Tm) (t : Tk) (c : Cv) : List Tm × Tk × Int :=
  if ¬ cavS c = 0 ∨ ¬ tokS t = 0 ∨ ¬ okAr a then ([], default, 1) else if t.l.length = 16 then ([], default, 7) else
  if (nextA a t.tag (cavB c)).2.2 = 0 then ((nextA a t.tag (cavB c)).1, ⟨t.root, t.l ++ [c], (nextA a t.tag (cavB c)).2.1⟩, 0) else ([], default, (nextA a t.tag (cavB c)).2.2)
@[go_sem] def cvclip_r (l : List Cv) : D := .csl (cvs l)
@[go_sem] abbrev n_cvclip : FuncId := 56
@[go_sem] def cvclip_T : Tab := []
theorem cvclip_T_ok : TabOk Tryz.prog cvclip_T := TabOk.nil
set_option maxRecDepth 8000 in
set_option maxHeartbeats 1000000 in
theorem cvclip_ok (l : List Cv)  : PureFn Tryz.prog 56 [.sl (cvs l)] (cvclip_r l) := by
  refine .of (ac56 cvclip_T_ok (Nat.le_of_ble_eq_true rfl) ?_)
  simp -implicitDefEqProofs only [cdA, go_sem, Go.Proofs.Tryz.f56, reduceIte, reduceCtorEq, Nat.reduceEqDiff, Nat.reduceAdd, Nat.reduceLeDiff, Nat.reduceSub, Nat.reduceMul, Nat.reduceLT, Nat.reduceShiftRight, Nat.reduceMod, Int.reduceLE, Int.reduceLT, Int.reduceToNat, List.cons.injEq, cdB]
  exact fun _ _ => ⟨Int.le_refl _, by rw [List.take_length]⟩
def sp_cvclip : List D → Option (Prop × D × Fr)
  | [.c (.sl z24)] => some (z24 = cvs (dcvs z24), cvclip_r (dcvs z24), [])
  | _ => none
attribute [go_sem] sp_cvclip
theorem sp_cvclip_ok : ∀ rs p r fr, sp_cvclip rs = some (p, r, fr) → p → FnOk Tryz.prog 56 rs r fr := by
  intro rs p r fr h hp
  unfold sp_cvclip at h
  split at h <;> cases h
  have hc0 := hp
  rename_i z24
  obtain ⟨z24, rfl⟩ : ∃ m, z24 = cvs m := ⟨_, hc0⟩
  simp only [dcvs_cvs]
  exact cvclip_ok z24
@[go_sem] def tbind_r (a : Ar) (t : Tk) (c : Cv) : D := .tup [.agg [.sl (tms (bindA a.l t c).1)], .agg [.int .u64 ((bindA a.l t c).2.1.root : Nat), .sl (cvs (bindA a.l t c).2.1.l), .int .i64 (bindA a.l t c).2.1.tag], .int .i64 (bindA a.l t c).2.2]
@[go_sem] abbrev n_tbind : FuncId := 16
@[go_sem] def tbind_T : Tab := [(52, sp_cavput), (53, sp_tcheck), (54, sp_archeck), (55, sp_anext), (56, sp_cvclip)]
theorem tbind_T_ok : TabOk Tryz.prog tbind_T := (TabOk.cons sp_cavput_ok (TabOk.cons sp_tcheck_ok (TabOk.cons sp_archeck_ok (TabOk.cons sp_anext_ok (TabOk.cons sp_cvclip_ok TabOk.nil)))))
set_option maxRecDepth 8000 in
set_option maxHeartbeats 1000000 in
theorem tbind_ok (a : Ar) (t : Tk) (c : Cv)  : PureFn Tryz.prog 16 [.agg [.sl (tms a.l)], .agg [.c (.int .u64 (t.root : Int)), .sl (cvs t.l), .c (.int .i64 t.tag)], .agg [.c (.int .i64 c.kind), .c (.int .u64 (c.a : Int)), .c (.int .u64 (c.b : Int))]] (tbind_r a t c) := by
  refine .of (ac16 tbind_T_ok (Nat.le_of_ble_eq_true rfl) ?_)
  simp -implicitDefEqProofs only [cdA, go_sem, Go.Proofs.Tryz.f16, reduceIte, reduceCtorEq, Nat.reduceEqDiff, Nat.reduceAdd, Nat.reduceLeDiff, Nat.reduceSub, Nat.reduceMul, Nat.reduceLT, Nat.reduceShiftRight, Nat.reduceMod, Int.reduceLE, Int.reduceLT, Int.reduceToNat, List.cons.injEq, cdB]
  have hbad : ∀ e : Int, bindA a.l t c = ([], default, e) → tms (bindA a.l t c).1 = [] ∧ (0 = ((bindA a.l t c).2.1.root : Int) ∧ cvs (bindA a.l t c).2.1.l = [] ∧ 0 = (bindA a.l t c).2.1.tag) ∧ e = (bindA a.l t c).2.2 := fun e h => by rw [h]; exact ⟨rfl, ⟨rfl, rfl, rfl⟩, rfl⟩
  have hrz : chkAr a.l = 0 ↔ okAr a.l := by unfold chkAr readA; split <;> rename_i h <;> simp only [h] <;> decide
  refine ⟨fun h1 => ⟨fun h2 => ⟨fun h3 _ => ?_, fun h3 => hbad 1 (by rw [bindA, if_pos (.inr (.inr fun h => h3 (hrz.2 h)))])⟩, fun h2 => hbad 1 (by rw [bindA, if_pos (.inr (.inl h2))])⟩, fun h1 => hbad 1 (by rw [bindA, if_pos (.inl h1)])⟩
  have hno : ¬ (¬ cavS c = 0 ∨ ¬ tokS t = 0 ∨ ¬ okAr a.l) := by
    rintro (h | h | h)
    · exact h h1
    · exact h h2
    · exact h (hrz.1 h3)
  have ht16 : t.l.length ≤ 16 := by
    unfold tokS at h2
    split at h2
    · rename_i h; exact h.1
    · cases h2
  refine ⟨fun h4 => hbad 7 (by rw [bindA, if_neg hno, if_pos (by omega)]), fun h4 => ⟨fun h5 => ?_, fun h5 => hbad _ (by rw [bindA, if_neg hno, if_neg (by omega), if_neg h5])⟩⟩
  have hfin : bindA a.l t c = ((nextA a.l t.tag (cavB c)).1, ⟨t.root, t.l ++ [c], (nextA a.l t.tag (cavB c)).2.1⟩, 0) := by rw [bindA, if_neg hno, if_neg (by omega), if_pos h5]
  rw [hfin]
  refine ADraw.run us16_9 tbind_T_ok follows_mixed (by kernel_rfl) (by kernel_rfl) ?_
  simp -implicitDefEqProofs only [cdA, go_sem, reduceIte, reduceCtorEq, Nat.reduceEqDiff, Nat.reduceAdd, Nat.reduceLeDiff, Nat.reduceSub, Nat.reduceMul, Nat.reduceLT, Nat.reduceShiftRight, Nat.reduceMod, Int.reduceLE, Int.reduceLT, Int.reduceToNat, List.cons.injEq, cdB]
  refine ⟨⟨by simp [cvs], by omega⟩, ?_⟩
  refine ADraw.run us16_10 tbind_T_ok follows_mixed (by kernel_rfl) (by kernel_rfl) ?_
  simp -implicitDefEqProofs only [cdA, go_sem, reduceIte, reduceCtorEq, Nat.reduceEqDiff, Nat.reduceAdd, Nat.reduceLeDiff, Nat.reduceSub, Nat.reduceMul, Nat.reduceLT, Nat.reduceShiftRight, Nat.reduceMod, Int.reduceLE, Int.reduceLT, Int.reduceToNat, List.cons.injEq, cdB]
  exact ⟨_, _, _, rfl⟩
def sp_tbind : List D → Option (Prop × D × Fr)
  | [.agg [.c (.sl z26)], .agg [.c (.int .u64 z28), .c (.sl z29), .c (.int .i64 z30)], .agg [.c (.int .i64 z32), .c (.int .u64 z33), .c (.int .u64 z34)]] => some (z26 = tms (dtms z26) ∧ z28 = (z28.toNat : Int) ∧ z29 = cvs (dcvs z29) ∧ z33 = (z33.toNat : Int) ∧ z34 = (z34.toNat : Int), tbind_r (⟨(dtms z26)⟩ : Ar) (⟨z28.toNat, (dcvs z29), z30⟩ : Tk) (⟨z32, z33.toNat, z34.toNat⟩ : Cv), [])
  | _ => none
attribute [go_sem] sp_tbind
theorem sp_tbind_ok : ∀ rs p r fr, sp_tbind rs = some (p, r, fr) → p → FnOk Tryz.prog 16 rs r fr := by
  intro rs p r fr h hp
  unfold sp_tbind at h
  split at h <;> cases h
  obtain ⟨hc0, hc1, hc2, hc3, hc4⟩ := hp
  rename_i z26 z28 z29 z30 z32 z33 z34
  obtain ⟨z26, rfl⟩ : ∃ m, z26 = tms m := ⟨_, hc0⟩
  obtain ⟨z28, rfl⟩ : ∃ m : Nat, z28 = m := ⟨_, hc1⟩
  obtain ⟨z29, rfl⟩ : ∃ m, z29 = cvs m := ⟨_, hc2⟩
  obtain ⟨z33, rfl⟩ : ∃ m : Nat, z33 = m := ⟨_, hc3⟩
  obtain ⟨z34, rfl⟩ : ∃ m : Nat, z34 = m := ⟨_, hc4⟩
  simp only [Int.toNat_natCast, dcvs_cvs, dtms_tms]
  exact tbind_ok ⟨z26⟩ ⟨z28, z29, z30⟩ ⟨z32, z33, z34⟩
end Dm
namespace Dm
open Go Go.Proofs Go.IntWalk
def verA (a : List Tm) (key : Nat) (t : Tk) : Bool × Int := if ¬ okTk t ∨ ¬ okAr a then (false, 1) else (decide ((findA a key (putB [t.root]) (t.l.map cavB)).2 = 0 ∧ (findA a key (putB [t.root]) (t.l.map cavB)).1 = t.tag), 0)
@[go_sem] def tverify_r (a : Ar) (key : Nat) (t : Tk) : D := .tup [.bool (verA a.l key t).1, .int .i64 (verA a.l key t).2]
@[go_sem] abbrev n_tverify : FuncId := 44
@[go_sem] def tverify_T : Tab := [(53, sp_tcheck), (54, sp_archeck), (113, sp_texts), (112, sp_afind), (61, sp_bput)]
theorem tverify_T_ok : TabOk Tryz.prog tverify_T := (TabOk.cons sp_tcheck_ok (TabOk.cons sp_archeck_ok (TabOk.cons sp_texts_ok (TabOk.cons sp_afind_ok (TabOk.cons sp_bput_ok TabOk.nil)))))
set_option maxRecDepth 8000 in
set_option maxHeartbeats 1000000 in
theorem tverify_ok (a : Ar) (key : Nat) (t : Tk)  : PureFn Tryz.prog 44 [.agg [.sl (tms a.l)], .c (.int .u64 (key : Int)), .agg [.c (.int .u64 (t.root : Int)), .sl (cvs t.l), .c (.int .i64 t.tag)]] (tverify_r a key t) := by
  refine .of (ac44 tverify_T_ok (Nat.le_of_ble_eq_true rfl) ?_)
  simp -implicitDefEqProofs only [cdA, go_sem, Go.Proofs.Tryz.f44, reduceIte, reduceCtorEq, Nat.reduceEqDiff, Nat.reduceAdd, Nat.reduceLeDiff, Nat.reduceSub, Nat.reduceMul, Nat.reduceLT, Nat.reduceShiftRight, Nat.reduceMod, Int.reduceLE, Int.reduceLT, Int.reduceToNat, List.cons.injEq, cdB]
  have hbad : (¬ okTk t ∨ ¬ okAr a.l) → false = (verA a.l key t).1 ∧ 1 = (verA a.l key t).2 := fun h => by rw [verA, if_pos h]; exact ⟨rfl, rfl⟩
  have hrz : chkAr a.l = 0 ↔ okAr a.l := by unfold chkAr readA; split <;> rename_i h <;> simp only [h] <;> decide
  have htz : tokS t = 0 ↔ okTk t := by unfold tokS; split <;> rename_i h <;> simp only [h] <;> decide
  refine ⟨fun h1 => ⟨fun h2 => ?_, fun h2 => hbad (.inr fun h => h2 (hrz.2 h))⟩, fun h1 => hbad (.inl fun h => h1 (htz.2 h))⟩
  have ht := htz.1 h1
  have ht16 := ht.1
  have hfin : verA a.l key t = (decide ((findA a.l key (putB [t.root]) (t.l.map cavB)).2 = 0 ∧ (findA a.l key (putB [t.root]) (t.l.map cavB)).1 = t.tag), 0) := by
    rw [verA, if_neg]
    rintro (h | h)
    · exact h ht
    · exact h (hrz.1 h2)
  rw [hfin]
  refine ADraw.run us44_3 tverify_T_ok follows_mixed (by kernel_rfl) (by kernel_rfl) ?_
  simp -implicitDefEqProofs only [cdA, go_sem, reduceIte, reduceCtorEq, Nat.reduceEqDiff, Nat.reduceAdd, Nat.reduceLeDiff, Nat.reduceSub, Nat.reduceMul, Nat.reduceLT, Nat.reduceShiftRight, Nat.reduceMod, Int.reduceLE, Int.reduceLT, Int.reduceToNat, List.cons.injEq, cdB]
  exact ⟨by omega, fun h => by rw [decide_eq_decide]; exact ⟨fun h3 => ⟨h, h3⟩, fun h3 => h3.2⟩, fun h => (decide_eq_false fun h3 => h h3.1).symm⟩
def sp_tverify : List D → Option (Prop × D × Fr)
  | [.agg [.c (.sl z2)], .c (.int .u64 z3), .agg [.c (.int .u64 z5), .c (.sl z6), .c (.int .i64 z7)]] => some (z2 = tms (dtms z2) ∧ z3 = (z3.toNat : Int) ∧ z5 = (z5.toNat : Int) ∧ z6 = cvs (dcvs z6), tverify_r (⟨(dtms z2)⟩ : Ar) z3.toNat (⟨z5.toNat, (dcvs z6), z7⟩ : Tk), [])
  | _ => none
attribute [go_sem] sp_tverify
theorem sp_tverify_ok : ∀ rs p r fr, sp_tverify rs = some (p, r, fr) → p → FnOk Tryz.prog 44 rs r fr := by
  intro rs p r fr h hp
  unfold sp_tverify at h
  split at h <;> cases h
  obtain ⟨hc0, hc1, hc2, hc3⟩ := hp
  rename_i z2 z3 z5 z6 z7
  obtain ⟨z2, rfl⟩ : ∃ m, z2 = tms m := ⟨_, hc0⟩
  obtain ⟨z3, rfl⟩ : ∃ m : Nat, z3 = m := ⟨_, hc1⟩
  obtain ⟨z5, rfl⟩ : ∃ m : Nat, z5 = m := ⟨_, hc2⟩
  obtain ⟨z6, rfl⟩ : ∃ m, z6 = cvs m := ⟨_, hc3⟩
  simp only [Int.toNat_natCast, dcvs_cvs, dtms_tms]
  exact tverify_ok ⟨z2⟩ z3 ⟨z5, z6, z7⟩
structure Us where
  tick : Nat
  method : Int
  amount : Nat
  who : Nat
deriving DecidableEq, Inhabited
@[go_sem] def Us.enc (e : Us) : List C := [.int .u64 (e.tick : Int), .int .i64 e.method, .int .u64 (e.amount : Int), .int .u64 (e.who : Int)]
def Us.dec : List C → Us
  | [.int .u64 z9, .int .i64 z10, .int .u64 z11, .int .u64 z12] => (⟨z9.toNat, z10, z11.toNat, z12.toNat⟩ : Us)
  | _ => default
def uss (l : List Us) : List (List C) := l.map Us.enc
def duss (l : List (List C)) : List Us := l.map Us.dec
@[simp, go_sem] theorem uss_length (l : List Us) : (uss l).length = l.length := by simp [uss]
@[go_sem] theorem uss_get (l : List Us) (i : Nat) : (uss l).getD i [.int .u64 0, .int .i64 0, .int .u64 0, .int .u64 0] = (l.getD i default).enc := by
  simp only [uss, List.getD_eq_getElem?_getD, List.getElem?_map]
  cases l[i]? <;> rfl
@[go_sem] theorem uss_wide (l : List Us) : Wide 4 (uss l) = True := by
  simp [Wide, uss, Us.enc]
theorem Us.dec_enc (e : Us) : Us.dec e.enc = e := by
  simp [Us.enc, Us.dec]
@[go_sem] theorem duss_uss (l : List Us) : duss (uss l) = l := by
  simp only [duss, uss, List.map_map]
  exact List.map_id'' (fun e => Us.dec_enc e) l
@[go_sem] theorem uss_app (a b : List Us) : uss a ++ uss b = uss (a ++ b) := by simp [uss]
@[go_sem] theorem uss_drop (l : List Us) (k : Nat) : (uss l).drop k = uss (l.drop k) := by simp [uss]
@[go_sem] theorem uss_take (l : List Us) (k : Nat) : (uss l).take k = uss (l.take k) := by simp [uss]
@[go_sem] theorem uss_one (z13 : Int) (z14 : Int) (z15 : Int) (z16 : Int) (hz13 : 0 ≤ z13) (hz15 : 0 ≤ z15) (hz16 : 0 ≤ z16) : [[C.int .u64 z13, C.int .i64 z14, C.int .u64 z15, C.int .u64 z16]] = uss [⟨z13.toNat, z14, z15.toNat, z16.toNat⟩] := by simp [uss, Us.enc, Int.toNat_of_nonneg hz13, Int.toNat_of_nonneg hz15, Int.toNat_of_nonneg hz16]
@[go_sem] theorem uss_set (l : List Us) (i : Nat) (z13 : Int) (z14 : Int) (z15 : Int) (z16 : Int) (hz13 : 0 ≤ z13) (hz15 : 0 ≤ z15) (hz16 : 0 ≤ z16) : (uss l).set i [C.int .u64 z13, C.int .i64 z14, C.int .u64 z15, C.int .u64 z16] = uss (l.set i ⟨z13.toNat, z14, z15.toNat, z16.toNat⟩) := by simp [uss, List.map_set, Us.enc, Int.toNat_of_nonneg hz13, Int.toNat_of_nonneg hz15, Int.toNat_of_nonneg hz16]
@[go_sem] theorem uss_cons (l : List Us) (z13 : Int) (z14 : Int) (z15 : Int) (z16 : Int) (hz13 : 0 ≤ z13) (hz15 : 0 ≤ z15) (hz16 : 0 ≤ z16) : [C.int .u64 z13, C.int .i64 z14, C.int .u64 z15, C.int .u64 z16] :: uss l = uss (⟨z13.toNat, z14, z15.toNat, z16.toNat⟩ :: l) := by simp [uss, Us.enc, Int.toNat_of_nonneg hz13, Int.toNat_of_nonneg hz15, Int.toNat_of_nonneg hz16]
@[go_sem] theorem uss_flat (l : List Us) : flatE (uss l) = True := eq_true fun x hx c hc => by
  obtain ⟨e, _, rfl⟩ := List.mem_map.1 hx
  simp only [Us.enc, List.mem_cons, List.not_mem_nil, or_false] at hc
  rcases hc with rfl | rfl | rfl | rfl <;> rfl
@[go_sem] theorem Us.eta {e : Us} : (⟨e.tick, e.method, e.amount, e.who⟩ : Us) = e := rfl
def mayU (u : Us) : Bool := decide (0 ≤ u.method ∧ u.method < 16 ∧ u.amount ≤ 4611686018427387904)
@[go_sem] def cmay_r (u : Us) : D := .bool (mayU u)
@[go_sem] abbrev n_cmay : FuncId := 59
@[go_sem] def cmay_T : Tab := [(122, sp_moncheck)]
theorem cmay_T_ok : TabOk Tryz.prog cmay_T := (TabOk.cons sp_moncheck_ok TabOk.nil)
set_option maxRecDepth 8000 in
set_option maxHeartbeats 1000000 in
theorem cmay_ok (u : Us)  : PureFn Tryz.prog 59 [.agg [.c (.int .u64 (u.tick : Int)), .c (.int .i64 u.method), .c (.int .u64 (u.amount : Int)), .c (.int .u64 (u.who : Int))]] (cmay_r u) := by
  refine .of (ac59 cmay_T_ok (Nat.le_of_ble_eq_true rfl) ?_)
  simp -implicitDefEqProofs only [cdA, go_sem, Go.Proofs.Tryz.f59, reduceIte, reduceCtorEq, Nat.reduceEqDiff, Nat.reduceAdd, Nat.reduceLeDiff, Nat.reduceSub, Nat.reduceMul, Nat.reduceLT, Nat.reduceShiftRight, Nat.reduceMod, Int.reduceLE, Int.reduceLT, Int.reduceToNat, List.cons.injEq, cdB]
  unfold mayU
  refine ⟨fun h1 => ⟨fun h2 => ?_, fun h2 => (decide_eq_false fun h => h2 h.2.1).symm⟩, fun h1 => (decide_eq_false fun h => h1 h.1).symm⟩
  rw [decide_eq_decide, mon1_0]
  exact ⟨fun h => ⟨h1, h2, h⟩, fun h => h.2.2⟩
def sp_cmay : List D → Option (Prop × D × Fr)
  | [.agg [.c (.int .u64 z18), .c (.int .i64 z19), .c (.int .u64 z20), .c (.int .u64 z21)]] => some (z18 = (z18.toNat : Int) ∧ z20 = (z20.toNat : Int) ∧ z21 = (z21.toNat : Int), cmay_r (⟨z18.toNat, z19, z20.toNat, z21.toNat⟩ : Us), [])
  | _ => none
attribute [go_sem] sp_cmay
theorem sp_cmay_ok : ∀ rs p r fr, sp_cmay rs = some (p, r, fr) → p → FnOk Tryz.prog 59 rs r fr := by
  intro rs p r fr h hp
  unfold sp_cmay at h
  split at h <;> cases h
  obtain ⟨hc0, hc1, hc2⟩ := hp
  rename_i z18 z19 z20 z21
  obtain ⟨z18, rfl⟩ : ∃ m : Nat, z18 = m := ⟨_, hc0⟩
  obtain ⟨z20, rfl⟩ : ∃ m : Nat, z20 = m := ⟨_, hc1⟩
  obtain ⟨z21, rfl⟩ : ∃ m : Nat, z21 = m := ⟨_, hc2⟩
  simp only [Int.toNat_natCast]
  exact cmay_ok ⟨z18, z19, z20, z21⟩
def withinC (c : Cv) (u : Us) : Bool := if c.kind = 1 then decide (u.tick ≤ c.a) else if c.kind = 2 then decide (c.a / 2 ^ u.method.toNat % 2 = 1) else if c.kind = 3 ∨ c.kind = 4 then decide (u.amount ≤ c.a) else decide (u.who = c.a)
def holdS (c : Cv) (u : Us) : Bool × Int := if cavS c = 0 ∧ mayU u = true then (withinC c u, 0) else (false, 1)
@[go_sem] def cholds_r (c : Cv) (u : Us) : D := .tup [.bool (holdS c u).1, .int .i64 (holdS c u).2]
@[go_sem] abbrev n_cholds : FuncId := 18
@[go_sem] def cholds_T : Tab := [(58, sp_cavcheck), (59, sp_cmay)]
theorem cholds_T_ok : TabOk Tryz.prog cholds_T := (TabOk.cons sp_cavcheck_ok (TabOk.cons sp_cmay_ok TabOk.nil))
set_option maxRecDepth 8000 in
set_option maxHeartbeats 1000000 in
theorem cholds_ok (c : Cv) (u : Us)  : PureFn Tryz.prog 18 [.agg [.c (.int .i64 c.kind), .c (.int .u64 (c.a : Int)), .c (.int .u64 (c.b : Int))], .agg [.c (.int .u64 (u.tick : Int)), .c (.int .i64 u.method), .c (.int .u64 (u.amount : Int)), .c (.int .u64 (u.who : Int))]] (cholds_r c u) := by
  refine .of (ac18 cholds_T_ok (Nat.le_of_ble_eq_true rfl) ?_)
  simp -implicitDefEqProofs only [cdA, go_sem, Go.Proofs.Tryz.f18, reduceIte, reduceCtorEq, Nat.reduceEqDiff, Nat.reduceAdd, Nat.reduceLeDiff, Nat.reduceSub, Nat.reduceMul, Nat.reduceLT, Nat.reduceShiftRight, Nat.reduceMod, Int.reduceLE, Int.reduceLT, Int.reduceToNat, List.cons.injEq, cdB]
  have hbad : ¬ (cavS c = 0 ∧ mayU u = true) → false = (holdS c u).1 ∧ 1 = (holdS c u).2 := fun h => by rw [holdS, if_neg h]; exact ⟨rfl, rfl⟩
  refine ⟨fun h1 => ⟨fun h2 => ?_, fun h2 => hbad fun h => by rw [h2] at h; exact absurd h.2 (by decide)⟩, fun h1 => hbad fun h => h1 h.1⟩
  have hfin : holdS c u = (withinC c u, 0) := by rw [holdS, if_pos ⟨h1, h2⟩]
  rw [hfin]
  have hu := of_decide_eq_true h2
  unfold withinC
  refine ⟨fun k1 => ?_, fun k1 => ⟨fun k2 => ?_, fun k2 => ⟨fun k3 => ?_, fun k3 => ⟨fun k4 => ?_, fun k4 => ⟨fun k5 => ?_, fun k5 => ?_⟩⟩⟩⟩⟩
  · rw [if_pos k1]; exact ⟨by rw [decide_eq_decide]; omega, rfl⟩
  · rw [if_neg k1, if_pos k2]
    have hc : c.a < 65536 := by
      unfold cavS at h1
      split at h1
      · rename_i h; omega
      · cases h1
    have e2 : (c.a : Int).fdiv (2 ^ min u.method.toNat 64) = ((c.a / 2 ^ u.method.toNat : Nat) : Int) := by
      rw [show min u.method.toNat 64 = u.method.toNat by omega, Int.fdiv_eq_ediv_of_nonneg _ (Int.le_of_lt (Int.pow_pos (by decide))), Int.natCast_ediv, Int.natCast_pow]; rfl
    have hle : c.a / 2 ^ u.method.toNat < 18446744073709551616 := by have := Nat.div_le_self c.a (2 ^ u.method.toNat); omega
    have e3 := iandN (a := c.a / 2 ^ u.method.toNat) (b := 1) hle (by decide)
    rw [e2]
    refine ⟨hu.1, ?_, rfl⟩
    rw [decide_eq_decide, show (1 : Int) = ((1 : Nat) : Int) from rfl, e3, Nat.and_one_is_mod]
    omega
  · rw [if_neg k1, if_neg k2, if_pos (.inl k3)]; exact ⟨by rw [decide_eq_decide]; omega, rfl⟩
  · rw [if_neg k1, if_neg k2, if_pos (.inr k4)]; exact ⟨by rw [decide_eq_decide]; omega, rfl⟩
  · rw [if_neg k1, if_neg k2, if_neg (by omega)]; exact ⟨by rw [decide_eq_decide]; omega, rfl⟩
  · exfalso
    unfold cavS at h1
    split at h1
    · rename_i h; omega
    · cases h1
def sp_cholds : List D → Option (Prop × D × Fr)
  | [.agg [.c (.int .i64 z23), .c (.int .u64 z24), .c (.int .u64 z25)], .agg [.c (.int .u64 z27), .c (.int .i64 z28), .c (.int .u64 z29), .c (.int .u64 z30)]] => some (z24 = (z24.toNat : Int) ∧ z25 = (z25.toNat : Int) ∧ z27 = (z27.toNat : Int) ∧ z29 = (z29.toNat : Int) ∧ z30 = (z30.toNat : Int), cholds_r (⟨z23, z24.toNat, z25.toNat⟩ : Cv) (⟨z27.toNat, z28, z29.toNat, z30.toNat⟩ : Us), [])
  | _ => none
attribute [go_sem] sp_cholds
theorem sp_cholds_ok : ∀ rs p r fr, sp_cholds rs = some (p, r, fr) → p → FnOk Tryz.prog 18 rs r fr := by
  intro rs p r fr h hp
  unfold sp_cholds at h
  split at h <;> cases h
  obtain ⟨hc0, hc1, hc2, hc3, hc4⟩ := hp
  rename_i z23 z24 z25 z27 z28 z29 z30
  obtain ⟨z24, rfl⟩ : ∃ m : Nat, z24 = m := ⟨_, hc0⟩
  obtain ⟨z25, rfl⟩ : ∃ m : Nat, z25 = m := ⟨_, hc1⟩
  obtain ⟨z27, rfl⟩ : ∃ m : Nat, z27 = m := ⟨_, hc2⟩
  obtain ⟨z29, rfl⟩ : ∃ m : Nat, z29 = m := ⟨_, hc3⟩
  obtain ⟨z30, rfl⟩ : ∃ m : Nat, z30 = m := ⟨_, hc4⟩
  simp only [Int.toNat_natCast]
  exact cholds_ok ⟨z23, z24, z25⟩ ⟨z27, z28, z29, z30⟩
def allS (l : List Cv) (u : Us) : Bool × Int := if l.length ≤ 16 ∧ mayU u = true ∧ ∀ c ∈ l, cavS c = 0 then (l.all fun c => withinC c u, 0) else (false, 1)
@[go_sem] def cvall_r (l : List Cv) (u : Us) : D := .tup [.bool (allS l u).1, .int .i64 (allS l u).2]
@[go_sem] abbrev n_cvall : FuncId := 46
@[go_sem] def cvall_T : Tab := [(18, sp_cholds), (59, sp_cmay)]
theorem cvall_T_ok : TabOk Tryz.prog cvall_T := (TabOk.cons sp_cholds_ok (TabOk.cons sp_cmay_ok TabOk.nil))
set_option maxRecDepth 8000 in
set_option maxHeartbeats 1000000 in
theorem cvall_ok (l : List Cv) (u : Us)  : PureFn Tryz.prog 46 [.sl (cvs l), .agg [.c (.int .u64 (u.tick : Int)), .c (.int .i64 u.method), .c (.int .u64 (u.amount : Int)), .c (.int .u64 (u.who : Int))]] (cvall_r l u) := by
  refine .of (ac46 cvall_T_ok (Nat.le_of_ble_eq_true rfl) ?_)
  simp -implicitDefEqProofs only [cdA, go_sem, Go.Proofs.Tryz.f46, reduceIte, reduceCtorEq, Nat.reduceEqDiff, Nat.reduceAdd, Nat.reduceLeDiff, Nat.reduceSub, Nat.reduceMul, Nat.reduceLT, Nat.reduceShiftRight, Nat.reduceMod, Int.reduceLE, Int.reduceLT, Int.reduceToNat, List.cons.injEq, cdB]
  have hbad : ¬ (l.length ≤ 16 ∧ mayU u = true ∧ ∀ c ∈ l, cavS c = 0) → false = (allS l u).1 ∧ 1 = (allS l u).2 := fun h => by rw [allS, if_neg h]; exact ⟨rfl, rfl⟩
  refine fun _ => ⟨fun h1 => ⟨fun h2 _ => ?_, fun h2 => hbad fun h => by rw [h2] at h; exact absurd h.2.1 (by decide)⟩, fun h1 => hbad fun h => by have := h.1; omega⟩
  refine SWp.loop (ι := { i : Nat // i ≤ l.length ∧ ∀ j, j < i → cavS (l.getD j default) = 0 }) (fun i => ⟨[(3, .ref 0 0), (6, .bool ((l.take i.1).all fun c => withinC c u)), (19, .sl (cvs l)), (20, .int .i64 l.length), (21, .int .i64 i.1)],
    [(0, .box [.c (.int .u64 u.tick), .c (.int .i64 u.method), .c (.int .u64 u.amount), .c (.int .u64 u.who)])], 1⟩) (fun i => l.length - i.1) ⟨0, by simp⟩ ?_ ?_
  · simp [go_sem]
  · rintro ⟨i, hi, hall⟩
    refine awp_sound cvall_T_ok.toS lv46 _ _ _ rfl ?_
    simp -implicitDefEqProofs only [cdA, go_sem, reduceIte, reduceCtorEq, Nat.reduceEqDiff, Nat.reduceAdd, Nat.reduceLeDiff, Nat.reduceSub, Nat.reduceMul, Nat.reduceLT, Nat.reduceShiftRight, Nat.reduceMod, Int.reduceLE, Int.reduceLT, Int.reduceToNat, List.cons.injEq, cdB]
    have hh : cavS (l.getD i default) = 0 → holdS (l.getD i default) u = (withinC (l.getD i default) u, 0) := fun h => by rw [holdS, if_pos ⟨h, h2⟩]
    have hh1 : (holdS (l.getD i default) u).2 = 0 → cavS (l.getD i default) = 0 := fun h => by
      unfold holdS at h
      split at h
      · rename_i h3; exact h3.1
      · cases h
    refine ⟨fun h3 => ⟨h3, fun h4 => ?_, fun h4 => ?_⟩, fun h3 => ?_⟩
    · have hi' : i < l.length := by omega
      have hc := hh1 h4
      have htk := take_succ hi'
      have hnx : ∀ j, j < i + 1 → cavS (l.getD j default) = 0 := fun j hj => by
        by_cases hji : j = i
        · subst hji; exact hc
        · exact hall j (by omega)
      refine ⟨fun h5 => ⟨⟨i + 1, hi', hnx⟩, by dsimp only; omega, ?_, i64_in _ (by omega)⟩, fun h5 => ⟨⟨i + 1, hi', hnx⟩, by dsimp only; omega, ?_, i64_in _ (by omega)⟩⟩
      · dsimp only; rw [htk, List.all_append, h5, hh hc]; simp
      · dsimp only; rw [htk, List.all_append, h5]; rfl
    · have hc : ¬ cavS (l.getD i default) = 0 := fun h => h4 (by rw [hh h])
      have e : holdS (l.getD i default) u = (false, 1) := by rw [holdS, if_neg fun h => hc h.1]
      rw [e]
      exact hbad fun h => hc (h.2.2 _ (mem_getD.2 ⟨i, by omega, rfl⟩))
    · have hi' : i = l.length := by omega
      subst hi'
      have : allS l u = (l.all fun c => withinC c u, 0) := by
        rw [allS, if_pos ⟨by omega, h2, fun c hc => by obtain ⟨j, hj, rfl⟩ := mem_getD.1 hc; exact hall j hj⟩]
      rw [this, List.take_length]; exact ⟨rfl, rfl⟩
def sp_cvall : List D → Option (Prop × D × Fr)
  | [.c (.sl z31), .agg [.c (.int .u64 z33), .c (.int .i64 z34), .c (.int .u64 z35), .c (.int .u64 z36)]] => some (z31 = cvs (dcvs z31) ∧ z33 = (z33.toNat : Int) ∧ z35 = (z35.toNat : Int) ∧ z36 = (z36.toNat : Int), cvall_r (dcvs z31) (⟨z33.toNat, z34, z35.toNat, z36.toNat⟩ : Us), [])
  | _ => none
attribute [go_sem] sp_cvall
theorem sp_cvall_ok : ∀ rs p r fr, sp_cvall rs = some (p, r, fr) → p → FnOk Tryz.prog 46 rs r fr := by
  intro rs p r fr h hp
  unfold sp_cvall at h
  split at h <;> cases h
  obtain ⟨hc0, hc1, hc2, hc3⟩ := hp
  rename_i z31 z33 z34 z35 z36
  obtain ⟨z31, rfl⟩ : ∃ m, z31 = cvs m := ⟨_, hc0⟩
  obtain ⟨z33, rfl⟩ : ∃ m : Nat, z33 = m := ⟨_, hc1⟩
  obtain ⟨z35, rfl⟩ : ∃ m : Nat, z35 = m := ⟨_, hc2⟩
  obtain ⟨z36, rfl⟩ : ∃ m : Nat, z36 = m := ⟨_, hc3⟩
  simp only [Int.toNat_natCast, dcvs_cvs]
  exact cvall_ok z31 ⟨z33, z34, z35, z36⟩
end Dm
namespace Dm
open Go Go.Proofs Go.IntWalk
structure Hd where
  id : Nat
  n : Nat
deriving DecidableEq, Inhabited
@[go_sem] def Hd.enc (e : Hd) : List C := [.int .u64 (e.id : Int), .int .u64 (e.n : Int)]
def Hd.dec : List C → Hd
  | [.int .u64 z9, .int .u64 z10] => (⟨z9.toNat, z10.toNat⟩ : Hd)
  | _ => default
def hds (l : List Hd) : List (List C) := l.map Hd.enc
def dhds (l : List (List C)) : List Hd := l.map Hd.dec
@[simp, go_sem] theorem hds_length (l : List Hd) : (hds l).length = l.length := by simp [hds]
@[go_sem] theorem hds_get (l : List Hd) (i : Nat) : (hds l).getD i [.int .u64 0, .int .u64 0] = (l.getD i default).enc := by
  simp only [hds, List.getD_eq_getElem?_getD, List.getElem?_map]
  cases l[i]? <;> rfl
@[go_sem] theorem hds_wide (l : List Hd) : Wide 2 (hds l) = True := by
  simp [Wide, hds, Hd.enc]
theorem Hd.dec_enc (e : Hd) : Hd.dec e.enc = e := by
  simp [Hd.enc, Hd.dec]
@[go_sem] theorem dhds_hds (l : List Hd) : dhds (hds l) = l := by
  simp only [dhds, hds, List.map_map]
  exact List.map_id'' (fun e => Hd.dec_enc e) l
@[go_sem] theorem hds_app (a b : List Hd) : hds a ++ hds b = hds (a ++ b) := by simp [hds]
@[go_sem] theorem hds_drop (l : List Hd) (k : Nat) : (hds l).drop k = hds (l.drop k) := by simp [hds]
@[go_sem] theorem hds_take (l : List Hd) (k : Nat) : (hds l).take k = hds (l.take k) := by simp [hds]
@[go_sem] theorem hds_one (z11 : Int) (z12 : Int) (hz11 : 0 ≤ z11) (hz12 : 0 ≤ z12) : [[C.int .u64 z11, C.int .u64 z12]] = hds [⟨z11.toNat, z12.toNat⟩] := by simp [hds, Hd.enc, Int.toNat_of_nonneg hz11, Int.toNat_of_nonneg hz12]
@[go_sem] theorem hds_set (l : List Hd) (i : Nat) (z11 : Int) (z12 : Int) (hz11 : 0 ≤ z11) (hz12 : 0 ≤ z12) : (hds l).set i [C.int .u64 z11, C.int .u64 z12] = hds (l.set i ⟨z11.toNat, z12.toNat⟩) := by simp [hds, List.map_set, Hd.enc, Int.toNat_of_nonneg hz11, Int.toNat_of_nonneg hz12]
@[go_sem] theorem hds_cons (l : List Hd) (z11 : Int) (z12 : Int) (hz11 : 0 ≤ z11) (hz12 : 0 ≤ z12) : [C.int .u64 z11, C.int .u64 z12] :: hds l = hds (⟨z11.toNat, z12.toNat⟩ :: l) := by simp [hds, Hd.enc, Int.toNat_of_nonneg hz11, Int.toNat_of_nonneg hz12]
@[go_sem] theorem hds_flat (l : List Hd) : flatE (hds l) = True := eq_true fun x hx c hc => by
  obtain ⟨e, _, rfl⟩ := List.mem_map.1 hx
  simp only [Hd.enc, List.mem_cons, List.not_mem_nil, or_false] at hc
  rcases hc with rfl | rfl <;> rfl
@[go_sem] theorem Hd.eta {e : Hd} : (⟨e.id, e.n⟩ : Hd) = e := rfl
structure Ch where
  id : Nat
  loc : Nat
  rem : Nat
  res : Nat
  most : Nat
  holds : List Hd
  op : Bool
deriving DecidableEq, Inhabited
@[go_sem] def Ch.enc (e : Ch) : List C := [.int .u64 (e.id : Int), .int .u64 (e.loc : Int), .int .u64 (e.rem : Int), .int .u64 (e.res : Int), .int .u64 (e.most : Int), .sl (hds e.holds), .bool e.op]
def Ch.dec : List C → Ch
  | [.int .u64 z14, .int .u64 z15, .int .u64 z16, .int .u64 z17, .int .u64 z18, .sl z19, .bool z20] => (⟨z14.toNat, z15.toNat, z16.toNat, z17.toNat, z18.toNat, (dhds z19), z20⟩ : Ch)
  | _ => default
def chs (l : List Ch) : List (List C) := l.map Ch.enc
def dchs (l : List (List C)) : List Ch := l.map Ch.dec
@[simp, go_sem] theorem chs_length (l : List Ch) : (chs l).length = l.length := by simp [chs]
@[go_sem] theorem chs_get (l : List Ch) (i : Nat) : (chs l).getD i [.int .u64 0, .int .u64 0, .int .u64 0, .int .u64 0, .int .u64 0, .sl [], .bool false] = (l.getD i default).enc := by
  simp only [chs, List.getD_eq_getElem?_getD, List.getElem?_map]
  cases l[i]? <;> rfl
@[go_sem] theorem chs_wide (l : List Ch) : Wide 7 (chs l) = True := by
  simp [Wide, chs, Ch.enc]
theorem Ch.dec_enc (e : Ch) : Ch.dec e.enc = e := by
  simp [Ch.enc, Ch.dec, dhds_hds]
@[go_sem] theorem dchs_chs (l : List Ch) : dchs (chs l) = l := by
  simp only [dchs, chs, List.map_map]
  exact List.map_id'' (fun e => Ch.dec_enc e) l
@[go_sem] theorem chs_app (a b : List Ch) : chs a ++ chs b = chs (a ++ b) := by simp [chs]
@[go_sem] theorem chs_drop (l : List Ch) (k : Nat) : (chs l).drop k = chs (l.drop k) := by simp [chs]
@[go_sem] theorem chs_take (l : List Ch) (k : Nat) : (chs l).take k = chs (l.take k) := by simp [chs]
@[go_sem] theorem chs_one (z21 : Int) (z22 : Int) (z23 : Int) (z24 : Int) (z25 : Int) (z26 : List Hd) (z27 : Bool) (hz21 : 0 ≤ z21) (hz22 : 0 ≤ z22) (hz23 : 0 ≤ z23) (hz24 : 0 ≤ z24) (hz25 : 0 ≤ z25) : [[C.int .u64 z21, C.int .u64 z22, C.int .u64 z23, C.int .u64 z24, C.int .u64 z25, C.sl (hds z26), C.bool z27]] = chs [⟨z21.toNat, z22.toNat, z23.toNat, z24.toNat, z25.toNat, z26, z27⟩] := by simp [chs, Ch.enc, Int.toNat_of_nonneg hz21, Int.toNat_of_nonneg hz22, Int.toNat_of_nonneg hz23, Int.toNat_of_nonneg hz24, Int.toNat_of_nonneg hz25]
@[go_sem] theorem chs_set (l : List Ch) (i : Nat) (z21 : Int) (z22 : Int) (z23 : Int) (z24 : Int) (z25 : Int) (z26 : List Hd) (z27 : Bool) (hz21 : 0 ≤ z21) (hz22 : 0 ≤ z22) (hz23 : 0 ≤ z23) (hz24 : 0 ≤ z24) (hz25 : 0 ≤ z25) : (chs l).set i [C.int .u64 z21, C.int .u64 z22, C.int .u64 z23, C.int .u64 z24, C.int .u64 z25, C.sl (hds z26), C.bool z27] = chs (l.set i ⟨z21.toNat, z22.toNat, z23.toNat, z24.toNat, z25.toNat, z26, z27⟩) := by simp [chs, List.map_set, Ch.enc, Int.toNat_of_nonneg hz21, Int.toNat_of_nonneg hz22, Int.toNat_of_nonneg hz23, Int.toNat_of_nonneg hz24, Int.toNat_of_nonneg hz25]
@[go_sem] theorem chs_cons (l : List Ch) (z21 : Int) (z22 : Int) (z23 : Int) (z24 : Int) (z25 : Int) (z26 : List Hd) (z27 : Bool) (hz21 : 0 ≤ z21) (hz22 : 0 ≤ z22) (hz23 : 0 ≤ z23) (hz24 : 0 ≤ z24) (hz25 : 0 ≤ z25) : [C.int .u64 z21, C.int .u64 z22, C.int .u64 z23, C.int .u64 z24, C.int .u64 z25, C.sl (hds z26), C.bool z27] :: chs l = chs (⟨z21.toNat, z22.toNat, z23.toNat, z24.toNat, z25.toNat, z26, z27⟩ :: l) := by simp [chs, Ch.enc, Int.toNat_of_nonneg hz21, Int.toNat_of_nonneg hz22, Int.toNat_of_nonneg hz23, Int.toNat_of_nonneg hz24, Int.toNat_of_nonneg hz25]
@[go_sem] theorem Ch.eta {e : Ch} : (⟨e.id, e.loc, e.rem, e.res, e.most, e.holds, e.op⟩ : Ch) = e := rfl
def Hd.key (h : Hd) : Nat := h.id
def held (l : List Hd) : Nat := (l.map Hd.n).sum
abbrev ltN (a b : Nat) : Prop := a < b
abbrev MM : Nat := 4611686018427387904
def okCh (c : Ch) : Prop := c.res ≤ MM ∧ c.most ≤ MM ∧ c.holds.length ≤ 64 ∧ (c.op = false → c.holds = []) ∧ (∀ h ∈ c.holds, h.n ≠ 0) ∧ Srt.Chn Hd.key ltN c.holds ∧ held c.holds ≤ c.most ∧ c.loc ≤ MM ∧ c.rem ≤ MM ∧ held c.holds + c.loc + c.rem ≤ MM
instance (l : List Hd) : Decidable (Srt.Chn Hd.key ltN l) := by unfold Srt.Chn; infer_instance
instance (c : Ch) : Decidable (okCh c) := by unfold okCh; infer_instance
def sumsC (c : Ch) : Nat × Nat × Int := if okCh c then (held c.holds, held c.holds + c.loc + c.rem, 0) else (0, 0, 1)
@[go_sem] def horder_r (h : Hd) (id : Nat) : D := .int .i64 (cmpS h.id id)
@[go_sem] abbrev n_horder : FuncId := 261
@[go_sem] def horder_T : Tab := [(225, sp_cmp)]
theorem horder_T_ok : TabOk Tryz.prog horder_T := (TabOk.cons sp_cmp_ok TabOk.nil)
set_option maxRecDepth 8000 in
set_option maxHeartbeats 1000000 in
theorem horder_ok (h : Hd) (id : Nat)  : PureFn Tryz.prog 261 [.agg [.c (.int .u64 (h.id : Int)), .c (.int .u64 (h.n : Int))], .c (.int .u64 (id : Int))] (horder_r h id) := by
  refine .of (ac261 horder_T_ok (Nat.le_of_ble_eq_true rfl) ?_)
  simp -implicitDefEqProofs only [cdA, go_sem, Go.Proofs.Tryz.f261, reduceIte, reduceCtorEq, Nat.reduceEqDiff, Nat.reduceAdd, Nat.reduceLeDiff, Nat.reduceSub, Nat.reduceMul, Nat.reduceLT, Nat.reduceShiftRight, Nat.reduceMod, Int.reduceLE, Int.reduceLT, Int.reduceToNat, List.cons.injEq, cdB]
def sp_horder : List D → Option (Prop × D × Fr)
  | [.agg [.c (.int .u64 z29), .c (.int .u64 z30)], .c (.int .u64 z31)] => some (z29 = (z29.toNat : Int) ∧ z30 = (z30.toNat : Int) ∧ z31 = (z31.toNat : Int), horder_r (⟨z29.toNat, z30.toNat⟩ : Hd) z31.toNat, [])
  | _ => none
attribute [go_sem] sp_horder
theorem sp_horder_ok : ∀ rs p r fr, sp_horder rs = some (p, r, fr) → p → FnOk Tryz.prog 261 rs r fr := by
  intro rs p r fr h hp
  unfold sp_horder at h
  split at h <;> cases h
  obtain ⟨hc0, hc1, hc2⟩ := hp
  rename_i z29 z30 z31
  obtain ⟨z29, rfl⟩ : ∃ m : Nat, z29 = m := ⟨_, hc0⟩
  obtain ⟨z30, rfl⟩ : ∃ m : Nat, z30 = m := ⟨_, hc1⟩
  obtain ⟨z31, rfl⟩ : ∃ m : Nat, z31 = m := ⟨_, hc2⟩
  simp only [Int.toNat_natCast]
  exact horder_ok ⟨z29, z30⟩ z31
@[go_sem] def csums_r (c : Ch) : D := .tup [.int .u64 ((sumsC c).1 : Int), .int .u64 ((sumsC c).2.1 : Int), .int .i64 (sumsC c).2.2]
@[go_sem] abbrev n_csums : FuncId := 259
@[go_sem] def csums_T : Tab := [(122, sp_moncheck), (198, sp_monadd), (261, sp_horder)]
theorem csums_T_ok : TabOk Tryz.prog csums_T := (TabOk.cons sp_moncheck_ok (TabOk.cons sp_monadd_ok (TabOk.cons sp_horder_ok TabOk.nil)))
set_option maxRecDepth 8000 in
set_option maxHeartbeats 1000000 in
theorem csums_ok (c : Ch)  : PureFn Tryz.prog 259 [.agg [.c (.int .u64 (c.id : Int)), .c (.int .u64 (c.loc : Int)), .c (.int .u64 (c.rem : Int)), .c (.int .u64 (c.res : Int)), .c (.int .u64 (c.most : Int)), .sl (hds c.holds), .c (.bool c.op)]] (csums_r c) := by
  refine .of (ac259 csums_T_ok (Nat.le_of_ble_eq_true rfl) ?_)
  simp -implicitDefEqProofs only [cdA, go_sem, Go.Proofs.Tryz.f259, reduceIte, reduceCtorEq, Nat.reduceEqDiff, Nat.reduceAdd, Nat.reduceLeDiff, Nat.reduceSub, Nat.reduceMul, Nat.reduceLT, Nat.reduceShiftRight, Nat.reduceMod, Int.reduceLE, Int.reduceLT, Int.reduceToNat, List.cons.injEq, cdB]
  have hbad : ¬ okCh c → 0 = ((sumsC c).1 : Int) ∧ 0 = ((sumsC c).2.1 : Int) ∧ 1 = (sumsC c).2.2 := fun h => by simp [sumsC, if_neg h]
  have hmon : monS [c.res, c.most] = 0 ↔ c.res ≤ MM ∧ c.most ≤ MM := by rw [mon2]; split <;> simp_all
  rw [hmon]
  refine ⟨fun h1 hl => ⟨fun h2 => ⟨fun h3 _ => ⟨fun h4 => hbad fun h => ?_, fun h4 _ => ?_⟩, fun h3 _ => ?_⟩, fun h2 => hbad fun h => ?_⟩, fun h1 => hbad fun h => h1 ⟨h.1, h.2.1⟩⟩
  · have := h.2.2.2.1 (by simpa using h3)
    rw [this] at h4; simp at h4
  rotate_left 2
  · have := h.2.2.1; omega
  all_goals
    have hop : c.op = false → c.holds = [] := fun h => by first | (rw [h] at h3; cases h3; done) | exact List.eq_nil_of_length_eq_zero (by omega)
    refine SWp.loop (ι := { i : Nat // i ≤ c.holds.length ∧ held (c.holds.take i) ≤ c.most ∧ (∀ j, j < i → (c.holds.getD j default).n ≠ 0 ∧ (0 < j → (c.holds.getD (j - 1) default).id < (c.holds.getD j default).id)) }) (fun i => ⟨[(1, .ref 0 0), (2, .int .u64 (held (c.holds.take i.1) : Nat)), (32, .sl (hds c.holds)), (33, .int .i64 c.holds.length), (34, .int .i64 i.1)],
      [(0, .box [.int .u64 c.id, .int .u64 c.loc, .int .u64 c.rem, .int .u64 c.res, .int .u64 c.most, .sl (hds c.holds), .bool c.op])], 2⟩) (fun i => c.holds.length - i.1) ⟨0, by simp [held]⟩ ?_ ?_
    · simp [go_sem, held]
    · rintro ⟨i, hi, hs, hall⟩
      refine awp_sound csums_T_ok.toS lv259 _ _ _ rfl ?_
      simp -implicitDefEqProofs only [cdA, go_sem, reduceIte, reduceCtorEq, Nat.reduceEqDiff, Nat.reduceAdd, Nat.reduceLeDiff, Nat.reduceSub, Nat.reduceMul, Nat.reduceLT, Nat.reduceShiftRight, Nat.reduceMod, Int.reduceLE, Int.reduceLT, Int.reduceToNat, List.cons.injEq, cdB]
      have hst : i < c.holds.length → held (c.holds.take (i + 1)) = held (c.holds.take i) + (c.holds.getD i default).n := fun h => by rw [take_succ h, held, List.map_append, List.sum_append]; simp [held]
      have hle : held (c.holds.take (i + 1)) ≤ held c.holds := by
        conv => rhs; rw [← List.take_append_drop (i + 1) c.holds, held, List.map_append, List.sum_append]
        exact Nat.le_add_right _ _
      refine ⟨fun h5 => ⟨by omega, ?_⟩, fun h5 => ?_⟩
      · refine ADraw.run us259_6 csums_T_ok follows_mixed (by kernel_rfl) (by kernel_rfl) ?_
        simp -implicitDefEqProofs only [cdA, go_sem, reduceIte, reduceCtorEq, Nat.reduceEqDiff, Nat.reduceAdd, Nat.reduceLeDiff, Nat.reduceSub, Nat.reduceMul, Nat.reduceLT, Nat.reduceShiftRight, Nat.reduceMod, Int.reduceLE, Int.reduceLT, Int.reduceToNat, List.cons.injEq, cdB]
        have hi' : i < c.holds.length := by omega
        have hst := hst hi'
        have hnext : (0 < i → (c.holds.getD (i - 1) default).id < (c.holds.getD i default).id) → (c.holds.getD i default).n ≠ 0 →
            ((addM [held (c.holds.take i), (c.holds.getD i default).n]).2 = 0 →
              ((c.most : Int) < ((addM [held (c.holds.take i), (c.holds.getD i default).n]).1 : Int) → 0 = ((sumsC c).1 : Int) ∧ 0 = ((sumsC c).2.1 : Int) ∧ 1 = (sumsC c).2.2) ∧
              (¬ (c.most : Int) < ((addM [held (c.holds.take i), (c.holds.getD i default).n]).1 : Int) → ∃ i_1 : { i : Nat // i ≤ c.holds.length ∧ held (c.holds.take i) ≤ c.most ∧ (∀ j, j < i → (c.holds.getD j default).n ≠ 0 ∧ (0 < j → (c.holds.getD (j - 1) default).id < (c.holds.getD j default).id)) },
                c.holds.length - i_1.val < c.holds.length - i ∧ ((addM [held (c.holds.take i), (c.holds.getD i default).n]).1 : Int) = (held (c.holds.take i_1.val) : Nat) ∧ IntKind.i64.wrap ((i : Int) + 1) = i_1.val)) ∧
            (¬ (addM [held (c.holds.take i), (c.holds.getD i default).n]).2 = 0 → 0 = ((sumsC c).1 : Int) ∧ 0 = ((sumsC c).2.1 : Int) ∧ 1 = (sumsC c).2.2) := fun ho hn => by
          refine ⟨fun h6 => ?_, fun h6 => hbad fun h => h6 (addM_0.2 ?_)⟩
          · have h7 := addM_1 h6
            simp only [List.sum_cons, List.sum_nil, Nat.add_zero] at h7
            rw [h7]
            refine ⟨fun h8 => hbad fun h => ?_, fun h8 => ⟨⟨i + 1, hi', by omega, fun j hj => ?_⟩, by dsimp only; omega, by dsimp only; omega, i64_in _ (by omega)⟩⟩
            · have := h.2.2.2.2.2.2.1; omega
            · by_cases hji : j = i
              · subst hji; exact ⟨hn, ho⟩
              · exact hall j (by omega)
          · have := h.2.2.2.2.2.2.1
            have := h.2.1
            simp only [List.mem_cons, List.not_mem_nil, or_false, forall_eq_or_imp, forall_eq, List.sum_cons, List.sum_nil]
            unfold MM at *
            omega
        refine ⟨fun h6 => ⟨fun h7 => ?_, fun h7 => hnext (fun h => absurd h (by omega)) (by omega)⟩, fun h6 => hbad fun h => h.2.2.2.2.1 _ (mem_getD.2 ⟨i, hi', rfl⟩) (by omega)⟩
        rw [i64_in _ (by omega), show ((i : Int) - 1).toNat = i - 1 by omega]
        have hc : ∀ a b : Nat, 0 ≤ cmpS a b ↔ ¬ a < b := fun a b => by
          have := cmpS_neg (x := a) (y := b); omega
        rw [hc]
        refine ⟨by omega, fun h8 => hbad fun h => h8 (h.2.2.2.2.2.1 i hi' (by omega)), fun h8 => hnext (fun _ => by omega) (by omega)⟩
      · have hi' : i = c.holds.length := by omega
        subst hi'
        rw [List.take_length] at hs ⊢
        refine ⟨fun h6 => ?_, fun h6 => hbad fun h => h6 (addM_0.2 ?_)⟩
        · have h7 := addM_1 h6
          have h8 := addM_0.1 h6
          simp only [List.mem_cons, List.not_mem_nil, or_false, forall_eq_or_imp, forall_eq, List.sum_cons, List.sum_nil] at h7 h8
          have hok : okCh c := ⟨h1.1, h1.2, by omega, hop, fun x hx => by obtain ⟨j, hj, rfl⟩ := mem_getD.1 hx; exact (hall j hj).1, fun j hj h0 => (hall j hj).2 h0, hs, h8.1.2.1, h8.1.2.2, by unfold MM; omega⟩
          rw [sumsC, if_pos hok, h7]
          exact ⟨rfl, by dsimp only; omega, rfl⟩
        · have := h.2.2.2.2.2.2
          have := h.2.1
          simp only [List.mem_cons, List.not_mem_nil, or_false, forall_eq_or_imp, forall_eq, List.sum_cons, List.sum_nil]
          unfold MM at *
          omega
def sp_csums : List D → Option (Prop × D × Fr)
  | [.agg [.c (.int .u64 z33), .c (.int .u64 z34), .c (.int .u64 z35), .c (.int .u64 z36), .c (.int .u64 z37), .c (.sl z38), .c (.bool z39)]] => some (z33 = (z33.toNat : Int) ∧ z34 = (z34.toNat : Int) ∧ z35 = (z35.toNat : Int) ∧ z36 = (z36.toNat : Int) ∧ z37 = (z37.toNat : Int) ∧ z38 = hds (dhds z38), csums_r (⟨z33.toNat, z34.toNat, z35.toNat, z36.toNat, z37.toNat, (dhds z38), z39⟩ : Ch), [])
  | _ => none
attribute [go_sem] sp_csums
theorem sp_csums_ok : ∀ rs p r fr, sp_csums rs = some (p, r, fr) → p → FnOk Tryz.prog 259 rs r fr := by
  intro rs p r fr h hp
  unfold sp_csums at h
  split at h <;> cases h
  obtain ⟨hc0, hc1, hc2, hc3, hc4, hc5⟩ := hp
  rename_i z33 z34 z35 z36 z37 z38 z39
  obtain ⟨z33, rfl⟩ : ∃ m : Nat, z33 = m := ⟨_, hc0⟩
  obtain ⟨z34, rfl⟩ : ∃ m : Nat, z34 = m := ⟨_, hc1⟩
  obtain ⟨z35, rfl⟩ : ∃ m : Nat, z35 = m := ⟨_, hc2⟩
  obtain ⟨z36, rfl⟩ : ∃ m : Nat, z36 = m := ⟨_, hc3⟩
  obtain ⟨z37, rfl⟩ : ∃ m : Nat, z37 = m := ⟨_, hc4⟩
  obtain ⟨z38, rfl⟩ : ∃ m, z38 = hds m := ⟨_, hc5⟩
  simp only [Int.toNat_natCast, dhds_hds]
  exact csums_ok ⟨z33, z34, z35, z36, z37, z38, z39⟩
theorem sumsC_0 {c : Ch} : (sumsC c).2.2 = 0 ↔ okCh c := by unfold sumsC; split <;> simp_all
@[go_sem] def call_r (c : Ch) : D := .tup [.int .u64 ((sumsC c).2.1 : Int), .int .i64 (sumsC c).2.2]
@[go_sem] abbrev n_call : FuncId := 248
@[go_sem] def call_T : Tab := [(259, sp_csums)]
theorem call_T_ok : TabOk Tryz.prog call_T := (TabOk.cons sp_csums_ok TabOk.nil)
set_option maxRecDepth 8000 in
set_option maxHeartbeats 1000000 in
theorem call_ok (c : Ch)  : PureFn Tryz.prog 248 [.agg [.c (.int .u64 (c.id : Int)), .c (.int .u64 (c.loc : Int)), .c (.int .u64 (c.rem : Int)), .c (.int .u64 (c.res : Int)), .c (.int .u64 (c.most : Int)), .sl (hds c.holds), .c (.bool c.op)]] (call_r c) := by
  refine .of (ac248 call_T_ok (Nat.le_of_ble_eq_true rfl) ?_)
  simp -implicitDefEqProofs only [cdA, go_sem, Go.Proofs.Tryz.f248, reduceIte, reduceCtorEq, Nat.reduceEqDiff, Nat.reduceAdd, Nat.reduceLeDiff, Nat.reduceSub, Nat.reduceMul, Nat.reduceLT, Nat.reduceShiftRight, Nat.reduceMod, Int.reduceLE, Int.reduceLT, Int.reduceToNat, List.cons.injEq, cdB]
def sp_call : List D → Option (Prop × D × Fr)
  | [.agg [.c (.int .u64 z41), .c (.int .u64 z42), .c (.int .u64 z43), .c (.int .u64 z44), .c (.int .u64 z45), .c (.sl z46), .c (.bool z47)]] => some (z41 = (z41.toNat : Int) ∧ z42 = (z42.toNat : Int) ∧ z43 = (z43.toNat : Int) ∧ z44 = (z44.toNat : Int) ∧ z45 = (z45.toNat : Int) ∧ z46 = hds (dhds z46), call_r (⟨z41.toNat, z42.toNat, z43.toNat, z44.toNat, z45.toNat, (dhds z46), z47⟩ : Ch), [])
  | _ => none
attribute [go_sem] sp_call
theorem sp_call_ok : ∀ rs p r fr, sp_call rs = some (p, r, fr) → p → FnOk Tryz.prog 248 rs r fr := by
  intro rs p r fr h hp
  unfold sp_call at h
  split at h <;> cases h
  obtain ⟨hc0, hc1, hc2, hc3, hc4, hc5⟩ := hp
  rename_i z41 z42 z43 z44 z45 z46 z47
  obtain ⟨z41, rfl⟩ : ∃ m : Nat, z41 = m := ⟨_, hc0⟩
  obtain ⟨z42, rfl⟩ : ∃ m : Nat, z42 = m := ⟨_, hc1⟩
  obtain ⟨z43, rfl⟩ : ∃ m : Nat, z43 = m := ⟨_, hc2⟩
  obtain ⟨z44, rfl⟩ : ∃ m : Nat, z44 = m := ⟨_, hc3⟩
  obtain ⟨z45, rfl⟩ : ∃ m : Nat, z45 = m := ⟨_, hc4⟩
  obtain ⟨z46, rfl⟩ : ∃ m, z46 = hds m := ⟨_, hc5⟩
  simp only [Int.toNat_natCast, dhds_hds]
  exact call_ok ⟨z41, z42, z43, z44, z45, z46, z47⟩
end Dm
namespace Dm
open Go Go.Proofs Go.IntWalk
abbrev allC (c : Ch) : Nat := (sumsC c).2.1
def totL (l : List Ch) : Nat := (l.map allC).sum
theorem allC_le (c : Ch) : allC c ≤ MM := by
  unfold allC sumsC
  split
  · rename_i h; exact h.2.2.2.2.2.2.2.2.2
  · exact Nat.zero_le _
theorem totL_succ {l : List Ch} {i : Nat} (h : i < l.length) : totL (l.take (i + 1)) = totL (l.take i) + allC (l.getD i default) := by
  rw [take_succ h, totL, List.map_append, List.sum_append]; simp [totL]
theorem totL_le {l : List Ch} {i : Nat} : totL (l.take i) ≤ totL l := by
  conv => rhs; rw [← List.take_append_drop i l, totL, List.map_append, List.sum_append]
  exact Nat.le_add_right _ _
def hidL (l : List Ch) : List Nat := l.flatMap fun c => c.holds.map Hd.id
def okLd (l : List Ch) : Prop := l.length ≤ 32 ∧ (∀ c ∈ l, okCh c) ∧ Srt.Chn Ch.id ltN l ∧ (hidL l).Nodup ∧ totL l ≤ MM
instance (l : List Ch) : Decidable (Srt.Chn Ch.id ltN l) := by unfold Srt.Chn; infer_instance
instance (l : List Ch) : Decidable (okLd l) := by unfold okLd; infer_instance
def chkL (l : List Ch) : Int := if okLd l then 0 else 1
def hm : Int → List Ch → List (Nat × Int)
  | _, [] => []
  | i, c :: l => c.holds.map (fun h => (h.id, i)) ++ hm (i + 1) l
def readL (l : List Ch) : List (Nat × Int) × Int := if okLd l then (hm 0 l, 0) else ([], 1)
@[go_sem] def lorder_r (c : Ch) (id : Nat) : D := .int .i64 (cmpS c.id id)
@[go_sem] abbrev n_lorder : FuncId := 249
@[go_sem] def lorder_T : Tab := [(225, sp_cmp)]
theorem lorder_T_ok : TabOk Tryz.prog lorder_T := (TabOk.cons sp_cmp_ok TabOk.nil)
set_option maxRecDepth 8000 in
set_option maxHeartbeats 1000000 in
theorem lorder_ok (c : Ch) (id : Nat)  : PureFn Tryz.prog 249 [.agg [.c (.int .u64 (c.id : Int)), .c (.int .u64 (c.loc : Int)), .c (.int .u64 (c.rem : Int)), .c (.int .u64 (c.res : Int)), .c (.int .u64 (c.most : Int)), .sl (hds c.holds), .c (.bool c.op)], .c (.int .u64 (id : Int))] (lorder_r c id) := by
  refine .of (ac249 lorder_T_ok (Nat.le_of_ble_eq_true rfl) ?_)
  simp -implicitDefEqProofs only [cdA, go_sem, Go.Proofs.Tryz.f249, reduceIte, reduceCtorEq, Nat.reduceEqDiff, Nat.reduceAdd, Nat.reduceLeDiff, Nat.reduceSub, Nat.reduceMul, Nat.reduceLT, Nat.reduceShiftRight, Nat.reduceMod, Int.reduceLE, Int.reduceLT, Int.reduceToNat, List.cons.injEq, cdB]
def sp_lorder : List D → Option (Prop × D × Fr)
  | [.agg [.c (.int .u64 z76), .c (.int .u64 z77), .c (.int .u64 z78), .c (.int .u64 z79), .c (.int .u64 z80), .c (.sl z81), .c (.bool z82)], .c (.int .u64 z83)] => some (z76 = (z76.toNat : Int) ∧ z77 = (z77.toNat : Int) ∧ z78 = (z78.toNat : Int) ∧ z79 = (z79.toNat : Int) ∧ z80 = (z80.toNat : Int) ∧ z81 = hds (dhds z81) ∧ z83 = (z83.toNat : Int), lorder_r (⟨z76.toNat, z77.toNat, z78.toNat, z79.toNat, z80.toNat, (dhds z81), z82⟩ : Ch) z83.toNat, [])
  | _ => none
attribute [go_sem] sp_lorder
theorem sp_lorder_ok : ∀ rs p r fr, sp_lorder rs = some (p, r, fr) → p → FnOk Tryz.prog 249 rs r fr := by
  intro rs p r fr h hp
  unfold sp_lorder at h
  split at h <;> cases h
  obtain ⟨hc0, hc1, hc2, hc3, hc4, hc5, hc6⟩ := hp
  rename_i z76 z77 z78 z79 z80 z81 z82 z83
  obtain ⟨z76, rfl⟩ : ∃ m : Nat, z76 = m := ⟨_, hc0⟩
  obtain ⟨z77, rfl⟩ : ∃ m : Nat, z77 = m := ⟨_, hc1⟩
  obtain ⟨z78, rfl⟩ : ∃ m : Nat, z78 = m := ⟨_, hc2⟩
  obtain ⟨z79, rfl⟩ : ∃ m : Nat, z79 = m := ⟨_, hc3⟩
  obtain ⟨z80, rfl⟩ : ∃ m : Nat, z80 = m := ⟨_, hc4⟩
  obtain ⟨z81, rfl⟩ : ∃ m, z81 = hds m := ⟨_, hc5⟩
  obtain ⟨z83, rfl⟩ : ∃ m : Nat, z83 = m := ⟨_, hc6⟩
  simp only [Int.toNat_natCast, dhds_hds]
  exact lorder_ok ⟨z76, z77, z78, z79, z80, z81, z82⟩ z83
@[go_sem] def few_r (l : List Ch) : D := .bool (decide ((∀ c ∈ l, c.holds.length ≤ 20) ∧ l.length ≤ 34))
@[go_sem] abbrev n_few : FuncId := 115
@[go_sem] def few_T : Tab := []
theorem few_T_ok : TabOk Tryz.prog few_T := TabOk.nil
set_option maxRecDepth 8000 in
set_option maxHeartbeats 1000000 in
theorem few_ok (l : List Ch)  : PureFn Tryz.prog 115 [.sl (chs l)] (few_r l) := by
  refine .of (ac115 few_T_ok (Nat.le_of_ble_eq_true rfl) ?_)
  simp -implicitDefEqProofs only [cdA, go_sem, Go.Proofs.Tryz.f115, reduceIte, reduceCtorEq, Nat.reduceEqDiff, Nat.reduceAdd, Nat.reduceLeDiff, Nat.reduceSub, Nat.reduceMul, Nat.reduceLT, Nat.reduceShiftRight, Nat.reduceMod, Int.reduceLE, Int.reduceLT, Int.reduceToNat, List.cons.injEq, cdB]
  refine fun hl => SWp.loop (ι := { i : Nat // i ≤ l.length ∧ ∀ j, j < i → (l.getD j default).holds.length ≤ 20 }) (fun i => ⟨[(0, .sl (chs l)), (5, .sl (chs l)), (6, .int .i64 l.length), (7, .int .i64 i.1)], [], 0⟩) (fun i => l.length - i.1) ⟨0, by simp⟩ ?_ ?_
  · simp [go_sem]
  · rintro ⟨i, hi, hall⟩
    refine awp_sound few_T_ok.toS lv115 _ _ _ rfl ?_
    simp -implicitDefEqProofs only [cdA, go_sem, reduceIte, reduceCtorEq, Nat.reduceEqDiff, Nat.reduceAdd, Nat.reduceLeDiff, Nat.reduceSub, Nat.reduceMul, Nat.reduceLT, Nat.reduceShiftRight, Nat.reduceMod, Int.reduceLE, Int.reduceLT, Int.reduceToNat, List.cons.injEq, cdB]
    refine ⟨fun h => ⟨by omega, fun _ => ⟨fun h1 => ?_, fun h1 => ⟨⟨i + 1, by omega, fun j hj => ?_⟩, by dsimp only; omega, i64_in _ (by omega)⟩⟩⟩, fun h => ?_⟩
    · rw [eq_comm, decide_eq_false_iff_not]
      intro h2
      have := h2.1 _ (mem_getD.2 ⟨i, by omega, rfl⟩)
      omega
    · by_cases hji : j = i
      · subst hji; omega
      · exact hall j (by omega)
    · intro _
      have : (∀ c ∈ l, c.holds.length ≤ 20) := fun c hc => by obtain ⟨j, hj, rfl⟩ := mem_getD.1 hc; exact hall j (by omega)
      rw [decide_eq_decide]
      exact ⟨fun h => ⟨this, by omega⟩, fun h => by omega⟩
def sp_few : List D → Option (Prop × D × Fr)
  | [.c (.sl z84)] => some (z84 = chs (dchs z84), few_r (dchs z84), [])
  | _ => none
attribute [go_sem] sp_few
theorem sp_few_ok : ∀ rs p r fr, sp_few rs = some (p, r, fr) → p → FnOk Tryz.prog 115 rs r fr := by
  intro rs p r fr h hp
  unfold sp_few at h
  split at h <;> cases h
  have hc0 := hp
  rename_i z84
  obtain ⟨z84, rfl⟩ : ∃ m, z84 = chs m := ⟨_, hc0⟩
  simp only [dchs_chs]
  exact few_ok z84
theorem hidL_succ {l : List Ch} {i : Nat} (h : i < l.length) : hidL (l.take (i + 1)) = hidL (l.take i) ++ (l.getD i default).holds.map Hd.id := by
  rw [take_succ h, hidL, List.flatMap_append]; simp [hidL]
theorem hidL_nd {l : List Ch} {i : Nat} (h : (hidL l).Nodup) : (hidL (l.take i)).Nodup := by
  rw [← List.take_append_drop i l, hidL, List.flatMap_append] at h
  exact (List.nodup_append.1 h).1
theorem okCh_nd {c : Ch} (h : okCh c) : (c.holds.map Hd.id).Nodup := by
  have h1 := (Srt.chn_up (lt := ltN) Srt.totNat).1 h.2.2.2.2.2.1
  unfold Srt.Up at h1
  rw [List.Nodup, List.pairwise_map]
  exact h1.imp fun hlt he => by
    simp only [Hd.key, ltN] at hlt
    omega
theorem hm_keys : ∀ {l : List Ch} {s : Int}, (hm s l).map (·.1) = hidL l
  | [], _ => rfl
  | c :: l, s => by
    have e : hidL (c :: l) = c.holds.map Hd.id ++ hidL l := by simp [hidL]
    rw [hm, List.map_append, hm_keys, List.map_map, e]; rfl
theorem hm_succ {l : List Ch} {i : Nat} (h : i < l.length) : hm 0 (l.take (i + 1)) = hm 0 (l.take i) ++ (l.getD i default).holds.map fun x => (x.id, (i : Int)) := by
  have key : ∀ (l : List Ch) (s : Int) (c : Ch), hm s (l ++ [c]) = hm s l ++ c.holds.map fun x => (x.id, s + l.length) := by
    intro l
    induction l with
    | nil => intro s c; simp [hm]
    | cons d l ih =>
      intro s c
      rw [List.cons_append, hm, ih, hm, List.append_assoc]
      simp only [List.length_cons]
      rw [show s + ((l.length + 1 : Nat) : Int) = s + 1 + l.length by omega]
  rw [take_succ h, key]
  simp only [Int.zero_add, List.length_take]
  rw [show min i l.length = i by omega]
@[go_sem] def lread_r (l : List Ch) : D := .tup [.c (.map [.int .u64] (kvF .u64 .i64 (readL l).1)), .int .i64 (readL l).2]
@[go_sem] abbrev n_lread : FuncId := 219
@[go_sem] def lread_T : Tab := [(248, sp_call), (198, sp_monadd), (249, sp_lorder)]
theorem lread_T_ok : TabOk Tryz.prog lread_T := (TabOk.cons sp_call_ok (TabOk.cons sp_monadd_ok (TabOk.cons sp_lorder_ok TabOk.nil)))
set_option maxRecDepth 8000 in
set_option maxHeartbeats 1000000 in
theorem lread_ok (l : List Ch)  : PureFn Tryz.prog 219 [.sl (chs l)] (lread_r l) := by
  refine .of (ac219 lread_T_ok (Nat.le_of_ble_eq_true rfl) ?_)
  simp -implicitDefEqProofs only [cdA, go_sem, Go.Proofs.Tryz.f219, reduceIte, reduceCtorEq, Nat.reduceEqDiff, Nat.reduceAdd, Nat.reduceLeDiff, Nat.reduceSub, Nat.reduceMul, Nat.reduceLT, Nat.reduceShiftRight, Nat.reduceMod, Int.reduceLE, Int.reduceLT, Int.reduceToNat, List.cons.injEq, cdB]
  have hbad : ¬ okLd l → kvF .u64 .i64 (readL l).1 = [] ∧ 1 = (readL l).2 := fun h => by rw [readL, if_neg h]; exact ⟨rfl, rfl⟩
  refine fun hl => ⟨fun h1 => hbad fun h => ?_, fun h1 _ => ?_⟩
  · have := h.1; omega
  refine SWp.loop (ι := { i : Nat // i ≤ l.length ∧ (∀ c ∈ l.take i, okCh c) ∧ (∀ j, j < i → 0 < j → (l.getD (j - 1) default).id < (l.getD j default).id) ∧ (hidL (l.take i)).Nodup ∧ totL (l.take i) ≤ MM }) (fun i => ⟨[(0, .sl (chs l)), (4, .mp 0), (5, .int .u64 (totL (l.take i.1) : Nat)), (18, .sl (chs l)), (19, .int .i64 l.length), (20, .int .i64 i.1)], [(0, .map [.int .u64] (kvN .u64 .i64 (hm 0 (l.take i.1))))], 1⟩) (fun i => l.length - i.1) ⟨0, by simp [hidL, totL]⟩ ?_ ?_
  · simp [go_sem, totL]; rfl
  · rintro ⟨i, hi, hall, ho, hn, hs⟩
    refine awp_sound lread_T_ok.toS lv219 _ _ _ rfl ?_
    simp -implicitDefEqProofs only [cdA, go_sem, reduceIte, reduceCtorEq, Nat.reduceEqDiff, Nat.reduceAdd, Nat.reduceLeDiff, Nat.reduceSub, Nat.reduceMul, Nat.reduceLT, Nat.reduceShiftRight, Nat.reduceMod, Int.reduceLE, Int.reduceLT, Int.reduceToNat, List.cons.injEq, cdB]
    refine ⟨fun h => ⟨by omega, ?_⟩, fun h => ?_⟩
    · refine ADraw.run us219_8 lread_T_ok follows_mixed (by kernel_rfl) (by kernel_rfl) ?_
      simp -implicitDefEqProofs only [cdA, go_sem, reduceIte, reduceCtorEq, Nat.reduceEqDiff, Nat.reduceAdd, Nat.reduceLeDiff, Nat.reduceSub, Nat.reduceMul, Nat.reduceLT, Nat.reduceShiftRight, Nat.reduceMod, Int.reduceLE, Int.reduceLT, Int.reduceToNat, List.cons.injEq, cdB]
      have hi' : i < l.length := by omega
      have hmem : l.getD i default ∈ l := mem_getD.2 ⟨i, hi', rfl⟩
      have hsub : ∀ {a b : List Nat}, (a ++ b).Nodup ↔ a.Nodup ∧ b.Nodup ∧ ∀ x ∈ b, x ∉ a := fun {a b} => by
        rw [List.nodup_append]
        exact and_congr_right fun _ => and_congr_right fun _ => ⟨fun h x hb ha => h x ha x hb rfl, fun h x ha y hb e => h y hb (e ▸ ha)⟩
      have hks := hidL_succ hi'
      have hts := totL_succ hi'
      have hmsu := hm_succ hi'
      have htle := totL_le (l := l) (i := i + 1)
      have htk : ∀ c, c ∈ l.take (i + 1) ↔ c ∈ l.take i ∨ c = l.getD i default := fun c => by rw [take_succ hi']; simp
      refine ⟨fun h2 => ?_, fun h2 => hbad fun h => h2 (by rw [sumsC, if_pos (h.2.1 _ hmem)])⟩
      have hc0 : okCh (l.getD i default) := sumsC_0.1 h2
      have hcn := okCh_nd hc0
      have hA := allC_le (l.getD i default)
      change totL (l.take (i + 1)) = totL (l.take i) + (sumsC (l.getD i default)).2.1 at hts
      change (sumsC (l.getD i default)).2.1 ≤ MM at hA
      have hadd : ¬ (addM [totL (l.take i), (sumsC (l.getD i default)).2.1]).2 = 0 → ¬ okLd l := fun h3 h => h3 (addM_0.2 (by
        have := h.2.2.2.2
        simp only [List.mem_cons, List.not_mem_nil, or_false, forall_eq_or_imp, forall_eq, List.sum_cons, List.sum_nil]
        unfold MM at *
        omega))
      generalize hc : l.getD i default = c at *
      refine ⟨fun h3 => ⟨?_, fun h4 => hbad fun h => ?_, fun h4 => ⟨fun h5 _ => ?_, fun h5 => hbad (hadd h5)⟩⟩, fun h3 => ⟨fun h5 _ => ?_, fun h5 => hbad (hadd h5)⟩⟩
      · rw [i64_in _ (by omega)]; omega
      · rw [i64_in _ (by omega), show ((i : Int) - 1).toNat = i - 1 by omega] at h4
        have := h.2.2.1 i hi' (by omega)
        rw [hc] at this
        simp only [ltN] at this
        have := cmpS_neg (x := ((l.getD (i - 1) default).id : Int)) (y := c.id)
        omega
      all_goals
        have hord : 0 < i → (l.getD (i - 1) default).id < c.id := fun h0 => by
          first
          | (exfalso; omega)
          | (rw [i64_in _ (by omega), show ((i : Int) - 1).toNat = i - 1 by omega] at h4
             have := cmpS_neg (x := ((l.getD (i - 1) default).id : Int)) (y := c.id)
             omega)
        have hsum := addM_1 h5
        have hsum2 := (addM_0.1 h5).2
        simp only [List.sum_cons, List.sum_nil, Nat.add_zero] at hsum hsum2
        rw [hsum]
        refine SWp.loop (ι := { k : Nat // k ≤ c.holds.length ∧ ∀ j, j < k → (c.holds.getD j default).id ∉ hidL (l.take i) }) (fun k => ⟨[(0, .sl (chs l)), (4, .mp 0), (5, .int .u64 ((totL (l.take i) + (sumsC c).2.1 : Nat) : Int)), (6, .int .i64 i), (18, .sl (chs l)), (19, .int .i64 l.length), (20, .int .i64 i), (57, .sl (hds c.holds)), (58, .int .i64 c.holds.length), (59, .int .i64 k.1)], [(0, .map [.int .u64] (kvN .u64 .i64 (hm 0 (l.take i) ++ (c.holds.take k.1).map fun x => (x.id, (i : Int)))))], 3⟩) (fun k => c.holds.length - k.1) ⟨0, by simp⟩ ?_ ?_
        · simp [go_sem]
        · rintro ⟨k, hk, hin⟩
          refine awp_sound lread_T_ok.toS lv219 _ _ _ rfl ?_
          simp -implicitDefEqProofs only [cdA, go_sem, reduceIte, reduceCtorEq, Nat.reduceEqDiff, Nat.reduceAdd, Nat.reduceLeDiff, Nat.reduceSub, Nat.reduceMul, Nat.reduceLT, Nat.reduceShiftRight, Nat.reduceMod, Int.reduceLE, Int.reduceLT, Int.reduceToNat, List.cons.injEq, cdB]
          have hkeys : ∀ m, m ≤ c.holds.length → (hm 0 (l.take i) ++ (c.holds.take m).map fun x => (x.id, (i : Int))).map (·.1) = hidL (l.take i) ++ (c.holds.take m).map Hd.id := fun m hm => by
            rw [List.map_append, hm_keys, List.map_map]; rfl
          refine ⟨fun h6 => ⟨by omega, fun a ha => hbad fun h => ?_, fun ha => ?_⟩, fun h6 => ?_⟩
          · have hk' : k < c.holds.length := by omega
            have h7 : ¬ nlk (c.holds.getD k default).id (hm 0 (l.take i) ++ (c.holds.take k).map fun x => (x.id, (i : Int))) = none := by rw [ha]; simp
            rw [nlk_none, hkeys k hk, Classical.not_not, List.mem_append] at h7
            rcases h7 with h7 | h7
            · have := hidL_nd (i := i + 1) h.2.2.2.1
              rw [hks, hsub] at this
              exact this.2.2 _ (List.mem_map.2 ⟨_, mem_getD.2 ⟨k, hk', rfl⟩, rfl⟩) h7
            · have h8 : (c.holds.take (k + 1)).map Hd.id = (c.holds.take k).map Hd.id ++ [(c.holds.getD k default).id] := by rw [take_succ hk']; simp
              have h9 : ((c.holds.take (k + 1)).map Hd.id).Nodup := by
                rw [List.map_take]; exact hcn.sublist (List.take_sublist _ _)
              rw [h8, hsub] at h9
              exact h9.2.2 _ (by simp) h7
          · have hk' : k < c.holds.length := by omega
            have h7 := nlk_none.1 ha
            rw [nset_new h7]
            rw [hkeys k hk, List.mem_append, not_or] at h7
            refine ⟨⟨k + 1, hk', fun j hj => ?_⟩, by dsimp only; omega, i64_in _ (by omega), ?_⟩
            · by_cases hji : j = k
              · subst hji; exact h7.1
              · exact hin j (by omega)
            · dsimp only
              rw [take_succ hk', List.map_append, ← List.append_assoc]; rfl
          · have hk' : k = c.holds.length := by omega
            subst hk'
            refine ⟨⟨i + 1, hi', fun d hd => ((htk d).1 hd).elim (hall d) (fun e => e ▸ hc0), fun j hj h0 => ?_, ?_, by rw [hts]; exact hsum2⟩, by dsimp only; omega, ⟨by dsimp only; rw [hts]; omega, i64_in _ (by omega)⟩, ?_⟩
            · by_cases hji : j = i
              · subst hji; rw [hc]; exact hord h0
              · exact ho j (by omega) h0
            · rw [hks, hsub]
              refine ⟨hn, hcn, fun x hx => ?_⟩
              obtain ⟨y, hy, rfl⟩ := List.mem_map.1 hx
              obtain ⟨j, hj, rfl⟩ := mem_getD.1 hy
              exact hin j (by omega)
            · dsimp only
              rw [List.take_length, hmsu]
    · have hi' : i = l.length := by omega
      subst hi'
      rw [List.take_length] at hall hn hs ⊢
      rw [readL, if_pos ⟨by omega, hall, fun j hj h0 => ho j hj h0, hn, hs⟩]
      exact ⟨⟨_, _, rfl, kvC_kvN, .refl _⟩, rfl⟩
def sp_lread : List D → Option (Prop × D × Fr)
  | [.c (.sl z89)] => some (z89 = chs (dchs z89), lread_r (dchs z89), [])
  | _ => none
attribute [go_sem] sp_lread
theorem sp_lread_ok : ∀ rs p r fr, sp_lread rs = some (p, r, fr) → p → FnOk Tryz.prog 219 rs r fr := by
  intro rs p r fr h hp
  unfold sp_lread at h
  split at h <;> cases h
  have hc0 := hp
  rename_i z89
  obtain ⟨z89, rfl⟩ : ∃ m, z89 = chs m := ⟨_, hc0⟩
  simp only [dchs_chs]
  exact lread_ok z89
@[go_sem] def lcheck_r (l : List Ch) : D := .int .i64 (chkL l)
@[go_sem] abbrev n_lcheck : FuncId := 159
@[go_sem] def lcheck_T : Tab := [(219, sp_lread)]
theorem lcheck_T_ok : TabOk Tryz.prog lcheck_T := (TabOk.cons sp_lread_ok TabOk.nil)
set_option maxRecDepth 8000 in
set_option maxHeartbeats 1000000 in
theorem lcheck_ok (l : List Ch)  : PureFn Tryz.prog 159 [.sl (chs l)] (lcheck_r l) := by
  refine .of (ac159 lcheck_T_ok (Nat.le_of_ble_eq_true rfl) ?_)
  simp -implicitDefEqProofs only [cdA, go_sem, Go.Proofs.Tryz.f159, reduceIte, reduceCtorEq, Nat.reduceEqDiff, Nat.reduceAdd, Nat.reduceLeDiff, Nat.reduceSub, Nat.reduceMul, Nat.reduceLT, Nat.reduceShiftRight, Nat.reduceMod, Int.reduceLE, Int.reduceLT, Int.reduceToNat, List.cons.injEq, cdB]
  rw [readL, chkL]; split <;> rfl
def sp_lcheck : List D → Option (Prop × D × Fr)
  | [.c (.sl z90)] => some (z90 = chs (dchs z90), lcheck_r (dchs z90), [])
  | _ => none
attribute [go_sem] sp_lcheck
theorem sp_lcheck_ok : ∀ rs p r fr, sp_lcheck rs = some (p, r, fr) → p → FnOk Tryz.prog 159 rs r fr := by
  intro rs p r fr h hp
  unfold sp_lcheck at h
  split at h <;> cases h
  have hc0 := hp
  rename_i z90
  obtain ⟨z90, rfl⟩ : ∃ m, z90 = chs m := ⟨_, hc0⟩
  simp only [dchs_chs]
  exact lcheck_ok z90
end Dm
namespace Dm
open Go Go.Proofs Go.IntWalk
structure Ky where
  k : Nat
  print : List UInt8
  reply : List UInt8
  till : Nat
deriving DecidableEq, Inhabited
@[go_sem] def Ky.enc (e : Ky) : List C := [.int .u64 (e.k : Int), .sl (u8s e.print), .sl (u8s e.reply), .int .u64 (e.till : Int)]
def Ky.dec : List C → Ky
  | [.int .u64 z2, .sl z3, .sl z4, .int .u64 z5] => (⟨z2.toNat, (du8s z3), (du8s z4), z5.toNat⟩ : Ky)
  | _ => default
def kys (l : List Ky) : List (List C) := l.map Ky.enc
def dkys (l : List (List C)) : List Ky := l.map Ky.dec
@[simp, go_sem] theorem kys_length (l : List Ky) : (kys l).length = l.length := by simp [kys]
@[go_sem] theorem kys_get (l : List Ky) (i : Nat) : (kys l).getD i [.int .u64 0, .sl [], .sl [], .int .u64 0] = (l.getD i default).enc := by
  simp only [kys, List.getD_eq_getElem?_getD, List.getElem?_map]
  cases l[i]? <;> rfl
@[go_sem] theorem kys_wide (l : List Ky) : Wide 4 (kys l) = True := by
  simp [Wide, kys, Ky.enc]
theorem Ky.dec_enc (e : Ky) : Ky.dec e.enc = e := by
  simp [Ky.enc, Ky.dec, du8s_u8s]
@[go_sem] theorem dkys_kys (l : List Ky) : dkys (kys l) = l := by
  simp only [dkys, kys, List.map_map]
  exact List.map_id'' (fun e => Ky.dec_enc e) l
@[go_sem] theorem kys_app (a b : List Ky) : kys a ++ kys b = kys (a ++ b) := by simp [kys]
@[go_sem] theorem kys_drop (l : List Ky) (k : Nat) : (kys l).drop k = kys (l.drop k) := by simp [kys]
@[go_sem] theorem kys_take (l : List Ky) (k : Nat) : (kys l).take k = kys (l.take k) := by simp [kys]
@[go_sem] theorem kys_one (z6 : Int) (z7 : List UInt8) (z8 : List UInt8) (z9 : Int) (hz6 : 0 ≤ z6) (hz9 : 0 ≤ z9) : [[C.int .u64 z6, C.sl (u8s z7), C.sl (u8s z8), C.int .u64 z9]] = kys [⟨z6.toNat, z7, z8, z9.toNat⟩] := by simp [kys, Ky.enc, Int.toNat_of_nonneg hz6, Int.toNat_of_nonneg hz9]
@[go_sem] theorem kys_set (l : List Ky) (i : Nat) (z6 : Int) (z7 : List UInt8) (z8 : List UInt8) (z9 : Int) (hz6 : 0 ≤ z6) (hz9 : 0 ≤ z9) : (kys l).set i [C.int .u64 z6, C.sl (u8s z7), C.sl (u8s z8), C.int .u64 z9] = kys (l.set i ⟨z6.toNat, z7, z8, z9.toNat⟩) := by simp [kys, List.map_set, Ky.enc, Int.toNat_of_nonneg hz6, Int.toNat_of_nonneg hz9]
@[go_sem] theorem kys_cons (l : List Ky) (z6 : Int) (z7 : List UInt8) (z8 : List UInt8) (z9 : Int) (hz6 : 0 ≤ z6) (hz9 : 0 ≤ z9) : [C.int .u64 z6, C.sl (u8s z7), C.sl (u8s z8), C.int .u64 z9] :: kys l = kys (⟨z6.toNat, z7, z8, z9.toNat⟩ :: l) := by simp [kys, Ky.enc, Int.toNat_of_nonneg hz6, Int.toNat_of_nonneg hz9]
@[go_sem] theorem Ky.eta {e : Ky} : (⟨e.k, e.print, e.reply, e.till⟩ : Ky) = e := rfl
@[go_sem] def idorder_r (x : Ky) (k : Nat) : D := .int .i64 (cmpS x.k k)
@[go_sem] abbrev n_idorder : FuncId := 165
@[go_sem] def idorder_T : Tab := [(225, sp_cmp)]
theorem idorder_T_ok : TabOk Tryz.prog idorder_T := (TabOk.cons sp_cmp_ok TabOk.nil)
set_option maxRecDepth 8000 in
set_option maxHeartbeats 1000000 in
theorem idorder_ok (x : Ky) (k : Nat)  : PureFn Tryz.prog 165 [.agg [.c (.int .u64 (x.k : Int)), .sl (u8s x.print), .sl (u8s x.reply), .c (.int .u64 (x.till : Int))], .c (.int .u64 (k : Int))] (idorder_r x k) := by
  refine .of (ac165 idorder_T_ok (Nat.le_of_ble_eq_true rfl) ?_)
  simp -implicitDefEqProofs only [cdA, go_sem, Go.Proofs.Tryz.f165, reduceIte, reduceCtorEq, Nat.reduceEqDiff, Nat.reduceAdd, Nat.reduceLeDiff, Nat.reduceSub, Nat.reduceMul, Nat.reduceLT, Nat.reduceShiftRight, Nat.reduceMod, Int.reduceLE, Int.reduceLT, Int.reduceToNat, List.cons.injEq, cdB]
def sp_idorder : List D → Option (Prop × D × Fr)
  | [.agg [.c (.int .u64 z11), .c (.sl z12), .c (.sl z13), .c (.int .u64 z14)], .c (.int .u64 z15)] => some (z11 = (z11.toNat : Int) ∧ z12 = u8s (du8s z12) ∧ z13 = u8s (du8s z13) ∧ z14 = (z14.toNat : Int) ∧ z15 = (z15.toNat : Int), idorder_r (⟨z11.toNat, (du8s z12), (du8s z13), z14.toNat⟩ : Ky) z15.toNat, [])
  | _ => none
attribute [go_sem] sp_idorder
theorem sp_idorder_ok : ∀ rs p r fr, sp_idorder rs = some (p, r, fr) → p → FnOk Tryz.prog 165 rs r fr := by
  intro rs p r fr h hp
  unfold sp_idorder at h
  split at h <;> cases h
  obtain ⟨hc0, hc1, hc2, hc3, hc4⟩ := hp
  rename_i z11 z12 z13 z14 z15
  obtain ⟨z11, rfl⟩ : ∃ m : Nat, z11 = m := ⟨_, hc0⟩
  obtain ⟨z12, rfl⟩ : ∃ m, z12 = u8s m := ⟨_, hc1⟩
  obtain ⟨z13, rfl⟩ : ∃ m, z13 = u8s m := ⟨_, hc2⟩
  obtain ⟨z14, rfl⟩ : ∃ m : Nat, z14 = m := ⟨_, hc3⟩
  obtain ⟨z15, rfl⟩ : ∃ m : Nat, z15 = m := ⟨_, hc4⟩
  simp only [Int.toNat_natCast, du8s_u8s]
  exact idorder_ok ⟨z11, z12, z13, z14⟩ z15
@[go_sem] def idshort_r (x : Ky) : D := .bool (decide (x.print.length ≤ 4096 ∧ x.reply.length ≤ 4096))
@[go_sem] abbrev n_idshort : FuncId := 164
@[go_sem] def idshort_T : Tab := []
theorem idshort_T_ok : TabOk Tryz.prog idshort_T := TabOk.nil
set_option maxRecDepth 8000 in
set_option maxHeartbeats 1000000 in
theorem idshort_ok (x : Ky)  : PureFn Tryz.prog 164 [.agg [.c (.int .u64 (x.k : Int)), .sl (u8s x.print), .sl (u8s x.reply), .c (.int .u64 (x.till : Int))]] (idshort_r x) := by
  refine .of (ac164 idshort_T_ok (Nat.le_of_ble_eq_true rfl) ?_)
  simp -implicitDefEqProofs only [cdA, go_sem, Go.Proofs.Tryz.f164, reduceIte, reduceCtorEq, Nat.reduceEqDiff, Nat.reduceAdd, Nat.reduceLeDiff, Nat.reduceSub, Nat.reduceMul, Nat.reduceLT, Nat.reduceShiftRight, Nat.reduceMod, Int.reduceLE, Int.reduceLT, Int.reduceToNat, List.cons.injEq, cdB]
  intro _ _
  rw [decide_eq_decide]; omega
def sp_idshort : List D → Option (Prop × D × Fr)
  | [.agg [.c (.int .u64 z17), .c (.sl z18), .c (.sl z19), .c (.int .u64 z20)]] => some (z17 = (z17.toNat : Int) ∧ z18 = u8s (du8s z18) ∧ z19 = u8s (du8s z19) ∧ z20 = (z20.toNat : Int), idshort_r (⟨z17.toNat, (du8s z18), (du8s z19), z20.toNat⟩ : Ky), [])
  | _ => none
attribute [go_sem] sp_idshort
theorem sp_idshort_ok : ∀ rs p r fr, sp_idshort rs = some (p, r, fr) → p → FnOk Tryz.prog 164 rs r fr := by
  intro rs p r fr h hp
  unfold sp_idshort at h
  split at h <;> cases h
  obtain ⟨hc0, hc1, hc2, hc3⟩ := hp
  rename_i z17 z18 z19 z20
  obtain ⟨z17, rfl⟩ : ∃ m : Nat, z17 = m := ⟨_, hc0⟩
  obtain ⟨z18, rfl⟩ : ∃ m, z18 = u8s m := ⟨_, hc1⟩
  obtain ⟨z19, rfl⟩ : ∃ m, z19 = u8s m := ⟨_, hc2⟩
  obtain ⟨z20, rfl⟩ : ∃ m : Nat, z20 = m := ⟨_, hc3⟩
  simp only [Int.toNat_natCast, du8s_u8s]
  exact idshort_ok ⟨z17, z18, z19, z20⟩
def okKy (l : List Ky) : Prop := l.length ≤ 128 ∧ (∀ x ∈ l, x.print.length ≤ 4096 ∧ x.reply.length ≤ 4096) ∧ Srt.Chn Ky.k ltN l
instance (l : List Ky) : Decidable (Srt.Chn Ky.k ltN l) := by unfold Srt.Chn; infer_instance
instance (l : List Ky) : Decidable (okKy l) := by unfold okKy; infer_instance
def chkK (l : List Ky) : Int := if okKy l then 0 else 1
@[go_sem] def idcheck_r (l : List Ky) : D := .int .i64 (chkK l)
@[go_sem] abbrev n_idcheck : FuncId := 84
@[go_sem] def idcheck_T : Tab := [(165, sp_idorder), (164, sp_idshort)]
theorem idcheck_T_ok : TabOk Tryz.prog idcheck_T := (TabOk.cons sp_idorder_ok (TabOk.cons sp_idshort_ok TabOk.nil))
set_option maxRecDepth 8000 in
set_option maxHeartbeats 1000000 in
theorem idcheck_ok (l : List Ky)  : PureFn Tryz.prog 84 [.sl (kys l)] (idcheck_r l) := by
  refine .of (ac84 idcheck_T_ok (Nat.le_of_ble_eq_true rfl) ?_)
  simp -implicitDefEqProofs only [cdA, go_sem, Go.Proofs.Tryz.f84, reduceIte, reduceCtorEq, Nat.reduceEqDiff, Nat.reduceAdd, Nat.reduceLeDiff, Nat.reduceSub, Nat.reduceMul, Nat.reduceLT, Nat.reduceShiftRight, Nat.reduceMod, Int.reduceLE, Int.reduceLT, Int.reduceToNat, List.cons.injEq, cdB]
  have hbad : ¬ okKy l → 1 = chkK l := fun h => by rw [chkK, if_neg h]
  refine fun _ => ⟨fun h1 => hbad fun h => by have := h.1; omega, fun h1 _ => ?_⟩
  refine SWp.loop (ι := { i : Nat // i ≤ l.length ∧ ∀ j, j < i → ((l.getD j default).print.length ≤ 4096 ∧ (l.getD j default).reply.length ≤ 4096) ∧ (0 < j → (l.getD (j - 1) default).k < (l.getD j default).k) }) (fun i => ⟨[(0, .sl (kys l)), (8, .sl (kys l)), (9, .int .i64 l.length), (10, .int .i64 i.1)], [], 0⟩) (fun i => l.length - i.1) ⟨0, by simp⟩ ?_ ?_
  · simp [go_sem]
  · rintro ⟨i, hi, hall⟩
    refine awp_sound idcheck_T_ok.toS lv84 _ _ _ rfl ?_
    simp -implicitDefEqProofs only [cdA, go_sem, reduceIte, reduceCtorEq, Nat.reduceEqDiff, Nat.reduceAdd, Nat.reduceLeDiff, Nat.reduceSub, Nat.reduceMul, Nat.reduceLT, Nat.reduceShiftRight, Nat.reduceMod, Int.reduceLE, Int.reduceLT, Int.reduceToNat, List.cons.injEq, cdB]
    refine ⟨fun h2 => ⟨h2, ?_⟩, fun h2 => ?_⟩
    · refine ADraw.run us84_6 idcheck_T_ok follows_mixed (by kernel_rfl) (by kernel_rfl) ?_
      simp -implicitDefEqProofs only [cdA, go_sem, reduceIte, reduceCtorEq, Nat.reduceEqDiff, Nat.reduceAdd, Nat.reduceLeDiff, Nat.reduceSub, Nat.reduceMul, Nat.reduceLT, Nat.reduceShiftRight, Nat.reduceMod, Int.reduceLE, Int.reduceLT, Int.reduceToNat, List.cons.injEq, cdB]
      have hi' : i < l.length := by omega
      have hnext : ((l.getD i default).print.length ≤ 4096 ∧ (l.getD i default).reply.length ≤ 4096) → (0 < i → (l.getD (i - 1) default).k < (l.getD i default).k) → ∃ i_1 : { i : Nat // i ≤ l.length ∧ ∀ j, j < i → ((l.getD j default).print.length ≤ 4096 ∧ (l.getD j default).reply.length ≤ 4096) ∧ (0 < j → (l.getD (j - 1) default).k < (l.getD j default).k) }, l.length - i_1.val < l.length - i ∧ IntKind.i64.wrap ((i : Int) + 1) = i_1.val := fun h3 h4 => ⟨⟨i + 1, hi', fun j hj => by
        by_cases hji : j = i
        · subst hji; exact ⟨h3, h4⟩
        · exact hall j (by omega)⟩, by dsimp only; omega, i64_in _ (by omega)⟩
      refine ⟨fun h3 => ⟨fun h4 => ?_, fun h4 => hnext h3 fun h => absurd h (by omega)⟩, fun h3 => hbad fun h => h3 (h.2.1 _ (mem_getD.2 ⟨i, hi', rfl⟩))⟩
      rw [i64_in _ (by omega), show ((i : Int) - 1).toNat = i - 1 by omega]
      have hc : ∀ a b : Nat, 0 ≤ cmpS a b ↔ ¬ a < b := fun a b => by
        have := cmpS_neg (x := a) (y := b); omega
      rw [hc]
      exact ⟨by omega, fun h5 => hbad fun h => h5 (h.2.2 i hi' (by omega)), fun h5 => hnext h3 fun _ => by omega⟩
    · have hi' : i = l.length := by omega
      subst hi'
      rw [chkK, if_pos ⟨by omega, fun x hx => by obtain ⟨j, hj, rfl⟩ := mem_getD.1 hx; exact (hall j hj).1, fun j hj h0 => (hall j hj).2 h0⟩]
def sp_idcheck : List D → Option (Prop × D × Fr)
  | [.c (.sl z21)] => some (z21 = kys (dkys z21), idcheck_r (dkys z21), [])
  | _ => none
attribute [go_sem] sp_idcheck
theorem sp_idcheck_ok : ∀ rs p r fr, sp_idcheck rs = some (p, r, fr) → p → FnOk Tryz.prog 84 rs r fr := by
  intro rs p r fr h hp
  unfold sp_idcheck at h
  split at h <;> cases h
  have hc0 := hp
  rename_i z21
  obtain ⟨z21, rfl⟩ : ∃ m, z21 = kys m := ⟨_, hc0⟩
  simp only [dkys_kys]
  exact idcheck_ok z21
end Dm
namespace Dm
open Go Go.Proofs Go.IntWalk
structure It where
  hash : Nat
  n : Nat
deriving DecidableEq, Inhabited
@[go_sem] def It.enc (e : It) : List C := [.int .u64 (e.hash : Int), .int .u64 (e.n : Int)]
def It.dec : List C → It
  | [.int .u64 z2, .int .u64 z3] => (⟨z2.toNat, z3.toNat⟩ : It)
  | _ => default
def its (l : List It) : List (List C) := l.map It.enc
def dits (l : List (List C)) : List It := l.map It.dec
@[simp, go_sem] theorem its_length (l : List It) : (its l).length = l.length := by simp [its]
@[go_sem] theorem its_get (l : List It) (i : Nat) : (its l).getD i [.int .u64 0, .int .u64 0] = (l.getD i default).enc := by
  simp only [its, List.getD_eq_getElem?_getD, List.getElem?_map]
  cases l[i]? <;> rfl
@[go_sem] theorem its_wide (l : List It) : Wide 2 (its l) = True := by
  simp [Wide, its, It.enc]
theorem It.dec_enc (e : It) : It.dec e.enc = e := by
  simp [It.enc, It.dec]
@[go_sem] theorem dits_its (l : List It) : dits (its l) = l := by
  simp only [dits, its, List.map_map]
  exact List.map_id'' (fun e => It.dec_enc e) l
@[go_sem] theorem its_app (a b : List It) : its a ++ its b = its (a ++ b) := by simp [its]
@[go_sem] theorem its_drop (l : List It) (k : Nat) : (its l).drop k = its (l.drop k) := by simp [its]
@[go_sem] theorem its_take (l : List It) (k : Nat) : (its l).take k = its (l.take k) := by simp [its]
@[go_sem] theorem its_one (z4 : Int) (z5 : Int) (hz4 : 0 ≤ z4) (hz5 : 0 ≤ z5) : [[C.int .u64 z4, C.int .u64 z5]] = its [⟨z4.toNat, z5.toNat⟩] := by simp [its, It.enc, Int.toNat_of_nonneg hz4, Int.toNat_of_nonneg hz5]
@[go_sem] theorem its_set (l : List It) (i : Nat) (z4 : Int) (z5 : Int) (hz4 : 0 ≤ z4) (hz5 : 0 ≤ z5) : (its l).set i [C.int .u64 z4, C.int .u64 z5] = its (l.set i ⟨z4.toNat, z5.toNat⟩) := by simp [its, List.map_set, It.enc, Int.toNat_of_nonneg hz4, Int.toNat_of_nonneg hz5]
@[go_sem] theorem its_cons (l : List It) (z4 : Int) (z5 : Int) (hz4 : 0 ≤ z4) (hz5 : 0 ≤ z5) : [C.int .u64 z4, C.int .u64 z5] :: its l = its (⟨z4.toNat, z5.toNat⟩ :: l) := by simp [its, It.enc, Int.toNat_of_nonneg hz4, Int.toNat_of_nonneg hz5]
@[go_sem] theorem its_flat (l : List It) : flatE (its l) = True := eq_true fun x hx c hc => by
  obtain ⟨e, _, rfl⟩ := List.mem_map.1 hx
  simp only [It.enc, List.mem_cons, List.not_mem_nil, or_false] at hc
  rcases hc with rfl | rfl <;> rfl
@[go_sem] theorem It.eta {e : It} : (⟨e.hash, e.n⟩ : It) = e := rfl
@[go_sem] theorem It.eqD {a b : It} : eqD Tryz.prog 250 [D.c (.int .u64 (a.hash : Int)), D.c (.int .u64 (a.n : Int))] [D.c (.int .u64 (b.hash : Int)), D.c (.int .u64 (b.n : Int))] = some (decide (a = b)) := by
  cases a; cases b
  simp only [Dm.eqD, eqOf_250, eqCells, eqC, List.getElem?_cons_zero, List.getElem?_cons_succ, if_true, Option.some.injEq, It.mk.injEq]
  rw [Bool.eq_iff_iff]
  simp [Int.ofNat_inj]
def okIt (x : It) : Prop := x.n ≠ 0 ∧ x.n ≤ MM
instance (x : It) : Decidable (okIt x) := by unfold okIt; infer_instance
def totI (l : List It) : Nat := (l.map It.n).sum
def sumB (l : List It) : Nat × Int := if l.length ≠ 0 ∧ l.length ≤ 16 ∧ ∀ x ∈ l, okIt x then (if totI l ≤ MM then (totI l, 0) else (0, 8)) else (0, 1)
theorem totI_succ {l : List It} {i : Nat} (h : i < l.length) : totI (l.take (i + 1)) = totI (l.take i) + (l.getD i default).n := by
  rw [take_succ h, totI, List.map_append, List.sum_append]; simp [totI]
theorem totI_le {l : List It} {i : Nat} : totI (l.take i) ≤ totI l := by
  conv => rhs; rw [← List.take_append_drop i l, totI, List.map_append, List.sum_append]
  exact Nat.le_add_right _ _
@[go_sem] def bsum_r (l : List It) : D := .tup [.int .u64 ((sumB l).1 : Int), .int .i64 (sumB l).2]
@[go_sem] abbrev n_bsum : FuncId := 121
@[go_sem] def bsum_T : Tab := [(122, sp_moncheck), (198, sp_monadd)]
theorem bsum_T_ok : TabOk Tryz.prog bsum_T := (TabOk.cons sp_moncheck_ok (TabOk.cons sp_monadd_ok TabOk.nil))
set_option maxRecDepth 8000 in
set_option maxHeartbeats 1000000 in
theorem bsum_ok (l : List It)  : PureFn Tryz.prog 121 [.sl (its l)] (bsum_r l) := by
  refine .of (ac121 bsum_T_ok (Nat.le_of_ble_eq_true rfl) ?_)
  simp -implicitDefEqProofs only [cdA, go_sem, Go.Proofs.Tryz.f121, reduceIte, reduceCtorEq, Nat.reduceEqDiff, Nat.reduceAdd, Nat.reduceLeDiff, Nat.reduceSub, Nat.reduceMul, Nat.reduceLT, Nat.reduceShiftRight, Nat.reduceMod, Int.reduceLE, Int.reduceLT, Int.reduceToNat, List.cons.injEq, cdB]
  have hbad : ¬ (l.length ≠ 0 ∧ l.length ≤ 16 ∧ ∀ x ∈ l, okIt x) → 0 = ((sumB l).1 : Int) ∧ 1 = (sumB l).2 := fun h => by rw [sumB, if_neg h]; exact ⟨rfl, rfl⟩
  refine fun _ => ⟨fun h1 _ => ⟨fun h2 => ?_, fun h2 => hbad fun h => by omega⟩, fun h1 => hbad fun h => by omega⟩
  refine ac205 bsum_T_ok (Nat.le_of_ble_eq_true rfl) ?_
  simp -implicitDefEqProofs only [cdA, go_sem, Go.Proofs.Tryz.f205, reduceIte, reduceCtorEq, Nat.reduceEqDiff, Nat.reduceAdd, Nat.reduceLeDiff, Nat.reduceSub, Nat.reduceMul, Nat.reduceLT, Nat.reduceShiftRight, Nat.reduceMod, Int.reduceLE, Int.reduceLT, Int.reduceToNat, List.cons.injEq, cdB]
  refine ac243 bsum_T_ok (Nat.le_of_ble_eq_true rfl) ?_
  simp -implicitDefEqProofs only [cdA, go_sem, Go.Proofs.Tryz.f243, reduceIte, reduceCtorEq, Nat.reduceEqDiff, Nat.reduceAdd, Nat.reduceLeDiff, Nat.reduceSub, Nat.reduceMul, Nat.reduceLT, Nat.reduceShiftRight, Nat.reduceMod, Int.reduceLE, Int.reduceLT, Int.reduceToNat, List.cons.injEq, cdB]
  refine fun _ => SWp.loop (ι := { i : Nat // i ≤ l.length ∧ ∀ j, j < i → okIt (l.getD j default) }) (fun i => ⟨[(0, .sl (its l)), (1, .fn (.func 204) [] []), (7, .int .i64 l.length), (8, .int .i64 i.1)], [], 0⟩) (fun i => l.length - i.1) ⟨0, by simp⟩ ?_ ?_
  · simp [go_sem]
  · rintro ⟨i, hi, hall⟩
    refine awp_sound bsum_T_ok.toS lv243 _ _ _ rfl ?_
    simp -implicitDefEqProofs only [cdA, go_sem, reduceIte, reduceCtorEq, Nat.reduceEqDiff, Nat.reduceAdd, Nat.reduceLeDiff, Nat.reduceSub, Nat.reduceMul, Nat.reduceLT, Nat.reduceShiftRight, Nat.reduceMod, Int.reduceLE, Int.reduceLT, Int.reduceToNat, List.cons.injEq, cdB]
    refine ⟨fun h4 => ⟨by omega, ?_⟩, fun h4 => ?_⟩
    · skip
      refine ac204 bsum_T_ok (Nat.le_of_ble_eq_true rfl) ?_
      simp -implicitDefEqProofs only [cdA, go_sem, Go.Proofs.Tryz.f204, reduceIte, reduceCtorEq, Nat.reduceEqDiff, Nat.reduceAdd, Nat.reduceLeDiff, Nat.reduceSub, Nat.reduceMul, Nat.reduceLT, Nat.reduceShiftRight, Nat.reduceMod, Int.reduceLE, Int.reduceLT, Int.reduceToNat, List.cons.injEq, cdB]
      have hi' : i < l.length := by omega
      have hin := mem_getD.2 ⟨i, hi', rfl⟩
      rw [mon1_0]
      refine ⟨fun h5 => ⟨fun h6 => ⟨⟨i + 1, by omega, fun j hj => ?_⟩, by dsimp only; omega, i64_in _ (by omega)⟩, fun h6 => hbad fun h => h6 (h.2.2 _ hin).2⟩, fun h5 => hbad fun h => (h.2.2 _ hin).1 (by omega)⟩
      by_cases hji : j = i
      · subst hji; exact ⟨by omega, h6⟩
      · exact hall j (by omega)
    · have hi' : i = l.length := by omega
      subst hi'
      have hok : ∀ x ∈ l, okIt x := fun x hx => by obtain ⟨j, hj, rfl⟩ := mem_getD.1 hx; exact hall j hj
      have hsum : sumB l = if totI l ≤ MM then (totI l, 0) else (0, 8) := by rw [sumB, if_pos ⟨by omega, by omega, hok⟩]
      refine ⟨fun h => h.elim, fun _ => SWp.loop (ι := { i : Nat // i ≤ l.length ∧ totI (l.take i) ≤ MM }) (fun i => ⟨[(2, .int .u64 (totI (l.take i.1) : Nat)), (20, .sl (its l)), (21, .int .i64 l.length), (22, .int .i64 i.1)], [], 0⟩) (fun i => l.length - i.1) ⟨0, by simp [totI]⟩ ?_ ?_⟩
      · simp [go_sem, totI]
      · rintro ⟨i, hi, hs⟩
        refine awp_sound bsum_T_ok.toS lv121 _ _ _ rfl ?_
        simp -implicitDefEqProofs only [cdA, go_sem, reduceIte, reduceCtorEq, Nat.reduceEqDiff, Nat.reduceAdd, Nat.reduceLeDiff, Nat.reduceSub, Nat.reduceMul, Nat.reduceLT, Nat.reduceShiftRight, Nat.reduceMod, Int.reduceLE, Int.reduceLT, Int.reduceToNat, List.cons.injEq, cdB]
        unfold MM at *
        refine ⟨fun h5 => ⟨by omega, fun h6 => ?_, fun h6 => ?_⟩, fun h5 => ?_⟩
        · have hi' : i < l.length := by omega
          have h7 := addM_1 h6
          have h8 := (addM_0.1 h6).2
          simp only [List.sum_cons, List.sum_nil, Nat.add_zero] at h7 h8
          refine ⟨⟨i + 1, hi', by rw [totI_succ hi']; exact h8⟩, by dsimp only; omega, ?_, i64_in _ (by omega)⟩
          rw [h7]; dsimp only; rw [totI_succ hi']
        · have hi' : i < l.length := by omega
          have hn := (hok _ (mem_getD.2 ⟨i, hi', rfl⟩)).2
          unfold MM at hn
          have hle := totI_le (l := l) (i := i + 1)
          rw [totI_succ hi'] at hle
          have h7 : addM [totI (l.take i), (l.getD i default).n] = (0, 8) := by
            have hm : monS [totI (l.take i), (l.getD i default).n] = 0 := by rw [mon2, if_pos ⟨hs, hn⟩]
            have hns : ¬ [totI (l.take i), (l.getD i default).n].sum ≤ 4611686018427387904 := fun h => h6 (addM_0.2 ⟨fun x hx => by
              simp only [List.mem_cons, List.not_mem_nil, or_false] at hx
              rcases hx with rfl | rfl
              · exact hs
              · exact hn, h⟩)
            rw [addM, if_pos hm, if_neg hns]
          have h8 : ¬ totI l ≤ 4611686018427387904 := fun h => h6 (addM_0.2 ⟨fun x hx => by
              simp only [List.mem_cons, List.not_mem_nil, or_false] at hx
              rcases hx with rfl | rfl
              · exact hs
              · exact hn, by simp only [List.sum_cons, List.sum_nil, Nat.add_zero]; omega⟩)
          rw [h7, hsum, if_neg h8]; exact ⟨rfl, rfl⟩
        · have hi' : i = l.length := by omega
          subst hi'
          rw [List.take_length] at hs ⊢
          rw [hsum, if_pos hs]; exact ⟨rfl, rfl⟩
def sp_bsum : List D → Option (Prop × D × Fr)
  | [.c (.sl z6)] => some (z6 = its (dits z6), bsum_r (dits z6), [])
  | _ => none
attribute [go_sem] sp_bsum
theorem sp_bsum_ok : ∀ rs p r fr, sp_bsum rs = some (p, r, fr) → p → FnOk Tryz.prog 121 rs r fr := by
  intro rs p r fr h hp
  unfold sp_bsum at h
  split at h <;> cases h
  have hc0 := hp
  rename_i z6
  obtain ⟨z6, rfl⟩ : ∃ m, z6 = its m := ⟨_, hc0⟩
  simp only [dits_its]
  exact bsum_ok z6
end Dm
namespace Dm
open Go Go.Proofs Go.IntWalk
def whatM (m : Int) : Int := if 0 < m ∧ m < 11 then ([0, 71, 17, 79, 3, 2, 2, 0, 6, 4, 32] : List Int).getD m.toNat 0 else 0
@[go_sem] def rqhas_r (m : Int) : D := .tup [.int .i64 (whatM m), .bool (decide (0 < m ∧ m < 11))]
@[go_sem] abbrev n_rqhas : FuncId := 202
@[go_sem] def rqhas_T : Tab := []
theorem rqhas_T_ok : TabOk Tryz.prog rqhas_T := TabOk.nil
set_option maxRecDepth 8000 in
set_option maxHeartbeats 1000000 in
theorem rqhas_ok (m : Int)  : PureFn Tryz.prog 202 [.c (.int .i64 m)] (rqhas_r m) := by
  have hm : m ≤ 0 ∨ 11 ≤ m ∨ m = 1 ∨ m = 2 ∨ m = 3 ∨ m = 4 ∨ m = 5 ∨ m = 6 ∨ m = 7 ∨ m = 8 ∨ m = 9 ∨ m = 10 := by omega
  unfold rqhas_r whatM
  refine .of ?_
  rcases hm with hm | hm | rfl | rfl | rfl | rfl | rfl | rfl | rfl | rfl | rfl | rfl
  · skip
    refine ac202 rqhas_T_ok (Nat.le_of_ble_eq_true rfl) ?_
    simp -implicitDefEqProofs only [cdA, go_sem, Go.Proofs.Tryz.f202, reduceIte, reduceCtorEq, Nat.reduceEqDiff, Nat.reduceAdd, Nat.reduceLeDiff, Nat.reduceSub, Nat.reduceMul, Nat.reduceLT, Nat.reduceShiftRight, Nat.reduceMod, Int.reduceLE, Int.reduceLT, Int.reduceToNat, List.cons.injEq, cdB]
    exact ⟨fun h => absurd hm h, fun _ => ⟨by rw [if_neg (by omega)], (decide_eq_false (by omega)).symm⟩⟩
  · skip
    refine ac202 rqhas_T_ok (Nat.le_of_ble_eq_true rfl) ?_
    simp -implicitDefEqProofs only [cdA, go_sem, Go.Proofs.Tryz.f202, reduceIte, reduceCtorEq, Nat.reduceEqDiff, Nat.reduceAdd, Nat.reduceLeDiff, Nat.reduceSub, Nat.reduceMul, Nat.reduceLT, Nat.reduceShiftRight, Nat.reduceMod, Int.reduceLE, Int.reduceLT, Int.reduceToNat, List.cons.injEq, cdB]
    exact ⟨fun _ => ⟨fun _ => ⟨by rw [if_neg (by omega)], (decide_eq_false (by omega)).symm⟩, fun h => absurd hm h⟩, fun h => by omega⟩
  all_goals
    refine ac202 rqhas_T_ok (Nat.le_of_ble_eq_true rfl) ?_
    simp -implicitDefEqProofs only [cdA, go_sem, Go.Proofs.Tryz.f202, List.drop_succ_cons, List.drop_zero, List.map_cons, List.map_nil, List.getElem?_cons_zero, List.drop_nil, reduceIte, reduceCtorEq, Nat.reduceEqDiff, Nat.reduceAdd, Nat.reduceLeDiff, Nat.reduceSub, Nat.reduceMul, Nat.reduceLT, Nat.reduceShiftRight, Nat.reduceMod, Int.reduceLE, Int.reduceLT, Int.reduceToNat, List.cons.injEq, cdB]
    exact ⟨⟨False.elim, rfl⟩, False.elim⟩
def sp_rqhas : List D → Option (Prop × D × Fr)
  | [.c (.int .i64 z1)] => some (True, rqhas_r z1, [])
  | _ => none
attribute [go_sem] sp_rqhas
theorem sp_rqhas_ok : ∀ rs p r fr, sp_rqhas rs = some (p, r, fr) → p → FnOk Tryz.prog 202 rs r fr := by
  intro rs p r fr h hp
  unfold sp_rqhas at h
  split at h <;> cases h
  rename_i z1
  exact rqhas_ok z1
structure Rq where
  id : Nat
  method : Int
  key : Nat
  t : Tk
  a : Nat
  n : Nat
  till : Nat
  items : List It
  l : List Cv
deriving DecidableEq, Inhabited
@[go_sem] def Rq.enc (e : Rq) : List C := [.int .u64 (e.id : Int), .int .i64 e.method, .int .u64 (e.key : Int), .int .u64 (e.t.root : Int), .sl (cvs e.t.l), .int .i64 e.t.tag, .int .u64 (e.a : Int), .int .u64 (e.n : Int), .int .u64 (e.till : Int), .sl (its e.items), .sl (cvs e.l)]
def Rq.dec : List C → Rq
  | [.int .u64 z3, .int .i64 z4, .int .u64 z5, .int .u64 z7, .sl z8, .int .i64 z9, .int .u64 z10, .int .u64 z11, .int .u64 z12, .sl z13, .sl z14] => (⟨z3.toNat, z4, z5.toNat, (⟨z7.toNat, (dcvs z8), z9⟩ : Tk), z10.toNat, z11.toNat, z12.toNat, (dits z13), (dcvs z14)⟩ : Rq)
  | _ => default
def rqs (l : List Rq) : List (List C) := l.map Rq.enc
def drqs (l : List (List C)) : List Rq := l.map Rq.dec
@[simp, go_sem] theorem rqs_length (l : List Rq) : (rqs l).length = l.length := by simp [rqs]
@[go_sem] theorem rqs_get (l : List Rq) (i : Nat) : (rqs l).getD i [.int .u64 0, .int .i64 0, .int .u64 0, .int .u64 0, .sl [], .int .i64 0, .int .u64 0, .int .u64 0, .int .u64 0, .sl [], .sl []] = (l.getD i default).enc := by
  simp only [rqs, List.getD_eq_getElem?_getD, List.getElem?_map]
  cases l[i]? <;> rfl
@[go_sem] theorem rqs_wide (l : List Rq) : Wide 11 (rqs l) = True := by
  simp [Wide, rqs, Rq.enc]
theorem Rq.dec_enc (e : Rq) : Rq.dec e.enc = e := by
  simp [Rq.enc, Rq.dec, dcvs_cvs, dits_its]
@[go_sem] theorem drqs_rqs (l : List Rq) : drqs (rqs l) = l := by
  simp only [drqs, rqs, List.map_map]
  exact List.map_id'' (fun e => Rq.dec_enc e) l
@[go_sem] theorem rqs_app (a b : List Rq) : rqs a ++ rqs b = rqs (a ++ b) := by simp [rqs]
@[go_sem] theorem rqs_drop (l : List Rq) (k : Nat) : (rqs l).drop k = rqs (l.drop k) := by simp [rqs]
@[go_sem] theorem rqs_take (l : List Rq) (k : Nat) : (rqs l).take k = rqs (l.take k) := by simp [rqs]
@[go_sem] theorem rqs_one (z15 : Int) (z16 : Int) (z17 : Int) (z18 : Int) (z19 : List Cv) (z20 : Int) (z21 : Int) (z22 : Int) (z23 : Int) (z24 : List It) (z25 : List Cv) (hz15 : 0 ≤ z15) (hz17 : 0 ≤ z17) (hz18 : 0 ≤ z18) (hz21 : 0 ≤ z21) (hz22 : 0 ≤ z22) (hz23 : 0 ≤ z23) : [[C.int .u64 z15, C.int .i64 z16, C.int .u64 z17, C.int .u64 z18, C.sl (cvs z19), C.int .i64 z20, C.int .u64 z21, C.int .u64 z22, C.int .u64 z23, C.sl (its z24), C.sl (cvs z25)]] = rqs [⟨z15.toNat, z16, z17.toNat, ⟨z18.toNat, z19, z20⟩, z21.toNat, z22.toNat, z23.toNat, z24, z25⟩] := by simp [rqs, Rq.enc, Int.toNat_of_nonneg hz15, Int.toNat_of_nonneg hz17, Int.toNat_of_nonneg hz18, Int.toNat_of_nonneg hz21, Int.toNat_of_nonneg hz22, Int.toNat_of_nonneg hz23]
@[go_sem] theorem rqs_set (l : List Rq) (i : Nat) (z15 : Int) (z16 : Int) (z17 : Int) (z18 : Int) (z19 : List Cv) (z20 : Int) (z21 : Int) (z22 : Int) (z23 : Int) (z24 : List It) (z25 : List Cv) (hz15 : 0 ≤ z15) (hz17 : 0 ≤ z17) (hz18 : 0 ≤ z18) (hz21 : 0 ≤ z21) (hz22 : 0 ≤ z22) (hz23 : 0 ≤ z23) : (rqs l).set i [C.int .u64 z15, C.int .i64 z16, C.int .u64 z17, C.int .u64 z18, C.sl (cvs z19), C.int .i64 z20, C.int .u64 z21, C.int .u64 z22, C.int .u64 z23, C.sl (its z24), C.sl (cvs z25)] = rqs (l.set i ⟨z15.toNat, z16, z17.toNat, ⟨z18.toNat, z19, z20⟩, z21.toNat, z22.toNat, z23.toNat, z24, z25⟩) := by simp [rqs, List.map_set, Rq.enc, Int.toNat_of_nonneg hz15, Int.toNat_of_nonneg hz17, Int.toNat_of_nonneg hz18, Int.toNat_of_nonneg hz21, Int.toNat_of_nonneg hz22, Int.toNat_of_nonneg hz23]
@[go_sem] theorem rqs_cons (l : List Rq) (z15 : Int) (z16 : Int) (z17 : Int) (z18 : Int) (z19 : List Cv) (z20 : Int) (z21 : Int) (z22 : Int) (z23 : Int) (z24 : List It) (z25 : List Cv) (hz15 : 0 ≤ z15) (hz17 : 0 ≤ z17) (hz18 : 0 ≤ z18) (hz21 : 0 ≤ z21) (hz22 : 0 ≤ z22) (hz23 : 0 ≤ z23) : [C.int .u64 z15, C.int .i64 z16, C.int .u64 z17, C.int .u64 z18, C.sl (cvs z19), C.int .i64 z20, C.int .u64 z21, C.int .u64 z22, C.int .u64 z23, C.sl (its z24), C.sl (cvs z25)] :: rqs l = rqs (⟨z15.toNat, z16, z17.toNat, ⟨z18.toNat, z19, z20⟩, z21.toNat, z22.toNat, z23.toNat, z24, z25⟩ :: l) := by simp [rqs, Rq.enc, Int.toNat_of_nonneg hz15, Int.toNat_of_nonneg hz17, Int.toNat_of_nonneg hz18, Int.toNat_of_nonneg hz21, Int.toNat_of_nonneg hz22, Int.toNat_of_nonneg hz23]
@[go_sem] theorem Rq.eta {e : Rq} : (⟨e.id, e.method, e.key, e.t, e.a, e.n, e.till, e.items, e.l⟩ : Rq) = e := rfl
def oddC (l : List Cv) : Bool := l.any fun c => decide (¬ cavS c = 0)
@[go_sem] def rqodd_r (l : List Cv) : D := .bool (oddC l)
@[go_sem] abbrev n_rqodd : FuncId := 117
@[go_sem] def rqodd_T : Tab := [(58, sp_cavcheck)]
theorem rqodd_T_ok : TabOk Tryz.prog rqodd_T := (TabOk.cons sp_cavcheck_ok TabOk.nil)
set_option maxRecDepth 8000 in
set_option maxHeartbeats 1000000 in
theorem rqodd_ok (l : List Cv)  : PureFn Tryz.prog 117 [.sl (cvs l), .fn (.func 203) [] []] (rqodd_r l) := by
  refine .of (ac117 rqodd_T_ok (Nat.le_of_ble_eq_true rfl) ?_)
  simp -implicitDefEqProofs only [cdA, go_sem, Go.Proofs.Tryz.f117, reduceIte, reduceCtorEq, Nat.reduceEqDiff, Nat.reduceAdd, Nat.reduceLeDiff, Nat.reduceSub, Nat.reduceMul, Nat.reduceLT, Nat.reduceShiftRight, Nat.reduceMod, Int.reduceLE, Int.reduceLT, Int.reduceToNat, List.cons.injEq, cdB]
  refine ac199 rqodd_T_ok (Nat.le_of_ble_eq_true rfl) ?_
  simp -implicitDefEqProofs only [cdA, go_sem, Go.Proofs.Tryz.f199, reduceIte, reduceCtorEq, Nat.reduceEqDiff, Nat.reduceAdd, Nat.reduceLeDiff, Nat.reduceSub, Nat.reduceMul, Nat.reduceLT, Nat.reduceShiftRight, Nat.reduceMod, Int.reduceLE, Int.reduceLT, Int.reduceToNat, List.cons.injEq, cdB]
  refine fun _ => SWp.loop (ι := { i : Nat // i ≤ l.length ∧ ∀ j, j < i → cavS (l.getD j default) = 0 }) (fun i => ⟨[(0, .sl (cvs l)), (1, .fn (.func 203) [] []), (7, .int .i64 l.length), (8, .int .i64 i.1)], [], 0⟩) (fun i => l.length - i.1) ⟨0, by simp⟩ ?_ ?_
  · simp [go_sem]
  · rintro ⟨i, hi, hall⟩
    refine awp_sound rqodd_T_ok.toS lv199 _ _ _ rfl ?_
    simp -implicitDefEqProofs only [cdA, go_sem, reduceIte, reduceCtorEq, Nat.reduceEqDiff, Nat.reduceAdd, Nat.reduceLeDiff, Nat.reduceSub, Nat.reduceMul, Nat.reduceLT, Nat.reduceShiftRight, Nat.reduceMod, Int.reduceLE, Int.reduceLT, Int.reduceToNat, List.cons.injEq, cdB]
    refine ⟨fun h4 => ⟨h4, ?_⟩, fun h4 => ?_⟩
    · skip
      refine ac203 rqodd_T_ok (Nat.le_of_ble_eq_true rfl) ?_
      simp -implicitDefEqProofs only [cdA, go_sem, Go.Proofs.Tryz.f203, reduceIte, reduceCtorEq, Nat.reduceEqDiff, Nat.reduceAdd, Nat.reduceLeDiff, Nat.reduceSub, Nat.reduceMul, Nat.reduceLT, Nat.reduceShiftRight, Nat.reduceMod, Int.reduceLE, Int.reduceLT, Int.reduceToNat, List.cons.injEq, cdB]
      have hi' : i < l.length := by omega
      refine ⟨fun h5 => ⟨⟨i + 1, hi', fun j hj => ?_⟩, by dsimp only; omega, i64_in _ (by omega)⟩, fun h5 => ?_⟩
      · by_cases hji : j = i
        · subst hji; exact h5
        · exact hall j (by omega)
      · exact (List.any_eq_true.2 ⟨_, mem_getD.2 ⟨i, hi', rfl⟩, decide_eq_true h5⟩).symm
    · have hi' : i = l.length := by omega
      subst hi'
      rw [eq_comm, decide_eq_false (fun h => h.elim), oddC, List.any_eq_false]
      intro c hc
      obtain ⟨j, hj, rfl⟩ := mem_getD.1 hc
      rw [hall j hj]; decide
def sp_rqodd : List D → Option (Prop × D × Fr)
  | [.c (.sl z26), .fn (.func 203) [] []] => some (z26 = cvs (dcvs z26), rqodd_r (dcvs z26), [])
  | _ => none
attribute [go_sem] sp_rqodd
theorem sp_rqodd_ok : ∀ rs p r fr, sp_rqodd rs = some (p, r, fr) → p → FnOk Tryz.prog 117 rs r fr := by
  intro rs p r fr h hp
  unfold sp_rqodd at h
  split at h <;> cases h
  have hc0 := hp
  rename_i z26
  obtain ⟨z26, rfl⟩ : ∃ m, z26 = cvs m := ⟨_, hc0⟩
  simp only [dcvs_cvs]
  exact rqodd_ok z26
end Dm
namespace Dm
open Go Go.Proofs Go.IntWalk
def fstLoop : Code → Option Code
  | .loop c => some (.loop c)
  | .seq a b => match fstLoop a with
    | some c => some c
    | none => fstLoop b
  | .block _ c => fstLoop c
  | .cond _ a b => match fstLoop a with
    | some c => some c
    | none => fstLoop b
  | _ => none
noncomputable def rqLoop : Code := (fstLoop (Tryz.f120.body.getD .skip)).getD .skip
structure Rw where
  bit : Int
  there : Bool
  is : Bool
deriving DecidableEq, Inhabited
@[go_sem] def Rw.enc (e : Rw) : List C := [.int .i64 e.bit, .bool e.there, .bool e.is]
def Rw.dec : List C → Rw
  | [.int .i64 z2, .bool z3, .bool z4] => (⟨z2, z3, z4⟩ : Rw)
  | _ => default
def rws (l : List Rw) : List (List C) := l.map Rw.enc
def drws (l : List (List C)) : List Rw := l.map Rw.dec
@[simp, go_sem] theorem rws_length (l : List Rw) : (rws l).length = l.length := by simp [rws]
@[go_sem] theorem rws_get (l : List Rw) (i : Nat) : (rws l).getD i [.int .i64 0, .bool false, .bool false] = (l.getD i default).enc := by
  simp only [rws, List.getD_eq_getElem?_getD, List.getElem?_map]
  cases l[i]? <;> rfl
@[go_sem] theorem rws_wide (l : List Rw) : Wide 3 (rws l) = True := by
  simp [Wide, rws, Rw.enc]
theorem Rw.dec_enc (e : Rw) : Rw.dec e.enc = e := by
  simp [Rw.enc, Rw.dec]
@[go_sem] theorem drws_rws (l : List Rw) : drws (rws l) = l := by
  simp only [drws, rws, List.map_map]
  exact List.map_id'' (fun e => Rw.dec_enc e) l
@[go_sem] theorem rws_app (a b : List Rw) : rws a ++ rws b = rws (a ++ b) := by simp [rws]
@[go_sem] theorem rws_drop (l : List Rw) (k : Nat) : (rws l).drop k = rws (l.drop k) := by simp [rws]
@[go_sem] theorem rws_take (l : List Rw) (k : Nat) : (rws l).take k = rws (l.take k) := by simp [rws]
@[go_sem] theorem rws_one (z5 : Int) (z6 : Bool) (z7 : Bool) : [[C.int .i64 z5, C.bool z6, C.bool z7]] = rws [⟨z5, z6, z7⟩] := by simp [rws, Rw.enc]
@[go_sem] theorem rws_set (l : List Rw) (i : Nat) (z5 : Int) (z6 : Bool) (z7 : Bool) : (rws l).set i [C.int .i64 z5, C.bool z6, C.bool z7] = rws (l.set i ⟨z5, z6, z7⟩) := by simp [rws, List.map_set, Rw.enc]
@[go_sem] theorem rws_cons (l : List Rw) (z5 : Int) (z6 : Bool) (z7 : Bool) : [C.int .i64 z5, C.bool z6, C.bool z7] :: rws l = rws (⟨z5, z6, z7⟩ :: l) := by simp [rws, Rw.enc]
@[go_sem] theorem rws_flat (l : List Rw) : flatE (rws l) = True := eq_true fun x hx c hc => by
  obtain ⟨e, _, rfl⟩ := List.mem_map.1 hx
  simp only [Rw.enc, List.mem_cons, List.not_mem_nil, or_false] at hc
  rcases hc with rfl | rfl | rfl <;> rfl
@[go_sem] theorem Rw.eta {e : Rw} : (⟨e.bit, e.there, e.is⟩ : Rw) = e := rfl
abbrev rqBox (r : Rq) : Ob := .box [.c (.int .u64 r.id), .c (.int .i64 r.method), .c (.int .u64 r.key), .c (.int .u64 r.t.root), .sl (cvs r.t.l), .c (.int .i64 r.t.tag), .c (.int .u64 r.a), .c (.int .u64 r.n), .c (.int .u64 r.till), .sl (its r.items), .sl (cvs r.l)]
def rowOk (what : Int) (b : Rw) : Bool := if iand .i64 what b.bit = 0 then !b.there else b.is
theorem rq_loop {Q : Exit → St → Prop} {T : Tab} (hT : TabOk Tryz.prog T) (r : Rq) {what : Int} {ok : Bool} {id nx : Nat} {E : List Rw} {rest : List (Nat × Ob)} (hE : E.length = 6) (hid : 0 < id ∧ id < nx)
    (h0 : Sub 0 ⟨[(1, .ref 0 0), (3, .int .i64 what), (4, .bool ok), (82, .vec id 6), (83, .int .i64 6), (84, .int .i64 0)], (id, .vec true 3 247 (rws E)) :: (0, rqBox r) :: rest, nx⟩ ⟨[(1, .ref 0 0), (3, .int .i64 what), (4, .bool ok), (82, .vec id 6), (83, .int .i64 6), (84, .int .i64 0)], [(id, .vec true 3 247 (rws E)), (0, rqBox r)], nx⟩)
    (hQ : Q (.exit 0) ⟨[(1, .ref 0 0), (3, .int .i64 what), (4, .bool (ok && E.all (rowOk what))), (82, .vec id 6), (83, .int .i64 6), (84, .int .i64 6), (85, .bool false)], [(id, .vec true 3 247 (rws E)), (0, rqBox r)], nx⟩) : SWp Tryz.prog 113 0 rqLoop Q ⟨[(1, .ref 0 0), (3, .int .i64 what), (4, .bool ok), (82, .vec id 6), (83, .int .i64 6), (84, .int .i64 0)], (id, .vec true 3 247 (rws E)) :: (0, rqBox r) :: rest, nx⟩ := by
  change SWp _ _ _ (Code.loop _) _ _
  refine SWp.loop (ι := { i : Nat // i ≤ 6 }) (fun i => ⟨[(1, .ref 0 0), (3, .int .i64 what), (4, .bool (ok && ((E.take i.1).all (rowOk what)))), (82, .vec id 6), (83, .int .i64 6), (84, .int .i64 i.1)], [(id, .vec true 3 247 (rws E)), (0, rqBox r)], nx⟩) (fun i => 6 - i.1) ⟨0, by simp⟩ ?_ ?_
  · simp only [List.take_zero, List.all_nil, Bool.and_true]; exact h0
  · rintro ⟨i, hi⟩
    have hne : ¬ (0 : Nat) = id := by omega
    have hne2 : ¬ nx = id := by omega
    have hne3 : ¬ id = nx := by omega
    have hne4 : ¬ (0 : Nat) = nx := by omega
    have hp1 : (0 < nx) = True := eq_true (by omega)
    have hp2 : (id < nx) = True := eq_true hid.2
    refine awp_sound hT.toS lv120 _ _ _ rfl ?_
    simp -implicitDefEqProofs only [cdA, go_sem, hne, hne2, hne3, hne4, hp1, hp2, if_false, reduceIte, reduceCtorEq, Nat.reduceEqDiff, Nat.reduceAdd, Nat.reduceLeDiff, Nat.reduceSub, Nat.reduceMul, Nat.reduceLT, Nat.reduceShiftRight, Nat.reduceMod, Int.reduceLE, Int.reduceLT, Int.reduceToNat, List.cons.injEq, cdB]
    refine ⟨fun h1 => ?_, fun h1 => ?_⟩
    rotate_left 1
    · have hi6 : i = 6 := by omega
      subst hi6
      rw [List.take_of_length_le (by omega)]
      exact hQ
    have htk := take_succ (l := E) (i := i) (by omega)
    have hstep : ∀ b : Bool, b = (if (ok && (E.take i).all (rowOk what)) = true then rowOk what (E.getD i default) else false) → b = (ok && (E.take (i + 1)).all (rowOk what)) := fun b hb => by
      rw [hb, htk, List.all_append]
      cases ok <;> cases (E.take i).all (rowOk what) <;> simp
    refine ⟨h1, ⟨hE.symm, by omega⟩, fun h2 => ⟨fun h3 => ⟨⟨i + 1, by omega⟩, by dsimp only; omega, ⟨hstep _ ?_, i64_in _ (by omega)⟩, Nat.le_succ _⟩, fun h3 => ⟨⟨i + 1, by omega⟩, by dsimp only; omega, ⟨hstep _ ?_, i64_in _ (by omega)⟩, Nat.le_succ _⟩⟩, fun h2 => ⟨fun h3 => ⟨⟨i + 1, by omega⟩, by dsimp only; omega, ⟨hstep _ ?_, i64_in _ (by omega)⟩, Nat.le_succ _⟩, fun h3 => ⟨⟨i + 1, by omega⟩, by dsimp only; omega, ⟨hstep _ ?_, i64_in _ (by omega)⟩, Nat.le_succ _⟩⟩⟩
    · rw [if_pos h3, rowOk, if_pos h2]
    · rw [if_neg (by rw [h3]; decide)]
    · rw [if_pos h3, rowOk, if_neg h2]
    · rw [if_neg (by rw [h3]; decide)]
def rqRows (r : Rq) : List Rw := [⟨1, decide (r.key ≠ 0), true⟩, ⟨2, decide (r.a ≠ 0), true⟩, ⟨4, decide (r.n ≠ 0), decide (iand .i64 (whatM r.method) 64 = 0 ∨ 0 < r.n ∧ r.n ≤ 4611686018427387904)⟩, ⟨8, decide (r.till ≠ 0), true⟩, ⟨16, decide (r.items ≠ []), decide ((sumB r.items).2 = 0)⟩, ⟨32, decide (r.l ≠ []), decide (r.l ≠ [] ∧ r.l.length ≤ 16 ∧ ∀ c ∈ r.l, cavS c = 0)⟩]
def okRq (r : Rq) : Prop := (0 < r.method ∧ r.method < 11) ∧ (rqRows r).all (rowOk (whatM r.method)) = true ∧ okTk r.t
instance (r : Rq) : Decidable (okRq r) := by unfold okRq; infer_instance
def rqS (r : Rq) : Int := if okRq r then 0 else 1
theorem rq_end {r : Rq} {E : List Rw} (h : E = rqRows r) : ∀ b : Bool, b = (decide (0 < r.method ∧ r.method < 11) && E.all (rowOk (whatM r.method))) → (b = true → tokS r.t = 0 → 0 = rqS r) ∧ (b = true → ¬ tokS r.t = 0 → 1 = rqS r) ∧ (b = false → 1 = rqS r) := by
  subst h
  rintro b hb
  have htz : tokS r.t = 0 ↔ okTk r.t := by unfold tokS; split <;> rename_i h <;> simp only [h] <;> decide
  refine ⟨fun h1 h2 => ?_, fun h1 h2 => ?_, fun h1 => ?_⟩
  · rw [h1, eq_comm, Bool.and_eq_true, decide_eq_true_iff] at hb
    rw [rqS, if_pos ⟨hb.1, hb.2, htz.1 h2⟩]
  · rw [rqS, if_neg fun h => h2 (htz.2 h.2.2)]
  · rw [rqS, if_neg fun h => ?_]
    rw [h1, eq_comm, Bool.and_eq_false_iff] at hb
    rcases hb with hb | hb
    · exact of_decide_eq_false hb h.1
    · rw [h.2.1] at hb; cases hb
theorem rq_fin {r : Rq} {n4 i32 : Bool} (h4 : n4 = decide (iand .i64 (whatM r.method) 64 = 0 ∨ 0 < r.n ∧ r.n ≤ 4611686018427387904)) (h32 : i32 = decide (r.l ≠ [] ∧ r.l.length ≤ 16 ∧ ∀ c ∈ r.l, cavS c = 0)) :
    ((!(decide (0 < r.method ∧ r.method < 11) && (rowOk (whatM r.method) ⟨1, !decide ((r.key : Int) = 0), true⟩ && (rowOk (whatM r.method) ⟨2, !decide ((r.a : Int) = 0), true⟩ && (rowOk (whatM r.method) ⟨4, !decide ((r.n : Int) = 0), n4⟩ && (rowOk (whatM r.method) ⟨8, !decide ((r.till : Int) = 0), true⟩ && (rowOk (whatM r.method) ⟨16, decide (0 < (r.items.length : Int)), decide ((sumB r.items).snd = 0)⟩ && rowOk (whatM r.method) ⟨32, decide (0 < (r.l.length : Int)), i32⟩))))))) = false → (tokS r.t = 0 → 0 = rqS r) ∧ (¬ tokS r.t = 0 → 1 = rqS r)) ∧
    ((!(decide (0 < r.method ∧ r.method < 11) && (rowOk (whatM r.method) ⟨1, !decide ((r.key : Int) = 0), true⟩ && (rowOk (whatM r.method) ⟨2, !decide ((r.a : Int) = 0), true⟩ && (rowOk (whatM r.method) ⟨4, !decide ((r.n : Int) = 0), n4⟩ && (rowOk (whatM r.method) ⟨8, !decide ((r.till : Int) = 0), true⟩ && (rowOk (whatM r.method) ⟨16, decide (0 < (r.items.length : Int)), decide ((sumB r.items).snd = 0)⟩ && rowOk (whatM r.method) ⟨32, decide (0 < (r.l.length : Int)), i32⟩))))))) = true → 1 = rqS r) := by
  have hz : ∀ a : Nat, (!decide ((a : Int) = 0)) = decide (a ≠ 0) := fun a => by
    rw [← decide_not]; exact decide_eq_decide.2 ⟨fun h h' => h (by rw [h']; rfl), fun h h' => h (by omega)⟩
  have hl : ∀ {α : Type} (l : List α), decide (0 < (l.length : Int)) = decide (¬ l.length = 0) := fun l => decide_eq_decide.2 (by omega)
  have he1 : decide (¬ r.items.length = 0) = decide (r.items ≠ []) := decide_eq_decide.2 (by rw [List.length_eq_zero_iff])
  have he2 : decide (¬ r.l.length = 0) = decide (r.l ≠ []) := decide_eq_decide.2 (by rw [List.length_eq_zero_iff])
  rw [hz, hz, hz, hz, hl, hl, he1, he2, h4, h32]
  have key := rq_end (E := rqRows r) rfl _ rfl
  simp only [rqRows, List.all_cons, List.all_nil, Bool.and_true] at key
  obtain ⟨k1, k2, k3⟩ := key
  refine ⟨fun h => ⟨k1 ?_, k2 ?_⟩, fun h => k3 ?_⟩
  · rw [← Bool.not_not (decide _ && _), h]; rfl
  · rw [← Bool.not_not (decide _ && _), h]; rfl
  · rw [← Bool.not_not (decide _ && _), h]; rfl
theorem rq4 {w : Int} {n : Nat} (hw : ¬ iand .i64 w 64 = 0) (hn : 0 < (n : Int)) : decide (monS [n] = 0) = decide (iand .i64 w 64 = 0 ∨ 0 < n ∧ n ≤ 4611686018427387904) := decide_eq_decide.2 ⟨fun h => .inr ⟨by omega, mon1_0.1 h⟩, fun h => h.elim (fun h => (hw h).elim) fun h => mon1_0.2 h.2⟩
theorem rq4n {w : Int} {n : Nat} (hw : ¬ iand .i64 w 64 = 0) (hn : ¬ 0 < (n : Int)) : false = decide (iand .i64 w 64 = 0 ∨ 0 < n ∧ n ≤ 4611686018427387904) := (decide_eq_false fun h => h.elim hw fun h => hn (by omega)).symm
theorem rq4t {w : Int} {n : Nat} (hw : iand .i64 w 64 = 0) : true = decide (iand .i64 w 64 = 0 ∨ 0 < n ∧ n ≤ 4611686018427387904) := (decide_eq_true (.inl hw)).symm
theorem rq32 {l : List Cv} (hl : 0 < (l.length : Int)) (h16 : (l.length : Int) ≤ 16) : (!oddC l) = decide (l ≠ [] ∧ l.length ≤ 16 ∧ ∀ c ∈ l, cavS c = 0) := by
  have h0 : l ≠ [] := fun h => by rw [h] at hl; exact absurd hl (by decide)
  rw [Bool.eq_iff_iff, Bool.not_eq_true', decide_eq_true_iff, oddC, List.any_eq_false]
  refine ⟨fun h => ⟨h0, by omega, fun c hc => ?_⟩, fun h c hc => ?_⟩
  · have := h c hc
    rw [decide_eq_true_iff] at this
    exact Decidable.not_not.1 this
  · rw [decide_eq_true_iff]
    exact fun h' => h' (h.2.2 c hc)
theorem rq32n {l : List Cv} (hl : ¬ 0 < (l.length : Int)) : false = decide (l ≠ [] ∧ l.length ≤ 16 ∧ ∀ c ∈ l, cavS c = 0) := (decide_eq_false fun h => hl (by have := List.length_pos_iff.2 h.1; omega)).symm
theorem rq32m {l : List Cv} (h16 : ¬ (l.length : Int) ≤ 16) : false = decide (l ≠ [] ∧ l.length ≤ 16 ∧ ∀ c ∈ l, cavS c = 0) := (decide_eq_false fun h => h16 (by omega)).symm
@[go_sem] def rqcheck_r (r : Rq) : D := .int .i64 (rqS r)
@[go_sem] abbrev n_rqcheck : FuncId := 120
@[go_sem] def rqcheck_T : Tab := [(202, sp_rqhas), (121, sp_bsum), (58, sp_cavcheck), (53, sp_tcheck), (122, sp_moncheck), (117, sp_rqodd)]
theorem rqcheck_T_ok : TabOk Tryz.prog rqcheck_T := (TabOk.cons sp_rqhas_ok (TabOk.cons sp_bsum_ok (TabOk.cons sp_cavcheck_ok (TabOk.cons sp_tcheck_ok (TabOk.cons sp_moncheck_ok (TabOk.cons sp_rqodd_ok TabOk.nil))))))
set_option maxRecDepth 8000 in
set_option maxHeartbeats 1000000 in
theorem rqcheck_ok (r : Rq)  : PureFn Tryz.prog 120 [.agg [.c (.int .u64 (r.id : Int)), .c (.int .i64 r.method), .c (.int .u64 (r.key : Int)), .c (.int .u64 (r.t.root : Int)), .sl (cvs r.t.l), .c (.int .i64 r.t.tag), .c (.int .u64 (r.a : Int)), .c (.int .u64 (r.n : Int)), .c (.int .u64 (r.till : Int)), .sl (its r.items), .sl (cvs r.l)]] (rqcheck_r r) := by
  refine .of (ac120 rqcheck_T_ok (Nat.le_of_ble_eq_true rfl) ?_)
  simp -implicitDefEqProofs only [cdA, go_sem, Go.Proofs.Tryz.f120, reduceIte, reduceCtorEq, Nat.reduceEqDiff, Nat.reduceAdd, Nat.reduceLeDiff, Nat.reduceSub, Nat.reduceMul, Nat.reduceLT, Nat.reduceShiftRight, Nat.reduceMod, Int.reduceLE, Int.reduceLT, Int.reduceToNat, List.cons.injEq, cdB]
  refine ADraw.run us120_4 rqcheck_T_ok follows_mixed (by kernel_rfl) (by kernel_rfl) ?_
  simp -implicitDefEqProofs only [cdA, go_sem, reduceIte, reduceCtorEq, Nat.reduceEqDiff, Nat.reduceAdd, Nat.reduceLeDiff, Nat.reduceSub, Nat.reduceMul, Nat.reduceLT, Nat.reduceShiftRight, Nat.reduceMod, Int.reduceLE, Int.reduceLT, Int.reduceToNat, List.cons.injEq, cdB]
  refine ⟨fun hw => ⟨fun hn => ⟨fun hl => ⟨fun h16 => ?_, fun h16 => ?_⟩, fun hl => ?_⟩, fun hn => ⟨fun hl => ⟨fun h16 => ?_, fun h16 => ?_⟩, fun hl => ?_⟩⟩, fun hw => ⟨fun hl => ⟨fun h16 => ?_, fun h16 => ?_⟩, fun hl => ?_⟩⟩
  · refine rq_loop rqcheck_T_ok r rfl ⟨by decide, by decide⟩ (by simp [go_sem]) ?_
    simp -implicitDefEqProofs only [cdA, go_sem, reduceIte, reduceCtorEq, Nat.reduceEqDiff, Nat.reduceAdd, Nat.reduceLeDiff, Nat.reduceSub, Nat.reduceMul, Nat.reduceLT, Nat.reduceShiftRight, Nat.reduceMod, Int.reduceLE, Int.reduceLT, Int.reduceToNat, List.cons.injEq, cdB]
    exact rq_fin (rq4 hw hn) (rq32 hl h16)
  · refine rq_loop rqcheck_T_ok r rfl ⟨by decide, by decide⟩ (by simp [go_sem]) ?_
    simp -implicitDefEqProofs only [cdA, go_sem, reduceIte, reduceCtorEq, Nat.reduceEqDiff, Nat.reduceAdd, Nat.reduceLeDiff, Nat.reduceSub, Nat.reduceMul, Nat.reduceLT, Nat.reduceShiftRight, Nat.reduceMod, Int.reduceLE, Int.reduceLT, Int.reduceToNat, List.cons.injEq, cdB]
    exact rq_fin (rq4 hw hn) (rq32m h16)
  · refine rq_loop rqcheck_T_ok r rfl ⟨by decide, by decide⟩ (by simp [go_sem]) ?_
    simp -implicitDefEqProofs only [cdA, go_sem, reduceIte, reduceCtorEq, Nat.reduceEqDiff, Nat.reduceAdd, Nat.reduceLeDiff, Nat.reduceSub, Nat.reduceMul, Nat.reduceLT, Nat.reduceShiftRight, Nat.reduceMod, Int.reduceLE, Int.reduceLT, Int.reduceToNat, List.cons.injEq, cdB]
    exact rq_fin (rq4 hw hn) (rq32n hl)
  · refine rq_loop rqcheck_T_ok r rfl ⟨by decide, by decide⟩ (by simp [go_sem]) ?_
    simp -implicitDefEqProofs only [cdA, go_sem, reduceIte, reduceCtorEq, Nat.reduceEqDiff, Nat.reduceAdd, Nat.reduceLeDiff, Nat.reduceSub, Nat.reduceMul, Nat.reduceLT, Nat.reduceShiftRight, Nat.reduceMod, Int.reduceLE, Int.reduceLT, Int.reduceToNat, List.cons.injEq, cdB]
    exact rq_fin (rq4n hw hn) (rq32 hl h16)
  · refine rq_loop rqcheck_T_ok r rfl ⟨by decide, by decide⟩ (by simp [go_sem]) ?_
    simp -implicitDefEqProofs only [cdA, go_sem, reduceIte, reduceCtorEq, Nat.reduceEqDiff, Nat.reduceAdd, Nat.reduceLeDiff, Nat.reduceSub, Nat.reduceMul, Nat.reduceLT, Nat.reduceShiftRight, Nat.reduceMod, Int.reduceLE, Int.reduceLT, Int.reduceToNat, List.cons.injEq, cdB]
    exact rq_fin (rq4n hw hn) (rq32m h16)
  · refine rq_loop rqcheck_T_ok r rfl ⟨by decide, by decide⟩ (by simp [go_sem]) ?_
    simp -implicitDefEqProofs only [cdA, go_sem, reduceIte, reduceCtorEq, Nat.reduceEqDiff, Nat.reduceAdd, Nat.reduceLeDiff, Nat.reduceSub, Nat.reduceMul, Nat.reduceLT, Nat.reduceShiftRight, Nat.reduceMod, Int.reduceLE, Int.reduceLT, Int.reduceToNat, List.cons.injEq, cdB]
    exact rq_fin (rq4n hw hn) (rq32n hl)
  · refine rq_loop rqcheck_T_ok r rfl ⟨by decide, by decide⟩ (by simp [go_sem]) ?_
    simp -implicitDefEqProofs only [cdA, go_sem, reduceIte, reduceCtorEq, Nat.reduceEqDiff, Nat.reduceAdd, Nat.reduceLeDiff, Nat.reduceSub, Nat.reduceMul, Nat.reduceLT, Nat.reduceShiftRight, Nat.reduceMod, Int.reduceLE, Int.reduceLT, Int.reduceToNat, List.cons.injEq, cdB]
    exact rq_fin (rq4t hw) (rq32 hl h16)
  · refine rq_loop rqcheck_T_ok r rfl ⟨by decide, by decide⟩ (by simp [go_sem]) ?_
    simp -implicitDefEqProofs only [cdA, go_sem, reduceIte, reduceCtorEq, Nat.reduceEqDiff, Nat.reduceAdd, Nat.reduceLeDiff, Nat.reduceSub, Nat.reduceMul, Nat.reduceLT, Nat.reduceShiftRight, Nat.reduceMod, Int.reduceLE, Int.reduceLT, Int.reduceToNat, List.cons.injEq, cdB]
    exact rq_fin (rq4t hw) (rq32m h16)
  · refine rq_loop rqcheck_T_ok r rfl ⟨by decide, by decide⟩ (by simp [go_sem]) ?_
    simp -implicitDefEqProofs only [cdA, go_sem, reduceIte, reduceCtorEq, Nat.reduceEqDiff, Nat.reduceAdd, Nat.reduceLeDiff, Nat.reduceSub, Nat.reduceMul, Nat.reduceLT, Nat.reduceShiftRight, Nat.reduceMod, Int.reduceLE, Int.reduceLT, Int.reduceToNat, List.cons.injEq, cdB]
    exact rq_fin (rq4t hw) (rq32n hl)
def sp_rqcheck : List D → Option (Prop × D × Fr)
  | [.agg [.c (.int .u64 z9), .c (.int .i64 z10), .c (.int .u64 z11), .c (.int .u64 z13), .c (.sl z14), .c (.int .i64 z15), .c (.int .u64 z16), .c (.int .u64 z17), .c (.int .u64 z18), .c (.sl z19), .c (.sl z20)]] => some (z9 = (z9.toNat : Int) ∧ z11 = (z11.toNat : Int) ∧ z13 = (z13.toNat : Int) ∧ z14 = cvs (dcvs z14) ∧ z16 = (z16.toNat : Int) ∧ z17 = (z17.toNat : Int) ∧ z18 = (z18.toNat : Int) ∧ z19 = its (dits z19) ∧ z20 = cvs (dcvs z20), rqcheck_r (⟨z9.toNat, z10, z11.toNat, (⟨z13.toNat, (dcvs z14), z15⟩ : Tk), z16.toNat, z17.toNat, z18.toNat, (dits z19), (dcvs z20)⟩ : Rq), [])
  | _ => none
attribute [go_sem] sp_rqcheck
theorem sp_rqcheck_ok : ∀ rs p r fr, sp_rqcheck rs = some (p, r, fr) → p → FnOk Tryz.prog 120 rs r fr := by
  intro rs p r fr h hp
  unfold sp_rqcheck at h
  split at h <;> cases h
  obtain ⟨hc0, hc1, hc2, hc3, hc4, hc5, hc6, hc7, hc8⟩ := hp
  rename_i z9 z10 z11 z13 z14 z15 z16 z17 z18 z19 z20
  obtain ⟨z9, rfl⟩ : ∃ m : Nat, z9 = m := ⟨_, hc0⟩
  obtain ⟨z11, rfl⟩ : ∃ m : Nat, z11 = m := ⟨_, hc1⟩
  obtain ⟨z13, rfl⟩ : ∃ m : Nat, z13 = m := ⟨_, hc2⟩
  obtain ⟨z14, rfl⟩ : ∃ m, z14 = cvs m := ⟨_, hc3⟩
  obtain ⟨z16, rfl⟩ : ∃ m : Nat, z16 = m := ⟨_, hc4⟩
  obtain ⟨z17, rfl⟩ : ∃ m : Nat, z17 = m := ⟨_, hc5⟩
  obtain ⟨z18, rfl⟩ : ∃ m : Nat, z18 = m := ⟨_, hc6⟩
  obtain ⟨z19, rfl⟩ : ∃ m, z19 = its m := ⟨_, hc7⟩
  obtain ⟨z20, rfl⟩ : ∃ m, z20 = cvs m := ⟨_, hc8⟩
  simp only [Int.toNat_natCast, dcvs_cvs, dits_its]
  exact rqcheck_ok ⟨z9, z10, z11, ⟨z13, z14, z15⟩, z16, z17, z18, z19, z20⟩
end Dm
namespace Dm
open Go Go.Proofs Go.IntWalk
structure Py where
  id : Nat
  hash : Nat
  chan : Nat
  n : Nat
  state : Int
deriving DecidableEq, Inhabited
@[go_sem] def Py.enc (e : Py) : List C := [.int .u64 (e.id : Int), .int .u64 (e.hash : Int), .int .u64 (e.chan : Int), .int .u64 (e.n : Int), .int .i64 e.state]
def Py.dec : List C → Py
  | [.int .u64 z109, .int .u64 z110, .int .u64 z111, .int .u64 z112, .int .i64 z113] => (⟨z109.toNat, z110.toNat, z111.toNat, z112.toNat, z113⟩ : Py)
  | _ => default
def pys (l : List Py) : List (List C) := l.map Py.enc
def dpys (l : List (List C)) : List Py := l.map Py.dec
@[simp, go_sem] theorem pys_length (l : List Py) : (pys l).length = l.length := by simp [pys]
@[go_sem] theorem pys_get (l : List Py) (i : Nat) : (pys l).getD i [.int .u64 0, .int .u64 0, .int .u64 0, .int .u64 0, .int .i64 0] = (l.getD i default).enc := by
  simp only [pys, List.getD_eq_getElem?_getD, List.getElem?_map]
  cases l[i]? <;> rfl
@[go_sem] theorem pys_wide (l : List Py) : Wide 5 (pys l) = True := by
  simp [Wide, pys, Py.enc]
theorem Py.dec_enc (e : Py) : Py.dec e.enc = e := by
  simp [Py.enc, Py.dec]
@[go_sem] theorem dpys_pys (l : List Py) : dpys (pys l) = l := by
  simp only [dpys, pys, List.map_map]
  exact List.map_id'' (fun e => Py.dec_enc e) l
@[go_sem] theorem pys_app (a b : List Py) : pys a ++ pys b = pys (a ++ b) := by simp [pys]
@[go_sem] theorem pys_drop (l : List Py) (k : Nat) : (pys l).drop k = pys (l.drop k) := by simp [pys]
@[go_sem] theorem pys_take (l : List Py) (k : Nat) : (pys l).take k = pys (l.take k) := by simp [pys]
@[go_sem] theorem pys_one (z114 : Int) (z115 : Int) (z116 : Int) (z117 : Int) (z118 : Int) (hz114 : 0 ≤ z114) (hz115 : 0 ≤ z115) (hz116 : 0 ≤ z116) (hz117 : 0 ≤ z117) : [[C.int .u64 z114, C.int .u64 z115, C.int .u64 z116, C.int .u64 z117, C.int .i64 z118]] = pys [⟨z114.toNat, z115.toNat, z116.toNat, z117.toNat, z118⟩] := by simp [pys, Py.enc, Int.toNat_of_nonneg hz114, Int.toNat_of_nonneg hz115, Int.toNat_of_nonneg hz116, Int.toNat_of_nonneg hz117]
@[go_sem] theorem pys_set (l : List Py) (i : Nat) (z114 : Int) (z115 : Int) (z116 : Int) (z117 : Int) (z118 : Int) (hz114 : 0 ≤ z114) (hz115 : 0 ≤ z115) (hz116 : 0 ≤ z116) (hz117 : 0 ≤ z117) : (pys l).set i [C.int .u64 z114, C.int .u64 z115, C.int .u64 z116, C.int .u64 z117, C.int .i64 z118] = pys (l.set i ⟨z114.toNat, z115.toNat, z116.toNat, z117.toNat, z118⟩) := by simp [pys, List.map_set, Py.enc, Int.toNat_of_nonneg hz114, Int.toNat_of_nonneg hz115, Int.toNat_of_nonneg hz116, Int.toNat_of_nonneg hz117]
@[go_sem] theorem pys_cons (l : List Py) (z114 : Int) (z115 : Int) (z116 : Int) (z117 : Int) (z118 : Int) (hz114 : 0 ≤ z114) (hz115 : 0 ≤ z115) (hz116 : 0 ≤ z116) (hz117 : 0 ≤ z117) : [C.int .u64 z114, C.int .u64 z115, C.int .u64 z116, C.int .u64 z117, C.int .i64 z118] :: pys l = pys (⟨z114.toNat, z115.toNat, z116.toNat, z117.toNat, z118⟩ :: l) := by simp [pys, Py.enc, Int.toNat_of_nonneg hz114, Int.toNat_of_nonneg hz115, Int.toNat_of_nonneg hz116, Int.toNat_of_nonneg hz117]
@[go_sem] theorem pys_flat (l : List Py) : flatE (pys l) = True := eq_true fun x hx c hc => by
  obtain ⟨e, _, rfl⟩ := List.mem_map.1 hx
  simp only [Py.enc, List.mem_cons, List.not_mem_nil, or_false] at hc
  rcases hc with rfl | rfl | rfl | rfl | rfl <;> rfl
@[go_sem] theorem Py.eta {e : Py} : (⟨e.id, e.hash, e.chan, e.n, e.state⟩ : Py) = e := rfl
@[go_sem] theorem Py.eqD {a b : Py} : eqD Tryz.prog 192 [D.c (.int .u64 (a.id : Int)), D.c (.int .u64 (a.hash : Int)), D.c (.int .u64 (a.chan : Int)), D.c (.int .u64 (a.n : Int)), D.c (.int .i64 a.state)] [D.c (.int .u64 (b.id : Int)), D.c (.int .u64 (b.hash : Int)), D.c (.int .u64 (b.chan : Int)), D.c (.int .u64 (b.n : Int)), D.c (.int .i64 b.state)] = some (decide (a = b)) := by
  cases a; cases b
  simp only [Dm.eqD, eqOf_192, eqCells, eqC, List.getElem?_cons_zero, List.getElem?_cons_succ, if_true, Option.some.injEq, Py.mk.injEq]
  rw [Bool.eq_iff_iff]
  simp [Int.ofNat_inj]
def okPy1 (x : Py) : Prop := (x.n ≠ 0 ∧ x.n ≤ MM) ∧ 1 ≤ x.state ∧ x.state ≤ 3
instance (x : Py) : Decidable (okPy1 x) := by unfold okPy1; infer_instance
def okPy (l : List Py) : Prop := l.length ≤ 256 ∧ (∀ x ∈ l, okPy1 x) ∧ Srt.Chn Py.id ltN l
instance (l : List Py) : Decidable (Srt.Chn Py.id ltN l) := by unfold Srt.Chn; infer_instance
instance (l : List Py) : Decidable (okPy l) := by unfold okPy; infer_instance
def chkP (l : List Py) : Int := if okPy l then 0 else 1
@[go_sem] def porder_r (x : Py) (id : Nat) : D := .int .i64 (cmpS x.id id)
@[go_sem] abbrev n_porder : FuncId := 252
@[go_sem] def porder_T : Tab := [(225, sp_cmp)]
theorem porder_T_ok : TabOk Tryz.prog porder_T := (TabOk.cons sp_cmp_ok TabOk.nil)
set_option maxRecDepth 8000 in
set_option maxHeartbeats 1000000 in
theorem porder_ok (x : Py) (id : Nat)  : PureFn Tryz.prog 252 [.agg [.c (.int .u64 (x.id : Int)), .c (.int .u64 (x.hash : Int)), .c (.int .u64 (x.chan : Int)), .c (.int .u64 (x.n : Int)), .c (.int .i64 x.state)], .c (.int .u64 (id : Int))] (porder_r x id) := by
  refine .of (ac252 porder_T_ok (Nat.le_of_ble_eq_true rfl) ?_)
  simp -implicitDefEqProofs only [cdA, go_sem, Go.Proofs.Tryz.f252, reduceIte, reduceCtorEq, Nat.reduceEqDiff, Nat.reduceAdd, Nat.reduceLeDiff, Nat.reduceSub, Nat.reduceMul, Nat.reduceLT, Nat.reduceShiftRight, Nat.reduceMod, Int.reduceLE, Int.reduceLT, Int.reduceToNat, List.cons.injEq, cdB]
def sp_porder : List D → Option (Prop × D × Fr)
  | [.agg [.c (.int .u64 z120), .c (.int .u64 z121), .c (.int .u64 z122), .c (.int .u64 z123), .c (.int .i64 z124)], .c (.int .u64 z125)] => some (z120 = (z120.toNat : Int) ∧ z121 = (z121.toNat : Int) ∧ z122 = (z122.toNat : Int) ∧ z123 = (z123.toNat : Int) ∧ z125 = (z125.toNat : Int), porder_r (⟨z120.toNat, z121.toNat, z122.toNat, z123.toNat, z124⟩ : Py) z125.toNat, [])
  | _ => none
attribute [go_sem] sp_porder
theorem sp_porder_ok : ∀ rs p r fr, sp_porder rs = some (p, r, fr) → p → FnOk Tryz.prog 252 rs r fr := by
  intro rs p r fr h hp
  unfold sp_porder at h
  split at h <;> cases h
  obtain ⟨hc0, hc1, hc2, hc3, hc4⟩ := hp
  rename_i z120 z121 z122 z123 z124 z125
  obtain ⟨z120, rfl⟩ : ∃ m : Nat, z120 = m := ⟨_, hc0⟩
  obtain ⟨z121, rfl⟩ : ∃ m : Nat, z121 = m := ⟨_, hc1⟩
  obtain ⟨z122, rfl⟩ : ∃ m : Nat, z122 = m := ⟨_, hc2⟩
  obtain ⟨z123, rfl⟩ : ∃ m : Nat, z123 = m := ⟨_, hc3⟩
  obtain ⟨z125, rfl⟩ : ∃ m : Nat, z125 = m := ⟨_, hc4⟩
  simp only [Int.toNat_natCast]
  exact porder_ok ⟨z120, z121, z122, z123, z124⟩ z125
@[go_sem] def pmay_r (p : Py) : D := .bool (decide (okPy1 p))
@[go_sem] abbrev n_pmay : FuncId := 251
@[go_sem] def pmay_T : Tab := [(122, sp_moncheck)]
theorem pmay_T_ok : TabOk Tryz.prog pmay_T := (TabOk.cons sp_moncheck_ok TabOk.nil)
set_option maxRecDepth 8000 in
set_option maxHeartbeats 1000000 in
theorem pmay_ok (p : Py)  : PureFn Tryz.prog 251 [.agg [.c (.int .u64 (p.id : Int)), .c (.int .u64 (p.hash : Int)), .c (.int .u64 (p.chan : Int)), .c (.int .u64 (p.n : Int)), .c (.int .i64 p.state)]] (pmay_r p) := by
  refine .of (ac251 pmay_T_ok (Nat.le_of_ble_eq_true rfl) ?_)
  simp -implicitDefEqProofs only [cdA, go_sem, Go.Proofs.Tryz.f251, reduceIte, reduceCtorEq, Nat.reduceEqDiff, Nat.reduceAdd, Nat.reduceLeDiff, Nat.reduceSub, Nat.reduceMul, Nat.reduceLT, Nat.reduceShiftRight, Nat.reduceMod, Int.reduceLE, Int.reduceLT, Int.reduceToNat, List.cons.injEq, cdB]
  have hm : monS [p.n] = 0 ↔ p.n ≤ MM := mon1_0
  rw [hm]
  have ho : okPy1 p ↔ (p.n ≠ 0 ∧ p.n ≤ MM) ∧ 1 ≤ p.state ∧ p.state ≤ 3 := .rfl
  rw [show decide (okPy1 p) = decide ((p.n ≠ 0 ∧ p.n ≤ MM) ∧ 1 ≤ p.state ∧ p.state ≤ 3) from decide_eq_decide.2 ho]
  refine ⟨fun h => ⟨fun h2 => ⟨fun h3 => ?_, fun h3 => ?_⟩, fun h2 => ?_⟩, fun h => ?_⟩
  · rw [decide_eq_decide]; exact ⟨fun h4 => ⟨⟨by omega, h2⟩, h3, h4⟩, fun h4 => h4.2.2⟩
  · exact (decide_eq_false fun h4 => h3 h4.2.1).symm
  · exact (decide_eq_false fun h4 => h2 h4.1.2).symm
  · exact (decide_eq_false fun h4 => h4.1.1 (by omega)).symm
def sp_pmay : List D → Option (Prop × D × Fr)
  | [.agg [.c (.int .u64 z127), .c (.int .u64 z128), .c (.int .u64 z129), .c (.int .u64 z130), .c (.int .i64 z131)]] => some (z127 = (z127.toNat : Int) ∧ z128 = (z128.toNat : Int) ∧ z129 = (z129.toNat : Int) ∧ z130 = (z130.toNat : Int), pmay_r (⟨z127.toNat, z128.toNat, z129.toNat, z130.toNat, z131⟩ : Py), [])
  | _ => none
attribute [go_sem] sp_pmay
theorem sp_pmay_ok : ∀ rs p r fr, sp_pmay rs = some (p, r, fr) → p → FnOk Tryz.prog 251 rs r fr := by
  intro rs p r fr h hp
  unfold sp_pmay at h
  split at h <;> cases h
  obtain ⟨hc0, hc1, hc2, hc3⟩ := hp
  rename_i z127 z128 z129 z130 z131
  obtain ⟨z127, rfl⟩ : ∃ m : Nat, z127 = m := ⟨_, hc0⟩
  obtain ⟨z128, rfl⟩ : ∃ m : Nat, z128 = m := ⟨_, hc1⟩
  obtain ⟨z129, rfl⟩ : ∃ m : Nat, z129 = m := ⟨_, hc2⟩
  obtain ⟨z130, rfl⟩ : ∃ m : Nat, z130 = m := ⟨_, hc3⟩
  simp only [Int.toNat_natCast]
  exact pmay_ok ⟨z127, z128, z129, z130, z131⟩
@[go_sem] def pcheck_r (l : List Py) : D := .int .i64 (chkP l)
@[go_sem] abbrev n_pcheck : FuncId := 224
@[go_sem] def pcheck_T : Tab := [(251, sp_pmay), (252, sp_porder)]
theorem pcheck_T_ok : TabOk Tryz.prog pcheck_T := (TabOk.cons sp_pmay_ok (TabOk.cons sp_porder_ok TabOk.nil))
set_option maxRecDepth 8000 in
set_option maxHeartbeats 1000000 in
theorem pcheck_ok (l : List Py)  : PureFn Tryz.prog 224 [.sl (pys l)] (pcheck_r l) := by
  refine .of (ac224 pcheck_T_ok (Nat.le_of_ble_eq_true rfl) ?_)
  simp -implicitDefEqProofs only [cdA, go_sem, Go.Proofs.Tryz.f224, reduceIte, reduceCtorEq, Nat.reduceEqDiff, Nat.reduceAdd, Nat.reduceLeDiff, Nat.reduceSub, Nat.reduceMul, Nat.reduceLT, Nat.reduceShiftRight, Nat.reduceMod, Int.reduceLE, Int.reduceLT, Int.reduceToNat, List.cons.injEq, cdB]
  have hbad : ¬ okPy l → 1 = chkP l := fun h => by rw [chkP, if_neg h]
  refine fun _ => ⟨fun h => hbad fun ho => ?_, fun h _ => ?_⟩
  · have := ho.1; omega
  refine SWp.loop (ι := { i : Nat // i ≤ l.length ∧ (∀ j, j < i → okPy1 (l.getD j default) ∧ (0 < j → (l.getD (j - 1) default).id < (l.getD j default).id)) }) (fun i => ⟨[(0, .sl (pys l)), (8, .sl (pys l)), (9, .int .i64 l.length), (10, .int .i64 i.1)], [], 0⟩) (fun i => l.length - i.1) ⟨0, by simp⟩ ?_ ?_
  · simp [go_sem]
  · rintro ⟨i, hi, hall⟩
    refine awp_sound pcheck_T_ok.toS lv224 _ _ _ rfl ?_
    simp -implicitDefEqProofs only [cdA, go_sem, reduceIte, reduceCtorEq, Nat.reduceEqDiff, Nat.reduceAdd, Nat.reduceLeDiff, Nat.reduceSub, Nat.reduceMul, Nat.reduceLT, Nat.reduceShiftRight, Nat.reduceMod, Int.reduceLE, Int.reduceLT, Int.reduceToNat, List.cons.injEq, cdB]
    refine ⟨fun h1 => ⟨by omega, ?_⟩, fun h1 => ?_⟩
    · refine ADraw.run us224_6 pcheck_T_ok follows_mixed (by kernel_rfl) (by kernel_rfl) ?_
      simp -implicitDefEqProofs only [cdA, go_sem, reduceIte, reduceCtorEq, Nat.reduceEqDiff, Nat.reduceAdd, Nat.reduceLeDiff, Nat.reduceSub, Nat.reduceMul, Nat.reduceLT, Nat.reduceShiftRight, Nat.reduceMod, Int.reduceLE, Int.reduceLT, Int.reduceToNat, List.cons.injEq, cdB]
      have hi' : i < l.length := by omega
      have hm : okPy l → okPy1 (l.getD i default) := fun h => h.2.1 _ (mem_getD.2 ⟨i, hi', rfl⟩)
      refine ⟨fun h2 => ?_, fun h2 => hbad fun h => h2 (hm h)⟩
      have hnext : (0 < i → (l.getD (i - 1) default).id < (l.getD i default).id) → ∃ i_1 : { i : Nat // i ≤ l.length ∧ (∀ j, j < i → okPy1 (l.getD j default) ∧ (0 < j → (l.getD (j - 1) default).id < (l.getD j default).id)) }, l.length - i_1.val < l.length - i ∧ IntKind.i64.wrap ((i : Int) + 1) = i_1.val := fun ho => by
        refine ⟨⟨i + 1, hi', fun j hj => ?_⟩, by dsimp only; omega, i64_in _ (by omega)⟩
        by_cases hji : j = i
        · subst hji; exact ⟨h2, ho⟩
        · exact hall j (by omega)
      refine ⟨fun h3 => ?_, fun h3 => hnext fun h => absurd h (by omega)⟩
      rw [i64_in _ (by omega), show ((i : Int) - 1).toNat = i - 1 by omega]
      have hc : ∀ a b : Nat, 0 ≤ cmpS a b ↔ ¬ a < b := fun a b => by
        have := cmpS_neg (x := a) (y := b); omega
      rw [hc]
      exact ⟨by omega, fun h4 => hbad fun h => h4 (h.2.2 i hi' (by omega)), fun h4 => hnext fun _ => by omega⟩
    · have hi' : i = l.length := by omega
      subst hi'
      rw [chkP, if_pos]
      exact ⟨by omega, fun x hx => by obtain ⟨j, hj, rfl⟩ := mem_getD.1 hx; exact (hall j hj).1, fun j hj h0 => (hall j hj).2 h0⟩
def sp_pcheck : List D → Option (Prop × D × Fr)
  | [.c (.sl z132)] => some (z132 = pys (dpys z132), pcheck_r (dpys z132), [])
  | _ => none
attribute [go_sem] sp_pcheck
theorem sp_pcheck_ok : ∀ rs p r fr, sp_pcheck rs = some (p, r, fr) → p → FnOk Tryz.prog 224 rs r fr := by
  intro rs p r fr h hp
  unfold sp_pcheck at h
  split at h <;> cases h
  have hc0 := hp
  rename_i z132
  obtain ⟨z132, rfl⟩ : ∃ m, z132 = pys m := ⟨_, hc0⟩
  simp only [dpys_pys]
  exact pcheck_ok z132
end Dm
