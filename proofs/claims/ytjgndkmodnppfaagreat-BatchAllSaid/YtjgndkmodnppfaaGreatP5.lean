import Derived.Test.YtjgndkmodnppfaaGreatP4
import Derived.Shelf.Abstract
set_option linter.unusedSimpArgs false
set_option linter.unusedVariables false
set_option linter.unusedSectionVars false
namespace Dm
open Go Go.Proofs Go.IntWalk
structure Hd where
  id : Nat
  n : Nat
deriving DecidableEq, Inhabited
@[go_sem] def Hd.enc (e : Hd) : List C := [.int .u64 (e.id : Int), .int .u64 (e.n : Int)]
def Hd.dec : List C → Hd
  | [.int .u64 z11, .int .u64 z12] => (⟨z11.toNat, z12.toNat⟩ : Hd)
  | _ => default
def hds (l : List Hd) : List (List C) := l.map Hd.enc
def dhds (l : List (List C)) : List Hd := l.map Hd.dec
@[simp, go_sem] theorem hds_length (l : List Hd) : (hds l).length = l.length := by simp [hds]
@[go_sem] theorem hds_get (l : List Hd) (i : Nat) : (hds l).getD i [.int .u64 0, .int .u64 0] = (l.getD i default).enc := by
  simp only [hds, List.getD_eq_getElem?_getD, List.getElem?_map]
  cases l[i]? <;> rfl
@[go_sem] theorem hds_wide (l : List Hd) : Wide 2 (hds l) = True := by
  simp [Wide, hds, Hd.enc]
theorem Hd.dec_enc (e : Hd) : Hd.dec e.enc = e := by
  simp [Hd.enc, Hd.dec]
@[go_sem] theorem dhds_hds (l : List Hd) : dhds (hds l) = l := by
  simp only [dhds, hds, List.map_map]
  exact List.map_id'' (fun e => Hd.dec_enc e) l
@[go_sem] theorem hds_app (a b : List Hd) : hds a ++ hds b = hds (a ++ b) := by simp [hds]
@[go_sem] theorem hds_drop (l : List Hd) (k : Nat) : (hds l).drop k = hds (l.drop k) := by simp [hds]
@[go_sem] theorem hds_take (l : List Hd) (k : Nat) : (hds l).take k = hds (l.take k) := by simp [hds]
@[go_sem] theorem hds_one (z13 : Int) (z14 : Int) (hz13 : 0 ≤ z13) (hz14 : 0 ≤ z14) : [[C.int .u64 z13, C.int .u64 z14]] = hds [⟨z13.toNat, z14.toNat⟩] := by simp [hds, Hd.enc, Int.toNat_of_nonneg hz13, Int.toNat_of_nonneg hz14]
@[go_sem] theorem hds_set (l : List Hd) (i : Nat) (z13 : Int) (z14 : Int) (hz13 : 0 ≤ z13) (hz14 : 0 ≤ z14) : (hds l).set i [C.int .u64 z13, C.int .u64 z14] = hds (l.set i ⟨z13.toNat, z14.toNat⟩) := by simp [hds, List.map_set, Hd.enc, Int.toNat_of_nonneg hz13, Int.toNat_of_nonneg hz14]
@[go_sem] theorem hds_cons (l : List Hd) (z13 : Int) (z14 : Int) (hz13 : 0 ≤ z13) (hz14 : 0 ≤ z14) : [C.int .u64 z13, C.int .u64 z14] :: hds l = hds (⟨z13.toNat, z14.toNat⟩ :: l) := by simp [hds, Hd.enc, Int.toNat_of_nonneg hz13, Int.toNat_of_nonneg hz14]
@[go_sem] theorem hds_flat (l : List Hd) : flatE (hds l) = True := eq_true fun x hx c hc => by
  obtain ⟨e, _, rfl⟩ := List.mem_map.1 hx
  simp only [Hd.enc, List.mem_cons, List.not_mem_nil, or_false] at hc
  rcases hc with rfl | rfl <;> rfl
@[go_sem] theorem Hd.eta {e : Hd} : (⟨e.id, e.n⟩ : Hd) = e := rfl
structure Ch where
  id : Nat
  loc : Nat
  rem : Nat
  res : Nat
  most : Nat
  holds : List Hd
  op : Bool
deriving DecidableEq, Inhabited
@[go_sem] def Ch.enc (e : Ch) : List C := [.int .u64 (e.id : Int), .int .u64 (e.loc : Int), .int .u64 (e.rem : Int), .int .u64 (e.res : Int), .int .u64 (e.most : Int), .sl (hds e.holds), .bool e.op]
def Ch.dec : List C → Ch
  | [.int .u64 z16, .int .u64 z17, .int .u64 z18, .int .u64 z19, .int .u64 z20, .sl z21, .bool z22] => (⟨z16.toNat, z17.toNat, z18.toNat, z19.toNat, z20.toNat, (dhds z21), z22⟩ : Ch)
  | _ => default
def chs (l : List Ch) : List (List C) := l.map Ch.enc
def dchs (l : List (List C)) : List Ch := l.map Ch.dec
@[simp, go_sem] theorem chs_length (l : List Ch) : (chs l).length = l.length := by simp [chs]
@[go_sem] theorem chs_get (l : List Ch) (i : Nat) : (chs l).getD i [.int .u64 0, .int .u64 0, .int .u64 0, .int .u64 0, .int .u64 0, .sl [], .bool false] = (l.getD i default).enc := by
  simp only [chs, List.getD_eq_getElem?_getD, List.getElem?_map]
  cases l[i]? <;> rfl
@[go_sem] theorem chs_wide (l : List Ch) : Wide 7 (chs l) = True := by
  simp [Wide, chs, Ch.enc]
theorem Ch.dec_enc (e : Ch) : Ch.dec e.enc = e := by
  simp [Ch.enc, Ch.dec, dhds_hds]
@[go_sem] theorem dchs_chs (l : List Ch) : dchs (chs l) = l := by
  simp only [dchs, chs, List.map_map]
  exact List.map_id'' (fun e => Ch.dec_enc e) l
@[go_sem] theorem chs_app (a b : List Ch) : chs a ++ chs b = chs (a ++ b) := by simp [chs]
@[go_sem] theorem chs_drop (l : List Ch) (k : Nat) : (chs l).drop k = chs (l.drop k) := by simp [chs]
@[go_sem] theorem chs_take (l : List Ch) (k : Nat) : (chs l).take k = chs (l.take k) := by simp [chs]
@[go_sem] theorem chs_one (z23 : Int) (z24 : Int) (z25 : Int) (z26 : Int) (z27 : Int) (z28 : List Hd) (z29 : Bool) (hz23 : 0 ≤ z23) (hz24 : 0 ≤ z24) (hz25 : 0 ≤ z25) (hz26 : 0 ≤ z26) (hz27 : 0 ≤ z27) : [[C.int .u64 z23, C.int .u64 z24, C.int .u64 z25, C.int .u64 z26, C.int .u64 z27, C.sl (hds z28), C.bool z29]] = chs [⟨z23.toNat, z24.toNat, z25.toNat, z26.toNat, z27.toNat, z28, z29⟩] := by simp [chs, Ch.enc, Int.toNat_of_nonneg hz23, Int.toNat_of_nonneg hz24, Int.toNat_of_nonneg hz25, Int.toNat_of_nonneg hz26, Int.toNat_of_nonneg hz27]
@[go_sem] theorem chs_set (l : List Ch) (i : Nat) (z23 : Int) (z24 : Int) (z25 : Int) (z26 : Int) (z27 : Int) (z28 : List Hd) (z29 : Bool) (hz23 : 0 ≤ z23) (hz24 : 0 ≤ z24) (hz25 : 0 ≤ z25) (hz26 : 0 ≤ z26) (hz27 : 0 ≤ z27) : (chs l).set i [C.int .u64 z23, C.int .u64 z24, C.int .u64 z25, C.int .u64 z26, C.int .u64 z27, C.sl (hds z28), C.bool z29] = chs (l.set i ⟨z23.toNat, z24.toNat, z25.toNat, z26.toNat, z27.toNat, z28, z29⟩) := by simp [chs, List.map_set, Ch.enc, Int.toNat_of_nonneg hz23, Int.toNat_of_nonneg hz24, Int.toNat_of_nonneg hz25, Int.toNat_of_nonneg hz26, Int.toNat_of_nonneg hz27]
@[go_sem] theorem chs_cons (l : List Ch) (z23 : Int) (z24 : Int) (z25 : Int) (z26 : Int) (z27 : Int) (z28 : List Hd) (z29 : Bool) (hz23 : 0 ≤ z23) (hz24 : 0 ≤ z24) (hz25 : 0 ≤ z25) (hz26 : 0 ≤ z26) (hz27 : 0 ≤ z27) : [C.int .u64 z23, C.int .u64 z24, C.int .u64 z25, C.int .u64 z26, C.int .u64 z27, C.sl (hds z28), C.bool z29] :: chs l = chs (⟨z23.toNat, z24.toNat, z25.toNat, z26.toNat, z27.toNat, z28, z29⟩ :: l) := by simp [chs, Ch.enc, Int.toNat_of_nonneg hz23, Int.toNat_of_nonneg hz24, Int.toNat_of_nonneg hz25, Int.toNat_of_nonneg hz26, Int.toNat_of_nonneg hz27]
@[go_sem] theorem Ch.eta {e : Ch} : (⟨e.id, e.loc, e.rem, e.res, e.most, e.holds, e.op⟩ : Ch) = e := rfl
def Hd.key (h : Hd) : Nat := h.id
def held (l : List Hd) : Nat := (l.map Hd.n).sum
abbrev ltN (a b : Nat) : Prop := a < b
abbrev MM : Nat := 4611686018427387904
def okCh (c : Ch) : Prop := c.res ≤ MM ∧ c.most ≤ MM ∧ c.holds.length ≤ 64 ∧ (c.op = false → c.holds = []) ∧ (∀ h ∈ c.holds, h.n ≠ 0) ∧ Srt.Chn Hd.key ltN c.holds ∧ held c.holds ≤ c.most ∧ c.loc ≤ MM ∧ c.rem ≤ MM ∧ held c.holds + c.loc + c.rem ≤ MM
instance (l : List Hd) : Decidable (Srt.Chn Hd.key ltN l) := by unfold Srt.Chn; infer_instance
instance (c : Ch) : Decidable (okCh c) := by unfold okCh; infer_instance
def sumsC (c : Ch) : Nat × Nat × Int := if okCh c then (held c.holds, held c.holds + c.loc + c.rem, 0) else (0, 0, 1)
@[go_sem] def horder_r (h : Hd) (id : Nat) : D := .int .i64 (cmpS h.id id)
@[go_sem] abbrev n_horder : FuncId := 138
@[go_sem] def horder_T : Tab := [(133, sp_cmp)]
theorem horder_T_ok : TabOk Tryz.prog horder_T := (TabOk.cons sp_cmp_ok TabOk.nil)
set_option maxRecDepth 8000 in
set_option maxHeartbeats 1000000 in
theorem horder_ok (h : Hd) (id : Nat)  : PureFn Tryz.prog 138 [.agg [.c (.int .u64 (h.id : Int)), .c (.int .u64 (h.n : Int))], .c (.int .u64 (id : Int))] (horder_r h id) := by
  refine .of (ac138 horder_T_ok (Nat.le_of_ble_eq_true rfl) ?_)
  simp -implicitDefEqProofs only [cd_t, cd_f, cd_dec, cd_not, cd_and, cd_or, grd_tt, grd_ff, grd_tf, grd_ft, grd_dt, grd_df, grd_nt, grd_nf, go_sem, Go.Proofs.Tryz.f138, reduceIte, reduceCtorEq, Nat.reduceEqDiff, Nat.reduceAdd, Nat.reduceLeDiff, Nat.reduceSub, Nat.reduceMul, Nat.reduceLT, Nat.reduceShiftRight, Nat.reduceMod, Int.reduceLE, Int.reduceLT, Int.reduceToNat, decide_true, Bool.and_self, Bool.true_and, Ob.map.injEq, Ob.it.injEq, List.cons.injEq, true_and, and_true]
def sp_horder : List D → Option (Prop × D × Fr)
  | [.agg [.c (.int .u64 z31), .c (.int .u64 z32)], .c (.int .u64 z33)] => some (z31 = (z31.toNat : Int) ∧ z32 = (z32.toNat : Int) ∧ z33 = (z33.toNat : Int), horder_r (⟨z31.toNat, z32.toNat⟩ : Hd) z33.toNat, [])
  | _ => none
attribute [go_sem] sp_horder
theorem sp_horder_ok : ∀ rs p r fr, sp_horder rs = some (p, r, fr) → p → FnOk Tryz.prog 138 rs r fr := by
  intro rs p r fr h hp
  unfold sp_horder at h
  split at h <;> cases h
  obtain ⟨hc0, hc1, hc2⟩ := hp
  rename_i z31 z32 z33
  obtain ⟨z31, rfl⟩ : ∃ m : Nat, z31 = m := ⟨_, hc0⟩
  obtain ⟨z32, rfl⟩ : ∃ m : Nat, z32 = m := ⟨_, hc1⟩
  obtain ⟨z33, rfl⟩ : ∃ m : Nat, z33 = m := ⟨_, hc2⟩
  simp only [Int.toNat_natCast]
  exact horder_ok ⟨z31, z32⟩ z33
@[go_sem] def csums_r (c : Ch) : D := .tup [.int .u64 ((sumsC c).1 : Int), .int .u64 ((sumsC c).2.1 : Int), .int .i64 (sumsC c).2.2]
@[go_sem] abbrev n_csums : FuncId := 88
@[go_sem] def csums_T : Tab := [(29, sp_moncheck), (31, sp_monadd), (138, sp_horder)]
theorem csums_T_ok : TabOk Tryz.prog csums_T := (TabOk.cons sp_moncheck_ok (TabOk.cons sp_monadd_ok (TabOk.cons sp_horder_ok TabOk.nil)))
set_option maxRecDepth 8000 in
set_option maxHeartbeats 1000000 in
theorem csums_ok (c : Ch)  : PureFn Tryz.prog 88 [.agg [.c (.int .u64 (c.id : Int)), .c (.int .u64 (c.loc : Int)), .c (.int .u64 (c.rem : Int)), .c (.int .u64 (c.res : Int)), .c (.int .u64 (c.most : Int)), .sl (hds c.holds), .c (.bool c.op)]] (csums_r c) := by
  refine .of (ac88 csums_T_ok (Nat.le_of_ble_eq_true rfl) ?_)
  simp -implicitDefEqProofs only [cd_t, cd_f, cd_dec, cd_not, cd_and, cd_or, grd_tt, grd_ff, grd_tf, grd_ft, grd_dt, grd_df, grd_nt, grd_nf, go_sem, Go.Proofs.Tryz.f88, reduceIte, reduceCtorEq, Nat.reduceEqDiff, Nat.reduceAdd, Nat.reduceLeDiff, Nat.reduceSub, Nat.reduceMul, Nat.reduceLT, Nat.reduceShiftRight, Nat.reduceMod, Int.reduceLE, Int.reduceLT, Int.reduceToNat, decide_true, Bool.and_self, Bool.true_and, Ob.map.injEq, Ob.it.injEq, List.cons.injEq, true_and, and_true]
  have hbad : ¬ okCh c → 0 = ((sumsC c).1 : Int) ∧ 0 = ((sumsC c).2.1 : Int) ∧ 1 = (sumsC c).2.2 := fun h => by simp [sumsC, if_neg h]
  have hmon : monS [c.res, c.most] = 0 ↔ c.res ≤ MM ∧ c.most ≤ MM := by rw [mon2]; split <;> simp_all
  rw [hmon]
  refine ⟨fun h1 hl => ⟨fun h2 => ⟨fun h3 _ => ⟨fun h4 => hbad fun h => ?_, fun h4 _ => ?_⟩, fun h3 _ => ?_⟩, fun h2 => hbad fun h => ?_⟩, fun h1 => hbad fun h => h1 ⟨h.1, h.2.1⟩⟩
  · have := h.2.2.2.1 (by simpa using h3)
    rw [this] at h4; simp at h4
  rotate_left 2
  · have := h.2.2.1; omega
  all_goals
    have hop : c.op = false → c.holds = [] := fun h => by first | (rw [h] at h3; cases h3; done) | exact List.eq_nil_of_length_eq_zero (by omega)
    refine SWp.loop (ι := { i : Nat // i ≤ c.holds.length ∧ held (c.holds.take i) ≤ c.most ∧ (∀ j, j < i → (c.holds.getD j default).n ≠ 0 ∧ (0 < j → (c.holds.getD (j - 1) default).id < (c.holds.getD j default).id)) }) (fun i => ⟨[(1, .ref 0 0), (2, .int .u64 (held (c.holds.take i.1) : Nat)), (32, .sl (hds c.holds)), (33, .int .i64 c.holds.length), (34, .int .i64 i.1)],
      [(0, .box [.int .u64 c.id, .int .u64 c.loc, .int .u64 c.rem, .int .u64 c.res, .int .u64 c.most, .sl (hds c.holds), .bool c.op])], 2⟩) (fun i => c.holds.length - i.1) ⟨0, by simp [held]⟩ ?_ ?_
    · simp [go_sem, held]
    · rintro ⟨i, hi, hs, hall⟩
      refine awp_sound csums_T_ok.toS lv88 _ _ _ rfl ?_
      simp -implicitDefEqProofs only [cd_t, cd_f, cd_dec, cd_not, cd_and, cd_or, grd_tt, grd_ff, grd_tf, grd_ft, grd_dt, grd_df, grd_nt, grd_nf, go_sem, reduceIte, reduceCtorEq, Nat.reduceEqDiff, Nat.reduceAdd, Nat.reduceLeDiff, Nat.reduceSub, Nat.reduceMul, Nat.reduceLT, Nat.reduceShiftRight, Nat.reduceMod, Int.reduceLE, Int.reduceLT, Int.reduceToNat, decide_true, Bool.and_self, Bool.true_and, Ob.map.injEq, Ob.it.injEq, List.cons.injEq, true_and, and_true]
      have hst : i < c.holds.length → held (c.holds.take (i + 1)) = held (c.holds.take i) + (c.holds.getD i default).n := fun h => by rw [take_succ h, held, List.map_append, List.sum_append]; simp [held]
      have hle : held (c.holds.take (i + 1)) ≤ held c.holds := by
        conv => rhs; rw [← List.take_append_drop (i + 1) c.holds, held, List.map_append, List.sum_append]
        exact Nat.le_add_right _ _
      refine ⟨fun h5 => ⟨by omega, ?_⟩, fun h5 => ?_⟩
      · refine ADraw.run us88_6 csums_T_ok follows_mixed (by kernel_rfl) (by kernel_rfl) ?_
        simp -implicitDefEqProofs only [cd_t, cd_f, cd_dec, cd_not, cd_and, cd_or, grd_tt, grd_ff, grd_tf, grd_ft, grd_dt, grd_df, grd_nt, grd_nf, go_sem, reduceIte, reduceCtorEq, Nat.reduceEqDiff, Nat.reduceAdd, Nat.reduceLeDiff, Nat.reduceSub, Nat.reduceMul, Nat.reduceLT, Nat.reduceShiftRight, Nat.reduceMod, Int.reduceLE, Int.reduceLT, Int.reduceToNat, decide_true, Bool.and_self, Bool.true_and, Ob.map.injEq, Ob.it.injEq, List.cons.injEq, true_and, and_true]
        have hi' : i < c.holds.length := by omega
        have hst := hst hi'
        have hnext : (0 < i → (c.holds.getD (i - 1) default).id < (c.holds.getD i default).id) → (c.holds.getD i default).n ≠ 0 →
            ((addM [held (c.holds.take i), (c.holds.getD i default).n]).2 = 0 →
              ((c.most : Int) < ((addM [held (c.holds.take i), (c.holds.getD i default).n]).1 : Int) → 0 = ((sumsC c).1 : Int) ∧ 0 = ((sumsC c).2.1 : Int) ∧ 1 = (sumsC c).2.2) ∧
              (¬ (c.most : Int) < ((addM [held (c.holds.take i), (c.holds.getD i default).n]).1 : Int) → ∃ i_1 : { i : Nat // i ≤ c.holds.length ∧ held (c.holds.take i) ≤ c.most ∧ (∀ j, j < i → (c.holds.getD j default).n ≠ 0 ∧ (0 < j → (c.holds.getD (j - 1) default).id < (c.holds.getD j default).id)) },
                c.holds.length - i_1.val < c.holds.length - i ∧ ((addM [held (c.holds.take i), (c.holds.getD i default).n]).1 : Int) = (held (c.holds.take i_1.val) : Nat) ∧ IntKind.i64.wrap ((i : Int) + 1) = i_1.val)) ∧
            (¬ (addM [held (c.holds.take i), (c.holds.getD i default).n]).2 = 0 → 0 = ((sumsC c).1 : Int) ∧ 0 = ((sumsC c).2.1 : Int) ∧ 1 = (sumsC c).2.2) := fun ho hn => by
          refine ⟨fun h6 => ?_, fun h6 => hbad fun h => h6 (addM_0.2 ?_)⟩
          · have h7 := addM_1 h6
            simp only [List.sum_cons, List.sum_nil, Nat.add_zero] at h7
            rw [h7]
            refine ⟨fun h8 => hbad fun h => ?_, fun h8 => ⟨⟨i + 1, hi', by omega, fun j hj => ?_⟩, by dsimp only; omega, by dsimp only; omega, i64_in _ (by omega)⟩⟩
            · have := h.2.2.2.2.2.2.1; omega
            · by_cases hji : j = i
              · subst hji; exact ⟨hn, ho⟩
              · exact hall j (by omega)
          · have := h.2.2.2.2.2.2.1
            have := h.2.1
            simp only [List.mem_cons, List.not_mem_nil, or_false, forall_eq_or_imp, forall_eq, List.sum_cons, List.sum_nil]
            unfold MM at *
            omega
        refine ⟨fun h6 => ⟨fun h7 => ?_, fun h7 => hnext (fun h => absurd h (by omega)) (by omega)⟩, fun h6 => hbad fun h => h.2.2.2.2.1 _ (mem_getD.2 ⟨i, hi', rfl⟩) (by omega)⟩
        rw [i64_in _ (by omega), show ((i : Int) - 1).toNat = i - 1 by omega]
        have hc : ∀ a b : Nat, 0 ≤ cmpS a b ↔ ¬ a < b := fun a b => by
          have := cmpS_neg (x := a) (y := b); omega
        rw [hc]
        refine ⟨by omega, fun h8 => hbad fun h => h8 (h.2.2.2.2.2.1 i hi' (by omega)), fun h8 => hnext (fun _ => by omega) (by omega)⟩
      · have hi' : i = c.holds.length := by omega
        subst hi'
        rw [List.take_length] at hs ⊢
        refine ⟨fun h6 => ?_, fun h6 => hbad fun h => h6 (addM_0.2 ?_)⟩
        · have h7 := addM_1 h6
          have h8 := addM_0.1 h6
          simp only [List.mem_cons, List.not_mem_nil, or_false, forall_eq_or_imp, forall_eq, List.sum_cons, List.sum_nil] at h7 h8
          have hok : okCh c := ⟨h1.1, h1.2, by omega, hop, fun x hx => by obtain ⟨j, hj, rfl⟩ := mem_getD.1 hx; exact (hall j hj).1, fun j hj h0 => (hall j hj).2 h0, hs, h8.1.2.1, h8.1.2.2, by unfold MM; omega⟩
          rw [sumsC, if_pos hok, h7]
          exact ⟨rfl, by dsimp only; omega, rfl⟩
        · have := h.2.2.2.2.2.2
          have := h.2.1
          simp only [List.mem_cons, List.not_mem_nil, or_false, forall_eq_or_imp, forall_eq, List.sum_cons, List.sum_nil]
          unfold MM at *
          omega
def sp_csums : List D → Option (Prop × D × Fr)
  | [.agg [.c (.int .u64 z35), .c (.int .u64 z36), .c (.int .u64 z37), .c (.int .u64 z38), .c (.int .u64 z39), .c (.sl z40), .c (.bool z41)]] => some (z35 = (z35.toNat : Int) ∧ z36 = (z36.toNat : Int) ∧ z37 = (z37.toNat : Int) ∧ z38 = (z38.toNat : Int) ∧ z39 = (z39.toNat : Int) ∧ z40 = hds (dhds z40), csums_r (⟨z35.toNat, z36.toNat, z37.toNat, z38.toNat, z39.toNat, (dhds z40), z41⟩ : Ch), [])
  | _ => none
attribute [go_sem] sp_csums
theorem sp_csums_ok : ∀ rs p r fr, sp_csums rs = some (p, r, fr) → p → FnOk Tryz.prog 88 rs r fr := by
  intro rs p r fr h hp
  unfold sp_csums at h
  split at h <;> cases h
  obtain ⟨hc0, hc1, hc2, hc3, hc4, hc5⟩ := hp
  rename_i z35 z36 z37 z38 z39 z40 z41
  obtain ⟨z35, rfl⟩ : ∃ m : Nat, z35 = m := ⟨_, hc0⟩
  obtain ⟨z36, rfl⟩ : ∃ m : Nat, z36 = m := ⟨_, hc1⟩
  obtain ⟨z37, rfl⟩ : ∃ m : Nat, z37 = m := ⟨_, hc2⟩
  obtain ⟨z38, rfl⟩ : ∃ m : Nat, z38 = m := ⟨_, hc3⟩
  obtain ⟨z39, rfl⟩ : ∃ m : Nat, z39 = m := ⟨_, hc4⟩
  obtain ⟨z40, rfl⟩ : ∃ m, z40 = hds m := ⟨_, hc5⟩
  simp only [Int.toNat_natCast, dhds_hds]
  exact csums_ok ⟨z35, z36, z37, z38, z39, z40, z41⟩
theorem sumsC_0 {c : Ch} : (sumsC c).2.2 = 0 ↔ okCh c := by unfold sumsC; split <;> simp_all
@[go_sem] def call_r (c : Ch) : D := .tup [.int .u64 ((sumsC c).2.1 : Int), .int .i64 (sumsC c).2.2]
@[go_sem] abbrev n_call : FuncId := 145
@[go_sem] def call_T : Tab := [(88, sp_csums)]
theorem call_T_ok : TabOk Tryz.prog call_T := (TabOk.cons sp_csums_ok TabOk.nil)
set_option maxRecDepth 8000 in
set_option maxHeartbeats 1000000 in
theorem call_ok (c : Ch)  : PureFn Tryz.prog 145 [.agg [.c (.int .u64 (c.id : Int)), .c (.int .u64 (c.loc : Int)), .c (.int .u64 (c.rem : Int)), .c (.int .u64 (c.res : Int)), .c (.int .u64 (c.most : Int)), .sl (hds c.holds), .c (.bool c.op)]] (call_r c) := by
  refine .of (ac145 call_T_ok (Nat.le_of_ble_eq_true rfl) ?_)
  simp -implicitDefEqProofs only [cd_t, cd_f, cd_dec, cd_not, cd_and, cd_or, grd_tt, grd_ff, grd_tf, grd_ft, grd_dt, grd_df, grd_nt, grd_nf, go_sem, Go.Proofs.Tryz.f145, reduceIte, reduceCtorEq, Nat.reduceEqDiff, Nat.reduceAdd, Nat.reduceLeDiff, Nat.reduceSub, Nat.reduceMul, Nat.reduceLT, Nat.reduceShiftRight, Nat.reduceMod, Int.reduceLE, Int.reduceLT, Int.reduceToNat, decide_true, Bool.and_self, Bool.true_and, Ob.map.injEq, Ob.it.injEq, List.cons.injEq, true_and, and_true]
def sp_call : List D → Option (Prop × D × Fr)
  | [.agg [.c (.int .u64 z43), .c (.int .u64 z44), .c (.int .u64 z45), .c (.int .u64 z46), .c (.int .u64 z47), .c (.sl z48), .c (.bool z49)]] => some (z43 = (z43.toNat : Int) ∧ z44 = (z44.toNat : Int) ∧ z45 = (z45.toNat : Int) ∧ z46 = (z46.toNat : Int) ∧ z47 = (z47.toNat : Int) ∧ z48 = hds (dhds z48), call_r (⟨z43.toNat, z44.toNat, z45.toNat, z46.toNat, z47.toNat, (dhds z48), z49⟩ : Ch), [])
  | _ => none
attribute [go_sem] sp_call
theorem sp_call_ok : ∀ rs p r fr, sp_call rs = some (p, r, fr) → p → FnOk Tryz.prog 145 rs r fr := by
  intro rs p r fr h hp
  unfold sp_call at h
  split at h <;> cases h
  obtain ⟨hc0, hc1, hc2, hc3, hc4, hc5⟩ := hp
  rename_i z43 z44 z45 z46 z47 z48 z49
  obtain ⟨z43, rfl⟩ : ∃ m : Nat, z43 = m := ⟨_, hc0⟩
  obtain ⟨z44, rfl⟩ : ∃ m : Nat, z44 = m := ⟨_, hc1⟩
  obtain ⟨z45, rfl⟩ : ∃ m : Nat, z45 = m := ⟨_, hc2⟩
  obtain ⟨z46, rfl⟩ : ∃ m : Nat, z46 = m := ⟨_, hc3⟩
  obtain ⟨z47, rfl⟩ : ∃ m : Nat, z47 = m := ⟨_, hc4⟩
  obtain ⟨z48, rfl⟩ : ∃ m, z48 = hds m := ⟨_, hc5⟩
  simp only [Int.toNat_natCast, dhds_hds]
  exact call_ok ⟨z43, z44, z45, z46, z47, z48, z49⟩
def roomC (c : Ch) : Nat × Int := if okCh c then (if c.op = true ∧ c.holds.length ≠ 64 ∧ c.res ≤ c.loc then (min (c.loc - c.res) (c.most - held c.holds), 0) else (0, 0)) else (0, 1)
@[go_sem] def croom_r (c : Ch) : D := .tup [.int .u64 ((roomC c).1 : Int), .int .i64 (roomC c).2]
@[go_sem] abbrev n_croom : FuncId := 125
@[go_sem] def croom_T : Tab := [(88, sp_csums), (170, sp_monsub)]
theorem croom_T_ok : TabOk Tryz.prog croom_T := (TabOk.cons sp_csums_ok (TabOk.cons sp_monsub_ok TabOk.nil))
set_option maxRecDepth 8000 in
set_option maxHeartbeats 1000000 in
theorem croom_ok (c : Ch)  : PureFn Tryz.prog 125 [.agg [.c (.int .u64 (c.id : Int)), .c (.int .u64 (c.loc : Int)), .c (.int .u64 (c.rem : Int)), .c (.int .u64 (c.res : Int)), .c (.int .u64 (c.most : Int)), .sl (hds c.holds), .c (.bool c.op)]] (croom_r c) := by
  refine .of (ac125 croom_T_ok (Nat.le_of_ble_eq_true rfl) ?_)
  simp -implicitDefEqProofs only [cd_t, cd_f, cd_dec, cd_not, cd_and, cd_or, grd_tt, grd_ff, grd_tf, grd_ft, grd_dt, grd_df, grd_nt, grd_nf, go_sem, Go.Proofs.Tryz.f125, reduceIte, reduceCtorEq, Nat.reduceEqDiff, Nat.reduceAdd, Nat.reduceLeDiff, Nat.reduceSub, Nat.reduceMul, Nat.reduceLT, Nat.reduceShiftRight, Nat.reduceMod, Int.reduceLE, Int.reduceLT, Int.reduceToNat, decide_true, Bool.and_self, Bool.true_and, Ob.map.injEq, Ob.it.injEq, List.cons.injEq, true_and, and_true]
  rw [sumsC_0]
  by_cases h : okCh c
  · have h1 : c.loc ≤ MM := h.2.2.2.2.2.2.2.1
    have h2 := h.1
    have h3 := h.2.1
    have h4 := h.2.2.2.2.2.2.1
    have e : (sumsC c).2.2 = 0 := sumsC_0.2 h
    have e1 : (sumsC c).1 = held c.holds := by rw [sumsC, if_pos h]
    unfold MM at *
    rw [u64_in _ (by omega), e, e1, roomC, if_pos h]
    refine ⟨fun _ => ⟨fun h5 _ => ⟨fun h6 => ?_, fun h6 => ?_⟩, fun h5 => ?_⟩, fun h' => absurd h h'⟩
    · rw [if_neg (by omega)]; exact ⟨rfl, rfl⟩
    · have h5' : c.op = true := by simpa using h5
      rw [subM, if_pos ⟨h1, h2⟩]
      by_cases h7 : c.res ≤ c.loc
      · rw [if_pos h7, if_pos ⟨h5', by omega, h7⟩]
        refine ⟨fun h => absurd (show (0 : Int) = 9 from h) (by decide), fun _ => ⟨by dsimp only; omega, rfl⟩⟩
      · rw [if_neg h7, if_neg (fun h => h7 h.2.2)]
        exact ⟨fun _ => ⟨rfl, rfl⟩, fun h => absurd rfl h⟩
    · have h5' : c.op = false := by simpa using h5
      rw [if_neg (fun h => by rw [h5'] at h; exact absurd h.1 (by decide))]; exact ⟨rfl, rfl⟩
  · have e : sumsC c = (0, 0, 1) := by rw [sumsC, if_neg h]
    rw [e, roomC, if_neg h]
    exact ⟨fun h' => absurd h' h, fun _ => ⟨rfl, rfl⟩⟩
def sp_croom : List D → Option (Prop × D × Fr)
  | [.agg [.c (.int .u64 z51), .c (.int .u64 z52), .c (.int .u64 z53), .c (.int .u64 z54), .c (.int .u64 z55), .c (.sl z56), .c (.bool z57)]] => some (z51 = (z51.toNat : Int) ∧ z52 = (z52.toNat : Int) ∧ z53 = (z53.toNat : Int) ∧ z54 = (z54.toNat : Int) ∧ z55 = (z55.toNat : Int) ∧ z56 = hds (dhds z56), croom_r (⟨z51.toNat, z52.toNat, z53.toNat, z54.toNat, z55.toNat, (dhds z56), z57⟩ : Ch), [])
  | _ => none
attribute [go_sem] sp_croom
theorem sp_croom_ok : ∀ rs p r fr, sp_croom rs = some (p, r, fr) → p → FnOk Tryz.prog 125 rs r fr := by
  intro rs p r fr h hp
  unfold sp_croom at h
  split at h <;> cases h
  obtain ⟨hc0, hc1, hc2, hc3, hc4, hc5⟩ := hp
  rename_i z51 z52 z53 z54 z55 z56 z57
  obtain ⟨z51, rfl⟩ : ∃ m : Nat, z51 = m := ⟨_, hc0⟩
  obtain ⟨z52, rfl⟩ : ∃ m : Nat, z52 = m := ⟨_, hc1⟩
  obtain ⟨z53, rfl⟩ : ∃ m : Nat, z53 = m := ⟨_, hc2⟩
  obtain ⟨z54, rfl⟩ : ∃ m : Nat, z54 = m := ⟨_, hc3⟩
  obtain ⟨z55, rfl⟩ : ∃ m : Nat, z55 = m := ⟨_, hc4⟩
  obtain ⟨z56, rfl⟩ : ∃ m, z56 = hds m := ⟨_, hc5⟩
  simp only [Int.toNat_natCast, dhds_hds]
  exact croom_ok ⟨z51, z52, z53, z54, z55, z56, z57⟩
theorem mem_sum {l : List Nat} {x : Nat} (h : x ∈ l) : x ≤ l.sum := by
  induction l with
  | nil => cases h
  | cons y l ih =>
    rw [List.sum_cons]
    rcases List.mem_cons.1 h with rfl | h
    · omega
    · have := ih h; omega
theorem held_ok {c : Ch} (h : okCh c) : (addM (c.holds.map Hd.n)).2 = 0 := addM_0.2 ⟨fun x hx => by
    have h3 := h.2.2.2.2.2.2.1
    have h4 := h.2.1
    have h5 := mem_sum hx
    unfold MM held at *
    omega, by
    have h3 := h.2.2.2.2.2.2.1
    have h4 := h.2.1
    unfold MM held at *
    omega⟩
def chkCh (c : Ch) : Int := if okCh c then 0 else 1
end Dm
namespace Dm
open Go Go.Proofs Go.IntWalk
abbrev allC (c : Ch) : Nat := (sumsC c).2.1
def totL (l : List Ch) : Nat := (l.map allC).sum
theorem allC_le (c : Ch) : allC c ≤ MM := by
  unfold allC sumsC
  split
  · rename_i h; exact h.2.2.2.2.2.2.2.2.2
  · exact Nat.zero_le _
theorem totL_succ {l : List Ch} {i : Nat} (h : i < l.length) : totL (l.take (i + 1)) = totL (l.take i) + allC (l.getD i default) := by
  rw [take_succ h, totL, List.map_append, List.sum_append]; simp [totL]
theorem totL_le {l : List Ch} {i : Nat} : totL (l.take i) ≤ totL l := by
  conv => rhs; rw [← List.take_append_drop i l, totL, List.map_append, List.sum_append]
  exact Nat.le_add_right _ _
def hidL (l : List Ch) : List Nat := l.flatMap fun c => c.holds.map Hd.id
def okLd (l : List Ch) : Prop := l.length ≤ 32 ∧ (∀ c ∈ l, okCh c) ∧ Srt.Chn Ch.id ltN l ∧ (hidL l).Nodup ∧ totL l ≤ MM
instance (l : List Ch) : Decidable (Srt.Chn Ch.id ltN l) := by unfold Srt.Chn; infer_instance
instance (l : List Ch) : Decidable (okLd l) := by unfold okLd; infer_instance
def chkL (l : List Ch) : Int := if okLd l then 0 else 1
def hm : Int → List Ch → List (Nat × Int)
  | _, [] => []
  | i, c :: l => c.holds.map (fun h => (h.id, i)) ++ hm (i + 1) l
def readL (l : List Ch) : List (Nat × Int) × Int := if okLd l then (hm 0 l, 0) else ([], 1)
@[go_sem] def lorder_r (c : Ch) (id : Nat) : D := .int .i64 (cmpS c.id id)
@[go_sem] abbrev n_lorder : FuncId := 121
@[go_sem] def lorder_T : Tab := [(133, sp_cmp)]
theorem lorder_T_ok : TabOk Tryz.prog lorder_T := (TabOk.cons sp_cmp_ok TabOk.nil)
set_option maxRecDepth 8000 in
set_option maxHeartbeats 1000000 in
theorem lorder_ok (c : Ch) (id : Nat)  : PureFn Tryz.prog 121 [.agg [.c (.int .u64 (c.id : Int)), .c (.int .u64 (c.loc : Int)), .c (.int .u64 (c.rem : Int)), .c (.int .u64 (c.res : Int)), .c (.int .u64 (c.most : Int)), .sl (hds c.holds), .c (.bool c.op)], .c (.int .u64 (id : Int))] (lorder_r c id) := by
  refine .of (ac121 lorder_T_ok (Nat.le_of_ble_eq_true rfl) ?_)
  simp -implicitDefEqProofs only [cd_t, cd_f, cd_dec, cd_not, cd_and, cd_or, grd_tt, grd_ff, grd_tf, grd_ft, grd_dt, grd_df, grd_nt, grd_nf, go_sem, Go.Proofs.Tryz.f121, reduceIte, reduceCtorEq, Nat.reduceEqDiff, Nat.reduceAdd, Nat.reduceLeDiff, Nat.reduceSub, Nat.reduceMul, Nat.reduceLT, Nat.reduceShiftRight, Nat.reduceMod, Int.reduceLE, Int.reduceLT, Int.reduceToNat, decide_true, Bool.and_self, Bool.true_and, Ob.map.injEq, Ob.it.injEq, List.cons.injEq, true_and, and_true]
def sp_lorder : List D → Option (Prop × D × Fr)
  | [.agg [.c (.int .u64 z94), .c (.int .u64 z95), .c (.int .u64 z96), .c (.int .u64 z97), .c (.int .u64 z98), .c (.sl z99), .c (.bool z100)], .c (.int .u64 z101)] => some (z94 = (z94.toNat : Int) ∧ z95 = (z95.toNat : Int) ∧ z96 = (z96.toNat : Int) ∧ z97 = (z97.toNat : Int) ∧ z98 = (z98.toNat : Int) ∧ z99 = hds (dhds z99) ∧ z101 = (z101.toNat : Int), lorder_r (⟨z94.toNat, z95.toNat, z96.toNat, z97.toNat, z98.toNat, (dhds z99), z100⟩ : Ch) z101.toNat, [])
  | _ => none
attribute [go_sem] sp_lorder
theorem sp_lorder_ok : ∀ rs p r fr, sp_lorder rs = some (p, r, fr) → p → FnOk Tryz.prog 121 rs r fr := by
  intro rs p r fr h hp
  unfold sp_lorder at h
  split at h <;> cases h
  obtain ⟨hc0, hc1, hc2, hc3, hc4, hc5, hc6⟩ := hp
  rename_i z94 z95 z96 z97 z98 z99 z100 z101
  obtain ⟨z94, rfl⟩ : ∃ m : Nat, z94 = m := ⟨_, hc0⟩
  obtain ⟨z95, rfl⟩ : ∃ m : Nat, z95 = m := ⟨_, hc1⟩
  obtain ⟨z96, rfl⟩ : ∃ m : Nat, z96 = m := ⟨_, hc2⟩
  obtain ⟨z97, rfl⟩ : ∃ m : Nat, z97 = m := ⟨_, hc3⟩
  obtain ⟨z98, rfl⟩ : ∃ m : Nat, z98 = m := ⟨_, hc4⟩
  obtain ⟨z99, rfl⟩ : ∃ m, z99 = hds m := ⟨_, hc5⟩
  obtain ⟨z101, rfl⟩ : ∃ m : Nat, z101 = m := ⟨_, hc6⟩
  simp only [Int.toNat_natCast, dhds_hds]
  exact lorder_ok ⟨z94, z95, z96, z97, z98, z99, z100⟩ z101
@[go_sem] def few_r (l : List Ch) : D := .bool (decide ((∀ c ∈ l, c.holds.length ≤ 20) ∧ l.length ≤ 34))
@[go_sem] abbrev n_few : FuncId := 27
@[go_sem] def few_T : Tab := []
theorem few_T_ok : TabOk Tryz.prog few_T := TabOk.nil
set_option maxRecDepth 8000 in
set_option maxHeartbeats 1000000 in
theorem few_ok (l : List Ch)  : PureFn Tryz.prog 27 [.sl (chs l)] (few_r l) := by
  refine .of (ac27 few_T_ok (Nat.le_of_ble_eq_true rfl) ?_)
  simp -implicitDefEqProofs only [cd_t, cd_f, cd_dec, cd_not, cd_and, cd_or, grd_tt, grd_ff, grd_tf, grd_ft, grd_dt, grd_df, grd_nt, grd_nf, go_sem, Go.Proofs.Tryz.f27, reduceIte, reduceCtorEq, Nat.reduceEqDiff, Nat.reduceAdd, Nat.reduceLeDiff, Nat.reduceSub, Nat.reduceMul, Nat.reduceLT, Nat.reduceShiftRight, Nat.reduceMod, Int.reduceLE, Int.reduceLT, Int.reduceToNat, decide_true, Bool.and_self, Bool.true_and, Ob.map.injEq, Ob.it.injEq, List.cons.injEq, true_and, and_true]
  refine fun hl => SWp.loop (ι := { i : Nat // i ≤ l.length ∧ ∀ j, j < i → (l.getD j default).holds.length ≤ 20 }) (fun i => ⟨[(0, .sl (chs l)), (5, .sl (chs l)), (6, .int .i64 l.length), (7, .int .i64 i.1)], [], 0⟩) (fun i => l.length - i.1) ⟨0, by simp⟩ ?_ ?_
  · simp [go_sem]
  · rintro ⟨i, hi, hall⟩
    refine awp_sound few_T_ok.toS lv27 _ _ _ rfl ?_
    simp -implicitDefEqProofs only [cd_t, cd_f, cd_dec, cd_not, cd_and, cd_or, grd_tt, grd_ff, grd_tf, grd_ft, grd_dt, grd_df, grd_nt, grd_nf, go_sem, reduceIte, reduceCtorEq, Nat.reduceEqDiff, Nat.reduceAdd, Nat.reduceLeDiff, Nat.reduceSub, Nat.reduceMul, Nat.reduceLT, Nat.reduceShiftRight, Nat.reduceMod, Int.reduceLE, Int.reduceLT, Int.reduceToNat, decide_true, Bool.and_self, Bool.true_and, Ob.map.injEq, Ob.it.injEq, List.cons.injEq, true_and, and_true]
    refine ⟨fun h => ⟨by omega, fun _ => ⟨fun h1 => ?_, fun h1 => ⟨⟨i + 1, by omega, fun j hj => ?_⟩, by dsimp only; omega, i64_in _ (by omega)⟩⟩⟩, fun h => ?_⟩
    · rw [eq_comm, decide_eq_false_iff_not]
      intro h2
      have := h2.1 _ (mem_getD.2 ⟨i, by omega, rfl⟩)
      omega
    · by_cases hji : j = i
      · subst hji; omega
      · exact hall j (by omega)
    · intro _
      have : (∀ c ∈ l, c.holds.length ≤ 20) := fun c hc => by obtain ⟨j, hj, rfl⟩ := mem_getD.1 hc; exact hall j (by omega)
      rw [decide_eq_decide]
      exact ⟨fun h => ⟨this, by omega⟩, fun h => by omega⟩
def sp_few : List D → Option (Prop × D × Fr)
  | [.c (.sl z102)] => some (z102 = chs (dchs z102), few_r (dchs z102), [])
  | _ => none
attribute [go_sem] sp_few
theorem sp_few_ok : ∀ rs p r fr, sp_few rs = some (p, r, fr) → p → FnOk Tryz.prog 27 rs r fr := by
  intro rs p r fr h hp
  unfold sp_few at h
  split at h <;> cases h
  have hc0 := hp
  rename_i z102
  obtain ⟨z102, rfl⟩ : ∃ m, z102 = chs m := ⟨_, hc0⟩
  simp only [dchs_chs]
  exact few_ok z102
theorem hidL_succ {l : List Ch} {i : Nat} (h : i < l.length) : hidL (l.take (i + 1)) = hidL (l.take i) ++ (l.getD i default).holds.map Hd.id := by
  rw [take_succ h, hidL, List.flatMap_append]; simp [hidL]
theorem hidL_nd {l : List Ch} {i : Nat} (h : (hidL l).Nodup) : (hidL (l.take i)).Nodup := by
  rw [← List.take_append_drop i l, hidL, List.flatMap_append] at h
  exact (List.nodup_append.1 h).1
theorem okCh_nd {c : Ch} (h : okCh c) : (c.holds.map Hd.id).Nodup := by
  have h1 := (Srt.chn_up (lt := ltN) Srt.totNat).1 h.2.2.2.2.2.1
  unfold Srt.Up at h1
  rw [List.Nodup, List.pairwise_map]
  exact h1.imp fun hlt he => by
    simp only [Hd.key, ltN] at hlt
    omega
def whereL (l : List Ch) (h : Nat) : Int := match l.findIdx? (fun c => c.holds.any fun x => decide (x.id = h)) with
  | some i => i
  | none => -1
theorem where_iff {l : List Ch} {h : Nat} : 0 ≤ whereL l h ↔ h ∈ hidL l := by
  unfold whereL hidL
  rw [List.mem_flatMap]
  cases hf : l.findIdx? (fun c => c.holds.any fun x => decide (x.id = h)) with
  | none =>
    rw [List.findIdx?_eq_none_iff] at hf
    refine ⟨fun h => absurd h (by decide), fun ⟨c, hc, hm⟩ => ?_⟩
    obtain ⟨x, hx, rfl⟩ := List.mem_map.1 hm
    have := List.any_eq_false.1 (hf c hc) x hx
    simp at this
  | some i =>
    refine ⟨fun _ => ?_, fun _ => Int.natCast_nonneg _⟩
    obtain ⟨hi, h2, _⟩ := List.findIdx?_eq_some_iff_getElem.1 hf
    obtain ⟨x, hx, h3⟩ := List.any_eq_true.1 h2
    exact ⟨_, List.getElem_mem hi, List.mem_map.2 ⟨x, hx, by simpa using h3⟩⟩
theorem hm_keys : ∀ {l : List Ch} {s : Int}, (hm s l).map (·.1) = hidL l
  | [], _ => rfl
  | c :: l, s => by
    have e : hidL (c :: l) = c.holds.map Hd.id ++ hidL l := by simp [hidL]
    rw [hm, List.map_append, hm_keys, List.map_map, e]; rfl
theorem hm_succ {l : List Ch} {i : Nat} (h : i < l.length) : hm 0 (l.take (i + 1)) = hm 0 (l.take i) ++ (l.getD i default).holds.map fun x => (x.id, (i : Int)) := by
  have key : ∀ (l : List Ch) (s : Int) (c : Ch), hm s (l ++ [c]) = hm s l ++ c.holds.map fun x => (x.id, s + l.length) := by
    intro l
    induction l with
    | nil => intro s c; simp [hm]
    | cons d l ih =>
      intro s c
      rw [List.cons_append, hm, ih, hm, List.append_assoc]
      simp only [List.length_cons]
      rw [show s + ((l.length + 1 : Nat) : Int) = s + 1 + l.length by omega]
  rw [take_succ h, key]
  simp only [Int.zero_add, List.length_take]
  rw [show min i l.length = i by omega]
def sumL (l : List Ch) : Nat × Bool := if totL l ≤ MM then (totL l, true) else (0, false)
@[go_sem] def lread_r (l : List Ch) : D := .tup [.c (.map [.int .u64] (kvF .u64 .i64 (readL l).1)), .int .i64 (readL l).2]
@[go_sem] abbrev n_lread : FuncId := 87
@[go_sem] def lread_T : Tab := [(145, sp_call), (31, sp_monadd), (121, sp_lorder)]
theorem lread_T_ok : TabOk Tryz.prog lread_T := (TabOk.cons sp_call_ok (TabOk.cons sp_monadd_ok (TabOk.cons sp_lorder_ok TabOk.nil)))
set_option maxRecDepth 8000 in
set_option maxHeartbeats 1000000 in
theorem lread_ok (l : List Ch)  : PureFn Tryz.prog 87 [.sl (chs l)] (lread_r l) := by
  refine .of (ac87 lread_T_ok (Nat.le_of_ble_eq_true rfl) ?_)
  simp -implicitDefEqProofs only [cd_t, cd_f, cd_dec, cd_not, cd_and, cd_or, grd_tt, grd_ff, grd_tf, grd_ft, grd_dt, grd_df, grd_nt, grd_nf, go_sem, Go.Proofs.Tryz.f87, reduceIte, reduceCtorEq, Nat.reduceEqDiff, Nat.reduceAdd, Nat.reduceLeDiff, Nat.reduceSub, Nat.reduceMul, Nat.reduceLT, Nat.reduceShiftRight, Nat.reduceMod, Int.reduceLE, Int.reduceLT, Int.reduceToNat, decide_true, Bool.and_self, Bool.true_and, Ob.map.injEq, Ob.it.injEq, List.cons.injEq, true_and, and_true]
  have hbad : ¬ okLd l → kvF .u64 .i64 (readL l).1 = [] ∧ 1 = (readL l).2 := fun h => by rw [readL, if_neg h]; exact ⟨rfl, rfl⟩
  refine fun hl => ⟨fun h1 => hbad fun h => ?_, fun h1 _ => ?_⟩
  · have := h.1; omega
  refine SWp.loop (ι := { i : Nat // i ≤ l.length ∧ (∀ c ∈ l.take i, okCh c) ∧ (∀ j, j < i → 0 < j → (l.getD (j - 1) default).id < (l.getD j default).id) ∧ (hidL (l.take i)).Nodup ∧ totL (l.take i) ≤ MM }) (fun i => ⟨[(0, .sl (chs l)), (4, .mp 0), (5, .int .u64 (totL (l.take i.1) : Nat)), (18, .sl (chs l)), (19, .int .i64 l.length), (20, .int .i64 i.1)], [(0, .map [.int .u64] (kvN .u64 .i64 (hm 0 (l.take i.1))))], 1⟩) (fun i => l.length - i.1) ⟨0, by simp [hidL, totL]⟩ ?_ ?_
  · simp [go_sem, totL]; rfl
  · rintro ⟨i, hi, hall, ho, hn, hs⟩
    refine awp_sound lread_T_ok.toS lv87 _ _ _ rfl ?_
    simp -implicitDefEqProofs only [cd_t, cd_f, cd_dec, cd_not, cd_and, cd_or, grd_tt, grd_ff, grd_tf, grd_ft, grd_dt, grd_df, grd_nt, grd_nf, go_sem, reduceIte, reduceCtorEq, Nat.reduceEqDiff, Nat.reduceAdd, Nat.reduceLeDiff, Nat.reduceSub, Nat.reduceMul, Nat.reduceLT, Nat.reduceShiftRight, Nat.reduceMod, Int.reduceLE, Int.reduceLT, Int.reduceToNat, decide_true, Bool.and_self, Bool.true_and, Ob.map.injEq, Ob.it.injEq, List.cons.injEq, true_and, and_true]
    refine ⟨fun h => ⟨by omega, ?_⟩, fun h => ?_⟩
    · refine ADraw.run us87_8 lread_T_ok follows_mixed (by kernel_rfl) (by kernel_rfl) ?_
      simp -implicitDefEqProofs only [cd_t, cd_f, cd_dec, cd_not, cd_and, cd_or, grd_tt, grd_ff, grd_tf, grd_ft, grd_dt, grd_df, grd_nt, grd_nf, go_sem, reduceIte, reduceCtorEq, Nat.reduceEqDiff, Nat.reduceAdd, Nat.reduceLeDiff, Nat.reduceSub, Nat.reduceMul, Nat.reduceLT, Nat.reduceShiftRight, Nat.reduceMod, Int.reduceLE, Int.reduceLT, Int.reduceToNat, decide_true, Bool.and_self, Bool.true_and, Ob.map.injEq, Ob.it.injEq, List.cons.injEq, true_and, and_true]
      have hi' : i < l.length := by omega
      have hmem : l.getD i default ∈ l := mem_getD.2 ⟨i, hi', rfl⟩
      have hsub : ∀ {a b : List Nat}, (a ++ b).Nodup ↔ a.Nodup ∧ b.Nodup ∧ ∀ x ∈ b, x ∉ a := fun {a b} => by
        rw [List.nodup_append]
        exact and_congr_right fun _ => and_congr_right fun _ => ⟨fun h x hb ha => h x ha x hb rfl, fun h x ha y hb e => h y hb (e ▸ ha)⟩
      have hks := hidL_succ hi'
      have hts := totL_succ hi'
      have hmsu := hm_succ hi'
      have htle := totL_le (l := l) (i := i + 1)
      have htk : ∀ c, c ∈ l.take (i + 1) ↔ c ∈ l.take i ∨ c = l.getD i default := fun c => by rw [take_succ hi']; simp
      refine ⟨fun h2 => ?_, fun h2 => hbad fun h => h2 (by rw [sumsC, if_pos (h.2.1 _ hmem)])⟩
      have hc0 : okCh (l.getD i default) := sumsC_0.1 h2
      have hcn := okCh_nd hc0
      have hA := allC_le (l.getD i default)
      change totL (l.take (i + 1)) = totL (l.take i) + (sumsC (l.getD i default)).2.1 at hts
      change (sumsC (l.getD i default)).2.1 ≤ MM at hA
      have hadd : ¬ (addM [totL (l.take i), (sumsC (l.getD i default)).2.1]).2 = 0 → ¬ okLd l := fun h3 h => h3 (addM_0.2 (by
        have := h.2.2.2.2
        simp only [List.mem_cons, List.not_mem_nil, or_false, forall_eq_or_imp, forall_eq, List.sum_cons, List.sum_nil]
        unfold MM at *
        omega))
      generalize hc : l.getD i default = c at *
      refine ⟨fun h3 => ⟨?_, fun h4 => hbad fun h => ?_, fun h4 => ⟨fun h5 _ => ?_, fun h5 => hbad (hadd h5)⟩⟩, fun h3 => ⟨fun h5 _ => ?_, fun h5 => hbad (hadd h5)⟩⟩
      · rw [i64_in _ (by omega)]; omega
      · rw [i64_in _ (by omega), show ((i : Int) - 1).toNat = i - 1 by omega] at h4
        have := h.2.2.1 i hi' (by omega)
        rw [hc] at this
        simp only [ltN] at this
        have := cmpS_neg (x := ((l.getD (i - 1) default).id : Int)) (y := c.id)
        omega
      all_goals
        have hord : 0 < i → (l.getD (i - 1) default).id < c.id := fun h0 => by
          first
          | (exfalso; omega)
          | (rw [i64_in _ (by omega), show ((i : Int) - 1).toNat = i - 1 by omega] at h4
             have := cmpS_neg (x := ((l.getD (i - 1) default).id : Int)) (y := c.id)
             omega)
        have hsum := addM_1 h5
        have hsum2 := (addM_0.1 h5).2
        simp only [List.sum_cons, List.sum_nil, Nat.add_zero] at hsum hsum2
        rw [hsum]
        refine SWp.loop (ι := { k : Nat // k ≤ c.holds.length ∧ ∀ j, j < k → (c.holds.getD j default).id ∉ hidL (l.take i) }) (fun k => ⟨[(0, .sl (chs l)), (4, .mp 0), (5, .int .u64 ((totL (l.take i) + (sumsC c).2.1 : Nat) : Int)), (6, .int .i64 i), (18, .sl (chs l)), (19, .int .i64 l.length), (20, .int .i64 i), (57, .sl (hds c.holds)), (58, .int .i64 c.holds.length), (59, .int .i64 k.1)], [(0, .map [.int .u64] (kvN .u64 .i64 (hm 0 (l.take i) ++ (c.holds.take k.1).map fun x => (x.id, (i : Int)))))], 3⟩) (fun k => c.holds.length - k.1) ⟨0, by simp⟩ ?_ ?_
        · simp [go_sem]
        · rintro ⟨k, hk, hin⟩
          refine awp_sound lread_T_ok.toS lv87 _ _ _ rfl ?_
          simp -implicitDefEqProofs only [cd_t, cd_f, cd_dec, cd_not, cd_and, cd_or, grd_tt, grd_ff, grd_tf, grd_ft, grd_dt, grd_df, grd_nt, grd_nf, go_sem, reduceIte, reduceCtorEq, Nat.reduceEqDiff, Nat.reduceAdd, Nat.reduceLeDiff, Nat.reduceSub, Nat.reduceMul, Nat.reduceLT, Nat.reduceShiftRight, Nat.reduceMod, Int.reduceLE, Int.reduceLT, Int.reduceToNat, decide_true, Bool.and_self, Bool.true_and, Ob.map.injEq, Ob.it.injEq, List.cons.injEq, true_and, and_true]
          have hkeys : ∀ m, m ≤ c.holds.length → (hm 0 (l.take i) ++ (c.holds.take m).map fun x => (x.id, (i : Int))).map (·.1) = hidL (l.take i) ++ (c.holds.take m).map Hd.id := fun m hm => by
            rw [List.map_append, hm_keys, List.map_map]; rfl
          refine ⟨fun h6 => ⟨by omega, fun a ha => hbad fun h => ?_, fun ha => ?_⟩, fun h6 => ?_⟩
          · have hk' : k < c.holds.length := by omega
            have h7 : ¬ nlk (c.holds.getD k default).id (hm 0 (l.take i) ++ (c.holds.take k).map fun x => (x.id, (i : Int))) = none := by rw [ha]; simp
            rw [nlk_none, hkeys k hk, Classical.not_not, List.mem_append] at h7
            rcases h7 with h7 | h7
            · have := hidL_nd (i := i + 1) h.2.2.2.1
              rw [hks, hsub] at this
              exact this.2.2 _ (List.mem_map.2 ⟨_, mem_getD.2 ⟨k, hk', rfl⟩, rfl⟩) h7
            · have h8 : (c.holds.take (k + 1)).map Hd.id = (c.holds.take k).map Hd.id ++ [(c.holds.getD k default).id] := by rw [take_succ hk']; simp
              have h9 : ((c.holds.take (k + 1)).map Hd.id).Nodup := by
                rw [List.map_take]; exact hcn.sublist (List.take_sublist _ _)
              rw [h8, hsub] at h9
              exact h9.2.2 _ (by simp) h7
          · have hk' : k < c.holds.length := by omega
            have h7 := nlk_none.1 ha
            rw [nset_new h7]
            rw [hkeys k hk, List.mem_append, not_or] at h7
            refine ⟨⟨k + 1, hk', fun j hj => ?_⟩, by dsimp only; omega, i64_in _ (by omega), ?_⟩
            · by_cases hji : j = k
              · subst hji; exact h7.1
              · exact hin j (by omega)
            · dsimp only
              rw [take_succ hk', List.map_append, ← List.append_assoc]; rfl
          · have hk' : k = c.holds.length := by omega
            subst hk'
            refine ⟨⟨i + 1, hi', fun d hd => ((htk d).1 hd).elim (hall d) (fun e => e ▸ hc0), fun j hj h0 => ?_, ?_, by rw [hts]; exact hsum2⟩, by dsimp only; omega, ⟨by dsimp only; rw [hts]; omega, i64_in _ (by omega)⟩, ?_⟩
            · by_cases hji : j = i
              · subst hji; rw [hc]; exact hord h0
              · exact ho j (by omega) h0
            · rw [hks, hsub]
              refine ⟨hn, hcn, fun x hx => ?_⟩
              obtain ⟨y, hy, rfl⟩ := List.mem_map.1 hx
              obtain ⟨j, hj, rfl⟩ := mem_getD.1 hy
              exact hin j (by omega)
            · dsimp only
              rw [List.take_length, hmsu]
    · have hi' : i = l.length := by omega
      subst hi'
      rw [List.take_length] at hall hn hs ⊢
      rw [readL, if_pos ⟨by omega, hall, fun j hj h0 => ho j hj h0, hn, hs⟩]
      exact ⟨⟨_, _, rfl, kvC_kvN, .refl _⟩, rfl⟩
def sp_lread : List D → Option (Prop × D × Fr)
  | [.c (.sl z107)] => some (z107 = chs (dchs z107), lread_r (dchs z107), [])
  | _ => none
attribute [go_sem] sp_lread
theorem sp_lread_ok : ∀ rs p r fr, sp_lread rs = some (p, r, fr) → p → FnOk Tryz.prog 87 rs r fr := by
  intro rs p r fr h hp
  unfold sp_lread at h
  split at h <;> cases h
  have hc0 := hp
  rename_i z107
  obtain ⟨z107, rfl⟩ : ∃ m, z107 = chs m := ⟨_, hc0⟩
  simp only [dchs_chs]
  exact lread_ok z107
@[go_sem] def lcheck_r (l : List Ch) : D := .int .i64 (chkL l)
@[go_sem] abbrev n_lcheck : FuncId := 43
@[go_sem] def lcheck_T : Tab := [(87, sp_lread)]
theorem lcheck_T_ok : TabOk Tryz.prog lcheck_T := (TabOk.cons sp_lread_ok TabOk.nil)
set_option maxRecDepth 8000 in
set_option maxHeartbeats 1000000 in
theorem lcheck_ok (l : List Ch)  : PureFn Tryz.prog 43 [.sl (chs l)] (lcheck_r l) := by
  refine .of (ac43 lcheck_T_ok (Nat.le_of_ble_eq_true rfl) ?_)
  simp -implicitDefEqProofs only [cd_t, cd_f, cd_dec, cd_not, cd_and, cd_or, grd_tt, grd_ff, grd_tf, grd_ft, grd_dt, grd_df, grd_nt, grd_nf, go_sem, Go.Proofs.Tryz.f43, reduceIte, reduceCtorEq, Nat.reduceEqDiff, Nat.reduceAdd, Nat.reduceLeDiff, Nat.reduceSub, Nat.reduceMul, Nat.reduceLT, Nat.reduceShiftRight, Nat.reduceMod, Int.reduceLE, Int.reduceLT, Int.reduceToNat, decide_true, Bool.and_self, Bool.true_and, Ob.map.injEq, Ob.it.injEq, List.cons.injEq, true_and, and_true]
  rw [readL, chkL]; split <;> rfl
def sp_lcheck : List D → Option (Prop × D × Fr)
  | [.c (.sl z108)] => some (z108 = chs (dchs z108), lcheck_r (dchs z108), [])
  | _ => none
attribute [go_sem] sp_lcheck
theorem sp_lcheck_ok : ∀ rs p r fr, sp_lcheck rs = some (p, r, fr) → p → FnOk Tryz.prog 43 rs r fr := by
  intro rs p r fr h hp
  unfold sp_lcheck at h
  split at h <;> cases h
  have hc0 := hp
  rename_i z108
  obtain ⟨z108, rfl⟩ : ∃ m, z108 = chs m := ⟨_, hc0⟩
  simp only [dchs_chs]
  exact lcheck_ok z108
end Dm
namespace Dm
open Go Go.Proofs Go.IntWalk
@[go_sem] def hclone_r (l : List Hd) : D := .sl (hds l)
@[go_sem] abbrev n_hclone : FuncId := 140
@[go_sem] def hclone_T : Tab := []
theorem hclone_T_ok : TabOk Tryz.prog hclone_T := TabOk.nil
set_option maxRecDepth 8000 in
set_option maxHeartbeats 1000000 in
theorem hclone_ok (l : List Hd) (h : l.length ≤ 1000000) : PureFn Tryz.prog 140 [.sl (hds l)] (hclone_r l) := by
  refine .of (ac140 hclone_T_ok (Nat.le_of_ble_eq_true rfl) ?_)
  simp -implicitDefEqProofs only [cd_t, cd_f, cd_dec, cd_not, cd_and, cd_or, grd_tt, grd_ff, grd_tf, grd_ft, grd_dt, grd_df, grd_nt, grd_nf, go_sem, Go.Proofs.Tryz.f140, reduceIte, reduceCtorEq, Nat.reduceEqDiff, Nat.reduceAdd, Nat.reduceLeDiff, Nat.reduceSub, Nat.reduceMul, Nat.reduceLT, Nat.reduceShiftRight, Nat.reduceMod, Int.reduceLE, Int.reduceLT, Int.reduceToNat, decide_true, Bool.and_self, Bool.true_and, Ob.map.injEq, Ob.it.injEq, List.cons.injEq, true_and, and_true]
  exact fun b hb => ⟨hb, fun _ => ⟨by omega, _, _, _, rfl⟩⟩
@[go_sem] def hclone_p (l : List Hd) : Prop := (l.length ≤ 1000000)
def sp_hclone : List D → Option (Prop × D × Fr)
  | [.c (.sl z171)] => some (z171 = hds (dhds z171) ∧ hclone_p (dhds z171), hclone_r (dhds z171), [])
  | _ => none
attribute [go_sem] sp_hclone
theorem sp_hclone_ok : ∀ rs p r fr, sp_hclone rs = some (p, r, fr) → p → FnOk Tryz.prog 140 rs r fr := by
  intro rs p r fr h hp
  unfold sp_hclone at h
  split at h <;> cases h
  obtain ⟨hc0, hp⟩ := hp
  rename_i z171
  obtain ⟨z171, rfl⟩ : ∃ m, z171 = hds m := ⟨_, hc0⟩
  simp only [dhds_hds]
  simp only [dhds_hds, hclone_p] at hp
  exact hclone_ok z171 hp
@[go_sem] def own_r (c : Ch) : D := .agg [.int .u64 c.id, .int .u64 c.loc, .int .u64 c.rem, .int .u64 c.res, .int .u64 c.most, .sl (hds c.holds), .bool c.op]
@[go_sem] abbrev n_own : FuncId := 124
@[go_sem] def own_T : Tab := [(140, sp_hclone)]
theorem own_T_ok : TabOk Tryz.prog own_T := (TabOk.cons sp_hclone_ok TabOk.nil)
set_option maxRecDepth 8000 in
set_option maxHeartbeats 1000000 in
theorem own_ok (c : Ch) (h : c.holds.length ≤ 1000000) : PureFn Tryz.prog 124 [.agg [.c (.int .u64 (c.id : Int)), .c (.int .u64 (c.loc : Int)), .c (.int .u64 (c.rem : Int)), .c (.int .u64 (c.res : Int)), .c (.int .u64 (c.most : Int)), .sl (hds c.holds), .c (.bool c.op)]] (own_r c) := by
  refine .of (ac124 own_T_ok (Nat.le_of_ble_eq_true rfl) ?_)
  simp -implicitDefEqProofs only [cd_t, cd_f, cd_dec, cd_not, cd_and, cd_or, grd_tt, grd_ff, grd_tf, grd_ft, grd_dt, grd_df, grd_nt, grd_nf, go_sem, Go.Proofs.Tryz.f124, reduceIte, reduceCtorEq, Nat.reduceEqDiff, Nat.reduceAdd, Nat.reduceLeDiff, Nat.reduceSub, Nat.reduceMul, Nat.reduceLT, Nat.reduceShiftRight, Nat.reduceMod, Int.reduceLE, Int.reduceLT, Int.reduceToNat, decide_true, Bool.and_self, Bool.true_and, Ob.map.injEq, Ob.it.injEq, List.cons.injEq, true_and, and_true]
  exact h
@[go_sem] def own_p (c : Ch) : Prop := (c.holds.length ≤ 1000000)
def sp_own : List D → Option (Prop × D × Fr)
  | [.agg [.c (.int .u64 z173), .c (.int .u64 z174), .c (.int .u64 z175), .c (.int .u64 z176), .c (.int .u64 z177), .c (.sl z178), .c (.bool z179)]] => some (z173 = (z173.toNat : Int) ∧ z174 = (z174.toNat : Int) ∧ z175 = (z175.toNat : Int) ∧ z176 = (z176.toNat : Int) ∧ z177 = (z177.toNat : Int) ∧ z178 = hds (dhds z178) ∧ own_p (⟨z173.toNat, z174.toNat, z175.toNat, z176.toNat, z177.toNat, (dhds z178), z179⟩ : Ch), own_r (⟨z173.toNat, z174.toNat, z175.toNat, z176.toNat, z177.toNat, (dhds z178), z179⟩ : Ch), [])
  | _ => none
attribute [go_sem] sp_own
theorem sp_own_ok : ∀ rs p r fr, sp_own rs = some (p, r, fr) → p → FnOk Tryz.prog 124 rs r fr := by
  intro rs p r fr h hp
  unfold sp_own at h
  split at h <;> cases h
  obtain ⟨hc0, hc1, hc2, hc3, hc4, hc5, hp⟩ := hp
  rename_i z173 z174 z175 z176 z177 z178 z179
  obtain ⟨z173, rfl⟩ : ∃ m : Nat, z173 = m := ⟨_, hc0⟩
  obtain ⟨z174, rfl⟩ : ∃ m : Nat, z174 = m := ⟨_, hc1⟩
  obtain ⟨z175, rfl⟩ : ∃ m : Nat, z175 = m := ⟨_, hc2⟩
  obtain ⟨z176, rfl⟩ : ∃ m : Nat, z176 = m := ⟨_, hc3⟩
  obtain ⟨z177, rfl⟩ : ∃ m : Nat, z177 = m := ⟨_, hc4⟩
  obtain ⟨z178, rfl⟩ : ∃ m, z178 = hds m := ⟨_, hc5⟩
  simp only [Int.toNat_natCast, dhds_hds]
  simp only [Int.toNat_natCast, dhds_hds, own_p] at hp
  exact own_ok ⟨z173, z174, z175, z176, z177, z178, z179⟩ hp
def placeL (l : List Ch) (id : Nat) : Int × Int := if okLd l then (if Srt.thr Ch.id ltN l id = true then ((Srt.pos Ch.id ltN l id : Nat), 0) else (0, 5)) else (0, 1)
@[go_sem] def place_r (l : List Ch) (id : Nat) : D := .tup [.int .i64 (placeL l id).1, .int .i64 (placeL l id).2]
@[go_sem] abbrev n_place : FuncId := 136
@[go_sem] def place_T : Tab := [(43, sp_lcheck), (121, sp_lorder)]
theorem place_T_ok : TabOk Tryz.prog place_T := (TabOk.cons sp_lcheck_ok (TabOk.cons sp_lorder_ok TabOk.nil))
set_option maxRecDepth 8000 in
set_option maxHeartbeats 1000000 in
theorem place_ok (l : List Ch) (id : Nat)  : PureFn Tryz.prog 136 [.sl (chs l), .c (.int .u64 (id : Int))] (place_r l id) := by
  refine .of (ac136 place_T_ok (Nat.le_of_ble_eq_true rfl) ?_)
  simp -implicitDefEqProofs only [cd_t, cd_f, cd_dec, cd_not, cd_and, cd_or, grd_tt, grd_ff, grd_tf, grd_ft, grd_dt, grd_df, grd_nt, grd_nf, go_sem, Go.Proofs.Tryz.f136, reduceIte, reduceCtorEq, Nat.reduceEqDiff, Nat.reduceAdd, Nat.reduceLeDiff, Nat.reduceSub, Nat.reduceMul, Nat.reduceLT, Nat.reduceShiftRight, Nat.reduceMod, Int.reduceLE, Int.reduceLT, Int.reduceToNat, decide_true, Bool.and_self, Bool.true_and, Ob.map.injEq, Ob.it.injEq, List.cons.injEq, true_and, and_true]
  have hcz : chkL l = 0 ↔ okLd l := by unfold chkL; split <;> simp_all
  refine ⟨fun hok0 => ?_, fun hno0 => by
    have hno : ¬ okLd l := fun h => hno0 (hcz.2 h)
    rw [placeL, chkL, if_neg hno, if_neg hno]; exact ⟨rfl, rfl⟩⟩
  have hok := hcz.1 hok0
  have hu : Srt.Up Ch.id ltN l := (Srt.chn_up (lt := ltN) Srt.totNat).1 hok.2.2.1
  have hl32 := hok.1
  refine ac120 place_T_ok (Nat.le_of_ble_eq_true rfl) ?_
  simp -implicitDefEqProofs only [cd_t, cd_f, cd_dec, cd_not, cd_and, cd_or, grd_tt, grd_ff, grd_tf, grd_ft, grd_dt, grd_df, grd_nt, grd_nf, go_sem, Go.Proofs.Tryz.f120, reduceIte, reduceCtorEq, Nat.reduceEqDiff, Nat.reduceAdd, Nat.reduceLeDiff, Nat.reduceSub, Nat.reduceMul, Nat.reduceLT, Nat.reduceShiftRight, Nat.reduceMod, Int.reduceLE, Int.reduceLT, Int.reduceToNat, decide_true, Bool.and_self, Bool.true_and, Ob.map.injEq, Ob.it.injEq, List.cons.injEq, true_and, and_true]
  refine fun _ => SWp.loop (ι := { x : Nat × Nat // x.1 ≤ x.2 ∧ x.2 ≤ l.length ∧ (∀ k, k < x.1 → (l.getD k default).id < id) ∧ ∀ k, x.2 ≤ k → k < l.length → ¬ (l.getD k default).id < id }) (fun x => ⟨[(0, .sl (chs l)), (1, .int .u64 id), (2, .fn (.func 121) [] []), (8, .int .i64 l.length), (9, .int .i64 x.1.1), (10, .int .i64 x.1.2)], [], 0⟩) (fun x => x.1.2 - x.1.1) ⟨(0, l.length), by simp, by simp, fun k hk => absurd hk (by simp), fun k h1 h2 => absurd h1 (by simpa using h2)⟩ ?_ ?_
  · simp [go_sem]
  · rintro ⟨⟨i, j⟩, hij, hj, hlo, hup⟩
    dsimp only at hij hj hlo hup
    refine awp_sound place_T_ok.toS lv120 _ _ _ rfl ?_
    simp -implicitDefEqProofs only [cd_t, cd_f, cd_dec, cd_not, cd_and, cd_or, grd_tt, grd_ff, grd_tf, grd_ft, grd_dt, grd_df, grd_nt, grd_nf, go_sem, reduceIte, reduceCtorEq, Nat.reduceEqDiff, Nat.reduceAdd, Nat.reduceLeDiff, Nat.reduceSub, Nat.reduceMul, Nat.reduceLT, Nat.reduceShiftRight, Nat.reduceMod, Int.reduceLE, Int.reduceLT, Int.reduceToNat, decide_true, Bool.and_self, Bool.true_and, Ob.map.injEq, Ob.it.injEq, List.cons.injEq, true_and, and_true]
    rw [mid_eq hij hj ‹_›]
    refine ⟨fun h4 => ?_, fun h4 => ?_⟩
    · have hm : (i + j) / 2 < l.length := by omega
      rw [cmpS_neg, Int.toNat_natCast]
      refine ⟨by omega, fun h5 => ⟨⟨((i + j) / 2 + 1, j), by dsimp only; omega, hj, fun k hk => ?_, hup⟩, by dsimp only; omega, i64_in _ (by omega), rfl⟩, fun h5 => ⟨⟨(i, (i + j) / 2), by dsimp only; omega, by dsimp only; omega, hlo, fun k hk1 hk2 => ?_⟩, by dsimp only; omega, rfl, rfl⟩⟩
      · dsimp only at hk
        by_cases hkm : k = (i + j) / 2
        · rw [hkm]; omega
        · have := Srt.up_get.1 hu k _ (by omega) hm
          simp only [ltN] at this; omega
      · dsimp only at hk1
        by_cases hkm : k = (i + j) / 2
        · rw [hkm]; omega
        · have := Srt.up_get.1 hu ((i + j) / 2) k (by omega) hk2
          simp only [ltN] at this; omega
    · have hp : Srt.pos Ch.id ltN l id = i := Srt.pos_eq (by omega) hlo (fun h => hup i (by omega) h)
      rw [placeL, if_pos hok, Srt.thr, hp, cmpS_0]
      refine ⟨fun h5 => ⟨by omega, fun h6 => ?_, fun h6 => ?_⟩, fun h5 => ?_⟩
      · rw [if_pos (decide_eq_true ⟨by omega, by omega⟩)]; exact ⟨rfl, rfl⟩
      · rw [if_neg (by rw [decide_eq_true_iff]; omega)]; exact ⟨rfl, rfl⟩
      · rw [if_neg (by rw [decide_eq_true_iff]; omega)]; exact ⟨rfl, rfl⟩
def sp_place : List D → Option (Prop × D × Fr)
  | [.c (.sl z180), .c (.int .u64 z181)] => some (z180 = chs (dchs z180) ∧ z181 = (z181.toNat : Int), place_r (dchs z180) z181.toNat, [])
  | _ => none
attribute [go_sem] sp_place
theorem sp_place_ok : ∀ rs p r fr, sp_place rs = some (p, r, fr) → p → FnOk Tryz.prog 136 rs r fr := by
  intro rs p r fr h hp
  unfold sp_place at h
  split at h <;> cases h
  obtain ⟨hc0, hc1⟩ := hp
  rename_i z180 z181
  obtain ⟨z180, rfl⟩ : ∃ m, z180 = chs m := ⟨_, hc0⟩
  obtain ⟨z181, rfl⟩ : ∃ m : Nat, z181 = m := ⟨_, hc1⟩
  simp only [Int.toNat_natCast, dchs_chs]
  exact place_ok z180 z181
def getL (l : List Ch) (id : Nat) : Ch × Int := if okLd l then (if Srt.thr Ch.id ltN l id = true then (l.getD (Srt.pos Ch.id ltN l id) default, 0) else (default, 5)) else (default, 1)
end Dm
namespace Dm
open Go
section
variable {P : Program} {g g' : G} {w w' : World}
def Grown (z : Nat) (e : TypeId) (els : List (List C)) (d : D) (os : List (Nat × Ob)) : Prop := ∃ k, d = .vec k els.length ∧ lk k os = some (.vec true z e els)
theorem ACall.grow {f : FuncId} {i j nx m n : Nat} {os : List (Nat × Ob)} {z e : Nat} {h1 h2 : Bool} {A B E : List (List C)} {mid : List D} {Q : D → List (Nat × Ob) → Nat → Prop}
    (h : ACall P f (.vec 0 n :: mid ++ [.vec 1 m]) [(1, .vec h2 z e B), (0, .vec h1 z e A)] 2 fun d os' _ => Grown z e E d os')
    (hi : lk i os = some (.vec h1 z e A)) (hj : lk j os = some (.vec h2 z e B)) (hne : i ≠ j) (hn : A.length < E.length) (hmid : ∀ d ∈ mid, ∀ g g' w v, VRel g w v d → VRel g' w v d)
    (hQ : Q (.vec i E.length) ((i, .vec true z e E) :: rmv os [i, j]) nx) : ACall P f (.vec i n :: mid ++ [.vec j m]) os nx Q := by
  refine ⟨h.1, fun g w vs ho hsz hv => ?_⟩
  have hib := ho.lt hi
  have hjb := ho.lt hj
  let g0 : G := ⟨fun _ => none, fun k => if k = 0 then g.κ i else if k = 1 then g.κ j else none, g.I⟩
  have hoi := ho.ok i _ hi
  have hoj := ho.ok j _ hj
  have hk0 : g0.κ 0 = g.κ i := rfl
  have hk1 : g0.κ 1 = g.κ j := rfl
  have hlk0 : ∀ id o, lk id [(1, Ob.vec h2 z e B), (0, Ob.vec h1 z e A)] = some o → (id = 0 ∧ o = .vec h1 z e A) ∨ (id = 1 ∧ o = .vec h2 z e B) := fun id o h => by
    simp only [lk_cons] at h
    split at h
    · rename_i hid; cases h; exact .inr ⟨hid, rfl⟩
    · split at h
      · rename_i hid; cases h; exact .inl ⟨hid, rfl⟩
      · cases h
  have hb0 : ∀ o : Ob, (∃ hd z e els, o = .vec hd z e els) → g0.blk 0 o = g.blk i o := fun o ⟨hd, z, e, els, ho⟩ => by subst ho; rfl
  have hb1 : ∀ o : Ob, (∃ hd z e els, o = .vec hd z e els) → g0.blk 1 o = g.blk j o := fun o ⟨hd, z, e, els, ho⟩ => by subst ho; rfl
  have hown0 : ∀ b, Own g0 ⟨[], [(1, .vec h2 z e B), (0, .vec h1 z e A)], 2⟩ b → g.blk i (.vec h1 z e A) = some b ∨ g.blk j (.vec h2 z e B) = some b := fun b ⟨id, o, h3, h4⟩ => by
    rcases hlk0 id o h3 with ⟨rfl, rfl⟩ | ⟨rfl, rfl⟩
    · exact .inl h4
    · exact .inr h4
  have hownG : ∀ b, Own g0 ⟨[], [(1, .vec h2 z e B), (0, .vec h1 z e A)], 2⟩ b → Own g ⟨[], os, nx⟩ b := fun b h => (hown0 b h).elim (fun h => ⟨i, _, hi, h⟩) fun h => ⟨j, _, hj, h⟩
  have ho0 : RelO g0 ⟨[], [(1, .vec h2 z e B), (0, .vec h1 z e A)], 2⟩ w := by
    refine ⟨fun id o h => ?_, fun id o id' o' b h3 h4 h5 h6 => ?_, fun id hid => ?_, fun b hb => ⟨(ho.imm b hb).1, fun h => (ho.imm b hb).2 (hownG b h)⟩, ho.cel⟩
    · rcases hlk0 id o h with ⟨rfl, rfl⟩ | ⟨rfl, rfl⟩
      · exact hoi
      · exact hoj
    · rcases hlk0 id o h3 with ⟨rfl, rfl⟩ | ⟨rfl, rfl⟩ <;> rcases hlk0 id' o' h4 with ⟨rfl, rfl⟩ | ⟨rfl, rfl⟩
      · rfl
      · exact absurd (ho.apart i _ j _ b hi hj h5 h6) hne
      · exact absurd (ho.apart i _ j _ b hi hj h6 h5) hne
      · rfl
    · have hid' : 2 ≤ id := hid
      refine ⟨rfl, ?_⟩
      show (if id = 0 then g.κ i else if id = 1 then g.κ j else none) = none
      rw [if_neg (by omega), if_neg (by omega)]
  have hvec : ∀ {k k' m : Nat} {v : Value}, g0.κ k' = g.κ k → VRel g w v (.vec k m) → VRel g0 w v (.vec k' m) := fun {k k' m v} hk hv => by
    cases hv with
    | vec a' cap' _ _ a0 len cap hkk hle hm ha hvq => exact .vec _ _ _ _ a0 len cap (by rw [hk]; exact hkk) hle hm ha hvq
  have hv0 : ∀ (k : Nat) (v : Value) (d : D), vs[k]? = some v → (D.vec 0 n :: mid ++ [.vec 1 m])[k]? = some d → VRel g0 w v d := fun k v d hk hd => by
    have hlen : (D.vec i n :: mid ++ [D.vec j m]).length = mid.length + 2 := by simp
    rcases k with _ | k
    · simp at hd; subst hd
      exact hvec hk0 (hv 0 v _ hk (by simp))
    · simp only [List.cons_append, List.getElem?_cons_succ] at hd
      rw [List.getElem?_append] at hd
      split at hd
      · rename_i hlt
        have := hv (k + 1) v d hk (by simp only [List.cons_append, List.getElem?_cons_succ]; rw [List.getElem?_append_left hlt]; exact hd)
        exact hmid d (List.mem_of_getElem? hd) _ _ _ _ this
      · rename_i hlt
        have hk' : k = mid.length := by
          have := (List.getElem?_eq_some_iff.1 hd).1
          simp at this; omega
        subst hk'
        simp at hd; subst hd
        exact hvec hk1 (hv (mid.length + 1) v _ hk (by simp))
  refine (h.2 g0 w vs ho0 (by simpa using hsz) hv0).mono ?_
  rintro ex w' ⟨v, d, g', os', nx', rfl, ⟨k, rfl, hk⟩, hro, hvr, hst⟩
  have hok := hro.ok k _ hk
  obtain ⟨a2, cap2, h6, h7, h8, h9, h10⟩ := hok
  let g2 : G := ⟨g.ρ, fun id => if id = i then some (a2, E.length, cap2) else g.κ id, g'.I⟩
  have h2i : g2.κ i = g'.κ k := by show (if i = i then _ else _) = _; rw [if_pos rfl, h6]
  have h2o : ∀ id, id ≠ i → g2.κ id = g.κ id := fun id hid => if_neg hid
  obtain ⟨a1, cap1, hi1, hi2⟩ := hoi
  have hle : g.Le g2 := by
    refine ⟨fun _ _ h => h, fun id x l c hid => ?_, fun b hb => hst.le.I b hb⟩
    by_cases hii : id = i
    · subst hii
      rw [hi1] at hid
      cases hid
      exact ⟨a2, E.length, cap2, by rw [h2i, h6], by omega, fun e => by omega⟩
    · exact ⟨x, l, c, by rw [h2o id hii]; exact hid, Nat.le_refl _, fun _ => ⟨rfl, rfl⟩⟩
  have hin : ∀ id o, lk id ((i, Ob.vec true z e E) :: rmv os [i, j]) = some o → (id = i ∧ o = .vec true z e E) ∨ (id ≠ i ∧ id ≠ j ∧ lk id os = some o) := fun id o h => by
    simp only [lk_cons, lk_rmv] at h
    split at h
    · rename_i hid; cases h; exact .inl ⟨hid, rfl⟩
    · rename_i hid
      split at h
      · cases h
      · rename_i hid2
        simp at hid2
        exact .inr ⟨hid, hid2.2, h⟩
  have hblko : ∀ id o, id ≠ i → g2.blk id o = g.blk id o := fun id o hid => by
    cases o with
    | box cs => rfl
    | map _ _ => rfl
    | it _ _ => rfl
    | vec _ _ _ _ => simp only [G.blk, h2o id hid]
  have hblki : ∀ b, g2.blk i (.vec true z e E) = some b → g'.blk k (.vec true z e E) = some b := fun b hb => by
    simp only [G.blk, h2i] at hb ⊢
    exact hb
  -- a block of one of the others is not one of these two
  have hrest : ∀ id o b, id ≠ i → id ≠ j → lk id os = some o → g.blk id o = some b → b < w.heap.size ∧ ¬ Own g0 ⟨[], [(1, .vec h2 z e B), (0, .vec h1 z e A)], 2⟩ b := fun id o b h11 h12 h13 h14 => by
    refine ⟨(ho.ok id o h13).lt.1 b h14, fun h15 => ?_⟩
    rcases hown0 b h15 with h16 | h16
    · exact h11 (ho.apart id o i _ b h13 hi h14 h16)
    · exact h12 (ho.apart id o j _ b h13 hj h14 h16)
  have hnew : ∀ b, g'.blk k (.vec true z e E) = some b → Own g' ⟨[], os', nx'⟩ b := fun b hb => ⟨k, _, hk, hb⟩
  have hownN : ∀ b, Own g2 ⟨[], (i, .vec true z e E) :: rmv os [i, j], nx⟩ b → Own g' ⟨[], os', nx'⟩ b ∨ Own g ⟨[], os, nx⟩ b ∧ b < w.heap.size ∧ ¬ Own g0 ⟨[], [(1, .vec h2 z e B), (0, .vec h1 z e A)], 2⟩ b := fun b ⟨id, o, h11, h12⟩ => by
    rcases hin id o h11 with ⟨rfl, rfl⟩ | ⟨h13, h14, h15⟩
    · exact .inl (hnew b (hblki b h12))
    · rw [hblko id o h13] at h12
      exact .inr ⟨⟨id, o, h15, h12⟩, hrest id o b h13 h14 h15 h12⟩
  have hkeep : Keeps g.I w w' := fun b hb => hst.same b (ho.imm b hb).1 fun h => (ho.imm b hb).2 (hownG b h)
  have himm : ∀ b, b < w.heap.size → ¬ Own g ⟨[], os, nx⟩ b → g'.I b → g.I b := fun b hb hno hi' => hst.imm b hb (fun h => hno (hownG b h)) hi'
  refine ⟨v, _, g2, _, nx, rfl, hQ, ⟨fun id o h => ?_, fun id o id' o' b h11 h12 h13 h14 => ?_, fun id hid => ?_, fun b hb => ⟨(hro.imm b hb).1, fun h => ?_⟩, hro.cel⟩, ?_, ⟨hle, hst.size, fun b hb hno => hst.same b hb fun h => hno (hownG b h), fun b hb hno h => ?_, himm, hst.env⟩⟩
  · rcases hin id o h with ⟨rfl, rfl⟩ | ⟨h11, h12, h13⟩
    · exact ⟨a2, cap2, by rw [h2i, h6], h7, h8, h9, h10⟩
    · exact (ho.ok id o h13).mono hkeep hle (fun b hb => hst.same b (hrest id o b h11 h12 h13 hb).1 (hrest id o b h11 h12 h13 hb).2) (h2o id h11)
  · have key : ∀ id o b, id ≠ i → id ≠ j → lk id os = some o → g.blk id o = some b → g'.blk k (.vec true z e E) = some b → False := fun id o b h15 h16 h17 h18 h19 => by
      have := hrest id o b h15 h16 h17 h18
      exact hst.own b this.1 this.2 (hnew b h19)
    rcases hin id o h11 with ⟨rfl, rfl⟩ | ⟨h15, h16, h17⟩ <;> rcases hin id' o' h12 with ⟨rfl, rfl⟩ | ⟨h18, h19, h20⟩
    · rfl
    · rw [hblko id' o' h18] at h14
      exact (key id' o' b h18 h19 h20 h14 (hblki b h13)).elim
    · rw [hblko id o h15] at h13
      exact (key id o b h15 h16 h17 h13 (hblki b h14)).elim
    · rw [hblko id o h15] at h13
      rw [hblko id' o' h18] at h14
      exact ho.apart id o id' o' b h17 h20 h13 h14
  · have := ho.fresh id hid
    have h20 : nx ≤ id := hid
    have h21 : i < nx := hib
    have hne' : id ≠ i := by omega
    exact ⟨this.1, by rw [h2o id hne']; exact this.2⟩
  · rcases hownN b h with h11 | ⟨h11, h12, h13⟩
    · exact (hro.imm b hb).2 h11
    · exact (ho.imm b (hst.imm b h12 h13 hb)).2 h11
  · cases hvr with
    | vec a' cap' _ _ a0 len cap hkk hle' hm ha hvq => exact .vec _ _ _ _ a0 len cap (by rw [h2i]; exact hkk) hle' hm ha hvq
  · rcases hownN b h with h11 | ⟨h11, _⟩
    · exact hst.own b hb (fun h => hno (hownG b h)) h11
    · exact hno h11
end
end Dm
namespace Dm
open Go Go.Proofs Go.IntWalk
@[go_sem] def cclone_r (l : List Ch) : D := .vec 0 l.length
@[go_sem] def cclone_fr (l : List Ch) : Fr := [(7, 67, true, chs l)]
@[go_sem] abbrev n_cclone : FuncId := 142
@[go_sem] def cclone_T : Tab := []
theorem cclone_T_ok : TabOk Tryz.prog cclone_T := TabOk.nil
set_option maxRecDepth 8000 in
set_option maxHeartbeats 1000000 in
theorem cclone_ok (l : List Ch) (h : l.length ≤ 1000000) : FreshFn Tryz.prog 142 [.sl (chs l)] (cclone_r l) (cclone_fr l) := by
  refine .of (ac142 cclone_T_ok (Nat.le_of_ble_eq_true rfl) ?_)
  simp -implicitDefEqProofs only [cd_t, cd_f, cd_dec, cd_not, cd_and, cd_or, grd_tt, grd_ff, grd_tf, grd_ft, grd_dt, grd_df, grd_nt, grd_nf, go_sem, Go.Proofs.Tryz.f142, reduceIte, reduceCtorEq, Nat.reduceEqDiff, Nat.reduceAdd, Nat.reduceLeDiff, Nat.reduceSub, Nat.reduceMul, Nat.reduceLT, Nat.reduceShiftRight, Nat.reduceMod, Int.reduceLE, Int.reduceLT, Int.reduceToNat, decide_true, Bool.and_self, Bool.true_and, Ob.map.injEq, Ob.it.injEq, List.cons.injEq, true_and, and_true]
  refine fun b hb => ⟨fun h => ?_, fun h => ?_⟩
  · exact ⟨[none], by simp [go_sem, hb h], by cases l <;> simp_all [go_sem, chs]⟩
  · exact ⟨by omega, [some 0], by simp [go_sem]⟩
@[go_sem] def cclone_p (l : List Ch) : Prop := (l.length ≤ 1000000)
def sp_cclone : List D → Option (Prop × D × Fr)
  | [.c (.sl z182)] => some (z182 = chs (dchs z182) ∧ cclone_p (dchs z182), cclone_r (dchs z182), cclone_fr (dchs z182))
  | _ => none
attribute [go_sem] sp_cclone
theorem sp_cclone_ok : ∀ rs p r fr, sp_cclone rs = some (p, r, fr) → p → FnOk Tryz.prog 142 rs r fr := by
  intro rs p r fr h hp
  unfold sp_cclone at h
  split at h <;> cases h
  obtain ⟨hc0, hp⟩ := hp
  rename_i z182
  obtain ⟨z182, rfl⟩ : ∃ m, z182 = chs m := ⟨_, hc0⟩
  simp only [dchs_chs]
  simp only [dchs_chs, cclone_p] at hp
  exact (show FnOk _ _ _ _ _ from And.intro rfl (cclone_ok z182 hp))
def whereI (l : List Ch) (h : Nat) : Nat × Int := if okLd l then (match nlk h (hm 0 l) with
  | some i => ((l.getD i.toNat default).id, 0)
  | none => (0, 5)) else (0, 1)
theorem hm_range : ∀ {l : List Ch} {s : Int} {k : Nat} {a : Int}, (k, a) ∈ hm s l → s ≤ a ∧ a < s + l.length
  | [], _, _, _, h => by cases h
  | c :: l, s, k, a, h => by
    rw [hm, List.mem_append] at h
    simp only [List.length_cons]
    rcases h with h | h
    · obtain ⟨x, _, hx⟩ := List.mem_map.1 h
      cases hx
      omega
    · have := hm_range h
      omega
@[go_sem] def lwhere_r (l : List Ch) (h : Nat) : D := .tup [.int .u64 ((whereI l h).1 : Int), .int .i64 (whereI l h).2]
@[go_sem] abbrev n_lwhere : FuncId := 81
@[go_sem] def lwhere_T : Tab := [(87, sp_lread)]
theorem lwhere_T_ok : TabOk Tryz.prog lwhere_T := (TabOk.cons sp_lread_ok TabOk.nil)
set_option maxRecDepth 8000 in
set_option maxHeartbeats 1000000 in
theorem lwhere_ok (l : List Ch) (h : Nat)  : PureFn Tryz.prog 81 [.sl (chs l), .c (.int .u64 (h : Int))] (lwhere_r l h) := by
  refine .of (ac81 lwhere_T_ok (Nat.le_of_ble_eq_true rfl) ?_)
  simp -implicitDefEqProofs only [cd_t, cd_f, cd_dec, cd_not, cd_and, cd_or, grd_tt, grd_ff, grd_tf, grd_ft, grd_dt, grd_df, grd_nt, grd_nf, go_sem, Go.Proofs.Tryz.f81, reduceIte, reduceCtorEq, Nat.reduceEqDiff, Nat.reduceAdd, Nat.reduceLeDiff, Nat.reduceSub, Nat.reduceMul, Nat.reduceLT, Nat.reduceShiftRight, Nat.reduceMod, Int.reduceLE, Int.reduceLT, Int.reduceToNat, decide_true, Bool.and_self, Bool.true_and, Ob.map.injEq, Ob.it.injEq, List.cons.injEq, true_and, and_true]
  by_cases hok : okLd l
  · have e1 : readL l = (hm 0 l, 0) := by rw [readL, if_pos hok]
    rw [e1, whereI, if_pos hok]
    refine ⟨fun _ => ⟨fun a ha => ?_, fun hn => ?_⟩, fun h => absurd rfl h⟩
    · have hnd : ((hm 0 l).map (·.1)).Nodup := by rw [hm_keys]; exact hok.2.2.2.1
      have := hm_range ((nlk_some hnd).1 ha)
      rw [ha]
      exact ⟨⟨by omega, by omega⟩, rfl, rfl⟩
    · rw [hn]; exact ⟨rfl, rfl⟩
  · have e1 : readL l = ([], 1) := by rw [readL, if_neg hok]
    rw [e1, whereI, if_neg hok]
    exact ⟨fun h => absurd h (by decide), fun _ => ⟨rfl, rfl⟩⟩
def sp_lwhere : List D → Option (Prop × D × Fr)
  | [.c (.sl z183), .c (.int .u64 z184)] => some (z183 = chs (dchs z183) ∧ z184 = (z184.toNat : Int), lwhere_r (dchs z183) z184.toNat, [])
  | _ => none
attribute [go_sem] sp_lwhere
theorem sp_lwhere_ok : ∀ rs p r fr, sp_lwhere rs = some (p, r, fr) → p → FnOk Tryz.prog 81 rs r fr := by
  intro rs p r fr h hp
  unfold sp_lwhere at h
  split at h <;> cases h
  obtain ⟨hc0, hc1⟩ := hp
  rename_i z183 z184
  obtain ⟨z183, rfl⟩ : ∃ m, z183 = chs m := ⟨_, hc0⟩
  obtain ⟨z184, rfl⟩ : ∃ m : Nat, z184 = m := ⟨_, hc1⟩
  simp only [Int.toNat_natCast, dchs_chs]
  exact lwhere_ok z183 z184
@[go_sem] def owns_r (l : List Ch) : D := .vec 0 l.length
@[go_sem] def owns_fr (l : List Ch) : Fr := [(7, 67, true, chs l)]
@[go_sem] abbrev n_owns : FuncId := 123
@[go_sem] def owns_T : Tab := [(142, sp_cclone), (124, sp_own)]
theorem owns_T_ok : TabOk Tryz.prog owns_T := (TabOk.cons sp_cclone_ok (TabOk.cons sp_own_ok TabOk.nil))
set_option maxRecDepth 8000 in
set_option maxHeartbeats 1000000 in
theorem owns_ok (l : List Ch) (h : l.length ≤ 1000000 ∧ ∀ c ∈ l, c.holds.length ≤ 1000000) : FreshFn Tryz.prog 123 [.sl (chs l)] (owns_r l) (owns_fr l) := by
  refine .of (ac123 owns_T_ok (Nat.le_of_ble_eq_true rfl) ?_)
  simp -implicitDefEqProofs only [cd_t, cd_f, cd_dec, cd_not, cd_and, cd_or, grd_tt, grd_ff, grd_tf, grd_ft, grd_dt, grd_df, grd_nt, grd_nf, go_sem, Go.Proofs.Tryz.f123, reduceIte, reduceCtorEq, Nat.reduceEqDiff, Nat.reduceAdd, Nat.reduceLeDiff, Nat.reduceSub, Nat.reduceMul, Nat.reduceLT, Nat.reduceShiftRight, Nat.reduceMod, Int.reduceLE, Int.reduceLT, Int.reduceToNat, decide_true, Bool.and_self, Bool.true_and, Ob.map.injEq, Ob.it.injEq, List.cons.injEq, true_and, and_true]
  refine ⟨h.1, fun _ => SWp.loop (ι := { i : Nat // i ≤ l.length }) (fun i => ⟨[(0, .vec 0 l.length), (7, .vec 0 l.length), (8, .int .i64 l.length), (9, .int .i64 i.1)], [(0, .vec true 7 67 (chs l))], 1⟩) (fun i => l.length - i.1) ⟨0, by omega⟩ ?_ ?_⟩
  · simp [go_sem]
  · rintro ⟨i, hi⟩
    refine awp_sound owns_T_ok.toS lv123 _ _ _ rfl ?_
    simp -implicitDefEqProofs only [cd_t, cd_f, cd_dec, cd_not, cd_and, cd_or, grd_tt, grd_ff, grd_tf, grd_ft, grd_dt, grd_df, grd_nt, grd_nf, go_sem, reduceIte, reduceCtorEq, Nat.reduceEqDiff, Nat.reduceAdd, Nat.reduceLeDiff, Nat.reduceSub, Nat.reduceMul, Nat.reduceLT, Nat.reduceShiftRight, Nat.reduceMod, Int.reduceLE, Int.reduceLT, Int.reduceToNat, decide_true, Bool.and_self, Bool.true_and, Ob.map.injEq, Ob.it.injEq, List.cons.injEq, true_and, and_true]
    refine ⟨fun h1 => ?_, fun _ => ⟨[some 0], by simp [go_sem]⟩⟩
    have hi' : i < l.length := by omega
    have hself : l.set i (l.getD i default) = l := by
      rw [getD_lt hi']; exact List.set_getElem_self hi'
    exact ⟨by omega, hi', h.2 _ (mem_getD.2 ⟨i, hi', rfl⟩), by omega, hi', ⟨i + 1, hi'⟩, by dsimp only; omega, i64_in _ (by omega), by rw [hself]⟩
@[go_sem] def owns_p (l : List Ch) : Prop := (l.length ≤ 1000000 ∧ ∀ c ∈ l, c.holds.length ≤ 1000000)
def sp_owns : List D → Option (Prop × D × Fr)
  | [.c (.sl z185)] => some (z185 = chs (dchs z185) ∧ owns_p (dchs z185), owns_r (dchs z185), owns_fr (dchs z185))
  | _ => none
attribute [go_sem] sp_owns
theorem sp_owns_ok : ∀ rs p r fr, sp_owns rs = some (p, r, fr) → p → FnOk Tryz.prog 123 rs r fr := by
  intro rs p r fr h hp
  unfold sp_owns at h
  split at h <;> cases h
  obtain ⟨hc0, hp⟩ := hp
  rename_i z185
  obtain ⟨z185, rfl⟩ : ∃ m, z185 = chs m := ⟨_, hc0⟩
  simp only [dchs_chs]
  simp only [dchs_chs, owns_p] at hp
  exact (show FnOk _ _ _ _ _ from And.intro rfl (owns_ok z185 hp))
end Dm
namespace Dm
open Go Go.Proofs Go.IntWalk
structure Py where
  id : Nat
  hash : Nat
  chan : Nat
  n : Nat
  state : Int
deriving DecidableEq, Inhabited
@[go_sem] def Py.enc (e : Py) : List C := [.int .u64 (e.id : Int), .int .u64 (e.hash : Int), .int .u64 (e.chan : Int), .int .u64 (e.n : Int), .int .i64 e.state]
def Py.dec : List C → Py
  | [.int .u64 z2, .int .u64 z3, .int .u64 z4, .int .u64 z5, .int .i64 z6] => (⟨z2.toNat, z3.toNat, z4.toNat, z5.toNat, z6⟩ : Py)
  | _ => default
def pys (l : List Py) : List (List C) := l.map Py.enc
def dpys (l : List (List C)) : List Py := l.map Py.dec
@[simp, go_sem] theorem pys_length (l : List Py) : (pys l).length = l.length := by simp [pys]
@[go_sem] theorem pys_get (l : List Py) (i : Nat) : (pys l).getD i [.int .u64 0, .int .u64 0, .int .u64 0, .int .u64 0, .int .i64 0] = (l.getD i default).enc := by
  simp only [pys, List.getD_eq_getElem?_getD, List.getElem?_map]
  cases l[i]? <;> rfl
@[go_sem] theorem pys_wide (l : List Py) : Wide 5 (pys l) = True := by
  simp [Wide, pys, Py.enc]
theorem Py.dec_enc (e : Py) : Py.dec e.enc = e := by
  simp [Py.enc, Py.dec]
@[go_sem] theorem dpys_pys (l : List Py) : dpys (pys l) = l := by
  simp only [dpys, pys, List.map_map]
  exact List.map_id'' (fun e => Py.dec_enc e) l
@[go_sem] theorem pys_app (a b : List Py) : pys a ++ pys b = pys (a ++ b) := by simp [pys]
@[go_sem] theorem pys_drop (l : List Py) (k : Nat) : (pys l).drop k = pys (l.drop k) := by simp [pys]
@[go_sem] theorem pys_take (l : List Py) (k : Nat) : (pys l).take k = pys (l.take k) := by simp [pys]
@[go_sem] theorem pys_one (z7 : Int) (z8 : Int) (z9 : Int) (z10 : Int) (z11 : Int) (hz7 : 0 ≤ z7) (hz8 : 0 ≤ z8) (hz9 : 0 ≤ z9) (hz10 : 0 ≤ z10) : [[C.int .u64 z7, C.int .u64 z8, C.int .u64 z9, C.int .u64 z10, C.int .i64 z11]] = pys [⟨z7.toNat, z8.toNat, z9.toNat, z10.toNat, z11⟩] := by simp [pys, Py.enc, Int.toNat_of_nonneg hz7, Int.toNat_of_nonneg hz8, Int.toNat_of_nonneg hz9, Int.toNat_of_nonneg hz10]
@[go_sem] theorem pys_set (l : List Py) (i : Nat) (z7 : Int) (z8 : Int) (z9 : Int) (z10 : Int) (z11 : Int) (hz7 : 0 ≤ z7) (hz8 : 0 ≤ z8) (hz9 : 0 ≤ z9) (hz10 : 0 ≤ z10) : (pys l).set i [C.int .u64 z7, C.int .u64 z8, C.int .u64 z9, C.int .u64 z10, C.int .i64 z11] = pys (l.set i ⟨z7.toNat, z8.toNat, z9.toNat, z10.toNat, z11⟩) := by simp [pys, List.map_set, Py.enc, Int.toNat_of_nonneg hz7, Int.toNat_of_nonneg hz8, Int.toNat_of_nonneg hz9, Int.toNat_of_nonneg hz10]
@[go_sem] theorem pys_cons (l : List Py) (z7 : Int) (z8 : Int) (z9 : Int) (z10 : Int) (z11 : Int) (hz7 : 0 ≤ z7) (hz8 : 0 ≤ z8) (hz9 : 0 ≤ z9) (hz10 : 0 ≤ z10) : [C.int .u64 z7, C.int .u64 z8, C.int .u64 z9, C.int .u64 z10, C.int .i64 z11] :: pys l = pys (⟨z7.toNat, z8.toNat, z9.toNat, z10.toNat, z11⟩ :: l) := by simp [pys, Py.enc, Int.toNat_of_nonneg hz7, Int.toNat_of_nonneg hz8, Int.toNat_of_nonneg hz9, Int.toNat_of_nonneg hz10]
@[go_sem] theorem pys_flat (l : List Py) : flatE (pys l) = True := eq_true fun x hx c hc => by
  obtain ⟨e, _, rfl⟩ := List.mem_map.1 hx
  simp only [Py.enc, List.mem_cons, List.not_mem_nil, or_false] at hc
  rcases hc with rfl | rfl | rfl | rfl | rfl <;> rfl
@[go_sem] theorem Py.eta {e : Py} : (⟨e.id, e.hash, e.chan, e.n, e.state⟩ : Py) = e := rfl
@[go_sem] theorem Py.eqD {a b : Py} : eqD Tryz.prog 50 [D.c (.int .u64 (a.id : Int)), D.c (.int .u64 (a.hash : Int)), D.c (.int .u64 (a.chan : Int)), D.c (.int .u64 (a.n : Int)), D.c (.int .i64 a.state)] [D.c (.int .u64 (b.id : Int)), D.c (.int .u64 (b.hash : Int)), D.c (.int .u64 (b.chan : Int)), D.c (.int .u64 (b.n : Int)), D.c (.int .i64 b.state)] = some (decide (a = b)) := by
  cases a; cases b
  simp only [Dm.eqD, eqOf_50, eqCells, eqC, List.getElem?_cons_zero, List.getElem?_cons_succ, if_true, Option.some.injEq, Py.mk.injEq]
  rw [Bool.eq_iff_iff]
  simp [Int.ofNat_inj]
def okPy1 (x : Py) : Prop := (x.n ≠ 0 ∧ x.n ≤ MM) ∧ 1 ≤ x.state ∧ x.state ≤ 3
instance (x : Py) : Decidable (okPy1 x) := by unfold okPy1; infer_instance
def okPy (l : List Py) : Prop := l.length ≤ 256 ∧ (∀ x ∈ l, okPy1 x) ∧ Srt.Chn Py.id ltN l
instance (l : List Py) : Decidable (Srt.Chn Py.id ltN l) := by unfold Srt.Chn; infer_instance
instance (l : List Py) : Decidable (okPy l) := by unfold okPy; infer_instance
def chkP (l : List Py) : Int := if okPy l then 0 else 1
@[go_sem] def porder_r (x : Py) (id : Nat) : D := .int .i64 (cmpS x.id id)
@[go_sem] abbrev n_porder : FuncId := 95
@[go_sem] def porder_T : Tab := [(133, sp_cmp)]
theorem porder_T_ok : TabOk Tryz.prog porder_T := (TabOk.cons sp_cmp_ok TabOk.nil)
set_option maxRecDepth 8000 in
set_option maxHeartbeats 1000000 in
theorem porder_ok (x : Py) (id : Nat)  : PureFn Tryz.prog 95 [.agg [.c (.int .u64 (x.id : Int)), .c (.int .u64 (x.hash : Int)), .c (.int .u64 (x.chan : Int)), .c (.int .u64 (x.n : Int)), .c (.int .i64 x.state)], .c (.int .u64 (id : Int))] (porder_r x id) := by
  refine .of (ac95 porder_T_ok (Nat.le_of_ble_eq_true rfl) ?_)
  simp -implicitDefEqProofs only [cd_t, cd_f, cd_dec, cd_not, cd_and, cd_or, grd_tt, grd_ff, grd_tf, grd_ft, grd_dt, grd_df, grd_nt, grd_nf, go_sem, Go.Proofs.Tryz.f95, reduceIte, reduceCtorEq, Nat.reduceEqDiff, Nat.reduceAdd, Nat.reduceLeDiff, Nat.reduceSub, Nat.reduceMul, Nat.reduceLT, Nat.reduceShiftRight, Nat.reduceMod, Int.reduceLE, Int.reduceLT, Int.reduceToNat, decide_true, Bool.and_self, Bool.true_and, Ob.map.injEq, Ob.it.injEq, List.cons.injEq, true_and, and_true]
def sp_porder : List D → Option (Prop × D × Fr)
  | [.agg [.c (.int .u64 z13), .c (.int .u64 z14), .c (.int .u64 z15), .c (.int .u64 z16), .c (.int .i64 z17)], .c (.int .u64 z18)] => some (z13 = (z13.toNat : Int) ∧ z14 = (z14.toNat : Int) ∧ z15 = (z15.toNat : Int) ∧ z16 = (z16.toNat : Int) ∧ z18 = (z18.toNat : Int), porder_r (⟨z13.toNat, z14.toNat, z15.toNat, z16.toNat, z17⟩ : Py) z18.toNat, [])
  | _ => none
attribute [go_sem] sp_porder
theorem sp_porder_ok : ∀ rs p r fr, sp_porder rs = some (p, r, fr) → p → FnOk Tryz.prog 95 rs r fr := by
  intro rs p r fr h hp
  unfold sp_porder at h
  split at h <;> cases h
  obtain ⟨hc0, hc1, hc2, hc3, hc4⟩ := hp
  rename_i z13 z14 z15 z16 z17 z18
  obtain ⟨z13, rfl⟩ : ∃ m : Nat, z13 = m := ⟨_, hc0⟩
  obtain ⟨z14, rfl⟩ : ∃ m : Nat, z14 = m := ⟨_, hc1⟩
  obtain ⟨z15, rfl⟩ : ∃ m : Nat, z15 = m := ⟨_, hc2⟩
  obtain ⟨z16, rfl⟩ : ∃ m : Nat, z16 = m := ⟨_, hc3⟩
  obtain ⟨z18, rfl⟩ : ∃ m : Nat, z18 = m := ⟨_, hc4⟩
  simp only [Int.toNat_natCast]
  exact porder_ok ⟨z13, z14, z15, z16, z17⟩ z18
@[go_sem] def pmay_r (p : Py) : D := .bool (decide (okPy1 p))
@[go_sem] abbrev n_pmay : FuncId := 73
@[go_sem] def pmay_T : Tab := [(29, sp_moncheck)]
theorem pmay_T_ok : TabOk Tryz.prog pmay_T := (TabOk.cons sp_moncheck_ok TabOk.nil)
set_option maxRecDepth 8000 in
set_option maxHeartbeats 1000000 in
theorem pmay_ok (p : Py)  : PureFn Tryz.prog 73 [.agg [.c (.int .u64 (p.id : Int)), .c (.int .u64 (p.hash : Int)), .c (.int .u64 (p.chan : Int)), .c (.int .u64 (p.n : Int)), .c (.int .i64 p.state)]] (pmay_r p) := by
  refine .of (ac73 pmay_T_ok (Nat.le_of_ble_eq_true rfl) ?_)
  simp -implicitDefEqProofs only [cd_t, cd_f, cd_dec, cd_not, cd_and, cd_or, grd_tt, grd_ff, grd_tf, grd_ft, grd_dt, grd_df, grd_nt, grd_nf, go_sem, Go.Proofs.Tryz.f73, reduceIte, reduceCtorEq, Nat.reduceEqDiff, Nat.reduceAdd, Nat.reduceLeDiff, Nat.reduceSub, Nat.reduceMul, Nat.reduceLT, Nat.reduceShiftRight, Nat.reduceMod, Int.reduceLE, Int.reduceLT, Int.reduceToNat, decide_true, Bool.and_self, Bool.true_and, Ob.map.injEq, Ob.it.injEq, List.cons.injEq, true_and, and_true]
  have hm : monS [p.n] = 0 ↔ p.n ≤ MM := mon1_0
  rw [hm]
  have ho : okPy1 p ↔ (p.n ≠ 0 ∧ p.n ≤ MM) ∧ 1 ≤ p.state ∧ p.state ≤ 3 := .rfl
  rw [show decide (okPy1 p) = decide ((p.n ≠ 0 ∧ p.n ≤ MM) ∧ 1 ≤ p.state ∧ p.state ≤ 3) from decide_eq_decide.2 ho]
  refine ⟨fun h => ⟨fun h2 => ⟨fun h3 => ?_, fun h3 => ?_⟩, fun h2 => ?_⟩, fun h => ?_⟩
  · rw [decide_eq_decide]; exact ⟨fun h4 => ⟨⟨by omega, h2⟩, h3, h4⟩, fun h4 => h4.2.2⟩
  · exact (decide_eq_false fun h4 => h3 h4.2.1).symm
  · exact (decide_eq_false fun h4 => h2 h4.1.2).symm
  · exact (decide_eq_false fun h4 => h4.1.1 (by omega)).symm
def sp_pmay : List D → Option (Prop × D × Fr)
  | [.agg [.c (.int .u64 z20), .c (.int .u64 z21), .c (.int .u64 z22), .c (.int .u64 z23), .c (.int .i64 z24)]] => some (z20 = (z20.toNat : Int) ∧ z21 = (z21.toNat : Int) ∧ z22 = (z22.toNat : Int) ∧ z23 = (z23.toNat : Int), pmay_r (⟨z20.toNat, z21.toNat, z22.toNat, z23.toNat, z24⟩ : Py), [])
  | _ => none
attribute [go_sem] sp_pmay
theorem sp_pmay_ok : ∀ rs p r fr, sp_pmay rs = some (p, r, fr) → p → FnOk Tryz.prog 73 rs r fr := by
  intro rs p r fr h hp
  unfold sp_pmay at h
  split at h <;> cases h
  obtain ⟨hc0, hc1, hc2, hc3⟩ := hp
  rename_i z20 z21 z22 z23 z24
  obtain ⟨z20, rfl⟩ : ∃ m : Nat, z20 = m := ⟨_, hc0⟩
  obtain ⟨z21, rfl⟩ : ∃ m : Nat, z21 = m := ⟨_, hc1⟩
  obtain ⟨z22, rfl⟩ : ∃ m : Nat, z22 = m := ⟨_, hc2⟩
  obtain ⟨z23, rfl⟩ : ∃ m : Nat, z23 = m := ⟨_, hc3⟩
  simp only [Int.toNat_natCast]
  exact pmay_ok ⟨z20, z21, z22, z23, z24⟩
@[go_sem] def pcheck_r (l : List Py) : D := .int .i64 (chkP l)
@[go_sem] abbrev n_pcheck : FuncId := 93
@[go_sem] def pcheck_T : Tab := [(73, sp_pmay), (95, sp_porder)]
theorem pcheck_T_ok : TabOk Tryz.prog pcheck_T := (TabOk.cons sp_pmay_ok (TabOk.cons sp_porder_ok TabOk.nil))
set_option maxRecDepth 8000 in
set_option maxHeartbeats 1000000 in
theorem pcheck_ok (l : List Py)  : PureFn Tryz.prog 93 [.sl (pys l)] (pcheck_r l) := by
  refine .of (ac93 pcheck_T_ok (Nat.le_of_ble_eq_true rfl) ?_)
  simp -implicitDefEqProofs only [cd_t, cd_f, cd_dec, cd_not, cd_and, cd_or, grd_tt, grd_ff, grd_tf, grd_ft, grd_dt, grd_df, grd_nt, grd_nf, go_sem, Go.Proofs.Tryz.f93, reduceIte, reduceCtorEq, Nat.reduceEqDiff, Nat.reduceAdd, Nat.reduceLeDiff, Nat.reduceSub, Nat.reduceMul, Nat.reduceLT, Nat.reduceShiftRight, Nat.reduceMod, Int.reduceLE, Int.reduceLT, Int.reduceToNat, decide_true, Bool.and_self, Bool.true_and, Ob.map.injEq, Ob.it.injEq, List.cons.injEq, true_and, and_true]
  have hbad : ¬ okPy l → 1 = chkP l := fun h => by rw [chkP, if_neg h]
  refine fun _ => ⟨fun h => hbad fun ho => ?_, fun h _ => ?_⟩
  · have := ho.1; omega
  refine SWp.loop (ι := { i : Nat // i ≤ l.length ∧ (∀ j, j < i → okPy1 (l.getD j default) ∧ (0 < j → (l.getD (j - 1) default).id < (l.getD j default).id)) }) (fun i => ⟨[(0, .sl (pys l)), (8, .sl (pys l)), (9, .int .i64 l.length), (10, .int .i64 i.1)], [], 0⟩) (fun i => l.length - i.1) ⟨0, by simp⟩ ?_ ?_
  · simp [go_sem]
  · rintro ⟨i, hi, hall⟩
    refine awp_sound pcheck_T_ok.toS lv93 _ _ _ rfl ?_
    simp -implicitDefEqProofs only [cd_t, cd_f, cd_dec, cd_not, cd_and, cd_or, grd_tt, grd_ff, grd_tf, grd_ft, grd_dt, grd_df, grd_nt, grd_nf, go_sem, reduceIte, reduceCtorEq, Nat.reduceEqDiff, Nat.reduceAdd, Nat.reduceLeDiff, Nat.reduceSub, Nat.reduceMul, Nat.reduceLT, Nat.reduceShiftRight, Nat.reduceMod, Int.reduceLE, Int.reduceLT, Int.reduceToNat, decide_true, Bool.and_self, Bool.true_and, Ob.map.injEq, Ob.it.injEq, List.cons.injEq, true_and, and_true]
    refine ⟨fun h1 => ⟨by omega, ?_⟩, fun h1 => ?_⟩
    · refine ADraw.run us93_6 pcheck_T_ok follows_mixed (by kernel_rfl) (by kernel_rfl) ?_
      simp -implicitDefEqProofs only [cd_t, cd_f, cd_dec, cd_not, cd_and, cd_or, grd_tt, grd_ff, grd_tf, grd_ft, grd_dt, grd_df, grd_nt, grd_nf, go_sem, reduceIte, reduceCtorEq, Nat.reduceEqDiff, Nat.reduceAdd, Nat.reduceLeDiff, Nat.reduceSub, Nat.reduceMul, Nat.reduceLT, Nat.reduceShiftRight, Nat.reduceMod, Int.reduceLE, Int.reduceLT, Int.reduceToNat, decide_true, Bool.and_self, Bool.true_and, Ob.map.injEq, Ob.it.injEq, List.cons.injEq, true_and, and_true]
      have hi' : i < l.length := by omega
      have hm : okPy l → okPy1 (l.getD i default) := fun h => h.2.1 _ (mem_getD.2 ⟨i, hi', rfl⟩)
      refine ⟨fun h2 => ?_, fun h2 => hbad fun h => h2 (hm h)⟩
      have hnext : (0 < i → (l.getD (i - 1) default).id < (l.getD i default).id) → ∃ i_1 : { i : Nat // i ≤ l.length ∧ (∀ j, j < i → okPy1 (l.getD j default) ∧ (0 < j → (l.getD (j - 1) default).id < (l.getD j default).id)) }, l.length - i_1.val < l.length - i ∧ IntKind.i64.wrap ((i : Int) + 1) = i_1.val := fun ho => by
        refine ⟨⟨i + 1, hi', fun j hj => ?_⟩, by dsimp only; omega, i64_in _ (by omega)⟩
        by_cases hji : j = i
        · subst hji; exact ⟨h2, ho⟩
        · exact hall j (by omega)
      refine ⟨fun h3 => ?_, fun h3 => hnext fun h => absurd h (by omega)⟩
      rw [i64_in _ (by omega), show ((i : Int) - 1).toNat = i - 1 by omega]
      have hc : ∀ a b : Nat, 0 ≤ cmpS a b ↔ ¬ a < b := fun a b => by
        have := cmpS_neg (x := a) (y := b); omega
      rw [hc]
      exact ⟨by omega, fun h4 => hbad fun h => h4 (h.2.2 i hi' (by omega)), fun h4 => hnext fun _ => by omega⟩
    · have hi' : i = l.length := by omega
      subst hi'
      rw [chkP, if_pos]
      exact ⟨by omega, fun x hx => by obtain ⟨j, hj, rfl⟩ := mem_getD.1 hx; exact (hall j hj).1, fun j hj h0 => (hall j hj).2 h0⟩
def sp_pcheck : List D → Option (Prop × D × Fr)
  | [.c (.sl z25)] => some (z25 = pys (dpys z25), pcheck_r (dpys z25), [])
  | _ => none
attribute [go_sem] sp_pcheck
theorem sp_pcheck_ok : ∀ rs p r fr, sp_pcheck rs = some (p, r, fr) → p → FnOk Tryz.prog 93 rs r fr := by
  intro rs p r fr h hp
  unfold sp_pcheck at h
  split at h <;> cases h
  have hc0 := hp
  rename_i z25
  obtain ⟨z25, rfl⟩ : ∃ m, z25 = pys m := ⟨_, hc0⟩
  simp only [dpys_pys]
  exact pcheck_ok z25
def findP (l : List Py) (id : Nat) : Int × Int := if okPy l then ((Srt.pos Py.id ltN l id : Nat), if Srt.thr Py.id ltN l id = true then 0 else 5) else (0, 1)
@[go_sem] def pfind_r (l : List Py) (id : Nat) : D := .tup [.int .i64 (findP l id).1, .int .i64 (findP l id).2]
@[go_sem] abbrev n_pfind : FuncId := 48
@[go_sem] def pfind_T : Tab := [(93, sp_pcheck), (95, sp_porder)]
theorem pfind_T_ok : TabOk Tryz.prog pfind_T := (TabOk.cons sp_pcheck_ok (TabOk.cons sp_porder_ok TabOk.nil))
set_option maxRecDepth 8000 in
set_option maxHeartbeats 1000000 in
theorem pfind_ok (l : List Py) (id : Nat)  : PureFn Tryz.prog 48 [.sl (pys l), .c (.int .u64 (id : Int))] (pfind_r l id) := by
  refine .of (ac48 pfind_T_ok (Nat.le_of_ble_eq_true rfl) ?_)
  simp -implicitDefEqProofs only [cd_t, cd_f, cd_dec, cd_not, cd_and, cd_or, grd_tt, grd_ff, grd_tf, grd_ft, grd_dt, grd_df, grd_nt, grd_nf, go_sem, Go.Proofs.Tryz.f48, reduceIte, reduceCtorEq, Nat.reduceEqDiff, Nat.reduceAdd, Nat.reduceLeDiff, Nat.reduceSub, Nat.reduceMul, Nat.reduceLT, Nat.reduceShiftRight, Nat.reduceMod, Int.reduceLE, Int.reduceLT, Int.reduceToNat, decide_true, Bool.and_self, Bool.true_and, Ob.map.injEq, Ob.it.injEq, List.cons.injEq, true_and, and_true]
  have hcz : chkP l = 0 ↔ okPy l := by unfold chkP; split <;> simp_all
  refine ⟨fun hok0 => ?_, fun hno0 => by
    have hno : ¬ okPy l := fun h => hno0 (hcz.2 h)
    rw [findP, chkP, if_neg hno, if_neg hno]; exact ⟨rfl, rfl⟩⟩
  have hok := hcz.1 hok0
  have hu : Srt.Up Py.id ltN l := (Srt.chn_up (lt := ltN) Srt.totNat).1 hok.2.2
  have hl32 := hok.1
  refine ac94 pfind_T_ok (Nat.le_of_ble_eq_true rfl) ?_
  simp -implicitDefEqProofs only [cd_t, cd_f, cd_dec, cd_not, cd_and, cd_or, grd_tt, grd_ff, grd_tf, grd_ft, grd_dt, grd_df, grd_nt, grd_nf, go_sem, Go.Proofs.Tryz.f94, reduceIte, reduceCtorEq, Nat.reduceEqDiff, Nat.reduceAdd, Nat.reduceLeDiff, Nat.reduceSub, Nat.reduceMul, Nat.reduceLT, Nat.reduceShiftRight, Nat.reduceMod, Int.reduceLE, Int.reduceLT, Int.reduceToNat, decide_true, Bool.and_self, Bool.true_and, Ob.map.injEq, Ob.it.injEq, List.cons.injEq, true_and, and_true]
  refine fun _ => SWp.loop (ι := { x : Nat × Nat // x.1 ≤ x.2 ∧ x.2 ≤ l.length ∧ (∀ k, k < x.1 → (l.getD k default).id < id) ∧ ∀ k, x.2 ≤ k → k < l.length → ¬ (l.getD k default).id < id }) (fun x => ⟨[(0, .sl (pys l)), (1, .int .u64 id), (2, .fn (.func 95) [] []), (8, .int .i64 l.length), (9, .int .i64 x.1.1), (10, .int .i64 x.1.2)], [], 0⟩) (fun x => x.1.2 - x.1.1) ⟨(0, l.length), by simp, by simp, fun k hk => absurd hk (by simp), fun k h1 h2 => absurd h1 (by simpa using h2)⟩ ?_ ?_
  · simp [go_sem]
  · rintro ⟨⟨i, j⟩, hij, hj, hlo, hup⟩
    dsimp only at hij hj hlo hup
    refine awp_sound pfind_T_ok.toS lv94 _ _ _ rfl ?_
    simp -implicitDefEqProofs only [cd_t, cd_f, cd_dec, cd_not, cd_and, cd_or, grd_tt, grd_ff, grd_tf, grd_ft, grd_dt, grd_df, grd_nt, grd_nf, go_sem, reduceIte, reduceCtorEq, Nat.reduceEqDiff, Nat.reduceAdd, Nat.reduceLeDiff, Nat.reduceSub, Nat.reduceMul, Nat.reduceLT, Nat.reduceShiftRight, Nat.reduceMod, Int.reduceLE, Int.reduceLT, Int.reduceToNat, decide_true, Bool.and_self, Bool.true_and, Ob.map.injEq, Ob.it.injEq, List.cons.injEq, true_and, and_true]
    rw [mid_eq hij hj ‹_›]
    refine ⟨fun h4 => ?_, fun h4 => ?_⟩
    · have hm : (i + j) / 2 < l.length := by omega
      rw [cmpS_neg, Int.toNat_natCast]
      refine ⟨by omega, fun h5 => ⟨⟨((i + j) / 2 + 1, j), by dsimp only; omega, hj, fun k hk => ?_, hup⟩, by dsimp only; omega, i64_in _ (by omega), rfl⟩, fun h5 => ⟨⟨(i, (i + j) / 2), by dsimp only; omega, by dsimp only; omega, hlo, fun k hk1 hk2 => ?_⟩, by dsimp only; omega, rfl, rfl⟩⟩
      · dsimp only at hk
        by_cases hkm : k = (i + j) / 2
        · rw [hkm]; omega
        · have := Srt.up_get.1 hu k _ (by omega) hm
          simp only [ltN] at this; omega
      · dsimp only at hk1
        by_cases hkm : k = (i + j) / 2
        · rw [hkm]; omega
        · have := Srt.up_get.1 hu ((i + j) / 2) k (by omega) hk2
          simp only [ltN] at this; omega
    · have hp : Srt.pos Py.id ltN l id = i := Srt.pos_eq (by omega) hlo (fun h => hup i (by omega) h)
      rw [findP, if_pos hok, Srt.thr, hp, cmpS_0]
      refine ⟨fun h5 => ⟨by omega, fun h6 => ?_, fun h6 => ?_⟩, fun h5 => ?_⟩
      · rw [if_pos (decide_eq_true ⟨by omega, by omega⟩)]; exact ⟨rfl, rfl⟩
      · rw [if_neg (by rw [decide_eq_true_iff]; omega)]; exact ⟨rfl, rfl⟩
      · rw [if_neg (by rw [decide_eq_true_iff]; omega)]; exact ⟨rfl, rfl⟩
def sp_pfind : List D → Option (Prop × D × Fr)
  | [.c (.sl z26), .c (.int .u64 z27)] => some (z26 = pys (dpys z26) ∧ z27 = (z27.toNat : Int), pfind_r (dpys z26) z27.toNat, [])
  | _ => none
attribute [go_sem] sp_pfind
theorem sp_pfind_ok : ∀ rs p r fr, sp_pfind rs = some (p, r, fr) → p → FnOk Tryz.prog 48 rs r fr := by
  intro rs p r fr h hp
  unfold sp_pfind at h
  split at h <;> cases h
  obtain ⟨hc0, hc1⟩ := hp
  rename_i z26 z27
  obtain ⟨z26, rfl⟩ : ∃ m, z26 = pys m := ⟨_, hc0⟩
  obtain ⟨z27, rfl⟩ : ∃ m : Nat, z27 = m := ⟨_, hc1⟩
  simp only [Int.toNat_natCast, dpys_pys]
  exact pfind_ok z26 z27
end Dm
namespace Dm
open Go
section
variable {κ : Type} [DecidableEq κ]
def alk (a : κ) : List (κ × Int) → Option Int
  | [] => none
  | (x, y) :: l => if x = a then some y else alk a l
def aset (a : κ) (b : Int) : List (κ × Int) → List (κ × Int)
  | [] => [(a, b)]
  | (x, y) :: l => if x = a then (x, b) :: l else (x, y) :: aset a b l
theorem alk_aset {a k : κ} {b : Int} : ∀ {l : List (κ × Int)}, alk k (aset a b l) = if k = a then some b else alk k l
  | [] => by
    simp only [aset, alk]
    by_cases h : a = k
    · rw [if_pos h, if_pos h.symm]
    · rw [if_neg h, if_neg (fun e => h e.symm)]
  | (x, y) :: l => by
    rw [aset]
    by_cases hx : x = a
    · subst hx
      rw [if_pos rfl, alk, alk]
      by_cases h : x = k
      · rw [if_pos h, if_pos h.symm]
      · rw [if_neg h, if_neg (fun e => h e.symm), if_neg h]
    · rw [if_neg hx, alk, alk, alk_aset]
      by_cases h : x = k
      · rw [if_pos h, if_pos h]
        subst h
        rw [if_neg hx]
      · rw [if_neg h, if_neg h]
end
abbrev K3 := Nat × Nat × Nat
def kv3 (l : List (K3 × Int)) : List (List C × D) := l.map fun x => ([.int .u64 x.1.1, .int .u64 x.1.2.1, .int .u64 x.1.2.2], .int .i64 x.2)
theorem mlk_kv3 {a b c : Nat} : ∀ {l : List (K3 × Int)}, mlk [.int .u64 (a : Int), .int .u64 (b : Int), .int .u64 (c : Int)] (kv3 l) = (alk (a, b, c) l).map fun b => .int .i64 b
  | [] => rfl
  | ((x, y, z), v) :: l => by
    show mlk _ (([.int .u64 (x : Int), .int .u64 (y : Int), .int .u64 (z : Int)], _) :: kv3 l) = _
    rw [mlk, alk]
    by_cases h : (x, y, z) = (a, b, c)
    · rw [if_pos h]; cases h; rw [if_pos rfl]; rfl
    · rw [if_neg h, if_neg, mlk_kv3]
      intro e
      simp only [List.cons.injEq, C.int.injEq, true_and, and_true, Int.natCast_inj] at e
      exact h (by rw [e.1, e.2.1, e.2.2])
attribute [go_sem] mlk_kv3
theorem mset_kv3 {a b c : Nat} {v : Int} : ∀ {l : List (K3 × Int)}, mset [.int .u64 (a : Int), .int .u64 (b : Int), .int .u64 (c : Int)] (.int .i64 v) (kv3 l) = kv3 (aset (a, b, c) v l)
  | [] => rfl
  | ((x, y, z), u) :: l => by
    show mset _ _ (([.int .u64 (x : Int), .int .u64 (y : Int), .int .u64 (z : Int)], _) :: kv3 l) = _
    rw [mset, aset]
    by_cases h : (x, y, z) = (a, b, c)
    · rw [if_pos h]; cases h; rw [if_pos rfl]; rfl
    · rw [if_neg h, if_neg, mset_kv3]
      · rfl
      · intro e
        simp only [List.cons.injEq, C.int.injEq, true_and, and_true, Int.natCast_inj] at e
        exact h (by rw [e.1, e.2.1, e.2.2])
attribute [go_sem] mset_kv3
@[go_sem] theorem bel_kv3 {N : Nat} {l : List (K3 × Int)} : mbel N (kv3 l) = true := by
  simp [mbel, kv3, D.bel2, D.bel1, D.bel0]
@[go_sem] theorem mids_kv3 : ∀ {l : List (K3 × Int)}, (kv3 l).map (·.2) = l.map fun x => D.int .i64 x.2 := by
  intro l; simp [kv3]
@[go_sem] theorem midsL_int {α : Type} {k : IntKind} {f : α → Int} : ∀ {l : List α}, midsL (l.map fun x => D.int k (f x)) = []
  | [] => rfl
  | x :: l => by
    rw [List.map_cons, midsL, midsL_int]; rfl
@[go_sem] theorem midsL_mzero {key : List C} {k : IntKind} {n : Int} : ∀ {kv : List (List C × D)}, midsL ((mzero key (.int k n) kv).map (·.2)) = midsL (kv.map (·.2))
  | [] => rfl
  | (k', d) :: l => by
    rw [mzero]
    split
    · rfl
    · rw [List.map_cons, List.map_cons, midsL, midsL, midsL_mzero]
attribute [go_sem] mput_mset
@[go_sem] theorem mpos_nn {k : List C} {kv : List (List C × D)} : (0 ≤ ((mpos k kv : Nat) : Int)) = True := eq_true (by omega)
@[go_sem] theorem mpos_in {k : List C} {z : D} {kv : List (List C × D)} : (((mpos k kv : Nat) : Int) < (((mzero k z kv).length : Nat) : Int)) = True := eq_true (by have := mpos_lt (k := k) (z := z) (kv := kv); omega)
@[go_sem] theorem getD_mi {o : Option Int} : (o.map fun b => D.int .i64 b).getD (.int .i64 0) = .int .i64 (o.getD 0) := by cases o <;> rfl
@[go_sem] theorem rdD_none {P : Program} {s : St} : rdD P s [] = some (.tup []) := rfl
@[go_sem] theorem rdD_4 {P : Program} {s : St} {r r' r'' r3 : ResultVar} : rdD P s [r, r', r'', r3] = match rd1 P s r, rd1 P s r', rd1 P s r'', rd1 P s r3 with | some x, some y, some z, some u => some (.tup [x, y, z, u]) | _, _, _, _ => none := by
  unfold rdD rds rds rds rds rds
  cases rd1 P s r <;> cases rd1 P s r' <;> cases rd1 P s r'' <;> cases rd1 P s r3 <;> rfl
theorem okL_z {o : Option Int} {d : Option Nat} {s : St} {K : St → Prop} : okL (some (o.map fun b => D.int .i64 b, D.int .i64 0)) false d s K = K (s.put d (.int .i64 (o.getD 0))) := by
  cases o <;> rfl
end Dm
namespace Dm
open Go Go.Proofs Go.IntWalk
def hlC (c : Ch) : List K3 := c.holds.map fun h => (c.id, h.id, h.n)
def hlL (cs : List Ch) : List K3 := cs.flatMap hlC
def pend (l : List Py) : List Py := l.filter fun p => decide (p.state = 1)
def agrL (l : List Py) (cs : List Ch) : Bool × Int := if okPy l ∧ cs.length ≤ 32 ∧ (cs.map Ch.id).Nodup then (decide ((∀ p ∈ pend l, (p.chan, p.id, p.n) ∈ hlL cs) ∧ (hlL cs).length = (pend l).length), 0) else (false, 1)
theorem hl_len : ∀ {cs : List Ch} {n : Nat}, (∀ c ∈ cs, c.holds.length ≤ 1000000) → cs.length ≤ n → (hlL cs).length ≤ n * 1000000
  | [], n, _, _ => by simp [hlL]
  | c :: cs, n, h, hn => by
    have h1 : hlL (c :: cs) = hlC c ++ hlL cs := rfl
    rw [h1, List.length_append]
    have h2 : (hlC c).length ≤ 1000000 := by unfold hlC; rw [List.length_map]; exact h c (.head _)
    have h3 := hl_len (cs := cs) (n := cs.length) (fun d hd => h d (.tail _ hd)) (Nat.le_refl _)
    simp only [List.length_cons] at hn
    omega
@[go_sem] def pagree_r (l : List Py) (cs : List Ch) : D := .tup [.bool (agrL l cs).1, .int .i64 (agrL l cs).2]
@[go_sem] abbrev n_pagree : FuncId := 47
@[go_sem] def pagree_T : Tab := [(93, sp_pcheck)]
theorem pagree_T_ok : TabOk Tryz.prog pagree_T := (TabOk.cons sp_pcheck_ok TabOk.nil)
set_option maxRecDepth 8000 in
set_option maxHeartbeats 1000000 in
theorem pagree_ok (l : List Py) (cs : List Ch) (hs : ∀ c ∈ cs, c.holds.length ≤ 1000000) : PureFn Tryz.prog 47 [.sl (pys l), .sl (chs cs)] (pagree_r l cs) := by
  refine .of (ac47 pagree_T_ok (Nat.le_of_ble_eq_true rfl) ?_)
  simp -implicitDefEqProofs only [cd_t, cd_f, cd_dec, cd_not, cd_and, cd_or, grd_tt, grd_ff, grd_tf, grd_ft, grd_dt, grd_df, grd_nt, grd_nf, go_sem, Go.Proofs.Tryz.f47, reduceIte, reduceCtorEq, Nat.reduceEqDiff, Nat.reduceAdd, Nat.reduceLeDiff, Nat.reduceSub, Nat.reduceMul, Nat.reduceLT, Nat.reduceShiftRight, Nat.reduceMod, Int.reduceLE, Int.reduceLT, Int.reduceToNat, decide_true, Bool.and_self, Bool.true_and, Ob.map.injEq, Ob.it.injEq, List.cons.injEq, true_and, and_true]
  have hbad : ¬ (okPy l ∧ cs.length ≤ 32 ∧ (cs.map Ch.id).Nodup) → false = (agrL l cs).1 ∧ 1 = (agrL l cs).2 := fun h => by rw [agrL, if_neg h]; exact ⟨rfl, rfl⟩
  have hcz : chkP l = 0 ↔ okPy l := by unfold chkP; split <;> rename_i h <;> simp only [h] <;> decide
  refine ⟨fun h0 hl => ⟨fun h => hbad fun ho => ?_, fun hle _ => ?_⟩, fun h0 => hbad fun h => h0 (hcz.2 h.1)⟩
  · have := ho.2.1; omega
  have hok := hcz.1 h0
  refine SWp.loop (ι := { x : Nat × List (K3 × Int) × List (Nat × Int) // x.1 ≤ cs.length ∧ ((cs.take x.1).map Ch.id).Nodup ∧ (∀ k, (alk k x.2.1).getD 0 = (List.count k (hlL (cs.take x.1)) : Nat)) ∧ (∀ k, (nlk k x.2.2).getD 0 = (List.count k ((cs.take x.1).map Ch.id) : Nat)) })
    (fun x => ⟨[(0, .sl (pys l)), (6, .mp 0), (7, .mp 1), (8, .int .i64 (hlL (cs.take x.1.1)).length), (25, .sl (chs cs)), (26, .int .i64 cs.length), (27, .int .i64 x.1.1)], [(1, .map [.int .u64] (kvN .u64 .i64 x.1.2.2)), (0, .map [.int .u64, .int .u64, .int .u64] (kv3 x.1.2.1))], 2⟩) (fun x => cs.length - x.1.1)
    ⟨(0, [], []), by simp, by simp, fun k => by simp [alk, hlL], fun k => by simp [nlk]⟩ ?_ ?_
  · simp [go_sem, kvN, kv3, hlL]
  · rintro ⟨⟨i, m, ids⟩, hi, hnd, hm, hids⟩
    dsimp only at hi hnd hm hids
    refine awp_sound pagree_T_ok.toS lv47 _ _ _ rfl ?_
    simp -implicitDefEqProofs only [cd_t, cd_f, cd_dec, cd_not, cd_and, cd_or, grd_tt, grd_ff, grd_tf, grd_ft, grd_dt, grd_df, grd_nt, grd_nf, go_sem, okL_z, reduceIte, reduceCtorEq, Nat.reduceEqDiff, Nat.reduceAdd, Nat.reduceLeDiff, Nat.reduceSub, Nat.reduceMul, Nat.reduceLT, Nat.reduceShiftRight, Nat.reduceMod, Int.reduceLE, Int.reduceLT, Int.reduceToNat, decide_true, Bool.and_self, Bool.true_and, Ob.map.injEq, Ob.it.injEq, List.cons.injEq, true_and, and_true]
    have hlen : (hlL (cs.take i)).length ≤ i * 1000000 := hl_len (fun c hc => hs c (List.mem_of_mem_take hc)) (by rw [List.length_take]; omega)
    refine ⟨fun h1 => ⟨by omega, ?_⟩, fun h1 _ => ?_⟩
    · have hi' : i < cs.length := by omega
      have hcm : cs.getD i default ∈ cs := mem_getD.2 ⟨i, hi', rfl⟩
      have htk : cs.take (i + 1) = cs.take i ++ [cs.getD i default] := take_succ hi'
      generalize cs.getD i default = c at *
      have hcl := hs c hcm
      have hcle : List.count c.id ((cs.take i).map Ch.id) ≤ 32 := Nat.le_trans List.count_le_length (by simp; omega)
      rw [hids, i64_in _ (by omega), nlk_nset, if_pos rfl]
      generalize hids' : nset c.id ((List.count c.id ((cs.take i).map Ch.id) : Nat) + 1 : Int) ids = ids'
      have hid2 : ∀ k, (nlk k ids').getD 0 = (List.count k ((cs.take (i + 1)).map Ch.id) : Nat) := fun k => by
        rw [← hids', nlk_nset, htk, List.map_append, List.count_append]
        split
        · rename_i h; subst h; simp
        · rename_i h
          rw [hids]; simp [List.count_cons, Ne.symm h]
      refine ⟨fun h2 => hbad fun ho => ?_, fun h2 _ => ?_⟩
      · have h3 : (cs.take (i + 1)).map Ch.id <+: cs.map Ch.id := (List.take_prefix _ _).map _
        have h4 := h3.sublist.nodup ho.2.2
        rw [htk, List.map_append, List.nodup_append] at h4
        have h5 : 0 < List.count c.id ((cs.take i).map Ch.id) := by
          simp only [Option.getD_some] at h2; omega
        exact h4.2.2 _ (List.count_pos_iff.1 h5) c.id (by simp) rfl
      · have hnd' : ((cs.take (i + 1)).map Ch.id).Nodup := by
          rw [htk, List.map_append, List.nodup_append]
          refine ⟨hnd, by simp, fun x hx y hy => ?_⟩
          simp at hy
          rintro rfl
          subst hy
          have := List.count_pos_iff.2 hx
          simp only [Option.getD_some] at h2; omega
        refine SWp.loop (ι := { x : Nat × List (K3 × Int) // x.1 ≤ c.holds.length ∧ ∀ k, (alk k x.2).getD 0 = (List.count k (hlL (cs.take i) ++ (hlC c).take x.1) : Nat) })
          (fun x => ⟨[(0, .sl (pys l)), (6, .mp 0), (7, .mp 1), (8, .int .i64 ((hlL (cs.take i)).length + x.1.1 : Nat)), (10, .ref 2 0), (25, .sl (chs cs)), (26, .int .i64 cs.length), (27, .int .i64 i), (42, .c (.sl (hds c.holds))), (43, .int .i64 c.holds.length), (44, .int .i64 x.1.1)],
            [(2, .box [.c (.int .u64 c.id), .c (.int .u64 c.loc), .c (.int .u64 c.rem), .c (.int .u64 c.res), .c (.int .u64 c.most), .c (.sl (hds c.holds)), .c (.bool c.op)]), (1, .map [.int .u64] (kvN .u64 .i64 ids')), (0, .map [.int .u64, .int .u64, .int .u64] (kv3 x.1.2))], 3⟩) (fun x => c.holds.length - x.1.1)
          ⟨(0, m), by simp, fun k => by simp [hm]⟩ ?_ ?_
        · simp [go_sem]
        · rintro ⟨⟨k, m⟩, hk, hm⟩
          dsimp only at hk hm
          refine awp_sound pagree_T_ok.toS lv47 _ _ _ rfl ?_
          simp -implicitDefEqProofs only [cd_t, cd_f, cd_dec, cd_not, cd_and, cd_or, grd_tt, grd_ff, grd_tf, grd_ft, grd_dt, grd_df, grd_nt, grd_nf, go_sem, okL_z, reduceIte, reduceCtorEq, Nat.reduceEqDiff, Nat.reduceAdd, Nat.reduceLeDiff, Nat.reduceSub, Nat.reduceMul, Nat.reduceLT, Nat.reduceShiftRight, Nat.reduceMod, Int.reduceLE, Int.reduceLT, Int.reduceToNat, decide_true, Bool.and_self, Bool.true_and, Ob.map.injEq, Ob.it.injEq, List.cons.injEq, true_and, and_true]
          refine ⟨fun h3 => ⟨by omega, ?_⟩, fun h3 => ?_⟩
          · refine ADraw.runC us47_13 [0, 0, 2, 0, 14, 31, 63, 63, 159, 511] pagree_T_ok follows_mixed (by kernel_rfl) (by kernel_rfl) (by kernel_rfl) ?_
            simp -implicitDefEqProofs only [cd_t, cd_f, cd_dec, cd_not, cd_and, cd_or, grd_tt, grd_ff, grd_tf, grd_ft, grd_dt, grd_df, grd_nt, grd_nf, go_sem, okL_z, reduceIte, reduceCtorEq, Nat.reduceEqDiff, Nat.reduceAdd, Nat.reduceLeDiff, Nat.reduceSub, Nat.reduceMul, Nat.reduceLT, Nat.reduceShiftRight, Nat.reduceMod, Int.reduceLE, Int.reduceLT, Int.reduceToNat, decide_true, Bool.and_self, Bool.true_and, Ob.map.injEq, Ob.it.injEq, List.cons.injEq, true_and, and_true]
            have hk' : k < c.holds.length := by omega
            have hcl' : (hlC c).length = c.holds.length := by unfold hlC; rw [List.length_map]
            have hct : List.count (c.id, (c.holds.getD k default).id, (c.holds.getD k default).n) (hlL (cs.take i) ++ (hlC c).take k) ≤ i * 1000000 + 1000000 :=
              Nat.le_trans List.count_le_length (by rw [List.length_append, List.length_take]; omega)
            have hstep : (hlC c).take (k + 1) = (hlC c).take k ++ [(c.id, (c.holds.getD k default).id, (c.holds.getD k default).n)] := by
              rw [take_succ (by rw [hcl']; exact hk')]
              congr 2
              unfold hlC
              rw [getD_lt (by rw [List.length_map]; exact hk'), getD_lt hk', List.getElem_map]
            refine ⟨⟨(k + 1, _), hk', fun q => ?_⟩, by dsimp only; omega, ⟨by rw [i64_in _ (by omega)]; dsimp only; omega, i64_in _ (by omega)⟩, rfl⟩
            dsimp only
            rw [hm, i64_in _ (by omega), alk_aset, hstep, ← List.append_assoc]
            generalize hlL (cs.take i) ++ (hlC c).take k = A at *
            generalize (c.id, (c.holds.getD k default).id, (c.holds.getD k default).n) = t at *
            rw [List.count_append, List.count_singleton]
            split
            · rename_i h; subst h
              rw [if_pos (by simp), Option.getD_some]; omega
            · rename_i h
              rw [hm, if_neg (by simpa using Ne.symm h)]; omega
          · have hk' : k = c.holds.length := by omega
            subst hk'
            have hcl' : (hlC c).length = c.holds.length := by unfold hlC; rw [List.length_map]
            have hl1 : hlL (cs.take (i + 1)) = hlL (cs.take i) ++ hlC c := by rw [htk]; simp [hlL]
            refine ⟨⟨(i + 1, m, ids'), hi', hnd', fun q => ?_, hid2⟩, by dsimp only; omega, ⟨by dsimp only; rw [hl1, List.length_append, hcl']; omega, i64_in _ (by omega)⟩, rfl, rfl⟩
            dsimp only
            rw [hm, hl1, ← hcl', List.take_length]
    · have hi' : i = cs.length := by omega
      subst hi'
      rw [List.take_length] at hnd hm hids hlen ⊢
      have hA : okPy l ∧ cs.length ≤ 32 ∧ (cs.map Ch.id).Nodup := ⟨hok, by omega, hnd⟩
      have hl256 := hok.1
      have hpl : ∀ j, (pend (l.take j)).length ≤ 256 := fun j => Nat.le_trans (List.length_filter_le _ _) (by rw [List.length_take]; omega)
      refine SWp.loop (ι := { j : Nat // j ≤ l.length ∧ ∀ p ∈ pend (l.take j), (p.chan, p.id, p.n) ∈ hlL cs }) (fun j => ⟨[(6, .mp 0), (8, .int .i64 ((hlL cs).length - (pend (l.take j.1)).length : Int)), (61, .sl (pys l)), (62, .int .i64 l.length), (63, .int .i64 j.1)], [(1, .map [.int .u64] (kvN .u64 .i64 ids)), (0, .map [.int .u64, .int .u64, .int .u64] (kv3 m))], 2⟩) (fun j => l.length - j.1) ⟨0, by simp [pend]⟩ ?_ ?_
      · simp [go_sem, pend]
      · rintro ⟨j, hj, hin⟩
        have hpj := hpl j
        refine awp_sound pagree_T_ok.toS lv47 _ _ _ rfl ?_
        simp -implicitDefEqProofs only [cd_t, cd_f, cd_dec, cd_not, cd_and, cd_or, grd_tt, grd_ff, grd_tf, grd_ft, grd_dt, grd_df, grd_nt, grd_nf, go_sem, okL_z, reduceIte, reduceCtorEq, Nat.reduceEqDiff, Nat.reduceAdd, Nat.reduceLeDiff, Nat.reduceSub, Nat.reduceMul, Nat.reduceLT, Nat.reduceShiftRight, Nat.reduceMod, Int.reduceLE, Int.reduceLT, Int.reduceToNat, decide_true, Bool.and_self, Bool.true_and, Ob.map.injEq, Ob.it.injEq, List.cons.injEq, true_and, and_true]
        refine ⟨fun h1 => ⟨by omega, fun h2 => ?_, fun h2 => ?_⟩, fun h1 => ?_⟩
        · have hj' : j < l.length := by omega
          have hst : pend (l.take (j + 1)) = pend (l.take j) ++ [l.getD j default] := by
            unfold pend
            rw [take_succ hj', List.filter_append]
            simp only [List.filter_cons, decide_eq_true h2, if_true, List.filter_nil]
          rw [hm]
          refine ⟨fun h3 => ?_, fun h3 => ?_⟩
          · rw [agrL, if_pos hA]
            refine ⟨(decide_eq_false fun h4 => ?_).symm, rfl⟩
            have h5 := h4.1 (l.getD j default) (List.mem_filter.2 ⟨mem_getD.2 ⟨j, hj', rfl⟩, decide_eq_true h2⟩)
            have := List.count_pos_iff.2 h5
            omega
          · refine ⟨⟨j + 1, hj', fun p hp => ?_⟩, by dsimp only; omega, ?_, i64_in _ (by omega)⟩
            · rw [hst] at hp
              rcases List.mem_append.1 hp with hp | hp
              · exact hin p hp
              · rw [List.mem_singleton] at hp
                rw [hp]
                exact List.count_pos_iff.1 (by omega)
            · rw [i64_in _ (by omega)]
              dsimp only
              rw [hst, List.length_append, List.length_singleton]; omega
        · have hj' : j < l.length := by omega
          have hst : pend (l.take (j + 1)) = pend (l.take j) := by
            unfold pend
            rw [take_succ hj', List.filter_append]
            simp only [List.filter_cons, decide_eq_false h2, List.filter_nil, List.append_nil, Bool.false_eq_true, if_false]
          exact ⟨⟨j + 1, hj', fun p hp => hin p (by rwa [hst] at hp)⟩, by dsimp only; omega, by dsimp only; rw [hst], i64_in _ (by omega)⟩
        · have hj' : j = l.length := by omega
          subst hj'
          rw [List.take_length] at hin hpj ⊢
          rw [agrL, if_pos hA]
          refine ⟨?_, rfl⟩
          rw [decide_eq_decide]
          exact ⟨fun h => ⟨hin, by omega⟩, fun h => by omega⟩
@[go_sem] def pagree_p (l : List Py) (cs : List Ch) : Prop := (∀ c ∈ cs, c.holds.length ≤ 1000000)
def sp_pagree : List D → Option (Prop × D × Fr)
  | [.c (.sl z1), .c (.sl z2)] => some (z1 = pys (dpys z1) ∧ z2 = chs (dchs z2) ∧ pagree_p (dpys z1) (dchs z2), pagree_r (dpys z1) (dchs z2), [])
  | _ => none
attribute [go_sem] sp_pagree
theorem sp_pagree_ok : ∀ rs p r fr, sp_pagree rs = some (p, r, fr) → p → FnOk Tryz.prog 47 rs r fr := by
  intro rs p r fr h hp
  unfold sp_pagree at h
  split at h <;> cases h
  obtain ⟨hc0, hc1, hp⟩ := hp
  rename_i z1 z2
  obtain ⟨z1, rfl⟩ : ∃ m, z1 = pys m := ⟨_, hc0⟩
  obtain ⟨z2, rfl⟩ : ∃ m, z2 = chs m := ⟨_, hc1⟩
  simp only [dchs_chs, dpys_pys]
  simp only [dchs_chs, dpys_pys, pagree_p] at hp
  exact pagree_ok z1 z2 hp
end Dm
namespace Dm
open Go Go.Proofs Go.IntWalk
structure Iv where
  hash : Nat
  n : Nat
  till : Nat
  state : Int
deriving DecidableEq, Inhabited
@[go_sem] def Iv.enc (e : Iv) : List C := [.int .u64 (e.hash : Int), .int .u64 (e.n : Int), .int .u64 (e.till : Int), .int .i64 e.state]
def Iv.dec : List C → Iv
  | [.int .u64 z2, .int .u64 z3, .int .u64 z4, .int .i64 z5] => (⟨z2.toNat, z3.toNat, z4.toNat, z5⟩ : Iv)
  | _ => default
def ivs (l : List Iv) : List (List C) := l.map Iv.enc
def divs (l : List (List C)) : List Iv := l.map Iv.dec
@[simp, go_sem] theorem ivs_length (l : List Iv) : (ivs l).length = l.length := by simp [ivs]
@[go_sem] theorem ivs_get (l : List Iv) (i : Nat) : (ivs l).getD i [.int .u64 0, .int .u64 0, .int .u64 0, .int .i64 0] = (l.getD i default).enc := by
  simp only [ivs, List.getD_eq_getElem?_getD, List.getElem?_map]
  cases l[i]? <;> rfl
@[go_sem] theorem ivs_wide (l : List Iv) : Wide 4 (ivs l) = True := by
  simp [Wide, ivs, Iv.enc]
theorem Iv.dec_enc (e : Iv) : Iv.dec e.enc = e := by
  simp [Iv.enc, Iv.dec]
@[go_sem] theorem divs_ivs (l : List Iv) : divs (ivs l) = l := by
  simp only [divs, ivs, List.map_map]
  exact List.map_id'' (fun e => Iv.dec_enc e) l
@[go_sem] theorem ivs_app (a b : List Iv) : ivs a ++ ivs b = ivs (a ++ b) := by simp [ivs]
@[go_sem] theorem ivs_drop (l : List Iv) (k : Nat) : (ivs l).drop k = ivs (l.drop k) := by simp [ivs]
@[go_sem] theorem ivs_take (l : List Iv) (k : Nat) : (ivs l).take k = ivs (l.take k) := by simp [ivs]
@[go_sem] theorem ivs_one (z6 : Int) (z7 : Int) (z8 : Int) (z9 : Int) (hz6 : 0 ≤ z6) (hz7 : 0 ≤ z7) (hz8 : 0 ≤ z8) : [[C.int .u64 z6, C.int .u64 z7, C.int .u64 z8, C.int .i64 z9]] = ivs [⟨z6.toNat, z7.toNat, z8.toNat, z9⟩] := by simp [ivs, Iv.enc, Int.toNat_of_nonneg hz6, Int.toNat_of_nonneg hz7, Int.toNat_of_nonneg hz8]
@[go_sem] theorem ivs_set (l : List Iv) (i : Nat) (z6 : Int) (z7 : Int) (z8 : Int) (z9 : Int) (hz6 : 0 ≤ z6) (hz7 : 0 ≤ z7) (hz8 : 0 ≤ z8) : (ivs l).set i [C.int .u64 z6, C.int .u64 z7, C.int .u64 z8, C.int .i64 z9] = ivs (l.set i ⟨z6.toNat, z7.toNat, z8.toNat, z9⟩) := by simp [ivs, List.map_set, Iv.enc, Int.toNat_of_nonneg hz6, Int.toNat_of_nonneg hz7, Int.toNat_of_nonneg hz8]
@[go_sem] theorem ivs_cons (l : List Iv) (z6 : Int) (z7 : Int) (z8 : Int) (z9 : Int) (hz6 : 0 ≤ z6) (hz7 : 0 ≤ z7) (hz8 : 0 ≤ z8) : [C.int .u64 z6, C.int .u64 z7, C.int .u64 z8, C.int .i64 z9] :: ivs l = ivs (⟨z6.toNat, z7.toNat, z8.toNat, z9⟩ :: l) := by simp [ivs, Iv.enc, Int.toNat_of_nonneg hz6, Int.toNat_of_nonneg hz7, Int.toNat_of_nonneg hz8]
@[go_sem] theorem ivs_flat (l : List Iv) : flatE (ivs l) = True := eq_true fun x hx c hc => by
  obtain ⟨e, _, rfl⟩ := List.mem_map.1 hx
  simp only [Iv.enc, List.mem_cons, List.not_mem_nil, or_false] at hc
  rcases hc with rfl | rfl | rfl | rfl <;> rfl
@[go_sem] theorem Iv.eta {e : Iv} : (⟨e.hash, e.n, e.till, e.state⟩ : Iv) = e := rfl
@[go_sem] theorem Iv.eqD {a b : Iv} : eqD Tryz.prog 139 [D.c (.int .u64 (a.hash : Int)), D.c (.int .u64 (a.n : Int)), D.c (.int .u64 (a.till : Int)), D.c (.int .i64 a.state)] [D.c (.int .u64 (b.hash : Int)), D.c (.int .u64 (b.n : Int)), D.c (.int .u64 (b.till : Int)), D.c (.int .i64 b.state)] = some (decide (a = b)) := by
  cases a; cases b
  simp only [Dm.eqD, eqOf_139, eqCells, eqC, List.getElem?_cons_zero, List.getElem?_cons_succ, if_true, Option.some.injEq, Iv.mk.injEq]
  rw [Bool.eq_iff_iff]
  simp [Int.ofNat_inj]
def okIv1 (x : Iv) : Prop := (x.n ≠ 0 ∧ x.n ≤ MM) ∧ 1 ≤ x.state ∧ x.state ≤ 3
instance (x : Iv) : Decidable (okIv1 x) := by unfold okIv1; infer_instance
def okIv (l : List Iv) : Prop := l.length ≤ 256 ∧ (∀ x ∈ l, okIv1 x) ∧ Srt.Chn Iv.hash ltN l
instance (l : List Iv) : Decidable (Srt.Chn Iv.hash ltN l) := by unfold Srt.Chn; infer_instance
instance (l : List Iv) : Decidable (okIv l) := by unfold okIv; infer_instance
def chkI (l : List Iv) : Int := if okIv l then 0 else 1
@[go_sem] def iorder_r (x : Iv) (id : Nat) : D := .int .i64 (cmpS x.hash id)
@[go_sem] abbrev n_iorder : FuncId := 89
@[go_sem] def iorder_T : Tab := [(133, sp_cmp)]
theorem iorder_T_ok : TabOk Tryz.prog iorder_T := (TabOk.cons sp_cmp_ok TabOk.nil)
set_option maxRecDepth 8000 in
set_option maxHeartbeats 1000000 in
theorem iorder_ok (x : Iv) (id : Nat)  : PureFn Tryz.prog 89 [.agg [.c (.int .u64 (x.hash : Int)), .c (.int .u64 (x.n : Int)), .c (.int .u64 (x.till : Int)), .c (.int .i64 x.state)], .c (.int .u64 (id : Int))] (iorder_r x id) := by
  refine .of (ac89 iorder_T_ok (Nat.le_of_ble_eq_true rfl) ?_)
  simp -implicitDefEqProofs only [cd_t, cd_f, cd_dec, cd_not, cd_and, cd_or, grd_tt, grd_ff, grd_tf, grd_ft, grd_dt, grd_df, grd_nt, grd_nf, go_sem, Go.Proofs.Tryz.f89, reduceIte, reduceCtorEq, Nat.reduceEqDiff, Nat.reduceAdd, Nat.reduceLeDiff, Nat.reduceSub, Nat.reduceMul, Nat.reduceLT, Nat.reduceShiftRight, Nat.reduceMod, Int.reduceLE, Int.reduceLT, Int.reduceToNat, decide_true, Bool.and_self, Bool.true_and, Ob.map.injEq, Ob.it.injEq, List.cons.injEq, true_and, and_true]
def sp_iorder : List D → Option (Prop × D × Fr)
  | [.agg [.c (.int .u64 z11), .c (.int .u64 z12), .c (.int .u64 z13), .c (.int .i64 z14)], .c (.int .u64 z15)] => some (z11 = (z11.toNat : Int) ∧ z12 = (z12.toNat : Int) ∧ z13 = (z13.toNat : Int) ∧ z15 = (z15.toNat : Int), iorder_r (⟨z11.toNat, z12.toNat, z13.toNat, z14⟩ : Iv) z15.toNat, [])
  | _ => none
attribute [go_sem] sp_iorder
theorem sp_iorder_ok : ∀ rs p r fr, sp_iorder rs = some (p, r, fr) → p → FnOk Tryz.prog 89 rs r fr := by
  intro rs p r fr h hp
  unfold sp_iorder at h
  split at h <;> cases h
  obtain ⟨hc0, hc1, hc2, hc3⟩ := hp
  rename_i z11 z12 z13 z14 z15
  obtain ⟨z11, rfl⟩ : ∃ m : Nat, z11 = m := ⟨_, hc0⟩
  obtain ⟨z12, rfl⟩ : ∃ m : Nat, z12 = m := ⟨_, hc1⟩
  obtain ⟨z13, rfl⟩ : ∃ m : Nat, z13 = m := ⟨_, hc2⟩
  obtain ⟨z15, rfl⟩ : ∃ m : Nat, z15 = m := ⟨_, hc3⟩
  simp only [Int.toNat_natCast]
  exact iorder_ok ⟨z11, z12, z13, z14⟩ z15
@[go_sem] def ibill_r (n : Nat) : D := .bool (decide (n ≠ 0 ∧ n ≤ MM))
@[go_sem] abbrev n_ibill : FuncId := 90
@[go_sem] def ibill_T : Tab := [(29, sp_moncheck)]
theorem ibill_T_ok : TabOk Tryz.prog ibill_T := (TabOk.cons sp_moncheck_ok TabOk.nil)
set_option maxRecDepth 8000 in
set_option maxHeartbeats 1000000 in
theorem ibill_ok (n : Nat)  : PureFn Tryz.prog 90 [.c (.int .u64 (n : Int))] (ibill_r n) := by
  refine .of (ac90 ibill_T_ok (Nat.le_of_ble_eq_true rfl) ?_)
  simp -implicitDefEqProofs only [cd_t, cd_f, cd_dec, cd_not, cd_and, cd_or, grd_tt, grd_ff, grd_tf, grd_ft, grd_dt, grd_df, grd_nt, grd_nf, go_sem, Go.Proofs.Tryz.f90, reduceIte, reduceCtorEq, Nat.reduceEqDiff, Nat.reduceAdd, Nat.reduceLeDiff, Nat.reduceSub, Nat.reduceMul, Nat.reduceLT, Nat.reduceShiftRight, Nat.reduceMod, Int.reduceLE, Int.reduceLT, Int.reduceToNat, decide_true, Bool.and_self, Bool.true_and, Ob.map.injEq, Ob.it.injEq, List.cons.injEq, true_and, and_true]
  have hm : monS [n] = 0 ↔ n ≤ MM := mon1_0
  refine ⟨fun h => ?_, fun h => ?_⟩
  · rw [decide_eq_decide, hm]; exact ⟨fun h2 => ⟨by omega, h2⟩, fun h2 => h2.2⟩
  · exact (decide_eq_false fun h2 => h2.1 (by omega)).symm
def sp_ibill : List D → Option (Prop × D × Fr)
  | [.c (.int .u64 z16)] => some (z16 = (z16.toNat : Int), ibill_r z16.toNat, [])
  | _ => none
attribute [go_sem] sp_ibill
theorem sp_ibill_ok : ∀ rs p r fr, sp_ibill rs = some (p, r, fr) → p → FnOk Tryz.prog 90 rs r fr := by
  intro rs p r fr h hp
  unfold sp_ibill at h
  split at h <;> cases h
  have hc0 := hp
  rename_i z16
  obtain ⟨z16, rfl⟩ : ∃ m : Nat, z16 = m := ⟨_, hc0⟩
  simp only [Int.toNat_natCast]
  exact ibill_ok z16
@[go_sem] def icheck_r (l : List Iv) : D := .int .i64 (chkI l)
@[go_sem] abbrev n_icheck : FuncId := 45
@[go_sem] def icheck_T : Tab := [(90, sp_ibill), (89, sp_iorder)]
theorem icheck_T_ok : TabOk Tryz.prog icheck_T := (TabOk.cons sp_ibill_ok (TabOk.cons sp_iorder_ok TabOk.nil))
set_option maxRecDepth 8000 in
set_option maxHeartbeats 1000000 in
theorem icheck_ok (l : List Iv)  : PureFn Tryz.prog 45 [.sl (ivs l)] (icheck_r l) := by
  refine .of (ac45 icheck_T_ok (Nat.le_of_ble_eq_true rfl) ?_)
  simp -implicitDefEqProofs only [cd_t, cd_f, cd_dec, cd_not, cd_and, cd_or, grd_tt, grd_ff, grd_tf, grd_ft, grd_dt, grd_df, grd_nt, grd_nf, go_sem, Go.Proofs.Tryz.f45, reduceIte, reduceCtorEq, Nat.reduceEqDiff, Nat.reduceAdd, Nat.reduceLeDiff, Nat.reduceSub, Nat.reduceMul, Nat.reduceLT, Nat.reduceShiftRight, Nat.reduceMod, Int.reduceLE, Int.reduceLT, Int.reduceToNat, decide_true, Bool.and_self, Bool.true_and, Ob.map.injEq, Ob.it.injEq, List.cons.injEq, true_and, and_true]
  have hbad : ¬ okIv l → 1 = chkI l := fun h => by rw [chkI, if_neg h]
  refine fun _ => ⟨fun h => hbad fun ho => ?_, fun h _ => ?_⟩
  · have := ho.1; omega
  refine SWp.loop (ι := { i : Nat // i ≤ l.length ∧ (∀ j, j < i → okIv1 (l.getD j default) ∧ (0 < j → (l.getD (j - 1) default).hash < (l.getD j default).hash)) }) (fun i => ⟨[(0, .sl (ivs l)), (8, .sl (ivs l)), (9, .int .i64 l.length), (10, .int .i64 i.1)], [], 0⟩) (fun i => l.length - i.1) ⟨0, by simp⟩ ?_ ?_
  · simp [go_sem]
  · rintro ⟨i, hi, hall⟩
    refine awp_sound icheck_T_ok.toS lv45 _ _ _ rfl ?_
    simp -implicitDefEqProofs only [cd_t, cd_f, cd_dec, cd_not, cd_and, cd_or, grd_tt, grd_ff, grd_tf, grd_ft, grd_dt, grd_df, grd_nt, grd_nf, go_sem, reduceIte, reduceCtorEq, Nat.reduceEqDiff, Nat.reduceAdd, Nat.reduceLeDiff, Nat.reduceSub, Nat.reduceMul, Nat.reduceLT, Nat.reduceShiftRight, Nat.reduceMod, Int.reduceLE, Int.reduceLT, Int.reduceToNat, decide_true, Bool.and_self, Bool.true_and, Ob.map.injEq, Ob.it.injEq, List.cons.injEq, true_and, and_true]
    refine ⟨fun h1 => ⟨by omega, ?_⟩, fun h1 => ?_⟩
    · refine ADraw.run us45_6 icheck_T_ok follows_mixed (by kernel_rfl) (by kernel_rfl) ?_
      simp -implicitDefEqProofs only [cd_t, cd_f, cd_dec, cd_not, cd_and, cd_or, grd_tt, grd_ff, grd_tf, grd_ft, grd_dt, grd_df, grd_nt, grd_nf, go_sem, reduceIte, reduceCtorEq, Nat.reduceEqDiff, Nat.reduceAdd, Nat.reduceLeDiff, Nat.reduceSub, Nat.reduceMul, Nat.reduceLT, Nat.reduceShiftRight, Nat.reduceMod, Int.reduceLE, Int.reduceLT, Int.reduceToNat, decide_true, Bool.and_self, Bool.true_and, Ob.map.injEq, Ob.it.injEq, List.cons.injEq, true_and, and_true]
      have hi' : i < l.length := by omega
      have hnext : (0 < i → (l.getD (i - 1) default).hash < (l.getD i default).hash) →
          (¬(l.getD i default).n = 0 ∧ (l.getD i default).n ≤ MM → (¬(l.getD i default).state < 1 → (3 < (l.getD i default).state → 1 = chkI l) ∧ (¬3 < (l.getD i default).state →
              ∃ i_1 : { i : Nat // i ≤ l.length ∧ (∀ j, j < i → okIv1 (l.getD j default) ∧ (0 < j → (l.getD (j - 1) default).hash < (l.getD j default).hash)) }, l.length - i_1.val < l.length - i ∧ IntKind.i64.wrap ((i : Int) + 1) = i_1.val)) ∧ ((l.getD i default).state < 1 → 1 = chkI l)) ∧
          (¬(¬(l.getD i default).n = 0 ∧ (l.getD i default).n ≤ MM) → 1 = chkI l) := fun ho => by
        have hm : okIv l → okIv1 (l.getD i default) := fun h => h.2.1 _ (mem_getD.2 ⟨i, hi', rfl⟩)
        refine ⟨fun h2 => ⟨fun h3 => ⟨fun h4 => hbad fun h => ?_, fun h4 => ⟨⟨i + 1, hi', fun j hj => ?_⟩, by dsimp only; omega, i64_in _ (by omega)⟩⟩, fun h3 => hbad fun h => ?_⟩, fun h2 => hbad fun h => h2 (hm h).1⟩
        · have := (hm h).2.2; omega
        · by_cases hji : j = i
          · subst hji; exact ⟨⟨h2, by omega, by omega⟩, ho⟩
          · exact hall j (by omega)
        · have := (hm h).2.1; omega
      refine ⟨fun h2 => ?_, fun h2 => hnext fun h => absurd h (by omega)⟩
      rw [i64_in _ (by omega), show ((i : Int) - 1).toNat = i - 1 by omega]
      have hc : ∀ a b : Nat, 0 ≤ cmpS a b ↔ ¬ a < b := fun a b => by
        have := cmpS_neg (x := a) (y := b); omega
      rw [hc]
      exact ⟨by omega, fun h3 => hnext fun _ => by omega, fun h3 => hbad fun h => h3 (h.2.2 i hi' (by omega))⟩
    · have hi' : i = l.length := by omega
      subst hi'
      rw [chkI, if_pos]
      exact ⟨by omega, fun x hx => by obtain ⟨j, hj, rfl⟩ := mem_getD.1 hx; exact (hall j hj).1, fun j hj h0 => (hall j hj).2 h0⟩
def sp_icheck : List D → Option (Prop × D × Fr)
  | [.c (.sl z17)] => some (z17 = ivs (divs z17), icheck_r (divs z17), [])
  | _ => none
attribute [go_sem] sp_icheck
theorem sp_icheck_ok : ∀ rs p r fr, sp_icheck rs = some (p, r, fr) → p → FnOk Tryz.prog 45 rs r fr := by
  intro rs p r fr h hp
  unfold sp_icheck at h
  split at h <;> cases h
  have hc0 := hp
  rename_i z17
  obtain ⟨z17, rfl⟩ : ∃ m, z17 = ivs m := ⟨_, hc0⟩
  simp only [divs_ivs]
  exact icheck_ok z17
end Dm
namespace Dm
open Go
def mrk (D : Nat) : Deferred := { target := .collected D, args := #[] }
section
variable {δ : List Deferred} {P : Program} {T : Tab} {g g' g'' : G} {s s' s'' : St} {a : Act} {w w' w'' : World} {n N : Nat}

def SWm (P : Program) (n N : Nat) (c : Code) (Q : Exit → St → Prop) (s : St) : Prop :=
  ∀ (δ : List Deferred) (g : G) (a : Act) (w : World), Rel δ g s a w → a.tmps.size = n →
    c.wp P (fun e a' w' => ∃ (Ds : List Nat) (g' : G) (s' : St), Q e s' ∧ Rel (Ds.map mrk ++ δ) g' s' a' w' ∧ (∀ D ∈ Ds, w.heap.size ≤ D ∧ w'.heap[D]? = some (.deferred (some []))) ∧ Ds.Nodup ∧ a'.tmps.size = n ∧ StepN N g s w g' s' w') a w

theorem SWm.of {c : Code} {Q : Exit → St → Prop} (h : SWp P n N c Q s) : SWm P n N c Q s := fun δ g a w hr hn =>
  wp_mono (h δ g a w hr hn) fun e a' w' ⟨g', s', h1, h2, h3, h4⟩ => ⟨[], g', s', h1, h2, fun D hD => (by cases hD), List.nodup_nil, h3, h4⟩

theorem StepN.other (h : StepN N g s w g' s' w') (ho : RelO g s w) {D : Nat} {o : Obj} (hD : w.heap[D]? = some o) (hc : plainOb o = false) : w'.heap[D]? = some o := by
  rw [h.same D (Array.getElem?_eq_some_iff.1 hD).1 fun hown => ?_, hD]
  obtain ⟨o', h1, h2⟩ := Own.cel ho hown
  rw [h1] at hD
  cases hD
  rw [hc] at h2
  cases h2

theorem SWm.seq {x y : Code} {Q : Exit → St → Prop} (h : SWm P n N x (sq (SWm P n N y Q) Q) s) : SWm P n N (.seq x y) Q s := fun δ g a w hr hn => by
  refine wp_seq (wp_mono (h δ g a w hr hn) fun e a' w' ⟨Ds, g', s', h1, h2, h3, h4, h5, h6⟩ => ?_)
  cases e with
  | normal =>
    refine wp_mono (h1 _ g' a' w' h2 h5) fun e a'' w'' ⟨Ds', g'', s'', h7, h8, h9, h10, h11, h12⟩ => ?_
    refine ⟨Ds' ++ Ds, g'', s'', h7, by simpa using h8, fun D hD => ?_, ?_, h11, h6.trans h12⟩
    · rcases List.mem_append.1 hD with hD | hD
      · exact ⟨Nat.le_trans h6.size (h9 D hD).1, (h9 D hD).2⟩
      · exact ⟨(h3 D hD).1, h12.other h2.o (h3 D hD).2 rfl⟩
    · refine List.nodup_append.2 ⟨h10, h4, fun D hD D' hD' e => ?_⟩
      subst e
      have := (h9 D hD).1
      have := (Array.getElem?_eq_some_iff.1 (h3 D hD').2).1
      omega
  | _ => exact ⟨Ds, g', s', h1, h2, h3, h4, h5, h6⟩

theorem SWm.block {id : Nat} {c : Code} {Q : Exit → St → Prop} (h : SWm P n N c (bl id Q) s) : SWm P n N (.block id c) Q s := fun δ g a w hr hn => by
  refine wp_block (wp_mono (h δ g a w hr hn) fun e a' w' ⟨Ds, g', s', h1, h2, h3, h4, h5, h6⟩ => ?_)
  cases e with
  | exit i =>
    simp only [bl] at h1
    simp only [Exit.inBlock]
    split
    · rename_i hi
      rw [if_pos hi] at h1
      exact ⟨Ds, g', s', h1, h2, h3, h4, h5, h6⟩
    · rename_i hi
      rw [if_neg hi] at h1
      exact ⟨Ds, g', s', h1, h2, h3, h4, h5, h6⟩
  | _ => exact ⟨Ds, g', s', h1, h2, h3, h4, h5, h6⟩

theorem SWm.mono {c : Code} {Q Q' : Exit → St → Prop} (h : SWm P n N c Q s) (hq : ∀ e s', Q e s' → Q' e s') : SWm P n N c Q' s :=
  fun δ g a w hr hn => wp_mono (h δ g a w hr hn) fun e a' w' ⟨Ds, g', s', h1, h2⟩ => ⟨Ds, g', s', hq e s' h1, h2⟩

theorem Ext.grown (h : Ext w w') : w.grownBy w' none := ⟨h.2.2.os, h.2.2.tape, h.2.2.out, h.1, fun k hk _ => h.2.1 k hk⟩

theorem RelO.grown {row : Option Nat} (ho : RelO g s w) (hg : w.grownBy w' row) (hrow : ∀ r, row = some r → ∃ o : Obj, w.heap[r]? = some o ∧ plainOb o = false) : RelO g s w' := by
  have hcel : ∀ b, Cel w b → w'.heap[b]? = w.heap[b]? := fun b hb => hg.block b hb.lt fun e => by
    obtain ⟨o, h1, h2⟩ := hrow b e.symm
    obtain ⟨o', h3, h4⟩ := hb
    rw [h3] at h1
    cases h1
    rw [h4] at h2
    cases h2
  have hk : Keeps g.I w w' := fun b hb => hcel b (ho.cel b hb)
  exact ⟨fun id o h => (ho.ok id o h).mono hk (.refl g) (fun b hb => hcel b (Own.cel ho ⟨id, o, h, hb⟩)) rfl, ho.apart, ho.fresh, fun b hb => ⟨Nat.lt_of_lt_of_le (ho.imm b hb).1 hg.size, (ho.imm b hb).2⟩, fun b hb => (ho.cel b hb).keep (hcel b (ho.cel b hb))⟩
theorem Rel.grown {row : Option Nat} (hr : Rel δ g s a w) (hg : w.grownBy w' row) (hrow : ∀ r, row = some r → ∃ o : Obj, w.heap[r]? = some o ∧ plainOb o = false) : Rel δ g s a w' := by
  have hk : Keeps g.I w w' := fun b hb => hg.block b (hr.o.cel b hb).lt fun e => by
    obtain ⟨o, h1, h2⟩ := hrow b e.symm
    obtain ⟨o', h3, h4⟩ := hr.o.cel b hb
    rw [h3] at h1
    cases h1
    rw [h4] at h2
    cases h2
  exact ⟨fun t d ht => let ⟨v, h1, h2⟩ := hr.tm t d ht; ⟨v, h1, h2.mono hk (.refl g)⟩, hr.defers, hr.o.grown hg hrow⟩
theorem StepN.grown {row : Option Nat} (h : StepN N g s w g' s' w') (hg : w'.grownBy w'' row) (hd : w'.drawn ≤ w''.drawn) (hrow : ∀ r, row = some r → w.heap.size ≤ r) : StepN N g s w g' s' w'' :=
  ⟨h.ρ, h.κ, h.I, Nat.le_trans h.size hg.size, fun b hb ho => (hg.block b (Nat.lt_of_lt_of_le hb h.size) fun e => by have := hrow b e.symm; omega).trans (h.same b hb ho), h.own, h.imm, h.env.trans ⟨hg.os, hg.output, hg.tape, hd⟩⟩

theorem StepN.less {M : Nat} (hNM : N ≤ M) (h : StepN M g s w g' s' w') : StepN N g s w g' s' w' :=
  ⟨fun id b hi => h.ρ id b (by omega), fun id a l c hi => h.κ id a l c (by omega), h.I, h.size, h.same, h.own, h.imm, h.env⟩
def SeqG (P : Program) (gf : FuncId) (lb : Array Value) (I : Nat → Prop) {m : Nat} (ys : Fin m → List D) (order : List (Fin m)) (w : World) : Prop :=
  ∀ (l : Nat) (J Jx : List (Fin m) → World → Prop) (W : World), RowKit.Below w.heap.size w W → (∀ pre A B, J pre A → Ext A B → J pre B) → (∀ pre A B, Jx pre A → Ext A B → Jx pre B) →
    (∀ pre x (vs : Array Value) W1, J pre W1 → pre.length < m → vs.size = (ys x).length → (∀ (j : Nat) (v : Value) (d : D), vs[j]? = some v → (ys x)[j]? = some d → VRel (G0 I) W1 v d) → YieldAt Fence.wide 3 P l vs W1 fun e W' =>
      (e = .returned (.bool true) ∧ J (pre ++ [x]) W' ∧ ∀ b, I b → Cel W1 b → W'.heap[b]? = W1.heap[b]?) ∨ (e = .returned (.bool false) ∧ Jx (pre ++ [x]) W')) →
    J [] W → CallsIn Fence.wide 4 P gf (#[.func (.yield l) #[] #[]] ++ lb) W fun e W' => (∃ v, e = .returned v) ∧ ((∃ xs, xs = order ∧ J xs W') ∨ (∃ pre, pre <+: order ∧ Jx pre W'))
def IterOk (P : Program) (gf : FuncId) (caps : List D) {m : Nat} (ys : Fin m → List D) (order : List (Fin m)) : Prop :=
  (∀ (args : Array Value) (w : World), (callFunc gf args).run P w = .ok (.enter gf args) w) ∧ ∀ (I : Nat → Prop) (w : World) (lb : Array Value), (∀ b, I b → Cel w b) → lb.size = caps.length → (∀ (i : Nat) (v : Value) (d : D), lb[i]? = some v → caps[i]? = some d → VRel (G0 I) w v d) →
    SeqG P gf lb I ys order w

def setps : List Nat → List D → List (Nat × D) → List (Nat × D)
  | p :: l, d :: ds, tm => setps l ds ((p, d) :: tm)
  | _, _, tm => tm
def asg (A : St → Prop) : Exit → St → Prop
  | .normal, s => A s
  | _, _ => False
def rfp (Q : Exit → St → Prop) (s : St) (A : St → Prop) (pfx : Prop) : Exit → St → Prop
  | .normal, s' => A s'
  | .ret, s' => pfx → Q .ret ⟨s.tm, s'.os, s'.nx⟩
  | .exit i, s' => pfx → Q (.exit i) ⟨s.tm, s'.os, s'.nx⟩
  | _, _ => False

theorem setps_rel {δ' : List Deferred} {w : World} : ∀ (ps : List Nat) (ds : List D) (vs : List Value) {tm : List (Nat × D)} {os : List (Nat × Ob)} {nx : Nat} {a : Act}, Rel δ' g ⟨tm, os, nx⟩ a w → vs.length = ds.length → (∀ p ∈ ps, p < a.tmps.size) →
    (∀ (j : Nat) (v : Value) (d : D), vs[j]? = some v → ds[j]? = some d → VRel g w v d) →
    Rel δ' g ⟨setps ps ds tm, os, nx⟩ { tmps := (ps.zip vs).foldl (fun t (p, v) => t.setIfInBounds p v) a.tmps, defers := a.defers } w ∧ ((ps.zip vs).foldl (fun t (p, v) => t.setIfInBounds p v) a.tmps).size = a.tmps.size
  | [], ds, vs, tm, os, nx, a, hr, _, _, _ => ⟨by simpa [setps] using hr, rfl⟩
  | p :: ps, [], [], tm, os, nx, a, hr, _, _, _ => ⟨by simpa [setps] using hr, rfl⟩
  | p :: ps, d :: ds, v :: vs, tm, os, nx, a, hr, hl, hp, hv => by
    have h1 : Rel δ' g ⟨(p, d) :: tm, os, nx⟩ (a.put (some p) v) w := hr.put (some p) (hv 0 v d rfl rfl) (fun x hx => by cases hx; exact hp p (by simp))
    have h2 := setps_rel ps ds vs (a := a.put (some p) v) h1 (by simpa using hl) (fun q hq => by rw [put_size]; exact hp q (by simp [hq])) (fun j u e hu he => hv (j + 1) u e (by simpa using hu) (by simpa using he))
    refine ⟨?_, ?_⟩
    · have := h2.1
      simpa [setps, Act.put] using this
    · have := h2.2
      rw [put_size] at this
      simpa [Act.put] using this

def exOf : Code → Option Exit
  | .ret => some .ret
  | .exit i => some (.exit i)
  | _ => none

def D.pure1 : D → Bool
  | .c _ => true
  | .rp _ => true
  | _ => false
theorem VRel.toG0 {v : Value} {d : D} (hd : d.pure1 = true) (h : VRel g w v d) : VRel (G0 g.I) w v d := by
  cases d <;> simp only [D.pure1, Bool.false_eq_true] at hd
  case c x => cases h with | c _ _ h => exact .c _ _ h
  case rp cs => cases h with | rp b off _ vs hI hc => exact .rp b off cs vs hI hc

theorem SWm.rangeFunc (hT : TabS P T) (lv : Nat → Option (List Nat)) {gop : Operand} {ps : Array Tmp} {assign body : Code} {Q : Exit → St → Prop} {gf : FuncId} {caps : List D} (hev : s.ev gop = .fn (.func gf) [] caps) (hcaps : ∀ d ∈ caps, d.pure1 = true)
    {m : Nat} {ys : Fin m → List D} {order : List (Fin m)} (hit : IterOk P gf caps ys order) (O : List (Fin m) → List (Nat × Ob)) (ok : List (Fin m) → Prop)
    (hps : ∀ x, (ys x).length = ps.size) (hpn : ∀ p ∈ ps.toList, p < n) (hN : N ≤ s.nx)
    (ha1 : plainC assign = true) (ha2 : dstOk n assign = true) (hb1 : plainC body = true) (hb2 : dstOk n body = true)
    (h0 : ok [] ∧ Sub s.nx s ⟨s.tm, O [], s.nx⟩)
    (hround : ∀ pre x, ok pre → pre.length < m → awp P T n s.nx lv assign (asg fun s1 =>
      awp P T n s.nx lv body (rfp Q s (fun s' => ok (pre ++ [x]) ∧ Sub s.nx ⟨s.tm, s'.os, s'.nx⟩ ⟨s.tm, O (pre ++ [x]), s.nx⟩) (pre ++ [x] <+: order)) s1) ⟨setps ps.toList (ys x) s.tm, O pre, s.nx⟩)
    (hdone : ok order → Q .normal ⟨s.tm, O order, s.nx⟩) : SWm P n N (.rangeFunc gop ps assign body) Q s := by
  intro δ g a w hr hn
  have hg := hr.ev gop
  rw [hev] at hg
  generalize hgv : a.eval gop = gv at hg
  cases hg with
  | fn _ fiv lb _ _ h1 h2 h3 h4 =>
  have hfi : fiv = #[] := by
    apply Array.eq_empty_of_size_eq_zero
    simpa using h1
  subst hfi
  obtain ⟨hent, hit⟩ := hit
  have hseq := hit g.I w lb hr.o.cel h2 fun i v d hv hd => (h4 i v d hv hd).toG0 (hcaps d (List.mem_of_getElem? hd))
  have hst0 : ∃ g1, Rel δ g1 ⟨s.tm, O [], s.nx⟩ a w ∧ StepN s.nx g s w g1 ⟨s.tm, O [], s.nx⟩ w := ⟨_, hr.sub h0.2⟩
  refine wpIn_wide (n := 5).1 (wpIn_rangeFunc fun fn _ => ?_)
  obtain ⟨rec, hrec⟩ : ∃ rec : LoopState → Option Code → Loop, rec = fun st pe => { state := st, pending := pe, fn, tmps := a.tmps, params := ps, assign, body, defers := w.heap.size } := ⟨_, rfl⟩
  obtain ⟨W1, hW1⟩ : ∃ W1, (w.alloc (.deferred (some []))).alloc (.loop (rec .ready none)) = W1 := ⟨_, rfl⟩
  have hL1 : W1.heap[w.heap.size + 1]? = some (.loop (rec .ready none)) := by
    rw [← hW1]; have := World.alloc_heap_new (w.alloc (.deferred (some []))) (.loop (rec .ready none)); rwa [World.size_alloc] at this
  have hD1 : W1.heap[w.heap.size]? = some (.deferred (some [])) := by
    rw [← hW1]; exact (RowKit.Below.heap_alloc _ _ _ (by simp)).trans (World.alloc_heap_new w _)
  have hb1' : RowKit.Below w.heap.size w W1 := by
    rw [← hW1]; exact ((RowKit.Below.refl _ w).alloc (Nat.le_refl _) _).alloc (by simp) _
  -- what holds between two rounds
  obtain ⟨J, hJ⟩ : ∃ J : List (Fin m) → World → Prop, J = fun pre W => ok pre ∧ ∃ g1, Rel δ g1 ⟨s.tm, O pre, s.nx⟩ a W ∧ StepN s.nx g s w g1 ⟨s.tm, O pre, s.nx⟩ W := ⟨_, rfl⟩
  obtain ⟨Jx, hJx⟩ : ∃ Jx : Code → List (Fin m) → World → Prop, Jx = fun c pre W => ∃ (e : Exit) (s' : St) (g1 : G), exOf c = some e ∧ (pre <+: order → Q e ⟨s.tm, s'.os, s'.nx⟩) ∧ Rel δ g1 ⟨s.tm, s'.os, s'.nx⟩ a W ∧ StepN s.nx g s w g1 ⟨s.tm, s'.os, s'.nx⟩ W := ⟨_, rfl⟩
  have hJe : ∀ pre W W', J pre W → Ext W W' → J pre W' := by
    intro pre W W' h he
    rw [hJ] at h ⊢
    obtain ⟨h5, g1, h6, h7⟩ := h
    exact ⟨h5, g1, h6.grown he.grown fun r e => (by cases e), h7.grown he.grown he.2.2.drw fun r e => by cases e⟩
  have hJxe : ∀ c pre W W', Jx c pre W → Ext W W' → Jx c pre W' := by
    intro c pre W W' h he
    rw [hJx] at h ⊢
    obtain ⟨e, s', g1, h5, h8, h6, h7⟩ := h
    exact ⟨e, s', g1, h5, h8, h6.grown he.grown fun r e => (by cases e), h7.grown he.grown he.2.2.drw fun r e => by cases e⟩
  have hJg : ∀ pre W W' row, J pre W → W.grownBy W' row → W.drawn ≤ W'.drawn → (∀ r, row = some r → w.heap.size ≤ r ∧ ∃ o : Obj, W.heap[r]? = some o ∧ plainOb o = false) → J pre W' := by
    intro pre W W' row h hgr hdr hrow
    rw [hJ] at h ⊢
    obtain ⟨h5, g1, h6, h7⟩ := h
    exact ⟨h5, g1, h6.grown hgr fun r e => (hrow r e).2, h7.grown hgr hdr fun r e => (hrow r e).1⟩
  have hJxg : ∀ c pre W W' row, Jx c pre W → W.grownBy W' row → W.drawn ≤ W'.drawn → (∀ r, row = some r → w.heap.size ≤ r ∧ ∃ o : Obj, W.heap[r]? = some o ∧ plainOb o = false) → Jx c pre W' := by
    intro c pre W W' row h hgr hdr hrow
    rw [hJx] at h ⊢
    obtain ⟨e, s', g1, h5, h8, h6, h7⟩ := h
    exact ⟨e, s', g1, h5, h8, h6.grown hgr fun r e => (hrow r e).2, h7.grown hgr hdr fun r e => (hrow r e).1⟩
  have hput : ∀ (W : World) (o : Obj), W.heap[w.heap.size + 1]? = some o → plainOb o = false → ∀ r, some (w.heap.size + 1) = some r → w.heap.size ≤ r ∧ ∃ o : Obj, W.heap[r]? = some o ∧ plainOb o = false := fun W o h h' r e => by cases e; exact ⟨by omega, o, h, h'⟩
  have hW1g : ∀ pre, J pre w → J pre W1 := fun pre h => by
    rw [← hW1]
    exact hJg _ _ _ none (hJg _ _ _ none h (World.grownBy_alloc w _ none) (Nat.le_refl _) (fun r e => by cases e)) (World.grownBy_alloc _ _ none) (Nat.le_refl _) fun r e => by cases e
  refine ⟨w.heap.size + 1, [{ target := .collected w.heap.size, args := #[] }], W1, { target := .fn (.func gf) lb, args := #[.func (.yield (w.heap.size + 1)) #[] #[]] }, W1, gf,
    #[.func (.yield (w.heap.size + 1)) #[] #[]] ++ lb, W1, ?_, ?_, ?_, ?_, fun _ => by omega, ?_⟩
  · rw [← hW1, hrec]; exact run_enterLoop_outer _ _ _ _ _
  · simp only [resolve, hgv]
    simp [go_sem]
  · intro f' _; trivial
  · simp [invoke, go_sem, hent]
  · refine (hseq (w.heap.size + 1)
      (fun pre W => J pre W ∧ W.heap[w.heap.size + 1]? = some (.loop (rec .ready none)) ∧ W.heap[w.heap.size]? = some (.deferred (some [])))
      (fun pre W => ∃ c, Jx c pre W ∧ W.heap[w.heap.size + 1]? = some (.loop (rec .done (some c))) ∧ W.heap[w.heap.size]? = some (.deferred (some [])))
      W1 hb1'
      (fun pre A B hs he => ⟨hJe pre A B hs.1 he, (he.2.1 _ (Array.getElem?_eq_some_iff.1 hs.2.1).1).trans hs.2.1, (he.2.1 _ (Array.getElem?_eq_some_iff.1 hs.2.2).1).trans hs.2.2⟩)
      (fun pre A B hs he => by
        obtain ⟨c, hc, hl, hk⟩ := hs
        exact ⟨c, hJxe c pre A B hc he, (he.2.1 _ (Array.getElem?_eq_some_iff.1 hl).1).trans hl, (he.2.1 _ (Array.getElem?_eq_some_iff.1 hk).1).trans hk⟩)
      ?_ ⟨hW1g _ (by rw [hJ]; exact ⟨h0.1, hst0⟩), hL1, hD1⟩).mono ?_
    · -- one round
      rintro pre x vs W ⟨hj, hl, hk⟩ hlen hvs1 hvs2
      rw [hJ] at hj
      obtain ⟨hok, g1, hr1, hs1⟩ := hj
      have hy := run_yield (P := P) (args := vs) hl (by rw [hrec]; exact hvs1.trans (hps x))
      rw [hrec] at hy
      have henc : ∀ (j : Nat) (v : Value) (d : D), vs[j]? = some v → (ys x)[j]? = some d → VRel g1 W v d := fun j v d hv hd =>
        (hvs2 j v d hv hd).of0 (g := g1) fun b hb => hs1.I b hb
      have hset := setps_rel (δ' := []) ps.toList (ys x) vs.toList (a := { tmps := a.tmps, defers := [] }) (g := g1) (w := W) (tm := s.tm) (os := O pre) (nx := s.nx) ⟨hr1.tm, rfl, hr1.o⟩ (by simpa using hvs1) (fun p hp => by show p < a.tmps.size; rw [hn]; exact hpn p hp) (fun j v d hv hd => henc j v d (by simpa using hv) hd)
      have hzip : ((ps.zip vs).foldl (fun t (p, v) => t.setIfInBounds p v) a.tmps) = ((ps.toList.zip vs.toList).foldl (fun t (p, v) => t.setIfInBounds p v) a.tmps) := by
        rw [← Array.foldl_toList, Array.toList_zip]
      refine ⟨fn, _, assign, body, hy, roundIn_of_wpIn trivial ?_⟩
      rw [hzip]
      refine wpIn_mono (awp_in hT lv assign _ _ ha1 ha2 (hround pre x hok hlen) g1 _ W hset.1 (by show _ = n; rw [hset.2]; exact hn)) ?_
      rintro e a2 W2 ⟨g2, s2, h5, h6, h7, h8⟩
      cases e with
      | normal =>
        have h5 : awp P T n s.nx lv body _ s2 := h5
        have hl2 := h8.other hset.1.o hl rfl
        have hk2 := h8.other hset.1.o hk rfl
        refine ⟨_, run_beginRound hl2 (by rw [hrec]), ?_⟩
        obtain ⟨W3, hW3⟩ : ∃ W3, W2.putObj (w.heap.size + 1) (.loop { rec .ready none with state := .busy }) = W3 := ⟨_, rfl⟩
        rw [hW3]
        have hg3 : W2.grownBy W3 (some (w.heap.size + 1)) := by rw [← hW3]; exact grownBy_putObj' _ _ _
        have hlt2 : w.heap.size + 1 < W2.heap.size := (Array.getElem?_eq_some_iff.1 hl2).1
        have hl3 : W3.heap[w.heap.size + 1]? = some (.loop { rec .ready none with state := .busy }) := by rw [← hW3]; exact World.putObj_heap_same hlt2
        have hk3 : W3.heap[w.heap.size]? = some (.deferred (some [])) := by rw [← hW3]; exact (World.putObj_heap_other (by omega)).trans hk2
        have hr3 := h6.grown hg3 fun r e => (hput W2 _ hl2 rfl r e).2
        have hs3 : StepN s.nx g s w g2 ⟨s.tm, s2.os, s2.nx⟩ W3 := ((hs1.tm (tm := s.tm) (tm' := s.tm)).trans (h8.tm (tm := s.tm) (tm' := s.tm))).grown hg3 (by rw [← hW3]; exact Nat.le_refl _) fun r e => (hput W2 _ hl2 rfl r e).1
        refine wpIn_mono (awp_in hT lv body _ _ hb1 hb2 h5 g2 a2 W3 hr3 h7) ?_
        rintro e a4 W4 ⟨g4, s4, h9, h10, h11, h12⟩
        have hl4 := h12.other hr3.o hl3 rfl
        have hk4 := h12.other hr3.o hk3 rfl
        have hs4 : StepN s.nx g s w g4 ⟨s.tm, s4.os, s4.nx⟩ W4 := hs3.trans (h12.tm (tm := s.tm) (tm' := s.tm))
        have hst : Step g s w g4 ⟨s.tm, s4.os, s4.nx⟩ W4 := hs4.step hr.o (Nat.le_refl _)
        have hr4 : Rel δ g4 ⟨s.tm, s4.os, s4.nx⟩ a W4 := ⟨fun t d ht => let ⟨v, h13, h14⟩ := hr.tm t d ht; ⟨v, h13, hst.vrel hr.o h14⟩, hr.defers, h10.o.tm⟩
        have fin : ∀ (jump : Option Code), ∃ W5, (Instr.endRound (w.heap.size + 1) jump).run P W4 = .ok (.bool jump.isNone) W5 ∧ (W4.grownBy W5 (some (w.heap.size + 1)) ∧ W4.drawn ≤ W5.drawn) ∧ W5.heap[w.heap.size + 1]? = some (.loop (rec (if jump.isNone then .ready else .done) jump)) ∧ W5.heap[w.heap.size]? = some (.deferred (some [])) := fun jump => by
          have := run_endRound (P := P) jump hl4
          rw [hrec] at this ⊢
          exact ⟨_, this, ⟨grownBy_putObj' _ _ _, Nat.le_refl _⟩, World.putObj_heap_same (Array.getElem?_eq_some_iff.1 hl4).1, (World.putObj_heap_other (by omega)).trans hk4⟩
        have hkp : ∀ W5, W4.grownBy W5 (some (w.heap.size + 1)) → ∀ b, g.I b → Cel W b → W5.heap[b]? = W.heap[b]? := fun W5 hg5 b hb _ => by
          have h13 : W.heap[b]? = w.heap[b]? := hs1.same b (hr.o.imm b hb).1 (hr.o.imm b hb).2
          have h14 : W4.heap[b]? = w.heap[b]? := hst.same b (hr.o.imm b hb).1 (hr.o.imm b hb).2
          have hlt := (hr.o.imm b hb).1
          rw [h13, ← h14]
          exact hg5.block b (Nat.lt_of_lt_of_le hlt hst.size) fun e => by cases e; omega
        have leave : ∀ (c : Code) (e : Exit), exOf c = some e → (pre ++ [x] <+: order → Q e ⟨s.tm, s4.os, s4.nx⟩) → Jx c (pre ++ [x]) W4 := fun c e h13 h14 => by
          rw [hJx]
          exact ⟨e, s4, g4, h13, h14, hr4, hs4⟩
        cases e with
        | normal =>
          obtain ⟨h13, h14⟩ : ok (pre ++ [x]) ∧ Sub s.nx ⟨s.tm, s4.os, s4.nx⟩ ⟨s.tm, O (pre ++ [x]), s.nx⟩ := h9
          obtain ⟨h15, h16⟩ := hr4.sub h14
          obtain ⟨W5, h17, h18, h19, h20⟩ := fin none
          refine ⟨_, W5, h17, .inl ⟨rfl, ⟨hJg _ W4 W5 _ (by rw [hJ]; exact ⟨h13, _, h15, hs4.trans h16⟩) h18.1 h18.2 (hput W4 _ hl4 rfl), h19, h20⟩, hkp W5 h18.1⟩⟩
        | ret =>
          obtain ⟨W5, h17, h18, h19, h20⟩ := fin (some .ret)
          exact ⟨_, W5, h17, .inr ⟨rfl, .ret, hJxg _ _ W4 W5 _ (leave .ret .ret rfl h9) h18.1 h18.2 (hput W4 _ hl4 rfl), h19, h20⟩⟩
        | exit i =>
          obtain ⟨W5, h17, h18, h19, h20⟩ := fin (some (.exit i))
          exact ⟨_, W5, h17, .inr ⟨rfl, .exit i, hJxg _ _ W4 W5 _ (leave (.exit i) (.exit i) rfl h9) h18.1 h18.2 (hput W4 _ hl4 rfl), h19, h20⟩⟩
        | _ => exact h9.elim
      | _ => exact h5.elim
    · -- behind the iterator
      rintro e W2 ⟨⟨v, rfl⟩, (⟨xs, rfl, hi, hl, hk⟩ | ⟨pre, hSp, c, hi, hl, hk⟩)⟩
      · refine ⟨none, _, by have := run_endLoop (P := P) hl (by rw [hrec]; simp); rw [hrec] at this; exact this, ?_⟩
        have hg3 := grownBy_putObj' W2 (w.heap.size + 1) (.loop { rec .ready none with state := .exhausted })
        have hi3 := hJg _ W2 _ _ hi hg3 (Nat.le_refl _) (hput W2 _ hl rfl)
        have hk3 := (World.putObj_heap_other (w := W2) (r := w.heap.size + 1) (o := .loop { rec .ready none with state := .exhausted }) (k := w.heap.size) (by omega)).trans hk
        rw [hrec] at hi3 hk3
        rw [hJ] at hi3
        obtain ⟨h5, g1, h6, h7⟩ := hi3
        exact ⟨[w.heap.size], g1, _, hdone h5, ⟨h6.tm, by show _ :: a.defers = _; rw [hr.defers]; rfl, h6.o⟩, fun D hD => by simp at hD; subst hD; exact ⟨Nat.le_refl _, hk3⟩, by simp, hn, StepN.less hN h7⟩
      · refine ⟨some c, _, by have := run_endLoop (P := P) hl (by rw [hrec]; simp); rw [hrec] at this; exact this, ?_⟩
        have hg3 := grownBy_putObj' W2 (w.heap.size + 1) (.loop { rec .done (some c) with state := .exhausted })
        have hi3 := hJxg c _ W2 _ _ hi hg3 (Nat.le_refl _) (hput W2 _ hl rfl)
        have hk3 := (World.putObj_heap_other (w := W2) (r := w.heap.size + 1) (o := .loop { rec .done (some c) with state := .exhausted }) (k := w.heap.size) (by omega)).trans hk
        rw [hrec] at hi3 hk3
        rw [hJx] at hi3
        have hfin : ∀ Wf, (∃ (e : Exit) (s' : St) (g1 : G), exOf c = some e ∧ (pre <+: order → Q e ⟨s.tm, s'.os, s'.nx⟩) ∧ Rel δ g1 ⟨s.tm, s'.os, s'.nx⟩ a Wf ∧ StepN s.nx g s w g1 ⟨s.tm, s'.os, s'.nx⟩ Wf) → Wf.heap[w.heap.size]? = some (.deferred (some [])) →
            c.wpIn Fence.wide 5 P (fun e a' w' => ∃ (Ds : List Nat) (g' : G) (s' : St), Q e s' ∧ Rel (Ds.map mrk ++ δ) g' s' a' w' ∧ (∀ D ∈ Ds, w.heap.size ≤ D ∧ w'.heap[D]? = some (.deferred (some []))) ∧ Ds.Nodup ∧ a'.tmps.size = n ∧ StepN N g s w g' s' w') { a with defers := [{ target := .collected w.heap.size, args := #[] }] ++ a.defers } Wf := by
          rintro Wf ⟨e, s', g1, h5, h8, h6, h7⟩ hkf
          have key : ∃ (Ds : List Nat) (g' : G) (s' : St), Q e s' ∧ Rel (Ds.map mrk ++ δ) g' s' { a with defers := [{ target := .collected w.heap.size, args := #[] }] ++ a.defers } Wf ∧ (∀ D ∈ Ds, w.heap.size ≤ D ∧ Wf.heap[D]? = some (.deferred (some []))) ∧ Ds.Nodup ∧ a.tmps.size = n ∧ StepN N g s w g' s' Wf :=
            ⟨[w.heap.size], g1, _, h8 hSp, ⟨h6.tm, by show _ :: a.defers = _; rw [hr.defers]; rfl, h6.o⟩, fun D hD => by simp at hD; subst hD; exact ⟨Nat.le_refl _, hkf⟩, by simp, hn, StepN.less hN h7⟩
          cases c <;> simp only [exOf, reduceCtorEq, Option.some.injEq] at h5
          · subst h5; exact wpIn_exit key
          · subst h5; exact wpIn_ret key
        exact hfin _ hi3 hk3
end
end Dm
namespace Dm
open Go
section
variable {δ : List Deferred} {P : Program} {T : Tab} {g g' g'' : G} {s s' s'' : St} {a : Act} {w w' w'' : World} {n N : Nat}

theorem leaves_marks {m : Nat} {fn : Func} {tmps : Array Value} {R : Ending → World → Prop} (K : World → Prop) : ∀ (Ds : List Nat) (w : World), Ds.Nodup → (∀ D ∈ Ds, w.heap[D]? = some (.deferred (some []))) → K w →
    (∀ W D, D ∈ Ds → K W → W.heap[D]? = some (.deferred (some [])) → K (W.putObj D (.deferred none))) → (∀ W, K W → ∃ v, (results fn tmps).run P W = .ok v W ∧ R (.returned v) W) →
    LeavesInM Fence.wide m P fn tmps R (Ds.map mrk) .returning w
  | [], w, _, _, hK, _, h => h w hK
  | D :: Ds, w, hn, hD, hK, hs, h => by
    obtain ⟨hn1, hn2⟩ := List.nodup_cons.1 hn
    refine ⟨by simp, .inl ⟨D, _, rfl, run_takeDeferred (hD D (by simp)), ?_⟩⟩
    refine leaves_marks K Ds _ hn2 (fun D' hD' => ?_) (hs w D (by simp) hK (hD D (by simp))) (fun W D' hD' => hs W D' (by simp [hD'])) h
    have hne : D' ≠ D := fun e => hn1 (by rw [← e]; exact hD')
    exact (World.putObj_heap_other hne).trans (hD D' (by simp [hD']))

theorem acall_introM {f : FuncId} {fn : Func} {c : Code} {ds : List D} {os : List (Nat × Ob)} {nx : Nat} {Q : D → List (Nat × Ob) → Nat → Prop}
    (hf : P.funcs[f]? = some fn) (hname : (fn.name == "runtime.NumGoroutine") = false) (hb : fn.body = some c) (hn : fn.ntmps = n) (hl : ds.length ≤ n) {rs : List ResultVar} (hrs : fn.results.toList = rs)
    (h : SWm P n nx c (fin P rs Q) ⟨prm 0 ds, os, nx⟩) : ACall P f ds os nx Q := by
  refine ⟨⟨fn, hf, hname, by rw [hb]; rfl⟩, fun g w vs ho hsz hv => ?_⟩
  refine callsIn_wide (n := 5).1 (callsIn_of_wp_marks hf hb trivial (wpIn_wide.2 ?_))
  subst hn
  have hr : Rel [] g ⟨prm 0 ds, os, nx⟩ { tmps := vs ++ Array.replicate (fn.ntmps - vs.size) undef, defers := [] } w := by
    refine ⟨fun t d ht => ?_, rfl, ho.tm⟩
    obtain ⟨_, h2⟩ := lk_prm ds 0 t d ht
    rw [Nat.sub_zero] at h2
    have ht : t < vs.size := by
      rw [hsz]
      rcases Nat.lt_or_ge t ds.length with h | h
      · exact h
      · rw [List.getElem?_eq_none h] at h2; cases h2
    refine ⟨vs[t], ?_, hv t _ d (Array.getElem?_eq_getElem ht) h2⟩
    rw [Array.getElem?_append_left ht, Array.getElem?_eq_getElem ht]
  refine wp_mono (h [] g _ w hr (by simp; omega)) fun e a' w' ⟨Ds, g', s', h1, h2, h3, h4, h5, h6⟩ => ?_
  rw [List.append_nil] at h2
  have fin : ∀ (hq : rto (rdD P s' rs) s' Q), LeavesInM Fence.wide 5 P fn a'.tmps (fun e w' => ∃ v d g' os' nx', e = .returned v ∧ Q d os' nx' ∧ RelO g' ⟨[], os', nx'⟩ w' ∧ VRel g' w' v d ∧ Step g ⟨[], os, nx⟩ w g' ⟨[], os', nx'⟩ w') a'.defers .returning w' := by
    intro hq
    rw [h2.defers]
    refine leaves_marks (fun W => Rel (Ds.map mrk) g' s' a' W ∧ StepN nx g ⟨prm 0 ds, os, nx⟩ w g' s' W) Ds w' h4 (fun D hD => (h3 D hD).2) ⟨h2, h6⟩ (fun W D hD hK hd => ?_) (fun W hK => ?_)
    · have hg := grownBy_putObj' W D (.deferred none)
      exact ⟨hK.1.grown hg fun r e => by cases e; exact ⟨_, hd, rfl⟩, hK.2.grown hg (Nat.le_refl _) fun r e => by cases e; exact (h3 D hD).1⟩
    · unfold rto at hq
      split at hq
      · rename_i d hrd
        obtain ⟨v, h7, h8⟩ := rdD_sound hK.1 fn hrs hrd
        exact ⟨v, h7, v, d, g', s'.os, s'.nx, rfl, hq, hK.1.o.tm, h8, (hK.2.tm (tm := []) (tm' := [])).step ho (Nat.le_refl _)⟩
      · cases hq
  cases e with
  | normal => exact fin h1
  | ret => exact fin h1
  | _ => cases h1

theorem SWm.awp (hT : TabS P T) (lv : Nat → Option (List Nat)) {c : Code} {Q : Exit → St → Prop} (hd : dstOk n c = true) (h : awp P T n N lv c Q s) : SWm P n N c Q s := SWm.of (awp_sound hT lv c Q s hd h)
end
end Dm
