import Derived.Test.YtfngdpmbhfejcaaBack
set_option linter.unusedSimpArgs false
set_option linter.unusedVariables false
namespace Dm
open Go Go.Proofs Go.IntWalk
def sp26 : List D → Option (Prop × D × Fr)
  | [.c (.int .i64 k)] => some (True, .bool (kindS k), [])
  | _ => none
def sp25 : List D → Option (Prop × D × Fr)
  | [.c (.sl els)] => some (els = evs (devs els), .fn (.func 30) [] [.rp [.sl els]], [])
  | _ => none
attribute [go_sem] sp26 sp25
def tab0 : Tab := [(26, sp26), (25, sp25)]
attribute [go_sem] tab0 setps asg rfp
theorem tab0_ok : TabOk Try.prog tab0 := by
  refine .cons (fun rs p r fr h hp => ?_) (.cons (fun rs p r fr h hp => ?_) .nil)
  · unfold sp26 at h
    split at h <;> cases h
    exact kind_ok _
  · unfold sp25 at h
    split at h <;> cases h
    rename_i els
    rw [hp]
    exact back_ok _
/-- The events, counted down from the next one's number. -/
def okE (n : Int) : List Ev → Bool
  | [] => true
  | e :: r => decide (e.seq = n - (r.length + 1)) && kindS e.kind && okE n r
def checkS (n : Int) (l : List Ev) : Int :=
  if 1 ≤ n ∧ n ≤ 4611686018427387904 ∧ (l.length : Int) = min (n - 1) 64 ∧ okE n l = true then 0 else 1
theorem okE_get (n : Int) : ∀ (l : List Ev), okE n l = true ↔ ∀ i : Nat, i < l.length → (l.getD i default).seq = n - (l.length - i : Int) ∧ kindS (l.getD i default).kind = true
  | [] => by simp [okE]
  | e :: r => by
    rw [okE, Bool.and_eq_true, Bool.and_eq_true, okE_get n r, decide_eq_true_eq]
    constructor
    · rintro ⟨⟨h1, h2⟩, h3⟩ i hi
      cases i with
      | zero => simp [h1, h2]
      | succ i =>
        have := h3 i (by simpa using hi)
        simp only [List.getD_cons_succ, List.length_cons]
        refine ⟨?_, this.2⟩
        rw [this.1]
        omega
    · intro h
      refine ⟨?_, fun i hi => ?_⟩
      · have := h 0 (by simp)
        simp at this
        exact ⟨by rw [this.1], this.2⟩
      · have := h (i + 1) (by simpa using hi)
        simp only [List.getD_cons_succ, List.length_cons] at this
        refine ⟨?_, this.2⟩
        rw [this.1]
        omega
theorem check_bad {n : Int} {l : List Ev} {pre : List (Fin l.length)} {x : Fin l.length} (h : pre ++ [x] <+: (List.finRange l.length).reverse)
    (hb : ¬ ((l.getD x.1 default).seq = n - (pre.length + 1 : Int) ∧ kindS (l.getD x.1 default).kind = true)) : checkS n l = 1 := by
  unfold checkS
  rw [if_neg]
  rintro ⟨_, _, _, h4⟩
  obtain ⟨t, ht⟩ := h
  have h5 : (List.finRange l.length).reverse[pre.length]? = some x := by rw [← ht]; simp
  have h6 := (okE_get n l).1 h4 x.1 x.2
  have hlt : pre.length < l.length := by
    have := (List.getElem?_eq_some_iff.1 h5).1
    simpa using this
  have h7 : x.1 = l.length - 1 - pre.length := by
    rw [List.getElem?_eq_getElem (by simpa using hlt)] at h5
    simp at h5
    rw [← h5]
  refine hb ⟨?_, h6.2⟩
  rw [h6.1, h7]
  omega
set_option maxRecDepth 4000 in
theorem check_ok (n : Int) (l : List Ev) (h : 0 ≤ n ∧ n ≤ 18446744073709551615) : PureFn Try.prog 10 [.agg [.int .u64 n, .sl (evs l)]] (.int .i64 (checkS n l)) := by
  refine .of (acall_introM (n := 44) (fn := Try.f10) (by kernel_rfl) rfl rfl rfl (Nat.le_of_ble_eq_true rfl) (rs := [.cell 2 28]) rfl ?_)
  refine SWm.seq (SWm.awp tab0_ok.toS lv10 rfl ?_)
  simp -implicitDefEqProofs only [cd_t, cd_f, cd_dec, cd_not, cd_and, cd_or, grd_tt, grd_ff, grd_tf, grd_ft, grd_dt, grd_df, grd_nt, grd_nf, go_sem, reduceIte, reduceCtorEq, Nat.reduceEqDiff, Nat.reduceAdd, Nat.reduceLeDiff, Nat.reduceSub, Nat.reduceMul, Nat.reduceLT]
  refine SWm.seq (SWm.awp tab0_ok.toS lv10 rfl ?_)
  simp -implicitDefEqProofs only [cd_t, cd_f, cd_dec, cd_not, cd_and, cd_or, grd_tt, grd_ff, grd_tf, grd_ft, grd_dt, grd_df, grd_nt, grd_nf, go_sem, reduceIte, reduceCtorEq, Nat.reduceEqDiff, Nat.reduceAdd, Nat.reduceLeDiff, Nat.reduceSub, Nat.reduceMul, Nat.reduceLT]
  refine ⟨fun h1 => ⟨fun h2 h3 => ⟨fun h4 => ?_, fun h4 => ?_⟩, fun h2 => ?_⟩, fun h1 => ?_⟩
  · refine SWm.seq (SWm.awp tab0_ok.toS lv10 rfl ?_)
    simp -implicitDefEqProofs only [cd_t, cd_f, cd_dec, cd_not, cd_and, cd_or, grd_tt, grd_ff, grd_tf, grd_ft, grd_dt, grd_df, grd_nt, grd_nf, go_sem, reduceIte, reduceCtorEq, Nat.reduceEqDiff, Nat.reduceAdd, Nat.reduceLeDiff, Nat.reduceSub, Nat.reduceMul, Nat.reduceLT]
    refine SWm.seq (SWm.seq (SWm.awp tab0_ok.toS lv10 rfl ?_))
    simp -implicitDefEqProofs only [cd_t, cd_f, cd_dec, cd_not, cd_and, cd_or, grd_tt, grd_ff, grd_tf, grd_ft, grd_dt, grd_df, grd_nt, grd_nf, go_sem, reduceIte, reduceCtorEq, Nat.reduceEqDiff, Nat.reduceAdd, Nat.reduceLeDiff, Nat.reduceSub, Nat.reduceMul, Nat.reduceLT]
    have hle : (l.length : Int) ≤ 64 ∧ (l.length : Int) ≤ n - 1 := by
      rw [u64_in l.length (by omega), u64_in (n - 1) (by omega)] at h4
      omega
    have hlen : l.length ≤ 1000000 := by omega
    refine SWm.block (SWm.rangeFunc tab0_ok.toS lv10 (caps := [.rp [.sl (evs l)]]) rfl (by simp [D.pure1]) (back_iter l hlen)
      (fun pre => [(2, .box [.int .u64 (n - pre.length)]), (1, .box [.int .i64 0]), (0, .box [.int .u64 n, .sl (evs l)])])
      (fun pre => ∀ (j : Nat) (x : Fin l.length), pre[j]? = some x → (l.getD x.1 default).seq = n - (j + 1) ∧ kindS (l.getD x.1 default).kind = true)
      (fun x => rfl) (by decide) (Nat.zero_le _) rfl rfl rfl rfl ?_ ?_ ?_)
    · simp [go_sem]
    · intro pre x hok hpre
      simp -implicitDefEqProofs only [cd_t, cd_f, cd_dec, cd_not, cd_and, cd_or, grd_tt, grd_ff, grd_tf, grd_ft, grd_dt, grd_df, grd_nt, grd_nf, go_sem, reduceIte, reduceCtorEq, Nat.reduceEqDiff, Nat.reduceAdd, Nat.reduceLeDiff, Nat.reduceSub, Nat.reduceMul, Nat.reduceLT]
      have hw : IntKind.u64.wrap (n - pre.length - 1) = n - (pre.length + 1 : Int) := by rw [u64_in _ (by omega)]; omega
      rw [hw]
      refine ⟨fun h5 => ⟨fun h6 => ⟨fun j y hj => ?_, ?_⟩, fun h6 hp => ?_⟩, fun h5 hp => ?_⟩
      · rw [List.getElem?_append] at hj
        split at hj
        · exact hok j y hj
        · rename_i hge
          have : j = pre.length := by
            have := (List.getElem?_eq_some_iff.1 hj).1
            simp at this
            omega
          subst this
          simp at hj
          subst hj
          exact ⟨h5, h6⟩
      · simp [go_sem]
      · exact (check_bad hp fun h => by rw [h6] at h; cases h.2).symm
      · exact (check_bad hp fun h => h5 h.1).symm
    · intro hok
      refine SWm.awp tab0_ok.toS lv10 rfl ?_
      simp -implicitDefEqProofs only [cd_t, cd_f, cd_dec, cd_not, cd_and, cd_or, grd_tt, grd_ff, grd_tf, grd_ft, grd_dt, grd_df, grd_nt, grd_nf, go_sem, reduceIte, reduceCtorEq, Nat.reduceEqDiff, Nat.reduceAdd, Nat.reduceLeDiff, Nat.reduceSub, Nat.reduceMul, Nat.reduceLT]
      have h2' : ¬ (4611686018427387904 < n) := by simpa using h2
      rw [u64_in l.length (by omega), u64_in (n - 1) (by omega)] at h4
      have hE : okE n l = true := by
        rw [okE_get]
        intro i hi
        have h5 : (List.finRange l.length).reverse[l.length - 1 - i]? = some ⟨i, hi⟩ := by
          rw [List.getElem?_eq_getElem (by simp; omega)]
          simp
          try omega
        obtain ⟨h6, h7⟩ := hok _ _ h5
        refine ⟨?_, h7⟩
        rw [h6]
        omega
      unfold checkS
      rw [if_pos ⟨by omega, by omega, h4, hE⟩]
  · have h2' : ¬ (4611686018427387904 < n) := by simpa using h2
    rw [u64_in l.length (by omega), u64_in (n - 1) (by omega)] at h4
    unfold checkS
    rw [if_neg (fun h => h4 h.2.2.1)]
  · have h2' : 4611686018427387904 < n := by simpa using h2
    unfold checkS
    rw [if_neg (fun h => by omega)]
  · unfold checkS
    rw [if_neg (fun h => by omega)]
end Dm
