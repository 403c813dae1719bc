import Derived.Test.YtfngdpmbhfejcaaF4
import Derived.Test.YtfngdpmbhfejcaaS21
set_option linter.unusedSimpArgs false
set_option linter.unusedVariables false
namespace Dm
open Go Go.Proofs Go.IntWalk
def sp11 : List D → Option (Prop × D × Fr)
  | [.agg [.c (.int .u64 n), .c (.sl els)], .c (.int .i64 k), .c (.int .u64 a), .c (.int .u64 b)] => some (els = evs (devs els) ∧ 0 ≤ n ∧ n ≤ 18446744073709551615 ∧ els.length ≤ 1000000,
      .tup [.agg [.int .u64 (addS n (devs els) k a b).1, .sl (evs (addS n (devs els) k a b).2.1)], .int .u64 (addS n (devs els) k a b).2.2.1, .int .i64 (addS n (devs els) k a b).2.2.2], [])
  | _ => none
def sp12 : List D → Option (Prop × D × Fr)
  | [.agg [.c (.int .u64 n), .c (.sl els)]] => some (els = evs (devs els) ∧ 0 ≤ n ∧ n ≤ 18446744073709551615, .tup [.int .u64 (oldestS n (devs els)).1, .int .i64 (oldestS n (devs els)).2], [])
  | _ => none
def sp13 : List D → Option (Prop × D × Fr)
  | [.c (.sl els), .c (.sl els')] => some (els = evs (devs els) ∧ els' = evs (devs els'), .bool (decide (devs els = devs els')), [])
  | _ => none
def sp23 : List D → Option (Prop × D × Fr)
  | [] => some (True, .agg [.int .u64 1, .sl []], [])
  | _ => none
def sp9 : List D → Option (Prop × D × Fr)
  | [] => some (True, .bool true, [])
  | _ => none
attribute [go_sem] sp11 sp12 sp13 sp23 sp9
def tab2 : Tab := [(11, sp11), (12, sp12), (13, sp13), (23, sp23)] ++ tab1
def tab3 : Tab := (9, sp9) :: tab2
attribute [go_sem] tab2 tab3
theorem tab2_ok : TabOk Try.prog tab2 := by
  refine .cons (fun rs p r fr h hp => ?_) (.cons (fun rs p r fr h hp => ?_) (.cons (fun rs p r fr h hp => ?_) (.cons (fun rs p r fr h hp => ?_) tab1_ok)))
  · unfold sp11 at h
    split at h <;> cases h
    rw [hp.1, devs_evs]
    exact add_ok _ _ _ _ _ ⟨hp.2.1, hp.2.2.1⟩ (by have := hp.2.2.2; rw [hp.1] at this; simpa using this)
  · unfold sp12 at h
    split at h <;> cases h
    rw [hp.1, devs_evs]
    exact oldest_ok _ _ hp.2
  · unfold sp13 at h
    split at h <;> cases h
    rw [hp.1, hp.2, devs_evs, devs_evs]
    exact same_ok _ _
  · unfold sp23 at h
    split at h <;> cases h
    exact new_ok
def lf : Nat → Int × List Ev
  | 0 => (1, [])
  | i + 1 => ((addS (lf i).1 (lf i).2 1 2 3).1, (addS (lf i).1 (lf i).2 1 2 3).2.1)
def lfOk (i : Nat) : Bool := decide ((addS (lf i).1 (lf i).2 1 2 3).2.2.2 = 0) && decide (0 ≤ (lf i).1 ∧ (lf i).1 ≤ 100) && decide ((lf i).2.length ≤ 64)
theorem lf_all : ((List.range 71).all lfOk && decide (oldestS (lf 70).1 (lf 70).2 = (7, 0)) && decide ((lf 70).2.length = 64)) = true := by kernel_rfl
theorem lf_facts (i : Nat) (hi : i ≤ 70) : (addS (lf i).1 (lf i).2 1 2 3).2.2.2 = 0 ∧ (0 ≤ (lf i).1 ∧ (lf i).1 ≤ 100) ∧ (lf i).2.length ≤ 64 := by
  have h := lf_all
  simp only [Bool.and_eq_true] at h
  have h2 := List.all_eq_true.1 h.1.1 i (List.mem_range.2 (by omega))
  simpa only [lfOk, Bool.and_eq_true, decide_eq_true_eq, and_assoc] using h2
theorem lf_last : oldestS (lf 70).1 (lf 70).2 = (7, 0) ∧ (lf 70).2.length = 64 := by
  have h := lf_all
  simp only [Bool.and_eq_true, decide_eq_true_eq] at h
  exact ⟨h.1.2, h.2⟩
set_option maxRecDepth 4000 in
theorem live_ok : PureFn Try.prog 9 [] (.bool true) := by
  refine .of (ac9 tab2_ok (Nat.le_of_ble_eq_true rfl) ?_)
  simp -implicitDefEqProofs only [cd_t, cd_f, cd_dec, cd_not, cd_and, cd_or, grd_tt, grd_ff, grd_tf, grd_ft, grd_dt, grd_df, grd_nt, grd_nf, go_sem, Go.Proofs.Try.f9, reduceIte, reduceCtorEq, Nat.reduceEqDiff, Nat.reduceAdd, Nat.reduceLeDiff, Nat.reduceSub, Nat.reduceMul, Nat.reduceLT]
  refine SWp.loop (ι := { i : Nat // i ≤ 70 }) (fun i => ⟨[(1, .ref 0 0), (8, .int .i64 i.1)], [(0, .box [.int .u64 (lf i.1).1, .sl (evs (lf i.1).2)])], 1⟩) (fun i => 70 - i.1) ⟨0, by omega⟩ ?_ ?_
  · simp [go_sem, lf, evs]
  · rintro ⟨i, hi⟩
    refine awp_sound tab2_ok.toS lv9 _ _ _ rfl ?_
    simp -implicitDefEqProofs only [cd_t, cd_f, cd_dec, cd_not, cd_and, cd_or, grd_tt, grd_ff, grd_tf, grd_ft, grd_dt, grd_df, grd_nt, grd_nf, go_sem, reduceIte, reduceCtorEq, Nat.reduceEqDiff, Nat.reduceAdd, Nat.reduceLeDiff, Nat.reduceSub, Nat.reduceMul, Nat.reduceLT]
    obtain ⟨h1, h2, h3⟩ := lf_facts i hi
    refine ⟨fun h => ⟨⟨by omega, by omega, by omega⟩, fun _ => ⟨⟨i + 1, by omega⟩, by show _ < _; dsimp only; omega, ?_⟩, fun h4 => h4 h1⟩, fun h => ?_⟩
    · rw [i64_in _ (by omega)]
      simp [go_sem, lf]
    · have : i = 70 := by omega
      subst this
      obtain ⟨h5, h6⟩ := lf_last
      refine ⟨by omega, fun _ => ⟨fun _ _ => by simp [h6], fun h => h (by rw [h5])⟩, fun h => h (by rw [h5])⟩
theorem tab3_ok : TabOk Try.prog tab3 := by
  refine .cons (fun rs p r fr h hp => ?_) tab2_ok
  unfold sp9 at h
  split at h <;> cases h
  exact live_ok
def u8s (l : List Int) : List (List C) := l.map fun k => [.int .u8 k]
def Ev.rng (e : Ev) : Prop := (0 ≤ e.seq ∧ e.seq ≤ 18446744073709551615) ∧ (-9223372036854775808 ≤ e.kind ∧ e.kind ≤ 9223372036854775807) ∧ (0 ≤ e.a ∧ e.a ≤ 18446744073709551615) ∧ (0 ≤ e.n ∧ e.n ≤ 18446744073709551615)
@[simp, go_sem] theorem u8s_length (l : List Int) : (u8s l).length = l.length := by simp [u8s]
@[go_sem] theorem u8s_get (l : List Int) (i : Nat) : (u8s l).getD i [.int .u8 0] = [.int .u8 (l.getD i 0)] := by
  simp only [u8s, List.getD_eq_getElem?_getD, List.getElem?_map]
  cases l[i]? <;> rfl
@[go_sem] theorem u8s_wide (l : List Int) : Wide 1 (u8s l) = True := by
  simp [Wide, u8s]
def newE (n : Int) (ks : List Int) (i : Nat) : Ev := ⟨n + i, ks.getD i 0 % 16, i, ks.getD i 0⟩
def allE (n : Int) (l : List Ev) (ks : List Int) : Nat → List Ev
  | 0 => l
  | i + 1 => allE n l ks i ++ [newE n ks i]
def keepE (n : Int) (l : List Ev) (ks : List Int) (i : Nat) : List Ev := (allE n l ks i).drop ((allE n l ks i).length - 64)
theorem okE_snoc (n : Int) (e : Ev) : ∀ l : List Ev, okE (n + 1) (l ++ [e]) = (okE n l && (decide (e.seq = n) && kindS e.kind))
  | [] => by simp only [List.nil_append, okE, List.length_nil, Bool.and_true, Bool.true_and]; congr 2; simp
  | x :: l => by
    rw [List.cons_append, okE, okE_snoc n e l, okE]
    rw [List.length_append, List.length_singleton]
    have : n + 1 - (((l.length + 1 : Nat) : Int) + 1) = n - (l.length + 1) := by omega
    rw [this, Bool.and_assoc]
    simp only [Bool.and_assoc]
theorem okE_drop (n : Int) : ∀ (l : List Ev) (j : Nat), okE n l = true → okE n (l.drop j) = true
  | [], j, _ => by simp [okE]
  | x :: l, 0, h => h
  | x :: l, j + 1, h => by
    rw [okE, Bool.and_eq_true] at h
    exact okE_drop n l j h.2
theorem allE_length (n : Int) (l : List Ev) (ks : List Int) : ∀ i, (allE n l ks i).length = l.length + i
  | 0 => rfl
  | i + 1 => by rw [allE, List.length_append, allE_length n l ks i]; simp; omega
theorem kindS_mod (k : Int) : kindS (k % 16) = true := by
  simp only [kindS, Bool.and_eq_true, decide_eq_true_eq]
  omega
theorem allE_ok {n : Int} {l : List Ev} (ks : List Int) (h : okE n l = true) : ∀ i : Nat, okE (n + i) (allE n l ks i) = true
  | 0 => by simpa [allE] using h
  | i + 1 => by
    have := okE_snoc (n + i) (newE n ks i) (allE n l ks i)
    rw [allE, Int.natCast_add, Int.natCast_one, ← Int.add_assoc, this, allE_ok ks h i, newE, kindS_mod]
    simp
theorem keepE_length (n : Int) (l : List Ev) (ks : List Int) (i : Nat) : (keepE n l ks i).length = min (l.length + i) 64 := by
  rw [keepE, List.length_drop, allE_length]
  omega
theorem keepE_check {n : Int} {l : List Ev} (ks : List Int) (h : checkS n l = 0) (hn : n ≤ 2305843009213693952) (i : Nat) (hi : i ≤ 200) : checkS (n + i) (keepE n l ks i) = 0 := by
  obtain ⟨h1, h2, h3, h4⟩ := checkS_0 h
  unfold checkS
  rw [if_pos]
  refine ⟨by omega, by omega, ?_, okE_drop _ _ _ (allE_ok ks h4 i)⟩
  rw [keepE_length]
  omega
theorem keepE_succ (n : Int) (l : List Ev) (ks : List Int) (i : Nat) : keepE n l ks (i + 1) = (keepE n l ks i ++ [newE n ks i]).drop ((keepE n l ks i).length + 1 - 64) := by
  rw [keepE_length]
  unfold keepE
  rw [allE, List.length_append, List.length_singleton, allE_length]
  rw [← List.drop_append_of_le_length (by rw [allE_length]; omega), List.drop_drop]
  congr 1
  omega
theorem keepE_add {n : Int} {l : List Ev} (ks : List Int) (h : checkS n l = 0) (hn : n ≤ 2305843009213693952) (i : Nat) (hi : i ≤ 200) :
    addS (n + i) (keepE n l ks i) (ks.getD i 0 % 16) i (ks.getD i 0) = (n + i + 1, keepE n l ks (i + 1), n + i, 0) := by
  rw [addS, if_pos ⟨keepE_check ks h hn i hi, kindS_mod _⟩, if_neg (by omega), keepE_succ]
  rfl
set_option maxRecDepth 4000 in
theorem keeps_ok (n : Int) (l : List Ev) (ks : List Int) (hn : 0 ≤ n ∧ n ≤ 18446744073709551615) (hl : ∀ e ∈ l, e.rng) (hk : ∀ k ∈ ks, 0 ≤ k ∧ k ≤ 255) : PureFn Try.prog 3 [.agg [.int .u64 n, .sl (evs l)], .sl (u8s ks)] (.bool true) := by
  refine .of (ac3 tab3_ok (Nat.le_of_ble_eq_true rfl) ?_)
  simp -implicitDefEqProofs only [cd_t, cd_f, cd_dec, cd_not, cd_and, cd_or, grd_tt, grd_ff, grd_tf, grd_ft, grd_dt, grd_df, grd_nt, grd_nf, go_sem, Go.Proofs.Try.f3, reduceIte, reduceCtorEq, Nat.reduceEqDiff, Nat.reduceAdd, Nat.reduceLeDiff, Nat.reduceSub, Nat.reduceMul, Nat.reduceLT]
  refine fun h1 => ⟨fun h2 h3 => ⟨fun h4 => ⟨hn, fun h5 => ⟨fun _ => trivial, fun h6 => ⟨by omega, fun _ => ?_⟩⟩, fun _ => trivial⟩, fun _ => trivial⟩, fun _ => trivial⟩
  obtain ⟨hc1, hc2, hc3, hc4⟩ := checkS_0 h5
  refine SWp.loop (ι := {i // i ≤ ks.length}) (fun i => ⟨[(2, .ref 0 0), (5, .vec 1 (allE n l ks i.1).length), (37, .sl (u8s ks)), (38, .int .i64 ks.length), (39, .int .i64 i.1)], [(1, .vec true 4 33 (evs (allE n l ks i.1))), (0, .box [.int .u64 (n + i.1), .sl (evs (keepE n l ks i.1))])], 2⟩) (fun i => ks.length - i.1) ⟨0, by omega⟩ ?_ ?_
  · simp [go_sem, allE, keepE]
    have : l.length - 64 = 0 := by omega
    rw [this]; rfl
  · rintro ⟨i, hi⟩
    refine awp_sound tab3_ok.toS lv3 _ _ _ rfl ?_
    simp -implicitDefEqProofs only [cd_t, cd_f, cd_dec, cd_not, cd_and, cd_or, grd_tt, grd_ff, grd_tf, grd_ft, grd_dt, grd_df, grd_nt, grd_nf, go_sem, reduceIte, reduceCtorEq, Nat.reduceEqDiff, Nat.reduceAdd, Nat.reduceLeDiff, Nat.reduceSub, Nat.reduceMul, Nat.reduceLT]
    refine ⟨fun h => ?_, fun h => ⟨by omega, ?_⟩⟩
    · have h7 : i < ks.length := by omega
      have h8 : 0 ≤ ks.getD i 0 ∧ ks.getD i 0 ≤ 255 := by
        rw [List.getD_eq_getElem?_getD, List.getElem?_eq_getElem h7]
        exact hk _ (List.getElem_mem h7)
      have h9 : (ks.getD i 0).tmod 16 = ks.getD i 0 % 16 := Int.tmod_eq_emod_of_nonneg h8.1
      rw [h9, i64_in (ks.getD i 0 % 16) (by omega), u64_in i (by omega), u64_in (ks.getD i 0) (by omega), u64_in (n + i + 1) (by omega), i64_in (i + 1) (by omega),
        keepE_add ks h5 (by omega) i (by omega)]
      have hkc := keepE_check ks h5 (by omega) (i + 1) (by omega)
      have hl1 := keepE_length n l ks i
      have hl2 := allE_length n l ks i
      rw [Int.natCast_add, Int.natCast_one, ← Int.add_assoc] at hkc
      refine ⟨⟨by omega, by omega⟩, by omega, by omega, fun _ => ⟨fun _ => ⟨fun _ => ⟨by dsimp only; omega, fun _ => ⟨by omega, by omega, ⟨i + 1, h7⟩, by dsimp only; omega, ?_⟩, fun h => h hkc⟩, fun h => h rfl⟩, fun h => h rfl⟩, fun h => h rfl⟩
      simp [go_sem, allE, newE, Int.add_assoc]
    · have h7 : i = ks.length := by omega
      refine ADraw.frz (s' := ⟨[(2, .ref 0 0), (5, .vec 1 (allE n l ks i).length), (11, .int .u64 (oldestS (n + i) (keepE n l ks i)).1), (12, .int .i64 (oldestS (n + i) (keepE n l ks i)).2)], [(0, .box [.int .u64 (n + i), .sl (evs (keepE n l ks i))])], 2⟩) (d' := .sl (evs (allE n l ks i))) 5 rfl (by simp [frz, lk, rmv]) ?_
      refine ADraw.quiet tab3_ok follows_mixed (by kernel_rfl) (by kernel_rfl) ?_
      simp -implicitDefEqProofs only [cd_t, cd_f, cd_dec, cd_not, cd_and, cd_or, grd_tt, grd_ff, grd_tf, grd_ft, grd_dt, grd_df, grd_nt, grd_nf, go_sem, reduceIte, reduceCtorEq, Nat.reduceEqDiff, Nat.reduceAdd, Nat.reduceLeDiff, Nat.reduceSub, Nat.reduceMul, Nat.reduceLT]
      have hkc := keepE_check ks h5 (by omega) i (by omega)
      have hl1 := keepE_length n l ks i
      have hl2 := allE_length n l ks i
      have ho : oldestS (n + i) (keepE n l ks i) = (n + i - (keepE n l ks i).length, 0) := by rw [oldestS, if_pos hkc]
      rw [ho, i64_in (_ - 64) (by omega), u64_in (keepE n l ks i).length (by omega), u64_in _ (by omega)]
      have hd : (max (((allE n l ks i).length : Int) - 64) 0).toNat = (allE n l ks i).length - 64 := by omega
      rw [hd]
      exact ⟨fun _ _ => ⟨⟨by omega, by omega⟩, fun _ _ => by simp, fun h => h rfl⟩, fun h => h rfl⟩
end Dm
