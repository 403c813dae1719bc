import Derived.Test.YtfngdpmbhfejcaaF6
import Derived.Test.YtfngdpmbhfejcaaD7
set_option linter.unusedSimpArgs false
set_option linter.unusedVariables false
namespace Dm
open Go Go.Proofs Go.IntWalk
/-- Those above At. -/
def behS (n : Int) (l : List Ev) (at_ : Int) : List Ev := l.drop (l.length - (n - 1 - at_).toNat)
def wantS (mask : Int) (e : Ev) : Bool := decide (mask / 2 ^ e.kind.toNat % 2 = 1)
def outS (n : Int) (l : List Ev) (mask at_ most : Int) : List Ev := ((behS n l at_).filter (wantS mask)).take most.toNat
def atS (n : Int) (l : List Ev) (mask at_ most : Int) : Int :=
  if (((outS n l mask at_ most).length : Int)) < most then n - 1 else if 0 < most then ((outS n l mask at_ most).getD (most.toNat - 1) default).seq else at_
/-- What is told. -/
def tellS (n : Int) (l : List Ev) (mask at_ most : Int) : List Ev × Int × Int × Int :=
  if mayS n l mask at_ = 0 then
    if most < 0 then ([], 0, 0, 1)
    else (outS n l mask at_ most, mask, atS n l mask at_ most, 0)
  else ([], 0, 0, mayS n l mask at_)
theorem mayS_0 {n : Int} {l : List Ev} {mask at_ : Int} (h : mayS n l mask at_ = 0) : checkS n l = 0 ∧ mask ≤ 65535 ∧ at_ < n ∧ n - 1 - at_ ≤ l.length := by
  unfold mayS at h
  split at h
  · rename_i h1
    split at h
    · cases h
    · split at h
      · cases h
      · split at h
        · cases h
        · rename_i h2 h3 h4
          have h5 := oldestS_0 h1
          rw [oldestS, if_pos h5] at h4
          refine ⟨h5, by omega, by omega, ?_⟩
          simp only at h4
          omega
  · cases h
theorem wantS_eq (mask : Int) (e : Ev) (hk : kindS e.kind = true) : mask.fdiv (2 ^ min e.kind.toNat 64) = mask / 2 ^ e.kind.toNat := by
  simp only [kindS, Bool.and_eq_true, decide_eq_true_eq] at hk
  rw [Nat.min_eq_left (by omega), Int.fdiv_eq_ediv_of_nonneg _ (by exact Int.le_of_lt (Int.pow_pos (by decide)))]
theorem out_stop {n : Int} {l : List Ev} {mask at_ most : Int} {i : Nat} (h : ((((behS n l at_).take i).filter (wantS mask)).length : Int) = most) :
    outS n l mask at_ most = ((behS n l at_).take i).filter (wantS mask) := by
  have h1 : (behS n l at_).filter (wantS mask) = ((behS n l at_).take i).filter (wantS mask) ++ ((behS n l at_).drop i).filter (wantS mask) := by
    rw [← List.filter_append, List.take_append_drop]
  have h2 : most.toNat = (((behS n l at_).take i).filter (wantS mask)).length := by omega
  rw [outS, h1, h2, List.take_left]
theorem out_end {n : Int} {l : List Ev} {mask at_ most : Int} {i : Nat} (hi : (behS n l at_).length ≤ i) (h : ((((behS n l at_).take i).filter (wantS mask)).length : Int) ≤ most) :
    outS n l mask at_ most = ((behS n l at_).take i).filter (wantS mask) := by
  rw [List.take_of_length_le hi] at *
  rw [outS, List.take_of_length_le (by omega)]
theorem and1 (x : Int) : IntKind.u64.wrap ((BitVec.ofInt 64 x &&& BitVec.ofInt 64 1).toNat : Int) = x % 2 := by
  have h : (BitVec.ofInt 64 x &&& BitVec.ofInt 64 1).toNat = (x % 2).toNat := by
    rw [BitVec.toNat_and, BitVec.toNat_ofInt, BitVec.toNat_ofInt]
    rw [show ((1 : Int) % ((2 ^ 64 : Nat) : Int)).toNat = 1 from rfl, Nat.and_one_is_mod]
    omega
  rw [h, u64_in _ (by omega)]
  omega
theorem beh_kind {n : Int} {l : List Ev} {at_ : Int} (h : okE n l = true) {i : Nat} (hi : i < (behS n l at_).length) : kindS ((behS n l at_).getD i default).kind = true := by
  have h1 : i < (l.drop (l.length - (n - 1 - at_).toNat)).length := hi
  rw [List.length_drop] at h1
  have := ((okE_get n l).1 h (l.length - (n - 1 - at_).toNat + i) (by omega)).2
  unfold behS
  simpa [List.getD_eq_getElem?_getD] using this
theorem out_succ {mask : Int} {B : List Ev} {i : Nat} (hi : i < B.length) : (B.take (i + 1)).filter (wantS mask) = (B.take i).filter (wantS mask) ++ (if wantS mask (B.getD i default) = true then [B.getD i default] else []) := by
  have e1 : B.take (i + 1) = B.take i ++ [B[i]] := by simp
  rw [e1, List.filter_append]
  simp only [List.getD, List.getElem?_eq_getElem hi, Option.getD_some]
  congr 1
  by_cases h : wantS mask B[i] = true <;> simp [h]
set_option maxRecDepth 4000 in
theorem tell_ok (n : Int) (l : List Ev) (mask at_ most : Int) (hn : 0 ≤ n ∧ n ≤ 18446744073709551615) (hm : 0 ≤ mask) (ha : 0 ≤ at_ ∧ at_ ≤ 18446744073709551615) : FreshFn Try.prog 15 [.agg [.int .u64 n, .sl (evs l)], .agg [.int .u64 mask, .int .u64 at_], .int .i64 most]
    (.tup [.vec 0 (tellS n l mask at_ most).1.length, .agg [.int .u64 (tellS n l mask at_ most).2.1, .int .u64 (tellS n l mask at_ most).2.2.1], .int .i64 (tellS n l mask at_ most).2.2.2]) [(4, 33, true, evs (tellS n l mask at_ most).1)] := by
  refine .of (ac15 tab4_ok (Nat.le_of_ble_eq_true rfl) ?_)
  simp -implicitDefEqProofs only [cd_t, cd_f, cd_dec, cd_not, cd_and, cd_or, grd_tt, grd_ff, grd_tf, grd_ft, grd_dt, grd_df, grd_nt, grd_nf, go_sem, Go.Proofs.Try.f15, reduceIte, reduceCtorEq, Nat.reduceEqDiff, Nat.reduceAdd, Nat.reduceLeDiff, Nat.reduceSub, Nat.reduceMul, Nat.reduceLT, Nat.reduceShiftRight, Nat.reduceMod]
  refine SWp.scope (awp_sound tab4_ok.toS lv15 _ _ _ rfl ?_)
  simp -implicitDefEqProofs only [cd_t, cd_f, cd_dec, cd_not, cd_and, cd_or, grd_tt, grd_ff, grd_tf, grd_ft, grd_dt, grd_df, grd_nt, grd_nf, go_sem, reduceIte, reduceCtorEq, Nat.reduceEqDiff, Nat.reduceAdd, Nat.reduceLeDiff, Nat.reduceSub, Nat.reduceMul, Nat.reduceLT, Nat.reduceShiftRight, Nat.reduceMod]
  refine ⟨⟨hn.1, hn.2, ha.1⟩, fun h1 => ⟨fun h2 => ?_, fun h2 h3 => ?_⟩, fun h1 => ?_⟩
  · have : tellS n l mask at_ most = ([], 0, 0, 1) := by simp [tellS, h1, h2]
    rw [this]
    exact ⟨[none], by simp [go_sem, evs]⟩
  · obtain ⟨h4, h5, h6, h7⟩ := mayS_0 h1
    obtain ⟨h8, h9, h10, h11⟩ := checkS_0 h4
    have hc : IntKind.i64.wrap (↑l.length - IntKind.i64.wrap (IntKind.u64.wrap (IntKind.u64.wrap (n - 1) - at_))) = ((l.length - (n - 1 - at_).toNat : Nat) : Int) := by
      rw [u64_in (n - 1) (by omega), u64_in _ (by omega), i64_in (n - 1 - at_) (by omega), i64_in _ (by omega)]
      omega
    rw [hc, Int.toNat_natCast]
    have hB : behS n l at_ = l.drop (l.length - (n - 1 - at_).toNat) := rfl
    rw [← hB]
    have hBl : (behS n l at_).length = (n - 1 - at_).toNat := by rw [hB, List.length_drop]; omega
    refine ⟨by omega, fun h12 => ?_⟩
    refine SWp.nilvec 6 4 33 rfl (by omega) ?_
    refine SWp.loop (ι := {i // i ≤ (behS n l at_).length ∧ (((((behS n l at_).take i).filter (wantS mask)).length : Int)) ≤ most})
      (fun i => ⟨[(2, .int .i64 most), (3, .ref 0 0), (4, .ref 1 0), (6, .vec 3 (((behS n l at_).take i.1).filter (wantS mask)).length), (7, .ref 2 0), (37, .sl (evs (behS n l at_))), (38, .int .i64 (behS n l at_).length), (39, .int .i64 i.1)],
        [(3, .vec true 4 33 (evs (((behS n l at_).take i.1).filter (wantS mask)))), (2, .box [.int .u64 0, .int .u64 0]), (1, .box [.int .u64 mask, .int .u64 at_]), (0, .box [.int .u64 n, .sl (evs l)])], 4⟩)
      (fun i => (behS n l at_).length - i.1) ⟨0, by omega, by simp; omega⟩ ?_ ?_
    · simp [go_sem, evs]
    · rintro ⟨i, hi, hmi⟩
      refine awp_sound tab4_ok.toS lv15 _ _ _ rfl ?_
      simp -implicitDefEqProofs only [cd_t, cd_f, cd_dec, cd_not, cd_and, cd_or, grd_tt, grd_ff, grd_tf, grd_ft, grd_dt, grd_df, grd_nt, grd_nf, go_sem, reduceIte, reduceCtorEq, Nat.reduceEqDiff, Nat.reduceAdd, Nat.reduceLeDiff, Nat.reduceSub, Nat.reduceMul, Nat.reduceLT, Nat.reduceShiftRight, Nat.reduceMod]
      refine ⟨fun h => ⟨⟨by omega, by omega⟩, fun _ => ⟨fun he _ => ?_, fun he => ?_⟩⟩, fun h _ => ?_⟩
      · have hO := out_stop he
        refine ⟨fun h13 => ?_, fun h13 => ⟨fun h14 => ⟨?_, ?_, ?_⟩, fun h14 => ?_⟩⟩
        · omega
        · rw [i64_in _ (by omega)]; omega
        · rw [i64_in _ (by omega)]; omega
        · refine ADraw.run us15_18 tab4_ok follows_mixed (by kernel_rfl) (by kernel_rfl) ?_
          simp -implicitDefEqProofs only [cd_t, cd_f, cd_dec, cd_not, cd_and, cd_or, grd_tt, grd_ff, grd_tf, grd_ft, grd_dt, grd_df, grd_nt, grd_nf, go_sem, reduceIte, reduceCtorEq, Nat.reduceEqDiff, Nat.reduceAdd, Nat.reduceLeDiff, Nat.reduceSub, Nat.reduceMul, Nat.reduceLT, Nat.reduceShiftRight, Nat.reduceMod]
          have ht : tellS n l mask at_ most = (((behS n l at_).take i).filter (wantS mask), mask, ((((behS n l at_).take i).filter (wantS mask)).getD (most - 1).toNat default).seq, 0) := by
            simp [tellS, h1, h2, atS, hO, h13, h14]
          rw [ht, i64_in (most - 1) (by omega)]
          exact ⟨[some 3], by simp [go_sem]⟩
        · refine ADraw.run us15_18 tab4_ok follows_mixed (by kernel_rfl) (by kernel_rfl) ?_
          simp -implicitDefEqProofs only [cd_t, cd_f, cd_dec, cd_not, cd_and, cd_or, grd_tt, grd_ff, grd_tf, grd_ft, grd_dt, grd_df, grd_nt, grd_nf, go_sem, reduceIte, reduceCtorEq, Nat.reduceEqDiff, Nat.reduceAdd, Nat.reduceLeDiff, Nat.reduceSub, Nat.reduceMul, Nat.reduceLT, Nat.reduceShiftRight, Nat.reduceMod]
          have ht : tellS n l mask at_ most = (((behS n l at_).take i).filter (wantS mask), mask, at_, 0) := by
            simp [tellS, h1, h2, atS, hO, h13, h14]
          rw [ht]
          exact ⟨[some 3], by simp [go_sem]⟩
      · have h13 : i < (behS n l at_).length := by omega
        have h14 := beh_kind h11 h13
        have hs := out_succ (mask := mask) h13
        rw [wantS_eq _ _ h14]
        erw [and1]
        have h15 : 0 ≤ ((behS n l at_).getD i default).kind := by
          simp only [kindS, Bool.and_eq_true, decide_eq_true_eq] at h14
          exact h14.1
        have hfl : (((behS n l at_).take i).filter (wantS mask)).length ≤ i := Nat.le_trans (List.length_filter_le _ _) (by simp; omega)
        have hw0 : mask / 2 ^ ((behS n l at_).getD i default).kind.toNat % 2 = 0 → ¬ wantS mask ((behS n l at_).getD i default) = true := fun h => by simp only [wantS, h]; decide
        have hw1 : ¬ mask / 2 ^ ((behS n l at_).getD i default).kind.toNat % 2 = 0 → wantS mask ((behS n l at_).getD i default) = true := fun h => by
          have := (Int.emod_two_eq _).resolve_left h
          simp only [wantS, this]; decide
        have e := i64_in ((i : Int) + 1) (by omega)
        refine ⟨h15, fun h16 => ?_, fun h16 => ?_⟩
        · rw [if_neg (hw0 h16), List.append_nil] at hs
          exact ⟨⟨i + 1, h13, by rw [hs]; exact hmi⟩, by dsimp only; omega, by simp [go_sem, hs, e]⟩
        · rw [if_pos (hw1 h16)] at hs
          exact ⟨by omega, ⟨i + 1, h13, by rw [hs]; simp; omega⟩, by dsimp only; omega, by simp [go_sem, hs, e]⟩
      · have hO := out_end (mask := mask) (most := most) (show (behS n l at_).length ≤ i by omega) hmi
        refine ⟨fun h13 => ?_, fun h13 => ⟨fun h14 => ⟨?_, ?_, ?_⟩, fun h14 => ?_⟩⟩
        · refine ADraw.run us15_18 tab4_ok follows_mixed (by kernel_rfl) (by kernel_rfl) ?_
          simp -implicitDefEqProofs only [cd_t, cd_f, cd_dec, cd_not, cd_and, cd_or, grd_tt, grd_ff, grd_tf, grd_ft, grd_dt, grd_df, grd_nt, grd_nf, go_sem, reduceIte, reduceCtorEq, Nat.reduceEqDiff, Nat.reduceAdd, Nat.reduceLeDiff, Nat.reduceSub, Nat.reduceMul, Nat.reduceLT, Nat.reduceShiftRight, Nat.reduceMod]
          have ht : tellS n l mask at_ most = (((behS n l at_).take i).filter (wantS mask), mask, n - 1, 0) := by
            simp [tellS, h1, h2, atS, hO, h13]
          rw [ht, u64_in (n - 1) (by omega)]
          exact ⟨[some 3], by simp [go_sem]⟩
        · rw [i64_in _ (by omega)]; omega
        · rw [i64_in _ (by omega)]; omega
        · refine ADraw.run us15_18 tab4_ok follows_mixed (by kernel_rfl) (by kernel_rfl) ?_
          simp -implicitDefEqProofs only [cd_t, cd_f, cd_dec, cd_not, cd_and, cd_or, grd_tt, grd_ff, grd_tf, grd_ft, grd_dt, grd_df, grd_nt, grd_nf, go_sem, reduceIte, reduceCtorEq, Nat.reduceEqDiff, Nat.reduceAdd, Nat.reduceLeDiff, Nat.reduceSub, Nat.reduceMul, Nat.reduceLT, Nat.reduceShiftRight, Nat.reduceMod]
          have ht : tellS n l mask at_ most = (((behS n l at_).take i).filter (wantS mask), mask, ((((behS n l at_).take i).filter (wantS mask)).getD (most - 1).toNat default).seq, 0) := by
            simp [tellS, h1, h2, atS, hO, h13, h14]
          rw [ht, i64_in (most - 1) (by omega)]
          exact ⟨[some 3], by simp [go_sem]⟩
        · refine ADraw.run us15_18 tab4_ok follows_mixed (by kernel_rfl) (by kernel_rfl) ?_
          simp -implicitDefEqProofs only [cd_t, cd_f, cd_dec, cd_not, cd_and, cd_or, grd_tt, grd_ff, grd_tf, grd_ft, grd_dt, grd_df, grd_nt, grd_nf, go_sem, reduceIte, reduceCtorEq, Nat.reduceEqDiff, Nat.reduceAdd, Nat.reduceLeDiff, Nat.reduceSub, Nat.reduceMul, Nat.reduceLT, Nat.reduceShiftRight, Nat.reduceMod]
          have ht : tellS n l mask at_ most = (((behS n l at_).take i).filter (wantS mask), mask, at_, 0) := by
            simp [tellS, h1, h2, atS, hO, h13, h14]
          rw [ht]
          exact ⟨[some 3], by simp [go_sem]⟩
  · have : tellS n l mask at_ most = ([], 0, 0, mayS n l mask at_) := by simp [tellS, h1]
    rw [this]
    exact ⟨[none], by simp [go_sem, evs]⟩
end Dm
