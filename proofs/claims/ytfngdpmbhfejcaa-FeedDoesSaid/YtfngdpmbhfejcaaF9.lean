import Derived.Test.YtfngdpmbhfejcaaF8
set_option linter.unusedSimpArgs false
set_option linter.unusedVariables false
namespace Dm
open Go Go.Proofs Go.IntWalk
theorem bit_not {k : Nat} (hk : k < 16) {m : Int} (h0 : 0 ≤ m) (h1 : m ≤ 65535) : (65535 - m) / 2 ^ k % 2 = 1 - m / 2 ^ k % 2 := by
  have : k = 0 ∨ k = 1 ∨ k = 2 ∨ k = 3 ∨ k = 4 ∨ k = 5 ∨ k = 6 ∨ k = 7 ∨ k = 8 ∨ k = 9 ∨ k = 10 ∨ k = 11 ∨ k = 12 ∨ k = 13 ∨ k = 14 ∨ k = 15 := by omega
  rcases this with rfl | rfl | rfl | rfl | rfl | rfl | rfl | rfl | rfl | rfl | rfl | rfl | rfl | rfl | rfl | rfl <;> simp only [Int.reducePow] <;> omega
theorem kindS_nat {k : Int} (h : kindS k = true) : k.toNat < 16 := by
  simp only [kindS, Bool.and_eq_true, decide_eq_true_eq] at h
  omega
theorem want_not {e : Ev} (hk : kindS e.kind = true) {m : Int} (h0 : 0 ≤ m) (h1 : m ≤ 65535) : wantS (65535 - m) e = !wantS m e := by
  have := bit_not (kindS_nat hk) h0 h1
  unfold wantS
  rw [this]
  rcases Int.emod_two_eq (m / 2 ^ e.kind.toNat) with h | h <;> rw [h] <;> decide
theorem want_all {e : Ev} (hk : kindS e.kind = true) : wantS 65535 e = true := by
  have := bit_not (kindS_nat hk) (Int.le_refl 0) (by decide)
  unfold wantS
  rw [Int.sub_zero] at this
  rw [this]
  simp
theorem okE_kind {n : Int} : ∀ {l : List Ev}, okE n l = true → ∀ x ∈ l, kindS x.kind = true
  | [], _, x, h => by cases h
  | e :: r, h, x, hx => by
    rw [okE, Bool.and_eq_true, Bool.and_eq_true] at h
    rcases List.mem_cons.1 hx with rfl | hx
    · exact h.1.2
    · exact okE_kind h.2 x hx
theorem tell_masks {n : Int} {l : List Ev} {at_ mask : Int} (h : mayS n l mask at_ = 0) (h0 : 0 ≤ mask) :
    (tellS n l 65535 at_ 100).1 = behS n l at_ ∧ (tellS n l mask at_ 100).1 = (behS n l at_).filter (wantS mask) ∧ (tellS n l (65535 - mask) at_ 100).1 = (behS n l at_).filter (fun e => !wantS mask e) ∧
    (tellS n l 65535 at_ 100).2.2.2 = 0 ∧ (tellS n l mask at_ 100).2.2.2 = 0 ∧ (tellS n l (65535 - mask) at_ 100).2.2.2 = 0 ∧ (behS n l at_).length ≤ 64 := by
  obtain ⟨h1, h2, h3, h4⟩ := mayS_0 h
  obtain ⟨h5, h6, h7, h8⟩ := checkS_0 h1
  have hB : ∀ x ∈ behS n l at_, kindS x.kind = true := fun x hx => okE_kind h8 x (List.mem_of_mem_drop hx)
  have hl : (behS n l at_).length ≤ 64 := by unfold behS; rw [List.length_drop]; omega
  have ht : ∀ p : Ev → Bool, ((behS n l at_).filter p).take (100 : Int).toNat = (behS n l at_).filter p := fun p => List.take_of_length_le (by
    have := List.length_filter_le p (behS n l at_)
    have h100 : (100 : Int).toNat = 100 := rfl
    omega)
  rw [tell_eq (mayS_later h (by decide) (Int.le_refl _) h3) (by decide), tell_eq h (by decide), tell_eq (mayS_later h (show 65535 - mask ≤ 65535 by omega) (Int.le_refl _) h3) (by decide)]
  refine ⟨?_, ht _, ?_, rfl, rfl, rfl, hl⟩
  · show outS _ _ _ _ _ = _
    rw [outS, ht, List.filter_eq_self]
    exact fun x hx => want_all (hB x hx)
  · show outS _ _ _ _ _ = _
    rw [outS, ht]
    exact List.filter_congr fun x hx => want_not (hB x hx) h0 h2
theorem mayS_mask {n : Int} {l : List Ev} {m m' at_ : Int} (h : m ≤ 65535) (h' : m' ≤ 65535) : mayS n l m at_ = mayS n l m' at_ := by
  unfold mayS
  split
  · rw [if_neg (show ¬ 65535 < m by omega), if_neg (show ¬ 65535 < m' by omega)]
  · rfl
@[go_sem] theorem ev_eta {e : Ev} : (⟨e.seq, e.kind, e.a, e.n⟩ : Ev) = e := rfl
theorem filt_succ {p : Ev → Bool} {B : List Ev} {i : Nat} (hi : i < B.length) : (B.take (i + 1)).filter p = (B.take i).filter p ++ (if p (B.getD i default) = true then [B.getD i default] else []) := by
  have e1 : B.take (i + 1) = B.take i ++ [B[i]] := by simp
  rw [e1, List.filter_append]
  simp only [List.getD, List.getElem?_eq_getElem hi, Option.getD_some]
  congr 1
  by_cases h : p B[i] = true <;> simp [h]
theorem filt_at {p : Ev → Bool} {B : List Ev} {i : Nat} (hi : i < B.length) (h : p (B.getD i default) = true) : (B.filter p).getD ((B.take i).filter p).length default = B.getD i default ∧ ((B.take i).filter p).length < (B.filter p).length := by
  have e : B.filter p = (B.take i).filter p ++ B.getD i default :: (B.drop (i + 1)).filter p := by
    conv => lhs; rw [← List.take_append_drop (i + 1) B, List.filter_append, filt_succ hi, if_pos h]
    simp
  rw [e]
  refine ⟨?_, by simp⟩
  rw [List.getD_eq_getElem?_getD, List.getElem?_append_right (Nat.le_refl _)]
  simp
theorem filt_not {p : Ev → Bool} {B : List Ev} {i j : Nat} (h : ¬ p (B.getD i default) = true) (hj : j < (B.filter p).length) : ¬ (B.filter p).getD j default = B.getD i default := fun he => by
  rw [← he] at h
  apply h
  rw [List.getD_eq_getElem?_getD, List.getElem?_eq_getElem hj]
  exact (List.mem_filter.1 (List.getElem_mem hj)).2
set_option maxRecDepth 4000 in
theorem masks_ok (n : Int) (l : List Ev) (at_ mask : Int) (hn : 0 ≤ n ∧ n ≤ 18446744073709551615) (hl : ∀ e ∈ l, e.rng) (ha : 0 ≤ at_ ∧ at_ ≤ 18446744073709551615) (hm : 0 ≤ mask ∧ mask ≤ 18446744073709551615) :
    PureFn Try.prog 7 [.agg [.int .u64 n, .sl (evs l)], .int .u64 at_, .int .u64 mask] (.bool true) := by
  refine .of (ac7 tab5_ok (Nat.le_of_ble_eq_true rfl) ?_)
  simp -implicitDefEqProofs only [cd_t, cd_f, cd_dec, cd_not, cd_and, cd_or, grd_tt, grd_ff, grd_tf, grd_ft, grd_dt, grd_df, grd_nt, grd_nf, go_sem, Go.Proofs.Try.f7, reduceIte, reduceCtorEq, Nat.reduceEqDiff, Nat.reduceAdd, Nat.reduceLeDiff, Nat.reduceSub, Nat.reduceMul, Nat.reduceLT, Nat.reduceShiftRight, Nat.reduceMod]
  refine fun h1 => ⟨fun h2 => ⟨fun _ => trivial, fun h3 => ?_⟩, fun _ => trivial⟩
  rw [u64_in (65535 - mask) (by omega)]
  refine ⟨by omega, by omega, by omega, ?_⟩
  by_cases h4 : mayS n l mask at_ = 0
  · obtain ⟨e1, e2, e3, e4, e5, e6, hBl⟩ := tell_masks h4 hm.1
    rw [e1, e2, e3, e4, e5, e6]
    refine ⟨fun _ => ⟨fun _ => ⟨fun _ _ => ?_, fun h => absurd rfl h⟩, fun h => h rfl⟩, fun h => h rfl⟩
    have hBk : ∀ x ∈ behS n l at_, kindS x.kind = true := fun x hx => okE_kind (checkS_0 (mayS_0 h4).1).2.2.2 x (List.mem_of_mem_drop hx)
    generalize behS n l at_ = B at *
    refine SWp.loop (ι := {i // i ≤ B.length}) (fun i => ⟨[(2, .int .u64 mask), (10, .vec 3 (B.filter (wantS mask)).length), (13, .vec 5 (B.filter fun e => !wantS mask e).length), (16, .int .i64 ((B.take i.1).filter (wantS mask)).length), (17, .int .i64 ((B.take i.1).filter fun e => !wantS mask e).length), (78, .vec 1 B.length), (79, .int .i64 B.length), (80, .int .i64 i.1)],
      [(5, .vec true 4 33 (evs (B.filter fun e => !wantS mask e))), (3, .vec true 4 33 (evs (B.filter (wantS mask)))), (1, .vec true 4 33 (evs B))], 7⟩) (fun i => B.length - i.1) ⟨0, by omega⟩ ?_ ?_
    · simp [go_sem]
    · rintro ⟨i, hi⟩
      refine awp_sound tab5_ok.toS lv7 _ _ _ rfl ?_
      simp -implicitDefEqProofs only [cd_t, cd_f, cd_dec, cd_not, cd_and, cd_or, grd_tt, grd_ff, grd_tf, grd_ft, grd_dt, grd_df, grd_nt, grd_nf, go_sem, reduceIte, reduceCtorEq, Nat.reduceEqDiff, Nat.reduceAdd, Nat.reduceLeDiff, Nat.reduceSub, Nat.reduceMul, Nat.reduceLT, Nat.reduceShiftRight, Nat.reduceMod]
      refine ⟨fun h => ⟨⟨by omega, by omega⟩, by omega, ?_⟩, fun h => ?_⟩
      · have hi' : i < B.length := by omega
        have ei := i64_in ((i : Int) + 1) (by omega)
        have s1 := filt_succ (p := wantS mask) hi'
        have s2 := filt_succ (p := fun e => !wantS mask e) hi'
        have l1 := Nat.le_trans (List.length_filter_le (wantS mask) (B.take i)) (by rw [List.length_take]; omega : (B.take i).length ≤ i)
        have l2 := Nat.le_trans (List.length_filter_le (fun e => !wantS mask e) (B.take i)) (by rw [List.length_take]; omega : (B.take i).length ≤ i)
        refine ADraw.run us7_17 tab5_ok follows_mixed (by kernel_rfl) (by kernel_rfl) ?_
        simp -implicitDefEqProofs only [cd_t, cd_f, cd_dec, cd_not, cd_and, cd_or, grd_tt, grd_ff, grd_tf, grd_ft, grd_dt, grd_df, grd_nt, grd_nf, go_sem, reduceIte, reduceCtorEq, Nat.reduceEqDiff, Nat.reduceAdd, Nat.reduceLeDiff, Nat.reduceSub, Nat.reduceMul, Nat.reduceLT, Nat.reduceShiftRight, Nat.reduceMod]
        by_cases hw : wantS mask (B.getD i default) = true
        · obtain ⟨f1, f2⟩ := filt_at hi' hw
          rw [if_pos hw] at s1
          rw [if_neg (by rw [hw]; decide), List.append_nil] at s2
          refine ⟨fun h8 => ⟨by omega, f2, fun _ => ⟨⟨i + 1, hi'⟩, by dsimp only; omega, ⟨?_, ?_, ei⟩, rfl⟩, fun h => absurd f1 h⟩, fun h => absurd (by omega) h⟩
          · rw [i64_in _ (by omega), s1]; simp
          · simp only [s2]
        · obtain ⟨f1, f2⟩ := filt_at (p := fun e => !wantS mask e) hi' (by rw [Bool.not_eq_true] at hw; rw [hw]; rfl)
          rw [if_neg hw, List.append_nil] at s1
          rw [if_pos (by rw [Bool.not_eq_true] at hw; rw [hw]; rfl)] at s2
          refine ⟨fun h8 => ⟨by omega, by omega, fun h => absurd h (filt_not hw (by omega)), fun _ => ?_⟩, fun _ => ?_⟩ <;>
          · refine ADraw.run us7_19 tab5_ok follows_mixed (by kernel_rfl) (by kernel_rfl) ?_
            simp -implicitDefEqProofs only [cd_t, cd_f, cd_dec, cd_not, cd_and, cd_or, grd_tt, grd_ff, grd_tf, grd_ft, grd_dt, grd_df, grd_nt, grd_nf, go_sem, reduceIte, reduceCtorEq, Nat.reduceEqDiff, Nat.reduceAdd, Nat.reduceLeDiff, Nat.reduceSub, Nat.reduceMul, Nat.reduceLT, Nat.reduceShiftRight, Nat.reduceMod]
            refine ⟨fun h8 => ⟨by omega, f2, fun _ => ⟨⟨i + 1, hi'⟩, by dsimp only; omega, ⟨?_, ?_, ei⟩, rfl⟩, fun h => absurd f1 h⟩, fun h => absurd (by omega) h⟩
            · simp only [s1]
            · rw [i64_in _ (by omega), s2]; simp
      · have hi' : i = B.length := by omega
        subst hi'
        have hfl := List.length_filter_le (wantS mask) B
        refine fun _ => SWp.loop (ι := {i // i ≤ (B.filter (wantS mask)).length}) (fun i => ⟨[(2, .int .u64 mask), (10, .vec 3 (B.filter (wantS mask)).length), (13, .vec 5 (B.filter fun e => !wantS mask e).length), (16, .int .i64 (B.filter (wantS mask)).length), (17, .int .i64 (B.filter fun e => !wantS mask e).length), (113, .vec 3 (B.filter (wantS mask)).length), (114, .int .i64 (B.filter (wantS mask)).length), (115, .int .i64 i.1)],
          [(5, .vec true 4 33 (evs (B.filter fun e => !wantS mask e))), (3, .vec true 4 33 (evs (B.filter (wantS mask))))], 7⟩) (fun i => (B.filter (wantS mask)).length - i.1) ⟨0, by omega⟩ ?_ ?_
        · simp [go_sem]
        · rintro ⟨j, hj⟩
          refine awp_sound tab5_ok.toS lv7 _ _ _ rfl ?_
          simp -implicitDefEqProofs only [cd_t, cd_f, cd_dec, cd_not, cd_and, cd_or, grd_tt, grd_ff, grd_tf, grd_ft, grd_dt, grd_df, grd_nt, grd_nf, go_sem, reduceIte, reduceCtorEq, Nat.reduceEqDiff, Nat.reduceAdd, Nat.reduceLeDiff, Nat.reduceSub, Nat.reduceMul, Nat.reduceLT, Nat.reduceShiftRight, Nat.reduceMod]
          refine ⟨fun h8 => ?_, fun _ _ => ⟨fun _ => rfl, fun h => h⟩⟩
          have h9 : j < (B.filter (wantS mask)).length := by omega
          have hm1 : (B.filter (wantS mask)).getD j default ∈ B.filter (wantS mask) := by
            rw [List.getD_eq_getElem?_getD, List.getElem?_eq_getElem h9]
            exact List.getElem_mem _
          obtain ⟨hm2, hm3⟩ := List.mem_filter.1 hm1
          generalize (B.filter (wantS mask)).getD j default = x at *
          have hk := hBk x hm2
          rw [wantS_eq _ _ hk]
          erw [and1]
          have hx : ¬ mask / 2 ^ x.kind.toNat % 2 = 0 := fun h => by
            simp only [wantS, h] at hm3
            exact absurd hm3 (by decide)
          have h0 : 0 ≤ x.kind := by
            simp only [kindS, Bool.and_eq_true, decide_eq_true_eq] at hk
            exact hk.1
          exact ⟨by omega, h9, h0, hx, fun _ => ⟨⟨j + 1, h9⟩, by dsimp only; omega, i64_in _ (by omega), rfl⟩⟩
  · have hmm : ∀ m : Int, m ≤ 65535 → tellS n l m at_ 100 = ([], 0, 0, mayS n l mask at_) := fun m h => by
      rw [tellS, mayS_mask h (show mask ≤ 65535 by omega), if_neg h4]
    rw [hmm 65535 (by decide), hmm mask (by omega), hmm (65535 - mask) (by omega)]
    exact ⟨fun _ => ⟨fun _ => ⟨fun h => absurd h h4, fun _ _ _ _ => rfl⟩, fun h => h rfl⟩, fun h => h rfl⟩
end Dm
