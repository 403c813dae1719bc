import Derived.Test.YtfngdpmbhfejcaaF9
set_option linter.unusedSimpArgs false
set_option linter.unusedVariables false
namespace Dm
open Go Go.Proofs Go.IntWalk
theorem absS_succ {mask at_ : Int} {l : List Ev} {j : Nat} (hj : j < l.length) : absS mask at_ (l.take (j + 1)) = absS mask at_ (l.take j) ++ (if wantS mask (l.getD j default) = true ∧ at_ < (l.getD j default).seq then [l.getD j default] else []) := by
  unfold absS
  rw [filt_succ hj]
  congr 1
  by_cases h1 : wantS mask (l.getD j default) = true <;> by_cases h2 : at_ < (l.getD j default).seq <;> simp only [h1, h2, decide_true, decide_false, Bool.and_true, Bool.and_false, and_true, and_false, if_true, if_false] <;> simp
theorem absS_le {mask at_ : Int} {l : List Ev} : (absS mask at_ l).length ≤ l.length := List.length_filter_le _ _
def dOnce (ks : List Int) : Dt := fun i => (ks.getD i 0 % 16, i, 1)
theorem dOnce_ok (ks : List Int) (i : Nat) : kindS (dOnce ks i).1 = true := kindS_mod _
theorem want_iff {mask : Int} {e : Ev} (hk : kindS e.kind = true) : (IntKind.u64.wrap ((BitVec.ofInt 64 (mask.fdiv (2 ^ min e.kind.toNat 64)) &&& BitVec.ofInt 64 1).toNat : Int) = 1) = (wantS mask e = true) := by
  rw [wantS_eq _ _ hk, and1, wantS, decide_eq_true_eq]
/-- Where a listener is, while events come. -/
structure Lis (n : Int) (l : List Ev) (mask at_ : Int) (ks : List Int) where
  i : Nat
  a : Int
  got : List Ev
  hi : i ≤ ks.length
  lo : at_ ≤ a
  up : a < n + i
  last : n + i ≤ 4611686018427387904
  all : got ++ absS mask a (allG n l (dOnce ks) i) = absS mask at_ (allG n l (dOnce ks) i)
theorem absS_app {mask at_ : Int} {l : List Ev} {e : Ev} : absS mask at_ (l ++ [e]) = absS mask at_ l ++ (if wantS mask e = true ∧ at_ < e.seq then [e] else []) := by
  unfold absS
  rw [List.filter_append]
  congr 1
  by_cases h1 : wantS mask e = true <;> by_cases h2 : at_ < e.seq <;> simp [h1, h2]
theorem abs_keep {N : Int} {L : List Ev} {m a : Int} (h : okE N L = true) (ha : N - 1 - a ≤ (L.drop (L.length - 64)).length) : absS m a L = absS m a (L.drop (L.length - 64)) := by
  have e : absS m a L = absS m a (L.take (L.length - 64)) ++ absS m a (L.drop (L.length - 64)) := by
    unfold absS
    rw [← List.filter_append, List.take_append_drop]
  rw [e, show absS m a (L.take (L.length - 64)) = [] from ?_, List.nil_append]
  rw [absS, List.filter_eq_nil_iff]
  intro x hx
  obtain ⟨j, hj, rfl⟩ := List.getElem_of_mem hx
  rw [List.length_take] at hj
  rw [List.length_drop] at ha
  have h1 := ((okE_get N L).1 h j (by omega)).1
  rw [List.getD_eq_getElem?_getD, List.getElem?_eq_getElem (by omega)] at h1
  simp only [Option.getD_some] at h1
  simp only [List.getElem_take, Bool.and_eq_true, decide_eq_true_eq, not_and, Int.not_lt]
  intro _
  omega
set_option maxRecDepth 4000 in
theorem once_ok (n : Int) (l : List Ev) (mask at_ : Int) (ks ms : List Int) (hn : 0 ≤ n ∧ n ≤ 18446744073709551615) (hl : ∀ e ∈ l, e.rng) (hm : 0 ≤ mask ∧ mask ≤ 18446744073709551615) (ha : 0 ≤ at_ ∧ at_ ≤ 18446744073709551615) (hk : ∀ k ∈ ks, 0 ≤ k ∧ k ≤ 255) (hms : ∀ k ∈ ms, 0 ≤ k ∧ k ≤ 255) :
    PureFn Try.prog 5 [.agg [.int .u64 n, .sl (evs l)], .agg [.int .u64 mask, .int .u64 at_], .sl (u8s ks), .sl (u8s ms)] (.bool true) := by
  refine .of (ac5 tab5_ok (Nat.le_of_ble_eq_true rfl) ?_)
  simp -implicitDefEqProofs only [cd_t, cd_f, cd_dec, cd_not, cd_and, cd_or, grd_tt, grd_ff, grd_tf, grd_ft, grd_dt, grd_df, grd_nt, grd_nf, go_sem, Go.Proofs.Try.f5, reduceIte, reduceCtorEq, Nat.reduceEqDiff, Nat.reduceAdd, Nat.reduceLeDiff, Nat.reduceSub, Nat.reduceMul, Nat.reduceLT, Nat.reduceShiftRight, Nat.reduceMod]
  refine fun h1 => ⟨fun h2 h3 => ⟨fun h4 => ⟨⟨hn.1, hn.2, ha.1⟩, fun h5 _ => ?_, fun _ => trivial⟩, fun _ => trivial⟩, fun _ => trivial⟩
  obtain ⟨h6, h7, h8, h9⟩ := mayS_0 h5
  obtain ⟨h10, h11, h12, h13⟩ := checkS_0 h6
  refine SWp.nilvec 9 4 33 rfl (by omega) ?_
  refine SWp.loop (ι := {j // j ≤ l.length}) (fun j => ⟨[(2, .sl (u8s ks)), (3, .sl (u8s ms)), (4, .ref 0 0), (5, .ref 1 0), (9, .vec 2 (absS mask at_ (l.take j.1)).length), (10, .nil), (44, .sl (evs l)), (45, .int .i64 l.length), (46, .int .i64 j.1)],
    [(2, .vec true 4 33 (evs (absS mask at_ (l.take j.1)))), (1, .box [.int .u64 mask, .int .u64 at_]), (0, .box [.int .u64 n, .sl (evs l)])], 3⟩) (fun j => l.length - j.1) ⟨0, by omega⟩ ?_ ?_
  · simp [go_sem, absS, evs]
  · rintro ⟨j, hj⟩
    refine awp_sound tab5_ok.toS lv5 _ _ _ rfl ?_
    simp -implicitDefEqProofs only [cd_t, cd_f, cd_dec, cd_not, cd_and, cd_or, grd_tt, grd_ff, grd_tf, grd_ft, grd_dt, grd_df, grd_nt, grd_nf, go_sem, reduceIte, reduceCtorEq, Nat.reduceEqDiff, Nat.reduceAdd, Nat.reduceLeDiff, Nat.reduceSub, Nat.reduceMul, Nat.reduceLT, Nat.reduceShiftRight, Nat.reduceMod]
    refine ⟨fun h14 => ?_, fun h14 _ => ?_⟩
    · have hj' : j < l.length := by omega
      have hs := absS_succ (mask := mask) (at_ := at_) hj'
      have hkd : kindS (l.getD j default).kind = true := okE_kind h13 _ (by
        rw [List.getD_eq_getElem?_getD, List.getElem?_eq_getElem hj']
        exact List.getElem_mem _)
      have ej := i64_in ((j : Int) + 1) (by omega)
      have hle := absS_le (mask := mask) (at_ := at_) (l := l.take j)
      rw [List.length_take] at hle
      have hw := want_iff (mask := mask) hkd
      have h15 : 0 ≤ (l.getD j default).kind := by
        simp only [kindS, Bool.and_eq_true, decide_eq_true_eq] at hkd
        exact hkd.1
      erw [hw]
      refine ⟨by omega, fun h16 => ⟨h15, fun h17 => ⟨by omega, ⟨j + 1, hj'⟩, by dsimp only; omega, ?_⟩, fun h17 => ⟨⟨j + 1, hj'⟩, by dsimp only; omega, ?_⟩⟩, fun h16 => ⟨⟨j + 1, hj'⟩, by dsimp only; omega, ?_⟩⟩
      · rw [if_pos ⟨h17, h16⟩] at hs
        simp [go_sem, hs, ej]
      · rw [if_neg (fun h => h17 h.1), List.append_nil] at hs
        simp [go_sem, hs, ej]
      · rw [if_neg (fun h => h16 h.2), List.append_nil] at hs
        simp [go_sem, hs, ej]
    · have hj' : j = l.length := by omega
      rw [hj', List.take_length]
      refine SWp.nilvec 10 4 33 rfl (Nat.zero_le _) ?_
      refine SWp.loop (ι := Lis n l mask at_ ks) (fun x => ⟨[(3, .sl (u8s ms)), (4, .ref 0 0), (5, .ref 1 0), (9, .vec 2 (absS mask at_ (allG n l (dOnce ks) x.i)).length), (10, .vec 3 x.got.length), (69, .sl (u8s ks)), (70, .int .i64 ks.length), (71, .int .i64 x.i)],
        [(3, .vec true 4 33 (evs x.got)), (2, .vec true 4 33 (evs (absS mask at_ (allG n l (dOnce ks) x.i)))), (1, .box [.int .u64 mask, .int .u64 x.a]), (0, .box [.int .u64 (n + x.i), .sl (evs (keepG n l (dOnce ks) x.i))])], 4⟩) (fun x => ks.length - x.i)
        ⟨0, at_, [], by omega, by omega, by simpa using h8, by omega, rfl⟩ ?_ ?_
      · have hk0 := keepG_0 (d := dOnce ks) h6
        simp [go_sem, hk0, allG, evs]
      · rintro ⟨i, a, got, hi, lo, up, last, all⟩
        refine awp_sound tab5_ok.toS lv5 _ _ _ rfl ?_
        simp -implicitDefEqProofs only [cd_t, cd_f, cd_dec, cd_not, cd_and, cd_or, grd_tt, grd_ff, grd_tf, grd_ft, grd_dt, grd_df, grd_nt, grd_nf, go_sem, reduceIte, reduceCtorEq, Nat.reduceEqDiff, Nat.reduceAdd, Nat.reduceLeDiff, Nat.reduceSub, Nat.reduceMul, Nat.reduceLT, Nat.reduceShiftRight, Nat.reduceMod]
        refine ⟨fun h15 => ⟨⟨by omega, by omega⟩, fun _ => trivial, fun h16 => ?_⟩, fun h15 => ?_⟩
        · have hi' : i < ks.length := by omega
          have hk1 : 0 ≤ ks.getD i 0 ∧ ks.getD i 0 ≤ 255 := by
            rw [List.getD_eq_getElem?_getD, List.getElem?_eq_getElem hi']
            exact hk _ (List.getElem_mem hi')
          have hk2 : (ks.getD i 0).tmod 16 = ks.getD i 0 % 16 := Int.tmod_eq_emod_of_nonneg hk1.1
          have hadd := keepG_add (dOnce_ok ks) h6 i (by omega)
          rw [show (dOnce ks i).1 = ks.getD i 0 % 16 from rfl, show (dOnce ks i).2.1 = i from rfl, show (dOnce ks i).2.2 = 1 from rfl] at hadd
          have hkl := keepG_length n l (dOnce ks) i
          have hal := allG_length n l (dOnce ks) i
          have hle := absS_le (mask := mask) (at_ := at_) (l := allG n l (dOnce ks) i)
          have hall : allG n l (dOnce ks) (i + 1) = allG n l (dOnce ks) i ++ [⟨n + i, ks.getD i 0 % 16, i, 1⟩] := rfl
          have hw := want_iff (mask := mask) (e := ⟨n + i, ks.getD i 0 % 16, i, 1⟩) (kindS_mod _)
          have hab := absS_app (mask := mask) (at_ := at_) (l := allG n l (dOnce ks) i) (e := ⟨n + i, ks.getD i 0 % 16, i, 1⟩)
          have hab' := absS_app (mask := mask) (at_ := a) (l := allG n l (dOnce ks) i) (e := ⟨n + i, ks.getD i 0 % 16, i, 1⟩)
          rw [← hall] at hab hab'
          have ej := i64_in ((i : Int) + 1) (by omega)
          rw [hk2, i64_in (ks.getD i 0 % 16) (by omega), u64_in i (by omega), hadd]
          erw [hw]
          have all' : got ++ absS mask a (allG n l (dOnce ks) (i + 1)) = absS mask at_ (allG n l (dOnce ks) (i + 1)) := by
            rw [hab, hab', ← List.append_assoc, all]
            congr 1
            have : (at_ < n + i) = (a < n + i) := by apply propext; omega
            simp only [this]
          refine ⟨by omega, by omega, fun _ => ⟨fun _ => ⟨by omega, by omega, fun hw1 => ⟨by omega, by omega, fun _ => ?_⟩, fun hw1 _ => ?_⟩, fun h => h rfl⟩, fun h => h rfl⟩
          · rw [if_pos ⟨hw1, by dsimp only; omega⟩] at hab
            rw [← hab]
            refine ⟨fun _ => ⟨⟨i + 1, a, got, hi', lo, by omega, by omega, all'⟩, by dsimp only; omega, ?_⟩, fun h17 => ?_⟩
            · simp [go_sem, ej, hab, Int.add_assoc]
            · refine ADraw.run us5_24 tab5_ok follows_mixed (by kernel_rfl) (by kernel_rfl) ?_
              simp -implicitDefEqProofs only [cd_t, cd_f, cd_dec, cd_not, cd_and, cd_or, grd_tt, grd_ff, grd_tf, grd_ft, grd_dt, grd_df, grd_nt, grd_nf, go_sem, reduceIte, reduceCtorEq, Nat.reduceEqDiff, Nat.reduceAdd, Nat.reduceLeDiff, Nat.reduceSub, Nat.reduceMul, Nat.reduceLT, Nat.reduceShiftRight, Nat.reduceMod]
              have hi2 : i < ms.length := by omega
              have hm0 : 0 ≤ ms.getD i 0 ∧ ms.getD i 0 ≤ 255 := by
                rw [List.getD_eq_getElem?_getD, List.getElem?_eq_getElem hi2]
                exact hms _ (List.getElem_mem hi2)
              rw [i64_in (ms.getD i 0) (by omega), u64_in (a + 1) (by omega)]
              generalize ms.getD i 0 = m at *
              have hold := keepG_oldest (dOnce_ok ks) h6 (i + 1) (by omega)
              have hck := keepG_check (dOnce_ok ks) h6 (i + 1) (by omega)
              have hokA := allG_ok (dOnce_ok ks) h13 (i + 1)
              have hkl1 := keepG_length n l (dOnce ks) (i + 1)
              rw [Int.natCast_add, Int.natCast_one, ← Int.add_assoc] at hold hck hokA
              have hokK := (checkS_0 hck).2.2.2
              refine ⟨by omega, by omega, ?_⟩
              rw [hold]
              by_cases hlow : a + 1 < n + i + 1 - ((min (l.length + (i + 1)) 64 : Nat) : Int)
              · have hmay : mayS (n + i + 1) (keepG n l (dOnce ks) (i + 1)) mask a = 13 := by
                  rw [mayS, hold, if_pos rfl, if_neg (by omega), if_neg (by omega), if_pos hlow]
                have ht : tellS (n + i + 1) (keepG n l (dOnce ks) (i + 1)) mask a m = ([], 0, 0, 13) := by rw [tellS, hmay, if_neg (by decide)]
                rw [ht]
                exact ⟨fun _ => ⟨by omega, fun _ => ⟨fun _ _ => rfl, fun h => h hlow⟩, fun h => h rfl⟩, fun h => absurd rfl h⟩
              · have hmay : mayS (n + i + 1) (keepG n l (dOnce ks) (i + 1)) mask a = 0 := by
                  rw [mayS, hold, if_pos rfl, if_neg (by omega), if_neg (by omega), if_neg hlow]
                have ht := tell_eq (most := m) hmay hm0.1
                obtain ⟨n1, n2, n3⟩ := next_at (mask := mask) (most := m) hokK (show a < n + i + 1 by omega) hm0.1
                have hmay2 := mayS_later hmay h7 n1 n2
                have k1 := abs_keep (m := mask) hokA (mayS_0 hmay).2.2.2
                have k2 := abs_keep (m := mask) hokA (mayS_0 hmay2).2.2.2
                have ho := outS_eq (mask := mask) (most := m) hokK (show a < n + i + 1 by omega)
                have hol := len_le (n := n + i + 1) (l := keepG n l (dOnce ks) (i + 1)) (mask := mask) (at_ := a) (most := m)
                have hom : ((outS (n + i + 1) (keepG n l (dOnce ks) (i + 1)) mask a m).length : Int) ≤ m := by rw [ho, List.length_take]; omega
                have hgl : got.length ≤ l.length + i := by
                  have := congrArg List.length all
                  rw [List.length_append] at this
                  omega
                have all2 : (got ++ outS (n + i + 1) (keepG n l (dOnce ks) (i + 1)) mask a m) ++ absS mask (atS (n + i + 1) (keepG n l (dOnce ks) (i + 1)) mask a m) (allG n l (dOnce ks) (i + 1)) = absS mask at_ (allG n l (dOnce ks) (i + 1)) := by
                  rw [← all', k1, k2, ho, List.append_assoc]
                  congr 1
                  rw [show absS mask (atS (n + i + 1) (keepG n l (dOnce ks) (i + 1)) mask a m) ((allG n l (dOnce ks) (i + 1)).drop ((allG n l (dOnce ks) (i + 1)).length - 64)) = _ from n3]
                  exact List.take_append_drop _ _
                rw [ht]
                refine ⟨fun h => absurd h (show ¬ (0 : Int) = 13 by decide), fun _ => ⟨fun _ => ⟨fun _ => ⟨fun _ _ => ⟨by omega, fun h => by dsimp only at h; omega, fun _ => ⟨by dsimp only; omega, ⟨i + 1, atS (n + i + 1) (keepG n l (dOnce ks) (i + 1)) mask a m, got ++ outS (n + i + 1) (keepG n l (dOnce ks) (i + 1)) mask a m, hi', by omega, by omega, by omega, all2⟩, by dsimp only; omega, ?_⟩⟩, fun h => h rfl⟩, fun h => by dsimp only at h; omega⟩, fun h => h rfl⟩⟩
                simp [go_sem, ej, hab, Int.add_assoc]
          · rw [if_neg (fun h => hw1 h.1), List.append_nil] at hab
            rw [← hab]
            refine ⟨fun _ => ⟨⟨i + 1, a, got, hi', lo, by omega, by omega, all'⟩, by dsimp only; omega, ?_⟩, fun h17 => ?_⟩
            · simp [go_sem, ej, hab, Int.add_assoc]
            · refine ADraw.run us5_24 tab5_ok follows_mixed (by kernel_rfl) (by kernel_rfl) ?_
              simp -implicitDefEqProofs only [cd_t, cd_f, cd_dec, cd_not, cd_and, cd_or, grd_tt, grd_ff, grd_tf, grd_ft, grd_dt, grd_df, grd_nt, grd_nf, go_sem, reduceIte, reduceCtorEq, Nat.reduceEqDiff, Nat.reduceAdd, Nat.reduceLeDiff, Nat.reduceSub, Nat.reduceMul, Nat.reduceLT, Nat.reduceShiftRight, Nat.reduceMod]
              have hi2 : i < ms.length := by omega
              have hm0 : 0 ≤ ms.getD i 0 ∧ ms.getD i 0 ≤ 255 := by
                rw [List.getD_eq_getElem?_getD, List.getElem?_eq_getElem hi2]
                exact hms _ (List.getElem_mem hi2)
              rw [i64_in (ms.getD i 0) (by omega), u64_in (a + 1) (by omega)]
              generalize ms.getD i 0 = m at *
              have hold := keepG_oldest (dOnce_ok ks) h6 (i + 1) (by omega)
              have hck := keepG_check (dOnce_ok ks) h6 (i + 1) (by omega)
              have hokA := allG_ok (dOnce_ok ks) h13 (i + 1)
              have hkl1 := keepG_length n l (dOnce ks) (i + 1)
              rw [Int.natCast_add, Int.natCast_one, ← Int.add_assoc] at hold hck hokA
              have hokK := (checkS_0 hck).2.2.2
              refine ⟨by omega, by omega, ?_⟩
              rw [hold]
              by_cases hlow : a + 1 < n + i + 1 - ((min (l.length + (i + 1)) 64 : Nat) : Int)
              · have hmay : mayS (n + i + 1) (keepG n l (dOnce ks) (i + 1)) mask a = 13 := by
                  rw [mayS, hold, if_pos rfl, if_neg (by omega), if_neg (by omega), if_pos hlow]
                have ht : tellS (n + i + 1) (keepG n l (dOnce ks) (i + 1)) mask a m = ([], 0, 0, 13) := by rw [tellS, hmay, if_neg (by decide)]
                rw [ht]
                exact ⟨fun _ => ⟨by omega, fun _ => ⟨fun _ _ => rfl, fun h => h hlow⟩, fun h => h rfl⟩, fun h => absurd rfl h⟩
              · have hmay : mayS (n + i + 1) (keepG n l (dOnce ks) (i + 1)) mask a = 0 := by
                  rw [mayS, hold, if_pos rfl, if_neg (by omega), if_neg (by omega), if_neg hlow]
                have ht := tell_eq (most := m) hmay hm0.1
                obtain ⟨n1, n2, n3⟩ := next_at (mask := mask) (most := m) hokK (show a < n + i + 1 by omega) hm0.1
                have hmay2 := mayS_later hmay h7 n1 n2
                have k1 := abs_keep (m := mask) hokA (mayS_0 hmay).2.2.2
                have k2 := abs_keep (m := mask) hokA (mayS_0 hmay2).2.2.2
                have ho := outS_eq (mask := mask) (most := m) hokK (show a < n + i + 1 by omega)
                have hol := len_le (n := n + i + 1) (l := keepG n l (dOnce ks) (i + 1)) (mask := mask) (at_ := a) (most := m)
                have hom : ((outS (n + i + 1) (keepG n l (dOnce ks) (i + 1)) mask a m).length : Int) ≤ m := by rw [ho, List.length_take]; omega
                have hgl : got.length ≤ l.length + i := by
                  have := congrArg List.length all
                  rw [List.length_append] at this
                  omega
                have all2 : (got ++ outS (n + i + 1) (keepG n l (dOnce ks) (i + 1)) mask a m) ++ absS mask (atS (n + i + 1) (keepG n l (dOnce ks) (i + 1)) mask a m) (allG n l (dOnce ks) (i + 1)) = absS mask at_ (allG n l (dOnce ks) (i + 1)) := by
                  rw [← all', k1, k2, ho, List.append_assoc]
                  congr 1
                  rw [show absS mask (atS (n + i + 1) (keepG n l (dOnce ks) (i + 1)) mask a m) ((allG n l (dOnce ks) (i + 1)).drop ((allG n l (dOnce ks) (i + 1)).length - 64)) = _ from n3]
                  exact List.take_append_drop _ _
                rw [ht]
                refine ⟨fun h => absurd h (show ¬ (0 : Int) = 13 by decide), fun _ => ⟨fun _ => ⟨fun _ => ⟨fun _ _ => ⟨by omega, fun h => by dsimp only at h; omega, fun _ => ⟨by dsimp only; omega, ⟨i + 1, atS (n + i + 1) (keepG n l (dOnce ks) (i + 1)) mask a m, got ++ outS (n + i + 1) (keepG n l (dOnce ks) (i + 1)) mask a m, hi', by omega, by omega, by omega, all2⟩, by dsimp only; omega, ?_⟩⟩, fun h => h rfl⟩, fun h => by dsimp only at h; omega⟩, fun h => h rfl⟩⟩
                simp [go_sem, ej, hab, Int.add_assoc]
        · have hold := keepG_oldest (dOnce_ok ks) h6 i (by omega)
          have hck := keepG_check (dOnce_ok ks) h6 i (by omega)
          have hokA := allG_ok (dOnce_ok ks) h13 i
          have hkl := keepG_length n l (dOnce ks) i
          have hokK := (checkS_0 hck).2.2.2
          refine ⟨by omega, ?_⟩
          by_cases hlow : a + 1 < n + i - ((min (l.length + i) 64 : Nat) : Int)
          · have hmay : mayS (n + i) (keepG n l (dOnce ks) i) mask a = 13 := by
              rw [mayS, hold, if_pos rfl, if_neg (by omega), if_neg (by omega), if_pos hlow]
            have ht : tellS (n + i) (keepG n l (dOnce ks) i) mask a 1000 = ([], 0, 0, 13) := by rw [tellS, hmay, if_neg (by decide)]
            rw [ht]
            exact ⟨fun h => absurd h (by decide), fun _ => rfl⟩
          · have hmay : mayS (n + i) (keepG n l (dOnce ks) i) mask a = 0 := by
              rw [mayS, hold, if_pos rfl, if_neg (by omega), if_neg (by omega), if_neg hlow]
            have ht := tell_eq (most := 1000) hmay (by decide)
            have k1 := abs_keep (m := mask) hokA (mayS_0 hmay).2.2.2
            have hle := absS_le (mask := mask) (at_ := a) (l := keepG n l (dOnce ks) i)
            have h1000 : (1000 : Int).toNat = 1000 := rfl
            have ho : outS (n + i) (keepG n l (dOnce ks) i) mask a 1000 = absS mask a (keepG n l (dOnce ks) i) := by
              rw [outS_eq hokK (by omega), List.take_of_length_le (by omega)]
            have hat : atS (n + i) (keepG n l (dOnce ks) i) mask a 1000 = n + i - 1 := by
              rw [atS, ho, if_pos (by omega)]
            have hgl : got.length ≤ l.length + i := by
              have := congrArg List.length all
              rw [List.length_append] at this
              have h2 := absS_le (mask := mask) (at_ := at_) (l := allG n l (dOnce ks) i)
              have h3 := allG_length n l (dOnce ks) i
              omega
            have k2 : absS mask a (allG n l (dOnce ks) i) = absS mask a (keepG n l (dOnce ks) i) := k1
            rw [ht, ho, hat, u64_in (n + i - 1) (by omega), ← all, k2]
            exact ⟨fun _ => ⟨by dsimp only; omega, fun _ => by simp, fun h => h rfl⟩, fun h => absurd rfl h⟩
end Dm
