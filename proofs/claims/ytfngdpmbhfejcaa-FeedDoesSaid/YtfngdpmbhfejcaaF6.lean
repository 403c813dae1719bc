import Derived.Test.YtfngdpmbhfejcaaF5
set_option linter.unusedSimpArgs false
set_option linter.unusedVariables false
namespace Dm
open Go Go.Proofs Go.IntWalk
/-- Whether one may be told. -/
def mayS (n : Int) (l : List Ev) (mask at_ : Int) : Int :=
  if (oldestS n l).2 = 0 then if 65535 < mask then 1 else if n ≤ at_ then 1 else if at_ + 1 < (oldestS n l).1 then 13 else 0 else 1
theorem fdiv16 (m : Int) : (0 < m.fdiv (2 ^ min (Int.toNat 16) 64)) = (65535 < m) := by
  have : m.fdiv (2 ^ min (Int.toNat 16) 64) = m / 65536 := by
    rw [Int.fdiv_eq_ediv_of_nonneg _ (by decide)]
    rfl
  rw [this]
  apply propext
  omega
theorem oldestS_0 {n : Int} {l : List Ev} (h : (oldestS n l).2 = 0) : checkS n l = 0 := by
  unfold oldestS at h
  split at h
  · assumption
  · cases h
theorem may_ok (n : Int) (l : List Ev) (mask at_ : Int) (h : 0 ≤ n ∧ n ≤ 18446744073709551615) (ha : 0 ≤ at_) : PureFn Try.prog 14 [.agg [.int .u64 n, .sl (evs l)], .agg [.int .u64 mask, .int .u64 at_]] (.int .i64 (mayS n l mask at_)) := by
  refine .of (ac14 tab2_ok (Nat.le_of_ble_eq_true rfl) ?_)
  simp -implicitDefEqProofs only [cd_t, cd_f, cd_dec, cd_not, cd_and, cd_or, grd_tt, grd_ff, grd_tf, grd_ft, grd_dt, grd_df, grd_nt, grd_nf, go_sem, Go.Proofs.Try.f14, reduceIte, reduceCtorEq, Nat.reduceEqDiff, Nat.reduceAdd, Nat.reduceLeDiff, Nat.reduceSub, Nat.reduceMul, Nat.reduceLT]
  rw [fdiv16]
  refine ⟨h, fun h1 => ⟨by omega, fun h2 => ⟨fun h3 => ?_, fun h3 => ?_⟩, fun h2 => ?_⟩, fun h1 => ?_⟩
  · simp [mayS, h1, h2, h3]
  · obtain ⟨h4, h5, h6, _⟩ := checkS_0 (oldestS_0 h1)
    rw [u64_in _ (by omega)]
    refine ⟨fun h7 => ?_, fun h7 => ?_⟩ <;> simp [mayS, h1, h2, h3, h7]
  · simp [mayS, h1, h2]
  · simp [mayS, h1]
def sp14 : List D → Option (Prop × D × Fr)
  | [.agg [.c (.int .u64 n), .c (.sl els)], .agg [.c (.int .u64 mask), .c (.int .u64 at_)]] =>
    some (els = evs (devs els) ∧ 0 ≤ n ∧ n ≤ 18446744073709551615 ∧ 0 ≤ at_, .int .i64 (mayS n (devs els) mask at_), [])
  | _ => none
attribute [go_sem] sp14
def tab4 : Tab := (14, sp14) :: tab3
attribute [go_sem] tab4
theorem tab4_ok : TabOk Try.prog tab4 := by
  refine .cons (fun rs p r fr h hp => ?_) tab3_ok
  unfold sp14 at h
  split at h <;> cases h
  rw [hp.1, devs_evs]
  exact may_ok _ _ _ _ ⟨hp.2.1, hp.2.2.1⟩ hp.2.2.2
/-! ### Events put behind a feed, one by one -/
abbrev Dt := Nat → Int × Int × Int
def newG (n : Int) (d : Dt) (i : Nat) : Ev := ⟨n + i, (d i).1, (d i).2.1, (d i).2.2⟩
def allG (n : Int) (l : List Ev) (d : Dt) : Nat → List Ev
  | 0 => l
  | i + 1 => allG n l d i ++ [newG n d i]
def keepG (n : Int) (l : List Ev) (d : Dt) (i : Nat) : List Ev := (allG n l d i).drop ((allG n l d i).length - 64)
theorem allG_length (n : Int) (l : List Ev) (d : Dt) : ∀ i, (allG n l d i).length = l.length + i
  | 0 => rfl
  | i + 1 => by rw [allG, List.length_append, allG_length n l d i]; simp; omega
theorem allG_ok {n : Int} {l : List Ev} {d : Dt} (hd : ∀ i, kindS (d i).1 = true) (h : okE n l = true) : ∀ i : Nat, okE (n + i) (allG n l d i) = true
  | 0 => by simpa [allG] using h
  | i + 1 => by
    have := okE_snoc (n + i) (newG n d i) (allG n l d i)
    rw [allG, Int.natCast_add, Int.natCast_one, ← Int.add_assoc, this, allG_ok hd h i, newG, hd]
    simp
theorem keepG_length (n : Int) (l : List Ev) (d : Dt) (i : Nat) : (keepG n l d i).length = min (l.length + i) 64 := by
  rw [keepG, List.length_drop, allG_length]
  omega
theorem keepG_check {n : Int} {l : List Ev} {d : Dt} (hd : ∀ i, kindS (d i).1 = true) (h : checkS n l = 0) (i : Nat) (hn : n + i ≤ 4611686018427387904) : checkS (n + i) (keepG n l d i) = 0 := by
  obtain ⟨h1, h2, h3, h4⟩ := checkS_0 h
  unfold checkS
  rw [if_pos]
  refine ⟨by omega, by omega, ?_, okE_drop _ _ _ (allG_ok hd h4 i)⟩
  rw [keepG_length]
  omega
theorem keepG_succ (n : Int) (l : List Ev) (d : Dt) (i : Nat) : keepG n l d (i + 1) = (keepG n l d i ++ [newG n d i]).drop ((keepG n l d i).length + 1 - 64) := by
  rw [keepG_length]
  unfold keepG
  rw [allG, List.length_append, List.length_singleton, allG_length]
  rw [← List.drop_append_of_le_length (by rw [allG_length]; omega), List.drop_drop]
  congr 1
  omega
theorem keepG_add {n : Int} {l : List Ev} {d : Dt} (hd : ∀ i, kindS (d i).1 = true) (h : checkS n l = 0) (i : Nat) (hn : n + i < 4611686018427387904) :
    addS (n + i) (keepG n l d i) (d i).1 (d i).2.1 (d i).2.2 = (n + i + 1, keepG n l d (i + 1), n + i, 0) := by
  rw [addS, if_pos ⟨keepG_check hd h i (by omega), hd _⟩, if_neg (by omega), keepG_succ]
  rfl
theorem keepG_0 {n : Int} {l : List Ev} {d : Dt} (h : checkS n l = 0) : keepG n l d 0 = l := by
  obtain ⟨h1, h2, h3, h4⟩ := checkS_0 h
  have : l.length - 64 = 0 := by omega
  simp [keepG, allG, this]
theorem keepG_oldest {n : Int} {l : List Ev} {d : Dt} (hd : ∀ i, kindS (d i).1 = true) (h : checkS n l = 0) (i : Nat) (hn : n + i ≤ 4611686018427387904) :
    oldestS (n + i) (keepG n l d i) = (n + i - min (l.length + i) 64, 0) := by
  rw [oldestS, if_pos (keepG_check hd h i hn), keepG_length]
/-! ### FeedOld -/
def dOld (ks : List Int) : Dt := fun i => (ks.getD i 0 % 16, 1, 2)
theorem dOld_ok (ks : List Int) (i : Nat) : kindS (dOld ks i).1 = true := kindS_mod _
set_option maxRecDepth 4000 in
theorem old_ok (n : Int) (l : List Ev) (mask : Int) (ks : List Int) (hn : 0 ≤ n ∧ n ≤ 18446744073709551615) (hm : 0 ≤ mask ∧ mask ≤ 18446744073709551615) (hk : ∀ k ∈ ks, 0 ≤ k ∧ k ≤ 255) : PureFn Try.prog 4 [.agg [.int .u64 n, .sl (evs l)], .int .u64 mask, .sl (u8s ks)] (.bool true) := by
  refine .of (ac4 tab4_ok (Nat.le_of_ble_eq_true rfl) ?_)
  simp -implicitDefEqProofs only [cd_t, cd_f, cd_dec, cd_not, cd_and, cd_or, grd_tt, grd_ff, grd_tf, grd_ft, grd_dt, grd_df, grd_nt, grd_nf, go_sem, Go.Proofs.Try.f4, reduceIte, reduceCtorEq, Nat.reduceEqDiff, Nat.reduceAdd, Nat.reduceLeDiff, Nat.reduceSub, Nat.reduceMul, Nat.reduceLT]
  refine fun h1 => ⟨fun h2 => ⟨fun h3 h4 => ⟨fun h5 => ⟨hn, fun h6 => ⟨fun _ => trivial, fun h7 _ => ?_⟩, fun _ => trivial⟩, fun _ => trivial⟩, fun _ => trivial⟩, fun _ => trivial⟩
  obtain ⟨hc1, hc2, hc3, hc4⟩ := checkS_0 h6
  rw [u64_in (n - 1) (by omega)]
  have hG : ∀ i : Nat, i ≤ 100 → mayS (n + i) (keepG n l (dOld ks) i) mask (n - 1) = if i ≤ 64 then 0 else 13 := by
    intro i hi
    rw [mayS, keepG_oldest (dOld_ok ks) h6 i (by omega), if_pos rfl, if_neg (by omega), if_neg (by omega)]
    dsimp only
    split <;> split <;> first | rfl | omega
  have hH : ∀ i : Nat, i ≤ 101 → mayS (n + i + 1) (keepG n l (dOld ks) (i + 1)) mask (n + i) = 0 := by
    intro i hi
    have := keepG_oldest (dOld_ok ks) h6 (i + 1) (by omega)
    rw [Int.natCast_add, Int.natCast_one, ← Int.add_assoc] at this
    rw [mayS, this, if_pos rfl, if_neg (by omega), if_neg (by omega), if_neg (by dsimp only; omega)]
  refine SWp.loop (ι := {i // i ≤ ks.length}) (fun i => ⟨[(1, .int .u64 mask), (3, .ref 0 0), (7, .ref 1 0), (8, .int .u64 n), (47, .sl (u8s ks)), (48, .int .i64 ks.length), (49, .int .i64 i.1)],
    [(1, .box [.int .u64 mask, .int .u64 (n - 1)]), (0, .box [.int .u64 (n + i.1), .sl (evs (keepG n l (dOld ks) i.1))])], 2⟩) (fun i => ks.length - i.1) ⟨0, by omega⟩ ?_ ?_
  · simp [go_sem, keepG_0 h6]
  · rintro ⟨i, hi⟩
    refine awp_sound tab4_ok.toS lv4 _ _ _ rfl ?_
    simp -implicitDefEqProofs only [cd_t, cd_f, cd_dec, cd_not, cd_and, cd_or, grd_tt, grd_ff, grd_tf, grd_ft, grd_dt, grd_df, grd_nt, grd_nf, go_sem, reduceIte, reduceCtorEq, Nat.reduceEqDiff, Nat.reduceAdd, Nat.reduceLeDiff, Nat.reduceSub, Nat.reduceMul, Nat.reduceLT]
    refine ⟨fun h => ?_, fun _ => trivial⟩
    have h8 : i < ks.length := by omega
    have h9 : 0 ≤ ks.getD i 0 ∧ ks.getD i 0 ≤ 255 := by
      rw [List.getD_eq_getElem?_getD, List.getElem?_eq_getElem h8]
      exact hk _ (List.getElem_mem h8)
    have h10 : (ks.getD i 0).tmod 16 = ks.getD i 0 % 16 := Int.tmod_eq_emod_of_nonneg h9.1
    have hadd := keepG_add (dOld_ok ks) h6 i (by omega)
    rw [show (dOld ks i).1 = ks.getD i 0 % 16 from rfl, show (dOld ks i).2.1 = 1 from rfl, show (dOld ks i).2.2 = 2 from rfl] at hadd
    have hl1 := keepG_length n l (dOld ks) i
    have hGi := hG i (by omega)
    have hHi := hH i (by omega)
    rw [h10, i64_in (ks.getD i 0 % 16) (by omega), u64_in i (by omega), u64_in (n + i) (by omega), i64_in (i + 1) (by omega), hadd]
    have tail : ∃ i_1 : {i // i ≤ ks.length}, ks.length - i_1.val < ks.length - i ∧ (i : Int) + 1 = i_1.val ∧ n + ↑i + 1 = n + i_1.val ∧ keepG n l (dOld ks) (i + 1) = keepG n l (dOld ks) i_1.val :=
      ⟨⟨i + 1, h8⟩, by dsimp only; omega, by simp, by simp [Int.add_assoc], rfl⟩
    rw [hGi, hHi]
    refine ⟨by omega, by omega, fun hb => ?_, fun hb => ?_⟩
    · obtain ⟨j, hj1, hj2, hj3, hj4⟩ := tail
      refine ⟨fun hn0 => ⟨fun _ => ⟨by omega, by omega, fun _ => ⟨fun _ => ⟨by dsimp only; omega, fun _ => ⟨j, hj1, hj2, ?_⟩, fun h => h rfl⟩, fun h => h rfl⟩, fun h => h rfl⟩, fun h => ?_⟩,
        fun _ => ⟨by omega, by omega, fun _ => ⟨fun _ => ⟨by dsimp only; omega, fun _ => ⟨j, hj1, hj2, ?_⟩, fun h => h rfl⟩, fun h => h rfl⟩, fun h => h rfl⟩⟩
      · simp [go_sem, ← hj3, hj4]
      · split at h <;> simp_all
      · simp [go_sem, ← hj3, hj4]
    · by_cases h64 : i ≤ 64
      · have : (i : Int) ≤ 64 := by omega
        simp [h64, this] at hb
      · have : ¬ (i : Int) ≤ 64 := by omega
        simp [h64, this] at hb
end Dm
