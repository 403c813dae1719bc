import Derived.Test.YtfngdpmbhfejcaaF7
set_option linter.unusedSimpArgs false
set_option linter.unusedVariables false
namespace Dm
open Go Go.Proofs Go.IntWalk
def sp15 : List D → Option (Prop × D × Fr)
  | [.agg [.c (.int .u64 n), .c (.sl els)], .agg [.c (.int .u64 mask), .c (.int .u64 at_)], .c (.int .i64 most)] =>
    some (els = evs (devs els) ∧ 0 ≤ n ∧ n ≤ 18446744073709551615 ∧ 0 ≤ mask ∧ 0 ≤ at_ ∧ at_ ≤ 18446744073709551615,
      .tup [.vec 0 (tellS n (devs els) mask at_ most).1.length, .agg [.int .u64 (tellS n (devs els) mask at_ most).2.1, .int .u64 (tellS n (devs els) mask at_ most).2.2.1], .int .i64 (tellS n (devs els) mask at_ most).2.2.2],
      [(4, 33, true, evs (tellS n (devs els) mask at_ most).1)])
  | _ => none
attribute [go_sem] sp15
def tab5 : Tab := (15, sp15) :: tab4
attribute [go_sem] tab5
theorem tab5_ok : TabOk Try.prog tab5 := by
  refine .cons (fun rs p r fr h hp => ?_) tab4_ok
  unfold sp15 at h
  split at h <;> cases h
  rw [hp.1, devs_evs]
  exact ⟨rfl, tell_ok _ _ _ _ _ ⟨hp.2.1, hp.2.2.1⟩ hp.2.2.2.1 hp.2.2.2.2⟩
@[go_sem] theorem sub_eq {a b a' b' : Int} : eqD Try.prog 39 [.int .u64 a, .int .u64 b] [.int .u64 a', .int .u64 b'] = some (decide (a = a' ∧ b = b')) := by
  simp only [eqD, eqOf_39, eqCells, eqC, List.getElem?_cons_zero, List.getElem?_cons_succ, if_true, Option.some.injEq]
  rw [Bool.eq_iff_iff]
  simp
/-! ### What is told, by numbers -/
theorem okE_mem {n : Int} : ∀ {l : List Ev}, okE n l = true → ∀ x ∈ l, n - l.length ≤ x.seq ∧ x.seq < n
  | [], _, x, h => by cases h
  | e :: r, h, x, hx => by
    rw [okE, Bool.and_eq_true, Bool.and_eq_true, decide_eq_true_eq] at h
    rw [List.length_cons]
    rcases List.mem_cons.1 hx with rfl | hx
    · omega
    · have := okE_mem h.2 x hx
      omega
theorem okE_sorted {n : Int} : ∀ {l : List Ev}, okE n l = true → l.Pairwise fun x y => x.seq < y.seq
  | [], _ => .nil
  | e :: r, h => by
    rw [okE, Bool.and_eq_true, Bool.and_eq_true, decide_eq_true_eq] at h
    refine List.pairwise_cons.2 ⟨fun y hy => ?_, okE_sorted h.2⟩
    have := okE_mem h.2 y hy
    omega
theorem behS_eq {n at_ : Int} (hat : at_ < n) : ∀ {l : List Ev}, okE n l = true → behS n l at_ = l.filter fun e => decide (at_ < e.seq)
  | [], _ => by simp [behS]
  | e :: r, h => by
    have h' := h
    rw [okE, Bool.and_eq_true, Bool.and_eq_true, decide_eq_true_eq] at h
    have ih := behS_eq hat h.2
    unfold behS at *
    rw [List.length_cons]
    by_cases hk : (n - 1 - at_).toNat ≤ r.length
    · rw [show r.length + 1 - (n - 1 - at_).toNat = (r.length - (n - 1 - at_).toNat) + 1 from by omega, List.drop_succ_cons, ih, List.filter_cons_of_neg]
      simp only [decide_eq_true_eq]
      omega
    · rw [show r.length + 1 - (n - 1 - at_).toNat = 0 from by omega, List.drop_zero, List.filter_cons_of_pos (by simp only [decide_eq_true_eq]; omega), ← ih, show r.length - (n - 1 - at_).toNat = 0 from by omega, List.drop_zero]
/-- What is wanted of those above a number. -/
def absS (mask at_ : Int) (l : List Ev) : List Ev := l.filter fun e => wantS mask e && decide (at_ < e.seq)
theorem outS_eq {n : Int} {l : List Ev} {mask at_ most : Int} (h : okE n l = true) (hat : at_ < n) : outS n l mask at_ most = (absS mask at_ l).take most.toNat := by
  rw [outS, behS_eq hat h, List.filter_filter]
  rfl
theorem absS_sorted {n : Int} {l : List Ev} {mask at_ : Int} (h : okE n l = true) : (absS mask at_ l).Pairwise fun x y => x.seq < y.seq := (okE_sorted h).filter _
theorem absS_none {n : Int} {l : List Ev} {mask at_ : Int} (h : okE n l = true) (hat : n - 1 ≤ at_) : absS mask at_ l = [] := by
  rw [absS, List.filter_eq_nil_iff]
  intro x hx
  have := okE_mem h x hx
  simp only [Bool.and_eq_true, decide_eq_true_eq, not_and]
  omega
/-- Above the last of some. -/
theorem filter_last : ∀ {L : List Ev} {a : Nat}, (L.Pairwise fun x y => x.seq < y.seq) → 0 < a → a ≤ L.length → L.filter (fun e => decide ((L.getD (a - 1) default).seq < e.seq)) = L.drop a
  | [], a, _, h1, h2 => by simp at h2; omega
  | e :: r, 1, h, _, _ => by
    simp only [Nat.sub_self, List.getD_cons_zero, List.drop_succ_cons, List.drop_zero]
    rw [List.filter_cons_of_neg (by simp), List.filter_eq_self]
    intro x hx
    have := (List.pairwise_cons.1 h).1 x hx
    simpa using this
  | e :: r, a + 2, h, _, h2 => by
    have ih := filter_last (a := a + 1) (List.pairwise_cons.1 h).2 (by omega) (by simpa using h2)
    simp only [Nat.add_sub_cancel] at ih
    simp only [show a + 2 - 1 = a + 1 from rfl, List.getD_cons_succ, List.drop_succ_cons]
    rw [List.filter_cons_of_neg, ih]
    have hm : r.getD a default ∈ r := by
      rw [List.getD_eq_getElem?_getD, List.getElem?_eq_getElem (by simp at h2; omega)]
      exact List.getElem_mem _
    have := (List.pairwise_cons.1 h).1 _ hm
    simp only [decide_eq_true_eq]
    omega
theorem absS_more {mask at_ at' : Int} {l : List Ev} (h : at_ ≤ at') : absS mask at' l = (absS mask at_ l).filter fun e => decide (at' < e.seq) := by
  rw [absS, absS, List.filter_filter]
  congr 1
  funext e
  by_cases h1 : at' < e.seq
  · have : at_ < e.seq := by omega
    simp [h1, this]
  · simp [h1]
theorem absS_mem {n : Int} {l : List Ev} {mask at_ : Int} (h : okE n l = true) {x : Ev} (hx : x ∈ absS mask at_ l) : at_ < x.seq ∧ x.seq < n := by
  rw [absS, List.mem_filter] at hx
  simp only [Bool.and_eq_true, decide_eq_true_eq] at hx
  exact ⟨hx.2.2, (okE_mem h x hx.1).2⟩
/-- Told once, one is told the rest next. -/
theorem next_at {n : Int} {l : List Ev} {mask at_ most : Int} (h : okE n l = true) (hat : at_ < n) (hm : 0 ≤ most) :
    at_ ≤ atS n l mask at_ most ∧ atS n l mask at_ most < n ∧ absS mask (atS n l mask at_ most) l = (absS mask at_ l).drop most.toNat := by
  unfold atS
  rw [outS_eq h hat]
  split
  · rename_i h1
    rw [List.length_take] at h1
    refine ⟨by omega, by omega, ?_⟩
    rw [absS_none h (by omega), List.drop_of_length_le (by omega)]
  · rename_i h1
    rw [List.length_take] at h1
    split
    · rename_i h2
      have h3 : ((absS mask at_ l).take most.toNat).getD (most.toNat - 1) default = (absS mask at_ l).getD (most.toNat - 1) default := by
        rw [List.getD_eq_getElem?_getD, List.getElem?_take, if_pos (by omega), ← List.getD_eq_getElem?_getD]
      rw [h3]
      have hmem : (absS mask at_ l).getD (most.toNat - 1) default ∈ absS mask at_ l := by
        rw [List.getD_eq_getElem?_getD, List.getElem?_eq_getElem (by omega)]
        exact List.getElem_mem _
      obtain ⟨h4, h5⟩ := absS_mem h hmem
      refine ⟨by omega, h5, ?_⟩
      rw [absS_more (Int.le_of_lt h4), filter_last (absS_sorted h) (by omega) (by omega)]
    · rename_i h2
      have : most.toNat = 0 := by omega
      rw [this]
      exact ⟨Int.le_refl _, hat, rfl⟩
/-- One who may be told may be told further on. -/
theorem mayS_later {n : Int} {l : List Ev} {mask mask' at_ at' : Int} (h : mayS n l mask at_ = 0) (hm : mask' ≤ 65535) (h1 : at_ ≤ at') (h2 : at' < n) : mayS n l mask' at' = 0 := by
  unfold mayS at *
  split at h
  · rename_i h3
    rw [if_pos h3, if_neg (by omega), if_neg (by omega)]
    split at h
    · cases h
    · split at h
      · cases h
      · split at h
        · cases h
        · rw [if_neg (by omega)]
  · cases h
theorem tell_eq {n : Int} {l : List Ev} {mask at_ most : Int} (h : mayS n l mask at_ = 0) (hm : 0 ≤ most) : tellS n l mask at_ most = (outS n l mask at_ most, mask, atS n l mask at_ most, 0) := by
  rw [tellS, if_pos h, if_neg (by omega)]
theorem tell_none {n : Int} {l : List Ev} {at_ : Int} (h : mayS n l 0 at_ = 0) : tellS n l 0 at_ 5 = ([], 0, n - 1, 0) := by
  obtain ⟨h1, _, h3, _⟩ := mayS_0 h
  obtain ⟨_, _, _, h5⟩ := checkS_0 h1
  have h4 : outS n l 0 at_ 5 = [] := by
    rw [outS_eq h5 h3, absS, List.filter_eq_nil_iff.2, List.take_nil]
    intro x _
    simp [wantS]
  rw [tell_eq h (by decide), atS, h4]
  rfl
theorem len_le {n : Int} {l : List Ev} {mask at_ most : Int} : (outS n l mask at_ most).length ≤ l.length := by
  unfold outS behS
  rw [List.length_take]
  have := List.length_filter_le (wantS mask) (l.drop (l.length - (n - 1 - at_).toNat))
  rw [List.length_drop] at this
  omega
theorem atS_full {n : Int} {l : List Ev} {mask at_ most : Int} (h : ¬ ((outS n l mask at_ most).length : Int) < most) (hm : 0 < most) : atS n l mask at_ most = ((outS n l mask at_ most).getD (most.toNat - 1) default).seq := by
  rw [atS, if_neg h, if_pos hm]
set_option maxRecDepth 4000 in
theorem steps_ok (n : Int) (l : List Ev) (mask at_ a b : Int) (hn : 0 ≤ n ∧ n ≤ 18446744073709551615) (hl : ∀ e ∈ l, e.rng) (hm : 0 ≤ mask ∧ mask ≤ 18446744073709551615) (ha : 0 ≤ at_ ∧ at_ ≤ 18446744073709551615) (hA : 0 ≤ a ∧ a ≤ 255) (hB : 0 ≤ b ∧ b ≤ 255) :
    PureFn Try.prog 6 [.agg [.int .u64 n, .sl (evs l)], .agg [.int .u64 mask, .int .u64 at_], .int .u8 a, .int .u8 b] (.bool true) := by
  refine .of (ac6 tab5_ok (Nat.le_of_ble_eq_true rfl) ?_)
  simp -implicitDefEqProofs only [cd_t, cd_f, cd_dec, cd_not, cd_and, cd_or, grd_tt, grd_ff, grd_tf, grd_ft, grd_dt, grd_df, grd_nt, grd_nf, go_sem, Go.Proofs.Try.f6, reduceIte, reduceCtorEq, Nat.reduceEqDiff, Nat.reduceAdd, Nat.reduceLeDiff, Nat.reduceSub, Nat.reduceMul, Nat.reduceLT, Nat.reduceShiftRight, Nat.reduceMod]
  rw [i64_in a (by omega), i64_in b (by omega), i64_in (a + b) (by omega)]
  refine fun h1 => ⟨fun _ => trivial, fun h2 => ⟨by omega, fun h3 => ?_, fun h3 _ => ?_⟩⟩
  · have h4 : mayS n l mask at_ = 0 := by
      unfold tellS at h3
      split at h3
      · assumption
      · exact absurd h3 (by assumption)
    obtain ⟨h5, h6, h7, h8⟩ := mayS_0 h4
    obtain ⟨h9, h10, h11, h12⟩ := checkS_0 h5
    obtain ⟨h13, h14, h15⟩ := next_at (mask := mask) (most := a) h12 h7 hA.1
    have h16 := mayS_later h4 h6 h13 h14
    have h17 := tell_none (mayS_later h4 (mask' := 0) (by decide) (Int.le_refl _) h7)
    rw [tell_eq h4 hA.1, tell_eq h4 (show 0 ≤ a + b by omega), h17]
    dsimp only
    rw [tell_eq h16 hB.1, u64_in (n - 1) (by omega)]
    dsimp only
    have h18 := len_le (n := n) (l := l) (mask := mask) (at_ := at_) (most := a)
    have h19 := len_le (n := n) (l := l) (mask := mask) (at_ := atS n l mask at_ a) (most := b)
    have h20 : outS n l mask at_ (a + b) = outS n l mask at_ a ++ outS n l mask (atS n l mask at_ a) b := by
      rw [outS_eq h12 h7, outS_eq h12 h7, outS_eq h12 h14, h15, Int.toNat_add hA.1 hB.1, List.take_add]
    have h21 : b ≠ 0 → ¬ ((outS n l mask (atS n l mask at_ a) b).length : Int) < b → atS n l mask at_ (a + b) = atS n l mask (atS n l mask at_ a) b := fun hb hlen => by
      have h22 := hlen
      rw [outS_eq h12 h14, h15, List.length_take, List.length_drop] at h22
      rw [atS_full hlen (by omega), atS_full (by rw [outS_eq h12 h7, List.length_take]; omega) (by omega), outS_eq h12 h7, outS_eq h12 h14, h15]
      rw [List.getD_eq_getElem?_getD, List.getD_eq_getElem?_getD, List.getElem?_take, List.getElem?_take, if_pos (by omega), if_pos (by omega), List.getElem?_drop]
      congr 3
      omega
    refine ⟨by omega, ⟨by omega, by omega, by omega, by omega, by omega⟩, by omega, fun _ => ⟨fun _ => ⟨by omega, fun _ => ⟨fun h22 => ⟨fun h23 _ => ⟨fun _ => ⟨fun _ _ => ⟨fun _ => by simp, fun h => h rfl⟩, fun h => h rfl⟩, fun h24 => h22 ⟨rfl, h21 h23 h24⟩⟩, fun _ => ⟨fun _ _ => ⟨fun _ => by simp, fun h => h rfl⟩, fun h => h rfl⟩⟩, fun _ => ⟨fun _ _ => ⟨fun _ => by simp, fun h => h rfl⟩, fun h => h rfl⟩⟩, fun h => h h20⟩, fun h => h rfl⟩, fun h => h rfl⟩
  · have h4 : ¬ mayS n l mask at_ = 0 := fun h => h3 (by rw [tell_eq h (by omega)])
    have h5 : tellS n l mask at_ (a + b) = ([], 0, 0, mayS n l mask at_) := by rw [tellS, if_neg h4]
    rw [h5]
    exact ⟨fun _ => ⟨by omega, by simp⟩, fun h => h rfl⟩
end Dm
