import Derived.Test.YtpaojpjhppgoeaaKI
set_option linter.unusedSimpArgs false
set_option linter.unusedVariables false
namespace Dm
open Go Go.Proofs Go.IntWalk
def addS (l : List Rk) (id key : Int) : List Rk × Int :=
  if checkR l = 0 then
    if thereS l id = true ∨ hasS l key = true then ([], 6)
    else if l.length = 64 then ([], 7)
    else (insS l (posS l id) ⟨id, key, false⟩, 0)
  else ([], checkR l)
/-! ### Roots in order -/
theorem mem_getD {l : List Rk} {x : Rk} : x ∈ l ↔ ∃ i, i < l.length ∧ l.getD i default = x := by
  rw [List.mem_iff_getElem]
  constructor
  · rintro ⟨i, hi, rfl⟩; exact ⟨i, hi, getD_lt hi⟩
  · rintro ⟨i, hi, rfl⟩; exact ⟨i, hi, (getD_lt hi).symm⟩
theorem has_mem {l : List Rk} {key : Int} : hasS l key = true ↔ ∃ e ∈ l, e.key = key := by
  rw [hasS, List.any_eq_true]
  simp
theorem OkR_pw {l : List Rk} : OkR l ↔ l.Pairwise (fun x y => x.id < y.id) ∧ l.Pairwise fun x y => ¬ x.key = y.key := by
  rw [OkR_iff, List.pairwise_iff_getElem, List.pairwise_iff_getElem]
  constructor
  · rintro ⟨h1, h2⟩
    refine ⟨fun i j hi hj hij => ?_, fun i j hi hj hij => ?_⟩
    · have := h1 i j hij hj
      rwa [getD_lt hi, getD_lt hj] at this
    · have := h2 i j hij hj
      rwa [getD_lt hi, getD_lt hj] at this
  · rintro ⟨h1, h2⟩
    refine ⟨fun a b hab hb => ?_, fun a b hab hb => ?_⟩
    · rw [getD_lt hb, getD_lt (show a < l.length by omega)]
      exact h1 a b _ hb hab
    · rw [getD_lt hb, getD_lt (show a < l.length by omega)]
      exact h2 a b _ hb hab
theorem pos_le {l : List Rk} {id : Int} : posS l id ≤ l.length := List.findIdx_le_length
theorem pos_lo {l : List Rk} {id : Int} {k : Nat} (h : k < posS l id) : (l.getD k default).id < id := by
  have h1 : k < l.length := Nat.lt_of_lt_of_le h pos_le
  have := List.not_of_lt_findIdx h
  rw [getD_lt h1]
  simp at this
  omega
theorem pos_hi {l : List Rk} {id : Int} (ho : OkR l) {k : Nat} (h : posS l id ≤ k) (hk : k < l.length) : id ≤ (l.getD k default).id := by
  have h1 : posS l id < l.length := by omega
  have h2 : id ≤ (l.getD (posS l id) default).id := by
    have h3 : l.findIdx (fun r => decide (id ≤ r.id)) < l.length := h1
    have := List.findIdx_getElem (w := h3)
    rw [getD_lt h1]
    simp only [decide_eq_true_eq] at this
    exact this
  by_cases hkp : k = posS l id
  · rw [hkp]; exact h2
  · have := ho.mono (show posS l id < k by omega) hk
    omega
theorem there_mem {l : List Rk} {id : Int} (ho : OkR l) : thereS l id = true ↔ ∃ e ∈ l, e.id = id := by
  rw [thereS, decide_eq_true_eq]
  constructor
  · rintro ⟨h1, h2⟩
    exact ⟨_, mem_getD.2 ⟨_, h1, rfl⟩, h2⟩
  · rintro ⟨e, he, rfl⟩
    obtain ⟨i, hi, rfl⟩ := mem_getD.1 he
    have : posS l (l.getD i default).id = i := pos_eq (by omega) (fun k hk => ho.mono hk hi) (fun _ => by omega)
    rw [this]
    exact ⟨hi, rfl⟩
theorem ins_perm {l : List Rk} {i : Nat} {x : Rk} : List.Perm (insS l i x) (x :: l) := by
  have := List.perm_middle (a := x) (l₁ := l.take i) (l₂ := l.drop i)
  rwa [List.take_append_drop] at this
theorem ins_ok {l : List Rk} {x : Rk} (ho : OkR l) (ht : ¬ thereS l x.id = true) (hh : ¬ hasS l x.key = true) : OkR (insS l (posS l x.id) x) := by
  obtain ⟨h1, h2⟩ := OkR_pw.1 ho
  have hnt : ∀ e ∈ l, ¬ e.id = x.id := fun e he h => ht ((there_mem ho).2 ⟨e, he, h⟩)
  have hnh : ∀ e ∈ l, ¬ e.key = x.key := fun e he h => hh (has_mem.2 ⟨e, he, h⟩)
  have hlo : ∀ e ∈ l.take (posS l x.id), e.id < x.id := fun e he => by
    obtain ⟨i, hi, rfl⟩ := List.getElem_of_mem he
    rw [List.length_take] at hi
    have := pos_lo (l := l) (id := x.id) (k := i) (by omega)
    rw [getD_lt (by omega)] at this
    simpa using this
  have hhi : ∀ e ∈ l.drop (posS l x.id), x.id < e.id := fun e he => by
    obtain ⟨i, hi, rfl⟩ := List.getElem_of_mem he
    rw [List.length_drop] at hi
    have h3 := pos_hi ho (id := x.id) (k := posS l x.id + i) (by omega) (by omega)
    have h4 := hnt _ (List.mem_of_mem_drop he)
    rw [getD_lt (by omega)] at h3
    simp only [List.getElem_drop] at h4 ⊢
    omega
  rw [← List.take_append_drop (posS l x.id) l, List.pairwise_append] at h1 h2
  refine OkR_pw.2 ⟨?_, ?_⟩
  · rw [insS, List.pairwise_append]
    refine ⟨h1.1, List.pairwise_cons.2 ⟨hhi, h1.2.1⟩, fun a ha b hb => ?_⟩
    rcases List.mem_cons.1 hb with rfl | hb
    · exact hlo a ha
    · exact h1.2.2 a ha b hb
  · rw [insS, List.pairwise_append]
    refine ⟨h2.1, List.pairwise_cons.2 ⟨fun b hb => fun h => hnh b (List.mem_of_mem_drop hb) h.symm, h2.2.1⟩, fun a ha b hb => ?_⟩
    rcases List.mem_cons.1 hb with rfl | hb
    · exact hnh a (List.mem_of_mem_take ha)
    · exact h2.2.2 a ha b hb
theorem add_0 {l : List Rk} {id key : Int} (h : (addS l id key).2 = 0) : checkR l = 0 ∧ ¬ thereS l id = true ∧ ¬ hasS l key = true ∧ l.length < 64 ∧ addS l id key = (insS l (posS l id) ⟨id, key, false⟩, 0) := by
  unfold addS at h ⊢
  split at h
  · rename_i h1
    split at h
    · cases h
    · rename_i h2
      split at h
      · cases h
      · rename_i h3
        have := (checkR_0 h1).1
        rw [if_pos h1, if_neg h2, if_neg h3]
        exact ⟨h1, fun h => h2 (.inl h), fun h => h2 (.inr h), by omega, rfl⟩
  · rename_i h1; exact absurd h h1
theorem ins_len {l : List Rk} {i : Nat} {x : Rk} : (insS l i x).length = l.length + 1 := ins_perm.length_eq
theorem ins_check {l : List Rk} {x : Rk} (hc : checkR l = 0) (ht : ¬ thereS l x.id = true) (hh : ¬ hasS l x.key = true) (hl : l.length < 64) : checkR (insS l (posS l x.id) x) = 0 := by
  rw [checkR, if_pos ⟨by rw [ins_len]; omega, ins_ok (checkR_0 hc).2 ht hh⟩]
theorem ins_there {l : List Rk} {x : Rk} {i : Nat} {y : Int} (ho : OkR (insS l i x)) (ho' : OkR l) : thereS (insS l i x) y = true ↔ x.id = y ∨ thereS l y = true := by
  rw [there_mem ho, there_mem ho']
  simp [ins_perm.mem_iff]
theorem ins_has {l : List Rk} {x : Rk} {i : Nat} {y : Int} : hasS (insS l i x) y = true ↔ x.key = y ∨ hasS l y = true := by
  rw [has_mem, has_mem]
  simp [ins_perm.mem_iff]
set_option maxRecDepth 4000 in
theorem add_ok (l : List Rk) (id key : Int) : PureFn Try.prog 9 [.sl (rks l), .int .u64 id, .int .u64 key] (.tup [.sl (rks (addS l id key).1), .int .i64 (addS l id key).2]) := by
  refine .of (ac9 tab7_ok (Nat.le_of_ble_eq_true rfl) ?_)
  simp -implicitDefEqProofs only [cd_t, cd_f, cd_dec, cd_not, cd_and, cd_or, grd_tt, grd_ff, grd_tf, grd_ft, grd_dt, grd_df, grd_nt, grd_nf, go_sem, Go.Proofs.Try.f9, reduceIte, reduceCtorEq, Nat.reduceEqDiff, Nat.reduceAdd, Nat.reduceLeDiff, Nat.reduceSub, Nat.reduceMul, Nat.reduceLT, Nat.reduceShiftRight, Nat.reduceMod]
  by_cases h1 : checkR l = 0
  · have hf : findS l id = ((posS l id : Int), thereS l id, 0) := by rw [findS, if_pos h1]
    have hl := (checkR_0 h1).1
    rw [hf]
    refine ⟨fun _ => ⟨fun h2 => ⟨fun h3 => ?_, fun h3 _ => ⟨fun h4 => ?_, fun h4 => ⟨by omega, ?_⟩⟩⟩, fun h2 => ?_⟩, fun h => absurd rfl h⟩
    · rw [addS, if_pos h1, if_pos (.inr h3)]; exact ⟨rfl, rfl⟩
    · rw [addS, if_pos h1, if_neg (by dsimp only at h2; rw [h2, h3]; decide), if_pos (by omega)]; exact ⟨rfl, rfl⟩
    · have ha : addS l id key = (insS l (posS l id) ⟨id, key, false⟩, 0) := by rw [addS, if_pos h1, if_neg (by dsimp only at h2; rw [h2, h3]; decide), if_neg (by omega)]
      refine insert_ok l _ _ pos_le (by omega) fun j os nx hj => ?_
      simp -implicitDefEqProofs only [cd_t, cd_f, cd_dec, cd_not, cd_and, cd_or, grd_tt, grd_ff, grd_tf, grd_ft, grd_dt, grd_df, grd_nt, grd_nf, go_sem, reduceIte, reduceCtorEq, Nat.reduceEqDiff, Nat.reduceAdd, Nat.reduceLeDiff, Nat.reduceSub, Nat.reduceMul, Nat.reduceLT, Nat.reduceShiftRight, Nat.reduceMod]
      rw [ha, hj]
      exact ⟨⟨rfl, _, _, _, rfl⟩, rfl⟩
    · rw [addS, if_pos h1, if_pos (.inl h2)]; exact ⟨rfl, rfl⟩
  · have hf : findS l id = (0, false, checkR l) := by rw [findS, if_neg h1]
    rw [hf, addS, if_neg h1]
    exact ⟨fun h => absurd h h1, fun _ => ⟨rfl, rfl⟩⟩
def sp9' : List D → Option (Prop × D × Fr)
  | [.c (.sl els), .c (.int .u64 id), .c (.int .u64 key)] => some (els = rks (drks els), .tup [.sl (rks (addS (drks els) id key).1), .int .i64 (addS (drks els) id key).2], [])
  | _ => none
attribute [go_sem] sp9'
def tabA : Tab := (8, sp8) :: (9, sp9') :: (14, sp14) :: tab7
attribute [go_sem] tabA
theorem tabA_ok : TabOk Try.prog tabA := by
  refine .cons (fun rs p r fr h hp => ?_) (.cons (fun rs p r fr h hp => ?_) (.cons (fun rs p r fr h hp => ?_) tab7_ok))
  · unfold sp8 at h
    split at h <;> cases h
    exact live_ok
  · unfold sp9' at h
    split at h <;> cases h
    rw [hp, drks_rks]
    exact add_ok _ _ _
  · unfold sp14 at h
    split at h <;> cases h
    rw [hp.1, hp.2, drks_rks, drks_rks]
    exact same_ok _ _
set_option maxRecDepth 4000 in
theorem order_law (l : List Rk) (id key other more : Int) : PureFn Try.prog 5 [.sl (rks l), .int .u64 id, .int .u64 key, .int .u64 other, .int .u64 more] (.bool true) := by
  refine .of (ac5 tabA_ok (Nat.le_of_ble_eq_true rfl) ?_)
  simp -implicitDefEqProofs only [cd_t, cd_f, cd_dec, cd_not, cd_and, cd_or, grd_tt, grd_ff, grd_tf, grd_ft, grd_dt, grd_df, grd_nt, grd_nf, go_sem, Go.Proofs.Try.f5, reduceIte, reduceCtorEq, Nat.reduceEqDiff, Nat.reduceAdd, Nat.reduceLeDiff, Nat.reduceSub, Nat.reduceMul, Nat.reduceLT, Nat.reduceShiftRight, Nat.reduceMod]
  refine fun _ => ⟨fun _ => trivial, fun h1 => ⟨fun h2 => ⟨fun h3 => ?_, fun _ => trivial⟩, fun _ => trivial⟩⟩
  obtain ⟨c1, t1, k1, n1, e1⟩ := add_0 h2
  obtain ⟨_, t2, k2, _, e2⟩ := add_0 h3
  have o := (checkR_0 c1).2
  have cA := ins_check (x := ⟨id, key, false⟩) c1 t1 k1 n1
  have cB := ins_check (x := ⟨other, more, false⟩) c1 t2 k2 n1
  have oA := (checkR_0 cA).2
  have oB := (checkR_0 cB).2
  rw [e1, e2]
  dsimp only at cA cB oA oB ⊢
  have tA : thereS (insS l (posS l id) ⟨id, key, false⟩) other = true ↔ id = other := by rw [ins_there oA o]; simp [t2]
  have tB : thereS (insS l (posS l other) ⟨other, more, false⟩) id = true ↔ other = id := by rw [ins_there oB o]; simp [t1]
  have kA : hasS (insS l (posS l id) ⟨id, key, false⟩) more = true ↔ key = more := by rw [ins_has]; simp [k2]
  have kB : hasS (insS l (posS l other) ⟨other, more, false⟩) key = true ↔ more = key := by rw [ins_has]; simp [k1]
  by_cases hc : id = other ∨ key = more
  · have eA : addS (insS l (posS l id) ⟨id, key, false⟩) other more = ([], 6) := by rw [addS, if_pos cA, if_pos (by rw [tA, kA]; exact hc)]
    have eB : addS (insS l (posS l other) ⟨other, more, false⟩) id key = ([], 6) := by rw [addS, if_pos cB, if_pos (by rw [tB, kB]; exact hc.imp Eq.symm Eq.symm)]
    rw [eA, eB]
    refine ⟨fun _ => ⟨fun _ => ⟨fun h4 => ⟨fun _ => ⟨fun _ => rfl, fun _ => trivial⟩, fun h => ?_⟩, fun h4 => ⟨fun _ => ⟨fun _ => rfl, fun _ => trivial⟩, fun h => by cases h⟩⟩, fun h => h rfl⟩, fun h => h rfl⟩
    simp [hc.resolve_left h4] at h
  · have hc1 : ¬ id = other := fun h => hc (.inl h)
    have hc2 : ¬ key = more := fun h => hc (.inr h)
    have eA : addS (insS l (posS l id) ⟨id, key, false⟩) other more = (insS (insS l (posS l id) ⟨id, key, false⟩) (posS (insS l (posS l id) ⟨id, key, false⟩) other) ⟨other, more, false⟩, 0) := by
      rw [addS, if_pos cA, if_neg (by rw [tA, kA]; exact hc), if_neg (by rw [ins_len]; omega)]
    have eB : addS (insS l (posS l other) ⟨other, more, false⟩) id key = (insS (insS l (posS l other) ⟨other, more, false⟩) (posS (insS l (posS l other) ⟨other, more, false⟩) id) ⟨id, key, false⟩, 0) := by
      rw [addS, if_pos cB, if_neg (by rw [tB, kB]; exact fun h => hc (h.imp Eq.symm Eq.symm)), if_neg (by rw [ins_len]; omega)]
    have o1 := (OkR_pw.1 (ins_ok (x := ⟨other, more, false⟩) oA (by rw [tA]; exact hc1) (by rw [kA]; exact hc2))).1
    have o2 := (OkR_pw.1 (ins_ok (x := ⟨id, key, false⟩) oB (by rw [tB]; exact fun h => hc1 h.symm) (by rw [kB]; exact fun h => hc2 h.symm))).1
    have hp : List.Perm (insS (insS l (posS l id) ⟨id, key, false⟩) (posS (insS l (posS l id) ⟨id, key, false⟩) other) ⟨other, more, false⟩) (insS (insS l (posS l other) ⟨other, more, false⟩) (posS (insS l (posS l other) ⟨other, more, false⟩) id) ⟨id, key, false⟩) :=
      (ins_perm.trans (ins_perm.cons _)).trans ((List.Perm.swap _ _ _).trans (ins_perm.trans (ins_perm.cons _)).symm)
    have he := List.Perm.eq_of_pairwise (le := fun x y : Rk => x.id < y.id) (fun a b _ _ h h' => absurd h (by omega)) o1 o2 hp
    rw [eA, eB]
    refine ⟨fun _ => ⟨fun _ => ⟨fun _ => ⟨fun _ => ⟨fun h => absurd rfl h, fun _ => trivial⟩, fun h => ?_⟩, fun h4 => absurd h4 hc1⟩, fun h => h he⟩, fun h => h rfl⟩
    simp [hc2] at h
/-- As many roots, one behind the other. -/
def fullL (f : Int) (k : Nat) : List Rk := (List.range k).map fun j : Nat => (⟨f + (j : Int), f + 2 * (j : Int), false⟩ : Rk)
theorem full_len {f : Int} {k : Nat} : (fullL f k).length = k := by simp [fullL]
theorem full_get {f : Int} {k j : Nat} (h : j < k) : (fullL f k).getD j default = ⟨f + j, f + 2 * j, false⟩ := by
  rw [getD_lt (by rw [full_len]; exact h)]
  simp [fullL]
theorem full_check {f : Int} {k : Nat} (h : k ≤ 64) : checkR (fullL f k) = 0 := by
  rw [checkR, if_pos]
  refine ⟨by rw [full_len]; exact h, OkR_iff.2 ⟨fun a b hab hb => ?_, fun a b hab hb => ?_⟩⟩ <;>
  · rw [full_len] at hb
    rw [full_get hb, full_get (by omega)]
    dsimp only
    omega
theorem full_no {f : Int} {k m : Nat} (hk : k ≤ 64) (h : k ≤ m) : ¬ thereS (fullL f k) (f + m) = true ∧ ¬ hasS (fullL f k) (f + 2 * m) = true := by
  rw [there_mem (checkR_0 (full_check hk)).2, has_mem]
  refine ⟨fun ⟨e, he, h1⟩ => ?_, fun ⟨e, he, h1⟩ => ?_⟩ <;>
  · obtain ⟨i, hi, rfl⟩ := mem_getD.1 he
    rw [full_len] at hi
    rw [full_get hi] at h1
    dsimp only at h1
    omega
theorem full_add {f : Int} {k : Nat} (h : k < 64) : addS (fullL f k) (f + k) (f + 2 * k) = (fullL f (k + 1), 0) := by
  obtain ⟨h1, h2⟩ := full_no (f := f) (show k ≤ 64 by omega) (Nat.le_refl k)
  rw [addS, if_pos (full_check (by omega)), if_neg (fun h => h.elim h1 h2), if_neg (by rw [full_len]; omega)]
  have hp : posS (fullL f k) (f + k) = k := pos_eq (by rw [full_len]; exact Nat.le_refl _) (fun j hj => by rw [full_get hj]; dsimp only; omega) (fun h => by rw [full_len] at h; omega)
  rw [hp, insS, List.take_of_length_le (by rw [full_len]; exact Nat.le_refl _), List.drop_of_length_le (by rw [full_len]; exact Nat.le_refl _)]
  congr 1
  simp [fullL, List.range_succ]
theorem full_more {f : Int} {m : Nat} (h : 64 ≤ m) : addS (fullL f 64) (f + m) (f + 2 * m) = ([], 7) := by
  obtain ⟨h1, h2⟩ := full_no (f := f) (Nat.le_refl 64) h
  rw [addS, if_pos (full_check (Nat.le_refl _)), if_neg (fun h => h.elim h1 h2), if_pos full_len]
set_option maxRecDepth 4000 in
theorem full_law (from_ many : Int) (hf : 0 ≤ from_ ∧ from_ ≤ 18446744073709551615) (hm : 0 ≤ many ∧ many ≤ 255) : PureFn Try.prog 3 [.int .u64 from_, .int .u8 many] (.bool true) := by
  refine .of (ac3 tabA_ok (Nat.le_of_ble_eq_true rfl) ?_)
  simp -implicitDefEqProofs only [cd_t, cd_f, cd_dec, cd_not, cd_and, cd_or, grd_tt, grd_ff, grd_tf, grd_ft, grd_dt, grd_df, grd_nt, grd_nf, go_sem, Go.Proofs.Try.f3, reduceIte, reduceCtorEq, Nat.reduceEqDiff, Nat.reduceAdd, Nat.reduceLeDiff, Nat.reduceSub, Nat.reduceMul, Nat.reduceLT, Nat.reduceShiftRight, Nat.reduceMod]
  refine ⟨fun h1 => ⟨fun _ => trivial, fun h2 => ?_⟩, fun _ => trivial⟩
  rw [u64_in many (by omega)]
  refine SWp.nilsl 5 rfl ?_
  refine SWp.loop (ι := { k : Nat // (k : Int) ≤ many }) (fun k => ⟨[(0, .int .u64 from_), (1, .int .u8 many), (5, .sl (rks (fullL from_ (min k.1 64)))), (18, .int .u64 many), (19, .int .u64 k.1)], [], 0⟩) (fun k => many.toNat - k.1) ⟨0, by omega⟩ ?_ ?_
  · simp [go_sem, fullL, rks]
  · rintro ⟨k, hk⟩
    refine awp_sound tabA_ok.toS lv3 _ _ _ rfl ?_
    simp -implicitDefEqProofs only [cd_t, cd_f, cd_dec, cd_not, cd_and, cd_or, grd_tt, grd_ff, grd_tf, grd_ft, grd_dt, grd_df, grd_nt, grd_nf, go_sem, reduceIte, reduceCtorEq, Nat.reduceEqDiff, Nat.reduceAdd, Nat.reduceLeDiff, Nat.reduceSub, Nat.reduceMul, Nat.reduceLT, Nat.reduceShiftRight, Nat.reduceMod]
    refine ⟨fun h3 => ?_, fun h3 _ => ?_⟩
    · rw [u64_in (2 * k) (by omega), u64_in (from_ + k) (by omega), u64_in (from_ + 2 * k) (by omega), u64_in (k + 1) (by omega)]
      by_cases hk64 : k < 64
      · have hm : min k 64 = k := by omega
        have hm1 : min (k + 1) 64 = k + 1 := by omega
        have h64 : (k : Int) < 64 := by omega
        rw [hm, full_add hk64]
        have hx : ∃ i : { k : Nat // (k : Int) ≤ many }, many.toNat - i.val < many.toNat - k ∧ rks (fullL from_ (k + 1)) = rks (fullL from_ (min i.val 64)) ∧ (k : Int) + 1 = i.val := ⟨⟨k + 1, by omega⟩, by dsimp only; omega, by dsimp only; rw [hm1], by simp⟩
        exact ⟨fun _ => ⟨fun h => absurd rfl h, fun _ => ⟨fun _ => hx, fun h => absurd rfl h⟩⟩, fun h => by simp [h64] at h⟩
      · have hm : min k 64 = 64 := by omega
        have hm1 : min (k + 1) 64 = 64 := by omega
        have h64 : ¬ (k : Int) < 64 := by omega
        rw [hm, full_more (by omega)]
        have hx : ∃ i : { k : Nat // (k : Int) ≤ many }, many.toNat - i.val < many.toNat - k ∧ rks (fullL from_ 64) = rks (fullL from_ (min i.val 64)) ∧ (k : Int) + 1 = i.val := ⟨⟨k + 1, by omega⟩, by dsimp only; omega, by dsimp only; rw [hm1], by simp⟩
        exact ⟨fun _ => ⟨fun _ => ⟨fun _ => ⟨fun h => absurd h (by decide), fun _ => hx⟩, fun h => h rfl⟩, fun h => absurd h (by decide)⟩, fun h => by simp [h64] at h⟩
    · have hkm : (k : Int) = many := by omega
      rw [full_len, i64_in many (by omega), ← hkm]
      simp
      omega
def u8s (l : List Int) : List (List C) := l.map fun k => [.int .u8 k]
def u64s (l : List Int) : List (List C) := l.map fun k => [.int .u64 k]
@[simp, go_sem] theorem u8s_length (l : List Int) : (u8s l).length = l.length := by simp [u8s]
@[go_sem] theorem u8s_get (l : List Int) (i : Nat) : (u8s l).getD i [.int .u8 0] = [.int .u8 (l.getD i 0)] := by
  simp only [u8s, List.getD_eq_getElem?_getD, List.getElem?_map]
  cases l[i]? <;> rfl
@[go_sem] theorem u8s_wide (l : List Int) : Wide 1 (u8s l) = True := by
  simp [Wide, u8s]
@[simp, go_sem] theorem u64s_length (l : List Int) : (u64s l).length = l.length := by simp [u64s]
@[go_sem] theorem u64s_get (l : List Int) (i : Nat) : (u64s l).getD i [.int .u64 0] = [.int .u64 (l.getD i 0)] := by
  simp only [u64s, List.getD_eq_getElem?_getD, List.getElem?_map]
  cases l[i]? <;> rfl
@[go_sem] theorem u64s_wide (l : List Int) : Wide 1 (u64s l) = True := by
  simp [Wide, u64s]
/-- A root that is there, and was revoked. -/
def GoneIn (l : List Rk) (id : Int) : Prop := ∃ e ∈ l, e.id = id ∧ e.gone = true
theorem gone_good {l : List Rk} {id : Int} (hc : checkR l = 0) (hg : GoneIn l id) : thereS l id = true ∧ goodS l id = (0, 13) ∧ keyS l id = (0, 13) := by
  have ho := (checkR_0 hc).2
  obtain ⟨e, he, h1, h2⟩ := hg
  have ht : thereS l id = true := (there_mem ho).2 ⟨e, he, h1⟩
  obtain ⟨i, hi, rfl⟩ := mem_getD.1 he
  have hp : posS l id = i := pos_eq (by omega) (fun k hk => by rw [← h1]; exact ho.mono hk hi) (fun _ => by omega)
  have hgd : goodS l id = (0, 13) := by rw [goodS, if_pos hc, if_pos ht, hp, if_pos h2]
  exact ⟨ht, hgd, by rw [keyS, hgd]; rfl⟩
/-- A root that counts, changed. -/
theorem set_step {l : List Rk} {id x : Int} {e : Rk} (hg : (goodS l x).2 = 0) (hid : e.id = (l.getD (posS l x) default).id) (hk : ∀ q, q < l.length → q ≠ posS l x → ¬ (l.getD q default).key = e.key) (hgo : GoneIn l id) :
    checkR (l.set (posS l x) e) = 0 ∧ GoneIn (l.set (posS l x) e) id ∧ ¬ x = id := by
  obtain ⟨g1, g2, g3, g4⟩ := goodS_0 hg
  have hc : checkR l = 0 := by
    unfold goodS at hg
    split at hg
    · assumption
    · exact hg
  refine ⟨set_ok g2 hid hc hk, ?_, fun h => ?_⟩
  · obtain ⟨y, hy, h1, h2⟩ := hgo
    obtain ⟨i, hi, rfl⟩ := mem_getD.1 hy
    have hip : ¬ i = posS l x := fun h => by rw [h, g4] at h2; cases h2
    exact ⟨_, mem_getD.2 ⟨i, by rw [List.length_set]; exact hi, by rw [set_getD g2, if_neg hip]⟩, h1, h2⟩
  · subst h
    rw [(gone_good hc hgo).2.1] at hg
    cases hg
theorem rev_first {l : List Rk} {id : Int} (h : (revS l id).2 = 0) : checkR (revS l id).1 = 0 ∧ GoneIn (revS l id).1 id := by
  have hg : (goodS l id).2 = 0 := by
    unfold revS at h
    split at h
    · assumption
    · exact absurd h (by assumption)
  obtain ⟨g1, g2, g3, g4⟩ := goodS_0 hg
  obtain ⟨_, ho⟩ := good_len hg
  have hc : checkR l = 0 := by
    unfold goodS at hg
    split at hg
    · assumption
    · exact hg
  obtain ⟨o1, o2⟩ := OkR_iff.1 ho
  rw [revS, if_pos hg]
  refine ⟨set_ok g2 rfl hc fun q hq hqp hk => ?_, ⟨(l.getD (posS l id) default).id, (l.getD (posS l id) default).key, true⟩, mem_getD.2 ⟨posS l id, by rw [List.length_set]; exact g2, by rw [set_getD g2, if_pos rfl]⟩, g3, rfl⟩
  rcases Nat.lt_or_ge q (posS l id) with h5 | h5
  · exact o2 _ _ h5 g2 hk
  · exact o2 _ _ (show posS l id < q by omega) hq hk.symm
theorem turn_step {l : List Rk} {id x k : Int} (h : (turnS l x k).2 = 0) (hgo : GoneIn l id) : checkR (turnS l x k).1 = 0 ∧ GoneIn (turnS l x k).1 id ∧ ¬ x = id := by
  have hg : (goodS l x).2 = 0 := by
    unfold turnS at h
    split at h
    · assumption
    · exact absurd h (by assumption)
  have hh : ¬ hasS l k = true := fun hh => by rw [turnS, if_pos hg, if_pos hh] at h; cases h
  rw [turnS, if_pos hg, if_neg hh]
  exact set_step hg rfl (fun q hq _ he => hh (has_true hq he)) hgo
theorem rev_step {l : List Rk} {id x : Int} (h : (revS l x).2 = 0) (hgo : GoneIn l id) : checkR (revS l x).1 = 0 ∧ GoneIn (revS l x).1 id ∧ ¬ x = id := by
  have hg : (goodS l x).2 = 0 := by
    unfold revS at h
    split at h
    · assumption
    · exact absurd h (by assumption)
  obtain ⟨g1, g2, g3, g4⟩ := goodS_0 hg
  obtain ⟨o1, o2⟩ := OkR_iff.1 (good_len hg).2
  rw [revS, if_pos hg]
  refine set_step hg rfl (fun q hq hqp hk => ?_) hgo
  rcases Nat.lt_or_ge q (posS l x) with h5 | h5
  · exact o2 _ _ h5 g2 hk
  · exact o2 _ _ (show posS l x < q by omega) hq hk.symm
theorem add_step {l : List Rk} {id x k : Int} (h : (addS l x k).2 = 0) (hgo : GoneIn l id) : checkR (addS l x k).1 = 0 ∧ GoneIn (addS l x k).1 id ∧ ¬ x = id := by
  obtain ⟨c1, t1, k1, n1, e1⟩ := add_0 h
  rw [e1]
  refine ⟨ins_check (x := ⟨x, k, false⟩) c1 t1 k1 n1, ?_, fun he => ?_⟩
  · obtain ⟨e, he, h1⟩ := hgo
    exact ⟨e, ins_perm.mem_iff.2 (List.mem_cons_of_mem _ he), h1⟩
  · subst he
    exact t1 (gone_good c1 hgo).1
set_option maxRecDepth 4000 in
theorem gone_law (l : List Rk) (id : Int) (kinds ids keys : List Int) (hk : ∀ k ∈ kinds, 0 ≤ k ∧ k ≤ 255) : PureFn Try.prog 4 [.sl (rks l), .int .u64 id, .sl (u8s kinds), .sl (u64s ids), .sl (u64s keys)] (.bool true) := by
  refine .of (ac4 tabA_ok (Nat.le_of_ble_eq_true rfl) ?_)
  simp -implicitDefEqProofs only [cd_t, cd_f, cd_dec, cd_not, cd_and, cd_or, grd_tt, grd_ff, grd_tf, grd_ft, grd_dt, grd_df, grd_nt, grd_nf, go_sem, Go.Proofs.Try.f4, reduceIte, reduceCtorEq, Nat.reduceEqDiff, Nat.reduceAdd, Nat.reduceLeDiff, Nat.reduceSub, Nat.reduceMul, Nat.reduceLT, Nat.reduceShiftRight, Nat.reduceMod]
  refine fun h1 => ⟨fun h2 h3 => ⟨fun _ => trivial, fun h4 => ⟨fun h5 _ => ?_, fun h5 _ => ?_⟩⟩, fun _ => trivial⟩
  · obtain ⟨c1, g1⟩ := rev_first h5
    refine SWp.loop (ι := { x : Nat × List Rk // x.1 ≤ kinds.length ∧ checkR x.2 = 0 ∧ GoneIn x.2 id }) (fun x => ⟨[(1, .int .u64 id), (3, .sl (u64s ids)), (4, .sl (u64s keys)), (11, .sl (rks x.1.2)), (40, .sl (u8s kinds)), (41, .int .i64 kinds.length), (42, .int .i64 x.1.1)], [], 0⟩) (fun x => kinds.length - x.1.1) ⟨(0, (revS l id).1), by simp, c1, g1⟩ ?_ ?_
    · simp [go_sem]
    · rintro ⟨⟨i, m⟩, hi, hc, hg⟩
      dsimp only at hi hc hg
      refine awp_sound tabA_ok.toS lv4 _ _ _ rfl ?_
      simp -implicitDefEqProofs only [cd_t, cd_f, cd_dec, cd_not, cd_and, cd_or, grd_tt, grd_ff, grd_tf, grd_ft, grd_dt, grd_df, grd_nt, grd_nf, go_sem, reduceIte, reduceCtorEq, Nat.reduceEqDiff, Nat.reduceAdd, Nat.reduceLeDiff, Nat.reduceSub, Nat.reduceMul, Nat.reduceLT, Nat.reduceShiftRight, Nat.reduceMod]
      refine ⟨fun h6 => ⟨by omega, fun _ => ⟨fun h7 _ => ⟨fun _ => trivial, fun h8 => ⟨by decide, fun h9 => ?_, fun h9 => ?_⟩⟩, fun _ => trivial⟩⟩, fun _ => trivial⟩
      · refine ADraw.run us4_17 tabA_ok follows_mixed (by kernel_rfl) (by kernel_rfl) ?_
        simp -implicitDefEqProofs only [cd_t, cd_f, cd_dec, cd_not, cd_and, cd_or, grd_tt, grd_ff, grd_tf, grd_ft, grd_dt, grd_df, grd_nt, grd_nf, go_sem, reduceIte, reduceCtorEq, Nat.reduceEqDiff, Nat.reduceAdd, Nat.reduceLeDiff, Nat.reduceSub, Nat.reduceMul, Nat.reduceLT, Nat.reduceShiftRight, Nat.reduceMod]
        refine ⟨by omega, by omega, ?_⟩
        have hs : (addS m (ids.getD i 0) (keys.getD i 0)).2 = 0 → checkR (addS m (ids.getD i 0) (keys.getD i 0)).1 = 0 ∧ GoneIn (addS m (ids.getD i 0) (keys.getD i 0)).1 id ∧ ¬ ids.getD i 0 = id := fun h => add_step h hg
        generalize (addS m (ids.getD i 0) (keys.getD i 0)) = A at *
        have ei := i64_in ((i : Int) + 1) (by omega)
        have ej : ((i : Int) + 1) = ((i + 1 : Nat) : Int) := by omega
        have hkm : (keyS m id).2 = 13 := by rw [(gone_good hc hg).2.2]
        have hx : ∃ i_1 : { x : Nat × List Rk // x.1 ≤ kinds.length ∧ checkR x.2 = 0 ∧ GoneIn x.2 id }, kinds.length - i_1.val.fst < kinds.length - i ∧ rks m = rks i_1.val.snd ∧ IntKind.i64.wrap (↑i + 1) = ↑i_1.val.fst := ⟨⟨(i + 1, m), by dsimp only; omega, hc, hg⟩, by dsimp only; omega, rfl, by rw [ei, ej]⟩
        have hy : A.2 = 0 → ∃ i_1 : { x : Nat × List Rk // x.1 ≤ kinds.length ∧ checkR x.2 = 0 ∧ GoneIn x.2 id }, kinds.length - i_1.val.fst < kinds.length - i ∧ rks A.1 = rks i_1.val.snd ∧ IntKind.i64.wrap (↑i + 1) = ↑i_1.val.fst := fun a0 => ⟨⟨(i + 1, A.1), by dsimp only; omega, (hs a0).1, (hs a0).2.1⟩, by dsimp only; omega, rfl, by rw [ei, ej]⟩
        refine ⟨fun a0 => ⟨fun _ => ⟨fun _ => ⟨fun _ => ⟨by omega, fun h => (hs a0).2.2 h, fun _ => hy a0⟩, fun h => absurd a0 h⟩, fun h => h (hs a0).1⟩, fun h => h (by rw [(gone_good (hs a0).1 (hs a0).2.1).2.2])⟩, fun a0 => ⟨fun _ => ⟨fun _ => ⟨fun h => absurd h a0, fun _ => hx⟩, fun h => h hc⟩, fun h => h hkm⟩⟩
      · refine ⟨fun h10 => ?_, fun h10 => ⟨by omega, ?_⟩⟩
        · refine ADraw.run us4_19 tabA_ok follows_mixed (by kernel_rfl) (by kernel_rfl) ?_
          simp -implicitDefEqProofs only [cd_t, cd_f, cd_dec, cd_not, cd_and, cd_or, grd_tt, grd_ff, grd_tf, grd_ft, grd_dt, grd_df, grd_nt, grd_nf, go_sem, reduceIte, reduceCtorEq, Nat.reduceEqDiff, Nat.reduceAdd, Nat.reduceLeDiff, Nat.reduceSub, Nat.reduceMul, Nat.reduceLT, Nat.reduceShiftRight, Nat.reduceMod]
          refine ⟨by omega, by omega, ?_⟩
          have hs : (turnS m (ids.getD i 0) (keys.getD i 0)).2 = 0 → checkR (turnS m (ids.getD i 0) (keys.getD i 0)).1 = 0 ∧ GoneIn (turnS m (ids.getD i 0) (keys.getD i 0)).1 id ∧ ¬ ids.getD i 0 = id := fun h => turn_step h hg
          generalize (turnS m (ids.getD i 0) (keys.getD i 0)) = A at *
          have ei := i64_in ((i : Int) + 1) (by omega)
          have ej : ((i : Int) + 1) = ((i + 1 : Nat) : Int) := by omega
          have hkm : (keyS m id).2 = 13 := by rw [(gone_good hc hg).2.2]
          have hx : ∃ i_1 : { x : Nat × List Rk // x.1 ≤ kinds.length ∧ checkR x.2 = 0 ∧ GoneIn x.2 id }, kinds.length - i_1.val.fst < kinds.length - i ∧ rks m = rks i_1.val.snd ∧ IntKind.i64.wrap (↑i + 1) = ↑i_1.val.fst := ⟨⟨(i + 1, m), by dsimp only; omega, hc, hg⟩, by dsimp only; omega, rfl, by rw [ei, ej]⟩
          have hy : A.2 = 0 → ∃ i_1 : { x : Nat × List Rk // x.1 ≤ kinds.length ∧ checkR x.2 = 0 ∧ GoneIn x.2 id }, kinds.length - i_1.val.fst < kinds.length - i ∧ rks A.1 = rks i_1.val.snd ∧ IntKind.i64.wrap (↑i + 1) = ↑i_1.val.fst := fun a0 => ⟨⟨(i + 1, A.1), by dsimp only; omega, (hs a0).1, (hs a0).2.1⟩, by dsimp only; omega, rfl, by rw [ei, ej]⟩
          refine ⟨fun a0 => ⟨fun _ => ⟨fun _ => ⟨fun _ => ⟨by omega, fun h => (hs a0).2.2 h, fun _ => hy a0⟩, fun h => absurd a0 h⟩, fun h => h (hs a0).1⟩, fun h => h (by rw [(gone_good (hs a0).1 (hs a0).2.1).2.2])⟩, fun a0 => ⟨fun _ => ⟨fun _ => ⟨fun h => absurd h a0, fun _ => hx⟩, fun h => h hc⟩, fun h => h hkm⟩⟩
        · have hs : (revS m (ids.getD i 0)).2 = 0 → checkR (revS m (ids.getD i 0)).1 = 0 ∧ GoneIn (revS m (ids.getD i 0)).1 id ∧ ¬ ids.getD i 0 = id := fun h => rev_step h hg
          generalize (revS m (ids.getD i 0)) = A at *
          have ei := i64_in ((i : Int) + 1) (by omega)
          have ej : ((i : Int) + 1) = ((i + 1 : Nat) : Int) := by omega
          have hkm : (keyS m id).2 = 13 := by rw [(gone_good hc hg).2.2]
          have hx : ∃ i_1 : { x : Nat × List Rk // x.1 ≤ kinds.length ∧ checkR x.2 = 0 ∧ GoneIn x.2 id }, kinds.length - i_1.val.fst < kinds.length - i ∧ rks m = rks i_1.val.snd ∧ IntKind.i64.wrap (↑i + 1) = ↑i_1.val.fst := ⟨⟨(i + 1, m), by dsimp only; omega, hc, hg⟩, by dsimp only; omega, rfl, by rw [ei, ej]⟩
          have hy : A.2 = 0 → ∃ i_1 : { x : Nat × List Rk // x.1 ≤ kinds.length ∧ checkR x.2 = 0 ∧ GoneIn x.2 id }, kinds.length - i_1.val.fst < kinds.length - i ∧ rks A.1 = rks i_1.val.snd ∧ IntKind.i64.wrap (↑i + 1) = ↑i_1.val.fst := fun a0 => ⟨⟨(i + 1, A.1), by dsimp only; omega, (hs a0).1, (hs a0).2.1⟩, by dsimp only; omega, rfl, by rw [ei, ej]⟩
          refine ⟨fun a0 => ⟨fun _ => ⟨fun _ => ⟨fun _ => ⟨by omega, fun h => (hs a0).2.2 h, fun _ => hy a0⟩, fun h => absurd a0 h⟩, fun h => h (hs a0).1⟩, fun h => h (by rw [(gone_good (hs a0).1 (hs a0).2.1).2.2])⟩, fun a0 => ⟨fun _ => ⟨fun _ => ⟨fun h => absurd h a0, fun _ => hx⟩, fun h => h hc⟩, fun h => h hkm⟩⟩
  · have : (revS l id).1 = [] := by rw [revS, if_neg (fun h => h5 (by rw [revS, if_pos h]))]
    rw [this]
    rfl
end Dm
