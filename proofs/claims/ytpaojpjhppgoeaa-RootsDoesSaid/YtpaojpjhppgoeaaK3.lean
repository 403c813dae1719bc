import Derived.Test.YtpaojpjhppgoeaaK2
set_option linter.unusedSimpArgs false
set_option linter.unusedVariables false
namespace Dm
open Go Go.Proofs Go.IntWalk
/-- Temporary t is never read. -/
abbrev fg (t : Nat) : Nat × (List D → Option (Prop × D × Fr)) := (1000000000 + t, fun _ => none)
def tabI : Tab := [fg 12]
attribute [go_sem] tabI
theorem tabI_ok : TabOk Try.prog tabI := .cons (fun rs p r fr h _ => by cases h) .nil
set_option maxRecDepth 4000 in
theorem add0_ok (id key : Int) : PureFn Try.prog 9 [.sl [], .int .u64 id, .int .u64 key] (.tup [.sl (rks [⟨id, key, false⟩]), .int .i64 0]) := by
  rw [show ([] : List (List C)) = rks [] from rfl]
  refine .of (ac9 tab7_ok (Nat.le_of_ble_eq_true rfl) ?_)
  simp -implicitDefEqProofs only [cd_t, cd_f, cd_dec, cd_not, cd_and, cd_or, grd_tt, grd_ff, grd_tf, grd_ft, grd_dt, grd_df, grd_nt, grd_nf, go_sem, Go.Proofs.Try.f9, reduceIte, reduceCtorEq, Nat.reduceEqDiff, Nat.reduceAdd, Nat.reduceLeDiff, Nat.reduceSub, Nat.reduceMul, Nat.reduceLT, Nat.reduceShiftRight, Nat.reduceMod]
  rw [show findS [] id = (0, false, 0) from rfl, show hasS [] key = false from rfl]
  refine ⟨fun _ => ⟨fun _ => ⟨fun h => (by cases h), fun _ _ => ⟨fun h => absurd h (by decide), fun _ => ?_⟩⟩, fun h => (by cases h)⟩, fun h => absurd rfl h⟩
  refine ac23 tabI_ok (Nat.le_of_ble_eq_true rfl) ?_
  simp -implicitDefEqProofs only [cd_t, cd_f, cd_dec, cd_not, cd_and, cd_or, grd_tt, grd_ff, grd_tf, grd_ft, grd_dt, grd_df, grd_nt, grd_nf, go_sem, Go.Proofs.Try.f23, reduceIte, reduceCtorEq, Nat.reduceEqDiff, Nat.reduceAdd, Nat.reduceLeDiff, Nat.reduceSub, Nat.reduceMul, Nat.reduceLT, Nat.reduceShiftRight, Nat.reduceMod]
  exact ⟨⟨by decide, by decide⟩, fun _ => ⟨fun h => absurd h (by decide), fun _ _ => ⟨⟨_, _, _, rfl⟩, fun h => h.elim⟩⟩⟩
def sp9 : List D → Option (Prop × D × Fr)
  | [.c (.sl []), .c (.int .u64 id), .c (.int .u64 key)] => some (True, .tup [.sl (rks [⟨id, key, false⟩]), .int .i64 0], [])
  | _ => none
attribute [go_sem] sp9
def tab8 : Tab := (9, sp9) :: (14, sp14) :: tab7
attribute [go_sem] tab8
theorem tab8_ok : TabOk Try.prog tab8 := by
  refine .cons (fun rs p r fr h hp => ?_) (.cons (fun rs p r fr h hp => ?_) tab7_ok)
  · unfold sp9 at h
    split at h <;> cases h
    exact add0_ok _ _
  · unfold sp14 at h
    split at h <;> cases h
    rw [hp.1, hp.2, drks_rks, drks_rks]
    exact same_ok _ _
theorem live_ok : PureFn Try.prog 8 [] (.bool true) := by
  refine .of (ac8 tab8_ok (Nat.le_of_ble_eq_true rfl) ?_)
  simp -implicitDefEqProofs only [cd_t, cd_f, cd_dec, cd_not, cd_and, cd_or, grd_tt, grd_ff, grd_tf, grd_ft, grd_dt, grd_df, grd_nt, grd_nf, go_sem, Go.Proofs.Try.f8, reduceIte, reduceCtorEq, Nat.reduceEqDiff, Nat.reduceAdd, Nat.reduceLeDiff, Nat.reduceSub, Nat.reduceMul, Nat.reduceLT, Nat.reduceShiftRight, Nat.reduceMod]
  refine ⟨⟨fun _ => by rfl, fun h => h (by rfl)⟩, fun h => h⟩
def sp8 : List D → Option (Prop × D × Fr)
  | [] => some (True, .bool true, [])
  | _ => none
attribute [go_sem] sp8
def tab9 : Tab := (8, sp8) :: tab8
attribute [go_sem] tab9
theorem tab9_ok : TabOk Try.prog tab9 := by
  refine .cons (fun rs p r fr h hp => ?_) tab8_ok
  unfold sp8 at h
  split at h <;> cases h
  exact live_ok
/-! ### A root whose key was turned -/
theorem OkR_iff {l : List Rk} : OkR l ↔ (∀ a b, a < b → b < l.length → (l.getD a default).id < (l.getD b default).id) ∧ ∀ a b, a < b → b < l.length → ¬ (l.getD a default).key = (l.getD b default).key := by
  refine ⟨fun h => ⟨fun a b h1 h2 => h.mono h1 h2, fun a b h1 h2 he => ?_⟩, fun ⟨h1, h2⟩ j hj => ⟨fun h0 => h1 _ _ (by omega) hj, ?_⟩⟩
  · have h3 := (h b h2).2
    have h4 : hasS (l.take b) (l.getD b default).key = true := by
      refine has_true (i := a) (by rw [List.length_take]; omega) ?_
      rw [← he, List.getD_eq_getElem?_getD, List.getElem?_take, if_pos h1, ← List.getD_eq_getElem?_getD]
    rw [h4] at h3
    cases h3
  · refine has_false fun i hi => ?_
    rw [List.length_take] at hi
    rw [List.getD_eq_getElem?_getD, List.getElem?_take, if_pos (by omega), ← List.getD_eq_getElem?_getD]
    exact h2 i j (by omega) hj
theorem set_getD {l : List Rk} {p : Nat} {e : Rk} (hp : p < l.length) (q : Nat) : (l.set p e).getD q default = if q = p then e else l.getD q default := by
  rw [List.getD_eq_getElem?_getD, List.getElem?_set]
  by_cases h : p = q
  · subst h; simp [hp]
  · have : ¬ q = p := fun e => h e.symm
    simp [h, this]
section
variable {l : List Rk} {p : Nat} {e : Rk} (hp : p < l.length) (he : e.id = (l.getD p default).id)
include hp he
theorem set_ids (q : Nat) : ((l.set p e).getD q default).id = (l.getD q default).id := by
  rw [set_getD hp]
  split
  · rename_i h; rw [h]; exact he
  · rfl
theorem set_pos (x : Int) : posS (l.set p e) x = posS l x := by
  unfold posS
  have h : ∀ m : List Rk, m.findIdx (fun r => decide (x ≤ r.id)) = (m.map Rk.id).findIdx fun i => decide (x ≤ i) := fun m => by rw [List.findIdx_map]; rfl
  have h2 : (l.map Rk.id).set p e.id = l.map Rk.id := by
    rw [he, getD_lt hp]
    apply List.ext_getElem
    · simp
    · intro i h1 h2
      rw [List.getElem_set]
      split
      · rename_i h3; subst h3; simp
      · rfl
  rw [h, h, List.map_set, h2]
theorem set_there (x : Int) : thereS (l.set p e) x = thereS l x := by
  unfold thereS
  rw [set_pos hp he, set_ids hp he, List.length_set]
theorem set_ok (h : checkR l = 0) (hk : ∀ q, q < l.length → q ≠ p → ¬ (l.getD q default).key = e.key) : checkR (l.set p e) = 0 := by
  obtain ⟨h1, h2⟩ := checkR_0 h
  obtain ⟨h3, h4⟩ := OkR_iff.1 h2
  rw [checkR, if_pos]
  refine ⟨by rw [List.length_set]; exact h1, OkR_iff.2 ⟨fun a b hab hb => ?_, fun a b hab hb => ?_⟩⟩
  · rw [List.length_set] at hb
    rw [set_ids hp he, set_ids hp he]
    exact h3 a b hab hb
  · rw [List.length_set] at hb
    rw [set_getD hp, set_getD hp]
    split
    · rename_i h5
      rw [if_neg (by omega)]
      exact fun h => hk b hb (by omega) h.symm
    · split
      · exact hk a (by omega) (by omega)
      · exact h4 a b hab hb
theorem set_good (h : checkR l = 0) (h' : checkR (l.set p e) = 0) (hg : e.gone = (l.getD p default).gone) (x : Int) : goodS (l.set p e) x = goodS l x := by
  unfold goodS
  rw [h, h', set_there hp he, set_pos hp he]
  have : ((l.set p e).getD (posS l x) default).gone = (l.getD (posS l x) default).gone := by
    rw [set_getD hp]
    split
    · rename_i h; rw [h]; exact hg
    · rfl
  rw [this]
theorem set_key (h : checkR l = 0) (h' : checkR (l.set p e) = 0) (hg : e.gone = (l.getD p default).gone) (x : Int) : keyS (l.set p e) x = if (goodS l x).2 = 0 ∧ posS l x = p then (e.key, 0) else keyS l x := by
  unfold keyS
  rw [set_good hp he h h' hg, set_pos hp he, set_getD hp]
  by_cases h1 : (goodS l x).2 = 0 <;> by_cases h2 : posS l x = p <;> simp [h1, h2]
end
set_option maxRecDepth 4000 in
theorem apart_ok (l : List Rk) (id key other : Int) : PureFn Try.prog 7 [.sl (rks l), .int .u64 id, .int .u64 key, .int .u64 other] (.bool true) := by
  refine .of (ac7 tab9_ok (Nat.le_of_ble_eq_true rfl) ?_)
  simp -implicitDefEqProofs only [cd_t, cd_f, cd_dec, cd_not, cd_and, cd_or, grd_tt, grd_ff, grd_tf, grd_ft, grd_dt, grd_df, grd_nt, grd_nf, go_sem, Go.Proofs.Try.f7, reduceIte, reduceCtorEq, Nat.reduceEqDiff, Nat.reduceAdd, Nat.reduceLeDiff, Nat.reduceSub, Nat.reduceMul, Nat.reduceLT, Nat.reduceShiftRight, Nat.reduceMod]
  refine fun _ => ⟨fun _ => trivial, fun h1 => ⟨fun h2 => ?_, fun h2 _ => ?_⟩⟩
  · have hg : (goodS l id).2 = 0 := by
      unfold turnS at h2
      split at h2
      · assumption
      · exact absurd h2 (by assumption)
    have hh : hasS l key = false := by
      rw [turnS, if_pos hg] at h2
      split at h2
      · cases h2
      · rename_i h; simpa using h
    obtain ⟨g1, g2, g3, g4⟩ := goodS_0 hg
    have hc : checkR l = 0 := by
      unfold goodS at hg
      split at hg
      · assumption
      · exact hg
    obtain ⟨o1, o2⟩ := OkR_iff.1 (checkR_0 hc).2
    have hnk : ∀ q, q < l.length → ¬ (l.getD q default).key = key := fun q hq he => by
      rw [has_true hq he] at hh; cases hh
    have ht : turnS l id key = (l.set (posS l id) ⟨(l.getD (posS l id) default).id, key, (l.getD (posS l id) default).gone⟩, 0) := by rw [turnS, if_pos hg, if_neg (by rw [hh]; decide)]
    rw [ht]
    dsimp only
    have hp := g2
    have he : (⟨(l.getD (posS l id) default).id, key, (l.getD (posS l id) default).gone⟩ : Rk).id = (l.getD (posS l id) default).id := rfl
    have hc' := set_ok hp he hc (fun q hq _ => hnk q hq)
    have hk1 : keyS l id = ((l.getD (posS l id) default).key, 0) := by rw [keyS, if_pos hg]
    have hkM := fun x => set_key hp he hc hc' rfl x
    have hgM := set_good hp he hc hc' rfl id
    have hlen : (l.set (posS l id) ⟨(l.getD (posS l id) default).id, key, (l.getD (posS l id) default).gone⟩).length = l.length := List.length_set
    have ht1 : turnS (l.set (posS l id) ⟨(l.getD (posS l id) default).id, key, (l.getD (posS l id) default).gone⟩) id key = ([], 6) := by
      rw [turnS, hgM, if_pos hg, if_pos]
      exact has_true (i := posS l id) (by rw [hlen]; exact hp) (by rw [set_getD hp, if_pos rfl])
    have ht2 : turnS (l.set (posS l id) ⟨(l.getD (posS l id) default).id, key, (l.getD (posS l id) default).gone⟩) id (l.getD (posS l id) default).key = (l, 0) := by
      rw [turnS, hgM, if_pos hg, if_neg, set_pos hp he, set_getD hp, if_pos rfl, List.set_set]
      · congr 1
        show l.set (posS l id) (l.getD (posS l id) default) = l
        rw [getD_lt hp]
        exact List.set_getElem_self hp
      · rw [Bool.not_eq_true]
        refine has_false fun q hq => ?_
        rw [hlen] at hq
        rw [set_getD hp]
        split
        · exact fun h => hnk _ hp h.symm
        · rename_i hqp
          intro h
          rcases Nat.lt_or_ge q (posS l id) with h5 | h5
          · exact o2 _ _ h5 hp h
          · exact o2 _ _ (show posS l id < q by omega) hq h.symm
    rw [hk1, ht1, ht2]
    dsimp only
    have hpo : (goodS l other).2 = 0 ∧ posS l other = posS l id → other = id := fun ⟨a1, a2⟩ => by
      obtain ⟨_, _, b3, _⟩ := goodS_0 a1
      rw [a2, g3] at b3
      exact b3.symm
    refine ⟨fun _ => ⟨fun h3 => ?_, fun h3 => ?_⟩, fun h => h rfl⟩
    · rw [hkM, if_neg (fun h => h3 (hpo h))]
      exact ⟨fun _ => ⟨fun _ => ⟨fun h => absurd h h3, fun _ => ⟨fun _ => ⟨fun _ => by simp, fun h => h rfl⟩, fun h => h rfl⟩⟩, fun h => h rfl⟩, fun h => h rfl⟩
    · subst h3
      rw [hkM, if_pos ⟨hg, rfl⟩]
      exact ⟨fun _ => ⟨fun _ => ⟨fun _ => ⟨fun _ => ⟨fun _ => by simp, fun h => h rfl⟩, fun h => h rfl⟩, fun h => h rfl⟩, fun h => h rfl⟩, fun h => absurd rfl h⟩
  · have : (turnS l id key).1 = [] := by
      unfold turnS at h2 ⊢
      split
      · rename_i h; rw [if_pos h] at h2
        split
        · rfl
        · rename_i h3; rw [if_neg h3] at h2; exact absurd rfl h2
      · rfl
    rw [this]
    rfl
end Dm
