import Derived.Test.YtceoichdaepegaaGreatP8

set_option linter.unusedSimpArgs false
set_option linter.unusedVariables false
set_option linter.unusedSectionVars false
namespace Dm
open Go Go.Proofs Go.IntWalk
def jv (l : List Iv) (id : Nat) : Int × Int := if uK l then ((Srt.pos Iv.hash ltN l id : Nat), if Srt.thr Iv.hash ltN l id = true then 0 else 5) else (0, 1)
@[go_sem] def xaP (l : List Iv) (id : Nat) : D := .tup [.int .i64 (jv l id).1, .int .i64 (jv l id).2]
@[go_sem] abbrev wcG : FuncId := 169
@[go_sem] def wbu : Tab := [(103, xw), (195, wB)]
theorem vM : ya Tryz.prog wbu := (ya.cons vC (ya.cons kO ya.nil))
set_option maxRecDepth 8000 in
set_option maxHeartbeats 1000000 in
theorem va0 (l : List Iv) (id : Nat)  : yb Tryz.prog 169 [.sl (ivs l), .c (.int .u64 (id : Int))] (xaP l id) := by
  refine .of (kcE vM (Nat.le_of_ble_eq_true rfl) ?_)
  simp -implicitDefEqProofs only [cdA, go_sem, Go.Proofs.Tryz.f169, reduceIte, reduceCtorEq, Nat.reduceEqDiff, Nat.reduceAdd, Nat.reduceLeDiff, Nat.reduceSub, Nat.reduceMul, Nat.reduceLT, Nat.reduceShiftRight, Nat.reduceMod, Int.reduceLE, Int.reduceLT, Int.reduceToNat, List.cons.injEq, cdB]
  have hcz : jas l = 0 ↔ uK l := by unfold jas; split <;> simp_all
  refine ⟨fun hok0 => ?_, fun hno0 => by
    have hno : ¬ uK l := fun h => hno0 (hcz.2 h)
    rw [jv, jas, if_neg hno, if_neg hno]; exact ⟨rfl, rfl⟩⟩
  have hok := hcz.1 hok0
  have hu : Srt.Up Iv.hash ltN l := (Srt.jg (lt := ltN) Srt.qf).1 hok.2.2
  have hl32 := hok.1
  refine qcN vM (Nat.le_of_ble_eq_true rfl) ?_
  simp -implicitDefEqProofs only [cdA, go_sem, Go.Proofs.Tryz.f229, reduceIte, reduceCtorEq, Nat.reduceEqDiff, Nat.reduceAdd, Nat.reduceLeDiff, Nat.reduceSub, Nat.reduceMul, Nat.reduceLT, Nat.reduceShiftRight, Nat.reduceMod, Int.reduceLE, Int.reduceLT, Int.reduceToNat, List.cons.injEq, cdB]
  refine fun _ => SWp.loop (ι := { x : Nat × Nat // x.1 ≤ x.2 ∧ x.2 ≤ l.length ∧ (∀ k, k < x.1 → (l.getD k default).hash < id) ∧ ∀ k, x.2 ≤ k → k < l.length → ¬ (l.getD k default).hash < id }) (fun x => ⟨[(0, .sl (ivs l)), (1, .int .u64 id), (2, .fn (.func 195) [] []), (8, .int .i64 l.length), (9, .int .i64 x.1.1), (10, .int .i64 x.1.2)], [], 0⟩) (fun x => x.1.2 - x.1.1) ⟨(0, l.length), by simp, by simp, fun k hk => absurd hk (by simp), fun k h1 h2 => absurd h1 (by simpa using h2)⟩ ?_ ?_
  · simp [go_sem]
  · rintro ⟨⟨i, j⟩, hij, hj, hlo, hup⟩
    dsimp only at hij hj hlo hup
    refine qb vM.toS xbk _ _ _ rfl ?_
    simp -implicitDefEqProofs only [cdA, go_sem, reduceIte, reduceCtorEq, Nat.reduceEqDiff, Nat.reduceAdd, Nat.reduceLeDiff, Nat.reduceSub, Nat.reduceMul, Nat.reduceLT, Nat.reduceShiftRight, Nat.reduceMod, Int.reduceLE, Int.reduceLT, Int.reduceToNat, List.cons.injEq, cdB]
    rw [yS hij hj ‹_›]
    refine ⟨fun h4 => ?_, fun h4 => ?_⟩
    · have hm : (i + j) / 2 < l.length := by omega
      rw [xk, Int.toNat_natCast]
      refine ⟨by omega, fun h5 => ⟨⟨((i + j) / 2 + 1, j), by dsimp only; omega, hj, fun k hk => ?_, hup⟩, by dsimp only; omega, i64_in _ (by omega), rfl⟩, fun h5 => ⟨⟨(i, (i + j) / 2), by dsimp only; omega, by dsimp only; omega, hlo, fun k hk1 hk2 => ?_⟩, by dsimp only; omega, rfl, rfl⟩⟩
      · dsimp only at hk
        by_cases hkm : k = (i + j) / 2
        · rw [hkm]; omega
        · have := Srt.kj.1 hu k _ (by omega) hm
          simp only [ltN] at this; omega
      · dsimp only at hk1
        by_cases hkm : k = (i + j) / 2
        · rw [hkm]; omega
        · have := Srt.kj.1 hu ((i + j) / 2) k (by omega) hk2
          simp only [ltN] at this; omega
    · have hp : Srt.pos Iv.hash ltN l id = i := Srt.pos_eq (by omega) hlo (fun h => hup i (by omega) h)
      rw [jv, if_pos hok, Srt.thr, hp, wz]
      refine ⟨fun h5 => ⟨by omega, fun h6 => ?_, fun h6 => ?_⟩, fun h5 => ?_⟩
      · rw [if_pos (decide_eq_true ⟨by omega, by omega⟩)]; exact ⟨rfl, rfl⟩
      · rw [if_neg (by rw [decide_eq_true_iff]; omega)]; exact ⟨rfl, rfl⟩
      · rw [if_neg (by rw [decide_eq_true_iff]; omega)]; exact ⟨rfl, rfl⟩
def xF : List D → Option (Prop × D × Fr)
  | [.c (.sl z1), .c (.int .u64 z2)] => some (z1 = ivs (wj z1) ∧ z2 = (z2.toNat : Int), xaP (wj z1) z2.toNat, [])
  | _ => none
attribute [go_sem] xF
theorem jH : ∀ rs p r fr, xF rs = some (p, r, fr) → p → zg Tryz.prog 169 rs r fr := by
  intro rs p r fr h hp
  unfold xF at h
  split at h <;> cases h
  obtain ⟨hc0, hc1⟩ := hp
  rename_i z1 z2
  obtain ⟨z1, rfl⟩ : ∃ m, z1 = ivs m := ⟨_, hc0⟩
  obtain ⟨z2, rfl⟩ : ∃ m : Nat, z2 = m := ⟨_, hc1⟩
  simp only [Int.toNat_natCast, qc]
  exact va0 z1 z2
def jaH (x : Iv) (tick : Nat) : Int := if x.state = 1 ∧ x.till < tick then 4 else x.state
@[go_sem] def ybg (x : Iv) (tick : Nat) : D := .int .i64 (jaH x tick)
@[go_sem] abbrev zcY : FuncId := 192
@[go_sem] def ub5 : Tab := []
theorem kaQ : ya Tryz.prog ub5 := ya.nil
set_option maxRecDepth 8000 in
set_option maxHeartbeats 1000000 in
theorem qby (x : Iv) (tick : Nat)  : yb Tryz.prog 192 [.agg [.c (.int .u64 (x.hash : Int)), .c (.int .u64 (x.n : Int)), .c (.int .u64 (x.till : Int)), .c (.int .i64 x.state)], .c (.int .u64 (tick : Int))] (ybg x tick) := by
  refine .of (vcz kaQ (Nat.le_of_ble_eq_true rfl) ?_)
  simp -implicitDefEqProofs only [cdA, go_sem, Go.Proofs.Tryz.f192, reduceIte, reduceCtorEq, Nat.reduceEqDiff, Nat.reduceAdd, Nat.reduceLeDiff, Nat.reduceSub, Nat.reduceMul, Nat.reduceLT, Nat.reduceShiftRight, Nat.reduceMod, Int.reduceLE, Int.reduceLT, Int.reduceToNat, List.cons.injEq, cdB]
  unfold jaH
  refine ⟨fun h1 => ⟨fun h2 => ?_, fun h2 => ?_⟩, fun h1 => ?_⟩
  · rw [if_pos ⟨h1, by omega⟩]
  · rw [if_neg (by rintro ⟨_, h⟩; omega)]
  · rw [if_neg (by rintro ⟨h, _⟩; exact h1 h)]
def xL : List D → Option (Prop × D × Fr)
  | [.agg [.c (.int .u64 z4), .c (.int .u64 z5), .c (.int .u64 z6), .c (.int .i64 z7)], .c (.int .u64 z8)] => some (z4 = (z4.toNat : Int) ∧ z5 = (z5.toNat : Int) ∧ z6 = (z6.toNat : Int) ∧ z8 = (z8.toNat : Int), ybg (⟨z4.toNat, z5.toNat, z6.toNat, z7⟩ : Iv) z8.toNat, [])
  | _ => none
attribute [go_sem] xL
theorem qM : ∀ rs p r fr, xL rs = some (p, r, fr) → p → zg Tryz.prog 192 rs r fr := by
  intro rs p r fr h hp
  unfold xL at h
  split at h <;> cases h
  obtain ⟨hc0, hc1, hc2, hc3⟩ := hp
  rename_i z4 z5 z6 z7 z8
  obtain ⟨z4, rfl⟩ : ∃ m : Nat, z4 = m := ⟨_, hc0⟩
  obtain ⟨z5, rfl⟩ : ∃ m : Nat, z5 = m := ⟨_, hc1⟩
  obtain ⟨z6, rfl⟩ : ∃ m : Nat, z6 = m := ⟨_, hc2⟩
  obtain ⟨z8, rfl⟩ : ∃ m : Nat, z8 = m := ⟨_, hc3⟩
  simp only [Int.toNat_natCast]
  exact qby ⟨z4, z5, z6, z7⟩ z8
@[go_sem] def jZ (l : List Iv) : D := .vec 0 l.length
@[go_sem] def kS (l : List Iv) : Fr := [(4, 64, true, ivs l)]
@[go_sem] abbrev kbF : FuncId := 172
@[go_sem] def waC : Tab := []
theorem y7 : ya Tryz.prog waC := ya.nil
set_option maxRecDepth 8000 in
set_option maxHeartbeats 1000000 in
theorem xas (l : List Iv) (hl : l.length ≤ 1000000) : zn Tryz.prog 172 [.sl (ivs l)] (jZ l) (kS l) := by
  refine .of (zbV y7 (Nat.le_of_ble_eq_true rfl) ?_)
  simp -implicitDefEqProofs only [cdA, go_sem, Go.Proofs.Tryz.f172, reduceIte, reduceCtorEq, Nat.reduceEqDiff, Nat.reduceAdd, Nat.reduceLeDiff, Nat.reduceSub, Nat.reduceMul, Nat.reduceLT, Nat.reduceShiftRight, Nat.reduceMod, Int.reduceLE, Int.reduceLT, Int.reduceToNat, List.cons.injEq, cdB]
  refine fun b hb => ⟨fun h => ?_, fun h => ?_⟩
  · exact ⟨[none], by simp [go_sem, hb h], by cases l <;> simp_all [go_sem, ivs]⟩
  · exact ⟨by omega, [some 0], by simp [go_sem]⟩
@[go_sem] def u5 (l : List Iv) : Prop := (l.length ≤ 1000000)
def wk : List D → Option (Prop × D × Fr)
  | [.c (.sl z9)] => some (z9 = ivs (wj z9) ∧ u5 (wj z9), jZ (wj z9), kS (wj z9))
  | _ => none
attribute [go_sem] wk
theorem xo : ∀ rs p r fr, wk rs = some (p, r, fr) → p → zg Tryz.prog 172 rs r fr := by
  intro rs p r fr h hp
  unfold wk at h
  split at h <;> cases h
  obtain ⟨hc0, hp⟩ := hp
  rename_i z9
  obtain ⟨z9, rfl⟩ : ∃ m, z9 = ivs m := ⟨_, hc0⟩
  simp only [qc]
  simp only [qc, u5] at hp
  exact (show zg _ _ _ _ _ from And.intro rfl (xas z9 hp))
def vA (l : List Iv) (hash tick n : Nat) : Int :=
  if uK l then (if Srt.thr Iv.hash ltN l hash = true then (if jaH (l.getD (Srt.pos Iv.hash ltN l hash) default) tick = 4 then 13 else if jaH (l.getD (Srt.pos Iv.hash ltN l hash) default) tick ≠ 1 then 10 else if n < (l.getD (Srt.pos Iv.hash ltN l hash) default).n then 9 else 0) else 5) else 1
def zj (l : List Iv) (hash tick n : Nat) (st : Int) : List Iv × Int :=
  if vA l hash tick n = 0 then (l.set (Srt.pos Iv.hash ltN l hash) { l.getD (Srt.pos Iv.hash ltN l hash) default with state := st }, 0) else ([], vA l hash tick n)
@[go_sem] def uaj (l : List Iv) (hash : Nat) (tick : Nat) : D := .tup [.sl (ivs (zj l hash tick MM 3).1), .int .i64 (zj l hash tick MM 3).2]
@[go_sem] abbrev wbT : FuncId := 80
@[go_sem] def vaS : Tab := [(169, xF), (192, xL), (172, wk)]
theorem yO : ya Tryz.prog vaS := (ya.cons jH (ya.cons qM (ya.cons xo ya.nil)))
set_option maxRecDepth 8000 in
set_option maxHeartbeats 1000000 in
theorem baC (l : List Iv) (hash : Nat) (tick : Nat)  : yb Tryz.prog 80 [.sl (ivs l), .c (.int .u64 (hash : Int)), .c (.int .u64 (tick : Int))] (uaj l hash tick) := by
  refine .of (gdj yO (Nat.le_of_ble_eq_true rfl) ?_)
  simp -implicitDefEqProofs only [cdA, go_sem, Go.Proofs.Tryz.f80, reduceIte, reduceCtorEq, Nat.reduceEqDiff, Nat.reduceAdd, Nat.reduceLeDiff, Nat.reduceSub, Nat.reduceMul, Nat.reduceLT, Nat.reduceShiftRight, Nat.reduceMod, Int.reduceLE, Int.reduceLT, Int.reduceToNat, List.cons.injEq, cdB]
  refine ybM yO (Nat.le_of_ble_eq_true rfl) ?_
  simp -implicitDefEqProofs only [cdA, go_sem, Go.Proofs.Tryz.f175, reduceIte, reduceCtorEq, Nat.reduceEqDiff, Nat.reduceAdd, Nat.reduceLeDiff, Nat.reduceSub, Nat.reduceMul, Nat.reduceLT, Nat.reduceShiftRight, Nat.reduceMod, Int.reduceLE, Int.reduceLT, Int.reduceToNat, List.cons.injEq, cdB]
  have hbad : ∀ e, vA l hash tick MM = e → ¬ e = 0 → ivs (zj l hash tick MM 3).1 = [] ∧ e = (zj l hash tick MM 3).2 := fun e h1 h2 => by
    rw [zj, if_neg (by rw [h1]; exact h2), h1]; exact ⟨rfl, rfl⟩
  by_cases hok : uK l
  rotate_left 1
  · have ef : jv l hash = (0, 1) := by rw [jv, if_neg hok]
    rw [ef]
    exact ⟨fun h => absurd (show (1 : Int) = 0 from h) (by decide), fun _ => hbad 1 (by rw [vA, if_neg hok]) (by decide)⟩
  by_cases ht : Srt.thr Iv.hash ltN l hash = true
  rotate_left 1
  · have ef : jv l hash = (((Srt.pos Iv.hash ltN l hash : Nat) : Int), 5) := by rw [jv, if_pos hok, if_neg ht]
    rw [ef]
    exact ⟨fun h => absurd (show (5 : Int) = 0 from h) (by decide), fun _ => hbad 5 (by rw [vA, if_pos hok, if_neg ht]) (by decide)⟩
  have ef : jv l hash = (((Srt.pos Iv.hash ltN l hash : Nat) : Int), 0) := by rw [jv, if_pos hok, if_pos ht]
  have hp : Srt.pos Iv.hash ltN l hash < l.length := by
    have ht := ht
    unfold Srt.thr at ht
    exact (of_decide_eq_true ht).1
  have h256 := hok.1
  have he : vA l hash tick MM = if jaH (l.getD (Srt.pos Iv.hash ltN l hash) default) tick = 4 then 13 else if jaH (l.getD (Srt.pos Iv.hash ltN l hash) default) tick ≠ 1 then 10 else if MM < (l.getD (Srt.pos Iv.hash ltN l hash) default).n then 9 else 0 := by rw [vA, if_pos hok, if_pos ht]
  rw [ef]
  dsimp only
  rw [Int.toNat_natCast]
  refine ⟨fun _ => ⟨⟨by omega, by omega⟩, fun h1 => hbad 13 (by rw [he, if_pos h1]) (by decide), fun h1 => ⟨fun h2 => ⟨⟨by omega, by omega⟩, fun h3 => hbad 9 (by rw [he, if_neg h1, if_neg (fun h => h h2), if_pos (by unfold MM; omega)]) (by decide), fun h3 => ?_⟩, fun h2 => hbad 10 (by rw [he, if_neg h1, if_pos h2]) (by decide)⟩⟩, fun h => absurd rfl h⟩
  have h0 : vA l hash tick MM = 0 := by rw [he, if_neg h1, if_neg (fun h => h h2), if_neg (by unfold MM; omega)]
  rw [zj, if_pos h0]
  exact ⟨by omega, ⟨by omega, by omega⟩, hp, ⟨by rw [List.length_set], _, _, _, rfl⟩, rfl⟩
def vD : List D → Option (Prop × D × Fr)
  | [.c (.sl z10), .c (.int .u64 z11), .c (.int .u64 z12)] => some (z10 = ivs (wj z10) ∧ z11 = (z11.toNat : Int) ∧ z12 = (z12.toNat : Int), uaj (wj z10) z11.toNat z12.toNat, [])
  | _ => none
attribute [go_sem] vD
theorem jaa : ∀ rs p r fr, vD rs = some (p, r, fr) → p → zg Tryz.prog 80 rs r fr := by
  intro rs p r fr h hp
  unfold vD at h
  split at h <;> cases h
  obtain ⟨hc0, hc1, hc2⟩ := hp
  rename_i z10 z11 z12
  obtain ⟨z10, rfl⟩ : ∃ m, z10 = ivs m := ⟨_, hc0⟩
  obtain ⟨z11, rfl⟩ : ∃ m : Nat, z11 = m := ⟨_, hc1⟩
  obtain ⟨z12, rfl⟩ : ∃ m : Nat, z12 = m := ⟨_, hc2⟩
  simp only [Int.toNat_natCast, qc]
  exact baC z10 z11 z12
@[go_sem] def kbg (l : List Iv) (hash : Nat) (n : Nat) (tick : Nat) : D := .tup [.sl (ivs (zj l hash tick n 2).1), .int .i64 (zj l hash tick n 2).2]
@[go_sem] abbrev zcX : FuncId := 83
@[go_sem] def zbY : Tab := [(169, xF), (192, xL), (172, wk)]
theorem vah : ya Tryz.prog zbY := (ya.cons jH (ya.cons qM (ya.cons xo ya.nil)))
set_option maxRecDepth 8000 in
set_option maxHeartbeats 1000000 in
theorem qbn (l : List Iv) (hash : Nat) (n : Nat) (tick : Nat)  : yb Tryz.prog 83 [.sl (ivs l), .c (.int .u64 (hash : Int)), .c (.int .u64 (n : Int)), .c (.int .u64 (tick : Int))] (kbg l hash n tick) := by
  refine .of (jdi vah (Nat.le_of_ble_eq_true rfl) ?_)
  simp -implicitDefEqProofs only [cdA, go_sem, Go.Proofs.Tryz.f83, reduceIte, reduceCtorEq, Nat.reduceEqDiff, Nat.reduceAdd, Nat.reduceLeDiff, Nat.reduceSub, Nat.reduceMul, Nat.reduceLT, Nat.reduceShiftRight, Nat.reduceMod, Int.reduceLE, Int.reduceLT, Int.reduceToNat, List.cons.injEq, cdB]
  refine ybM vah (Nat.le_of_ble_eq_true rfl) ?_
  simp -implicitDefEqProofs only [cdA, go_sem, Go.Proofs.Tryz.f175, reduceIte, reduceCtorEq, Nat.reduceEqDiff, Nat.reduceAdd, Nat.reduceLeDiff, Nat.reduceSub, Nat.reduceMul, Nat.reduceLT, Nat.reduceShiftRight, Nat.reduceMod, Int.reduceLE, Int.reduceLT, Int.reduceToNat, List.cons.injEq, cdB]
  have hbad : ∀ e, vA l hash tick n = e → ¬ e = 0 → ivs (zj l hash tick n 2).1 = [] ∧ e = (zj l hash tick n 2).2 := fun e h1 h2 => by
    rw [zj, if_neg (by rw [h1]; exact h2), h1]; exact ⟨rfl, rfl⟩
  by_cases hok : uK l
  rotate_left 1
  · have ef : jv l hash = (0, 1) := by rw [jv, if_neg hok]
    rw [ef]
    exact ⟨fun h => absurd (show (1 : Int) = 0 from h) (by decide), fun _ => hbad 1 (by rw [vA, if_neg hok]) (by decide)⟩
  by_cases ht : Srt.thr Iv.hash ltN l hash = true
  rotate_left 1
  · have ef : jv l hash = (((Srt.pos Iv.hash ltN l hash : Nat) : Int), 5) := by rw [jv, if_pos hok, if_neg ht]
    rw [ef]
    exact ⟨fun h => absurd (show (5 : Int) = 0 from h) (by decide), fun _ => hbad 5 (by rw [vA, if_pos hok, if_neg ht]) (by decide)⟩
  have ef : jv l hash = (((Srt.pos Iv.hash ltN l hash : Nat) : Int), 0) := by rw [jv, if_pos hok, if_pos ht]
  have hp : Srt.pos Iv.hash ltN l hash < l.length := by
    have ht := ht
    unfold Srt.thr at ht
    exact (of_decide_eq_true ht).1
  have h256 := hok.1
  have he : vA l hash tick n = if jaH (l.getD (Srt.pos Iv.hash ltN l hash) default) tick = 4 then 13 else if jaH (l.getD (Srt.pos Iv.hash ltN l hash) default) tick ≠ 1 then 10 else if n < (l.getD (Srt.pos Iv.hash ltN l hash) default).n then 9 else 0 := by rw [vA, if_pos hok, if_pos ht]
  rw [ef]
  dsimp only
  rw [Int.toNat_natCast]
  refine ⟨fun _ => ⟨⟨by omega, by omega⟩, fun h1 => hbad 13 (by rw [he, if_pos h1]) (by decide), fun h1 => ⟨fun h2 => ⟨⟨by omega, by omega⟩, fun h3 => hbad 9 (by rw [he, if_neg h1, if_neg (fun h => h h2), if_pos (by skip; omega)]) (by decide), fun h3 => ?_⟩, fun h2 => hbad 10 (by rw [he, if_neg h1, if_pos h2]) (by decide)⟩⟩, fun h => absurd rfl h⟩
  have h0 : vA l hash tick n = 0 := by rw [he, if_neg h1, if_neg (fun h => h h2), if_neg (by skip; omega)]
  rw [zj, if_pos h0]
  exact ⟨by omega, ⟨by omega, by omega⟩, hp, ⟨by rw [List.length_set], _, _, _, rfl⟩, rfl⟩
def bab : List D → Option (Prop × D × Fr)
  | [.c (.sl z13), .c (.int .u64 z14), .c (.int .u64 z15), .c (.int .u64 z16)] => some (z13 = ivs (wj z13) ∧ z14 = (z14.toNat : Int) ∧ z15 = (z15.toNat : Int) ∧ z16 = (z16.toNat : Int), kbg (wj z13) z14.toNat z15.toNat z16.toNat, [])
  | _ => none
attribute [go_sem] bab
theorem qaF : ∀ rs p r fr, bab rs = some (p, r, fr) → p → zg Tryz.prog 83 rs r fr := by
  intro rs p r fr h hp
  unfold bab at h
  split at h <;> cases h
  obtain ⟨hc0, hc1, hc2, hc3⟩ := hp
  rename_i z13 z14 z15 z16
  obtain ⟨z13, rfl⟩ : ∃ m, z13 = ivs m := ⟨_, hc0⟩
  obtain ⟨z14, rfl⟩ : ∃ m : Nat, z14 = m := ⟨_, hc1⟩
  obtain ⟨z15, rfl⟩ : ∃ m : Nat, z15 = m := ⟨_, hc2⟩
  obtain ⟨z16, rfl⟩ : ∃ m : Nat, z16 = m := ⟨_, hc3⟩
  simp only [Int.toNat_natCast, qc]
  exact qbn z13 z14 z15 z16
def bJ (tick : Nat) (x : Iv) : Bool := decide (jaH x tick = 4 ∨ x.state = 3)
def xl (l : List Iv) (tick : Nat) : List Iv × Int := if uK l then (l.filter fun x => !bJ tick x, 0) else ([], 1)
@[go_sem] def xay (l : List Iv) (tick : Nat) : D := .tup [.sl (ivs (xl l tick).1), .int .i64 (xl l tick).2]
@[go_sem] abbrev gb9 : FuncId := 100
@[go_sem] def qa2 : Tab := [(103, xw), (192, xL), (172, wk)]
theorem jf : ya Tryz.prog qa2 := (ya.cons vC (ya.cons qM (ya.cons xo ya.nil)))
set_option maxRecDepth 8000 in
set_option maxHeartbeats 1000000 in
theorem baU (l : List Iv) (tick : Nat)  : yb Tryz.prog 100 [.sl (ivs l), .c (.int .u64 (tick : Int))] (xay l tick) := by
  refine .of (xcK jf (Nat.le_of_ble_eq_true rfl) ?_)
  simp -implicitDefEqProofs only [cdA, go_sem, Go.Proofs.Tryz.f100, reduceIte, reduceCtorEq, Nat.reduceEqDiff, Nat.reduceAdd, Nat.reduceLeDiff, Nat.reduceSub, Nat.reduceMul, Nat.reduceLT, Nat.reduceShiftRight, Nat.reduceMod, Int.reduceLE, Int.reduceLT, Int.reduceToNat, List.cons.injEq, cdB]
  have hcz : jas l = 0 ↔ uK l := by unfold jas; split <;> rename_i h <;> simp only [h] <;> decide
  refine ⟨fun h0 => ?_, fun h0 => by
    have hno : ¬ uK l := fun h => h0 (hcz.2 h)
    rw [xl, jas, if_neg hno, if_neg hno]; exact ⟨rfl, rfl⟩⟩
  have hok := hcz.1 h0
  have h256 := hok.1
  refine ⟨by omega, ?_⟩
  refine va.sld ?_
  refine vN (n := 42) (fn := Tryz.f193) (by kernel_rfl) rfl rfl rfl (Nat.le_of_ble_eq_true rfl) (rs := [.tmp 4]) rfl ?_
  refine SWm.seq (SWm.awp jf.toS w6 rfl ?_)
  simp -implicitDefEqProofs only [cdA, go_sem, reduceIte, reduceCtorEq, Nat.reduceEqDiff, Nat.reduceAdd, Nat.reduceLeDiff, Nat.reduceSub, Nat.reduceMul, Nat.reduceLT, Nat.reduceShiftRight, Nat.reduceMod, Int.reduceLE, Int.reduceLT, Int.reduceToNat, List.cons.injEq, cdB]
  refine SWm.seq (SWm.awp jf.toS w6 rfl ?_)
  simp -implicitDefEqProofs only [cdA, go_sem, reduceIte, reduceCtorEq, Nat.reduceEqDiff, Nat.reduceAdd, Nat.reduceLeDiff, Nat.reduceSub, Nat.reduceMul, Nat.reduceLT, Nat.reduceShiftRight, Nat.reduceMod, Int.reduceLE, Int.reduceLT, Int.reduceToNat, List.cons.injEq, cdB]
  refine qcF jf (Nat.le_of_ble_eq_true rfl) ?_
  simp -implicitDefEqProofs only [cdA, go_sem, Go.Proofs.Tryz.f238, reduceIte, reduceCtorEq, Nat.reduceEqDiff, Nat.reduceAdd, Nat.reduceLeDiff, Nat.reduceSub, Nat.reduceMul, Nat.reduceLT, Nat.reduceShiftRight, Nat.reduceMod, Int.reduceLE, Int.reduceLT, Int.reduceToNat, List.cons.injEq, cdB]
  refine fun _ => SWp.loop (ι := { i : Nat // i ≤ l.length ∧ ∀ j, j < i → bJ tick (l.getD j default) = false }) (fun i => ⟨[(0, .vec 1 l.length), (1, .fn (.func 191) [] [.ref 0 0]), (7, .int .i64 l.length), (8, .int .i64 i.1)],
    [(1, .vec true 4 64 (ivs l)), (0, .box [.c (.int .u64 tick)])], 2⟩) (fun i => l.length - i.1) ⟨0, by simp⟩ ?_ ?_
  · simp [go_sem]
  · rintro ⟨i, hi, hall⟩
    refine qb jf.toS xbn _ _ _ rfl ?_
    simp -implicitDefEqProofs only [cdA, go_sem, reduceIte, reduceCtorEq, Nat.reduceEqDiff, Nat.reduceAdd, Nat.reduceLeDiff, Nat.reduceSub, Nat.reduceMul, Nat.reduceLT, Nat.reduceShiftRight, Nat.reduceMod, Int.reduceLE, Int.reduceLT, Int.reduceToNat, List.cons.injEq, cdB]
    refine ⟨fun h4 => ⟨by omega, by omega, ?_⟩, fun h4 => ?_⟩
    · skip
      refine zbW jf (Nat.le_of_ble_eq_true rfl) ?_
      simp -implicitDefEqProofs only [cdA, go_sem, Go.Proofs.Tryz.f191, reduceIte, reduceCtorEq, Nat.reduceEqDiff, Nat.reduceAdd, Nat.reduceLeDiff, Nat.reduceSub, Nat.reduceMul, Nat.reduceLT, Nat.reduceShiftRight, Nat.reduceMod, Int.reduceLE, Int.reduceLT, Int.reduceToNat, List.cons.injEq, cdB]
      have hi' : i < l.length := by omega
      have hov : ∀ x : Iv, bJ tick x = true ↔ jaH x tick = 4 ∨ x.state = 3 := fun x => decide_eq_true_iff
      have hb0 : bJ tick (l.getD i default) = true → l.take i = (l.take (i + 1)).filter (fun y => !bJ tick y) := fun hv => by
        rw [take_succ hi', List.filter_append, List.filter_eq_self.2 (fun x hx => ?_), List.filter_cons_of_neg (by rw [hv]; decide), List.filter_nil, List.append_nil]
        obtain ⟨j, hj, rfl⟩ := jb.1 hx
        rw [List.length_take] at hj
        rw [List.getD_eq_getElem?_getD, List.getElem?_take_of_lt (by omega), ← List.getD_eq_getElem?_getD, hall j (by omega)]; rfl
      refine ⟨fun h1 => ⟨fun h2 => ?_, fun h2 => ⟨⟨i + 1, by omega, fun j hj => ?_⟩, by dsimp only; omega, i64_in _ (by omega)⟩⟩, fun h1 => ?_⟩
      rotate_left 1
      · by_cases hji : j = i
        · subst hji
          have : ¬ bJ tick (l.getD j default) = true := fun h => by
            rcases (hov _).1 h with h | h
            · exact h1 h
            · exact h2 h
          simpa using this
        · exact hall j (by omega)
      all_goals
        have hb1 := hb0 ((hov _).2 (by first | exact .inl h1 | exact .inr h2))
        refine SWm.seq (SWm.awp jf.toS w6 rfl ?_)
        simp -implicitDefEqProofs only [cdA, go_sem, reduceIte, reduceCtorEq, Nat.reduceEqDiff, Nat.reduceAdd, Nat.reduceLeDiff, Nat.reduceSub, Nat.reduceMul, Nat.reduceLT, Nat.reduceShiftRight, Nat.reduceMod, Int.reduceLE, Int.reduceLT, Int.reduceToNat, List.cons.injEq, cdB]
        refine ⟨fun h => h.elim, ?_⟩
        refine SWm.seq (SWm.seq (SWm.awp jf.toS w6 rfl ?_))
        simp -implicitDefEqProofs only [cdA, go_sem, reduceIte, reduceCtorEq, Nat.reduceEqDiff, Nat.reduceAdd, Nat.reduceLeDiff, Nat.reduceSub, Nat.reduceMul, Nat.reduceLT, Nat.reduceShiftRight, Nat.reduceMod, Int.reduceLE, Int.reduceLT, Int.reduceToNat, List.cons.injEq, cdB]
        rw [i64_in _ (by omega)]
        refine SWm.block (SWm.of (SWp.loop (ι := { x : Nat × Nat × List Iv // x.1 < x.2.1 ∧ x.2.1 ≤ l.length ∧ x.2.2.length = l.length ∧ x.2.2.take x.1 = (l.take x.2.1).filter (fun y => !bJ tick y) ∧ x.2.2.drop x.2.1 = l.drop x.2.1 })
          (fun x => ⟨[(0, .vec 1 l.length), (1, .fn (.func 191) [] [.ref 0 0]), (5, .int .i64 x.1.1), (6, .int .i64 x.1.2.1)],
            [(2, .box [.c (.int .u64 (l.getD i default).hash), .c (.int .u64 (l.getD i default).n), .c (.int .u64 (l.getD i default).till), .c (.int .i64 (l.getD i default).state)]), (1, .vec true 4 64 (ivs x.1.2.2)), (0, .box [.c (.int .u64 tick)])], 3⟩) (fun x => l.length - x.1.2.1) ⟨(i, i + 1, l), by dsimp only; omega, by dsimp only; omega, rfl, hb1, rfl⟩ ?_ ?_))
      all_goals first | (simp [go_sem]; done) | skip
      all_goals
        rintro ⟨⟨k, j, m⟩, hkj, hj, hml, hmt, hmd⟩
        refine qb jf.toS w6 _ _ _ rfl ?_
        simp -implicitDefEqProofs only [cdA, go_sem, reduceIte, reduceCtorEq, Nat.reduceEqDiff, Nat.reduceAdd, Nat.reduceLeDiff, Nat.reduceSub, Nat.reduceMul, Nat.reduceLT, Nat.reduceShiftRight, Nat.reduceMod, Int.reduceLE, Int.reduceLT, Int.reduceToNat, List.cons.injEq, cdB]
        dsimp only at hkj hj hml hmt hmd
        refine fun _ => ⟨fun h5 => ⟨by omega, ⟨hml.symm, by omega⟩, ?_⟩, fun h5 => ?_⟩
        · skip
          refine zbW jf (Nat.le_of_ble_eq_true rfl) ?_
          simp -implicitDefEqProofs only [cdA, go_sem, Go.Proofs.Tryz.f191, reduceIte, reduceCtorEq, Nat.reduceEqDiff, Nat.reduceAdd, Nat.reduceLeDiff, Nat.reduceSub, Nat.reduceMul, Nat.reduceLT, Nat.reduceShiftRight, Nat.reduceMod, Int.reduceLE, Int.reduceLT, Int.reduceToNat, List.cons.injEq, cdB]
          have hj' : j < l.length := by omega
          have hmj : m.getD j default = l.getD j default := by
            have h6 : (m.drop j)[0]? = (l.drop j)[0]? := by rw [hmd]
            rw [List.getElem?_drop, List.getElem?_drop, Nat.add_zero] at h6
            rw [List.getD_eq_getElem?_getD, h6, ← List.getD_eq_getElem?_getD]
          have hmd2 : m.drop (j + 1) = l.drop (j + 1) := by
            rw [← List.drop_drop, hmd, List.drop_drop]
          have hgo : bJ tick (l.getD j default) = true → m.take k = (l.take (j + 1)).filter (fun y => !bJ tick y) := fun hv => by
            rw [take_succ hj', List.filter_append, List.filter_cons_of_neg (by rw [hv]; decide), List.filter_nil, List.append_nil, hmt]
          have hkeep : ¬ bJ tick (l.getD j default) = true → (m.set k (l.getD j default)).take (k + 1) = (l.take (j + 1)).filter (fun y => !bJ tick y) := fun hv => by
            rw [take_succ hj', List.filter_append, List.filter_cons_of_pos (by simpa using hv), List.filter_nil, ← hmt, List.take_set, take_succ (by omega), List.set_append_right _ _ (by rw [List.length_take]; omega), List.length_take, show k - min k m.length = 0 by omega]
            rfl
          rw [hmj]
          refine ⟨fun h6 => ⟨fun h7 => ⟨⟨(k, j + 1, m), by dsimp only; omega, hj', hml, hgo ((hov _).2 (.inr h7)), hmd2⟩, by dsimp only; omega, ⟨rfl, i64_in _ (by omega)⟩, rfl⟩, fun h7 => ⟨by omega, ⟨hml.symm, by omega⟩, ⟨(k + 1, j + 1, m.set k (l.getD j default)), by dsimp only; omega, hj', by dsimp only; rw [List.length_set]; exact hml, hkeep (fun h => by rcases (hov _).1 h with h | h <;> first | exact h6 h | exact h7 h), ?_⟩, by dsimp only; omega, ⟨i64_in _ (by omega), i64_in _ (by omega)⟩, rfl⟩⟩,
            fun h6 => ⟨⟨(k, j + 1, m), by dsimp only; omega, hj', hml, hgo ((hov _).2 (.inl h6)), hmd2⟩, by dsimp only; omega, ⟨rfl, i64_in _ (by omega)⟩, rfl⟩⟩
          dsimp only
          rw [List.drop_set_of_lt (by omega)]; exact hmd2
        · have hj' : j = l.length := by omega
          subst hj'
          refine SWm.opn 1 rfl fun cp hc hcm => ?_
          rw [kg] at hc
          refine SWm.awp jf.toS w6 rfl ?_
          simp -implicitDefEqProofs only [cdA, go_sem, List.map_cons, List.map_nil, hml, eq_self, reduceIte, reduceCtorEq, Nat.reduceEqDiff, Nat.reduceAdd, Nat.reduceLeDiff, Nat.reduceSub, Nat.reduceMul, Nat.reduceLT, Nat.reduceShiftRight, Nat.reduceMod, Int.reduceLE, Int.reduceLT, Int.reduceToNat, List.cons.injEq, cdB]
          have hsw : xl l tick = (m.take k, 0) := by rw [xl, if_pos hok, hmt, List.take_length]
          have hkl : (m.take k).length = k := by rw [List.length_take]; omega
          have hfin : ∀ Z : List (List C), List.take k (fit cp 4 (List.take k (fit cp 4 (ivs m)) ++ Z)) = ivs (m.take k) := fun Z => by
            rw [yo (by rw [List.length_append, List.length_take, zf]; omega) (by omega), List.take_append_of_le_length (by rw [List.length_take, zf]; omega), List.take_take, Nat.min_self, yo (by rw [kg]; omega) (by omega)]
            simp [ivs, List.map_take]
          rw [hfin, hsw]
          exact ⟨by omega, by omega, ⟨hkl.symm, _, _, _, rfl⟩, rfl⟩
    · have hi' : i = l.length := by omega
      subst hi'
      have hsw : xl l tick = (l, 0) := by
        rw [xl, if_pos hok, List.filter_eq_self.2 fun x hx => ?_]
        obtain ⟨j, hj, rfl⟩ := jb.1 hx
        rw [hall j (by omega)]; rfl
      refine SWm.seq (SWm.awp jf.toS w6 rfl ?_)
      simp -implicitDefEqProofs only [cdA, go_sem, reduceIte, reduceCtorEq, Nat.reduceEqDiff, Nat.reduceAdd, Nat.reduceLeDiff, Nat.reduceSub, Nat.reduceMul, Nat.reduceLT, Nat.reduceShiftRight, Nat.reduceMod, Int.reduceLE, Int.reduceLT, Int.reduceToNat, List.cons.injEq, cdB]
      rw [hsw]
      exact ⟨⟨rfl, _, _, _, rfl⟩, rfl⟩
def zI : List D → Option (Prop × D × Fr)
  | [.c (.sl z17), .c (.int .u64 z18)] => some (z17 = ivs (wj z17) ∧ z18 = (z18.toNat : Int), xay (wj z17) z18.toNat, [])
  | _ => none
attribute [go_sem] zI
theorem jam : ∀ rs p r fr, zI rs = some (p, r, fr) → p → zg Tryz.prog 100 rs r fr := by
  intro rs p r fr h hp
  unfold zI at h
  split at h <;> cases h
  obtain ⟨hc0, hc1⟩ := hp
  rename_i z17 z18
  obtain ⟨z17, rfl⟩ : ∃ m, z17 = ivs m := ⟨_, hc0⟩
  obtain ⟨z18, rfl⟩ : ∃ m : Nat, z18 = m := ⟨_, hc1⟩
  simp only [Int.toNat_natCast, qc]
  exact baU z17 z18
end Dm
namespace Dm
open Go Go.Proofs Go.IntWalk
end Dm
namespace Dm
open Go Go.Proofs Go.IntWalk
theorem zbP {l : List Ch} {p : Nat} {d : Ch} (hp : p < l.length) (hh : d.holds = (l.getD p default).holds) : zL (l.set p d) = zL l := by
  conv => rhs; rw [jI hp]
  rw [yD hp]
  simp only [zL, List.flatMap_append, List.flatMap_cons, hh]
theorem zcS {l : List Ch} {p : Nat} {d : Ch} (hp : p < l.length) (hi : d.id = (l.getD p default).id) (hh : d.holds = (l.getD p default).holds) : hlL (l.set p d) = hlL l := by
  conv => rhs; rw [jI hp]
  rw [yD hp]
  simp only [hlL, hlC, List.flatMap_append, List.flatMap_cons, hh, hi]
theorem jaR {l : List Ch} {p : Nat} {d : Ch} (hok : ym l) (hp : p < l.length) (hd : yl d) (hi : d.id = (l.getD p default).id) (hh : d.holds = (l.getD p default).holds) (ha : qR d = qR (l.getD p default)) :
    ym (l.set p d) ∧ hlL (l.set p d) = hlL l := by
  have hu : Srt.Up Ch.id ltN l := (Srt.jg (lt := ltN) Srt.qf).1 hok.2.2.1
  refine ⟨⟨by rw [List.length_set]; exact hok.1, fun y hy => ?_, ?_, ?_, ?_⟩, zcS hp hi hh⟩
  · rcases List.mem_or_eq_of_mem_set hy with h | rfl
    · exact hok.2.1 y h
    · exact hd
  · exact (Srt.jg (lt := ltN) Srt.qf).2 (Srt.qZ hu hp hi)
  · rw [zbP hp hh]; exact hok.2.2.2.1
  · rw [b8 hp ha]; exact hok.2.2.2.2
theorem wbQ {c : Ch} {n : Nat} (h : yap c n = 0) : yl c ∧ c.op = true ∧ n ≤ c.rem ∧ gK c n = (⟨c.id, c.loc + n, c.rem - n, c.res, c.most, c.holds, c.op⟩, 0) ∧ yl (gK c n).1 ∧ qR (gK c n).1 = qR c := by
  have e : gK c n = (⟨c.id, c.loc + n, c.rem - n, c.res, c.most, c.holds, c.op⟩, 0) := by rw [gK, if_pos h]
  unfold yap at h
  split at h
  · cases h
  rename_i h1
  split at h
  · cases h
  rename_i h2
  split at h
  · cases h
  rename_i h3
  have hok : yl c := Decidable.byContradiction fun hn => h1 (.inl hn)
  obtain ⟨o1, o2, o3, o4, o5, o6, o7, o8, o9, o10⟩ := hok
  have hok : yl c := ⟨o1, o2, o3, o4, o5, o6, o7, o8, o9, o10⟩
  have hok2 : yl (⟨c.id, c.loc + n, c.rem - n, c.res, c.most, c.holds, c.op⟩ : Ch) := by
    refine ⟨o1, o2, o3, o4, o5, o6, o7, ?_, ?_, ?_⟩
    · show c.loc + n ≤ MM; unfold MM at *; omega
    · show c.rem - n ≤ MM; unfold MM at *; omega
    · show held c.holds + (c.loc + n) + (c.rem - n) ≤ MM; unfold MM at *; omega
  refine ⟨hok, by simpa using h2, by omega, e, by rw [e]; exact hok2, ?_⟩
  rw [e]
  unfold qR xg
  rw [if_pos hok2, if_pos hok]
  show held c.holds + (c.loc + n) + (c.rem - n) = held c.holds + c.loc + c.rem
  omega
theorem gb1 {c : Ch} (h : qau c = 0) : yl c ∧ c.op = true ∧ c.holds = [] ∧ bK c = (⟨c.id, c.loc, c.rem, c.res, c.most, [], false⟩, 0) ∧ yl (bK c).1 ∧ qR (bK c).1 = qR c := by
  have e : bK c = (⟨c.id, c.loc, c.rem, c.res, c.most, [], false⟩, 0) := by rw [bK, if_pos h]
  unfold qau at h
  split at h
  · cases h
  rename_i h1
  split at h
  · cases h
  rename_i h2
  split at h
  · cases h
  rename_i h3
  have hok : yl c := Decidable.byContradiction h1
  have hh : c.holds = [] := List.eq_nil_of_length_eq_zero (by omega)
  obtain ⟨o1, o2, o3, o4, o5, o6, o7, o8, o9, o10⟩ := hok
  have hok : yl c := ⟨o1, o2, o3, o4, o5, o6, o7, o8, o9, o10⟩
  rw [hh] at o3 o5 o6 o7 o10
  have hok2 : yl (⟨c.id, c.loc, c.rem, c.res, c.most, [], false⟩ : Ch) := ⟨o1, o2, o3, fun _ => rfl, o5, o6, o7, o8, o9, o10⟩
  refine ⟨hok, by simpa using h2, hh, e, by rw [e]; exact hok2, ?_⟩
  rw [e]
  unfold qR xg
  rw [if_pos hok2, if_pos hok, hh]
theorem vaT {l : List Ch} {id n : Nat} (h : (vX l id n).2 = 0) : ym l ∧ ∃ p, p < l.length ∧ (l.getD p default).id = id ∧ yap (l.getD p default) n = 0 ∧ (vX l id n).1 = l.set p (gK (l.getD p default) n).1 ∧ ym (vX l id n).1 ∧ hlL (vX l id n).1 = hlL l := by
  unfold vX at h ⊢
  split at h
  · rename_i hok
    split at h
    · rename_i ht
      split at h
      · rename_i he
        obtain ⟨h1, h2⟩ := y6 ht
        obtain ⟨g1, g2, g3, g4, g5, g6⟩ := wbQ he
        rw [if_pos hok, if_pos ht, if_pos he]
        have h3 := jaR hok h1 g5 (by rw [g4]) (by rw [g4]) g6
        exact ⟨hok, _, h1, h2, he, rfl, h3⟩
      · rename_i he; exact absurd h he
    · cases h
  · cases h
theorem qaL {l : List Ch} {id : Nat} (h : (y5 l id).2 = 0) : ym l ∧ ∃ p, p < l.length ∧ (l.getD p default).id = id ∧ qau (l.getD p default) = 0 ∧ (y5 l id).1 = l.set p (bK (l.getD p default)).1 ∧ ym (y5 l id).1 ∧ hlL (y5 l id).1 = hlL l := by
  unfold y5 at h ⊢
  split at h
  · rename_i hok
    split at h
    · rename_i ht
      split at h
      · rename_i he
        obtain ⟨h1, h2⟩ := y6 ht
        obtain ⟨g1, g2, g3, g4, g5, g6⟩ := gb1 he
        rw [if_pos hok, if_pos ht, if_pos he]
        have h3 := jaR hok h1 g5 (by rw [g4]) (by rw [g4, g3]) g6
        exact ⟨hok, _, h1, h2, he, rfl, h3⟩
      · rename_i he; exact absurd h he
    · cases h
  · cases h
theorem ua6 {l : List Ch} {id n : Nat} (h : (vX l id n).2 = 0) : ym (vX l id n).1 := by
  obtain ⟨_, _, _, _, _, _, h, _⟩ := vaT h; exact h
theorem uaX {l : List Ch} {id : Nat} (h : (y5 l id).2 = 0) : ym (y5 l id).1 := by
  obtain ⟨_, _, _, _, _, _, h, _⟩ := qaL h; exact h
theorem zbb {l : List Iv} {hash tick n : Nat} {st : Int} : (zj l hash tick n st).2 = vA l hash tick n := by
  unfold zj
  split
  · rename_i h; exact h.symm
  · rfl
theorem qaS {l : List Iv} {hash tick n : Nat} (h : vA l hash tick n = 0) : uK l ∧ Srt.pos Iv.hash ltN l hash < l.length ∧ (l.getD (Srt.pos Iv.hash ltN l hash) default).hash = hash ∧ jaH (l.getD (Srt.pos Iv.hash ltN l hash) default) tick = 1 ∧ (l.getD (Srt.pos Iv.hash ltN l hash) default).n ≤ n := by
  unfold vA at h
  split at h
  · rename_i h1
    split at h
    · rename_i h2
      obtain ⟨g1, g2⟩ := y6 h2
      split at h
      · cases h
      split at h
      · cases h
      rename_i h4
      split at h
      · cases h
      rename_i h5
      exact ⟨h1, g1, g2, Decidable.byContradiction h4, by omega⟩
    · cases h
  · cases h
theorem uaw {l : List Iv} {hash tick n : Nat} {st : Int} (h : (zj l hash tick n st).2 = 0) (hst : 1 ≤ st ∧ st ≤ 3) : uK l ∧ uK (zj l hash tick n st).1 ∧ ∃ p, p < l.length ∧ p = Srt.pos Iv.hash ltN l hash ∧ (l.getD p default).hash = hash ∧ jaH (l.getD p default) tick = 1 ∧ (zj l hash tick n st).1 = l.set p { l.getD p default with state := st } := by
  rw [zbb] at h
  obtain ⟨h1, h2, h3, h4, h5⟩ := qaS h
  have e : (zj l hash tick n st).1 = l.set (Srt.pos Iv.hash ltN l hash) { l.getD (Srt.pos Iv.hash ltN l hash) default with state := st } := by rw [zj, if_pos h]
  rw [e]
  refine ⟨h1, ⟨by rw [List.length_set]; exact h1.1, fun x hx => ?_, ?_⟩, _, h2, rfl, h3, h4, rfl⟩
  · rcases List.mem_or_eq_of_mem_set hx with h | rfl
    · exact h1.2.1 x h
    · exact ⟨(h1.2.1 _ (jb.2 ⟨_, h2, rfl⟩)).1, hst⟩
  · exact (Srt.jg (lt := ltN) Srt.qf).2 (Srt.qZ ((Srt.jg (lt := ltN) Srt.qf).1 h1.2.2) h2 rfl)
theorem yay {l : List Iv} {hash tick n : Nat} {st : Int} (h : (zj l hash tick n st).2 = 0) : (zj l hash tick n st).1.length ≤ 256 := by
  rw [zbb] at h
  have := (qaS h).1.1
  rw [zj, if_pos h, List.length_set]; exact this
theorem jax {l : List Iv} {tick : Nat} (h : (xl l tick).2 = 0) : uK l ∧ uK (xl l tick).1 ∧ (xl l tick).1 = l.filter fun x => !bJ tick x := by
  unfold xl at h ⊢
  split at h
  · rename_i h1
    rw [if_pos h1]
    have hs : (l.filter fun x => !bJ tick x).Sublist l := List.filter_sublist
    refine ⟨h1, ⟨Nat.le_trans hs.length_le h1.1, fun x hx => h1.2.1 x (hs.subset hx), ?_⟩, rfl⟩
    exact (Srt.jg (lt := ltN) Srt.qf).2 (List.Pairwise.sublist hs ((Srt.jg (lt := ltN) Srt.qf).1 h1.2.2))
  · cases h
end Dm
namespace Dm
open Go Go.Proofs Go.IntWalk
def bbe (v : Wl) (hash : Nat) (n : Nat) (ch : Nat) : List Iv × Int := zj v.i hash v.tick n 2
def kbe (v : Wl) (hash : Nat) (n : Nat) (ch : Nat) : List Ch × Int := vX v.c ch n
def ybw (v : Wl) (hash : Nat) (n : Nat) (ch : Nat) : Fd × Nat × Int := vm v.f 5 hash n
def uaH (v : Wl) (hash : Nat) (n : Nat) (ch : Nat) : Int := if ¬ okW v then 1 else if (bbe v hash n ch).2 ≠ 0 then (bbe v hash n ch).2 else if (kbe v hash n ch).2 ≠ 0 then (kbe v hash n ch).2 else (ybw v hash n ch).2.2
def kG (v : Wl) (hash : Nat) (n : Nat) (ch : Nat) : Wl × Int := if uaH v hash n ch = 0 then (⟨(kbe v hash n ch).1, v.w, (bbe v hash n ch).1, v.p, (ybw v hash n ch).1, v.next, v.tick⟩, 0) else (yx, uaH v hash n ch)
@[go_sem] def xY (v : Wl) (hash : Nat) (n : Nat) (ch : Nat) : D := .tup [.agg [.sl (chs (kG v hash n ch).1.c), .sl (wts (kG v hash n ch).1.w), .sl (ivs (kG v hash n ch).1.i), .sl (pys (kG v hash n ch).1.p), .int .u64 (kG v hash n ch).1.f.next, .sl (evs (kG v hash n ch).1.f.l), .int .u64 (kG v hash n ch).1.next, .int .u64 (kG v hash n ch).1.tick], .int .i64 (kG v hash n ch).2]
@[go_sem] abbrev qbJ : FuncId := 26
@[go_sem] def kaF : Tab := [(37, bh), (83, bab), (85, wR), (142, wu), (119, gp)]
theorem zb : ya Tryz.prog kaF := (ya.cons vg (ya.cons qaF (ya.cons xat (ya.cons gn (ya.cons yj ya.nil)))))
set_option maxRecDepth 8000 in
set_option maxHeartbeats 1000000 in
theorem jat (v : Wl) (hash : Nat) (n : Nat) (ch : Nat) (h : v.f.next ≤ 18446744073709551615) : yb Tryz.prog 26 [.agg [.sl (chs v.c), .sl (wts v.w), .sl (ivs v.i), .sl (pys v.p), .c (.int .u64 (v.f.next : Int)), .sl (evs v.f.l), .c (.int .u64 (v.next : Int)), .c (.int .u64 (v.tick : Int))], .c (.int .u64 (hash : Int)), .c (.int .u64 (n : Int)), .c (.int .u64 (ch : Int))] (xY v hash n ch) := by
  refine .of (ydh zb (Nat.le_of_ble_eq_true rfl) ?_)
  simp -implicitDefEqProofs only [cdA, go_sem, Go.Proofs.Tryz.f26, reduceIte, reduceCtorEq, Nat.reduceEqDiff, Nat.reduceAdd, Nat.reduceLeDiff, Nat.reduceSub, Nat.reduceMul, Nat.reduceLT, Nat.reduceShiftRight, Nat.reduceMod, Int.reduceLE, Int.reduceLT, Int.reduceToNat, List.cons.injEq, cdB]
  refine qaX zb (Nat.le_of_ble_eq_true rfl) ?_
  simp -implicitDefEqProofs only [cdA, go_sem, Go.Proofs.Tryz.f45, reduceIte, reduceCtorEq, Nat.reduceEqDiff, Nat.reduceAdd, Nat.reduceLeDiff, Nat.reduceSub, Nat.reduceMul, Nat.reduceLT, Nat.reduceShiftRight, Nat.reduceMod, Int.reduceLE, Int.reduceLT, Int.reduceToNat, List.cons.injEq, cdB]
  refine uc.run yG zb qa (by kernel_rfl) (by kernel_rfl) ?_
  simp -implicitDefEqProofs only [cdA, go_sem, reduceIte, reduceCtorEq, Nat.reduceEqDiff, Nat.reduceAdd, Nat.reduceLeDiff, Nat.reduceSub, Nat.reduceMul, Nat.reduceLT, Nat.reduceShiftRight, Nat.reduceMod, Int.reduceLE, Int.reduceLT, Int.reduceToNat, List.cons.injEq, cdB]
  refine ⟨h, ?_⟩
  have hbad : ∀ e : Int, uaH v hash n ch = e → ¬ e = 0 → (chs (kG v hash n ch).1.c = [] ∧ wts (kG v hash n ch).1.w = [] ∧ ivs (kG v hash n ch).1.i = [] ∧ pys (kG v hash n ch).1.p = [] ∧ 0 = ((kG v hash n ch).1.f.next : Int) ∧ evs (kG v hash n ch).1.f.l = [] ∧ 0 = ((kG v hash n ch).1.next : Int) ∧ 0 = ((kG v hash n ch).1.tick : Int)) ∧ e = (kG v hash n ch).2 := fun e h1 h2 => by
    have : kG v hash n ch = (yx, e) := by rw [kG, if_neg (by rw [h1]; exact h2), h1]
    rw [this]; exact ⟨⟨rfl, rfl, rfl, rfl, rfl, rfl, rfl, rfl⟩, rfl⟩
  by_cases hok : okW v
  rotate_left 1
  · have hck : (bq v = 0) = False := eq_false fun h => hok (qm.1 h)
    have he : uaH v hash n ch = 1 := by rw [uaH, if_pos hok]
    have hc1 : bq v = 1 := by rw [bq, if_neg hok]
    skip
    refine qaZ zb (Nat.le_of_ble_eq_true rfl) ?_
    simp -implicitDefEqProofs only [cdA, go_sem, Go.Proofs.Tryz.f75, hck, cdN, reduceIte, reduceCtorEq, Nat.reduceEqDiff, Nat.reduceAdd, Nat.reduceLeDiff, Nat.reduceSub, Nat.reduceMul, Nat.reduceLT, Nat.reduceShiftRight, Nat.reduceMod, Int.reduceLE, Int.reduceLT, Int.reduceToNat, List.cons.injEq, cdB]
    refine vW zb (Nat.le_of_ble_eq_true rfl) ?_
    simp -implicitDefEqProofs only [cdA, go_sem, Go.Proofs.Tryz.f53, hck, cdN, reduceIte, reduceCtorEq, Nat.reduceEqDiff, Nat.reduceAdd, Nat.reduceLeDiff, Nat.reduceSub, Nat.reduceMul, Nat.reduceLT, Nat.reduceShiftRight, Nat.reduceMod, Int.reduceLE, Int.reduceLT, Int.reduceToNat, List.cons.injEq, cdB]
    refine wF zb (Nat.le_of_ble_eq_true rfl) ?_
    simp -implicitDefEqProofs only [cdA, go_sem, Go.Proofs.Tryz.f56, reduceIte, reduceCtorEq, Nat.reduceEqDiff, Nat.reduceAdd, Nat.reduceLeDiff, Nat.reduceSub, Nat.reduceMul, Nat.reduceLT, Nat.reduceShiftRight, Nat.reduceMod, Int.reduceLE, Int.reduceLT, Int.reduceToNat, List.cons.injEq, cdB]
    refine vj zb (Nat.le_of_ble_eq_true rfl) ?_
    simp -implicitDefEqProofs only [cdA, go_sem, Go.Proofs.Tryz.f140, hck, cdN, reduceIte, reduceCtorEq, Nat.reduceEqDiff, Nat.reduceAdd, Nat.reduceLeDiff, Nat.reduceSub, Nat.reduceMul, Nat.reduceLT, Nat.reduceShiftRight, Nat.reduceMod, Int.reduceLE, Int.reduceLT, Int.reduceToNat, List.cons.injEq, cdB]
    refine js zb (Nat.le_of_ble_eq_true rfl) ?_
    simp -implicitDefEqProofs only [cdA, go_sem, Go.Proofs.Tryz.f47, hck, cdN, reduceIte, reduceCtorEq, Nat.reduceEqDiff, Nat.reduceAdd, Nat.reduceLeDiff, Nat.reduceSub, Nat.reduceMul, Nat.reduceLT, Nat.reduceShiftRight, Nat.reduceMod, Int.reduceLE, Int.reduceLT, Int.reduceToNat, List.cons.injEq, cdB]
    refine uc.run yf zb qa (by kernel_rfl) (by kernel_rfl) ?_
    simp -implicitDefEqProofs only [cdA, go_sem, hck, cdN, reduceIte, reduceCtorEq, Nat.reduceEqDiff, Nat.reduceAdd, Nat.reduceLeDiff, Nat.reduceSub, Nat.reduceMul, Nat.reduceLT, Nat.reduceShiftRight, Nat.reduceMod, Int.reduceLE, Int.reduceLT, Int.reduceToNat, List.cons.injEq, cdB]
    exact hbad _ (he.trans hc1.symm) (by rw [hc1]; decide)
  have hck : (bq v = 0) = True := eq_true (qm.2 hok)
  refine qaZ zb (Nat.le_of_ble_eq_true rfl) ?_
  simp -implicitDefEqProofs only [cdA, go_sem, Go.Proofs.Tryz.f75, hck, cdN, reduceIte, reduceCtorEq, Nat.reduceEqDiff, Nat.reduceAdd, Nat.reduceLeDiff, Nat.reduceSub, Nat.reduceMul, Nat.reduceLT, Nat.reduceShiftRight, Nat.reduceMod, Int.reduceLE, Int.reduceLT, Int.reduceToNat, List.cons.injEq, cdB]
  refine xdl zb (Nat.le_of_ble_eq_true rfl) ?_
  simp -implicitDefEqProofs only [cdA, go_sem, Go.Proofs.Tryz.f82, reduceIte, reduceCtorEq, Nat.reduceEqDiff, Nat.reduceAdd, Nat.reduceLeDiff, Nat.reduceSub, Nat.reduceMul, Nat.reduceLT, Nat.reduceShiftRight, Nat.reduceMod, Int.reduceLE, Int.reduceLT, Int.reduceToNat, List.cons.injEq, cdB]
  have eI : zj v.i hash v.tick n 2 = bbe v hash n ch := rfl
  rw [eI]
  refine ⟨fun hs0 => ?_, fun hs0 => ?_⟩
  rotate_left 1
  · skip
    refine vW zb (Nat.le_of_ble_eq_true rfl) ?_
    simp -implicitDefEqProofs only [cdA, go_sem, Go.Proofs.Tryz.f53, hs0, cdN, reduceIte, reduceCtorEq, Nat.reduceEqDiff, Nat.reduceAdd, Nat.reduceLeDiff, Nat.reduceSub, Nat.reduceMul, Nat.reduceLT, Nat.reduceShiftRight, Nat.reduceMod, Int.reduceLE, Int.reduceLT, Int.reduceToNat, List.cons.injEq, cdB]
    refine wF zb (Nat.le_of_ble_eq_true rfl) ?_
    simp -implicitDefEqProofs only [cdA, go_sem, Go.Proofs.Tryz.f56, reduceIte, reduceCtorEq, Nat.reduceEqDiff, Nat.reduceAdd, Nat.reduceLeDiff, Nat.reduceSub, Nat.reduceMul, Nat.reduceLT, Nat.reduceShiftRight, Nat.reduceMod, Int.reduceLE, Int.reduceLT, Int.reduceToNat, List.cons.injEq, cdB]
    refine vj zb (Nat.le_of_ble_eq_true rfl) ?_
    simp -implicitDefEqProofs only [cdA, go_sem, Go.Proofs.Tryz.f140, hs0, cdN, reduceIte, reduceCtorEq, Nat.reduceEqDiff, Nat.reduceAdd, Nat.reduceLeDiff, Nat.reduceSub, Nat.reduceMul, Nat.reduceLT, Nat.reduceShiftRight, Nat.reduceMod, Int.reduceLE, Int.reduceLT, Int.reduceToNat, List.cons.injEq, cdB]
    refine js zb (Nat.le_of_ble_eq_true rfl) ?_
    simp -implicitDefEqProofs only [cdA, go_sem, Go.Proofs.Tryz.f47, hs0, cdN, reduceIte, reduceCtorEq, Nat.reduceEqDiff, Nat.reduceAdd, Nat.reduceLeDiff, Nat.reduceSub, Nat.reduceMul, Nat.reduceLT, Nat.reduceShiftRight, Nat.reduceMod, Int.reduceLE, Int.reduceLT, Int.reduceToNat, List.cons.injEq, cdB]
    refine uc.run yf zb qa (by kernel_rfl) (by kernel_rfl) ?_
    simp -implicitDefEqProofs only [cdA, go_sem, hs0, cdN, reduceIte, reduceCtorEq, Nat.reduceEqDiff, Nat.reduceAdd, Nat.reduceLeDiff, Nat.reduceSub, Nat.reduceMul, Nat.reduceLT, Nat.reduceShiftRight, Nat.reduceMod, Int.reduceLE, Int.reduceLT, Int.reduceToNat, List.cons.injEq, cdB]
    exact hbad _ (by rw [uaH, if_neg (fun h => h hok), if_pos hs0]) hs0
  refine vW zb (Nat.le_of_ble_eq_true rfl) ?_
  simp -implicitDefEqProofs only [cdA, go_sem, Go.Proofs.Tryz.f53, hck, cdN, reduceIte, reduceCtorEq, Nat.reduceEqDiff, Nat.reduceAdd, Nat.reduceLeDiff, Nat.reduceSub, Nat.reduceMul, Nat.reduceLT, Nat.reduceShiftRight, Nat.reduceMod, Int.reduceLE, Int.reduceLT, Int.reduceToNat, List.cons.injEq, cdB]
  refine qdi zb (Nat.le_of_ble_eq_true rfl) ?_
  simp -implicitDefEqProofs only [cdA, go_sem, Go.Proofs.Tryz.f84, reduceIte, reduceCtorEq, Nat.reduceEqDiff, Nat.reduceAdd, Nat.reduceLeDiff, Nat.reduceSub, Nat.reduceMul, Nat.reduceLT, Nat.reduceShiftRight, Nat.reduceMod, Int.reduceLE, Int.reduceLT, Int.reduceToNat, List.cons.injEq, cdB]
  have eC : vX v.c ch n = kbe v hash n ch := rfl
  rw [eC]
  refine ⟨fun hs1 => ?_, fun hs1 => ?_⟩
  rotate_left 1
  · skip
    refine wF zb (Nat.le_of_ble_eq_true rfl) ?_
    simp -implicitDefEqProofs only [cdA, go_sem, Go.Proofs.Tryz.f56, reduceIte, reduceCtorEq, Nat.reduceEqDiff, Nat.reduceAdd, Nat.reduceLeDiff, Nat.reduceSub, Nat.reduceMul, Nat.reduceLT, Nat.reduceShiftRight, Nat.reduceMod, Int.reduceLE, Int.reduceLT, Int.reduceToNat, List.cons.injEq, cdB]
    refine vj zb (Nat.le_of_ble_eq_true rfl) ?_
    simp -implicitDefEqProofs only [cdA, go_sem, Go.Proofs.Tryz.f140, hs1, cdN, reduceIte, reduceCtorEq, Nat.reduceEqDiff, Nat.reduceAdd, Nat.reduceLeDiff, Nat.reduceSub, Nat.reduceMul, Nat.reduceLT, Nat.reduceShiftRight, Nat.reduceMod, Int.reduceLE, Int.reduceLT, Int.reduceToNat, List.cons.injEq, cdB]
    refine js zb (Nat.le_of_ble_eq_true rfl) ?_
    simp -implicitDefEqProofs only [cdA, go_sem, Go.Proofs.Tryz.f47, hs1, cdN, reduceIte, reduceCtorEq, Nat.reduceEqDiff, Nat.reduceAdd, Nat.reduceLeDiff, Nat.reduceSub, Nat.reduceMul, Nat.reduceLT, Nat.reduceShiftRight, Nat.reduceMod, Int.reduceLE, Int.reduceLT, Int.reduceToNat, List.cons.injEq, cdB]
    refine uc.run yf zb qa (by kernel_rfl) (by kernel_rfl) ?_
    simp -implicitDefEqProofs only [cdA, go_sem, hs1, cdN, reduceIte, reduceCtorEq, Nat.reduceEqDiff, Nat.reduceAdd, Nat.reduceLeDiff, Nat.reduceSub, Nat.reduceMul, Nat.reduceLT, Nat.reduceShiftRight, Nat.reduceMod, Int.reduceLE, Int.reduceLT, Int.reduceToNat, List.cons.injEq, cdB]
    exact hbad _ (by rw [uaH, if_neg (fun h => h hok), if_neg (fun h => h hs0), if_pos hs1]) hs1
  refine wF zb (Nat.le_of_ble_eq_true rfl) ?_
  simp -implicitDefEqProofs only [cdA, go_sem, Go.Proofs.Tryz.f56, reduceIte, reduceCtorEq, Nat.reduceEqDiff, Nat.reduceAdd, Nat.reduceLeDiff, Nat.reduceSub, Nat.reduceMul, Nat.reduceLT, Nat.reduceShiftRight, Nat.reduceMod, Int.reduceLE, Int.reduceLT, Int.reduceToNat, List.cons.injEq, cdB]
  refine vj zb (Nat.le_of_ble_eq_true rfl) ?_
  simp -implicitDefEqProofs only [cdA, go_sem, Go.Proofs.Tryz.f140, hck, cdN, reduceIte, reduceCtorEq, Nat.reduceEqDiff, Nat.reduceAdd, Nat.reduceLeDiff, Nat.reduceSub, Nat.reduceMul, Nat.reduceLT, Nat.reduceShiftRight, Nat.reduceMod, Int.reduceLE, Int.reduceLT, Int.reduceToNat, List.cons.injEq, cdB]
  refine qan zb (Nat.le_of_ble_eq_true rfl) ?_
  simp -implicitDefEqProofs only [cdA, go_sem, Go.Proofs.Tryz.f141, reduceIte, reduceCtorEq, Nat.reduceEqDiff, Nat.reduceAdd, Nat.reduceLeDiff, Nat.reduceSub, Nat.reduceMul, Nat.reduceLT, Nat.reduceShiftRight, Nat.reduceMod, Int.reduceLE, Int.reduceLT, Int.reduceToNat, List.cons.injEq, cdB]
  have eF : vm v.f 5 hash n = ybw v hash n ch := rfl
  rw [eF]
  refine ⟨h, fun hfd => ?_, fun hfd => ?_⟩
  rotate_left 1
  · skip
    refine js zb (Nat.le_of_ble_eq_true rfl) ?_
    simp -implicitDefEqProofs only [cdA, go_sem, Go.Proofs.Tryz.f47, hfd, cdN, reduceIte, reduceCtorEq, Nat.reduceEqDiff, Nat.reduceAdd, Nat.reduceLeDiff, Nat.reduceSub, Nat.reduceMul, Nat.reduceLT, Nat.reduceShiftRight, Nat.reduceMod, Int.reduceLE, Int.reduceLT, Int.reduceToNat, List.cons.injEq, cdB]
    refine uc.run yf zb qa (by kernel_rfl) (by kernel_rfl) ?_
    simp -implicitDefEqProofs only [cdA, go_sem, hfd, cdN, reduceIte, reduceCtorEq, Nat.reduceEqDiff, Nat.reduceAdd, Nat.reduceLeDiff, Nat.reduceSub, Nat.reduceMul, Nat.reduceLT, Nat.reduceShiftRight, Nat.reduceMod, Int.reduceLE, Int.reduceLT, Int.reduceToNat, List.cons.injEq, cdB]
    exact hbad _ (by rw [uaH, if_neg (fun h => h hok), if_neg (fun h => h hs0), if_neg (fun h => h hs1)]) hfd
  have hsm : qv ⟨(kbe v hash n ch).1, v.w, (bbe v hash n ch).1, v.p, (ybw v hash n ch).1, v.next, v.tick⟩ := by
    have h2 := qo hok
    have h50 := yay hs0
    have h51 := ua6 hs1
    exact ⟨(by have := h51.1; show (kbe v hash n ch).1.length ≤ _; unfold kbe; (try dsimp only); omega), (fun d hd => by have := (h51.2.1 d hd).2.2.1; omega), h2.2.2.1, (by show (bbe v hash n ch).1.length ≤ _; unfold bbe; omega), h2.2.2.2.2.1, (by show (ybw v hash n ch).1.l.length ≤ _; unfold ybw; exact Nat.le_trans qz (by decide))⟩
  have hfin : kG v hash n ch = (⟨(kbe v hash n ch).1, v.w, (bbe v hash n ch).1, v.p, (ybw v hash n ch).1, v.next, v.tick⟩, 0) := by
    have : uaH v hash n ch = 0 := by rw [uaH, if_neg (fun h => h hok), if_neg (fun h => h hs0), if_neg (fun h => h hs1)]; exact hfd
    rw [kG, if_pos this]
  refine js zb (Nat.le_of_ble_eq_true rfl) ?_
  simp -implicitDefEqProofs only [cdA, go_sem, Go.Proofs.Tryz.f47, hck, eq_true hsm, cdN, reduceIte, reduceCtorEq, Nat.reduceEqDiff, Nat.reduceAdd, Nat.reduceLeDiff, Nat.reduceSub, Nat.reduceMul, Nat.reduceLT, Nat.reduceShiftRight, Nat.reduceMod, Int.reduceLE, Int.reduceLT, Int.reduceToNat, List.cons.injEq, cdB]
  rw [hfin]
  exact ⟨⟨rfl, rfl, rfl, rfl, rfl, rfl, rfl, rfl⟩, rfl⟩
@[go_sem] def u0 (v : Wl) (hash : Nat) (n : Nat) (ch : Nat) : Prop := (v.f.next ≤ 18446744073709551615)
def yz : List D → Option (Prop × D × Fr)
  | [.agg [.c (.sl z2), .c (.sl z3), .c (.sl z4), .c (.sl z5), .c (.int .u64 z7), .c (.sl z8), .c (.int .u64 z9), .c (.int .u64 z10)], .c (.int .u64 z11), .c (.int .u64 z12), .c (.int .u64 z13)] => some (z2 = chs (xh z2) ∧ z3 = wts (jj z3) ∧ z4 = ivs (wj z4) ∧ z5 = pys (gj z5) ∧ z7 = (z7.toNat : Int) ∧ z8 = evs (uk z8) ∧ z9 = (z9.toNat : Int) ∧ z10 = (z10.toNat : Int) ∧ z11 = (z11.toNat : Int) ∧ z12 = (z12.toNat : Int) ∧ z13 = (z13.toNat : Int) ∧ u0 (⟨(xh z2), (jj z3), (wj z4), (gj z5), (⟨z7.toNat, (uk z8)⟩ : Fd), z9.toNat, z10.toNat⟩ : Wl) z11.toNat z12.toNat z13.toNat, xY (⟨(xh z2), (jj z3), (wj z4), (gj z5), (⟨z7.toNat, (uk z8)⟩ : Fd), z9.toNat, z10.toNat⟩ : Wl) z11.toNat z12.toNat z13.toNat, [])
  | _ => none
attribute [go_sem] yz
theorem gW : ∀ rs p r fr, yz rs = some (p, r, fr) → p → zg Tryz.prog 26 rs r fr := by
  intro rs p r fr h hp
  unfold yz at h
  split at h <;> cases h
  obtain ⟨hc0, hc1, hc2, hc3, hc4, hc5, hc6, hc7, hc8, hc9, hc10, hp⟩ := hp
  rename_i z2 z3 z4 z5 z7 z8 z9 z10 z11 z12 z13
  obtain ⟨z2, rfl⟩ : ∃ m, z2 = chs m := ⟨_, hc0⟩
  obtain ⟨z3, rfl⟩ : ∃ m, z3 = wts m := ⟨_, hc1⟩
  obtain ⟨z4, rfl⟩ : ∃ m, z4 = ivs m := ⟨_, hc2⟩
  obtain ⟨z5, rfl⟩ : ∃ m, z5 = pys m := ⟨_, hc3⟩
  obtain ⟨z7, rfl⟩ : ∃ m : Nat, z7 = m := ⟨_, hc4⟩
  obtain ⟨z8, rfl⟩ : ∃ m, z8 = evs m := ⟨_, hc5⟩
  obtain ⟨z9, rfl⟩ : ∃ m : Nat, z9 = m := ⟨_, hc6⟩
  obtain ⟨z10, rfl⟩ : ∃ m : Nat, z10 = m := ⟨_, hc7⟩
  obtain ⟨z11, rfl⟩ : ∃ m : Nat, z11 = m := ⟨_, hc8⟩
  obtain ⟨z12, rfl⟩ : ∃ m : Nat, z12 = m := ⟨_, hc9⟩
  obtain ⟨z13, rfl⟩ : ∃ m : Nat, z13 = m := ⟨_, hc10⟩
  simp only [Int.toNat_natCast, xb, vb, qc, jc, qd]
  simp only [Int.toNat_natCast, xb, vb, qc, jc, qd, u0] at hp
  exact jat ⟨z2, z3, z4, z5, ⟨z7, z8⟩, z9, z10⟩ z11 z12 z13 hp
end Dm
namespace Dm
open Go Go.Proofs Go.IntWalk
def vbb (v : Wl) (hash : Nat) : List Iv × Int := zj v.i hash v.tick MM 3
def zbp (v : Wl) (hash : Nat) : Fd × Nat × Int := vm v.f 4 hash 0
def uaO (v : Wl) (hash : Nat) : Int := if ¬ okW v then 1 else if (vbb v hash).2 ≠ 0 then (vbb v hash).2 else (zbp v hash).2.2
def uF (v : Wl) (hash : Nat) : Wl × Int := if uaO v hash = 0 then (⟨v.c, v.w, (vbb v hash).1, v.p, (zbp v hash).1, v.next, v.tick⟩, 0) else (yx, uaO v hash)
@[go_sem] def jan (v : Wl) (hash : Nat) : D := .tup [.agg [.sl (chs (uF v hash).1.c), .sl (wts (uF v hash).1.w), .sl (ivs (uF v hash).1.i), .sl (pys (uF v hash).1.p), .int .u64 (uF v hash).1.f.next, .sl (evs (uF v hash).1.f.l), .int .u64 (uF v hash).1.next, .int .u64 (uF v hash).1.tick], .int .i64 (uF v hash).2]
@[go_sem] abbrev xbZ : FuncId := 24
@[go_sem] def yaS : Tab := [(37, bh), (80, vD), (142, wu), (119, gp)]
theorem yc : ya Tryz.prog yaS := (ya.cons vg (ya.cons jaa (ya.cons gn (ya.cons yj ya.nil))))
set_option maxRecDepth 8000 in
set_option maxHeartbeats 1000000 in
theorem zaH (v : Wl) (hash : Nat) (h : v.f.next ≤ 18446744073709551615) : yb Tryz.prog 24 [.agg [.sl (chs v.c), .sl (wts v.w), .sl (ivs v.i), .sl (pys v.p), .c (.int .u64 (v.f.next : Int)), .sl (evs v.f.l), .c (.int .u64 (v.next : Int)), .c (.int .u64 (v.tick : Int))], .c (.int .u64 (hash : Int))] (jan v hash) := by
  refine .of (zdh yc (Nat.le_of_ble_eq_true rfl) ?_)
  simp -implicitDefEqProofs only [cdA, go_sem, Go.Proofs.Tryz.f24, reduceIte, reduceCtorEq, Nat.reduceEqDiff, Nat.reduceAdd, Nat.reduceLeDiff, Nat.reduceSub, Nat.reduceMul, Nat.reduceLT, Nat.reduceShiftRight, Nat.reduceMod, Int.reduceLE, Int.reduceLT, Int.reduceToNat, List.cons.injEq, cdB]
  refine qaX yc (Nat.le_of_ble_eq_true rfl) ?_
  simp -implicitDefEqProofs only [cdA, go_sem, Go.Proofs.Tryz.f45, reduceIte, reduceCtorEq, Nat.reduceEqDiff, Nat.reduceAdd, Nat.reduceLeDiff, Nat.reduceSub, Nat.reduceMul, Nat.reduceLT, Nat.reduceShiftRight, Nat.reduceMod, Int.reduceLE, Int.reduceLT, Int.reduceToNat, List.cons.injEq, cdB]
  refine uc.run yG yc qa (by kernel_rfl) (by kernel_rfl) ?_
  simp -implicitDefEqProofs only [cdA, go_sem, reduceIte, reduceCtorEq, Nat.reduceEqDiff, Nat.reduceAdd, Nat.reduceLeDiff, Nat.reduceSub, Nat.reduceMul, Nat.reduceLT, Nat.reduceShiftRight, Nat.reduceMod, Int.reduceLE, Int.reduceLT, Int.reduceToNat, List.cons.injEq, cdB]
  refine ⟨h, ?_⟩
  have hbad : ∀ e : Int, uaO v hash = e → ¬ e = 0 → (chs (uF v hash).1.c = [] ∧ wts (uF v hash).1.w = [] ∧ ivs (uF v hash).1.i = [] ∧ pys (uF v hash).1.p = [] ∧ 0 = ((uF v hash).1.f.next : Int) ∧ evs (uF v hash).1.f.l = [] ∧ 0 = ((uF v hash).1.next : Int) ∧ 0 = ((uF v hash).1.tick : Int)) ∧ e = (uF v hash).2 := fun e h1 h2 => by
    have : uF v hash = (yx, e) := by rw [uF, if_neg (by rw [h1]; exact h2), h1]
    rw [this]; exact ⟨⟨rfl, rfl, rfl, rfl, rfl, rfl, rfl, rfl⟩, rfl⟩
  by_cases hok : okW v
  rotate_left 1
  · have hck : (bq v = 0) = False := eq_false fun h => hok (qm.1 h)
    have he : uaO v hash = 1 := by rw [uaO, if_pos hok]
    have hc1 : bq v = 1 := by rw [bq, if_neg hok]
    skip
    refine qaZ yc (Nat.le_of_ble_eq_true rfl) ?_
    simp -implicitDefEqProofs only [cdA, go_sem, Go.Proofs.Tryz.f75, hck, cdN, reduceIte, reduceCtorEq, Nat.reduceEqDiff, Nat.reduceAdd, Nat.reduceLeDiff, Nat.reduceSub, Nat.reduceMul, Nat.reduceLT, Nat.reduceShiftRight, Nat.reduceMod, Int.reduceLE, Int.reduceLT, Int.reduceToNat, List.cons.injEq, cdB]
    refine wF yc (Nat.le_of_ble_eq_true rfl) ?_
    simp -implicitDefEqProofs only [cdA, go_sem, Go.Proofs.Tryz.f56, reduceIte, reduceCtorEq, Nat.reduceEqDiff, Nat.reduceAdd, Nat.reduceLeDiff, Nat.reduceSub, Nat.reduceMul, Nat.reduceLT, Nat.reduceShiftRight, Nat.reduceMod, Int.reduceLE, Int.reduceLT, Int.reduceToNat, List.cons.injEq, cdB]
    refine vj yc (Nat.le_of_ble_eq_true rfl) ?_
    simp -implicitDefEqProofs only [cdA, go_sem, Go.Proofs.Tryz.f140, hck, cdN, reduceIte, reduceCtorEq, Nat.reduceEqDiff, Nat.reduceAdd, Nat.reduceLeDiff, Nat.reduceSub, Nat.reduceMul, Nat.reduceLT, Nat.reduceShiftRight, Nat.reduceMod, Int.reduceLE, Int.reduceLT, Int.reduceToNat, List.cons.injEq, cdB]
    refine js yc (Nat.le_of_ble_eq_true rfl) ?_
    simp -implicitDefEqProofs only [cdA, go_sem, Go.Proofs.Tryz.f47, hck, cdN, reduceIte, reduceCtorEq, Nat.reduceEqDiff, Nat.reduceAdd, Nat.reduceLeDiff, Nat.reduceSub, Nat.reduceMul, Nat.reduceLT, Nat.reduceShiftRight, Nat.reduceMod, Int.reduceLE, Int.reduceLT, Int.reduceToNat, List.cons.injEq, cdB]
    refine uc.run yf yc qa (by kernel_rfl) (by kernel_rfl) ?_
    simp -implicitDefEqProofs only [cdA, go_sem, hck, cdN, reduceIte, reduceCtorEq, Nat.reduceEqDiff, Nat.reduceAdd, Nat.reduceLeDiff, Nat.reduceSub, Nat.reduceMul, Nat.reduceLT, Nat.reduceShiftRight, Nat.reduceMod, Int.reduceLE, Int.reduceLT, Int.reduceToNat, List.cons.injEq, cdB]
    exact hbad _ (he.trans hc1.symm) (by rw [hc1]; decide)
  have hck : (bq v = 0) = True := eq_true (qm.2 hok)
  refine qaZ yc (Nat.le_of_ble_eq_true rfl) ?_
  simp -implicitDefEqProofs only [cdA, go_sem, Go.Proofs.Tryz.f75, hck, cdN, reduceIte, reduceCtorEq, Nat.reduceEqDiff, Nat.reduceAdd, Nat.reduceLeDiff, Nat.reduceSub, Nat.reduceMul, Nat.reduceLT, Nat.reduceShiftRight, Nat.reduceMod, Int.reduceLE, Int.reduceLT, Int.reduceToNat, List.cons.injEq, cdB]
  refine qdf yc (Nat.le_of_ble_eq_true rfl) ?_
  simp -implicitDefEqProofs only [cdA, go_sem, Go.Proofs.Tryz.f79, reduceIte, reduceCtorEq, Nat.reduceEqDiff, Nat.reduceAdd, Nat.reduceLeDiff, Nat.reduceSub, Nat.reduceMul, Nat.reduceLT, Nat.reduceShiftRight, Nat.reduceMod, Int.reduceLE, Int.reduceLT, Int.reduceToNat, List.cons.injEq, cdB]
  have eI : zj v.i hash v.tick MM 3 = vbb v hash := rfl
  rw [eI]
  refine ⟨fun hs0 => ?_, fun hs0 => ?_⟩
  rotate_left 1
  · skip
    refine wF yc (Nat.le_of_ble_eq_true rfl) ?_
    simp -implicitDefEqProofs only [cdA, go_sem, Go.Proofs.Tryz.f56, reduceIte, reduceCtorEq, Nat.reduceEqDiff, Nat.reduceAdd, Nat.reduceLeDiff, Nat.reduceSub, Nat.reduceMul, Nat.reduceLT, Nat.reduceShiftRight, Nat.reduceMod, Int.reduceLE, Int.reduceLT, Int.reduceToNat, List.cons.injEq, cdB]
    refine vj yc (Nat.le_of_ble_eq_true rfl) ?_
    simp -implicitDefEqProofs only [cdA, go_sem, Go.Proofs.Tryz.f140, hs0, cdN, reduceIte, reduceCtorEq, Nat.reduceEqDiff, Nat.reduceAdd, Nat.reduceLeDiff, Nat.reduceSub, Nat.reduceMul, Nat.reduceLT, Nat.reduceShiftRight, Nat.reduceMod, Int.reduceLE, Int.reduceLT, Int.reduceToNat, List.cons.injEq, cdB]
    refine js yc (Nat.le_of_ble_eq_true rfl) ?_
    simp -implicitDefEqProofs only [cdA, go_sem, Go.Proofs.Tryz.f47, hs0, cdN, reduceIte, reduceCtorEq, Nat.reduceEqDiff, Nat.reduceAdd, Nat.reduceLeDiff, Nat.reduceSub, Nat.reduceMul, Nat.reduceLT, Nat.reduceShiftRight, Nat.reduceMod, Int.reduceLE, Int.reduceLT, Int.reduceToNat, List.cons.injEq, cdB]
    refine uc.run yf yc qa (by kernel_rfl) (by kernel_rfl) ?_
    simp -implicitDefEqProofs only [cdA, go_sem, hs0, cdN, reduceIte, reduceCtorEq, Nat.reduceEqDiff, Nat.reduceAdd, Nat.reduceLeDiff, Nat.reduceSub, Nat.reduceMul, Nat.reduceLT, Nat.reduceShiftRight, Nat.reduceMod, Int.reduceLE, Int.reduceLT, Int.reduceToNat, List.cons.injEq, cdB]
    exact hbad _ (by rw [uaO, if_neg (fun h => h hok), if_pos hs0]) hs0
  refine wF yc (Nat.le_of_ble_eq_true rfl) ?_
  simp -implicitDefEqProofs only [cdA, go_sem, Go.Proofs.Tryz.f56, reduceIte, reduceCtorEq, Nat.reduceEqDiff, Nat.reduceAdd, Nat.reduceLeDiff, Nat.reduceSub, Nat.reduceMul, Nat.reduceLT, Nat.reduceShiftRight, Nat.reduceMod, Int.reduceLE, Int.reduceLT, Int.reduceToNat, List.cons.injEq, cdB]
  refine vj yc (Nat.le_of_ble_eq_true rfl) ?_
  simp -implicitDefEqProofs only [cdA, go_sem, Go.Proofs.Tryz.f140, hck, cdN, reduceIte, reduceCtorEq, Nat.reduceEqDiff, Nat.reduceAdd, Nat.reduceLeDiff, Nat.reduceSub, Nat.reduceMul, Nat.reduceLT, Nat.reduceShiftRight, Nat.reduceMod, Int.reduceLE, Int.reduceLT, Int.reduceToNat, List.cons.injEq, cdB]
  refine qan yc (Nat.le_of_ble_eq_true rfl) ?_
  simp -implicitDefEqProofs only [cdA, go_sem, Go.Proofs.Tryz.f141, reduceIte, reduceCtorEq, Nat.reduceEqDiff, Nat.reduceAdd, Nat.reduceLeDiff, Nat.reduceSub, Nat.reduceMul, Nat.reduceLT, Nat.reduceShiftRight, Nat.reduceMod, Int.reduceLE, Int.reduceLT, Int.reduceToNat, List.cons.injEq, cdB]
  have eF : vm v.f 4 hash 0 = zbp v hash := rfl
  rw [eF]
  refine ⟨h, fun hfd => ?_, fun hfd => ?_⟩
  rotate_left 1
  · skip
    refine js yc (Nat.le_of_ble_eq_true rfl) ?_
    simp -implicitDefEqProofs only [cdA, go_sem, Go.Proofs.Tryz.f47, hfd, cdN, reduceIte, reduceCtorEq, Nat.reduceEqDiff, Nat.reduceAdd, Nat.reduceLeDiff, Nat.reduceSub, Nat.reduceMul, Nat.reduceLT, Nat.reduceShiftRight, Nat.reduceMod, Int.reduceLE, Int.reduceLT, Int.reduceToNat, List.cons.injEq, cdB]
    refine uc.run yf yc qa (by kernel_rfl) (by kernel_rfl) ?_
    simp -implicitDefEqProofs only [cdA, go_sem, hfd, cdN, reduceIte, reduceCtorEq, Nat.reduceEqDiff, Nat.reduceAdd, Nat.reduceLeDiff, Nat.reduceSub, Nat.reduceMul, Nat.reduceLT, Nat.reduceShiftRight, Nat.reduceMod, Int.reduceLE, Int.reduceLT, Int.reduceToNat, List.cons.injEq, cdB]
    exact hbad _ (by rw [uaO, if_neg (fun h => h hok), if_neg (fun h => h hs0)]) hfd
  have hsm : qv ⟨v.c, v.w, (vbb v hash).1, v.p, (zbp v hash).1, v.next, v.tick⟩ := by
    have h2 := qo hok
    have h50 := yay hs0
    exact ⟨h2.1, h2.2.1, h2.2.2.1, (by show (vbb v hash).1.length ≤ _; unfold vbb; omega), h2.2.2.2.2.1, (by show (zbp v hash).1.l.length ≤ _; unfold zbp; exact Nat.le_trans qz (by decide))⟩
  have hfin : uF v hash = (⟨v.c, v.w, (vbb v hash).1, v.p, (zbp v hash).1, v.next, v.tick⟩, 0) := by
    have : uaO v hash = 0 := by rw [uaO, if_neg (fun h => h hok), if_neg (fun h => h hs0)]; exact hfd
    rw [uF, if_pos this]
  refine js yc (Nat.le_of_ble_eq_true rfl) ?_
  simp -implicitDefEqProofs only [cdA, go_sem, Go.Proofs.Tryz.f47, hck, eq_true hsm, cdN, reduceIte, reduceCtorEq, Nat.reduceEqDiff, Nat.reduceAdd, Nat.reduceLeDiff, Nat.reduceSub, Nat.reduceMul, Nat.reduceLT, Nat.reduceShiftRight, Nat.reduceMod, Int.reduceLE, Int.reduceLT, Int.reduceToNat, List.cons.injEq, cdB]
  rw [hfin]
  exact ⟨⟨rfl, rfl, rfl, rfl, rfl, rfl, rfl, rfl⟩, rfl⟩
@[go_sem] def uag (v : Wl) (hash : Nat) : Prop := (v.f.next ≤ 18446744073709551615)
def yE : List D → Option (Prop × D × Fr)
  | [.agg [.c (.sl z2), .c (.sl z3), .c (.sl z4), .c (.sl z5), .c (.int .u64 z7), .c (.sl z8), .c (.int .u64 z9), .c (.int .u64 z10)], .c (.int .u64 z11)] => some (z2 = chs (xh z2) ∧ z3 = wts (jj z3) ∧ z4 = ivs (wj z4) ∧ z5 = pys (gj z5) ∧ z7 = (z7.toNat : Int) ∧ z8 = evs (uk z8) ∧ z9 = (z9.toNat : Int) ∧ z10 = (z10.toNat : Int) ∧ z11 = (z11.toNat : Int) ∧ uag (⟨(xh z2), (jj z3), (wj z4), (gj z5), (⟨z7.toNat, (uk z8)⟩ : Fd), z9.toNat, z10.toNat⟩ : Wl) z11.toNat, jan (⟨(xh z2), (jj z3), (wj z4), (gj z5), (⟨z7.toNat, (uk z8)⟩ : Fd), z9.toNat, z10.toNat⟩ : Wl) z11.toNat, [])
  | _ => none
attribute [go_sem] yE
theorem uaa : ∀ rs p r fr, yE rs = some (p, r, fr) → p → zg Tryz.prog 24 rs r fr := by
  intro rs p r fr h hp
  unfold yE at h
  split at h <;> cases h
  obtain ⟨hc0, hc1, hc2, hc3, hc4, hc5, hc6, hc7, hc8, hp⟩ := hp
  rename_i z2 z3 z4 z5 z7 z8 z9 z10 z11
  obtain ⟨z2, rfl⟩ : ∃ m, z2 = chs m := ⟨_, hc0⟩
  obtain ⟨z3, rfl⟩ : ∃ m, z3 = wts m := ⟨_, hc1⟩
  obtain ⟨z4, rfl⟩ : ∃ m, z4 = ivs m := ⟨_, hc2⟩
  obtain ⟨z5, rfl⟩ : ∃ m, z5 = pys m := ⟨_, hc3⟩
  obtain ⟨z7, rfl⟩ : ∃ m : Nat, z7 = m := ⟨_, hc4⟩
  obtain ⟨z8, rfl⟩ : ∃ m, z8 = evs m := ⟨_, hc5⟩
  obtain ⟨z9, rfl⟩ : ∃ m : Nat, z9 = m := ⟨_, hc6⟩
  obtain ⟨z10, rfl⟩ : ∃ m : Nat, z10 = m := ⟨_, hc7⟩
  obtain ⟨z11, rfl⟩ : ∃ m : Nat, z11 = m := ⟨_, hc8⟩
  simp only [Int.toNat_natCast, xb, vb, qc, jc, qd]
  simp only [Int.toNat_natCast, xb, vb, qc, jc, qd, uag] at hp
  exact zaH ⟨z2, z3, z4, z5, ⟨z7, z8⟩, z9, z10⟩ z11 hp
end Dm
namespace Dm
open Go Go.Proofs Go.IntWalk
def xbe (v : Wl) (ch : Nat) : List Ch × Int := y5 v.c ch
def gbo (v : Wl) (ch : Nat) : Fd × Nat × Int := vm v.f 7 ch 0
def jaL (v : Wl) (ch : Nat) : Int := if ¬ okW v then 1 else if (xbe v ch).2 ≠ 0 then (xbe v ch).2 else (gbo v ch).2.2
def qG (v : Wl) (ch : Nat) : Wl × Int := if jaL v ch = 0 then (⟨(xbe v ch).1, v.w, v.i, v.p, (gbo v ch).1, v.next, v.tick⟩, 0) else (yx, jaL v ch)
@[go_sem] def kay (v : Wl) (ch : Nat) : D := .tup [.agg [.sl (chs (qG v ch).1.c), .sl (wts (qG v ch).1.w), .sl (ivs (qG v ch).1.i), .sl (pys (qG v ch).1.p), .int .u64 (qG v ch).1.f.next, .sl (evs (qG v ch).1.f.l), .int .u64 (qG v ch).1.next, .int .u64 (qG v ch).1.tick], .int .i64 (qG v ch).2]
@[go_sem] abbrev xco : FuncId := 32
@[go_sem] def ga4 : Tab := [(37, bh), (97, wH), (142, wu), (119, gp)]
theorem jd : ya Tryz.prog ga4 := (ya.cons vg (ya.cons xam (ya.cons gn (ya.cons yj ya.nil))))
set_option maxRecDepth 8000 in
set_option maxHeartbeats 1000000 in
theorem uaW (v : Wl) (ch : Nat) (h : v.f.next ≤ 18446744073709551615) : yb Tryz.prog 32 [.agg [.sl (chs v.c), .sl (wts v.w), .sl (ivs v.i), .sl (pys v.p), .c (.int .u64 (v.f.next : Int)), .sl (evs v.f.l), .c (.int .u64 (v.next : Int)), .c (.int .u64 (v.tick : Int))], .c (.int .u64 (ch : Int))] (kay v ch) := by
  refine .of (udh jd (Nat.le_of_ble_eq_true rfl) ?_)
  simp -implicitDefEqProofs only [cdA, go_sem, Go.Proofs.Tryz.f32, reduceIte, reduceCtorEq, Nat.reduceEqDiff, Nat.reduceAdd, Nat.reduceLeDiff, Nat.reduceSub, Nat.reduceMul, Nat.reduceLT, Nat.reduceShiftRight, Nat.reduceMod, Int.reduceLE, Int.reduceLT, Int.reduceToNat, List.cons.injEq, cdB]
  refine qaX jd (Nat.le_of_ble_eq_true rfl) ?_
  simp -implicitDefEqProofs only [cdA, go_sem, Go.Proofs.Tryz.f45, reduceIte, reduceCtorEq, Nat.reduceEqDiff, Nat.reduceAdd, Nat.reduceLeDiff, Nat.reduceSub, Nat.reduceMul, Nat.reduceLT, Nat.reduceShiftRight, Nat.reduceMod, Int.reduceLE, Int.reduceLT, Int.reduceToNat, List.cons.injEq, cdB]
  refine uc.run yG jd qa (by kernel_rfl) (by kernel_rfl) ?_
  simp -implicitDefEqProofs only [cdA, go_sem, reduceIte, reduceCtorEq, Nat.reduceEqDiff, Nat.reduceAdd, Nat.reduceLeDiff, Nat.reduceSub, Nat.reduceMul, Nat.reduceLT, Nat.reduceShiftRight, Nat.reduceMod, Int.reduceLE, Int.reduceLT, Int.reduceToNat, List.cons.injEq, cdB]
  refine ⟨h, ?_⟩
  have hbad : ∀ e : Int, jaL v ch = e → ¬ e = 0 → (chs (qG v ch).1.c = [] ∧ wts (qG v ch).1.w = [] ∧ ivs (qG v ch).1.i = [] ∧ pys (qG v ch).1.p = [] ∧ 0 = ((qG v ch).1.f.next : Int) ∧ evs (qG v ch).1.f.l = [] ∧ 0 = ((qG v ch).1.next : Int) ∧ 0 = ((qG v ch).1.tick : Int)) ∧ e = (qG v ch).2 := fun e h1 h2 => by
    have : qG v ch = (yx, e) := by rw [qG, if_neg (by rw [h1]; exact h2), h1]
    rw [this]; exact ⟨⟨rfl, rfl, rfl, rfl, rfl, rfl, rfl, rfl⟩, rfl⟩
  by_cases hok : okW v
  rotate_left 1
  · have hck : (bq v = 0) = False := eq_false fun h => hok (qm.1 h)
    have he : jaL v ch = 1 := by rw [jaL, if_pos hok]
    have hc1 : bq v = 1 := by rw [bq, if_neg hok]
    skip
    refine vW jd (Nat.le_of_ble_eq_true rfl) ?_
    simp -implicitDefEqProofs only [cdA, go_sem, Go.Proofs.Tryz.f53, hck, cdN, reduceIte, reduceCtorEq, Nat.reduceEqDiff, Nat.reduceAdd, Nat.reduceLeDiff, Nat.reduceSub, Nat.reduceMul, Nat.reduceLT, Nat.reduceShiftRight, Nat.reduceMod, Int.reduceLE, Int.reduceLT, Int.reduceToNat, List.cons.injEq, cdB]
    refine wF jd (Nat.le_of_ble_eq_true rfl) ?_
    simp -implicitDefEqProofs only [cdA, go_sem, Go.Proofs.Tryz.f56, reduceIte, reduceCtorEq, Nat.reduceEqDiff, Nat.reduceAdd, Nat.reduceLeDiff, Nat.reduceSub, Nat.reduceMul, Nat.reduceLT, Nat.reduceShiftRight, Nat.reduceMod, Int.reduceLE, Int.reduceLT, Int.reduceToNat, List.cons.injEq, cdB]
    refine vj jd (Nat.le_of_ble_eq_true rfl) ?_
    simp -implicitDefEqProofs only [cdA, go_sem, Go.Proofs.Tryz.f140, hck, cdN, reduceIte, reduceCtorEq, Nat.reduceEqDiff, Nat.reduceAdd, Nat.reduceLeDiff, Nat.reduceSub, Nat.reduceMul, Nat.reduceLT, Nat.reduceShiftRight, Nat.reduceMod, Int.reduceLE, Int.reduceLT, Int.reduceToNat, List.cons.injEq, cdB]
    refine js jd (Nat.le_of_ble_eq_true rfl) ?_
    simp -implicitDefEqProofs only [cdA, go_sem, Go.Proofs.Tryz.f47, hck, cdN, reduceIte, reduceCtorEq, Nat.reduceEqDiff, Nat.reduceAdd, Nat.reduceLeDiff, Nat.reduceSub, Nat.reduceMul, Nat.reduceLT, Nat.reduceShiftRight, Nat.reduceMod, Int.reduceLE, Int.reduceLT, Int.reduceToNat, List.cons.injEq, cdB]
    refine uc.run yf jd qa (by kernel_rfl) (by kernel_rfl) ?_
    simp -implicitDefEqProofs only [cdA, go_sem, hck, cdN, reduceIte, reduceCtorEq, Nat.reduceEqDiff, Nat.reduceAdd, Nat.reduceLeDiff, Nat.reduceSub, Nat.reduceMul, Nat.reduceLT, Nat.reduceShiftRight, Nat.reduceMod, Int.reduceLE, Int.reduceLT, Int.reduceToNat, List.cons.injEq, cdB]
    exact hbad _ (he.trans hc1.symm) (by rw [hc1]; decide)
  have hck : (bq v = 0) = True := eq_true (qm.2 hok)
  refine vW jd (Nat.le_of_ble_eq_true rfl) ?_
  simp -implicitDefEqProofs only [cdA, go_sem, Go.Proofs.Tryz.f53, hck, cdN, reduceIte, reduceCtorEq, Nat.reduceEqDiff, Nat.reduceAdd, Nat.reduceLeDiff, Nat.reduceSub, Nat.reduceMul, Nat.reduceLT, Nat.reduceShiftRight, Nat.reduceMod, Int.reduceLE, Int.reduceLT, Int.reduceToNat, List.cons.injEq, cdB]
  refine jdl jd (Nat.le_of_ble_eq_true rfl) ?_
  simp -implicitDefEqProofs only [cdA, go_sem, Go.Proofs.Tryz.f96, reduceIte, reduceCtorEq, Nat.reduceEqDiff, Nat.reduceAdd, Nat.reduceLeDiff, Nat.reduceSub, Nat.reduceMul, Nat.reduceLT, Nat.reduceShiftRight, Nat.reduceMod, Int.reduceLE, Int.reduceLT, Int.reduceToNat, List.cons.injEq, cdB]
  have eC : y5 v.c ch = xbe v ch := rfl
  rw [eC]
  refine ⟨fun hs0 => ?_, fun hs0 => ?_⟩
  rotate_left 1
  · skip
    refine wF jd (Nat.le_of_ble_eq_true rfl) ?_
    simp -implicitDefEqProofs only [cdA, go_sem, Go.Proofs.Tryz.f56, reduceIte, reduceCtorEq, Nat.reduceEqDiff, Nat.reduceAdd, Nat.reduceLeDiff, Nat.reduceSub, Nat.reduceMul, Nat.reduceLT, Nat.reduceShiftRight, Nat.reduceMod, Int.reduceLE, Int.reduceLT, Int.reduceToNat, List.cons.injEq, cdB]
    refine vj jd (Nat.le_of_ble_eq_true rfl) ?_
    simp -implicitDefEqProofs only [cdA, go_sem, Go.Proofs.Tryz.f140, hs0, cdN, reduceIte, reduceCtorEq, Nat.reduceEqDiff, Nat.reduceAdd, Nat.reduceLeDiff, Nat.reduceSub, Nat.reduceMul, Nat.reduceLT, Nat.reduceShiftRight, Nat.reduceMod, Int.reduceLE, Int.reduceLT, Int.reduceToNat, List.cons.injEq, cdB]
    refine js jd (Nat.le_of_ble_eq_true rfl) ?_
    simp -implicitDefEqProofs only [cdA, go_sem, Go.Proofs.Tryz.f47, hs0, cdN, reduceIte, reduceCtorEq, Nat.reduceEqDiff, Nat.reduceAdd, Nat.reduceLeDiff, Nat.reduceSub, Nat.reduceMul, Nat.reduceLT, Nat.reduceShiftRight, Nat.reduceMod, Int.reduceLE, Int.reduceLT, Int.reduceToNat, List.cons.injEq, cdB]
    refine uc.run yf jd qa (by kernel_rfl) (by kernel_rfl) ?_
    simp -implicitDefEqProofs only [cdA, go_sem, hs0, cdN, reduceIte, reduceCtorEq, Nat.reduceEqDiff, Nat.reduceAdd, Nat.reduceLeDiff, Nat.reduceSub, Nat.reduceMul, Nat.reduceLT, Nat.reduceShiftRight, Nat.reduceMod, Int.reduceLE, Int.reduceLT, Int.reduceToNat, List.cons.injEq, cdB]
    exact hbad _ (by rw [jaL, if_neg (fun h => h hok), if_pos hs0]) hs0
  refine wF jd (Nat.le_of_ble_eq_true rfl) ?_
  simp -implicitDefEqProofs only [cdA, go_sem, Go.Proofs.Tryz.f56, reduceIte, reduceCtorEq, Nat.reduceEqDiff, Nat.reduceAdd, Nat.reduceLeDiff, Nat.reduceSub, Nat.reduceMul, Nat.reduceLT, Nat.reduceShiftRight, Nat.reduceMod, Int.reduceLE, Int.reduceLT, Int.reduceToNat, List.cons.injEq, cdB]
  refine vj jd (Nat.le_of_ble_eq_true rfl) ?_
  simp -implicitDefEqProofs only [cdA, go_sem, Go.Proofs.Tryz.f140, hck, cdN, reduceIte, reduceCtorEq, Nat.reduceEqDiff, Nat.reduceAdd, Nat.reduceLeDiff, Nat.reduceSub, Nat.reduceMul, Nat.reduceLT, Nat.reduceShiftRight, Nat.reduceMod, Int.reduceLE, Int.reduceLT, Int.reduceToNat, List.cons.injEq, cdB]
  refine qan jd (Nat.le_of_ble_eq_true rfl) ?_
  simp -implicitDefEqProofs only [cdA, go_sem, Go.Proofs.Tryz.f141, reduceIte, reduceCtorEq, Nat.reduceEqDiff, Nat.reduceAdd, Nat.reduceLeDiff, Nat.reduceSub, Nat.reduceMul, Nat.reduceLT, Nat.reduceShiftRight, Nat.reduceMod, Int.reduceLE, Int.reduceLT, Int.reduceToNat, List.cons.injEq, cdB]
  have eF : vm v.f 7 ch 0 = gbo v ch := rfl
  rw [eF]
  refine ⟨h, fun hfd => ?_, fun hfd => ?_⟩
  rotate_left 1
  · skip
    refine js jd (Nat.le_of_ble_eq_true rfl) ?_
    simp -implicitDefEqProofs only [cdA, go_sem, Go.Proofs.Tryz.f47, hfd, cdN, reduceIte, reduceCtorEq, Nat.reduceEqDiff, Nat.reduceAdd, Nat.reduceLeDiff, Nat.reduceSub, Nat.reduceMul, Nat.reduceLT, Nat.reduceShiftRight, Nat.reduceMod, Int.reduceLE, Int.reduceLT, Int.reduceToNat, List.cons.injEq, cdB]
    refine uc.run yf jd qa (by kernel_rfl) (by kernel_rfl) ?_
    simp -implicitDefEqProofs only [cdA, go_sem, hfd, cdN, reduceIte, reduceCtorEq, Nat.reduceEqDiff, Nat.reduceAdd, Nat.reduceLeDiff, Nat.reduceSub, Nat.reduceMul, Nat.reduceLT, Nat.reduceShiftRight, Nat.reduceMod, Int.reduceLE, Int.reduceLT, Int.reduceToNat, List.cons.injEq, cdB]
    exact hbad _ (by rw [jaL, if_neg (fun h => h hok), if_neg (fun h => h hs0)]) hfd
  have hsm : qv ⟨(xbe v ch).1, v.w, v.i, v.p, (gbo v ch).1, v.next, v.tick⟩ := by
    have h2 := qo hok
    have h50 := uaX hs0
    exact ⟨(by have := h50.1; show (xbe v ch).1.length ≤ _; unfold xbe; (try dsimp only); omega), (fun d hd => by have := (h50.2.1 d hd).2.2.1; omega), h2.2.2.1, h2.2.2.2.1, h2.2.2.2.2.1, (by show (gbo v ch).1.l.length ≤ _; unfold gbo; exact Nat.le_trans qz (by decide))⟩
  have hfin : qG v ch = (⟨(xbe v ch).1, v.w, v.i, v.p, (gbo v ch).1, v.next, v.tick⟩, 0) := by
    have : jaL v ch = 0 := by rw [jaL, if_neg (fun h => h hok), if_neg (fun h => h hs0)]; exact hfd
    rw [qG, if_pos this]
  refine js jd (Nat.le_of_ble_eq_true rfl) ?_
  simp -implicitDefEqProofs only [cdA, go_sem, Go.Proofs.Tryz.f47, hck, eq_true hsm, cdN, reduceIte, reduceCtorEq, Nat.reduceEqDiff, Nat.reduceAdd, Nat.reduceLeDiff, Nat.reduceSub, Nat.reduceMul, Nat.reduceLT, Nat.reduceShiftRight, Nat.reduceMod, Int.reduceLE, Int.reduceLT, Int.reduceToNat, List.cons.injEq, cdB]
  rw [hfin]
  exact ⟨⟨rfl, rfl, rfl, rfl, rfl, rfl, rfl, rfl⟩, rfl⟩
@[go_sem] def jaA (v : Wl) (ch : Nat) : Prop := (v.f.next ≤ 18446744073709551615)
def kI : List D → Option (Prop × D × Fr)
  | [.agg [.c (.sl z2), .c (.sl z3), .c (.sl z4), .c (.sl z5), .c (.int .u64 z7), .c (.sl z8), .c (.int .u64 z9), .c (.int .u64 z10)], .c (.int .u64 z11)] => some (z2 = chs (xh z2) ∧ z3 = wts (jj z3) ∧ z4 = ivs (wj z4) ∧ z5 = pys (gj z5) ∧ z7 = (z7.toNat : Int) ∧ z8 = evs (uk z8) ∧ z9 = (z9.toNat : Int) ∧ z10 = (z10.toNat : Int) ∧ z11 = (z11.toNat : Int) ∧ jaA (⟨(xh z2), (jj z3), (wj z4), (gj z5), (⟨z7.toNat, (uk z8)⟩ : Fd), z9.toNat, z10.toNat⟩ : Wl) z11.toNat, kay (⟨(xh z2), (jj z3), (wj z4), (gj z5), (⟨z7.toNat, (uk z8)⟩ : Fd), z9.toNat, z10.toNat⟩ : Wl) z11.toNat, [])
  | _ => none
attribute [go_sem] kI
theorem ual : ∀ rs p r fr, kI rs = some (p, r, fr) → p → zg Tryz.prog 32 rs r fr := by
  intro rs p r fr h hp
  unfold kI at h
  split at h <;> cases h
  obtain ⟨hc0, hc1, hc2, hc3, hc4, hc5, hc6, hc7, hc8, hp⟩ := hp
  rename_i z2 z3 z4 z5 z7 z8 z9 z10 z11
  obtain ⟨z2, rfl⟩ : ∃ m, z2 = chs m := ⟨_, hc0⟩
  obtain ⟨z3, rfl⟩ : ∃ m, z3 = wts m := ⟨_, hc1⟩
  obtain ⟨z4, rfl⟩ : ∃ m, z4 = ivs m := ⟨_, hc2⟩
  obtain ⟨z5, rfl⟩ : ∃ m, z5 = pys m := ⟨_, hc3⟩
  obtain ⟨z7, rfl⟩ : ∃ m : Nat, z7 = m := ⟨_, hc4⟩
  obtain ⟨z8, rfl⟩ : ∃ m, z8 = evs m := ⟨_, hc5⟩
  obtain ⟨z9, rfl⟩ : ∃ m : Nat, z9 = m := ⟨_, hc6⟩
  obtain ⟨z10, rfl⟩ : ∃ m : Nat, z10 = m := ⟨_, hc7⟩
  obtain ⟨z11, rfl⟩ : ∃ m : Nat, z11 = m := ⟨_, hc8⟩
  simp only [Int.toNat_natCast, xb, vb, qc, jc, qd]
  simp only [Int.toNat_natCast, xb, vb, qc, jc, qd, jaA] at hp
  exact uaW ⟨z2, z3, z4, z5, ⟨z7, z8⟩, z9, z10⟩ z11 hp
end Dm
namespace Dm
open Go Go.Proofs Go.IntWalk
theorem bbx : ((13 : Int) = 0) = False := eq_false (by decide)
def kaZ (v : Wl) (t : Nat) : Int := if ¬ okW v then 1 else if t < v.tick then 13 else 0
def zH (v : Wl) (t : Nat) : Wl × Int := if kaZ v t = 0 then ({ v with i := (xl v.i t).1, tick := t }, 0) else (yx, kaZ v t)
@[go_sem] def zax (v : Wl) (t : Nat) : D := .tup [.agg [.sl (chs (zH v t).1.c), .sl (wts (zH v t).1.w), .sl (ivs (zH v t).1.i), .sl (pys (zH v t).1.p), .int .u64 (zH v t).1.f.next, .sl (evs (zH v t).1.f.l), .int .u64 (zH v t).1.next, .int .u64 (zH v t).1.tick], .int .i64 (zH v t).2]
@[go_sem] abbrev zb8 : FuncId := 35
@[go_sem] def va9 : Tab := [(37, bh), (100, zI), (119, gp)]
theorem we : ya Tryz.prog va9 := (ya.cons vg (ya.cons jam (ya.cons yj ya.nil)))
set_option maxRecDepth 8000 in
set_option maxHeartbeats 1000000 in
theorem vaW (v : Wl) (t : Nat) (h : v.f.next ≤ 18446744073709551615) : yb Tryz.prog 35 [.agg [.sl (chs v.c), .sl (wts v.w), .sl (ivs v.i), .sl (pys v.p), .c (.int .u64 (v.f.next : Int)), .sl (evs v.f.l), .c (.int .u64 (v.next : Int)), .c (.int .u64 (v.tick : Int))], .c (.int .u64 (t : Int))] (zax v t) := by
  refine .of (vdf we (Nat.le_of_ble_eq_true rfl) ?_)
  simp -implicitDefEqProofs only [cdA, go_sem, Go.Proofs.Tryz.f35, reduceIte, reduceCtorEq, Nat.reduceEqDiff, Nat.reduceAdd, Nat.reduceLeDiff, Nat.reduceSub, Nat.reduceMul, Nat.reduceLT, Nat.reduceShiftRight, Nat.reduceMod, Int.reduceLE, Int.reduceLT, Int.reduceToNat, List.cons.injEq, cdB]
  refine qaX we (Nat.le_of_ble_eq_true rfl) ?_
  simp -implicitDefEqProofs only [cdA, go_sem, Go.Proofs.Tryz.f45, reduceIte, reduceCtorEq, Nat.reduceEqDiff, Nat.reduceAdd, Nat.reduceLeDiff, Nat.reduceSub, Nat.reduceMul, Nat.reduceLT, Nat.reduceShiftRight, Nat.reduceMod, Int.reduceLE, Int.reduceLT, Int.reduceToNat, List.cons.injEq, cdB]
  refine uc.run yG we qa (by kernel_rfl) (by kernel_rfl) ?_
  simp -implicitDefEqProofs only [cdA, go_sem, reduceIte, reduceCtorEq, Nat.reduceEqDiff, Nat.reduceAdd, Nat.reduceLeDiff, Nat.reduceSub, Nat.reduceMul, Nat.reduceLT, Nat.reduceShiftRight, Nat.reduceMod, Int.reduceLE, Int.reduceLT, Int.reduceToNat, List.cons.injEq, cdB]
  refine ⟨h, ?_⟩
  have hbad : ∀ e : Int, kaZ v t = e → ¬ e = 0 → (chs (zH v t).1.c = [] ∧ wts (zH v t).1.w = [] ∧ ivs (zH v t).1.i = [] ∧ pys (zH v t).1.p = [] ∧ 0 = ((zH v t).1.f.next : Int) ∧ evs (zH v t).1.f.l = [] ∧ 0 = ((zH v t).1.next : Int) ∧ 0 = ((zH v t).1.tick : Int)) ∧ e = (zH v t).2 := fun e h1 h2 => by
    have : zH v t = (yx, e) := by rw [zH, if_neg (by rw [h1]; exact h2), h1]
    rw [this]; exact ⟨⟨rfl, rfl, rfl, rfl, rfl, rfl, rfl, rfl⟩, rfl⟩
  by_cases hok : okW v
  rotate_left 1
  · have hc1 : bq v = 1 := by rw [bq, if_neg hok]
    rw [hc1]
    refine kR we (Nat.le_of_ble_eq_true rfl) ?_
    simp -implicitDefEqProofs only [cdA, go_sem, Go.Proofs.Tryz.f46, zT, cdN, reduceIte, reduceCtorEq, Nat.reduceEqDiff, Nat.reduceAdd, Nat.reduceLeDiff, Nat.reduceSub, Nat.reduceMul, Nat.reduceLT, Nat.reduceShiftRight, Nat.reduceMod, Int.reduceLE, Int.reduceLT, Int.reduceToNat, List.cons.injEq, cdB]
    refine qaZ we (Nat.le_of_ble_eq_true rfl) ?_
    simp -implicitDefEqProofs only [cdA, go_sem, Go.Proofs.Tryz.f75, zT, cdN, reduceIte, reduceCtorEq, Nat.reduceEqDiff, Nat.reduceAdd, Nat.reduceLeDiff, Nat.reduceSub, Nat.reduceMul, Nat.reduceLT, Nat.reduceShiftRight, Nat.reduceMod, Int.reduceLE, Int.reduceLT, Int.reduceToNat, List.cons.injEq, cdB]
    refine js we (Nat.le_of_ble_eq_true rfl) ?_
    simp -implicitDefEqProofs only [cdA, go_sem, Go.Proofs.Tryz.f47, zT, cdN, reduceIte, reduceCtorEq, Nat.reduceEqDiff, Nat.reduceAdd, Nat.reduceLeDiff, Nat.reduceSub, Nat.reduceMul, Nat.reduceLT, Nat.reduceShiftRight, Nat.reduceMod, Int.reduceLE, Int.reduceLT, Int.reduceToNat, List.cons.injEq, cdB]
    refine uc.run yf we qa (by kernel_rfl) (by kernel_rfl) ?_
    simp -implicitDefEqProofs only [cdA, go_sem, zT, cdN, reduceIte, reduceCtorEq, Nat.reduceEqDiff, Nat.reduceAdd, Nat.reduceLeDiff, Nat.reduceSub, Nat.reduceMul, Nat.reduceLT, Nat.reduceShiftRight, Nat.reduceMod, Int.reduceLE, Int.reduceLT, Int.reduceToNat, List.cons.injEq, cdB]
    exact hbad 1 (by rw [kaZ, if_pos hok]) (by decide)
  have hck : bq v = 0 := qm.2 hok
  rw [hck]
  by_cases hl : v.tick ≤ t
  rotate_left 1
  · have hl' : ((v.tick : Int) ≤ t) = False := eq_false (by omega)
    refine kR we (Nat.le_of_ble_eq_true rfl) ?_
    simp -implicitDefEqProofs only [cdA, go_sem, Go.Proofs.Tryz.f46, hl', decide_false, cdN, reduceIte, reduceCtorEq, Nat.reduceEqDiff, Nat.reduceAdd, Nat.reduceLeDiff, Nat.reduceSub, Nat.reduceMul, Nat.reduceLT, Nat.reduceShiftRight, Nat.reduceMod, Int.reduceLE, Int.reduceLT, Int.reduceToNat, List.cons.injEq, cdB]
    refine qaZ we (Nat.le_of_ble_eq_true rfl) ?_
    simp -implicitDefEqProofs only [cdA, go_sem, Go.Proofs.Tryz.f75, bbx, cdN, reduceIte, reduceCtorEq, Nat.reduceEqDiff, Nat.reduceAdd, Nat.reduceLeDiff, Nat.reduceSub, Nat.reduceMul, Nat.reduceLT, Nat.reduceShiftRight, Nat.reduceMod, Int.reduceLE, Int.reduceLT, Int.reduceToNat, List.cons.injEq, cdB]
    refine js we (Nat.le_of_ble_eq_true rfl) ?_
    simp -implicitDefEqProofs only [cdA, go_sem, Go.Proofs.Tryz.f47, bbx, cdN, reduceIte, reduceCtorEq, Nat.reduceEqDiff, Nat.reduceAdd, Nat.reduceLeDiff, Nat.reduceSub, Nat.reduceMul, Nat.reduceLT, Nat.reduceShiftRight, Nat.reduceMod, Int.reduceLE, Int.reduceLT, Int.reduceToNat, List.cons.injEq, cdB]
    refine uc.run yf we qa (by kernel_rfl) (by kernel_rfl) ?_
    simp -implicitDefEqProofs only [cdA, go_sem, bbx, cdN, reduceIte, reduceCtorEq, Nat.reduceEqDiff, Nat.reduceAdd, Nat.reduceLeDiff, Nat.reduceSub, Nat.reduceMul, Nat.reduceLT, Nat.reduceShiftRight, Nat.reduceMod, Int.reduceLE, Int.reduceLT, Int.reduceToNat, List.cons.injEq, cdB]
    exact hbad 13 (by rw [kaZ, if_neg (fun h => h hok), if_pos (by omega)]) (by decide)
  have hl' : ((v.tick : Int) ≤ t) = True := eq_true (by omega)
  have hsw : (xl v.i t).2 = 0 := by rw [xl, if_pos hok.2.1]
  refine kR we (Nat.le_of_ble_eq_true rfl) ?_
  simp -implicitDefEqProofs only [cdA, go_sem, Go.Proofs.Tryz.f46, hl', decide_true, cdN, reduceIte, reduceCtorEq, Nat.reduceEqDiff, Nat.reduceAdd, Nat.reduceLeDiff, Nat.reduceSub, Nat.reduceMul, Nat.reduceLT, Nat.reduceShiftRight, Nat.reduceMod, Int.reduceLE, Int.reduceLT, Int.reduceToNat, List.cons.injEq, cdB]
  refine qaZ we (Nat.le_of_ble_eq_true rfl) ?_
  simp -implicitDefEqProofs only [cdA, go_sem, Go.Proofs.Tryz.f75, hsw, cdN, reduceIte, reduceCtorEq, Nat.reduceEqDiff, Nat.reduceAdd, Nat.reduceLeDiff, Nat.reduceSub, Nat.reduceMul, Nat.reduceLT, Nat.reduceShiftRight, Nat.reduceMod, Int.reduceLE, Int.reduceLT, Int.reduceToNat, List.cons.injEq, cdB]
  refine kdf we (Nat.le_of_ble_eq_true rfl) ?_
  simp -implicitDefEqProofs only [cdA, go_sem, Go.Proofs.Tryz.f99, hsw, cdN, reduceIte, reduceCtorEq, Nat.reduceEqDiff, Nat.reduceAdd, Nat.reduceLeDiff, Nat.reduceSub, Nat.reduceMul, Nat.reduceLT, Nat.reduceShiftRight, Nat.reduceMod, Int.reduceLE, Int.reduceLT, Int.reduceToNat, List.cons.injEq, cdB]
  have hsm : qv ⟨v.c, v.w, (xl v.i t).1, v.p, v.f, v.next, t⟩ := by
    have h2 := qo hok
    have h3 := (jax hsw).2.1.1
    exact ⟨h2.1, h2.2.1, h2.2.2.1, by show (xl v.i t).1.length ≤ _; omega, h2.2.2.2.2.1, h2.2.2.2.2.2⟩
  have hfin : zH v t = (⟨v.c, v.w, (xl v.i t).1, v.p, v.f, v.next, t⟩, 0) := by
    have : kaZ v t = 0 := by rw [kaZ, if_neg (fun h => h hok), if_neg (by omega)]
    rw [zH, if_pos this]
  refine js we (Nat.le_of_ble_eq_true rfl) ?_
  simp -implicitDefEqProofs only [cdA, go_sem, Go.Proofs.Tryz.f47, eq_true hsm, cdN, reduceIte, reduceCtorEq, Nat.reduceEqDiff, Nat.reduceAdd, Nat.reduceLeDiff, Nat.reduceSub, Nat.reduceMul, Nat.reduceLT, Nat.reduceShiftRight, Nat.reduceMod, Int.reduceLE, Int.reduceLT, Int.reduceToNat, List.cons.injEq, cdB]
  rw [hfin]
  exact ⟨⟨rfl, rfl, rfl, rfl, rfl, rfl, rfl, rfl⟩, rfl⟩
@[go_sem] def qaB (v : Wl) (t : Nat) : Prop := (v.f.next ≤ 18446744073709551615)
def uH : List D → Option (Prop × D × Fr)
  | [.agg [.c (.sl z2), .c (.sl z3), .c (.sl z4), .c (.sl z5), .c (.int .u64 z7), .c (.sl z8), .c (.int .u64 z9), .c (.int .u64 z10)], .c (.int .u64 z11)] => some (z2 = chs (xh z2) ∧ z3 = wts (jj z3) ∧ z4 = ivs (wj z4) ∧ z5 = pys (gj z5) ∧ z7 = (z7.toNat : Int) ∧ z8 = evs (uk z8) ∧ z9 = (z9.toNat : Int) ∧ z10 = (z10.toNat : Int) ∧ z11 = (z11.toNat : Int) ∧ qaB (⟨(xh z2), (jj z3), (wj z4), (gj z5), (⟨z7.toNat, (uk z8)⟩ : Fd), z9.toNat, z10.toNat⟩ : Wl) z11.toNat, zax (⟨(xh z2), (jj z3), (wj z4), (gj z5), (⟨z7.toNat, (uk z8)⟩ : Fd), z9.toNat, z10.toNat⟩ : Wl) z11.toNat, [])
  | _ => none
attribute [go_sem] uH
theorem kaj : ∀ rs p r fr, uH rs = some (p, r, fr) → p → zg Tryz.prog 35 rs r fr := by
  intro rs p r fr h hp
  unfold uH at h
  split at h <;> cases h
  obtain ⟨hc0, hc1, hc2, hc3, hc4, hc5, hc6, hc7, hc8, hp⟩ := hp
  rename_i z2 z3 z4 z5 z7 z8 z9 z10 z11
  obtain ⟨z2, rfl⟩ : ∃ m, z2 = chs m := ⟨_, hc0⟩
  obtain ⟨z3, rfl⟩ : ∃ m, z3 = wts m := ⟨_, hc1⟩
  obtain ⟨z4, rfl⟩ : ∃ m, z4 = ivs m := ⟨_, hc2⟩
  obtain ⟨z5, rfl⟩ : ∃ m, z5 = pys m := ⟨_, hc3⟩
  obtain ⟨z7, rfl⟩ : ∃ m : Nat, z7 = m := ⟨_, hc4⟩
  obtain ⟨z8, rfl⟩ : ∃ m, z8 = evs m := ⟨_, hc5⟩
  obtain ⟨z9, rfl⟩ : ∃ m : Nat, z9 = m := ⟨_, hc6⟩
  obtain ⟨z10, rfl⟩ : ∃ m : Nat, z10 = m := ⟨_, hc7⟩
  obtain ⟨z11, rfl⟩ : ∃ m : Nat, z11 = m := ⟨_, hc8⟩
  simp only [Int.toNat_natCast, xb, vb, qc, jc, qd]
  simp only [Int.toNat_natCast, xb, vb, qc, jc, qd, qaB] at hp
  exact vaW ⟨z2, z3, z4, z5, ⟨z7, z8⟩, z9, z10⟩ z11 hp
end Dm
namespace Dm
open Go Go.Proofs Go.IntWalk
theorem ka4 {v : Wl} {l : List Iv} {f : Fd} (h : okW v) (hl : uK l) (hf : kaH f) : okW { v with i := l, f := f } := ⟨h.1, hl, hf, h.2.2.2⟩
theorem kbR {p : List Py} {c d : List Ch} (h : uY p c = (true, 0)) (hd : ym d) (e : hlL d = hlL c) : uY p d = (true, 0) := by
  obtain ⟨a1, a2, a3, a4, a5⟩ := kr.1 h
  exact kr.2 ⟨a1, hd.1, jab hd, by rw [e]; exact a4, by rw [e]; exact a5⟩
theorem kbS {v : Wl} {l : List Ch} (h : okW v) (hl : ym l) (e : hlL l = hlL v.c) : okW { v with c := l } :=
  ⟨hl, h.2.1, h.2.2.1, h.2.2.2.1, h.2.2.2.2.1, h.2.2.2.2.2.1, h.2.2.2.2.2.2.1, kbR h.2.2.2.2.2.2.2 hl e⟩
theorem jba {v : Wl} {hash n ch : Nat} : (kG v hash n ch).2 = uaH v hash n ch := by
  unfold kG
  split
  · rename_i h; exact h.symm
  · rfl
theorem qbe {v : Wl} {hash : Nat} : (uF v hash).2 = uaO v hash := by
  unfold uF
  split
  · rename_i h; exact h.symm
  · rfl
theorem wbg {v : Wl} {ch : Nat} : (qG v ch).2 = jaL v ch := by
  unfold qG
  split
  · rename_i h; exact h.symm
  · rfl
theorem qbh {v : Wl} {t : Nat} : (zH v t).2 = kaZ v t := by
  unfold zH
  split
  · rename_i h; exact h.symm
  · rfl
theorem uap {v : Wl} {hash n ch : Nat} (h : (kG v hash n ch).2 = 0) : okW v ∧ okW (kG v hash n ch).1 ∧ (zj v.i hash v.tick n 2).2 = 0 ∧ (vX v.c ch n).2 = 0 ∧ (vm v.f 5 hash n).2.2 = 0 ∧
    (kG v hash n ch).1 = ⟨(vX v.c ch n).1, v.w, (zj v.i hash v.tick n 2).1, v.p, (vm v.f 5 hash n).1, v.next, v.tick⟩ := by
  rw [jba] at h
  have e : (kG v hash n ch).1 = ⟨(vX v.c ch n).1, v.w, (zj v.i hash v.tick n 2).1, v.p, (vm v.f 5 hash n).1, v.next, v.tick⟩ := by rw [kG, if_pos h]; rfl
  unfold uaH at h
  split at h
  · cases h
  rename_i h1
  split at h
  · rename_i h2; exact absurd h h2
  rename_i h2
  split at h
  · rename_i h3; exact absurd h h3
  rename_i h3
  have hok : okW v := Decidable.byContradiction h1
  have hI : (zj v.i hash v.tick n 2).2 = 0 := Decidable.byContradiction h2
  have hC : (vX v.c ch n).2 = 0 := Decidable.byContradiction h3
  obtain ⟨-, i1, -⟩ := uaw hI (by decide)
  obtain ⟨-, _, -, -, -, -, c1, c2⟩ := vaT hC
  rw [e]
  exact ⟨hok, ka4 (kbS hok c1 c2) i1 (bG h), hI, hC, h, rfl⟩
theorem baF {v : Wl} {hash : Nat} (h : (uF v hash).2 = 0) : okW v ∧ okW (uF v hash).1 ∧ (zj v.i hash v.tick MM 3).2 = 0 ∧ (vm v.f 4 hash 0).2.2 = 0 ∧
    (uF v hash).1 = ⟨v.c, v.w, (zj v.i hash v.tick MM 3).1, v.p, (vm v.f 4 hash 0).1, v.next, v.tick⟩ := by
  rw [qbe] at h
  have e : (uF v hash).1 = ⟨v.c, v.w, (zj v.i hash v.tick MM 3).1, v.p, (vm v.f 4 hash 0).1, v.next, v.tick⟩ := by rw [uF, if_pos h]; rfl
  unfold uaO at h
  split at h
  · cases h
  rename_i h1
  split at h
  · rename_i h2; exact absurd h h2
  rename_i h2
  have hok : okW v := Decidable.byContradiction h1
  have hI : (zj v.i hash v.tick MM 3).2 = 0 := Decidable.byContradiction h2
  obtain ⟨-, i1, -⟩ := uaw hI (by decide)
  rw [e]
  exact ⟨hok, ka4 hok i1 (bG h), hI, h, rfl⟩
theorem kaU {v : Wl} {ch : Nat} (h : (qG v ch).2 = 0) : okW v ∧ okW (qG v ch).1 ∧ (y5 v.c ch).2 = 0 ∧ (vm v.f 7 ch 0).2.2 = 0 ∧
    (qG v ch).1 = ⟨(y5 v.c ch).1, v.w, v.i, v.p, (vm v.f 7 ch 0).1, v.next, v.tick⟩ := by
  rw [wbg] at h
  have e : (qG v ch).1 = ⟨(y5 v.c ch).1, v.w, v.i, v.p, (vm v.f 7 ch 0).1, v.next, v.tick⟩ := by rw [qG, if_pos h]; rfl
  unfold jaL at h
  split at h
  · cases h
  rename_i h1
  split at h
  · rename_i h2; exact absurd h h2
  rename_i h2
  have hok : okW v := Decidable.byContradiction h1
  have hC : (y5 v.c ch).2 = 0 := Decidable.byContradiction h2
  obtain ⟨-, _, -, -, -, -, c1, c2⟩ := qaL hC
  rw [e]
  exact ⟨hok, ka4 (kbS hok c1 c2) hok.2.1 (bG h), hC, h, rfl⟩
theorem gaL {v : Wl} {t : Nat} (h : (zH v t).2 = 0) : okW v ∧ okW (zH v t).1 ∧ v.tick ≤ t ∧ (zH v t).1 = { v with i := v.i.filter fun x => !bJ t x, tick := t } := by
  rw [qbh] at h
  have e : (zH v t).1 = { v with i := (xl v.i t).1, tick := t } := by rw [zH, if_pos h]
  unfold kaZ at h
  split at h
  · cases h
  rename_i h1
  split at h
  · cases h
  rename_i h2
  have hok : okW v := Decidable.byContradiction h1
  obtain ⟨-, s1, s2⟩ := jax (l := v.i) (tick := t) (by rw [xl, if_pos hok.2.1])
  rw [e, s2]
  rw [s2] at s1
  exact ⟨hok, ⟨hok.1, s1, hok.2.2⟩, by omega, rfl⟩
end Dm
namespace Dm
open Go Go.Proofs Go.IntWalk
@[go_sem] def bbp : Tab := [ovk 230]
theorem qL : ya Tryz.prog bbp := .cons (waD 230) .nil
@[go_sem] def ubr : Tab := [fg 12]
theorem xaE : ya Tryz.prog ubr := .cons (bao 12) .nil
theorem baf (l : List Iv) : vh 4 (ivs l) := of_eq_true (za6 l)
set_option maxRecDepth 8000 in
set_option maxHeartbeats 1000000 in
theorem ybn (l : List Iv) (x : Iv) (i : Nat) (hi : i ≤ l.length) (hl : l.length ≤ 1000000) :
    va Tryz.prog 171 [.vec 0 l.length, .int .i64 i, .vec 1 1] [(1, .vec true 4 64 (ivs [x])), (0, .vec true 4 64 (ivs l))] 2 fun d os _ => Grown 4 64 (ivs (Srt.ins l i x)) d os := by
  have hil : (Srt.ins l i x).length = l.length + 1 := Srt.jk
  have hq : ∀ j os, lk j os = some (.vec true 4 64 (ivs (Srt.ins l i x))) → Grown 4 64 (ivs (Srt.ins l i x)) (.vec j (l.length + 1)) os := fun j os h => ⟨j, by rw [kg, hil], h⟩
  by_cases hin : i = l.length
  · refine bbU xaE (Nat.le_of_ble_eq_true rfl) ?_
    have e4 : ((1 : Int) = 0) = False := eq_false (by decide)
    subst hin
    simp -implicitDefEqProofs only [cdA, go_sem, Go.Proofs.Tryz.f171, e4, decide_true, reduceIte, reduceCtorEq, Nat.reduceEqDiff, Nat.reduceAdd, Nat.reduceLeDiff, Nat.reduceSub, Nat.reduceMul, Nat.reduceLT, Nat.reduceShiftRight, Nat.reduceMod, Int.reduceLE, Int.reduceLT, Int.reduceToNat, List.cons.injEq, cdB]
    refine ⟨Int.le_refl _, fun h => h.elim, fun _ => ⟨by omega, hq _ _ ?_⟩⟩
    rw [gb, if_neg (by decide), kP]
    simp [Srt.ins]
  · have hlt : i < l.length := by omega
    refine va.opn 0 rfl (by rw [kg]; omega) fun c hc hcm => ?_
    refine va.sld ?_
    rw [kg] at hc
    refine bbU qL (Nat.le_of_ble_eq_true rfl) ?_
    have e1 : IntKind.i64.wrap ((l.length : Int) + 1) = ((l.length + 1 : Nat) : Int) := by rw [i64_in _ (by omega)]; omega
    have e2 : IntKind.i64.wrap ((i : Int) + 1) = ((i + 1 : Nat) : Int) := by rw [i64_in _ (by omega)]; omega
    have e3 : ((i : Int) = (l.length : Int)) = False := eq_false (by omega)
    have e4 : ((1 : Int) = 0) = False := eq_false (by decide)
    have e5 : IntKind.i64.wrap ((l.length : Int) + 1 - (i : Int)) = ((l.length + 1 - i : Nat) : Int) := by rw [i64_in _ (by omega)]; omega
    have e6 : ((l.length : Int) + 1).toNat = l.length + 1 := by omega
    have e7 : ((i : Int) + 1).toNat = i + 1 := by omega
    have e8 : i + (l.length + 1 - i) = l.length + 1 := by omega
    simp -implicitDefEqProofs only [cdA, go_sem, Go.Proofs.Tryz.f171, e3, e4, e1, e2, e5, e6, e7, e8, decide_false, reduceIte, reduceCtorEq, Nat.reduceEqDiff, Nat.reduceAdd, Nat.reduceLeDiff, Nat.reduceSub, Nat.reduceMul, Nat.reduceLT, Nat.reduceShiftRight, Nat.reduceMod, Int.reduceLE, Int.reduceLT, Int.reduceToNat, List.cons.injEq, cdB]
    refine ⟨by omega, fun _ => ⟨fun h1 => ⟨by omega, by omega, fun c1 h2 h3 => ⟨by omega, ?_⟩⟩, fun h1 => ⟨by omega, by omega, ?_, ?_⟩⟩⟩
    · refine uc.run za3 qL qa (by kernel_rfl) (by kernel_rfl) ?_
      simp -implicitDefEqProofs only [cdA, go_sem, e1, e2, e5, e6, e7, e8, reduceIte, reduceCtorEq, Nat.reduceEqDiff, Nat.reduceAdd, Nat.reduceLeDiff, Nat.reduceSub, Nat.reduceMul, Nat.reduceLT, Nat.reduceShiftRight, Nat.reduceMod, Int.reduceLE, Int.reduceLT, Int.reduceToNat, List.cons.injEq, cdB]
      refine ⟨by omega, by omega, fun y hy => qk (baf l) y (List.mem_of_mem_take (List.mem_of_mem_drop hy)), ?_⟩
      have := k7 (sz := 4) (c := c) (c1 := c1) (i := i) (E := ivs l) (x := x.enc) (z := [C.int .u64 0, C.int .u64 0, C.int .u64 0, C.int .i64 0]) (by rw [kg]; exact hlt) (by rw [kg]; exact hc) (by rw [kg]; exact h2)
      rw [kg] at this
      refine hq _ _ ?_
      rw [kP]
      congr 2
      rw [show ivs (List.take (l.length + 1 - i) [x]) = List.take (l.length + 1 - i) [x.enc] by simp [ivs], this]
      simp [ivs, Srt.ins]
    · exact ⟨_, 24, 4, _, rfl, rfl, rfl, rfl, by kernel_rfl, ybp⟩
    · refine uc.run ba6 qL qa (by kernel_rfl) (by kernel_rfl) ?_
      simp -implicitDefEqProofs only [cdA, go_sem, e1, e2, e5, e6, e7, e8, reduceIte, reduceCtorEq, Nat.reduceEqDiff, Nat.reduceAdd, Nat.reduceLeDiff, Nat.reduceSub, Nat.reduceMul, Nat.reduceLT, Nat.reduceShiftRight, Nat.reduceMod, Int.reduceLE, Int.reduceLT, Int.reduceToNat, List.cons.injEq, cdB]
      refine ⟨by omega, by omega, fun y hy => qk (baf l) y (List.mem_of_mem_take (List.mem_of_mem_drop hy)), by omega, ?_⟩
      have := baa (sz := 4) (c := c) (i := i) (E := ivs l) (x := x.enc) (by rw [kg]; exact hlt) (by rw [kg]; omega)
      rw [kg] at this
      refine hq _ _ ?_
      rw [kP]
      congr 2
      rw [show ivs (List.take (l.length + 1 - i) [x]) = List.take (l.length + 1 - i) [x.enc] by simp [ivs], this]
      simp [ivs, Srt.ins]

def jaX (l : List Iv) (hash n : Nat) : Int := if ¬ uK l ∨ n = 0 ∨ ¬ n ≤ MM then 1 else if Srt.thr Iv.hash ltN l hash = true then 6 else if l.length = 256 then 7 else 0
def j8 (l : List Iv) (hash n till : Nat) : List Iv × Int := if jaX l hash n = 0 then (Srt.ins l (Srt.pos Iv.hash ltN l hash) ⟨hash, n, till, 1⟩, 0) else ([], jaX l hash n)
@[go_sem] def qaU (l : List Iv) (hash : Nat) (n : Nat) (till : Nat) : D := .tup [.sl (ivs (j8 l hash n till).1), .int .i64 (j8 l hash n till).2]
@[go_sem] abbrev bcx : FuncId := 77
@[go_sem] def bbj : Tab := [(169, xF), (170, zK), (172, wk)]
theorem gaB : ya Tryz.prog bbj := (ya.cons jH (ya.cons qS (ya.cons xo ya.nil)))
set_option maxRecDepth 8000 in
set_option maxHeartbeats 1000000 in
theorem za9 (l : List Iv) (hash : Nat) (n : Nat) (till : Nat)  : yb Tryz.prog 77 [.sl (ivs l), .c (.int .u64 (hash : Int)), .c (.int .u64 (n : Int)), .c (.int .u64 (till : Int))] (qaU l hash n till) := by
  refine .of (gdc gaB (Nat.le_of_ble_eq_true rfl) ?_)
  simp -implicitDefEqProofs only [cdA, go_sem, Go.Proofs.Tryz.f77, reduceIte, reduceCtorEq, Nat.reduceEqDiff, Nat.reduceAdd, Nat.reduceLeDiff, Nat.reduceSub, Nat.reduceMul, Nat.reduceLT, Nat.reduceShiftRight, Nat.reduceMod, Int.reduceLE, Int.reduceLT, Int.reduceToNat, List.cons.injEq, cdB]
  have hbad : ∀ e, jaX l hash n = e → ¬ e = 0 → ivs (j8 l hash n till).1 = [] ∧ e = (j8 l hash n till).2 := fun e h1 h2 => by
    rw [j8, if_neg (by rw [h1]; exact h2), h1]; exact ⟨rfl, rfl⟩
  by_cases hok : uK l
  rotate_left 1
  · have ef : jv l hash = (0, 1) := by rw [jv, if_neg hok]
    rw [ef]
    exact ⟨fun h => absurd rfl h, fun _ => hbad 1 (by rw [jaX, if_pos (.inl hok)]) (by decide)⟩
  have ef : jv l hash = (((Srt.pos Iv.hash ltN l hash : Nat) : Int), if Srt.thr Iv.hash ltN l hash = true then 0 else 5) := by rw [jv, if_pos hok]
  have h256 := hok.1
  rw [ef]
  refine ⟨fun _ => ⟨fun h1 => ?_, fun h1 => hbad 1 (by rw [jaX, if_pos (.inr (by
    by_cases hn : n = 0
    · exact .inl hn
    · exact .inr fun h => h1 ⟨hn, h⟩))]) (by decide)⟩, fun h => by dsimp only at h; split at h <;> cases h⟩
  have hA : ¬ (¬ uK l ∨ n = 0 ∨ ¬ n ≤ MM) := by
    rintro (h | h | h)
    · exact h hok
    · exact h1.1 h
    · exact h h1.2
  by_cases ht : Srt.thr Iv.hash ltN l hash = true
  · rw [if_pos ht]
    exact ⟨fun _ => hbad 6 (by rw [jaX, if_neg hA, if_pos ht]) (by decide), fun h => absurd rfl h⟩
  rw [if_neg ht]
  refine ⟨fun h => absurd (show (5 : Int) = 0 from h) (by decide), fun _ _ => ⟨fun h3 => hbad 7 (by rw [jaX, if_neg hA, if_neg ht, if_pos (by omega)]) (by decide), fun h3 => ⟨by omega, ?_⟩⟩⟩
  have hpos : Srt.pos Iv.hash ltN l hash ≤ l.length := Srt.uau
  refine va.grow (mid := [.int .i64 _]) (ybn l ⟨hash, n, till, 1⟩ (Srt.pos Iv.hash ltN l hash) hpos (by omega)) rfl rfl (by decide) (by simp [Srt.jk]) (fun d hd g g' w v hv => ?_) ?_
  · simp at hd; subst hd
    cases hv with
    | c _ _ h => cases h; exact .c _ _ (.int _ _)
  · simp -implicitDefEqProofs only [cdA, go_sem, reduceIte, reduceCtorEq, Nat.reduceEqDiff, Nat.reduceAdd, Nat.reduceLeDiff, Nat.reduceSub, Nat.reduceMul, Nat.reduceLT, Nat.reduceShiftRight, Nat.reduceMod, Int.reduceLE, Int.reduceLT, Int.reduceToNat, List.cons.injEq, cdB]
    rw [j8, if_pos (by rw [jaX, if_neg hA, if_neg ht, if_neg (by omega)])]
    exact ⟨⟨rfl, _, _, _, rfl⟩, rfl⟩
def bP : List D → Option (Prop × D × Fr)
  | [.c (.sl z1), .c (.int .u64 z2), .c (.int .u64 z3), .c (.int .u64 z4)] => some (z1 = ivs (wj z1) ∧ z2 = (z2.toNat : Int) ∧ z3 = (z3.toNat : Int) ∧ z4 = (z4.toNat : Int), qaU (wj z1) z2.toNat z3.toNat z4.toNat, [])
  | _ => none
attribute [go_sem] bP
theorem bar : ∀ rs p r fr, bP rs = some (p, r, fr) → p → zg Tryz.prog 77 rs r fr := by
  intro rs p r fr h hp
  unfold bP at h
  split at h <;> cases h
  obtain ⟨hc0, hc1, hc2, hc3⟩ := hp
  rename_i z1 z2 z3 z4
  obtain ⟨z1, rfl⟩ : ∃ m, z1 = ivs m := ⟨_, hc0⟩
  obtain ⟨z2, rfl⟩ : ∃ m : Nat, z2 = m := ⟨_, hc1⟩
  obtain ⟨z3, rfl⟩ : ∃ m : Nat, z3 = m := ⟨_, hc2⟩
  obtain ⟨z4, rfl⟩ : ∃ m : Nat, z4 = m := ⟨_, hc3⟩
  simp only [Int.toNat_natCast, qc]
  exact za9 z1 z2 z3 z4
theorem gcx {l : List Iv} {hash n till : Nat} : (j8 l hash n till).2 = jaX l hash n := by
  unfold j8
  split
  · rename_i h; exact h.symm
  · rfl
theorem zaK {l : List Iv} {hash n till : Nat} (h : (j8 l hash n till).2 = 0) : uK l ∧ uK (j8 l hash n till).1 := by
  rw [gcx] at h
  have e : (j8 l hash n till).1 = Srt.ins l (Srt.pos Iv.hash ltN l hash) ⟨hash, n, till, 1⟩ := by rw [j8, if_pos h]
  rw [e]
  unfold jaX at h
  split at h
  · cases h
  rename_i h1
  split at h
  · cases h
  rename_i h2
  split at h
  · cases h
  rename_i h3
  have hok : uK l := Decidable.byContradiction fun hn => h1 (.inl hn)
  have hl := hok.1
  refine ⟨hok, ⟨by rw [Srt.jk]; omega, fun x hx => ?_, ?_⟩⟩
  · rcases List.mem_cons.1 (Srt.kF.mem_iff.1 hx) with rfl | hx
    · exact ⟨⟨fun h => h1 (.inr (.inl h)), Decidable.byContradiction fun h => h1 (.inr (.inr h))⟩, show (1 : Int) ≤ 1 by decide, show (1 : Int) ≤ 3 by decide⟩
    · exact hok.2.1 x hx
  · exact (Srt.jg (lt := ltN) Srt.qf).2 (Srt.uaM (key := Iv.hash) (x := ⟨hash, n, till, 1⟩) Srt.qf ((Srt.jg (lt := ltN) Srt.qf).1 hok.2.2) h2)
theorem ubv {l : List Iv} {hash n till : Nat} (h : (j8 l hash n till).2 = 0) : (j8 l hash n till).1.length ≤ 256 := (zaK h).2.1
end Dm
namespace Dm
open Go Go.Proofs Go.IntWalk
def jbh (v : Wl) (hash : Nat) (n : Nat) (till : Nat) : List Iv × Int := j8 v.i hash n till
def jbs (v : Wl) (hash : Nat) (n : Nat) (till : Nat) : Fd × Nat × Int := vm v.f 3 hash n
def yaT (v : Wl) (hash : Nat) (n : Nat) (till : Nat) : Int := if ¬ okW v then 1 else if (jbh v hash n till).2 ≠ 0 then (jbh v hash n till).2 else (jbs v hash n till).2.2
def gF (v : Wl) (hash : Nat) (n : Nat) (till : Nat) : Wl × Int := if yaT v hash n till = 0 then (⟨v.c, v.w, (jbh v hash n till).1, v.p, (jbs v hash n till).1, v.next, v.tick⟩, 0) else (yx, yaT v hash n till)
@[go_sem] def yaM (v : Wl) (hash : Nat) (n : Nat) (till : Nat) : D := .tup [.agg [.sl (chs (gF v hash n till).1.c), .sl (wts (gF v hash n till).1.w), .sl (ivs (gF v hash n till).1.i), .sl (pys (gF v hash n till).1.p), .int .u64 (gF v hash n till).1.f.next, .sl (evs (gF v hash n till).1.f.l), .int .u64 (gF v hash n till).1.next, .int .u64 (gF v hash n till).1.tick], .int .i64 (gF v hash n till).2]
@[go_sem] abbrev vcM : FuncId := 22
@[go_sem] def bbu : Tab := [(37, bh), (77, bP), (142, wu), (119, gp)]
theorem ye : ya Tryz.prog bbu := (ya.cons vg (ya.cons bar (ya.cons gn (ya.cons yj ya.nil))))
set_option maxRecDepth 8000 in
set_option maxHeartbeats 1000000 in
theorem ba1 (v : Wl) (hash : Nat) (n : Nat) (till : Nat) (h : v.f.next ≤ 18446744073709551615) : yb Tryz.prog 22 [.agg [.sl (chs v.c), .sl (wts v.w), .sl (ivs v.i), .sl (pys v.p), .c (.int .u64 (v.f.next : Int)), .sl (evs v.f.l), .c (.int .u64 (v.next : Int)), .c (.int .u64 (v.tick : Int))], .c (.int .u64 (hash : Int)), .c (.int .u64 (n : Int)), .c (.int .u64 (till : Int))] (yaM v hash n till) := by
  refine .of (kdk ye (Nat.le_of_ble_eq_true rfl) ?_)
  simp -implicitDefEqProofs only [cdA, go_sem, Go.Proofs.Tryz.f22, reduceIte, reduceCtorEq, Nat.reduceEqDiff, Nat.reduceAdd, Nat.reduceLeDiff, Nat.reduceSub, Nat.reduceMul, Nat.reduceLT, Nat.reduceShiftRight, Nat.reduceMod, Int.reduceLE, Int.reduceLT, Int.reduceToNat, List.cons.injEq, cdB]
  refine qaX ye (Nat.le_of_ble_eq_true rfl) ?_
  simp -implicitDefEqProofs only [cdA, go_sem, Go.Proofs.Tryz.f45, reduceIte, reduceCtorEq, Nat.reduceEqDiff, Nat.reduceAdd, Nat.reduceLeDiff, Nat.reduceSub, Nat.reduceMul, Nat.reduceLT, Nat.reduceShiftRight, Nat.reduceMod, Int.reduceLE, Int.reduceLT, Int.reduceToNat, List.cons.injEq, cdB]
  refine uc.run yG ye qa (by kernel_rfl) (by kernel_rfl) ?_
  simp -implicitDefEqProofs only [cdA, go_sem, reduceIte, reduceCtorEq, Nat.reduceEqDiff, Nat.reduceAdd, Nat.reduceLeDiff, Nat.reduceSub, Nat.reduceMul, Nat.reduceLT, Nat.reduceShiftRight, Nat.reduceMod, Int.reduceLE, Int.reduceLT, Int.reduceToNat, List.cons.injEq, cdB]
  refine ⟨h, ?_⟩
  have hbad : ∀ e : Int, yaT v hash n till = e → ¬ e = 0 → (chs (gF v hash n till).1.c = [] ∧ wts (gF v hash n till).1.w = [] ∧ ivs (gF v hash n till).1.i = [] ∧ pys (gF v hash n till).1.p = [] ∧ 0 = ((gF v hash n till).1.f.next : Int) ∧ evs (gF v hash n till).1.f.l = [] ∧ 0 = ((gF v hash n till).1.next : Int) ∧ 0 = ((gF v hash n till).1.tick : Int)) ∧ e = (gF v hash n till).2 := fun e h1 h2 => by
    have : gF v hash n till = (yx, e) := by rw [gF, if_neg (by rw [h1]; exact h2), h1]
    rw [this]; exact ⟨⟨rfl, rfl, rfl, rfl, rfl, rfl, rfl, rfl⟩, rfl⟩
  by_cases hok : okW v
  rotate_left 1
  · have hck : (bq v = 0) = False := eq_false fun h => hok (qm.1 h)
    have he : yaT v hash n till = 1 := by rw [yaT, if_pos hok]
    have hc1 : bq v = 1 := by rw [bq, if_neg hok]
    skip
    refine qaZ ye (Nat.le_of_ble_eq_true rfl) ?_
    simp -implicitDefEqProofs only [cdA, go_sem, Go.Proofs.Tryz.f75, hck, cdN, reduceIte, reduceCtorEq, Nat.reduceEqDiff, Nat.reduceAdd, Nat.reduceLeDiff, Nat.reduceSub, Nat.reduceMul, Nat.reduceLT, Nat.reduceShiftRight, Nat.reduceMod, Int.reduceLE, Int.reduceLT, Int.reduceToNat, List.cons.injEq, cdB]
    refine wF ye (Nat.le_of_ble_eq_true rfl) ?_
    simp -implicitDefEqProofs only [cdA, go_sem, Go.Proofs.Tryz.f56, reduceIte, reduceCtorEq, Nat.reduceEqDiff, Nat.reduceAdd, Nat.reduceLeDiff, Nat.reduceSub, Nat.reduceMul, Nat.reduceLT, Nat.reduceShiftRight, Nat.reduceMod, Int.reduceLE, Int.reduceLT, Int.reduceToNat, List.cons.injEq, cdB]
    refine vj ye (Nat.le_of_ble_eq_true rfl) ?_
    simp -implicitDefEqProofs only [cdA, go_sem, Go.Proofs.Tryz.f140, hck, cdN, reduceIte, reduceCtorEq, Nat.reduceEqDiff, Nat.reduceAdd, Nat.reduceLeDiff, Nat.reduceSub, Nat.reduceMul, Nat.reduceLT, Nat.reduceShiftRight, Nat.reduceMod, Int.reduceLE, Int.reduceLT, Int.reduceToNat, List.cons.injEq, cdB]
    refine js ye (Nat.le_of_ble_eq_true rfl) ?_
    simp -implicitDefEqProofs only [cdA, go_sem, Go.Proofs.Tryz.f47, hck, cdN, reduceIte, reduceCtorEq, Nat.reduceEqDiff, Nat.reduceAdd, Nat.reduceLeDiff, Nat.reduceSub, Nat.reduceMul, Nat.reduceLT, Nat.reduceShiftRight, Nat.reduceMod, Int.reduceLE, Int.reduceLT, Int.reduceToNat, List.cons.injEq, cdB]
    refine uc.run yf ye qa (by kernel_rfl) (by kernel_rfl) ?_
    simp -implicitDefEqProofs only [cdA, go_sem, hck, cdN, reduceIte, reduceCtorEq, Nat.reduceEqDiff, Nat.reduceAdd, Nat.reduceLeDiff, Nat.reduceSub, Nat.reduceMul, Nat.reduceLT, Nat.reduceShiftRight, Nat.reduceMod, Int.reduceLE, Int.reduceLT, Int.reduceToNat, List.cons.injEq, cdB]
    exact hbad _ (he.trans hc1.symm) (by rw [hc1]; decide)
  have hck : (bq v = 0) = True := eq_true (qm.2 hok)
  refine qaZ ye (Nat.le_of_ble_eq_true rfl) ?_
  simp -implicitDefEqProofs only [cdA, go_sem, Go.Proofs.Tryz.f75, hck, cdN, reduceIte, reduceCtorEq, Nat.reduceEqDiff, Nat.reduceAdd, Nat.reduceLeDiff, Nat.reduceSub, Nat.reduceMul, Nat.reduceLT, Nat.reduceShiftRight, Nat.reduceMod, Int.reduceLE, Int.reduceLT, Int.reduceToNat, List.cons.injEq, cdB]
  refine qdd ye (Nat.le_of_ble_eq_true rfl) ?_
  simp -implicitDefEqProofs only [cdA, go_sem, Go.Proofs.Tryz.f76, reduceIte, reduceCtorEq, Nat.reduceEqDiff, Nat.reduceAdd, Nat.reduceLeDiff, Nat.reduceSub, Nat.reduceMul, Nat.reduceLT, Nat.reduceShiftRight, Nat.reduceMod, Int.reduceLE, Int.reduceLT, Int.reduceToNat, List.cons.injEq, cdB]
  have eI : j8 v.i hash n till = jbh v hash n till := rfl
  rw [eI]
  refine ⟨fun hs0 => ?_, fun hs0 => ?_⟩
  rotate_left 1
  · skip
    refine wF ye (Nat.le_of_ble_eq_true rfl) ?_
    simp -implicitDefEqProofs only [cdA, go_sem, Go.Proofs.Tryz.f56, reduceIte, reduceCtorEq, Nat.reduceEqDiff, Nat.reduceAdd, Nat.reduceLeDiff, Nat.reduceSub, Nat.reduceMul, Nat.reduceLT, Nat.reduceShiftRight, Nat.reduceMod, Int.reduceLE, Int.reduceLT, Int.reduceToNat, List.cons.injEq, cdB]
    refine vj ye (Nat.le_of_ble_eq_true rfl) ?_
    simp -implicitDefEqProofs only [cdA, go_sem, Go.Proofs.Tryz.f140, hs0, cdN, reduceIte, reduceCtorEq, Nat.reduceEqDiff, Nat.reduceAdd, Nat.reduceLeDiff, Nat.reduceSub, Nat.reduceMul, Nat.reduceLT, Nat.reduceShiftRight, Nat.reduceMod, Int.reduceLE, Int.reduceLT, Int.reduceToNat, List.cons.injEq, cdB]
    refine js ye (Nat.le_of_ble_eq_true rfl) ?_
    simp -implicitDefEqProofs only [cdA, go_sem, Go.Proofs.Tryz.f47, hs0, cdN, reduceIte, reduceCtorEq, Nat.reduceEqDiff, Nat.reduceAdd, Nat.reduceLeDiff, Nat.reduceSub, Nat.reduceMul, Nat.reduceLT, Nat.reduceShiftRight, Nat.reduceMod, Int.reduceLE, Int.reduceLT, Int.reduceToNat, List.cons.injEq, cdB]
    refine uc.run yf ye qa (by kernel_rfl) (by kernel_rfl) ?_
    simp -implicitDefEqProofs only [cdA, go_sem, hs0, cdN, reduceIte, reduceCtorEq, Nat.reduceEqDiff, Nat.reduceAdd, Nat.reduceLeDiff, Nat.reduceSub, Nat.reduceMul, Nat.reduceLT, Nat.reduceShiftRight, Nat.reduceMod, Int.reduceLE, Int.reduceLT, Int.reduceToNat, List.cons.injEq, cdB]
    exact hbad _ (by rw [yaT, if_neg (fun h => h hok), if_pos hs0]) hs0
  refine wF ye (Nat.le_of_ble_eq_true rfl) ?_
  simp -implicitDefEqProofs only [cdA, go_sem, Go.Proofs.Tryz.f56, reduceIte, reduceCtorEq, Nat.reduceEqDiff, Nat.reduceAdd, Nat.reduceLeDiff, Nat.reduceSub, Nat.reduceMul, Nat.reduceLT, Nat.reduceShiftRight, Nat.reduceMod, Int.reduceLE, Int.reduceLT, Int.reduceToNat, List.cons.injEq, cdB]
  refine vj ye (Nat.le_of_ble_eq_true rfl) ?_
  simp -implicitDefEqProofs only [cdA, go_sem, Go.Proofs.Tryz.f140, hck, cdN, reduceIte, reduceCtorEq, Nat.reduceEqDiff, Nat.reduceAdd, Nat.reduceLeDiff, Nat.reduceSub, Nat.reduceMul, Nat.reduceLT, Nat.reduceShiftRight, Nat.reduceMod, Int.reduceLE, Int.reduceLT, Int.reduceToNat, List.cons.injEq, cdB]
  refine qan ye (Nat.le_of_ble_eq_true rfl) ?_
  simp -implicitDefEqProofs only [cdA, go_sem, Go.Proofs.Tryz.f141, reduceIte, reduceCtorEq, Nat.reduceEqDiff, Nat.reduceAdd, Nat.reduceLeDiff, Nat.reduceSub, Nat.reduceMul, Nat.reduceLT, Nat.reduceShiftRight, Nat.reduceMod, Int.reduceLE, Int.reduceLT, Int.reduceToNat, List.cons.injEq, cdB]
  have eF : vm v.f 3 hash n = jbs v hash n till := rfl
  rw [eF]
  refine ⟨h, fun hfd => ?_, fun hfd => ?_⟩
  rotate_left 1
  · skip
    refine js ye (Nat.le_of_ble_eq_true rfl) ?_
    simp -implicitDefEqProofs only [cdA, go_sem, Go.Proofs.Tryz.f47, hfd, cdN, reduceIte, reduceCtorEq, Nat.reduceEqDiff, Nat.reduceAdd, Nat.reduceLeDiff, Nat.reduceSub, Nat.reduceMul, Nat.reduceLT, Nat.reduceShiftRight, Nat.reduceMod, Int.reduceLE, Int.reduceLT, Int.reduceToNat, List.cons.injEq, cdB]
    refine uc.run yf ye qa (by kernel_rfl) (by kernel_rfl) ?_
    simp -implicitDefEqProofs only [cdA, go_sem, hfd, cdN, reduceIte, reduceCtorEq, Nat.reduceEqDiff, Nat.reduceAdd, Nat.reduceLeDiff, Nat.reduceSub, Nat.reduceMul, Nat.reduceLT, Nat.reduceShiftRight, Nat.reduceMod, Int.reduceLE, Int.reduceLT, Int.reduceToNat, List.cons.injEq, cdB]
    exact hbad _ (by rw [yaT, if_neg (fun h => h hok), if_neg (fun h => h hs0)]) hfd
  have hsm : qv ⟨v.c, v.w, (jbh v hash n till).1, v.p, (jbs v hash n till).1, v.next, v.tick⟩ := by
    have h2 := qo hok
    have h50 := ubv hs0
    exact ⟨h2.1, h2.2.1, h2.2.2.1, (by show (jbh v hash n till).1.length ≤ _; unfold jbh; omega), h2.2.2.2.2.1, (by show (jbs v hash n till).1.l.length ≤ _; unfold jbs; exact Nat.le_trans qz (by decide))⟩
  have hfin : gF v hash n till = (⟨v.c, v.w, (jbh v hash n till).1, v.p, (jbs v hash n till).1, v.next, v.tick⟩, 0) := by
    have : yaT v hash n till = 0 := by rw [yaT, if_neg (fun h => h hok), if_neg (fun h => h hs0)]; exact hfd
    rw [gF, if_pos this]
  refine js ye (Nat.le_of_ble_eq_true rfl) ?_
  simp -implicitDefEqProofs only [cdA, go_sem, Go.Proofs.Tryz.f47, hck, eq_true hsm, cdN, reduceIte, reduceCtorEq, Nat.reduceEqDiff, Nat.reduceAdd, Nat.reduceLeDiff, Nat.reduceSub, Nat.reduceMul, Nat.reduceLT, Nat.reduceShiftRight, Nat.reduceMod, Int.reduceLE, Int.reduceLT, Int.reduceToNat, List.cons.injEq, cdB]
  rw [hfin]
  exact ⟨⟨rfl, rfl, rfl, rfl, rfl, rfl, rfl, rfl⟩, rfl⟩
@[go_sem] def baK (v : Wl) (hash : Nat) (n : Nat) (till : Nat) : Prop := (v.f.next ≤ 18446744073709551615)
def wP : List D → Option (Prop × D × Fr)
  | [.agg [.c (.sl z2), .c (.sl z3), .c (.sl z4), .c (.sl z5), .c (.int .u64 z7), .c (.sl z8), .c (.int .u64 z9), .c (.int .u64 z10)], .c (.int .u64 z11), .c (.int .u64 z12), .c (.int .u64 z13)] => some (z2 = chs (xh z2) ∧ z3 = wts (jj z3) ∧ z4 = ivs (wj z4) ∧ z5 = pys (gj z5) ∧ z7 = (z7.toNat : Int) ∧ z8 = evs (uk z8) ∧ z9 = (z9.toNat : Int) ∧ z10 = (z10.toNat : Int) ∧ z11 = (z11.toNat : Int) ∧ z12 = (z12.toNat : Int) ∧ z13 = (z13.toNat : Int) ∧ baK (⟨(xh z2), (jj z3), (wj z4), (gj z5), (⟨z7.toNat, (uk z8)⟩ : Fd), z9.toNat, z10.toNat⟩ : Wl) z11.toNat z12.toNat z13.toNat, yaM (⟨(xh z2), (jj z3), (wj z4), (gj z5), (⟨z7.toNat, (uk z8)⟩ : Fd), z9.toNat, z10.toNat⟩ : Wl) z11.toNat z12.toNat z13.toNat, [])
  | _ => none
attribute [go_sem] wP
theorem zaq : ∀ rs p r fr, wP rs = some (p, r, fr) → p → zg Tryz.prog 22 rs r fr := by
  intro rs p r fr h hp
  unfold wP at h
  split at h <;> cases h
  obtain ⟨hc0, hc1, hc2, hc3, hc4, hc5, hc6, hc7, hc8, hc9, hc10, hp⟩ := hp
  rename_i z2 z3 z4 z5 z7 z8 z9 z10 z11 z12 z13
  obtain ⟨z2, rfl⟩ : ∃ m, z2 = chs m := ⟨_, hc0⟩
  obtain ⟨z3, rfl⟩ : ∃ m, z3 = wts m := ⟨_, hc1⟩
  obtain ⟨z4, rfl⟩ : ∃ m, z4 = ivs m := ⟨_, hc2⟩
  obtain ⟨z5, rfl⟩ : ∃ m, z5 = pys m := ⟨_, hc3⟩
  obtain ⟨z7, rfl⟩ : ∃ m : Nat, z7 = m := ⟨_, hc4⟩
  obtain ⟨z8, rfl⟩ : ∃ m, z8 = evs m := ⟨_, hc5⟩
  obtain ⟨z9, rfl⟩ : ∃ m : Nat, z9 = m := ⟨_, hc6⟩
  obtain ⟨z10, rfl⟩ : ∃ m : Nat, z10 = m := ⟨_, hc7⟩
  obtain ⟨z11, rfl⟩ : ∃ m : Nat, z11 = m := ⟨_, hc8⟩
  obtain ⟨z12, rfl⟩ : ∃ m : Nat, z12 = m := ⟨_, hc9⟩
  obtain ⟨z13, rfl⟩ : ∃ m : Nat, z13 = m := ⟨_, hc10⟩
  simp only [Int.toNat_natCast, xb, vb, qc, jc, qd]
  simp only [Int.toNat_natCast, xb, vb, qc, jc, qd, baK] at hp
  exact ba1 ⟨z2, z3, z4, z5, ⟨z7, z8⟩, z9, z10⟩ z11 z12 z13 hp
end Dm
namespace Dm
open Go Go.Proofs Go.IntWalk
structure Opn where
  kind : Nat
  a : Nat
  b : Nat
  c : Nat
  tick : Nat
  paid : Bool
  chan : Ch
  w : List Wt
deriving DecidableEq, Inhabited
@[go_sem] def Opn.enc (e : Opn) : List C := [.int .u8 (e.kind : Int), .int .u64 (e.a : Int), .int .u64 (e.b : Int), .int .u64 (e.c : Int), .int .u64 (e.tick : Int), .bool e.paid, .int .u64 (e.chan.id : Int), .int .u64 (e.chan.loc : Int), .int .u64 (e.chan.rem : Int), .int .u64 (e.chan.res : Int), .int .u64 (e.chan.most : Int), .sl (hds e.chan.holds), .bool e.chan.op, .sl (wts e.w)]
def Opn.dec : List C → Opn
  | [.int .u8 z2, .int .u64 z3, .int .u64 z4, .int .u64 z5, .int .u64 z6, .bool z7, .int .u64 z9, .int .u64 z10, .int .u64 z11, .int .u64 z12, .int .u64 z13, .sl z14, .bool z15, .sl z16] => (⟨z2.toNat, z3.toNat, z4.toNat, z5.toNat, z6.toNat, z7, (⟨z9.toNat, z10.toNat, z11.toNat, z12.toNat, z13.toNat, (um z14), z15⟩ : Ch), (jj z16)⟩ : Opn)
  | _ => default
def jO (l : List Opn) : List (List C) := l.map Opn.enc
def jbU (l : List (List C)) : List Opn := l.map Opn.dec
@[simp, go_sem] theorem qbr (l : List Opn) : (jO l).length = l.length := by simp [jO]
@[go_sem] theorem wca (l : List Opn) (i : Nat) : (jO l).getD i [.int .u8 0, .int .u64 0, .int .u64 0, .int .u64 0, .int .u64 0, .bool false, .int .u64 0, .int .u64 0, .int .u64 0, .int .u64 0, .int .u64 0, .sl [], .bool false, .sl []] = (l.getD i default).enc := by
  simp only [jO, List.getD_eq_getElem?_getD, List.getElem?_map]
  cases l[i]? <;> rfl
@[go_sem] theorem jbL (l : List Opn) : vh 14 (jO l) = True := by
  simp [vh, jO, Opn.enc]
theorem Opn.zh (e : Opn) : Opn.dec e.enc = e := by
  simp [Opn.enc, Opn.dec, ze, qd]
@[go_sem] theorem ybD (l : List Opn) : jbU (jO l) = l := by
  simp only [jbU, jO, List.map_map]
  exact List.map_id'' (fun e => Opn.zh e) l
@[go_sem] theorem qcg (a b : List Opn) : jO a ++ jO b = jO (a ++ b) := by simp [jO]
@[go_sem] theorem jbS (l : List Opn) (k : Nat) : (jO l).drop k = jO (l.drop k) := by simp [jO]
@[go_sem] theorem qb5 (l : List Opn) (k : Nat) : (jO l).take k = jO (l.take k) := by simp [jO]
@[go_sem] theorem bch (z17 : Int) (z18 : Int) (z19 : Int) (z20 : Int) (z21 : Int) (z22 : Bool) (z23 : Int) (z24 : Int) (z25 : Int) (z26 : Int) (z27 : Int) (z28 : List Hd) (z29 : Bool) (z30 : List Wt) (hz17 : 0 ≤ z17) (hz18 : 0 ≤ z18) (hz19 : 0 ≤ z19) (hz20 : 0 ≤ z20) (hz21 : 0 ≤ z21) (hz23 : 0 ≤ z23) (hz24 : 0 ≤ z24) (hz25 : 0 ≤ z25) (hz26 : 0 ≤ z26) (hz27 : 0 ≤ z27) : [[C.int .u8 z17, C.int .u64 z18, C.int .u64 z19, C.int .u64 z20, C.int .u64 z21, C.bool z22, C.int .u64 z23, C.int .u64 z24, C.int .u64 z25, C.int .u64 z26, C.int .u64 z27, C.sl (hds z28), C.bool z29, C.sl (wts z30)]] = jO [⟨z17.toNat, z18.toNat, z19.toNat, z20.toNat, z21.toNat, z22, ⟨z23.toNat, z24.toNat, z25.toNat, z26.toNat, z27.toNat, z28, z29⟩, z30⟩] := by simp [jO, Opn.enc, Int.toNat_of_nonneg hz17, Int.toNat_of_nonneg hz18, Int.toNat_of_nonneg hz19, Int.toNat_of_nonneg hz20, Int.toNat_of_nonneg hz21, Int.toNat_of_nonneg hz23, Int.toNat_of_nonneg hz24, Int.toNat_of_nonneg hz25, Int.toNat_of_nonneg hz26, Int.toNat_of_nonneg hz27]
@[go_sem] theorem bck (l : List Opn) (i : Nat) (z17 : Int) (z18 : Int) (z19 : Int) (z20 : Int) (z21 : Int) (z22 : Bool) (z23 : Int) (z24 : Int) (z25 : Int) (z26 : Int) (z27 : Int) (z28 : List Hd) (z29 : Bool) (z30 : List Wt) (hz17 : 0 ≤ z17) (hz18 : 0 ≤ z18) (hz19 : 0 ≤ z19) (hz20 : 0 ≤ z20) (hz21 : 0 ≤ z21) (hz23 : 0 ≤ z23) (hz24 : 0 ≤ z24) (hz25 : 0 ≤ z25) (hz26 : 0 ≤ z26) (hz27 : 0 ≤ z27) : (jO l).set i [C.int .u8 z17, C.int .u64 z18, C.int .u64 z19, C.int .u64 z20, C.int .u64 z21, C.bool z22, C.int .u64 z23, C.int .u64 z24, C.int .u64 z25, C.int .u64 z26, C.int .u64 z27, C.sl (hds z28), C.bool z29, C.sl (wts z30)] = jO (l.set i ⟨z17.toNat, z18.toNat, z19.toNat, z20.toNat, z21.toNat, z22, ⟨z23.toNat, z24.toNat, z25.toNat, z26.toNat, z27.toNat, z28, z29⟩, z30⟩) := by simp [jO, List.map_set, Opn.enc, Int.toNat_of_nonneg hz17, Int.toNat_of_nonneg hz18, Int.toNat_of_nonneg hz19, Int.toNat_of_nonneg hz20, Int.toNat_of_nonneg hz21, Int.toNat_of_nonneg hz23, Int.toNat_of_nonneg hz24, Int.toNat_of_nonneg hz25, Int.toNat_of_nonneg hz26, Int.toNat_of_nonneg hz27]
@[go_sem] theorem ub0 (l : List Opn) (z17 : Int) (z18 : Int) (z19 : Int) (z20 : Int) (z21 : Int) (z22 : Bool) (z23 : Int) (z24 : Int) (z25 : Int) (z26 : Int) (z27 : Int) (z28 : List Hd) (z29 : Bool) (z30 : List Wt) (hz17 : 0 ≤ z17) (hz18 : 0 ≤ z18) (hz19 : 0 ≤ z19) (hz20 : 0 ≤ z20) (hz21 : 0 ≤ z21) (hz23 : 0 ≤ z23) (hz24 : 0 ≤ z24) (hz25 : 0 ≤ z25) (hz26 : 0 ≤ z26) (hz27 : 0 ≤ z27) : [C.int .u8 z17, C.int .u64 z18, C.int .u64 z19, C.int .u64 z20, C.int .u64 z21, C.bool z22, C.int .u64 z23, C.int .u64 z24, C.int .u64 z25, C.int .u64 z26, C.int .u64 z27, C.sl (hds z28), C.bool z29, C.sl (wts z30)] :: jO l = jO (⟨z17.toNat, z18.toNat, z19.toNat, z20.toNat, z21.toNat, z22, ⟨z23.toNat, z24.toNat, z25.toNat, z26.toNat, z27.toNat, z28, z29⟩, z30⟩ :: l) := by simp [jO, Opn.enc, Int.toNat_of_nonneg hz17, Int.toNat_of_nonneg hz18, Int.toNat_of_nonneg hz19, Int.toNat_of_nonneg hz20, Int.toNat_of_nonneg hz21, Int.toNat_of_nonneg hz23, Int.toNat_of_nonneg hz24, Int.toNat_of_nonneg hz25, Int.toNat_of_nonneg hz26, Int.toNat_of_nonneg hz27]
@[go_sem] theorem Opn.eta {e : Opn} : (⟨e.kind, e.a, e.b, e.c, e.tick, e.paid, e.chan, e.w⟩ : Opn) = e := rfl
def doW (v : Wl) (o : Opn) : Wl × Int :=
  if o.kind % 9 = 0 ∨ o.kind % 9 = 8 then ((gz v o.a o.b).1, (gz v o.a o.b).2.2) else if o.kind % 9 = 1 then wq v o.a o.paid else if o.kind % 9 = 2 then gF v o.a o.b o.tick else if o.kind % 9 = 3 then uF v o.a else if o.kind % 9 = 4 then kG v o.a o.b o.c else if o.kind % 9 = 5 then qx v o.chan else if o.kind % 9 = 6 then qG v o.c else (if (qF v o.w).2 = 0 then zH (qF v o.w).1 o.tick else qF v o.w)
@[go_sem] def zbg (o : Opn) : D := .bool (decide (o.chan.holds.length ≤ 20 ∧ o.w.length ≤ 40))
@[go_sem] abbrev bcW : FuncId := 29
@[go_sem] def gbN : Tab := []
theorem waP : ya Tryz.prog gbN := ya.nil
set_option maxRecDepth 8000 in
set_option maxHeartbeats 1000000 in
theorem jbq (o : Opn)  : yb Tryz.prog 29 [.agg [.c (.int .u8 (o.kind : Int)), .c (.int .u64 (o.a : Int)), .c (.int .u64 (o.b : Int)), .c (.int .u64 (o.c : Int)), .c (.int .u64 (o.tick : Int)), .c (.bool o.paid), .c (.int .u64 (o.chan.id : Int)), .c (.int .u64 (o.chan.loc : Int)), .c (.int .u64 (o.chan.rem : Int)), .c (.int .u64 (o.chan.res : Int)), .c (.int .u64 (o.chan.most : Int)), .sl (hds o.chan.holds), .c (.bool o.chan.op), .sl (wts o.w)]] (zbg o) := by
  refine .of (qdh waP (Nat.le_of_ble_eq_true rfl) ?_)
  simp -implicitDefEqProofs only [cdA, go_sem, Go.Proofs.Tryz.f29, reduceIte, reduceCtorEq, Nat.reduceEqDiff, Nat.reduceAdd, Nat.reduceLeDiff, Nat.reduceSub, Nat.reduceMul, Nat.reduceLT, Nat.reduceShiftRight, Nat.reduceMod, Int.reduceLE, Int.reduceLT, Int.reduceToNat, List.cons.injEq, cdB]
  refine fun _ => ⟨fun h1 _ => ?_, fun h1 => (decide_eq_false fun h => by omega).symm⟩
  rw [decide_eq_decide]; omega
def y8 : List D → Option (Prop × D × Fr)
  | [.agg [.c (.int .u8 z32), .c (.int .u64 z33), .c (.int .u64 z34), .c (.int .u64 z35), .c (.int .u64 z36), .c (.bool z37), .c (.int .u64 z39), .c (.int .u64 z40), .c (.int .u64 z41), .c (.int .u64 z42), .c (.int .u64 z43), .c (.sl z44), .c (.bool z45), .c (.sl z46)]] => some (z32 = (z32.toNat : Int) ∧ z33 = (z33.toNat : Int) ∧ z34 = (z34.toNat : Int) ∧ z35 = (z35.toNat : Int) ∧ z36 = (z36.toNat : Int) ∧ z39 = (z39.toNat : Int) ∧ z40 = (z40.toNat : Int) ∧ z41 = (z41.toNat : Int) ∧ z42 = (z42.toNat : Int) ∧ z43 = (z43.toNat : Int) ∧ z44 = hds (um z44) ∧ z46 = wts (jj z46), zbg (⟨z32.toNat, z33.toNat, z34.toNat, z35.toNat, z36.toNat, z37, (⟨z39.toNat, z40.toNat, z41.toNat, z42.toNat, z43.toNat, (um z44), z45⟩ : Ch), (jj z46)⟩ : Opn), [])
  | _ => none
attribute [go_sem] y8
theorem zaD : ∀ rs p r fr, y8 rs = some (p, r, fr) → p → zg Tryz.prog 29 rs r fr := by
  intro rs p r fr h hp
  unfold y8 at h
  split at h <;> cases h
  obtain ⟨hc0, hc1, hc2, hc3, hc4, hc5, hc6, hc7, hc8, hc9, hc10, hc11⟩ := hp
  rename_i z32 z33 z34 z35 z36 z37 z39 z40 z41 z42 z43 z44 z45 z46
  obtain ⟨z32, rfl⟩ : ∃ m : Nat, z32 = m := ⟨_, hc0⟩
  obtain ⟨z33, rfl⟩ : ∃ m : Nat, z33 = m := ⟨_, hc1⟩
  obtain ⟨z34, rfl⟩ : ∃ m : Nat, z34 = m := ⟨_, hc2⟩
  obtain ⟨z35, rfl⟩ : ∃ m : Nat, z35 = m := ⟨_, hc3⟩
  obtain ⟨z36, rfl⟩ : ∃ m : Nat, z36 = m := ⟨_, hc4⟩
  obtain ⟨z39, rfl⟩ : ∃ m : Nat, z39 = m := ⟨_, hc5⟩
  obtain ⟨z40, rfl⟩ : ∃ m : Nat, z40 = m := ⟨_, hc6⟩
  obtain ⟨z41, rfl⟩ : ∃ m : Nat, z41 = m := ⟨_, hc7⟩
  obtain ⟨z42, rfl⟩ : ∃ m : Nat, z42 = m := ⟨_, hc8⟩
  obtain ⟨z43, rfl⟩ : ∃ m : Nat, z43 = m := ⟨_, hc9⟩
  obtain ⟨z44, rfl⟩ : ∃ m, z44 = hds m := ⟨_, hc10⟩
  obtain ⟨z46, rfl⟩ : ∃ m, z46 = wts m := ⟨_, hc11⟩
  simp only [Int.toNat_natCast, ze, qd]
  exact jbq ⟨z32, z33, z34, z35, z36, z37, ⟨z39, z40, z41, z42, z43, z44, z45⟩, z46⟩
@[go_sem] def xb0 (v : Wl) (o : Opn) : D := .tup [.agg [.sl (chs (doW v o).1.c), .sl (wts (doW v o).1.w), .sl (ivs (doW v o).1.i), .sl (pys (doW v o).1.p), .int .u64 (doW v o).1.f.next, .sl (evs (doW v o).1.f.l), .int .u64 (doW v o).1.next, .int .u64 (doW v o).1.tick], .int .i64 (doW v o).2]
@[go_sem] abbrev vdk : FuncId := 42
@[go_sem] def zcv : Tab := [(13, xU), (15, vS), (22, wP), (24, yE), (26, yz), (30, xJ), (32, kI), (11, zR), (35, uH)]
theorem qa3 : ya Tryz.prog zcv := (ya.cons bZ (ya.cons xZ (ya.cons zaq (ya.cons uaa (ya.cons gW (ya.cons xW (ya.cons ual (ya.cons kap (ya.cons kaj ya.nil)))))))))
set_option maxRecDepth 8000 in
set_option maxHeartbeats 1000000 in
theorem zbZ (v : Wl) (o : Opn) (h : v.f.next ≤ 18446744073709551615 ∧ o.kind ≤ 255) : yb Tryz.prog 42 [.agg [.sl (chs v.c), .sl (wts v.w), .sl (ivs v.i), .sl (pys v.p), .c (.int .u64 (v.f.next : Int)), .sl (evs v.f.l), .c (.int .u64 (v.next : Int)), .c (.int .u64 (v.tick : Int))], .agg [.c (.int .u8 (o.kind : Int)), .c (.int .u64 (o.a : Int)), .c (.int .u64 (o.b : Int)), .c (.int .u64 (o.c : Int)), .c (.int .u64 (o.tick : Int)), .c (.bool o.paid), .c (.int .u64 (o.chan.id : Int)), .c (.int .u64 (o.chan.loc : Int)), .c (.int .u64 (o.chan.rem : Int)), .c (.int .u64 (o.chan.res : Int)), .c (.int .u64 (o.chan.most : Int)), .sl (hds o.chan.holds), .c (.bool o.chan.op), .sl (wts o.w)]] (xb0 v o) := by
  refine .of (yde qa3 (Nat.le_of_ble_eq_true rfl) ?_)
  simp -implicitDefEqProofs only [cdA, go_sem, Go.Proofs.Tryz.f42, reduceIte, reduceCtorEq, Nat.reduceEqDiff, Nat.reduceAdd, Nat.reduceLeDiff, Nat.reduceSub, Nat.reduceMul, Nat.reduceLT, Nat.reduceShiftRight, Nat.reduceMod, Int.reduceLE, Int.reduceLT, Int.reduceToNat, List.cons.injEq, cdB]
  have hm : ((o.kind : Int).tmod 9) = ((o.kind % 9 : Nat) : Int) := by
    rw [Int.tmod_eq_emod_of_nonneg (by omega)]; omega
  have hlt : o.kind % 9 < 9 := Nat.mod_lt _ (by decide)
  rw [hm]
  unfold doW
  generalize o.kind % 9 = k at *
  have hf := h.1
  have hlf : (qF v o.w).2 = 0 → (qF v o.w).1.f.next ≤ 18446744073709551615 := fun h0 => by
    unfold qF at h0 ⊢
    split at h0
    · rename_i h1; rw [if_pos h1]; exact hf
    · cases h0
  clear hm h
  refine ⟨by decide, ?_⟩
  rcases (show k = 0 ∨ k = 1 ∨ k = 2 ∨ k = 3 ∨ k = 4 ∨ k = 5 ∨ k = 6 ∨ k = 7 ∨ k = 8 by omega) with rfl | rfl | rfl | rfl | rfl | rfl | rfl | rfl | rfl
  all_goals first | (simp [hf]; done) | skip
  by_cases h0 : (qF v o.w).2 = 0
  · simp [hf, h0, hlf h0]
  · simp [hf, h0]
@[go_sem] def ub6 (v : Wl) (o : Opn) : Prop := (v.f.next ≤ 18446744073709551615 ∧ o.kind ≤ 255)
def kaw : List D → Option (Prop × D × Fr)
  | [.agg [.c (.sl z48), .c (.sl z49), .c (.sl z50), .c (.sl z51), .c (.int .u64 z53), .c (.sl z54), .c (.int .u64 z55), .c (.int .u64 z56)], .agg [.c (.int .u8 z58), .c (.int .u64 z59), .c (.int .u64 z60), .c (.int .u64 z61), .c (.int .u64 z62), .c (.bool z63), .c (.int .u64 z65), .c (.int .u64 z66), .c (.int .u64 z67), .c (.int .u64 z68), .c (.int .u64 z69), .c (.sl z70), .c (.bool z71), .c (.sl z72)]] => some (z48 = chs (xh z48) ∧ z49 = wts (jj z49) ∧ z50 = ivs (wj z50) ∧ z51 = pys (gj z51) ∧ z53 = (z53.toNat : Int) ∧ z54 = evs (uk z54) ∧ z55 = (z55.toNat : Int) ∧ z56 = (z56.toNat : Int) ∧ z58 = (z58.toNat : Int) ∧ z59 = (z59.toNat : Int) ∧ z60 = (z60.toNat : Int) ∧ z61 = (z61.toNat : Int) ∧ z62 = (z62.toNat : Int) ∧ z65 = (z65.toNat : Int) ∧ z66 = (z66.toNat : Int) ∧ z67 = (z67.toNat : Int) ∧ z68 = (z68.toNat : Int) ∧ z69 = (z69.toNat : Int) ∧ z70 = hds (um z70) ∧ z72 = wts (jj z72) ∧ ub6 (⟨(xh z48), (jj z49), (wj z50), (gj z51), (⟨z53.toNat, (uk z54)⟩ : Fd), z55.toNat, z56.toNat⟩ : Wl) (⟨z58.toNat, z59.toNat, z60.toNat, z61.toNat, z62.toNat, z63, (⟨z65.toNat, z66.toNat, z67.toNat, z68.toNat, z69.toNat, (um z70), z71⟩ : Ch), (jj z72)⟩ : Opn), xb0 (⟨(xh z48), (jj z49), (wj z50), (gj z51), (⟨z53.toNat, (uk z54)⟩ : Fd), z55.toNat, z56.toNat⟩ : Wl) (⟨z58.toNat, z59.toNat, z60.toNat, z61.toNat, z62.toNat, z63, (⟨z65.toNat, z66.toNat, z67.toNat, z68.toNat, z69.toNat, (um z70), z71⟩ : Ch), (jj z72)⟩ : Opn), [])
  | _ => none
attribute [go_sem] kaw
theorem kaK : ∀ rs p r fr, kaw rs = some (p, r, fr) → p → zg Tryz.prog 42 rs r fr := by
  intro rs p r fr h hp
  unfold kaw at h
  split at h <;> cases h
  obtain ⟨hc0, hc1, hc2, hc3, hc4, hc5, hc6, hc7, hc8, hc9, hc10, hc11, hc12, hc13, hc14, hc15, hc16, hc17, hc18, hc19, hp⟩ := hp
  rename_i z48 z49 z50 z51 z53 z54 z55 z56 z58 z59 z60 z61 z62 z63 z65 z66 z67 z68 z69 z70 z71 z72
  obtain ⟨z48, rfl⟩ : ∃ m, z48 = chs m := ⟨_, hc0⟩
  obtain ⟨z49, rfl⟩ : ∃ m, z49 = wts m := ⟨_, hc1⟩
  obtain ⟨z50, rfl⟩ : ∃ m, z50 = ivs m := ⟨_, hc2⟩
  obtain ⟨z51, rfl⟩ : ∃ m, z51 = pys m := ⟨_, hc3⟩
  obtain ⟨z53, rfl⟩ : ∃ m : Nat, z53 = m := ⟨_, hc4⟩
  obtain ⟨z54, rfl⟩ : ∃ m, z54 = evs m := ⟨_, hc5⟩
  obtain ⟨z55, rfl⟩ : ∃ m : Nat, z55 = m := ⟨_, hc6⟩
  obtain ⟨z56, rfl⟩ : ∃ m : Nat, z56 = m := ⟨_, hc7⟩
  obtain ⟨z58, rfl⟩ : ∃ m : Nat, z58 = m := ⟨_, hc8⟩
  obtain ⟨z59, rfl⟩ : ∃ m : Nat, z59 = m := ⟨_, hc9⟩
  obtain ⟨z60, rfl⟩ : ∃ m : Nat, z60 = m := ⟨_, hc10⟩
  obtain ⟨z61, rfl⟩ : ∃ m : Nat, z61 = m := ⟨_, hc11⟩
  obtain ⟨z62, rfl⟩ : ∃ m : Nat, z62 = m := ⟨_, hc12⟩
  obtain ⟨z65, rfl⟩ : ∃ m : Nat, z65 = m := ⟨_, hc13⟩
  obtain ⟨z66, rfl⟩ : ∃ m : Nat, z66 = m := ⟨_, hc14⟩
  obtain ⟨z67, rfl⟩ : ∃ m : Nat, z67 = m := ⟨_, hc15⟩
  obtain ⟨z68, rfl⟩ : ∃ m : Nat, z68 = m := ⟨_, hc16⟩
  obtain ⟨z69, rfl⟩ : ∃ m : Nat, z69 = m := ⟨_, hc17⟩
  obtain ⟨z70, rfl⟩ : ∃ m, z70 = hds m := ⟨_, hc18⟩
  obtain ⟨z72, rfl⟩ : ∃ m, z72 = wts m := ⟨_, hc19⟩
  simp only [Int.toNat_natCast, xb, vb, ze, qc, jc, qd]
  simp only [Int.toNat_natCast, xb, vb, ze, qc, jc, qd, ub6] at hp
  exact zbZ ⟨z48, z49, z50, z51, ⟨z53, z54⟩, z55, z56⟩ ⟨z58, z59, z60, z61, z62, z63, ⟨z65, z66, z67, z68, z69, z70, z71⟩, z72⟩ hp
end Dm
namespace Dm
open Go Go.Proofs
set_option maxRecDepth 20000
theorem wf_u8 {n : Int} (h : (Lit.int .u8 n).wf = true) : 0 ≤ n ∧ n ≤ 255 := by
  simp [Lit.wf, IntKind.min, IntKind.max, IntKind.bits, IntKind.signed] at h
  omega
theorem ydk {k : Nat} {xs : List C} (h : Typ Tryz.prog (k + 1) 5 xs) : ∃ n : Nat, xs = [.int .u8 (n : Int)] ∧ n ≤ 255 := by
  simp only [Typ, Tryz.underlying5] at h
  obtain ⟨n, rfl, h1⟩ := h
  have := wf_u8 h1
  exact ⟨n.toNat, by rw [Int.toNat_of_nonneg (by omega)], by omega⟩
def Opn.rng (o : Opn) : Prop := o.kind ≤ 255 ∧ o.a ≤ 18446744073709551615 ∧ o.b ≤ 18446744073709551615 ∧ o.c ≤ 18446744073709551615 ∧ o.tick ≤ 18446744073709551615 ∧ o.chan.rng ∧ ∀ e ∈ o.w, e.rng
theorem qb6 {k : Nat} {xs : List C} (h : Typ Tryz.prog (k + 6) 56 xs) : ∃ o : Opn, xs = o.enc ∧ o.rng := by
  rw [show k + 6 = (k + 5) + 1 from rfl, Typ, Tryz.underlying56] at h
  simp only [qP] at h
  obtain ⟨_, _, rfl, h0, _, _, rfl, h1, _, _, rfl, h2, _, _, rfl, h3, _, _, rfl, h4, _, _, rfl, h5, _, _, rfl, h6, _, _, rfl, h7, rfl⟩ := h
  obtain ⟨kd, rfl, q0⟩ := ydk (k := k + 4) h0
  obtain ⟨a, rfl, q1⟩ := vaF (k := k + 4) h1
  obtain ⟨b, rfl, q2⟩ := vaF (k := k + 4) h2
  obtain ⟨c, rfl, q3⟩ := vaF (k := k + 4) h3
  obtain ⟨t, rfl, q4⟩ := vaF (k := k + 4) h4
  obtain ⟨p, rfl⟩ := vdl (k := k + 4) h5
  obtain ⟨e6, q6⟩ := qbL (k := k + 1) h6
  obtain ⟨w, rfl, q7⟩ := gbS (k := k + 2) h7
  refine ⟨⟨kd, a, b, c, t, p, Ch.dec _, w⟩, ?_, q0, q1, q2, q3, q4, q6, q7⟩
  rw [← e6]
  simp [Opn.enc, Ch.enc, Ch.dec, ze]
end Dm
namespace Dm
open Go Go.Proofs Go.IntWalk
theorem ya1 {v : Wl} {hash n t : Nat} (h : (gF v hash n t).2 = 0) : okW v ∧ okW (gF v hash n t).1 ∧ (vm v.f 3 hash n).2.2 = 0 ∧
    (gF v hash n t).1 = ⟨v.c, v.w, (j8 v.i hash n t).1, v.p, (vm v.f 3 hash n).1, v.next, v.tick⟩ := by
  have he : (gF v hash n t).2 = yaT v hash n t := by
    unfold gF
    split
    · rename_i h; exact h.symm
    · rfl
  rw [he] at h
  have e : (gF v hash n t).1 = ⟨v.c, v.w, (j8 v.i hash n t).1, v.p, (vm v.f 3 hash n).1, v.next, v.tick⟩ := by rw [gF, if_pos h]; rfl
  unfold yaT at h
  split at h
  · cases h
  rename_i h1
  split at h
  · rename_i h2; exact absurd h h2
  rename_i h2
  have hok : okW v := Decidable.byContradiction h1
  obtain ⟨-, i1⟩ := zaK (Decidable.byContradiction h2 : (j8 v.i hash n t).2 = 0)
  rw [e]
  exact ⟨hok, ka4 hok i1 (bG h), h, rfl⟩
theorem jbr {l : List Ch} {c : Ch} (h : (gm l c).2 = 0) : ym l ∧ c.holds = [] ∧ (gm l c).1 = Srt.ins l (Srt.pos Ch.id ltN l c.id) c ∧ ym (gm l c).1 ∧ yl c ∧ ¬ Srt.thr Ch.id ltN l c.id = true := by
  have hf := xae h
  unfold gm at h hf ⊢
  split at h
  · cases h
  rename_i h1
  split at h
  · cases h
  rename_i h2
  split at h
  · cases h
  rename_i h3
  split at h
  rotate_left 1
  · cases h
  rename_i h4
  rw [if_neg h1, if_neg h2, if_neg h3, if_pos h4] at hf ⊢
  exact ⟨Decidable.byContradiction fun h => h1 (.inr (.inr (.inr h))), List.eq_nil_of_length_eq_zero (Nat.eq_zero_of_not_pos fun h => h1 (.inr (.inr (.inl h)))), rfl, hf, Decidable.byContradiction fun h => h1 (.inl h), h2⟩
theorem gbn {a b : List Ch} (h : a.Perm b) : (hlL a).Perm (hlL b) := h.flatMap_right _
theorem ba3 {v : Wl} {c : Ch} (h : (qx v c).2 = 0) : okW v ∧ okW (qx v c).1 ∧ (vm v.f 6 c.id c.loc).2.2 = 0 ∧ (gm v.c c).2 = 0 ∧
    (qx v c).1 = ⟨(gm v.c c).1, v.w, v.i, v.p, (vm v.f 6 c.id c.loc).1, v.next, v.tick⟩ := by
  have he : (qx v c).2 = uaJ v c := by
    unfold qx
    split
    · rename_i h; exact h.symm
    · rfl
  rw [he] at h
  have e : (qx v c).1 = ⟨(gm v.c c).1, v.w, v.i, v.p, (vm v.f 6 c.id c.loc).1, v.next, v.tick⟩ := by rw [qx, if_pos h]; rfl
  unfold uaJ at h
  split at h
  · cases h
  rename_i h1
  split at h
  · rename_i h2; exact absurd h h2
  rename_i h2
  have hok : okW v := Decidable.byContradiction h1
  have hC : (gm v.c c).2 = 0 := Decidable.byContradiction h2
  obtain ⟨-, o1, o2, o3, -⟩ := jbr hC
  have hp : (hlL (gm v.c c).1).Perm (hlL v.c) := by
    rw [o2]
    have h1 : (hlL (Srt.ins v.c (Srt.pos Ch.id ltN v.c c.id) c)).Perm (hlL (c :: v.c)) := gbn Srt.kF
    have h2 : hlL (c :: v.c) = hlL v.c := by simp [hlL, hlC, o1]
    rw [h2] at h1; exact h1
  obtain ⟨a1, a2, a3, a4, a5⟩ := kr.1 hok.2.2.2.2.2.2.2
  have ha : uY v.p (gm v.c c).1 = (true, 0) := kr.2 ⟨a1, o3.1, jab o3, fun q hq => hp.mem_iff.2 (a4 q hq), by rw [hp.length_eq]; exact a5⟩
  rw [e]
  exact ⟨hok, ⟨o3, hok.2.1, bG h, hok.2.2.2.1, hok.2.2.2.2.1, hok.2.2.2.2.2.1, hok.2.2.2.2.2.2.1, ha⟩, h, hC, rfl⟩
theorem qa0 {v : Wl} {l : List Wt} (h : (qF v l).2 = 0) : okW v ∧ okW (qF v l).1 ∧ (qF v l).1 = { v with w := l } := by
  unfold qF at h ⊢
  split at h
  · rename_i h1
    obtain ⟨⟨o1, o2, o3, o4, o5⟩, hl⟩ := h1
    rw [if_pos ⟨⟨o1, o2, o3, o4, o5⟩, hl⟩]
    exact ⟨⟨o1, o2, o3, o4, o5⟩, ⟨o1, o2, o3, hl, o5⟩, rfl⟩
  · cases h
def wam (k : Nat) (paid : Bool) : Int := if k = 0 ∨ k = 8 then 0 else if k = 1 then (if paid = true then 1 else 2) else k + 1
theorem jb1 {v : Wl} {o : Opn} (h : ¬ (doW v o).2 = 0) : (doW v o).1 = yx := by
  unfold doW at h ⊢
  generalize o.kind % 9 = k at *
  split at h
  · rename_i h1
    rw [if_pos h1]
    dsimp only at h ⊢
    rw [gbb] at h
    rw [gz, if_neg h]
  rename_i h1
  rw [if_neg h1]
  split at h
  · rename_i h2; rw [if_pos h2]; rw [jbe] at h; rw [wq, if_neg h]
  rename_i h2
  rw [if_neg h2]
  split at h
  · rename_i h3; rw [if_pos h3]
    unfold gF at h ⊢
    split at h
    · exact absurd rfl h
    · rename_i h4; rw [if_neg h4]
  rename_i h3
  rw [if_neg h3]
  split at h
  · rename_i h4; rw [if_pos h4]; rw [qbe] at h; rw [uF, if_neg h]
  rename_i h4
  rw [if_neg h4]
  split at h
  · rename_i h5; rw [if_pos h5]; rw [jba] at h; rw [kG, if_neg h]
  rename_i h5
  rw [if_neg h5]
  split at h
  · rename_i h6; rw [if_pos h6]
    unfold qx at h ⊢
    split at h
    · exact absurd rfl h
    · rename_i h4; rw [if_neg h4]
  rename_i h6
  rw [if_neg h6]
  split at h
  · rename_i h7; rw [if_pos h7]; rw [wbg] at h; rw [qG, if_neg h]
  rename_i h7
  rw [if_neg h7]
  split at h
  · rename_i h8; rw [if_pos h8]; rw [qbh] at h; rw [zH, if_neg h]
  · rename_i h8; rw [if_neg h8]
    unfold qF at h ⊢
    split at h
    · exact absurd rfl h
    · rename_i h9; rw [if_neg h9]
theorem bbM {v : Wl} {hash n : Nat} (h : (gz v hash n).2.2 = 0) : (vm v.f 0 v.next n).2.2 = 0 ∧ (gz v hash n).1.f = (vm v.f 0 v.next n).1 := by
  rw [gbb] at h
  exact ⟨(zbL h).2.2.2.2.2.2.2, by rw [gz, if_pos h]; rfl⟩
theorem gbm {v : Wl} {o : Opn} (h : (doW v o).2 = 0) (hk : o.kind % 9 ≠ 7) : ∃ a n, (vm v.f (wam (o.kind % 9) o.paid) a n).2.2 = 0 ∧ (doW v o).1.f = (vm v.f (wam (o.kind % 9) o.paid) a n).1 := by
  have hlt : o.kind % 9 < 9 := Nat.mod_lt _ (by decide)
  unfold doW at h ⊢
  unfold wam
  generalize o.kind % 9 = k at *
  rcases (show k = 0 ∨ k = 1 ∨ k = 2 ∨ k = 3 ∨ k = 4 ∨ k = 5 ∨ k = 6 ∨ k = 8 by omega) with rfl | rfl | rfl | rfl | rfl | rfl | rfl | rfl
  · exact ⟨_, _, bbM h⟩
  · obtain ⟨-, -, e, -, -, hF⟩ := kbp h
    refine ⟨o.a, (vi v.c o.a o.paid).2.1, hF, ?_⟩
    show (wq v o.a o.paid).1.f = _
    rw [e]; rfl
  · obtain ⟨-, -, hF, e⟩ := ya1 h
    refine ⟨_, _, hF, ?_⟩
    show (gF v o.a o.b o.tick).1.f = _
    rw [e]; rfl
  · obtain ⟨-, -, -, hF, e⟩ := baF h
    refine ⟨_, _, hF, ?_⟩
    show (uF v o.a).1.f = _
    rw [e]; rfl
  · obtain ⟨-, -, -, -, hF, e⟩ := uap h
    refine ⟨_, _, hF, ?_⟩
    show (kG v o.a o.b o.c).1.f = _
    rw [e]; rfl
  · obtain ⟨-, -, hF, -, e⟩ := ba3 h
    refine ⟨_, _, hF, ?_⟩
    show (qx v o.chan).1.f = _
    rw [e]; rfl
  · obtain ⟨-, -, -, hF, e⟩ := kaU h
    refine ⟨_, _, hF, ?_⟩
    show (qG v o.c).1.f = _
    rw [e]; rfl
  · exact ⟨_, _, bbM h⟩
theorem gbs {v : Wl} {o : Opn} (h : (doW v o).2 = 0) (hk : o.kind % 9 = 7) : (doW v o).1.f = v.f := by
  unfold doW at h ⊢
  rw [hk] at h ⊢
  simp only [show ¬ (7 = 0 ∨ 7 = 8) by decide, if_false, show ¬ 7 = 1 by decide, show ¬ 7 = 2 by decide, show ¬ 7 = 3 by decide, show ¬ 7 = 4 by decide, show ¬ 7 = 5 by decide, show ¬ 7 = 6 by decide] at h ⊢
  split at h
  · rename_i h8
    rw [if_pos h8]
    obtain ⟨-, -, -, e⟩ := gaL h
    obtain ⟨-, -, e2⟩ := qa0 h8
    rw [e, e2]
  · rename_i h8; exact absurd h h8
end Dm
namespace Dm
open Go Go.Proofs Go.IntWalk
@[go_sem] def qI (w : Wl) (o : Opn) : D := .bool true
@[go_sem] abbrev wa7 : FuncId := 8
@[go_sem] def yad : Tab := [(9, v7), (10, qQ), (29, y8), (42, kaw)]
theorem xP : ya Tryz.prog yad := (ya.cons uaE (ya.cons yas (ya.cons zaD (ya.cons kaK ya.nil))))
set_option maxRecDepth 8000 in
set_option maxHeartbeats 1000000 in
theorem wW (w : Wl) (o : Opn) (h : w.f.next ≤ 18446744073709551615 ∧ o.kind ≤ 255) : yb Tryz.prog 8 [.agg [.sl (chs w.c), .sl (wts w.w), .sl (ivs w.i), .sl (pys w.p), .c (.int .u64 (w.f.next : Int)), .sl (evs w.f.l), .c (.int .u64 (w.next : Int)), .c (.int .u64 (w.tick : Int))], .agg [.c (.int .u8 (o.kind : Int)), .c (.int .u64 (o.a : Int)), .c (.int .u64 (o.b : Int)), .c (.int .u64 (o.c : Int)), .c (.int .u64 (o.tick : Int)), .c (.bool o.paid), .c (.int .u64 (o.chan.id : Int)), .c (.int .u64 (o.chan.loc : Int)), .c (.int .u64 (o.chan.rem : Int)), .c (.int .u64 (o.chan.res : Int)), .c (.int .u64 (o.chan.most : Int)), .sl (hds o.chan.holds), .c (.bool o.chan.op), .sl (wts o.w)]] (qI w o) := by
  refine .of (ac8 xP (Nat.le_of_ble_eq_true rfl) ?_)
  simp -implicitDefEqProofs only [cdA, go_sem, Go.Proofs.Tryz.f8, reduceIte, reduceCtorEq, Nat.reduceEqDiff, Nat.reduceAdd, Nat.reduceLeDiff, Nat.reduceSub, Nat.reduceMul, Nat.reduceLT, Nat.reduceShiftRight, Nat.reduceMod, Int.reduceLE, Int.reduceLT, Int.reduceToNat, List.cons.injEq, cdB]
  obtain ⟨h, hkd⟩ := h
  have hm : ((o.kind : Int).tmod 9) = ((o.kind % 9 : Nat) : Int) := by
    rw [Int.tmod_eq_emod_of_nonneg (by omega)]; omega
  have hlt : o.kind % 9 < 9 := Nat.mod_lt _ (by decide)
  rw [hm]
  refine ⟨fun hfew => ⟨fun hof => ⟨⟨h, hkd⟩, fun h0 => ⟨by decide, fun h7 => ?_, fun h7 => ?_⟩, fun h0 => ?_⟩, fun _ => trivial⟩, fun _ => trivial⟩
  · have e := gbs h0 (by omega)
    rw [e]
    exact ⟨fun _ _ _ => decide_eq_true rfl, fun h => h rfl⟩
  · obtain ⟨a, n, hF, e⟩ := gbm h0 (by omega)
    obtain ⟨n1, n2, n3⟩ := uaN hF
    have hok : kaH (vm w.f (wam (o.kind % 9) o.paid) a n).1 := bG hF
    have hM := hok.2.1
    have hl64 := qz (f := w.f) (k := wam (o.kind % 9) o.paid) (a := a) (n := n)
    rw [e]
    generalize (vm w.f (wam (o.kind % 9) o.paid) a n).1 = f at *
    have hpos : 0 < f.l.length := by
      cases hl : f.l with
      | nil => rw [hl] at n3; cases n3
      | cons x t => simp
    have hlast : f.l.getD (f.l.length - 1) default = ⟨w.f.next, wam (o.kind % 9) o.paid, a, n⟩ := by
      rw [List.getLast?_eq_getElem?] at n3
      rw [List.getD_eq_getElem?_getD, n3]; rfl
    unfold MM at hM
    rw [n1] at hM ⊢
    rw [i64_in ((f.l.length : Int) - 1) (by omega), show ((f.l.length : Int) - 1).toNat = f.l.length - 1 by omega, hlast, u64_in ((w.f.next : Int) + 1) (by omega)]
    dsimp only
    have hkk : ∀ k, k < 9 → k ≠ 7 → k ≠ 1 → wam k o.paid = ([0, 2, 3, 4, 5, 6, 7, -1, 0] : List Int).getD k default := fun k h1 h2 h3 => by
      rcases (show k = 0 ∨ k = 2 ∨ k = 3 ∨ k = 4 ∨ k = 5 ∨ k = 6 ∨ k = 8 by omega) with rfl | rfl | rfl | rfl | rfl | rfl | rfl <;> rfl
    refine ⟨fun _ _ => ⟨fun h => by omega, fun _ _ => ⟨⟨by omega, by omega⟩, by decide, ⟨by omega, by omega⟩, by omega, by decide, fun h1 => ⟨fun hp => ⟨fun _ => decide_eq_true ?_, fun h => h rfl⟩, fun hp => ⟨fun _ => decide_eq_true ?_, fun h => h rfl⟩⟩, fun h1 => ⟨fun _ => decide_eq_true ?_, fun h => h rfl⟩⟩⟩, fun h => h (by omega)⟩
    · rw [show o.kind % 9 = 1 by omega, hp]; rfl
    · rw [show o.kind % 9 = 1 by omega, hp]; rfl
    · rw [Int.toNat_natCast]; exact hkk _ hlt (by omega) (by omega)
  · rw [jb1 h0]
    exact fun _ => decide_eq_true rfl
@[go_sem] def bac (w : Wl) (o : Opn) : Prop := (w.f.next ≤ 18446744073709551615 ∧ o.kind ≤ 255)
def kW : List D → Option (Prop × D × Fr)
  | [.agg [.c (.sl z2), .c (.sl z3), .c (.sl z4), .c (.sl z5), .c (.int .u64 z7), .c (.sl z8), .c (.int .u64 z9), .c (.int .u64 z10)], .agg [.c (.int .u8 z12), .c (.int .u64 z13), .c (.int .u64 z14), .c (.int .u64 z15), .c (.int .u64 z16), .c (.bool z17), .c (.int .u64 z19), .c (.int .u64 z20), .c (.int .u64 z21), .c (.int .u64 z22), .c (.int .u64 z23), .c (.sl z24), .c (.bool z25), .c (.sl z26)]] => some (z2 = chs (xh z2) ∧ z3 = wts (jj z3) ∧ z4 = ivs (wj z4) ∧ z5 = pys (gj z5) ∧ z7 = (z7.toNat : Int) ∧ z8 = evs (uk z8) ∧ z9 = (z9.toNat : Int) ∧ z10 = (z10.toNat : Int) ∧ z12 = (z12.toNat : Int) ∧ z13 = (z13.toNat : Int) ∧ z14 = (z14.toNat : Int) ∧ z15 = (z15.toNat : Int) ∧ z16 = (z16.toNat : Int) ∧ z19 = (z19.toNat : Int) ∧ z20 = (z20.toNat : Int) ∧ z21 = (z21.toNat : Int) ∧ z22 = (z22.toNat : Int) ∧ z23 = (z23.toNat : Int) ∧ z24 = hds (um z24) ∧ z26 = wts (jj z26) ∧ bac (⟨(xh z2), (jj z3), (wj z4), (gj z5), (⟨z7.toNat, (uk z8)⟩ : Fd), z9.toNat, z10.toNat⟩ : Wl) (⟨z12.toNat, z13.toNat, z14.toNat, z15.toNat, z16.toNat, z17, (⟨z19.toNat, z20.toNat, z21.toNat, z22.toNat, z23.toNat, (um z24), z25⟩ : Ch), (jj z26)⟩ : Opn), qI (⟨(xh z2), (jj z3), (wj z4), (gj z5), (⟨z7.toNat, (uk z8)⟩ : Fd), z9.toNat, z10.toNat⟩ : Wl) (⟨z12.toNat, z13.toNat, z14.toNat, z15.toNat, z16.toNat, z17, (⟨z19.toNat, z20.toNat, z21.toNat, z22.toNat, z23.toNat, (um z24), z25⟩ : Ch), (jj z26)⟩ : Opn), [])
  | _ => none
attribute [go_sem] kW
end Dm
