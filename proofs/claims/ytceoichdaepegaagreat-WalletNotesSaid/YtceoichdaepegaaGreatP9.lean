import Derived.Test.YtceoichdaepegaaGreatP8

set_option linter.unusedSimpArgs false
set_option linter.unusedVariables false
set_option linter.unusedSectionVars false
namespace Dm
open Go Go.Proofs Go.IntWalk
def findI (l : List Iv) (id : Nat) : Int × Int := if okIv l then ((Srt.pos Iv.hash ltN l id : Nat), if Srt.thr Iv.hash ltN l id = true then 0 else 5) else (0, 1)
@[go_sem] def ifind_r (l : List Iv) (id : Nat) : D := .tup [.int .i64 (findI l id).1, .int .i64 (findI l id).2]
@[go_sem] abbrev n_ifind : FuncId := 169
@[go_sem] def ifind_T : Tab := [(103, sp_icheck), (195, sp_iorder)]
theorem ifind_T_ok : TabOk Tryz.prog ifind_T := (TabOk.cons sp_icheck_ok (TabOk.cons sp_iorder_ok TabOk.nil))
set_option maxRecDepth 8000 in
set_option maxHeartbeats 1000000 in
theorem ifind_ok (l : List Iv) (id : Nat)  : PureFn Tryz.prog 169 [.sl (ivs l), .c (.int .u64 (id : Int))] (ifind_r l id) := by
  refine .of (ac169 ifind_T_ok (Nat.le_of_ble_eq_true rfl) ?_)
  simp -implicitDefEqProofs only [cdA, go_sem, Go.Proofs.Tryz.f169, reduceIte, List.cons.injEq, cdB]
  have hcz : chkI l = 0 ↔ okIv l := by unfold chkI; split <;> simp_all
  refine ⟨fun hok0 => ?_, fun hno0 => by
    have hno : ¬ okIv l := fun h => hno0 (hcz.2 h)
    rw [findI, chkI, if_neg hno, if_neg hno]; exact ⟨rfl, rfl⟩⟩
  have hok := hcz.1 hok0
  have hu : Srt.Up Iv.hash ltN l := (Srt.chn_up (lt := ltN) Srt.totNat).1 hok.2.2
  have hl32 := hok.1
  refine ac229 ifind_T_ok (Nat.le_of_ble_eq_true rfl) ?_
  simp -implicitDefEqProofs only [cdA, go_sem, Go.Proofs.Tryz.f229, reduceIte, List.cons.injEq, cdB]
  refine fun _ => SWp.loop (ι := { x : Nat × Nat // x.1 ≤ x.2 ∧ x.2 ≤ l.length ∧ (∀ k, k < x.1 → (l.getD k default).hash < id) ∧ ∀ k, x.2 ≤ k → k < l.length → ¬ (l.getD k default).hash < id }) (fun x => ⟨[(0, .sl (ivs l)), (1, .int .u64 id), (2, .fn (.func 195) [] []), (8, .int .i64 l.length), (9, .int .i64 x.1.1), (10, .int .i64 x.1.2)], [], 0⟩) (fun x => x.1.2 - x.1.1) ⟨(0, l.length), by simp, by simp, fun k hk => absurd hk (by simp), fun k h1 h2 => absurd h1 (by simpa using h2)⟩ ?_ ?_
  · simp [go_sem]
  · rintro ⟨⟨i, j⟩, hij, hj, hlo, hup⟩
    dsimp only at hij hj hlo hup
    refine awp_sound ifind_T_ok.toS lv229 _ _ _ rfl ?_
    simp -implicitDefEqProofs only [cdA, go_sem, reduceIte, List.cons.injEq, cdB]
    rw [mid_eq hij hj ‹_›]
    refine ⟨fun h4 => ?_, fun h4 => ?_⟩
    · have hm : (i + j) / 2 < l.length := by omega
      rw [cmpS_neg, Int.toNat_natCast]
      refine ⟨by omega, fun h5 => ⟨⟨((i + j) / 2 + 1, j), by dsimp only; omega, hj, fun k hk => ?_, hup⟩, by dsimp only; omega, i64_in _ (by omega), rfl⟩, fun h5 => ⟨⟨(i, (i + j) / 2), by dsimp only; omega, by dsimp only; omega, hlo, fun k hk1 hk2 => ?_⟩, by dsimp only; omega, rfl, rfl⟩⟩
      · dsimp only at hk
        by_cases hkm : k = (i + j) / 2
        · rw [hkm]; omega
        · have := Srt.up_get.1 hu k _ (by omega) hm
          simp only [ltN] at this; omega
      · dsimp only at hk1
        by_cases hkm : k = (i + j) / 2
        · rw [hkm]; omega
        · have := Srt.up_get.1 hu ((i + j) / 2) k (by omega) hk2
          simp only [ltN] at this; omega
    · have hp : Srt.pos Iv.hash ltN l id = i := Srt.pos_eq (by omega) hlo (fun h => hup i (by omega) h)
      rw [findI, if_pos hok, Srt.thr, hp, cmpS_0]
      refine ⟨fun h5 => ⟨by omega, fun h6 => ?_, fun h6 => ?_⟩, fun h5 => ?_⟩
      · rw [if_pos (decide_eq_true ⟨by omega, by omega⟩)]; exact ⟨rfl, rfl⟩
      · rw [if_neg (by rw [decide_eq_true_iff]; omega)]; exact ⟨rfl, rfl⟩
      · rw [if_neg (by rw [decide_eq_true_iff]; omega)]; exact ⟨rfl, rfl⟩
def sp_ifind : List D → Option (Prop × D × Fr)
  | [.c (.sl z1), .c (.int .u64 z2)] => some (z1 = ivs (divs z1) ∧ z2 = (z2.toNat : Int), ifind_r (divs z1) z2.toNat, [])
  | _ => none
attribute [go_sem] sp_ifind
theorem sp_ifind_ok : ∀ rs p r fr, sp_ifind rs = some (p, r, fr) → p → FnOk Tryz.prog 169 rs r fr := by
  intro rs p r fr h hp
  unfold sp_ifind at h
  split at h <;> cases h
  obtain ⟨hc0, hc1⟩ := hp
  rename_i z1 z2
  obtain ⟨z1, rfl⟩ : ∃ m, z1 = ivs m := ⟨_, hc0⟩
  obtain ⟨z2, rfl⟩ : ∃ m : Nat, z2 = m := ⟨_, hc1⟩
  simp only [Int.toNat_natCast, divs_ivs]
  exact ifind_ok z1 z2
def nowI (x : Iv) (tick : Nat) : Int := if x.state = 1 ∧ x.till < tick then 4 else x.state
@[go_sem] def inow_r (x : Iv) (tick : Nat) : D := .int .i64 (nowI x tick)
@[go_sem] abbrev n_inow : FuncId := 192
@[go_sem] def inow_T : Tab := []
theorem inow_T_ok : TabOk Tryz.prog inow_T := TabOk.nil
set_option maxRecDepth 8000 in
set_option maxHeartbeats 1000000 in
theorem inow_ok (x : Iv) (tick : Nat)  : PureFn Tryz.prog 192 [.agg [.c (.int .u64 (x.hash : Int)), .c (.int .u64 (x.n : Int)), .c (.int .u64 (x.till : Int)), .c (.int .i64 x.state)], .c (.int .u64 (tick : Int))] (inow_r x tick) := by
  refine .of (ac192 inow_T_ok (Nat.le_of_ble_eq_true rfl) ?_)
  simp -implicitDefEqProofs only [cdA, go_sem, Go.Proofs.Tryz.f192, reduceIte, List.cons.injEq, cdB]
  unfold nowI
  refine ⟨fun h1 => ⟨fun h2 => ?_, fun h2 => ?_⟩, fun h1 => ?_⟩
  · rw [if_pos ⟨h1, by omega⟩]
  · rw [if_neg (by rintro ⟨_, h⟩; omega)]
  · rw [if_neg (by rintro ⟨h, _⟩; exact h1 h)]
def sp_inow : List D → Option (Prop × D × Fr)
  | [.agg [.c (.int .u64 z4), .c (.int .u64 z5), .c (.int .u64 z6), .c (.int .i64 z7)], .c (.int .u64 z8)] => some (z4 = (z4.toNat : Int) ∧ z5 = (z5.toNat : Int) ∧ z6 = (z6.toNat : Int) ∧ z8 = (z8.toNat : Int), inow_r (⟨z4.toNat, z5.toNat, z6.toNat, z7⟩ : Iv) z8.toNat, [])
  | _ => none
attribute [go_sem] sp_inow
theorem sp_inow_ok : ∀ rs p r fr, sp_inow rs = some (p, r, fr) → p → FnOk Tryz.prog 192 rs r fr := by
  intro rs p r fr h hp
  unfold sp_inow at h
  split at h <;> cases h
  obtain ⟨hc0, hc1, hc2, hc3⟩ := hp
  rename_i z4 z5 z6 z7 z8
  obtain ⟨z4, rfl⟩ : ∃ m : Nat, z4 = m := ⟨_, hc0⟩
  obtain ⟨z5, rfl⟩ : ∃ m : Nat, z5 = m := ⟨_, hc1⟩
  obtain ⟨z6, rfl⟩ : ∃ m : Nat, z6 = m := ⟨_, hc2⟩
  obtain ⟨z8, rfl⟩ : ∃ m : Nat, z8 = m := ⟨_, hc3⟩
  simp only [Int.toNat_natCast]
  exact inow_ok ⟨z4, z5, z6, z7⟩ z8
@[go_sem] def ivclonef_r (l : List Iv) : D := .vec 0 l.length
@[go_sem] def ivclonef_fr (l : List Iv) : Fr := [(4, 64, true, ivs l)]
@[go_sem] abbrev n_ivclonef : FuncId := 172
@[go_sem] def ivclonef_T : Tab := []
theorem ivclonef_T_ok : TabOk Tryz.prog ivclonef_T := TabOk.nil
set_option maxRecDepth 8000 in
set_option maxHeartbeats 1000000 in
theorem ivclonef_ok (l : List Iv) (hl : l.length ≤ 1000000) : FreshFn Tryz.prog 172 [.sl (ivs l)] (ivclonef_r l) (ivclonef_fr l) := by
  refine .of (ac172 ivclonef_T_ok (Nat.le_of_ble_eq_true rfl) ?_)
  simp -implicitDefEqProofs only [cdA, go_sem, Go.Proofs.Tryz.f172, reduceIte, List.cons.injEq, cdB]
  refine fun b hb => ⟨fun h => ?_, fun h => ?_⟩
  · exact ⟨[none], by simp [go_sem, hb h], by cases l <;> simp_all [go_sem, ivs]⟩
  · exact ⟨by omega, [some 0], by simp [go_sem]⟩
@[go_sem] def ivclonef_p (l : List Iv) : Prop := (l.length ≤ 1000000)
def sp_ivclonef : List D → Option (Prop × D × Fr)
  | [.c (.sl z9)] => some (z9 = ivs (divs z9) ∧ ivclonef_p (divs z9), ivclonef_r (divs z9), ivclonef_fr (divs z9))
  | _ => none
attribute [go_sem] sp_ivclonef
theorem sp_ivclonef_ok : ∀ rs p r fr, sp_ivclonef rs = some (p, r, fr) → p → FnOk Tryz.prog 172 rs r fr := by
  intro rs p r fr h hp
  unfold sp_ivclonef at h
  split at h <;> cases h
  obtain ⟨hc0, hp⟩ := hp
  rename_i z9
  obtain ⟨z9, rfl⟩ : ∃ m, z9 = ivs m := ⟨_, hc0⟩
  simp only [divs_ivs]
  simp only [divs_ivs, ivclonef_p] at hp
  exact (show FnOk _ _ _ _ _ from And.intro rfl (ivclonef_ok z9 hp))
def iendE (l : List Iv) (hash tick n : Nat) : Int :=
  if okIv l then (if Srt.thr Iv.hash ltN l hash = true then (if nowI (l.getD (Srt.pos Iv.hash ltN l hash) default) tick = 4 then 13 else if nowI (l.getD (Srt.pos Iv.hash ltN l hash) default) tick ≠ 1 then 10 else if n < (l.getD (Srt.pos Iv.hash ltN l hash) default).n then 9 else 0) else 5) else 1
def iendL (l : List Iv) (hash tick n : Nat) (st : Int) : List Iv × Int :=
  if iendE l hash tick n = 0 then (l.set (Srt.pos Iv.hash ltN l hash) { l.getD (Srt.pos Iv.hash ltN l hash) default with state := st }, 0) else ([], iendE l hash tick n)
@[go_sem] def icancel_r (l : List Iv) (hash : Nat) (tick : Nat) : D := .tup [.sl (ivs (iendL l hash tick MM 3).1), .int .i64 (iendL l hash tick MM 3).2]
@[go_sem] abbrev n_icancel : FuncId := 80
@[go_sem] def icancel_T : Tab := [(169, sp_ifind), (192, sp_inow), (172, sp_ivclonef)]
theorem icancel_T_ok : TabOk Tryz.prog icancel_T := (TabOk.cons sp_ifind_ok (TabOk.cons sp_inow_ok (TabOk.cons sp_ivclonef_ok TabOk.nil)))
set_option maxRecDepth 8000 in
set_option maxHeartbeats 1000000 in
theorem icancel_ok (l : List Iv) (hash : Nat) (tick : Nat)  : PureFn Tryz.prog 80 [.sl (ivs l), .c (.int .u64 (hash : Int)), .c (.int .u64 (tick : Int))] (icancel_r l hash tick) := by
  refine .of (ac80 icancel_T_ok (Nat.le_of_ble_eq_true rfl) ?_)
  simp -implicitDefEqProofs only [cdA, go_sem, Go.Proofs.Tryz.f80, reduceIte, List.cons.injEq, cdB]
  refine ac175 icancel_T_ok (Nat.le_of_ble_eq_true rfl) ?_
  simp -implicitDefEqProofs only [cdA, go_sem, Go.Proofs.Tryz.f175, reduceIte, List.cons.injEq, cdB]
  have hbad : ∀ e, iendE l hash tick MM = e → ¬ e = 0 → ivs (iendL l hash tick MM 3).1 = [] ∧ e = (iendL l hash tick MM 3).2 := fun e h1 h2 => by
    rw [iendL, if_neg (by rw [h1]; exact h2), h1]; exact ⟨rfl, rfl⟩
  by_cases hok : okIv l
  rotate_left 1
  · have ef : findI l hash = (0, 1) := by rw [findI, if_neg hok]
    rw [ef]
    exact ⟨fun h => absurd (show (1 : Int) = 0 from h) (by decide), fun _ => hbad 1 (by rw [iendE, if_neg hok]) (by decide)⟩
  by_cases ht : Srt.thr Iv.hash ltN l hash = true
  rotate_left 1
  · have ef : findI l hash = (((Srt.pos Iv.hash ltN l hash : Nat) : Int), 5) := by rw [findI, if_pos hok, if_neg ht]
    rw [ef]
    exact ⟨fun h => absurd (show (5 : Int) = 0 from h) (by decide), fun _ => hbad 5 (by rw [iendE, if_pos hok, if_neg ht]) (by decide)⟩
  have ef : findI l hash = (((Srt.pos Iv.hash ltN l hash : Nat) : Int), 0) := by rw [findI, if_pos hok, if_pos ht]
  have hp : Srt.pos Iv.hash ltN l hash < l.length := by
    have ht := ht
    unfold Srt.thr at ht
    exact (of_decide_eq_true ht).1
  have h256 := hok.1
  have he : iendE l hash tick MM = if nowI (l.getD (Srt.pos Iv.hash ltN l hash) default) tick = 4 then 13 else if nowI (l.getD (Srt.pos Iv.hash ltN l hash) default) tick ≠ 1 then 10 else if MM < (l.getD (Srt.pos Iv.hash ltN l hash) default).n then 9 else 0 := by rw [iendE, if_pos hok, if_pos ht]
  rw [ef]
  dsimp only
  rw [Int.toNat_natCast]
  refine ⟨fun _ => ⟨⟨by omega, by omega⟩, fun h1 => hbad 13 (by rw [he, if_pos h1]) (by decide), fun h1 => ⟨fun h2 => ⟨⟨by omega, by omega⟩, fun h3 => hbad 9 (by rw [he, if_neg h1, if_neg (fun h => h h2), if_pos (by unfold MM; omega)]) (by decide), fun h3 => ?_⟩, fun h2 => hbad 10 (by rw [he, if_neg h1, if_pos h2]) (by decide)⟩⟩, fun h => absurd rfl h⟩
  have h0 : iendE l hash tick MM = 0 := by rw [he, if_neg h1, if_neg (fun h => h h2), if_neg (by unfold MM; omega)]
  rw [iendL, if_pos h0]
  exact ⟨by omega, ⟨by omega, by omega⟩, hp, ⟨by rw [List.length_set], _, _, _, rfl⟩, rfl⟩
def sp_icancel : List D → Option (Prop × D × Fr)
  | [.c (.sl z10), .c (.int .u64 z11), .c (.int .u64 z12)] => some (z10 = ivs (divs z10) ∧ z11 = (z11.toNat : Int) ∧ z12 = (z12.toNat : Int), icancel_r (divs z10) z11.toNat z12.toNat, [])
  | _ => none
attribute [go_sem] sp_icancel
theorem sp_icancel_ok : ∀ rs p r fr, sp_icancel rs = some (p, r, fr) → p → FnOk Tryz.prog 80 rs r fr := by
  intro rs p r fr h hp
  unfold sp_icancel at h
  split at h <;> cases h
  obtain ⟨hc0, hc1, hc2⟩ := hp
  rename_i z10 z11 z12
  obtain ⟨z10, rfl⟩ : ∃ m, z10 = ivs m := ⟨_, hc0⟩
  obtain ⟨z11, rfl⟩ : ∃ m : Nat, z11 = m := ⟨_, hc1⟩
  obtain ⟨z12, rfl⟩ : ∃ m : Nat, z12 = m := ⟨_, hc2⟩
  simp only [Int.toNat_natCast, divs_ivs]
  exact icancel_ok z10 z11 z12
@[go_sem] def ipay_r (l : List Iv) (hash : Nat) (n : Nat) (tick : Nat) : D := .tup [.sl (ivs (iendL l hash tick n 2).1), .int .i64 (iendL l hash tick n 2).2]
@[go_sem] abbrev n_ipay : FuncId := 83
@[go_sem] def ipay_T : Tab := [(169, sp_ifind), (192, sp_inow), (172, sp_ivclonef)]
theorem ipay_T_ok : TabOk Tryz.prog ipay_T := (TabOk.cons sp_ifind_ok (TabOk.cons sp_inow_ok (TabOk.cons sp_ivclonef_ok TabOk.nil)))
set_option maxRecDepth 8000 in
set_option maxHeartbeats 1000000 in
theorem ipay_ok (l : List Iv) (hash : Nat) (n : Nat) (tick : Nat)  : PureFn Tryz.prog 83 [.sl (ivs l), .c (.int .u64 (hash : Int)), .c (.int .u64 (n : Int)), .c (.int .u64 (tick : Int))] (ipay_r l hash n tick) := by
  refine .of (ac83 ipay_T_ok (Nat.le_of_ble_eq_true rfl) ?_)
  simp -implicitDefEqProofs only [cdA, go_sem, Go.Proofs.Tryz.f83, reduceIte, List.cons.injEq, cdB]
  refine ac175 ipay_T_ok (Nat.le_of_ble_eq_true rfl) ?_
  simp -implicitDefEqProofs only [cdA, go_sem, Go.Proofs.Tryz.f175, reduceIte, List.cons.injEq, cdB]
  have hbad : ∀ e, iendE l hash tick n = e → ¬ e = 0 → ivs (iendL l hash tick n 2).1 = [] ∧ e = (iendL l hash tick n 2).2 := fun e h1 h2 => by
    rw [iendL, if_neg (by rw [h1]; exact h2), h1]; exact ⟨rfl, rfl⟩
  by_cases hok : okIv l
  rotate_left 1
  · have ef : findI l hash = (0, 1) := by rw [findI, if_neg hok]
    rw [ef]
    exact ⟨fun h => absurd (show (1 : Int) = 0 from h) (by decide), fun _ => hbad 1 (by rw [iendE, if_neg hok]) (by decide)⟩
  by_cases ht : Srt.thr Iv.hash ltN l hash = true
  rotate_left 1
  · have ef : findI l hash = (((Srt.pos Iv.hash ltN l hash : Nat) : Int), 5) := by rw [findI, if_pos hok, if_neg ht]
    rw [ef]
    exact ⟨fun h => absurd (show (5 : Int) = 0 from h) (by decide), fun _ => hbad 5 (by rw [iendE, if_pos hok, if_neg ht]) (by decide)⟩
  have ef : findI l hash = (((Srt.pos Iv.hash ltN l hash : Nat) : Int), 0) := by rw [findI, if_pos hok, if_pos ht]
  have hp : Srt.pos Iv.hash ltN l hash < l.length := by
    have ht := ht
    unfold Srt.thr at ht
    exact (of_decide_eq_true ht).1
  have h256 := hok.1
  have he : iendE l hash tick n = if nowI (l.getD (Srt.pos Iv.hash ltN l hash) default) tick = 4 then 13 else if nowI (l.getD (Srt.pos Iv.hash ltN l hash) default) tick ≠ 1 then 10 else if n < (l.getD (Srt.pos Iv.hash ltN l hash) default).n then 9 else 0 := by rw [iendE, if_pos hok, if_pos ht]
  rw [ef]
  dsimp only
  rw [Int.toNat_natCast]
  refine ⟨fun _ => ⟨⟨by omega, by omega⟩, fun h1 => hbad 13 (by rw [he, if_pos h1]) (by decide), fun h1 => ⟨fun h2 => ⟨⟨by omega, by omega⟩, fun h3 => hbad 9 (by rw [he, if_neg h1, if_neg (fun h => h h2), if_pos (by skip; omega)]) (by decide), fun h3 => ?_⟩, fun h2 => hbad 10 (by rw [he, if_neg h1, if_pos h2]) (by decide)⟩⟩, fun h => absurd rfl h⟩
  have h0 : iendE l hash tick n = 0 := by rw [he, if_neg h1, if_neg (fun h => h h2), if_neg (by skip; omega)]
  rw [iendL, if_pos h0]
  exact ⟨by omega, ⟨by omega, by omega⟩, hp, ⟨by rw [List.length_set], _, _, _, rfl⟩, rfl⟩
def sp_ipay : List D → Option (Prop × D × Fr)
  | [.c (.sl z13), .c (.int .u64 z14), .c (.int .u64 z15), .c (.int .u64 z16)] => some (z13 = ivs (divs z13) ∧ z14 = (z14.toNat : Int) ∧ z15 = (z15.toNat : Int) ∧ z16 = (z16.toNat : Int), ipay_r (divs z13) z14.toNat z15.toNat z16.toNat, [])
  | _ => none
attribute [go_sem] sp_ipay
theorem sp_ipay_ok : ∀ rs p r fr, sp_ipay rs = some (p, r, fr) → p → FnOk Tryz.prog 83 rs r fr := by
  intro rs p r fr h hp
  unfold sp_ipay at h
  split at h <;> cases h
  obtain ⟨hc0, hc1, hc2, hc3⟩ := hp
  rename_i z13 z14 z15 z16
  obtain ⟨z13, rfl⟩ : ∃ m, z13 = ivs m := ⟨_, hc0⟩
  obtain ⟨z14, rfl⟩ : ∃ m : Nat, z14 = m := ⟨_, hc1⟩
  obtain ⟨z15, rfl⟩ : ∃ m : Nat, z15 = m := ⟨_, hc2⟩
  obtain ⟨z16, rfl⟩ : ∃ m : Nat, z16 = m := ⟨_, hc3⟩
  simp only [Int.toNat_natCast, divs_ivs]
  exact ipay_ok z13 z14 z15 z16
def overI (tick : Nat) (x : Iv) : Bool := decide (nowI x tick = 4 ∨ x.state = 3)
def sweepI (l : List Iv) (tick : Nat) : List Iv × Int := if okIv l then (l.filter fun x => !overI tick x, 0) else ([], 1)
@[go_sem] def isweep_r (l : List Iv) (tick : Nat) : D := .tup [.sl (ivs (sweepI l tick).1), .int .i64 (sweepI l tick).2]
@[go_sem] abbrev n_isweep : FuncId := 100
@[go_sem] def isweep_T : Tab := [(103, sp_icheck), (192, sp_inow), (172, sp_ivclonef)]
theorem isweep_T_ok : TabOk Tryz.prog isweep_T := (TabOk.cons sp_icheck_ok (TabOk.cons sp_inow_ok (TabOk.cons sp_ivclonef_ok TabOk.nil)))
set_option maxRecDepth 8000 in
set_option maxHeartbeats 1000000 in
theorem isweep_ok (l : List Iv) (tick : Nat)  : PureFn Tryz.prog 100 [.sl (ivs l), .c (.int .u64 (tick : Int))] (isweep_r l tick) := by
  refine .of (ac100 isweep_T_ok (Nat.le_of_ble_eq_true rfl) ?_)
  simp -implicitDefEqProofs only [cdA, go_sem, Go.Proofs.Tryz.f100, reduceIte, List.cons.injEq, cdB]
  have hcz : chkI l = 0 ↔ okIv l := by unfold chkI; split <;> rename_i h <;> simp only [h] <;> decide
  refine ⟨fun h0 => ?_, fun h0 => by
    have hno : ¬ okIv l := fun h => h0 (hcz.2 h)
    rw [sweepI, chkI, if_neg hno, if_neg hno]; exact ⟨rfl, rfl⟩⟩
  have hok := hcz.1 h0
  have h256 := hok.1
  refine ⟨by omega, ?_⟩
  refine ACall.seal ?_
  refine acall_introM (n := 42) (fn := Tryz.f193) (by kernel_rfl) rfl rfl rfl (Nat.le_of_ble_eq_true rfl) (rs := [.tmp 4]) rfl ?_
  refine SWm.seq (SWm.awp isweep_T_ok.toS lv193 rfl ?_)
  simp -implicitDefEqProofs only [cdA, go_sem, reduceIte, List.cons.injEq, cdB]
  refine SWm.seq (SWm.awp isweep_T_ok.toS lv193 rfl ?_)
  simp -implicitDefEqProofs only [cdA, go_sem, reduceIte, List.cons.injEq, cdB]
  refine ac238 isweep_T_ok (Nat.le_of_ble_eq_true rfl) ?_
  simp -implicitDefEqProofs only [cdA, go_sem, Go.Proofs.Tryz.f238, reduceIte, List.cons.injEq, cdB]
  refine fun _ => SWp.loop (ι := { i : Nat // i ≤ l.length ∧ ∀ j, j < i → overI tick (l.getD j default) = false }) (fun i => ⟨[(0, .vec 1 l.length), (1, .fn (.func 191) [] [.ref 0 0]), (7, .int .i64 l.length), (8, .int .i64 i.1)],
    [(1, .vec true 4 64 (ivs l)), (0, .box [.c (.int .u64 tick)])], 2⟩) (fun i => l.length - i.1) ⟨0, by simp⟩ ?_ ?_
  · simp [go_sem]
  · rintro ⟨i, hi, hall⟩
    refine awp_sound isweep_T_ok.toS lv238 _ _ _ rfl ?_
    simp -implicitDefEqProofs only [cdA, go_sem, reduceIte, List.cons.injEq, cdB]
    refine ⟨fun h4 => ⟨by omega, by omega, ?_⟩, fun h4 => ?_⟩
    · skip
      refine ac191 isweep_T_ok (Nat.le_of_ble_eq_true rfl) ?_
      simp -implicitDefEqProofs only [cdA, go_sem, Go.Proofs.Tryz.f191, reduceIte, List.cons.injEq, cdB]
      have hi' : i < l.length := by omega
      have hov : ∀ x : Iv, overI tick x = true ↔ nowI x tick = 4 ∨ x.state = 3 := fun x => decide_eq_true_iff
      have hb0 : overI tick (l.getD i default) = true → l.take i = (l.take (i + 1)).filter (fun y => !overI tick y) := fun hv => by
        rw [take_succ hi', List.filter_append, List.filter_eq_self.2 (fun x hx => ?_), List.filter_cons_of_neg (by rw [hv]; decide), List.filter_nil, List.append_nil]
        obtain ⟨j, hj, rfl⟩ := mem_getD.1 hx
        rw [List.length_take] at hj
        rw [List.getD_eq_getElem?_getD, List.getElem?_take_of_lt (by omega), ← List.getD_eq_getElem?_getD, hall j (by omega)]; rfl
      refine ⟨fun h1 => ⟨fun h2 => ?_, fun h2 => ⟨⟨i + 1, by omega, fun j hj => ?_⟩, by dsimp only; omega, i64_in _ (by omega)⟩⟩, fun h1 => ?_⟩
      rotate_left 1
      · by_cases hji : j = i
        · subst hji
          have : ¬ overI tick (l.getD j default) = true := fun h => by
            rcases (hov _).1 h with h | h
            · exact h1 h
            · exact h2 h
          simpa using this
        · exact hall j (by omega)
      all_goals
        have hb1 := hb0 ((hov _).2 (by first | exact .inl h1 | exact .inr h2))
        refine SWm.seq (SWm.awp isweep_T_ok.toS lv193 rfl ?_)
        simp -implicitDefEqProofs only [cdA, go_sem, reduceIte, List.cons.injEq, cdB]
        refine ⟨fun h => h.elim, ?_⟩
        refine SWm.seq (SWm.seq (SWm.awp isweep_T_ok.toS lv193 rfl ?_))
        simp -implicitDefEqProofs only [cdA, go_sem, reduceIte, List.cons.injEq, cdB]
        rw [i64_in _ (by omega)]
        refine SWm.block (SWm.of (SWp.loop (ι := { x : Nat × Nat × List Iv // x.1 < x.2.1 ∧ x.2.1 ≤ l.length ∧ x.2.2.length = l.length ∧ x.2.2.take x.1 = (l.take x.2.1).filter (fun y => !overI tick y) ∧ x.2.2.drop x.2.1 = l.drop x.2.1 })
          (fun x => ⟨[(0, .vec 1 l.length), (1, .fn (.func 191) [] [.ref 0 0]), (5, .int .i64 x.1.1), (6, .int .i64 x.1.2.1)],
            [(2, .box [.c (.int .u64 (l.getD i default).hash), .c (.int .u64 (l.getD i default).n), .c (.int .u64 (l.getD i default).till), .c (.int .i64 (l.getD i default).state)]), (1, .vec true 4 64 (ivs x.1.2.2)), (0, .box [.c (.int .u64 tick)])], 3⟩) (fun x => l.length - x.1.2.1) ⟨(i, i + 1, l), by dsimp only; omega, by dsimp only; omega, rfl, hb1, rfl⟩ ?_ ?_))
      all_goals first | (simp [go_sem]; done) | skip
      all_goals
        rintro ⟨⟨k, j, m⟩, hkj, hj, hml, hmt, hmd⟩
        refine awp_sound isweep_T_ok.toS lv193 _ _ _ rfl ?_
        simp -implicitDefEqProofs only [cdA, go_sem, reduceIte, List.cons.injEq, cdB]
        dsimp only at hkj hj hml hmt hmd
        refine fun _ => ⟨fun h5 => ⟨by omega, ⟨hml.symm, by omega⟩, ?_⟩, fun h5 => ?_⟩
        · skip
          refine ac191 isweep_T_ok (Nat.le_of_ble_eq_true rfl) ?_
          simp -implicitDefEqProofs only [cdA, go_sem, Go.Proofs.Tryz.f191, reduceIte, List.cons.injEq, cdB]
          have hj' : j < l.length := by omega
          have hmj : m.getD j default = l.getD j default := by
            have h6 : (m.drop j)[0]? = (l.drop j)[0]? := by rw [hmd]
            rw [List.getElem?_drop, List.getElem?_drop, Nat.add_zero] at h6
            rw [List.getD_eq_getElem?_getD, h6, ← List.getD_eq_getElem?_getD]
          have hmd2 : m.drop (j + 1) = l.drop (j + 1) := by
            rw [← List.drop_drop, hmd, List.drop_drop]
          have hgo : overI tick (l.getD j default) = true → m.take k = (l.take (j + 1)).filter (fun y => !overI tick y) := fun hv => by
            rw [take_succ hj', List.filter_append, List.filter_cons_of_neg (by rw [hv]; decide), List.filter_nil, List.append_nil, hmt]
          have hkeep : ¬ overI tick (l.getD j default) = true → (m.set k (l.getD j default)).take (k + 1) = (l.take (j + 1)).filter (fun y => !overI tick y) := fun hv => by
            rw [take_succ hj', List.filter_append, List.filter_cons_of_pos (by simpa using hv), List.filter_nil, ← hmt, List.take_set, take_succ (by omega), List.set_append_right _ _ (by rw [List.length_take]; omega), List.length_take, show k - min k m.length = 0 by omega]
            rfl
          rw [hmj]
          refine ⟨fun h6 => ⟨fun h7 => ⟨⟨(k, j + 1, m), by dsimp only; omega, hj', hml, hgo ((hov _).2 (.inr h7)), hmd2⟩, by dsimp only; omega, ⟨rfl, i64_in _ (by omega)⟩, rfl⟩, fun h7 => ⟨by omega, ⟨hml.symm, by omega⟩, ⟨(k + 1, j + 1, m.set k (l.getD j default)), by dsimp only; omega, hj', by dsimp only; rw [List.length_set]; exact hml, hkeep (fun h => by rcases (hov _).1 h with h | h <;> first | exact h6 h | exact h7 h), ?_⟩, by dsimp only; omega, ⟨i64_in _ (by omega), i64_in _ (by omega)⟩, rfl⟩⟩,
            fun h6 => ⟨⟨(k, j + 1, m), by dsimp only; omega, hj', hml, hgo ((hov _).2 (.inl h6)), hmd2⟩, by dsimp only; omega, ⟨rfl, i64_in _ (by omega)⟩, rfl⟩⟩
          dsimp only
          rw [List.drop_set_of_lt (by omega)]; exact hmd2
        · have hj' : j = l.length := by omega
          subst hj'
          refine SWm.opn 1 rfl fun cp hc hcm => ?_
          rw [ivs_length] at hc
          refine SWm.awp isweep_T_ok.toS lv193 rfl ?_
          simp -implicitDefEqProofs only [cdA, go_sem, List.map_cons, List.map_nil, hml, eq_self, reduceIte, List.cons.injEq, cdB]
          have hsw : sweepI l tick = (m.take k, 0) := by rw [sweepI, if_pos hok, hmt, List.take_length]
          have hkl : (m.take k).length = k := by rw [List.length_take]; omega
          have hfin : ∀ Z : List (List C), List.take k (fit cp 4 (List.take k (fit cp 4 (ivs m)) ++ Z)) = ivs (m.take k) := fun Z => by
            rw [fit_take (by rw [List.length_append, List.length_take, fit_length]; omega) (by omega), List.take_append_of_le_length (by rw [List.length_take, fit_length]; omega), List.take_take, Nat.min_self, fit_take (by rw [ivs_length]; omega) (by omega)]
            simp [ivs, List.map_take]
          rw [hfin, hsw]
          exact ⟨by omega, by omega, ⟨hkl.symm, _, _, _, rfl⟩, rfl⟩
    · have hi' : i = l.length := by omega
      subst hi'
      have hsw : sweepI l tick = (l, 0) := by
        rw [sweepI, if_pos hok, List.filter_eq_self.2 fun x hx => ?_]
        obtain ⟨j, hj, rfl⟩ := mem_getD.1 hx
        rw [hall j (by omega)]; rfl
      refine SWm.seq (SWm.awp isweep_T_ok.toS lv193 rfl ?_)
      simp -implicitDefEqProofs only [cdA, go_sem, reduceIte, List.cons.injEq, cdB]
      rw [hsw]
      exact ⟨⟨rfl, _, _, _, rfl⟩, rfl⟩
def sp_isweep : List D → Option (Prop × D × Fr)
  | [.c (.sl z17), .c (.int .u64 z18)] => some (z17 = ivs (divs z17) ∧ z18 = (z18.toNat : Int), isweep_r (divs z17) z18.toNat, [])
  | _ => none
attribute [go_sem] sp_isweep
theorem sp_isweep_ok : ∀ rs p r fr, sp_isweep rs = some (p, r, fr) → p → FnOk Tryz.prog 100 rs r fr := by
  intro rs p r fr h hp
  unfold sp_isweep at h
  split at h <;> cases h
  obtain ⟨hc0, hc1⟩ := hp
  rename_i z17 z18
  obtain ⟨z17, rfl⟩ : ∃ m, z17 = ivs m := ⟨_, hc0⟩
  obtain ⟨z18, rfl⟩ : ∃ m : Nat, z18 = m := ⟨_, hc1⟩
  simp only [Int.toNat_natCast, divs_ivs]
  exact isweep_ok z17 z18
end Dm
namespace Dm
open Go Go.Proofs Go.IntWalk
end Dm
namespace Dm
open Go Go.Proofs Go.IntWalk
theorem hid_eq {l : List Ch} {p : Nat} {d : Ch} (hp : p < l.length) (hh : d.holds = (l.getD p default).holds) : hidL (l.set p d) = hidL l := by
  conv => rhs; rw [split_at hp]
  rw [split_set hp]
  simp only [hidL, List.flatMap_append, List.flatMap_cons, hh]
theorem hl_eq {l : List Ch} {p : Nat} {d : Ch} (hp : p < l.length) (hi : d.id = (l.getD p default).id) (hh : d.holds = (l.getD p default).holds) : hlL (l.set p d) = hlL l := by
  conv => rhs; rw [split_at hp]
  rw [split_set hp]
  simp only [hlL, hlC, List.flatMap_append, List.flatMap_cons, hh, hi]
theorem led_set {l : List Ch} {p : Nat} {d : Ch} (hok : okLd l) (hp : p < l.length) (hd : okCh d) (hi : d.id = (l.getD p default).id) (hh : d.holds = (l.getD p default).holds) (ha : allC d = allC (l.getD p default)) :
    okLd (l.set p d) ∧ hlL (l.set p d) = hlL l := by
  have hu : Srt.Up Ch.id ltN l := (Srt.chn_up (lt := ltN) Srt.totNat).1 hok.2.2.1
  refine ⟨⟨by rw [List.length_set]; exact hok.1, fun y hy => ?_, ?_, ?_, ?_⟩, hl_eq hp hi hh⟩
  · rcases List.mem_or_eq_of_mem_set hy with h | rfl
    · exact hok.2.1 y h
    · exact hd
  · exact (Srt.chn_up (lt := ltN) Srt.totNat).2 (Srt.set_up hu hp hi)
  · rw [hid_eq hp hh]; exact hok.2.2.2.1
  · rw [totL_set hp ha]; exact hok.2.2.2.2
theorem cpu_ok {c : Ch} {n : Nat} (h : cpuE c n = 0) : okCh c ∧ c.op = true ∧ n ≤ c.rem ∧ cpuC c n = (⟨c.id, c.loc + n, c.rem - n, c.res, c.most, c.holds, c.op⟩, 0) ∧ okCh (cpuC c n).1 ∧ allC (cpuC c n).1 = allC c := by
  have e : cpuC c n = (⟨c.id, c.loc + n, c.rem - n, c.res, c.most, c.holds, c.op⟩, 0) := by rw [cpuC, if_pos h]
  unfold cpuE at h
  split at h
  · cases h
  rename_i h1
  split at h
  · cases h
  rename_i h2
  split at h
  · cases h
  rename_i h3
  have hok : okCh c := Decidable.byContradiction fun hn => h1 (.inl hn)
  obtain ⟨o1, o2, o3, o4, o5, o6, o7, o8, o9, o10⟩ := hok
  have hok : okCh c := ⟨o1, o2, o3, o4, o5, o6, o7, o8, o9, o10⟩
  have hok2 : okCh (⟨c.id, c.loc + n, c.rem - n, c.res, c.most, c.holds, c.op⟩ : Ch) := by
    refine ⟨o1, o2, o3, o4, o5, o6, o7, ?_, ?_, ?_⟩
    · show c.loc + n ≤ MM; unfold MM at *; omega
    · show c.rem - n ≤ MM; unfold MM at *; omega
    · show held c.holds + (c.loc + n) + (c.rem - n) ≤ MM; unfold MM at *; omega
  refine ⟨hok, by simpa using h2, by omega, e, by rw [e]; exact hok2, ?_⟩
  rw [e]
  unfold allC sumsC
  rw [if_pos hok2, if_pos hok]
  show held c.holds + (c.loc + n) + (c.rem - n) = held c.holds + c.loc + c.rem
  omega
theorem ccl_ok {c : Ch} (h : cclE c = 0) : okCh c ∧ c.op = true ∧ c.holds = [] ∧ cclC c = (⟨c.id, c.loc, c.rem, c.res, c.most, [], false⟩, 0) ∧ okCh (cclC c).1 ∧ allC (cclC c).1 = allC c := by
  have e : cclC c = (⟨c.id, c.loc, c.rem, c.res, c.most, [], false⟩, 0) := by rw [cclC, if_pos h]
  unfold cclE at h
  split at h
  · cases h
  rename_i h1
  split at h
  · cases h
  rename_i h2
  split at h
  · cases h
  rename_i h3
  have hok : okCh c := Decidable.byContradiction h1
  have hh : c.holds = [] := List.eq_nil_of_length_eq_zero (by omega)
  obtain ⟨o1, o2, o3, o4, o5, o6, o7, o8, o9, o10⟩ := hok
  have hok : okCh c := ⟨o1, o2, o3, o4, o5, o6, o7, o8, o9, o10⟩
  rw [hh] at o3 o5 o6 o7 o10
  have hok2 : okCh (⟨c.id, c.loc, c.rem, c.res, c.most, [], false⟩ : Ch) := ⟨o1, o2, o3, fun _ => rfl, o5, o6, o7, o8, o9, o10⟩
  refine ⟨hok, by simpa using h2, hh, e, by rw [e]; exact hok2, ?_⟩
  rw [e]
  unfold allC sumsC
  rw [if_pos hok2, if_pos hok, hh]
theorem lpu_all {l : List Ch} {id n : Nat} (h : (lpuL l id n).2 = 0) : okLd l ∧ ∃ p, p < l.length ∧ (l.getD p default).id = id ∧ cpuE (l.getD p default) n = 0 ∧ (lpuL l id n).1 = l.set p (cpuC (l.getD p default) n).1 ∧ okLd (lpuL l id n).1 ∧ hlL (lpuL l id n).1 = hlL l := by
  unfold lpuL at h ⊢
  split at h
  · rename_i hok
    split at h
    · rename_i ht
      split at h
      · rename_i he
        obtain ⟨h1, h2⟩ := thr_at ht
        obtain ⟨g1, g2, g3, g4, g5, g6⟩ := cpu_ok he
        rw [if_pos hok, if_pos ht, if_pos he]
        have h3 := led_set hok h1 g5 (by rw [g4]) (by rw [g4]) g6
        exact ⟨hok, _, h1, h2, he, rfl, h3⟩
      · rename_i he; exact absurd h he
    · cases h
  · cases h
theorem lcl_all {l : List Ch} {id : Nat} (h : (lclL l id).2 = 0) : okLd l ∧ ∃ p, p < l.length ∧ (l.getD p default).id = id ∧ cclE (l.getD p default) = 0 ∧ (lclL l id).1 = l.set p (cclC (l.getD p default)).1 ∧ okLd (lclL l id).1 ∧ hlL (lclL l id).1 = hlL l := by
  unfold lclL at h ⊢
  split at h
  · rename_i hok
    split at h
    · rename_i ht
      split at h
      · rename_i he
        obtain ⟨h1, h2⟩ := thr_at ht
        obtain ⟨g1, g2, g3, g4, g5, g6⟩ := ccl_ok he
        rw [if_pos hok, if_pos ht, if_pos he]
        have h3 := led_set hok h1 g5 (by rw [g4]) (by rw [g4, g3]) g6
        exact ⟨hok, _, h1, h2, he, rfl, h3⟩
      · rename_i he; exact absurd h he
    · cases h
  · cases h
theorem lpu_fine {l : List Ch} {id n : Nat} (h : (lpuL l id n).2 = 0) : okLd (lpuL l id n).1 := by
  obtain ⟨_, _, _, _, _, _, h, _⟩ := lpu_all h; exact h
theorem lcl_fine {l : List Ch} {id : Nat} (h : (lclL l id).2 = 0) : okLd (lclL l id).1 := by
  obtain ⟨_, _, _, _, _, _, h, _⟩ := lcl_all h; exact h
theorem iend_2 {l : List Iv} {hash tick n : Nat} {st : Int} : (iendL l hash tick n st).2 = iendE l hash tick n := by
  unfold iendL
  split
  · rename_i h; exact h.symm
  · rfl
theorem iendE_0 {l : List Iv} {hash tick n : Nat} (h : iendE l hash tick n = 0) : okIv l ∧ Srt.pos Iv.hash ltN l hash < l.length ∧ (l.getD (Srt.pos Iv.hash ltN l hash) default).hash = hash ∧ nowI (l.getD (Srt.pos Iv.hash ltN l hash) default) tick = 1 ∧ (l.getD (Srt.pos Iv.hash ltN l hash) default).n ≤ n := by
  unfold iendE at h
  split at h
  · rename_i h1
    split at h
    · rename_i h2
      obtain ⟨g1, g2⟩ := thr_at h2
      split at h
      · cases h
      split at h
      · cases h
      rename_i h4
      split at h
      · cases h
      rename_i h5
      exact ⟨h1, g1, g2, Decidable.byContradiction h4, by omega⟩
    · cases h
  · cases h
theorem iend_all {l : List Iv} {hash tick n : Nat} {st : Int} (h : (iendL l hash tick n st).2 = 0) (hst : 1 ≤ st ∧ st ≤ 3) : okIv l ∧ okIv (iendL l hash tick n st).1 ∧ ∃ p, p < l.length ∧ p = Srt.pos Iv.hash ltN l hash ∧ (l.getD p default).hash = hash ∧ nowI (l.getD p default) tick = 1 ∧ (iendL l hash tick n st).1 = l.set p { l.getD p default with state := st } := by
  rw [iend_2] at h
  obtain ⟨h1, h2, h3, h4, h5⟩ := iendE_0 h
  have e : (iendL l hash tick n st).1 = l.set (Srt.pos Iv.hash ltN l hash) { l.getD (Srt.pos Iv.hash ltN l hash) default with state := st } := by rw [iendL, if_pos h]
  rw [e]
  refine ⟨h1, ⟨by rw [List.length_set]; exact h1.1, fun x hx => ?_, ?_⟩, _, h2, rfl, h3, h4, rfl⟩
  · rcases List.mem_or_eq_of_mem_set hx with h | rfl
    · exact h1.2.1 x h
    · exact ⟨(h1.2.1 _ (mem_getD.2 ⟨_, h2, rfl⟩)).1, hst⟩
  · exact (Srt.chn_up (lt := ltN) Srt.totNat).2 (Srt.set_up ((Srt.chn_up (lt := ltN) Srt.totNat).1 h1.2.2) h2 rfl)
theorem iend_len {l : List Iv} {hash tick n : Nat} {st : Int} (h : (iendL l hash tick n st).2 = 0) : (iendL l hash tick n st).1.length ≤ 256 := by
  rw [iend_2] at h
  have := (iendE_0 h).1.1
  rw [iendL, if_pos h, List.length_set]; exact this
theorem sweep_ok {l : List Iv} {tick : Nat} (h : (sweepI l tick).2 = 0) : okIv l ∧ okIv (sweepI l tick).1 ∧ (sweepI l tick).1 = l.filter fun x => !overI tick x := by
  unfold sweepI at h ⊢
  split at h
  · rename_i h1
    rw [if_pos h1]
    have hs : (l.filter fun x => !overI tick x).Sublist l := List.filter_sublist
    refine ⟨h1, ⟨Nat.le_trans hs.length_le h1.1, fun x hx => h1.2.1 x (hs.subset hx), ?_⟩, rfl⟩
    exact (Srt.chn_up (lt := ltN) Srt.totNat).2 (List.Pairwise.sublist hs ((Srt.chn_up (lt := ltN) Srt.totNat).1 h1.2.2))
  · cases h
end Dm
namespace Dm
open Go Go.Proofs Go.IntWalk
def wreI (v : Wl) (hash : Nat) (n : Nat) (ch : Nat) : List Iv × Int := iendL v.i hash v.tick n 2
def wreC (v : Wl) (hash : Nat) (n : Nat) (ch : Nat) : List Ch × Int := lpuL v.c ch n
def wreF (v : Wl) (hash : Nat) (n : Nat) (ch : Nat) : Fd × Nat × Int := addF v.f 5 hash n
def wreE (v : Wl) (hash : Nat) (n : Nat) (ch : Nat) : Int := if ¬ okW v then 1 else if (wreI v hash n ch).2 ≠ 0 then (wreI v hash n ch).2 else if (wreC v hash n ch).2 ≠ 0 then (wreC v hash n ch).2 else (wreF v hash n ch).2.2
def wreW (v : Wl) (hash : Nat) (n : Nat) (ch : Nat) : Wl × Int := if wreE v hash n ch = 0 then (⟨(wreC v hash n ch).1, v.w, (wreI v hash n ch).1, v.p, (wreF v hash n ch).1, v.next, v.tick⟩, 0) else (zeroW, wreE v hash n ch)
@[go_sem] def wreceive_r (v : Wl) (hash : Nat) (n : Nat) (ch : Nat) : D := .tup [.agg [.sl (chs (wreW v hash n ch).1.c), .sl (wts (wreW v hash n ch).1.w), .sl (ivs (wreW v hash n ch).1.i), .sl (pys (wreW v hash n ch).1.p), .int .u64 (wreW v hash n ch).1.f.next, .sl (evs (wreW v hash n ch).1.f.l), .int .u64 (wreW v hash n ch).1.next, .int .u64 (wreW v hash n ch).1.tick], .int .i64 (wreW v hash n ch).2]
@[go_sem] abbrev n_wreceive : FuncId := 26
@[go_sem] def wreceive_T : Tab := [(37, sp_wcheck), (83, sp_ipay), (85, sp_lpush), (142, sp_fadd), (119, sp_wown)]
theorem wreceive_T_ok : TabOk Tryz.prog wreceive_T := (TabOk.cons sp_wcheck_ok (TabOk.cons sp_ipay_ok (TabOk.cons sp_lpush_ok (TabOk.cons sp_fadd_ok (TabOk.cons sp_wown_ok TabOk.nil)))))
set_option maxRecDepth 8000 in
set_option maxHeartbeats 1000000 in
theorem wreceive_ok (v : Wl) (hash : Nat) (n : Nat) (ch : Nat) (h : v.f.next ≤ 18446744073709551615) : PureFn Tryz.prog 26 [.agg [.sl (chs v.c), .sl (wts v.w), .sl (ivs v.i), .sl (pys v.p), .c (.int .u64 (v.f.next : Int)), .sl (evs v.f.l), .c (.int .u64 (v.next : Int)), .c (.int .u64 (v.tick : Int))], .c (.int .u64 (hash : Int)), .c (.int .u64 (n : Int)), .c (.int .u64 (ch : Int))] (wreceive_r v hash n ch) := by
  refine .of (ac26 wreceive_T_ok (Nat.le_of_ble_eq_true rfl) ?_)
  simp -implicitDefEqProofs only [cdA, go_sem, Go.Proofs.Tryz.f26, reduceIte, List.cons.injEq, cdB]
  refine ac45 wreceive_T_ok (Nat.le_of_ble_eq_true rfl) ?_
  simp -implicitDefEqProofs only [cdA, go_sem, Go.Proofs.Tryz.f45, reduceIte, List.cons.injEq, cdB]
  refine ADraw.run us45_1 wreceive_T_ok follows_mixed (by kernel_rfl) (by kernel_rfl) ?_
  simp -implicitDefEqProofs only [cdA, go_sem, reduceIte, List.cons.injEq, cdB]
  refine ⟨h, ?_⟩
  have hbad : ∀ e : Int, wreE v hash n ch = e → ¬ e = 0 → (chs (wreW v hash n ch).1.c = [] ∧ wts (wreW v hash n ch).1.w = [] ∧ ivs (wreW v hash n ch).1.i = [] ∧ pys (wreW v hash n ch).1.p = [] ∧ 0 = ((wreW v hash n ch).1.f.next : Int) ∧ evs (wreW v hash n ch).1.f.l = [] ∧ 0 = ((wreW v hash n ch).1.next : Int) ∧ 0 = ((wreW v hash n ch).1.tick : Int)) ∧ e = (wreW v hash n ch).2 := fun e h1 h2 => by
    have : wreW v hash n ch = (zeroW, e) := by rw [wreW, if_neg (by rw [h1]; exact h2), h1]
    rw [this]; exact ⟨⟨rfl, rfl, rfl, rfl, rfl, rfl, rfl, rfl⟩, rfl⟩
  by_cases hok : okW v
  rotate_left 1
  · have hck : (chkW v = 0) = False := eq_false fun h => hok (chkW_0.1 h)
    have he : wreE v hash n ch = 1 := by rw [wreE, if_pos hok]
    have hc1 : chkW v = 1 := by rw [chkW, if_neg hok]
    skip
    refine ac75 wreceive_T_ok (Nat.le_of_ble_eq_true rfl) ?_
    simp -implicitDefEqProofs only [cdA, go_sem, Go.Proofs.Tryz.f75, hck, cdN, reduceIte, List.cons.injEq, cdB]
    refine ac53 wreceive_T_ok (Nat.le_of_ble_eq_true rfl) ?_
    simp -implicitDefEqProofs only [cdA, go_sem, Go.Proofs.Tryz.f53, hck, cdN, reduceIte, List.cons.injEq, cdB]
    refine ac56 wreceive_T_ok (Nat.le_of_ble_eq_true rfl) ?_
    simp -implicitDefEqProofs only [cdA, go_sem, Go.Proofs.Tryz.f56, reduceIte, List.cons.injEq, cdB]
    refine ac140 wreceive_T_ok (Nat.le_of_ble_eq_true rfl) ?_
    simp -implicitDefEqProofs only [cdA, go_sem, Go.Proofs.Tryz.f140, hck, cdN, reduceIte, List.cons.injEq, cdB]
    refine ac47 wreceive_T_ok (Nat.le_of_ble_eq_true rfl) ?_
    simp -implicitDefEqProofs only [cdA, go_sem, Go.Proofs.Tryz.f47, hck, cdN, reduceIte, List.cons.injEq, cdB]
    refine ADraw.run us47_2 wreceive_T_ok follows_mixed (by kernel_rfl) (by kernel_rfl) ?_
    simp -implicitDefEqProofs only [cdA, go_sem, hck, cdN, reduceIte, List.cons.injEq, cdB]
    exact hbad _ (he.trans hc1.symm) (by rw [hc1]; decide)
  have hck : (chkW v = 0) = True := eq_true (chkW_0.2 hok)
  refine ac75 wreceive_T_ok (Nat.le_of_ble_eq_true rfl) ?_
  simp -implicitDefEqProofs only [cdA, go_sem, Go.Proofs.Tryz.f75, hck, cdN, reduceIte, List.cons.injEq, cdB]
  refine ac82 wreceive_T_ok (Nat.le_of_ble_eq_true rfl) ?_
  simp -implicitDefEqProofs only [cdA, go_sem, Go.Proofs.Tryz.f82, reduceIte, List.cons.injEq, cdB]
  have eI : iendL v.i hash v.tick n 2 = wreI v hash n ch := rfl
  rw [eI]
  refine ⟨fun hs0 => ?_, fun hs0 => ?_⟩
  rotate_left 1
  · skip
    refine ac53 wreceive_T_ok (Nat.le_of_ble_eq_true rfl) ?_
    simp -implicitDefEqProofs only [cdA, go_sem, Go.Proofs.Tryz.f53, hs0, cdN, reduceIte, List.cons.injEq, cdB]
    refine ac56 wreceive_T_ok (Nat.le_of_ble_eq_true rfl) ?_
    simp -implicitDefEqProofs only [cdA, go_sem, Go.Proofs.Tryz.f56, reduceIte, List.cons.injEq, cdB]
    refine ac140 wreceive_T_ok (Nat.le_of_ble_eq_true rfl) ?_
    simp -implicitDefEqProofs only [cdA, go_sem, Go.Proofs.Tryz.f140, hs0, cdN, reduceIte, List.cons.injEq, cdB]
    refine ac47 wreceive_T_ok (Nat.le_of_ble_eq_true rfl) ?_
    simp -implicitDefEqProofs only [cdA, go_sem, Go.Proofs.Tryz.f47, hs0, cdN, reduceIte, List.cons.injEq, cdB]
    refine ADraw.run us47_2 wreceive_T_ok follows_mixed (by kernel_rfl) (by kernel_rfl) ?_
    simp -implicitDefEqProofs only [cdA, go_sem, hs0, cdN, reduceIte, List.cons.injEq, cdB]
    exact hbad _ (by rw [wreE, if_neg (fun h => h hok), if_pos hs0]) hs0
  refine ac53 wreceive_T_ok (Nat.le_of_ble_eq_true rfl) ?_
  simp -implicitDefEqProofs only [cdA, go_sem, Go.Proofs.Tryz.f53, hck, cdN, reduceIte, List.cons.injEq, cdB]
  refine ac84 wreceive_T_ok (Nat.le_of_ble_eq_true rfl) ?_
  simp -implicitDefEqProofs only [cdA, go_sem, Go.Proofs.Tryz.f84, reduceIte, List.cons.injEq, cdB]
  have eC : lpuL v.c ch n = wreC v hash n ch := rfl
  rw [eC]
  refine ⟨fun hs1 => ?_, fun hs1 => ?_⟩
  rotate_left 1
  · skip
    refine ac56 wreceive_T_ok (Nat.le_of_ble_eq_true rfl) ?_
    simp -implicitDefEqProofs only [cdA, go_sem, Go.Proofs.Tryz.f56, reduceIte, List.cons.injEq, cdB]
    refine ac140 wreceive_T_ok (Nat.le_of_ble_eq_true rfl) ?_
    simp -implicitDefEqProofs only [cdA, go_sem, Go.Proofs.Tryz.f140, hs1, cdN, reduceIte, List.cons.injEq, cdB]
    refine ac47 wreceive_T_ok (Nat.le_of_ble_eq_true rfl) ?_
    simp -implicitDefEqProofs only [cdA, go_sem, Go.Proofs.Tryz.f47, hs1, cdN, reduceIte, List.cons.injEq, cdB]
    refine ADraw.run us47_2 wreceive_T_ok follows_mixed (by kernel_rfl) (by kernel_rfl) ?_
    simp -implicitDefEqProofs only [cdA, go_sem, hs1, cdN, reduceIte, List.cons.injEq, cdB]
    exact hbad _ (by rw [wreE, if_neg (fun h => h hok), if_neg (fun h => h hs0), if_pos hs1]) hs1
  refine ac56 wreceive_T_ok (Nat.le_of_ble_eq_true rfl) ?_
  simp -implicitDefEqProofs only [cdA, go_sem, Go.Proofs.Tryz.f56, reduceIte, List.cons.injEq, cdB]
  refine ac140 wreceive_T_ok (Nat.le_of_ble_eq_true rfl) ?_
  simp -implicitDefEqProofs only [cdA, go_sem, Go.Proofs.Tryz.f140, hck, cdN, reduceIte, List.cons.injEq, cdB]
  refine ac141 wreceive_T_ok (Nat.le_of_ble_eq_true rfl) ?_
  simp -implicitDefEqProofs only [cdA, go_sem, Go.Proofs.Tryz.f141, reduceIte, List.cons.injEq, cdB]
  have eF : addF v.f 5 hash n = wreF v hash n ch := rfl
  rw [eF]
  refine ⟨h, fun hfd => ?_, fun hfd => ?_⟩
  rotate_left 1
  · skip
    refine ac47 wreceive_T_ok (Nat.le_of_ble_eq_true rfl) ?_
    simp -implicitDefEqProofs only [cdA, go_sem, Go.Proofs.Tryz.f47, hfd, cdN, reduceIte, List.cons.injEq, cdB]
    refine ADraw.run us47_2 wreceive_T_ok follows_mixed (by kernel_rfl) (by kernel_rfl) ?_
    simp -implicitDefEqProofs only [cdA, go_sem, hfd, cdN, reduceIte, List.cons.injEq, cdB]
    exact hbad _ (by rw [wreE, if_neg (fun h => h hok), if_neg (fun h => h hs0), if_neg (fun h => h hs1)]) hfd
  have hsm : smallW ⟨(wreC v hash n ch).1, v.w, (wreI v hash n ch).1, v.p, (wreF v hash n ch).1, v.next, v.tick⟩ := by
    have h2 := small_ok hok
    have h50 := iend_len hs0
    have h51 := lpu_fine hs1
    exact ⟨(by have := h51.1; show (wreC v hash n ch).1.length ≤ _; unfold wreC; (try dsimp only); omega), (fun d hd => by have := (h51.2.1 d hd).2.2.1; omega), h2.2.2.1, (by show (wreI v hash n ch).1.length ≤ _; unfold wreI; omega), h2.2.2.2.2.1, (by show (wreF v hash n ch).1.l.length ≤ _; unfold wreF; exact Nat.le_trans add_len (by decide))⟩
  have hfin : wreW v hash n ch = (⟨(wreC v hash n ch).1, v.w, (wreI v hash n ch).1, v.p, (wreF v hash n ch).1, v.next, v.tick⟩, 0) := by
    have : wreE v hash n ch = 0 := by rw [wreE, if_neg (fun h => h hok), if_neg (fun h => h hs0), if_neg (fun h => h hs1)]; exact hfd
    rw [wreW, if_pos this]
  refine ac47 wreceive_T_ok (Nat.le_of_ble_eq_true rfl) ?_
  simp -implicitDefEqProofs only [cdA, go_sem, Go.Proofs.Tryz.f47, hck, eq_true hsm, cdN, reduceIte, List.cons.injEq, cdB]
  rw [hfin]
  exact ⟨⟨rfl, rfl, rfl, rfl, rfl, rfl, rfl, rfl⟩, rfl⟩
@[go_sem] def wreceive_p (v : Wl) (hash : Nat) (n : Nat) (ch : Nat) : Prop := (v.f.next ≤ 18446744073709551615)
def sp_wreceive : List D → Option (Prop × D × Fr)
  | [.agg [.c (.sl z2), .c (.sl z3), .c (.sl z4), .c (.sl z5), .c (.int .u64 z7), .c (.sl z8), .c (.int .u64 z9), .c (.int .u64 z10)], .c (.int .u64 z11), .c (.int .u64 z12), .c (.int .u64 z13)] => some (z2 = chs (dchs z2) ∧ z3 = wts (dwts z3) ∧ z4 = ivs (divs z4) ∧ z5 = pys (dpys z5) ∧ z7 = (z7.toNat : Int) ∧ z8 = evs (devs z8) ∧ z9 = (z9.toNat : Int) ∧ z10 = (z10.toNat : Int) ∧ z11 = (z11.toNat : Int) ∧ z12 = (z12.toNat : Int) ∧ z13 = (z13.toNat : Int) ∧ wreceive_p (⟨(dchs z2), (dwts z3), (divs z4), (dpys z5), (⟨z7.toNat, (devs z8)⟩ : Fd), z9.toNat, z10.toNat⟩ : Wl) z11.toNat z12.toNat z13.toNat, wreceive_r (⟨(dchs z2), (dwts z3), (divs z4), (dpys z5), (⟨z7.toNat, (devs z8)⟩ : Fd), z9.toNat, z10.toNat⟩ : Wl) z11.toNat z12.toNat z13.toNat, [])
  | _ => none
attribute [go_sem] sp_wreceive
theorem sp_wreceive_ok : ∀ rs p r fr, sp_wreceive rs = some (p, r, fr) → p → FnOk Tryz.prog 26 rs r fr := by
  intro rs p r fr h hp
  unfold sp_wreceive at h
  split at h <;> cases h
  obtain ⟨hc0, hc1, hc2, hc3, hc4, hc5, hc6, hc7, hc8, hc9, hc10, hp⟩ := hp
  rename_i z2 z3 z4 z5 z7 z8 z9 z10 z11 z12 z13
  obtain ⟨z2, rfl⟩ : ∃ m, z2 = chs m := ⟨_, hc0⟩
  obtain ⟨z3, rfl⟩ : ∃ m, z3 = wts m := ⟨_, hc1⟩
  obtain ⟨z4, rfl⟩ : ∃ m, z4 = ivs m := ⟨_, hc2⟩
  obtain ⟨z5, rfl⟩ : ∃ m, z5 = pys m := ⟨_, hc3⟩
  obtain ⟨z7, rfl⟩ : ∃ m : Nat, z7 = m := ⟨_, hc4⟩
  obtain ⟨z8, rfl⟩ : ∃ m, z8 = evs m := ⟨_, hc5⟩
  obtain ⟨z9, rfl⟩ : ∃ m : Nat, z9 = m := ⟨_, hc6⟩
  obtain ⟨z10, rfl⟩ : ∃ m : Nat, z10 = m := ⟨_, hc7⟩
  obtain ⟨z11, rfl⟩ : ∃ m : Nat, z11 = m := ⟨_, hc8⟩
  obtain ⟨z12, rfl⟩ : ∃ m : Nat, z12 = m := ⟨_, hc9⟩
  obtain ⟨z13, rfl⟩ : ∃ m : Nat, z13 = m := ⟨_, hc10⟩
  simp only [Int.toNat_natCast, dchs_chs, devs_evs, divs_ivs, dpys_pys, dwts_wts]
  simp only [Int.toNat_natCast, dchs_chs, devs_evs, divs_ivs, dpys_pys, dwts_wts, wreceive_p] at hp
  exact wreceive_ok ⟨z2, z3, z4, z5, ⟨z7, z8⟩, z9, z10⟩ z11 z12 z13 hp
end Dm
namespace Dm
open Go Go.Proofs Go.IntWalk
def wcaI (v : Wl) (hash : Nat) : List Iv × Int := iendL v.i hash v.tick MM 3
def wcaF (v : Wl) (hash : Nat) : Fd × Nat × Int := addF v.f 4 hash 0
def wcaE (v : Wl) (hash : Nat) : Int := if ¬ okW v then 1 else if (wcaI v hash).2 ≠ 0 then (wcaI v hash).2 else (wcaF v hash).2.2
def wcaW (v : Wl) (hash : Nat) : Wl × Int := if wcaE v hash = 0 then (⟨v.c, v.w, (wcaI v hash).1, v.p, (wcaF v hash).1, v.next, v.tick⟩, 0) else (zeroW, wcaE v hash)
@[go_sem] def wcancel_r (v : Wl) (hash : Nat) : D := .tup [.agg [.sl (chs (wcaW v hash).1.c), .sl (wts (wcaW v hash).1.w), .sl (ivs (wcaW v hash).1.i), .sl (pys (wcaW v hash).1.p), .int .u64 (wcaW v hash).1.f.next, .sl (evs (wcaW v hash).1.f.l), .int .u64 (wcaW v hash).1.next, .int .u64 (wcaW v hash).1.tick], .int .i64 (wcaW v hash).2]
@[go_sem] abbrev n_wcancel : FuncId := 24
@[go_sem] def wcancel_T : Tab := [(37, sp_wcheck), (80, sp_icancel), (142, sp_fadd), (119, sp_wown)]
theorem wcancel_T_ok : TabOk Tryz.prog wcancel_T := (TabOk.cons sp_wcheck_ok (TabOk.cons sp_icancel_ok (TabOk.cons sp_fadd_ok (TabOk.cons sp_wown_ok TabOk.nil))))
set_option maxRecDepth 8000 in
set_option maxHeartbeats 1000000 in
theorem wcancel_ok (v : Wl) (hash : Nat) (h : v.f.next ≤ 18446744073709551615) : PureFn Tryz.prog 24 [.agg [.sl (chs v.c), .sl (wts v.w), .sl (ivs v.i), .sl (pys v.p), .c (.int .u64 (v.f.next : Int)), .sl (evs v.f.l), .c (.int .u64 (v.next : Int)), .c (.int .u64 (v.tick : Int))], .c (.int .u64 (hash : Int))] (wcancel_r v hash) := by
  refine .of (ac24 wcancel_T_ok (Nat.le_of_ble_eq_true rfl) ?_)
  simp -implicitDefEqProofs only [cdA, go_sem, Go.Proofs.Tryz.f24, reduceIte, List.cons.injEq, cdB]
  refine ac45 wcancel_T_ok (Nat.le_of_ble_eq_true rfl) ?_
  simp -implicitDefEqProofs only [cdA, go_sem, Go.Proofs.Tryz.f45, reduceIte, List.cons.injEq, cdB]
  refine ADraw.run us45_1 wcancel_T_ok follows_mixed (by kernel_rfl) (by kernel_rfl) ?_
  simp -implicitDefEqProofs only [cdA, go_sem, reduceIte, List.cons.injEq, cdB]
  refine ⟨h, ?_⟩
  have hbad : ∀ e : Int, wcaE v hash = e → ¬ e = 0 → (chs (wcaW v hash).1.c = [] ∧ wts (wcaW v hash).1.w = [] ∧ ivs (wcaW v hash).1.i = [] ∧ pys (wcaW v hash).1.p = [] ∧ 0 = ((wcaW v hash).1.f.next : Int) ∧ evs (wcaW v hash).1.f.l = [] ∧ 0 = ((wcaW v hash).1.next : Int) ∧ 0 = ((wcaW v hash).1.tick : Int)) ∧ e = (wcaW v hash).2 := fun e h1 h2 => by
    have : wcaW v hash = (zeroW, e) := by rw [wcaW, if_neg (by rw [h1]; exact h2), h1]
    rw [this]; exact ⟨⟨rfl, rfl, rfl, rfl, rfl, rfl, rfl, rfl⟩, rfl⟩
  by_cases hok : okW v
  rotate_left 1
  · have hck : (chkW v = 0) = False := eq_false fun h => hok (chkW_0.1 h)
    have he : wcaE v hash = 1 := by rw [wcaE, if_pos hok]
    have hc1 : chkW v = 1 := by rw [chkW, if_neg hok]
    skip
    refine ac75 wcancel_T_ok (Nat.le_of_ble_eq_true rfl) ?_
    simp -implicitDefEqProofs only [cdA, go_sem, Go.Proofs.Tryz.f75, hck, cdN, reduceIte, List.cons.injEq, cdB]
    refine ac56 wcancel_T_ok (Nat.le_of_ble_eq_true rfl) ?_
    simp -implicitDefEqProofs only [cdA, go_sem, Go.Proofs.Tryz.f56, reduceIte, List.cons.injEq, cdB]
    refine ac140 wcancel_T_ok (Nat.le_of_ble_eq_true rfl) ?_
    simp -implicitDefEqProofs only [cdA, go_sem, Go.Proofs.Tryz.f140, hck, cdN, reduceIte, List.cons.injEq, cdB]
    refine ac47 wcancel_T_ok (Nat.le_of_ble_eq_true rfl) ?_
    simp -implicitDefEqProofs only [cdA, go_sem, Go.Proofs.Tryz.f47, hck, cdN, reduceIte, List.cons.injEq, cdB]
    refine ADraw.run us47_2 wcancel_T_ok follows_mixed (by kernel_rfl) (by kernel_rfl) ?_
    simp -implicitDefEqProofs only [cdA, go_sem, hck, cdN, reduceIte, List.cons.injEq, cdB]
    exact hbad _ (he.trans hc1.symm) (by rw [hc1]; decide)
  have hck : (chkW v = 0) = True := eq_true (chkW_0.2 hok)
  refine ac75 wcancel_T_ok (Nat.le_of_ble_eq_true rfl) ?_
  simp -implicitDefEqProofs only [cdA, go_sem, Go.Proofs.Tryz.f75, hck, cdN, reduceIte, List.cons.injEq, cdB]
  refine ac79 wcancel_T_ok (Nat.le_of_ble_eq_true rfl) ?_
  simp -implicitDefEqProofs only [cdA, go_sem, Go.Proofs.Tryz.f79, reduceIte, List.cons.injEq, cdB]
  have eI : iendL v.i hash v.tick MM 3 = wcaI v hash := rfl
  rw [eI]
  refine ⟨fun hs0 => ?_, fun hs0 => ?_⟩
  rotate_left 1
  · skip
    refine ac56 wcancel_T_ok (Nat.le_of_ble_eq_true rfl) ?_
    simp -implicitDefEqProofs only [cdA, go_sem, Go.Proofs.Tryz.f56, reduceIte, List.cons.injEq, cdB]
    refine ac140 wcancel_T_ok (Nat.le_of_ble_eq_true rfl) ?_
    simp -implicitDefEqProofs only [cdA, go_sem, Go.Proofs.Tryz.f140, hs0, cdN, reduceIte, List.cons.injEq, cdB]
    refine ac47 wcancel_T_ok (Nat.le_of_ble_eq_true rfl) ?_
    simp -implicitDefEqProofs only [cdA, go_sem, Go.Proofs.Tryz.f47, hs0, cdN, reduceIte, List.cons.injEq, cdB]
    refine ADraw.run us47_2 wcancel_T_ok follows_mixed (by kernel_rfl) (by kernel_rfl) ?_
    simp -implicitDefEqProofs only [cdA, go_sem, hs0, cdN, reduceIte, List.cons.injEq, cdB]
    exact hbad _ (by rw [wcaE, if_neg (fun h => h hok), if_pos hs0]) hs0
  refine ac56 wcancel_T_ok (Nat.le_of_ble_eq_true rfl) ?_
  simp -implicitDefEqProofs only [cdA, go_sem, Go.Proofs.Tryz.f56, reduceIte, List.cons.injEq, cdB]
  refine ac140 wcancel_T_ok (Nat.le_of_ble_eq_true rfl) ?_
  simp -implicitDefEqProofs only [cdA, go_sem, Go.Proofs.Tryz.f140, hck, cdN, reduceIte, List.cons.injEq, cdB]
  refine ac141 wcancel_T_ok (Nat.le_of_ble_eq_true rfl) ?_
  simp -implicitDefEqProofs only [cdA, go_sem, Go.Proofs.Tryz.f141, reduceIte, List.cons.injEq, cdB]
  have eF : addF v.f 4 hash 0 = wcaF v hash := rfl
  rw [eF]
  refine ⟨h, fun hfd => ?_, fun hfd => ?_⟩
  rotate_left 1
  · skip
    refine ac47 wcancel_T_ok (Nat.le_of_ble_eq_true rfl) ?_
    simp -implicitDefEqProofs only [cdA, go_sem, Go.Proofs.Tryz.f47, hfd, cdN, reduceIte, List.cons.injEq, cdB]
    refine ADraw.run us47_2 wcancel_T_ok follows_mixed (by kernel_rfl) (by kernel_rfl) ?_
    simp -implicitDefEqProofs only [cdA, go_sem, hfd, cdN, reduceIte, List.cons.injEq, cdB]
    exact hbad _ (by rw [wcaE, if_neg (fun h => h hok), if_neg (fun h => h hs0)]) hfd
  have hsm : smallW ⟨v.c, v.w, (wcaI v hash).1, v.p, (wcaF v hash).1, v.next, v.tick⟩ := by
    have h2 := small_ok hok
    have h50 := iend_len hs0
    exact ⟨h2.1, h2.2.1, h2.2.2.1, (by show (wcaI v hash).1.length ≤ _; unfold wcaI; omega), h2.2.2.2.2.1, (by show (wcaF v hash).1.l.length ≤ _; unfold wcaF; exact Nat.le_trans add_len (by decide))⟩
  have hfin : wcaW v hash = (⟨v.c, v.w, (wcaI v hash).1, v.p, (wcaF v hash).1, v.next, v.tick⟩, 0) := by
    have : wcaE v hash = 0 := by rw [wcaE, if_neg (fun h => h hok), if_neg (fun h => h hs0)]; exact hfd
    rw [wcaW, if_pos this]
  refine ac47 wcancel_T_ok (Nat.le_of_ble_eq_true rfl) ?_
  simp -implicitDefEqProofs only [cdA, go_sem, Go.Proofs.Tryz.f47, hck, eq_true hsm, cdN, reduceIte, List.cons.injEq, cdB]
  rw [hfin]
  exact ⟨⟨rfl, rfl, rfl, rfl, rfl, rfl, rfl, rfl⟩, rfl⟩
@[go_sem] def wcancel_p (v : Wl) (hash : Nat) : Prop := (v.f.next ≤ 18446744073709551615)
def sp_wcancel : List D → Option (Prop × D × Fr)
  | [.agg [.c (.sl z2), .c (.sl z3), .c (.sl z4), .c (.sl z5), .c (.int .u64 z7), .c (.sl z8), .c (.int .u64 z9), .c (.int .u64 z10)], .c (.int .u64 z11)] => some (z2 = chs (dchs z2) ∧ z3 = wts (dwts z3) ∧ z4 = ivs (divs z4) ∧ z5 = pys (dpys z5) ∧ z7 = (z7.toNat : Int) ∧ z8 = evs (devs z8) ∧ z9 = (z9.toNat : Int) ∧ z10 = (z10.toNat : Int) ∧ z11 = (z11.toNat : Int) ∧ wcancel_p (⟨(dchs z2), (dwts z3), (divs z4), (dpys z5), (⟨z7.toNat, (devs z8)⟩ : Fd), z9.toNat, z10.toNat⟩ : Wl) z11.toNat, wcancel_r (⟨(dchs z2), (dwts z3), (divs z4), (dpys z5), (⟨z7.toNat, (devs z8)⟩ : Fd), z9.toNat, z10.toNat⟩ : Wl) z11.toNat, [])
  | _ => none
attribute [go_sem] sp_wcancel
theorem sp_wcancel_ok : ∀ rs p r fr, sp_wcancel rs = some (p, r, fr) → p → FnOk Tryz.prog 24 rs r fr := by
  intro rs p r fr h hp
  unfold sp_wcancel at h
  split at h <;> cases h
  obtain ⟨hc0, hc1, hc2, hc3, hc4, hc5, hc6, hc7, hc8, hp⟩ := hp
  rename_i z2 z3 z4 z5 z7 z8 z9 z10 z11
  obtain ⟨z2, rfl⟩ : ∃ m, z2 = chs m := ⟨_, hc0⟩
  obtain ⟨z3, rfl⟩ : ∃ m, z3 = wts m := ⟨_, hc1⟩
  obtain ⟨z4, rfl⟩ : ∃ m, z4 = ivs m := ⟨_, hc2⟩
  obtain ⟨z5, rfl⟩ : ∃ m, z5 = pys m := ⟨_, hc3⟩
  obtain ⟨z7, rfl⟩ : ∃ m : Nat, z7 = m := ⟨_, hc4⟩
  obtain ⟨z8, rfl⟩ : ∃ m, z8 = evs m := ⟨_, hc5⟩
  obtain ⟨z9, rfl⟩ : ∃ m : Nat, z9 = m := ⟨_, hc6⟩
  obtain ⟨z10, rfl⟩ : ∃ m : Nat, z10 = m := ⟨_, hc7⟩
  obtain ⟨z11, rfl⟩ : ∃ m : Nat, z11 = m := ⟨_, hc8⟩
  simp only [Int.toNat_natCast, dchs_chs, devs_evs, divs_ivs, dpys_pys, dwts_wts]
  simp only [Int.toNat_natCast, dchs_chs, devs_evs, divs_ivs, dpys_pys, dwts_wts, wcancel_p] at hp
  exact wcancel_ok ⟨z2, z3, z4, z5, ⟨z7, z8⟩, z9, z10⟩ z11 hp
end Dm
namespace Dm
open Go Go.Proofs Go.IntWalk
def wclC (v : Wl) (ch : Nat) : List Ch × Int := lclL v.c ch
def wclF (v : Wl) (ch : Nat) : Fd × Nat × Int := addF v.f 7 ch 0
def wclE (v : Wl) (ch : Nat) : Int := if ¬ okW v then 1 else if (wclC v ch).2 ≠ 0 then (wclC v ch).2 else (wclF v ch).2.2
def wclW (v : Wl) (ch : Nat) : Wl × Int := if wclE v ch = 0 then (⟨(wclC v ch).1, v.w, v.i, v.p, (wclF v ch).1, v.next, v.tick⟩, 0) else (zeroW, wclE v ch)
@[go_sem] def wclose_r (v : Wl) (ch : Nat) : D := .tup [.agg [.sl (chs (wclW v ch).1.c), .sl (wts (wclW v ch).1.w), .sl (ivs (wclW v ch).1.i), .sl (pys (wclW v ch).1.p), .int .u64 (wclW v ch).1.f.next, .sl (evs (wclW v ch).1.f.l), .int .u64 (wclW v ch).1.next, .int .u64 (wclW v ch).1.tick], .int .i64 (wclW v ch).2]
@[go_sem] abbrev n_wclose : FuncId := 32
@[go_sem] def wclose_T : Tab := [(37, sp_wcheck), (97, sp_lclose), (142, sp_fadd), (119, sp_wown)]
theorem wclose_T_ok : TabOk Tryz.prog wclose_T := (TabOk.cons sp_wcheck_ok (TabOk.cons sp_lclose_ok (TabOk.cons sp_fadd_ok (TabOk.cons sp_wown_ok TabOk.nil))))
set_option maxRecDepth 8000 in
set_option maxHeartbeats 1000000 in
theorem wclose_ok (v : Wl) (ch : Nat) (h : v.f.next ≤ 18446744073709551615) : PureFn Tryz.prog 32 [.agg [.sl (chs v.c), .sl (wts v.w), .sl (ivs v.i), .sl (pys v.p), .c (.int .u64 (v.f.next : Int)), .sl (evs v.f.l), .c (.int .u64 (v.next : Int)), .c (.int .u64 (v.tick : Int))], .c (.int .u64 (ch : Int))] (wclose_r v ch) := by
  refine .of (ac32 wclose_T_ok (Nat.le_of_ble_eq_true rfl) ?_)
  simp -implicitDefEqProofs only [cdA, go_sem, Go.Proofs.Tryz.f32, reduceIte, List.cons.injEq, cdB]
  refine ac45 wclose_T_ok (Nat.le_of_ble_eq_true rfl) ?_
  simp -implicitDefEqProofs only [cdA, go_sem, Go.Proofs.Tryz.f45, reduceIte, List.cons.injEq, cdB]
  refine ADraw.run us45_1 wclose_T_ok follows_mixed (by kernel_rfl) (by kernel_rfl) ?_
  simp -implicitDefEqProofs only [cdA, go_sem, reduceIte, List.cons.injEq, cdB]
  refine ⟨h, ?_⟩
  have hbad : ∀ e : Int, wclE v ch = e → ¬ e = 0 → (chs (wclW v ch).1.c = [] ∧ wts (wclW v ch).1.w = [] ∧ ivs (wclW v ch).1.i = [] ∧ pys (wclW v ch).1.p = [] ∧ 0 = ((wclW v ch).1.f.next : Int) ∧ evs (wclW v ch).1.f.l = [] ∧ 0 = ((wclW v ch).1.next : Int) ∧ 0 = ((wclW v ch).1.tick : Int)) ∧ e = (wclW v ch).2 := fun e h1 h2 => by
    have : wclW v ch = (zeroW, e) := by rw [wclW, if_neg (by rw [h1]; exact h2), h1]
    rw [this]; exact ⟨⟨rfl, rfl, rfl, rfl, rfl, rfl, rfl, rfl⟩, rfl⟩
  by_cases hok : okW v
  rotate_left 1
  · have hck : (chkW v = 0) = False := eq_false fun h => hok (chkW_0.1 h)
    have he : wclE v ch = 1 := by rw [wclE, if_pos hok]
    have hc1 : chkW v = 1 := by rw [chkW, if_neg hok]
    skip
    refine ac53 wclose_T_ok (Nat.le_of_ble_eq_true rfl) ?_
    simp -implicitDefEqProofs only [cdA, go_sem, Go.Proofs.Tryz.f53, hck, cdN, reduceIte, List.cons.injEq, cdB]
    refine ac56 wclose_T_ok (Nat.le_of_ble_eq_true rfl) ?_
    simp -implicitDefEqProofs only [cdA, go_sem, Go.Proofs.Tryz.f56, reduceIte, List.cons.injEq, cdB]
    refine ac140 wclose_T_ok (Nat.le_of_ble_eq_true rfl) ?_
    simp -implicitDefEqProofs only [cdA, go_sem, Go.Proofs.Tryz.f140, hck, cdN, reduceIte, List.cons.injEq, cdB]
    refine ac47 wclose_T_ok (Nat.le_of_ble_eq_true rfl) ?_
    simp -implicitDefEqProofs only [cdA, go_sem, Go.Proofs.Tryz.f47, hck, cdN, reduceIte, List.cons.injEq, cdB]
    refine ADraw.run us47_2 wclose_T_ok follows_mixed (by kernel_rfl) (by kernel_rfl) ?_
    simp -implicitDefEqProofs only [cdA, go_sem, hck, cdN, reduceIte, List.cons.injEq, cdB]
    exact hbad _ (he.trans hc1.symm) (by rw [hc1]; decide)
  have hck : (chkW v = 0) = True := eq_true (chkW_0.2 hok)
  refine ac53 wclose_T_ok (Nat.le_of_ble_eq_true rfl) ?_
  simp -implicitDefEqProofs only [cdA, go_sem, Go.Proofs.Tryz.f53, hck, cdN, reduceIte, List.cons.injEq, cdB]
  refine ac96 wclose_T_ok (Nat.le_of_ble_eq_true rfl) ?_
  simp -implicitDefEqProofs only [cdA, go_sem, Go.Proofs.Tryz.f96, reduceIte, List.cons.injEq, cdB]
  have eC : lclL v.c ch = wclC v ch := rfl
  rw [eC]
  refine ⟨fun hs0 => ?_, fun hs0 => ?_⟩
  rotate_left 1
  · skip
    refine ac56 wclose_T_ok (Nat.le_of_ble_eq_true rfl) ?_
    simp -implicitDefEqProofs only [cdA, go_sem, Go.Proofs.Tryz.f56, reduceIte, List.cons.injEq, cdB]
    refine ac140 wclose_T_ok (Nat.le_of_ble_eq_true rfl) ?_
    simp -implicitDefEqProofs only [cdA, go_sem, Go.Proofs.Tryz.f140, hs0, cdN, reduceIte, List.cons.injEq, cdB]
    refine ac47 wclose_T_ok (Nat.le_of_ble_eq_true rfl) ?_
    simp -implicitDefEqProofs only [cdA, go_sem, Go.Proofs.Tryz.f47, hs0, cdN, reduceIte, List.cons.injEq, cdB]
    refine ADraw.run us47_2 wclose_T_ok follows_mixed (by kernel_rfl) (by kernel_rfl) ?_
    simp -implicitDefEqProofs only [cdA, go_sem, hs0, cdN, reduceIte, List.cons.injEq, cdB]
    exact hbad _ (by rw [wclE, if_neg (fun h => h hok), if_pos hs0]) hs0
  refine ac56 wclose_T_ok (Nat.le_of_ble_eq_true rfl) ?_
  simp -implicitDefEqProofs only [cdA, go_sem, Go.Proofs.Tryz.f56, reduceIte, List.cons.injEq, cdB]
  refine ac140 wclose_T_ok (Nat.le_of_ble_eq_true rfl) ?_
  simp -implicitDefEqProofs only [cdA, go_sem, Go.Proofs.Tryz.f140, hck, cdN, reduceIte, List.cons.injEq, cdB]
  refine ac141 wclose_T_ok (Nat.le_of_ble_eq_true rfl) ?_
  simp -implicitDefEqProofs only [cdA, go_sem, Go.Proofs.Tryz.f141, reduceIte, List.cons.injEq, cdB]
  have eF : addF v.f 7 ch 0 = wclF v ch := rfl
  rw [eF]
  refine ⟨h, fun hfd => ?_, fun hfd => ?_⟩
  rotate_left 1
  · skip
    refine ac47 wclose_T_ok (Nat.le_of_ble_eq_true rfl) ?_
    simp -implicitDefEqProofs only [cdA, go_sem, Go.Proofs.Tryz.f47, hfd, cdN, reduceIte, List.cons.injEq, cdB]
    refine ADraw.run us47_2 wclose_T_ok follows_mixed (by kernel_rfl) (by kernel_rfl) ?_
    simp -implicitDefEqProofs only [cdA, go_sem, hfd, cdN, reduceIte, List.cons.injEq, cdB]
    exact hbad _ (by rw [wclE, if_neg (fun h => h hok), if_neg (fun h => h hs0)]) hfd
  have hsm : smallW ⟨(wclC v ch).1, v.w, v.i, v.p, (wclF v ch).1, v.next, v.tick⟩ := by
    have h2 := small_ok hok
    have h50 := lcl_fine hs0
    exact ⟨(by have := h50.1; show (wclC v ch).1.length ≤ _; unfold wclC; (try dsimp only); omega), (fun d hd => by have := (h50.2.1 d hd).2.2.1; omega), h2.2.2.1, h2.2.2.2.1, h2.2.2.2.2.1, (by show (wclF v ch).1.l.length ≤ _; unfold wclF; exact Nat.le_trans add_len (by decide))⟩
  have hfin : wclW v ch = (⟨(wclC v ch).1, v.w, v.i, v.p, (wclF v ch).1, v.next, v.tick⟩, 0) := by
    have : wclE v ch = 0 := by rw [wclE, if_neg (fun h => h hok), if_neg (fun h => h hs0)]; exact hfd
    rw [wclW, if_pos this]
  refine ac47 wclose_T_ok (Nat.le_of_ble_eq_true rfl) ?_
  simp -implicitDefEqProofs only [cdA, go_sem, Go.Proofs.Tryz.f47, hck, eq_true hsm, cdN, reduceIte, List.cons.injEq, cdB]
  rw [hfin]
  exact ⟨⟨rfl, rfl, rfl, rfl, rfl, rfl, rfl, rfl⟩, rfl⟩
@[go_sem] def wclose_p (v : Wl) (ch : Nat) : Prop := (v.f.next ≤ 18446744073709551615)
def sp_wclose : List D → Option (Prop × D × Fr)
  | [.agg [.c (.sl z2), .c (.sl z3), .c (.sl z4), .c (.sl z5), .c (.int .u64 z7), .c (.sl z8), .c (.int .u64 z9), .c (.int .u64 z10)], .c (.int .u64 z11)] => some (z2 = chs (dchs z2) ∧ z3 = wts (dwts z3) ∧ z4 = ivs (divs z4) ∧ z5 = pys (dpys z5) ∧ z7 = (z7.toNat : Int) ∧ z8 = evs (devs z8) ∧ z9 = (z9.toNat : Int) ∧ z10 = (z10.toNat : Int) ∧ z11 = (z11.toNat : Int) ∧ wclose_p (⟨(dchs z2), (dwts z3), (divs z4), (dpys z5), (⟨z7.toNat, (devs z8)⟩ : Fd), z9.toNat, z10.toNat⟩ : Wl) z11.toNat, wclose_r (⟨(dchs z2), (dwts z3), (divs z4), (dpys z5), (⟨z7.toNat, (devs z8)⟩ : Fd), z9.toNat, z10.toNat⟩ : Wl) z11.toNat, [])
  | _ => none
attribute [go_sem] sp_wclose
theorem sp_wclose_ok : ∀ rs p r fr, sp_wclose rs = some (p, r, fr) → p → FnOk Tryz.prog 32 rs r fr := by
  intro rs p r fr h hp
  unfold sp_wclose at h
  split at h <;> cases h
  obtain ⟨hc0, hc1, hc2, hc3, hc4, hc5, hc6, hc7, hc8, hp⟩ := hp
  rename_i z2 z3 z4 z5 z7 z8 z9 z10 z11
  obtain ⟨z2, rfl⟩ : ∃ m, z2 = chs m := ⟨_, hc0⟩
  obtain ⟨z3, rfl⟩ : ∃ m, z3 = wts m := ⟨_, hc1⟩
  obtain ⟨z4, rfl⟩ : ∃ m, z4 = ivs m := ⟨_, hc2⟩
  obtain ⟨z5, rfl⟩ : ∃ m, z5 = pys m := ⟨_, hc3⟩
  obtain ⟨z7, rfl⟩ : ∃ m : Nat, z7 = m := ⟨_, hc4⟩
  obtain ⟨z8, rfl⟩ : ∃ m, z8 = evs m := ⟨_, hc5⟩
  obtain ⟨z9, rfl⟩ : ∃ m : Nat, z9 = m := ⟨_, hc6⟩
  obtain ⟨z10, rfl⟩ : ∃ m : Nat, z10 = m := ⟨_, hc7⟩
  obtain ⟨z11, rfl⟩ : ∃ m : Nat, z11 = m := ⟨_, hc8⟩
  simp only [Int.toNat_natCast, dchs_chs, devs_evs, divs_ivs, dpys_pys, dwts_wts]
  simp only [Int.toNat_natCast, dchs_chs, devs_evs, divs_ivs, dpys_pys, dwts_wts, wclose_p] at hp
  exact wclose_ok ⟨z2, z3, z4, z5, ⟨z7, z8⟩, z9, z10⟩ z11 hp
end Dm
namespace Dm
open Go Go.Proofs Go.IntWalk
theorem i13_0 : ((13 : Int) = 0) = False := eq_false (by decide)
def wlaE (v : Wl) (t : Nat) : Int := if ¬ okW v then 1 else if t < v.tick then 13 else 0
def wlaW (v : Wl) (t : Nat) : Wl × Int := if wlaE v t = 0 then ({ v with i := (sweepI v.i t).1, tick := t }, 0) else (zeroW, wlaE v t)
@[go_sem] def wlater_r (v : Wl) (t : Nat) : D := .tup [.agg [.sl (chs (wlaW v t).1.c), .sl (wts (wlaW v t).1.w), .sl (ivs (wlaW v t).1.i), .sl (pys (wlaW v t).1.p), .int .u64 (wlaW v t).1.f.next, .sl (evs (wlaW v t).1.f.l), .int .u64 (wlaW v t).1.next, .int .u64 (wlaW v t).1.tick], .int .i64 (wlaW v t).2]
@[go_sem] abbrev n_wlater : FuncId := 35
@[go_sem] def wlater_T : Tab := [(37, sp_wcheck), (100, sp_isweep), (119, sp_wown)]
theorem wlater_T_ok : TabOk Tryz.prog wlater_T := (TabOk.cons sp_wcheck_ok (TabOk.cons sp_isweep_ok (TabOk.cons sp_wown_ok TabOk.nil)))
set_option maxRecDepth 8000 in
set_option maxHeartbeats 1000000 in
theorem wlater_ok (v : Wl) (t : Nat) (h : v.f.next ≤ 18446744073709551615) : PureFn Tryz.prog 35 [.agg [.sl (chs v.c), .sl (wts v.w), .sl (ivs v.i), .sl (pys v.p), .c (.int .u64 (v.f.next : Int)), .sl (evs v.f.l), .c (.int .u64 (v.next : Int)), .c (.int .u64 (v.tick : Int))], .c (.int .u64 (t : Int))] (wlater_r v t) := by
  refine .of (ac35 wlater_T_ok (Nat.le_of_ble_eq_true rfl) ?_)
  simp -implicitDefEqProofs only [cdA, go_sem, Go.Proofs.Tryz.f35, reduceIte, List.cons.injEq, cdB]
  refine ac45 wlater_T_ok (Nat.le_of_ble_eq_true rfl) ?_
  simp -implicitDefEqProofs only [cdA, go_sem, Go.Proofs.Tryz.f45, reduceIte, List.cons.injEq, cdB]
  refine ADraw.run us45_1 wlater_T_ok follows_mixed (by kernel_rfl) (by kernel_rfl) ?_
  simp -implicitDefEqProofs only [cdA, go_sem, reduceIte, List.cons.injEq, cdB]
  refine ⟨h, ?_⟩
  have hbad : ∀ e : Int, wlaE v t = e → ¬ e = 0 → (chs (wlaW v t).1.c = [] ∧ wts (wlaW v t).1.w = [] ∧ ivs (wlaW v t).1.i = [] ∧ pys (wlaW v t).1.p = [] ∧ 0 = ((wlaW v t).1.f.next : Int) ∧ evs (wlaW v t).1.f.l = [] ∧ 0 = ((wlaW v t).1.next : Int) ∧ 0 = ((wlaW v t).1.tick : Int)) ∧ e = (wlaW v t).2 := fun e h1 h2 => by
    have : wlaW v t = (zeroW, e) := by rw [wlaW, if_neg (by rw [h1]; exact h2), h1]
    rw [this]; exact ⟨⟨rfl, rfl, rfl, rfl, rfl, rfl, rfl, rfl⟩, rfl⟩
  by_cases hok : okW v
  rotate_left 1
  · have hc1 : chkW v = 1 := by rw [chkW, if_neg hok]
    rw [hc1]
    refine ac46 wlater_T_ok (Nat.le_of_ble_eq_true rfl) ?_
    simp -implicitDefEqProofs only [cdA, go_sem, Go.Proofs.Tryz.f46, i1_0, cdN, reduceIte, List.cons.injEq, cdB]
    refine ac75 wlater_T_ok (Nat.le_of_ble_eq_true rfl) ?_
    simp -implicitDefEqProofs only [cdA, go_sem, Go.Proofs.Tryz.f75, i1_0, cdN, reduceIte, List.cons.injEq, cdB]
    refine ac47 wlater_T_ok (Nat.le_of_ble_eq_true rfl) ?_
    simp -implicitDefEqProofs only [cdA, go_sem, Go.Proofs.Tryz.f47, i1_0, cdN, reduceIte, List.cons.injEq, cdB]
    refine ADraw.run us47_2 wlater_T_ok follows_mixed (by kernel_rfl) (by kernel_rfl) ?_
    simp -implicitDefEqProofs only [cdA, go_sem, i1_0, cdN, reduceIte, List.cons.injEq, cdB]
    exact hbad 1 (by rw [wlaE, if_pos hok]) (by decide)
  have hck : chkW v = 0 := chkW_0.2 hok
  rw [hck]
  by_cases hl : v.tick ≤ t
  rotate_left 1
  · have hl' : ((v.tick : Int) ≤ t) = False := eq_false (by omega)
    refine ac46 wlater_T_ok (Nat.le_of_ble_eq_true rfl) ?_
    simp -implicitDefEqProofs only [cdA, go_sem, Go.Proofs.Tryz.f46, hl', decide_false, cdN, reduceIte, List.cons.injEq, cdB]
    refine ac75 wlater_T_ok (Nat.le_of_ble_eq_true rfl) ?_
    simp -implicitDefEqProofs only [cdA, go_sem, Go.Proofs.Tryz.f75, i13_0, cdN, reduceIte, List.cons.injEq, cdB]
    refine ac47 wlater_T_ok (Nat.le_of_ble_eq_true rfl) ?_
    simp -implicitDefEqProofs only [cdA, go_sem, Go.Proofs.Tryz.f47, i13_0, cdN, reduceIte, List.cons.injEq, cdB]
    refine ADraw.run us47_2 wlater_T_ok follows_mixed (by kernel_rfl) (by kernel_rfl) ?_
    simp -implicitDefEqProofs only [cdA, go_sem, i13_0, cdN, reduceIte, List.cons.injEq, cdB]
    exact hbad 13 (by rw [wlaE, if_neg (fun h => h hok), if_pos (by omega)]) (by decide)
  have hl' : ((v.tick : Int) ≤ t) = True := eq_true (by omega)
  have hsw : (sweepI v.i t).2 = 0 := by rw [sweepI, if_pos hok.2.1]
  refine ac46 wlater_T_ok (Nat.le_of_ble_eq_true rfl) ?_
  simp -implicitDefEqProofs only [cdA, go_sem, Go.Proofs.Tryz.f46, hl', decide_true, cdN, reduceIte, List.cons.injEq, cdB]
  refine ac75 wlater_T_ok (Nat.le_of_ble_eq_true rfl) ?_
  simp -implicitDefEqProofs only [cdA, go_sem, Go.Proofs.Tryz.f75, hsw, cdN, reduceIte, List.cons.injEq, cdB]
  refine ac99 wlater_T_ok (Nat.le_of_ble_eq_true rfl) ?_
  simp -implicitDefEqProofs only [cdA, go_sem, Go.Proofs.Tryz.f99, hsw, cdN, reduceIte, List.cons.injEq, cdB]
  have hsm : smallW ⟨v.c, v.w, (sweepI v.i t).1, v.p, v.f, v.next, t⟩ := by
    have h2 := small_ok hok
    have h3 := (sweep_ok hsw).2.1.1
    exact ⟨h2.1, h2.2.1, h2.2.2.1, by show (sweepI v.i t).1.length ≤ _; omega, h2.2.2.2.2.1, h2.2.2.2.2.2⟩
  have hfin : wlaW v t = (⟨v.c, v.w, (sweepI v.i t).1, v.p, v.f, v.next, t⟩, 0) := by
    have : wlaE v t = 0 := by rw [wlaE, if_neg (fun h => h hok), if_neg (by omega)]
    rw [wlaW, if_pos this]
  refine ac47 wlater_T_ok (Nat.le_of_ble_eq_true rfl) ?_
  simp -implicitDefEqProofs only [cdA, go_sem, Go.Proofs.Tryz.f47, eq_true hsm, cdN, reduceIte, List.cons.injEq, cdB]
  rw [hfin]
  exact ⟨⟨rfl, rfl, rfl, rfl, rfl, rfl, rfl, rfl⟩, rfl⟩
@[go_sem] def wlater_p (v : Wl) (t : Nat) : Prop := (v.f.next ≤ 18446744073709551615)
def sp_wlater : List D → Option (Prop × D × Fr)
  | [.agg [.c (.sl z2), .c (.sl z3), .c (.sl z4), .c (.sl z5), .c (.int .u64 z7), .c (.sl z8), .c (.int .u64 z9), .c (.int .u64 z10)], .c (.int .u64 z11)] => some (z2 = chs (dchs z2) ∧ z3 = wts (dwts z3) ∧ z4 = ivs (divs z4) ∧ z5 = pys (dpys z5) ∧ z7 = (z7.toNat : Int) ∧ z8 = evs (devs z8) ∧ z9 = (z9.toNat : Int) ∧ z10 = (z10.toNat : Int) ∧ z11 = (z11.toNat : Int) ∧ wlater_p (⟨(dchs z2), (dwts z3), (divs z4), (dpys z5), (⟨z7.toNat, (devs z8)⟩ : Fd), z9.toNat, z10.toNat⟩ : Wl) z11.toNat, wlater_r (⟨(dchs z2), (dwts z3), (divs z4), (dpys z5), (⟨z7.toNat, (devs z8)⟩ : Fd), z9.toNat, z10.toNat⟩ : Wl) z11.toNat, [])
  | _ => none
attribute [go_sem] sp_wlater
theorem sp_wlater_ok : ∀ rs p r fr, sp_wlater rs = some (p, r, fr) → p → FnOk Tryz.prog 35 rs r fr := by
  intro rs p r fr h hp
  unfold sp_wlater at h
  split at h <;> cases h
  obtain ⟨hc0, hc1, hc2, hc3, hc4, hc5, hc6, hc7, hc8, hp⟩ := hp
  rename_i z2 z3 z4 z5 z7 z8 z9 z10 z11
  obtain ⟨z2, rfl⟩ : ∃ m, z2 = chs m := ⟨_, hc0⟩
  obtain ⟨z3, rfl⟩ : ∃ m, z3 = wts m := ⟨_, hc1⟩
  obtain ⟨z4, rfl⟩ : ∃ m, z4 = ivs m := ⟨_, hc2⟩
  obtain ⟨z5, rfl⟩ : ∃ m, z5 = pys m := ⟨_, hc3⟩
  obtain ⟨z7, rfl⟩ : ∃ m : Nat, z7 = m := ⟨_, hc4⟩
  obtain ⟨z8, rfl⟩ : ∃ m, z8 = evs m := ⟨_, hc5⟩
  obtain ⟨z9, rfl⟩ : ∃ m : Nat, z9 = m := ⟨_, hc6⟩
  obtain ⟨z10, rfl⟩ : ∃ m : Nat, z10 = m := ⟨_, hc7⟩
  obtain ⟨z11, rfl⟩ : ∃ m : Nat, z11 = m := ⟨_, hc8⟩
  simp only [Int.toNat_natCast, dchs_chs, devs_evs, divs_ivs, dpys_pys, dwts_wts]
  simp only [Int.toNat_natCast, dchs_chs, devs_evs, divs_ivs, dpys_pys, dwts_wts, wlater_p] at hp
  exact wlater_ok ⟨z2, z3, z4, z5, ⟨z7, z8⟩, z9, z10⟩ z11 hp
end Dm
namespace Dm
open Go Go.Proofs Go.IntWalk
theorem okW_i {v : Wl} {l : List Iv} {f : Fd} (h : okW v) (hl : okIv l) (hf : okFd f) : okW { v with i := l, f := f } := ⟨h.1, hl, hf, h.2.2.2⟩
theorem agr_hl {p : List Py} {c d : List Ch} (h : agrL p c = (true, 0)) (hd : okLd d) (e : hlL d = hlL c) : agrL p d = (true, 0) := by
  obtain ⟨a1, a2, a3, a4, a5⟩ := agr_parts.1 h
  exact agr_parts.2 ⟨a1, hd.1, okLd_ids hd, by rw [e]; exact a4, by rw [e]; exact a5⟩
theorem okW_c {v : Wl} {l : List Ch} (h : okW v) (hl : okLd l) (e : hlL l = hlL v.c) : okW { v with c := l } :=
  ⟨hl, h.2.1, h.2.2.1, h.2.2.2.1, h.2.2.2.2.1, h.2.2.2.2.2.1, h.2.2.2.2.2.2.1, agr_hl h.2.2.2.2.2.2.2 hl e⟩
theorem wreW_e {v : Wl} {hash n ch : Nat} : (wreW v hash n ch).2 = wreE v hash n ch := by
  unfold wreW
  split
  · rename_i h; exact h.symm
  · rfl
theorem wcaW_e {v : Wl} {hash : Nat} : (wcaW v hash).2 = wcaE v hash := by
  unfold wcaW
  split
  · rename_i h; exact h.symm
  · rfl
theorem wclW_e {v : Wl} {ch : Nat} : (wclW v ch).2 = wclE v ch := by
  unfold wclW
  split
  · rename_i h; exact h.symm
  · rfl
theorem wlaW_e {v : Wl} {t : Nat} : (wlaW v t).2 = wlaE v t := by
  unfold wlaW
  split
  · rename_i h; exact h.symm
  · rfl
theorem receive_all {v : Wl} {hash n ch : Nat} (h : (wreW v hash n ch).2 = 0) : okW v ∧ okW (wreW v hash n ch).1 ∧ (iendL v.i hash v.tick n 2).2 = 0 ∧ (lpuL v.c ch n).2 = 0 ∧ (addF v.f 5 hash n).2.2 = 0 ∧
    (wreW v hash n ch).1 = ⟨(lpuL v.c ch n).1, v.w, (iendL v.i hash v.tick n 2).1, v.p, (addF v.f 5 hash n).1, v.next, v.tick⟩ := by
  rw [wreW_e] at h
  have e : (wreW v hash n ch).1 = ⟨(lpuL v.c ch n).1, v.w, (iendL v.i hash v.tick n 2).1, v.p, (addF v.f 5 hash n).1, v.next, v.tick⟩ := by rw [wreW, if_pos h]; rfl
  unfold wreE at h
  split at h
  · cases h
  rename_i h1
  split at h
  · rename_i h2; exact absurd h h2
  rename_i h2
  split at h
  · rename_i h3; exact absurd h h3
  rename_i h3
  have hok : okW v := Decidable.byContradiction h1
  have hI : (iendL v.i hash v.tick n 2).2 = 0 := Decidable.byContradiction h2
  have hC : (lpuL v.c ch n).2 = 0 := Decidable.byContradiction h3
  obtain ⟨-, i1, -⟩ := iend_all hI (by decide)
  obtain ⟨-, _, -, -, -, -, c1, c2⟩ := lpu_all hC
  rw [e]
  exact ⟨hok, okW_i (okW_c hok c1 c2) i1 (addF_ok h), hI, hC, h, rfl⟩
theorem cancel_all {v : Wl} {hash : Nat} (h : (wcaW v hash).2 = 0) : okW v ∧ okW (wcaW v hash).1 ∧ (iendL v.i hash v.tick MM 3).2 = 0 ∧ (addF v.f 4 hash 0).2.2 = 0 ∧
    (wcaW v hash).1 = ⟨v.c, v.w, (iendL v.i hash v.tick MM 3).1, v.p, (addF v.f 4 hash 0).1, v.next, v.tick⟩ := by
  rw [wcaW_e] at h
  have e : (wcaW v hash).1 = ⟨v.c, v.w, (iendL v.i hash v.tick MM 3).1, v.p, (addF v.f 4 hash 0).1, v.next, v.tick⟩ := by rw [wcaW, if_pos h]; rfl
  unfold wcaE at h
  split at h
  · cases h
  rename_i h1
  split at h
  · rename_i h2; exact absurd h h2
  rename_i h2
  have hok : okW v := Decidable.byContradiction h1
  have hI : (iendL v.i hash v.tick MM 3).2 = 0 := Decidable.byContradiction h2
  obtain ⟨-, i1, -⟩ := iend_all hI (by decide)
  rw [e]
  exact ⟨hok, okW_i hok i1 (addF_ok h), hI, h, rfl⟩
theorem close_all {v : Wl} {ch : Nat} (h : (wclW v ch).2 = 0) : okW v ∧ okW (wclW v ch).1 ∧ (lclL v.c ch).2 = 0 ∧ (addF v.f 7 ch 0).2.2 = 0 ∧
    (wclW v ch).1 = ⟨(lclL v.c ch).1, v.w, v.i, v.p, (addF v.f 7 ch 0).1, v.next, v.tick⟩ := by
  rw [wclW_e] at h
  have e : (wclW v ch).1 = ⟨(lclL v.c ch).1, v.w, v.i, v.p, (addF v.f 7 ch 0).1, v.next, v.tick⟩ := by rw [wclW, if_pos h]; rfl
  unfold wclE at h
  split at h
  · cases h
  rename_i h1
  split at h
  · rename_i h2; exact absurd h h2
  rename_i h2
  have hok : okW v := Decidable.byContradiction h1
  have hC : (lclL v.c ch).2 = 0 := Decidable.byContradiction h2
  obtain ⟨-, _, -, -, -, -, c1, c2⟩ := lcl_all hC
  rw [e]
  exact ⟨hok, okW_i (okW_c hok c1 c2) hok.2.1 (addF_ok h), hC, h, rfl⟩
theorem later_all {v : Wl} {t : Nat} (h : (wlaW v t).2 = 0) : okW v ∧ okW (wlaW v t).1 ∧ v.tick ≤ t ∧ (wlaW v t).1 = { v with i := v.i.filter fun x => !overI t x, tick := t } := by
  rw [wlaW_e] at h
  have e : (wlaW v t).1 = { v with i := (sweepI v.i t).1, tick := t } := by rw [wlaW, if_pos h]
  unfold wlaE at h
  split at h
  · cases h
  rename_i h1
  split at h
  · cases h
  rename_i h2
  have hok : okW v := Decidable.byContradiction h1
  obtain ⟨-, s1, s2⟩ := sweep_ok (l := v.i) (tick := t) (by rw [sweepI, if_pos hok.2.1])
  rw [e, s2]
  rw [s2] at s1
  exact ⟨hok, ⟨hok.1, s1, hok.2.2⟩, by omega, rfl⟩
end Dm
namespace Dm
open Go Go.Proofs Go.IntWalk
@[go_sem] def iins_T2 : Tab := [ovk 230]
theorem iins_T2_ok : TabOk Tryz.prog iins_T2 := .cons (ov_ok 230) .nil
@[go_sem] def iins_T3 : Tab := [fg 12]
theorem iins_T3_ok : TabOk Tryz.prog iins_T3 := .cons (fg_ok 12) .nil
theorem iins_wide (l : List Iv) : Wide 4 (ivs l) := of_eq_true (ivs_wide l)
set_option maxRecDepth 8000 in
set_option maxHeartbeats 1000000 in
theorem iins_ok (l : List Iv) (x : Iv) (i : Nat) (hi : i ≤ l.length) (hl : l.length ≤ 1000000) :
    ACall Tryz.prog 171 [.vec 0 l.length, .int .i64 i, .vec 1 1] [(1, .vec true 4 64 (ivs [x])), (0, .vec true 4 64 (ivs l))] 2 fun d os _ => Grown 4 64 (ivs (Srt.ins l i x)) d os := by
  have hil : (Srt.ins l i x).length = l.length + 1 := Srt.ins_len
  have hq : ∀ j os, lk j os = some (.vec true 4 64 (ivs (Srt.ins l i x))) → Grown 4 64 (ivs (Srt.ins l i x)) (.vec j (l.length + 1)) os := fun j os h => ⟨j, by rw [ivs_length, hil], h⟩
  by_cases hin : i = l.length
  · refine ac171 iins_T3_ok (Nat.le_of_ble_eq_true rfl) ?_
    have e4 : ((1 : Int) = 0) = False := eq_false (by decide)
    subst hin
    simp -implicitDefEqProofs only [cdA, go_sem, Go.Proofs.Tryz.f171, e4, decide_true, reduceIte, List.cons.injEq, cdB]
    refine ⟨Int.le_refl _, fun h => h.elim, fun _ => ⟨by omega, hq _ _ ?_⟩⟩
    rw [lk_cons, if_neg (by decide), lk_hd]
    simp [Srt.ins]
  · have hlt : i < l.length := by omega
    refine ACall.opn 0 rfl (by rw [ivs_length]; omega) fun c hc hcm => ?_
    refine ACall.seal ?_
    rw [ivs_length] at hc
    refine ac171 iins_T2_ok (Nat.le_of_ble_eq_true rfl) ?_
    have e1 : IntKind.i64.wrap ((l.length : Int) + 1) = ((l.length + 1 : Nat) : Int) := by rw [i64_in _ (by omega)]; omega
    have e2 : IntKind.i64.wrap ((i : Int) + 1) = ((i + 1 : Nat) : Int) := by rw [i64_in _ (by omega)]; omega
    have e3 : ((i : Int) = (l.length : Int)) = False := eq_false (by omega)
    have e4 : ((1 : Int) = 0) = False := eq_false (by decide)
    have e5 : IntKind.i64.wrap ((l.length : Int) + 1 - (i : Int)) = ((l.length + 1 - i : Nat) : Int) := by rw [i64_in _ (by omega)]; omega
    have e6 : ((l.length : Int) + 1).toNat = l.length + 1 := by omega
    have e7 : ((i : Int) + 1).toNat = i + 1 := by omega
    have e8 : i + (l.length + 1 - i) = l.length + 1 := by omega
    simp -implicitDefEqProofs only [cdA, go_sem, Go.Proofs.Tryz.f171, e3, e4, e1, e2, e5, e6, e7, e8, decide_false, reduceIte, List.cons.injEq, cdB]
    refine ⟨by omega, fun _ => ⟨fun h1 => ⟨by omega, by omega, fun c1 h2 h3 => ⟨by omega, ?_⟩⟩, fun h1 => ⟨by omega, by omega, ?_, ?_⟩⟩⟩
    · refine ADraw.run us171_11 iins_T2_ok follows_mixed (by kernel_rfl) (by kernel_rfl) ?_
      simp -implicitDefEqProofs only [cdA, go_sem, e1, e2, e5, e6, e7, e8, reduceIte, List.cons.injEq, cdB]
      refine ⟨by omega, by omega, fun y hy => fit_wide (iins_wide l) y (List.mem_of_mem_take (List.mem_of_mem_drop hy)), ?_⟩
      have := ins_new (sz := 4) (c := c) (c1 := c1) (i := i) (E := ivs l) (x := x.enc) (z := [C.int .u64 0, C.int .u64 0, C.int .u64 0, C.int .i64 0]) (by rw [ivs_length]; exact hlt) (by rw [ivs_length]; exact hc) (by rw [ivs_length]; exact h2)
      rw [ivs_length] at this
      refine hq _ _ ?_
      rw [lk_hd]
      congr 2
      rw [show ivs (List.take (l.length + 1 - i) [x]) = List.take (l.length + 1 - i) [x.enc] by simp [ivs], this]
      simp [ivs, Srt.ins]
    · exact ⟨_, 24, 4, _, rfl, rfl, rfl, rfl, by kernel_rfl, elOf_24⟩
    · refine ADraw.run us171_15 iins_T2_ok follows_mixed (by kernel_rfl) (by kernel_rfl) ?_
      simp -implicitDefEqProofs only [cdA, go_sem, e1, e2, e5, e6, e7, e8, reduceIte, List.cons.injEq, cdB]
      refine ⟨by omega, by omega, fun y hy => fit_wide (iins_wide l) y (List.mem_of_mem_take (List.mem_of_mem_drop hy)), by omega, ?_⟩
      have := ins_old (sz := 4) (c := c) (i := i) (E := ivs l) (x := x.enc) (by rw [ivs_length]; exact hlt) (by rw [ivs_length]; omega)
      rw [ivs_length] at this
      refine hq _ _ ?_
      rw [lk_hd]
      congr 2
      rw [show ivs (List.take (l.length + 1 - i) [x]) = List.take (l.length + 1 - i) [x.enc] by simp [ivs], this]
      simp [ivs, Srt.ins]

def imkE (l : List Iv) (hash n : Nat) : Int := if ¬ okIv l ∨ n = 0 ∨ ¬ n ≤ MM then 1 else if Srt.thr Iv.hash ltN l hash = true then 6 else if l.length = 256 then 7 else 0
def imkL (l : List Iv) (hash n till : Nat) : List Iv × Int := if imkE l hash n = 0 then (Srt.ins l (Srt.pos Iv.hash ltN l hash) ⟨hash, n, till, 1⟩, 0) else ([], imkE l hash n)
@[go_sem] def imake_r (l : List Iv) (hash : Nat) (n : Nat) (till : Nat) : D := .tup [.sl (ivs (imkL l hash n till).1), .int .i64 (imkL l hash n till).2]
@[go_sem] abbrev n_imake : FuncId := 77
@[go_sem] def imake_T : Tab := [(169, sp_ifind), (170, sp_ibill), (172, sp_ivclonef)]
theorem imake_T_ok : TabOk Tryz.prog imake_T := (TabOk.cons sp_ifind_ok (TabOk.cons sp_ibill_ok (TabOk.cons sp_ivclonef_ok TabOk.nil)))
set_option maxRecDepth 8000 in
set_option maxHeartbeats 1000000 in
theorem imake_ok (l : List Iv) (hash : Nat) (n : Nat) (till : Nat)  : PureFn Tryz.prog 77 [.sl (ivs l), .c (.int .u64 (hash : Int)), .c (.int .u64 (n : Int)), .c (.int .u64 (till : Int))] (imake_r l hash n till) := by
  refine .of (ac77 imake_T_ok (Nat.le_of_ble_eq_true rfl) ?_)
  simp -implicitDefEqProofs only [cdA, go_sem, Go.Proofs.Tryz.f77, reduceIte, List.cons.injEq, cdB]
  have hbad : ∀ e, imkE l hash n = e → ¬ e = 0 → ivs (imkL l hash n till).1 = [] ∧ e = (imkL l hash n till).2 := fun e h1 h2 => by
    rw [imkL, if_neg (by rw [h1]; exact h2), h1]; exact ⟨rfl, rfl⟩
  by_cases hok : okIv l
  rotate_left 1
  · have ef : findI l hash = (0, 1) := by rw [findI, if_neg hok]
    rw [ef]
    exact ⟨fun h => absurd rfl h, fun _ => hbad 1 (by rw [imkE, if_pos (.inl hok)]) (by decide)⟩
  have ef : findI l hash = (((Srt.pos Iv.hash ltN l hash : Nat) : Int), if Srt.thr Iv.hash ltN l hash = true then 0 else 5) := by rw [findI, if_pos hok]
  have h256 := hok.1
  rw [ef]
  refine ⟨fun _ => ⟨fun h1 => ?_, fun h1 => hbad 1 (by rw [imkE, if_pos (.inr (by
    by_cases hn : n = 0
    · exact .inl hn
    · exact .inr fun h => h1 ⟨hn, h⟩))]) (by decide)⟩, fun h => by dsimp only at h; split at h <;> cases h⟩
  have hA : ¬ (¬ okIv l ∨ n = 0 ∨ ¬ n ≤ MM) := by
    rintro (h | h | h)
    · exact h hok
    · exact h1.1 h
    · exact h h1.2
  by_cases ht : Srt.thr Iv.hash ltN l hash = true
  · rw [if_pos ht]
    exact ⟨fun _ => hbad 6 (by rw [imkE, if_neg hA, if_pos ht]) (by decide), fun h => absurd rfl h⟩
  rw [if_neg ht]
  refine ⟨fun h => absurd (show (5 : Int) = 0 from h) (by decide), fun _ _ => ⟨fun h3 => hbad 7 (by rw [imkE, if_neg hA, if_neg ht, if_pos (by omega)]) (by decide), fun h3 => ⟨by omega, ?_⟩⟩⟩
  have hpos : Srt.pos Iv.hash ltN l hash ≤ l.length := Srt.pos_le
  refine ACall.grow (mid := [.int .i64 _]) (iins_ok l ⟨hash, n, till, 1⟩ (Srt.pos Iv.hash ltN l hash) hpos (by omega)) rfl rfl (by decide) (by simp [Srt.ins_len]) (fun d hd g g' w v hv => ?_) ?_
  · simp at hd; subst hd
    cases hv with
    | c _ _ h => cases h; exact .c _ _ (.int _ _)
  · simp -implicitDefEqProofs only [cdA, go_sem, reduceIte, List.cons.injEq, cdB]
    rw [imkL, if_pos (by rw [imkE, if_neg hA, if_neg ht, if_neg (by omega)])]
    exact ⟨⟨rfl, _, _, _, rfl⟩, rfl⟩
def sp_imake : List D → Option (Prop × D × Fr)
  | [.c (.sl z1), .c (.int .u64 z2), .c (.int .u64 z3), .c (.int .u64 z4)] => some (z1 = ivs (divs z1) ∧ z2 = (z2.toNat : Int) ∧ z3 = (z3.toNat : Int) ∧ z4 = (z4.toNat : Int), imake_r (divs z1) z2.toNat z3.toNat z4.toNat, [])
  | _ => none
attribute [go_sem] sp_imake
theorem sp_imake_ok : ∀ rs p r fr, sp_imake rs = some (p, r, fr) → p → FnOk Tryz.prog 77 rs r fr := by
  intro rs p r fr h hp
  unfold sp_imake at h
  split at h <;> cases h
  obtain ⟨hc0, hc1, hc2, hc3⟩ := hp
  rename_i z1 z2 z3 z4
  obtain ⟨z1, rfl⟩ : ∃ m, z1 = ivs m := ⟨_, hc0⟩
  obtain ⟨z2, rfl⟩ : ∃ m : Nat, z2 = m := ⟨_, hc1⟩
  obtain ⟨z3, rfl⟩ : ∃ m : Nat, z3 = m := ⟨_, hc2⟩
  obtain ⟨z4, rfl⟩ : ∃ m : Nat, z4 = m := ⟨_, hc3⟩
  simp only [Int.toNat_natCast, divs_ivs]
  exact imake_ok z1 z2 z3 z4
theorem imk_2 {l : List Iv} {hash n till : Nat} : (imkL l hash n till).2 = imkE l hash n := by
  unfold imkL
  split
  · rename_i h; exact h.symm
  · rfl
theorem imk_all {l : List Iv} {hash n till : Nat} (h : (imkL l hash n till).2 = 0) : okIv l ∧ okIv (imkL l hash n till).1 := by
  rw [imk_2] at h
  have e : (imkL l hash n till).1 = Srt.ins l (Srt.pos Iv.hash ltN l hash) ⟨hash, n, till, 1⟩ := by rw [imkL, if_pos h]
  rw [e]
  unfold imkE at h
  split at h
  · cases h
  rename_i h1
  split at h
  · cases h
  rename_i h2
  split at h
  · cases h
  rename_i h3
  have hok : okIv l := Decidable.byContradiction fun hn => h1 (.inl hn)
  have hl := hok.1
  refine ⟨hok, ⟨by rw [Srt.ins_len]; omega, fun x hx => ?_, ?_⟩⟩
  · rcases List.mem_cons.1 (Srt.ins_perm.mem_iff.1 hx) with rfl | hx
    · exact ⟨⟨fun h => h1 (.inr (.inl h)), Decidable.byContradiction fun h => h1 (.inr (.inr h))⟩, show (1 : Int) ≤ 1 by decide, show (1 : Int) ≤ 3 by decide⟩
    · exact hok.2.1 x hx
  · exact (Srt.chn_up (lt := ltN) Srt.totNat).2 (Srt.ins_up (key := Iv.hash) (x := ⟨hash, n, till, 1⟩) Srt.totNat ((Srt.chn_up (lt := ltN) Srt.totNat).1 hok.2.2) h2)
theorem imk_len {l : List Iv} {hash n till : Nat} (h : (imkL l hash n till).2 = 0) : (imkL l hash n till).1.length ≤ 256 := (imk_all h).2.1
end Dm
namespace Dm
open Go Go.Proofs Go.IntWalk
def wmkI (v : Wl) (hash : Nat) (n : Nat) (till : Nat) : List Iv × Int := imkL v.i hash n till
def wmkF (v : Wl) (hash : Nat) (n : Nat) (till : Nat) : Fd × Nat × Int := addF v.f 3 hash n
def wmkE (v : Wl) (hash : Nat) (n : Nat) (till : Nat) : Int := if ¬ okW v then 1 else if (wmkI v hash n till).2 ≠ 0 then (wmkI v hash n till).2 else (wmkF v hash n till).2.2
def wmkW (v : Wl) (hash : Nat) (n : Nat) (till : Nat) : Wl × Int := if wmkE v hash n till = 0 then (⟨v.c, v.w, (wmkI v hash n till).1, v.p, (wmkF v hash n till).1, v.next, v.tick⟩, 0) else (zeroW, wmkE v hash n till)
@[go_sem] def wmake_r (v : Wl) (hash : Nat) (n : Nat) (till : Nat) : D := .tup [.agg [.sl (chs (wmkW v hash n till).1.c), .sl (wts (wmkW v hash n till).1.w), .sl (ivs (wmkW v hash n till).1.i), .sl (pys (wmkW v hash n till).1.p), .int .u64 (wmkW v hash n till).1.f.next, .sl (evs (wmkW v hash n till).1.f.l), .int .u64 (wmkW v hash n till).1.next, .int .u64 (wmkW v hash n till).1.tick], .int .i64 (wmkW v hash n till).2]
@[go_sem] abbrev n_wmake : FuncId := 22
@[go_sem] def wmake_T : Tab := [(37, sp_wcheck), (77, sp_imake), (142, sp_fadd), (119, sp_wown)]
theorem wmake_T_ok : TabOk Tryz.prog wmake_T := (TabOk.cons sp_wcheck_ok (TabOk.cons sp_imake_ok (TabOk.cons sp_fadd_ok (TabOk.cons sp_wown_ok TabOk.nil))))
set_option maxRecDepth 8000 in
set_option maxHeartbeats 1000000 in
theorem wmake_ok (v : Wl) (hash : Nat) (n : Nat) (till : Nat) (h : v.f.next ≤ 18446744073709551615) : PureFn Tryz.prog 22 [.agg [.sl (chs v.c), .sl (wts v.w), .sl (ivs v.i), .sl (pys v.p), .c (.int .u64 (v.f.next : Int)), .sl (evs v.f.l), .c (.int .u64 (v.next : Int)), .c (.int .u64 (v.tick : Int))], .c (.int .u64 (hash : Int)), .c (.int .u64 (n : Int)), .c (.int .u64 (till : Int))] (wmake_r v hash n till) := by
  refine .of (ac22 wmake_T_ok (Nat.le_of_ble_eq_true rfl) ?_)
  simp -implicitDefEqProofs only [cdA, go_sem, Go.Proofs.Tryz.f22, reduceIte, List.cons.injEq, cdB]
  refine ac45 wmake_T_ok (Nat.le_of_ble_eq_true rfl) ?_
  simp -implicitDefEqProofs only [cdA, go_sem, Go.Proofs.Tryz.f45, reduceIte, List.cons.injEq, cdB]
  refine ADraw.run us45_1 wmake_T_ok follows_mixed (by kernel_rfl) (by kernel_rfl) ?_
  simp -implicitDefEqProofs only [cdA, go_sem, reduceIte, List.cons.injEq, cdB]
  refine ⟨h, ?_⟩
  have hbad : ∀ e : Int, wmkE v hash n till = e → ¬ e = 0 → (chs (wmkW v hash n till).1.c = [] ∧ wts (wmkW v hash n till).1.w = [] ∧ ivs (wmkW v hash n till).1.i = [] ∧ pys (wmkW v hash n till).1.p = [] ∧ 0 = ((wmkW v hash n till).1.f.next : Int) ∧ evs (wmkW v hash n till).1.f.l = [] ∧ 0 = ((wmkW v hash n till).1.next : Int) ∧ 0 = ((wmkW v hash n till).1.tick : Int)) ∧ e = (wmkW v hash n till).2 := fun e h1 h2 => by
    have : wmkW v hash n till = (zeroW, e) := by rw [wmkW, if_neg (by rw [h1]; exact h2), h1]
    rw [this]; exact ⟨⟨rfl, rfl, rfl, rfl, rfl, rfl, rfl, rfl⟩, rfl⟩
  by_cases hok : okW v
  rotate_left 1
  · have hck : (chkW v = 0) = False := eq_false fun h => hok (chkW_0.1 h)
    have he : wmkE v hash n till = 1 := by rw [wmkE, if_pos hok]
    have hc1 : chkW v = 1 := by rw [chkW, if_neg hok]
    skip
    refine ac75 wmake_T_ok (Nat.le_of_ble_eq_true rfl) ?_
    simp -implicitDefEqProofs only [cdA, go_sem, Go.Proofs.Tryz.f75, hck, cdN, reduceIte, List.cons.injEq, cdB]
    refine ac56 wmake_T_ok (Nat.le_of_ble_eq_true rfl) ?_
    simp -implicitDefEqProofs only [cdA, go_sem, Go.Proofs.Tryz.f56, reduceIte, List.cons.injEq, cdB]
    refine ac140 wmake_T_ok (Nat.le_of_ble_eq_true rfl) ?_
    simp -implicitDefEqProofs only [cdA, go_sem, Go.Proofs.Tryz.f140, hck, cdN, reduceIte, List.cons.injEq, cdB]
    refine ac47 wmake_T_ok (Nat.le_of_ble_eq_true rfl) ?_
    simp -implicitDefEqProofs only [cdA, go_sem, Go.Proofs.Tryz.f47, hck, cdN, reduceIte, List.cons.injEq, cdB]
    refine ADraw.run us47_2 wmake_T_ok follows_mixed (by kernel_rfl) (by kernel_rfl) ?_
    simp -implicitDefEqProofs only [cdA, go_sem, hck, cdN, reduceIte, List.cons.injEq, cdB]
    exact hbad _ (he.trans hc1.symm) (by rw [hc1]; decide)
  have hck : (chkW v = 0) = True := eq_true (chkW_0.2 hok)
  refine ac75 wmake_T_ok (Nat.le_of_ble_eq_true rfl) ?_
  simp -implicitDefEqProofs only [cdA, go_sem, Go.Proofs.Tryz.f75, hck, cdN, reduceIte, List.cons.injEq, cdB]
  refine ac76 wmake_T_ok (Nat.le_of_ble_eq_true rfl) ?_
  simp -implicitDefEqProofs only [cdA, go_sem, Go.Proofs.Tryz.f76, reduceIte, List.cons.injEq, cdB]
  have eI : imkL v.i hash n till = wmkI v hash n till := rfl
  rw [eI]
  refine ⟨fun hs0 => ?_, fun hs0 => ?_⟩
  rotate_left 1
  · skip
    refine ac56 wmake_T_ok (Nat.le_of_ble_eq_true rfl) ?_
    simp -implicitDefEqProofs only [cdA, go_sem, Go.Proofs.Tryz.f56, reduceIte, List.cons.injEq, cdB]
    refine ac140 wmake_T_ok (Nat.le_of_ble_eq_true rfl) ?_
    simp -implicitDefEqProofs only [cdA, go_sem, Go.Proofs.Tryz.f140, hs0, cdN, reduceIte, List.cons.injEq, cdB]
    refine ac47 wmake_T_ok (Nat.le_of_ble_eq_true rfl) ?_
    simp -implicitDefEqProofs only [cdA, go_sem, Go.Proofs.Tryz.f47, hs0, cdN, reduceIte, List.cons.injEq, cdB]
    refine ADraw.run us47_2 wmake_T_ok follows_mixed (by kernel_rfl) (by kernel_rfl) ?_
    simp -implicitDefEqProofs only [cdA, go_sem, hs0, cdN, reduceIte, List.cons.injEq, cdB]
    exact hbad _ (by rw [wmkE, if_neg (fun h => h hok), if_pos hs0]) hs0
  refine ac56 wmake_T_ok (Nat.le_of_ble_eq_true rfl) ?_
  simp -implicitDefEqProofs only [cdA, go_sem, Go.Proofs.Tryz.f56, reduceIte, List.cons.injEq, cdB]
  refine ac140 wmake_T_ok (Nat.le_of_ble_eq_true rfl) ?_
  simp -implicitDefEqProofs only [cdA, go_sem, Go.Proofs.Tryz.f140, hck, cdN, reduceIte, List.cons.injEq, cdB]
  refine ac141 wmake_T_ok (Nat.le_of_ble_eq_true rfl) ?_
  simp -implicitDefEqProofs only [cdA, go_sem, Go.Proofs.Tryz.f141, reduceIte, List.cons.injEq, cdB]
  have eF : addF v.f 3 hash n = wmkF v hash n till := rfl
  rw [eF]
  refine ⟨h, fun hfd => ?_, fun hfd => ?_⟩
  rotate_left 1
  · skip
    refine ac47 wmake_T_ok (Nat.le_of_ble_eq_true rfl) ?_
    simp -implicitDefEqProofs only [cdA, go_sem, Go.Proofs.Tryz.f47, hfd, cdN, reduceIte, List.cons.injEq, cdB]
    refine ADraw.run us47_2 wmake_T_ok follows_mixed (by kernel_rfl) (by kernel_rfl) ?_
    simp -implicitDefEqProofs only [cdA, go_sem, hfd, cdN, reduceIte, List.cons.injEq, cdB]
    exact hbad _ (by rw [wmkE, if_neg (fun h => h hok), if_neg (fun h => h hs0)]) hfd
  have hsm : smallW ⟨v.c, v.w, (wmkI v hash n till).1, v.p, (wmkF v hash n till).1, v.next, v.tick⟩ := by
    have h2 := small_ok hok
    have h50 := imk_len hs0
    exact ⟨h2.1, h2.2.1, h2.2.2.1, (by show (wmkI v hash n till).1.length ≤ _; unfold wmkI; omega), h2.2.2.2.2.1, (by show (wmkF v hash n till).1.l.length ≤ _; unfold wmkF; exact Nat.le_trans add_len (by decide))⟩
  have hfin : wmkW v hash n till = (⟨v.c, v.w, (wmkI v hash n till).1, v.p, (wmkF v hash n till).1, v.next, v.tick⟩, 0) := by
    have : wmkE v hash n till = 0 := by rw [wmkE, if_neg (fun h => h hok), if_neg (fun h => h hs0)]; exact hfd
    rw [wmkW, if_pos this]
  refine ac47 wmake_T_ok (Nat.le_of_ble_eq_true rfl) ?_
  simp -implicitDefEqProofs only [cdA, go_sem, Go.Proofs.Tryz.f47, hck, eq_true hsm, cdN, reduceIte, List.cons.injEq, cdB]
  rw [hfin]
  exact ⟨⟨rfl, rfl, rfl, rfl, rfl, rfl, rfl, rfl⟩, rfl⟩
@[go_sem] def wmake_p (v : Wl) (hash : Nat) (n : Nat) (till : Nat) : Prop := (v.f.next ≤ 18446744073709551615)
def sp_wmake : List D → Option (Prop × D × Fr)
  | [.agg [.c (.sl z2), .c (.sl z3), .c (.sl z4), .c (.sl z5), .c (.int .u64 z7), .c (.sl z8), .c (.int .u64 z9), .c (.int .u64 z10)], .c (.int .u64 z11), .c (.int .u64 z12), .c (.int .u64 z13)] => some (z2 = chs (dchs z2) ∧ z3 = wts (dwts z3) ∧ z4 = ivs (divs z4) ∧ z5 = pys (dpys z5) ∧ z7 = (z7.toNat : Int) ∧ z8 = evs (devs z8) ∧ z9 = (z9.toNat : Int) ∧ z10 = (z10.toNat : Int) ∧ z11 = (z11.toNat : Int) ∧ z12 = (z12.toNat : Int) ∧ z13 = (z13.toNat : Int) ∧ wmake_p (⟨(dchs z2), (dwts z3), (divs z4), (dpys z5), (⟨z7.toNat, (devs z8)⟩ : Fd), z9.toNat, z10.toNat⟩ : Wl) z11.toNat z12.toNat z13.toNat, wmake_r (⟨(dchs z2), (dwts z3), (divs z4), (dpys z5), (⟨z7.toNat, (devs z8)⟩ : Fd), z9.toNat, z10.toNat⟩ : Wl) z11.toNat z12.toNat z13.toNat, [])
  | _ => none
attribute [go_sem] sp_wmake
theorem sp_wmake_ok : ∀ rs p r fr, sp_wmake rs = some (p, r, fr) → p → FnOk Tryz.prog 22 rs r fr := by
  intro rs p r fr h hp
  unfold sp_wmake at h
  split at h <;> cases h
  obtain ⟨hc0, hc1, hc2, hc3, hc4, hc5, hc6, hc7, hc8, hc9, hc10, hp⟩ := hp
  rename_i z2 z3 z4 z5 z7 z8 z9 z10 z11 z12 z13
  obtain ⟨z2, rfl⟩ : ∃ m, z2 = chs m := ⟨_, hc0⟩
  obtain ⟨z3, rfl⟩ : ∃ m, z3 = wts m := ⟨_, hc1⟩
  obtain ⟨z4, rfl⟩ : ∃ m, z4 = ivs m := ⟨_, hc2⟩
  obtain ⟨z5, rfl⟩ : ∃ m, z5 = pys m := ⟨_, hc3⟩
  obtain ⟨z7, rfl⟩ : ∃ m : Nat, z7 = m := ⟨_, hc4⟩
  obtain ⟨z8, rfl⟩ : ∃ m, z8 = evs m := ⟨_, hc5⟩
  obtain ⟨z9, rfl⟩ : ∃ m : Nat, z9 = m := ⟨_, hc6⟩
  obtain ⟨z10, rfl⟩ : ∃ m : Nat, z10 = m := ⟨_, hc7⟩
  obtain ⟨z11, rfl⟩ : ∃ m : Nat, z11 = m := ⟨_, hc8⟩
  obtain ⟨z12, rfl⟩ : ∃ m : Nat, z12 = m := ⟨_, hc9⟩
  obtain ⟨z13, rfl⟩ : ∃ m : Nat, z13 = m := ⟨_, hc10⟩
  simp only [Int.toNat_natCast, dchs_chs, devs_evs, divs_ivs, dpys_pys, dwts_wts]
  simp only [Int.toNat_natCast, dchs_chs, devs_evs, divs_ivs, dpys_pys, dwts_wts, wmake_p] at hp
  exact wmake_ok ⟨z2, z3, z4, z5, ⟨z7, z8⟩, z9, z10⟩ z11 z12 z13 hp
end Dm
namespace Dm
open Go Go.Proofs Go.IntWalk
structure Opn where
  kind : Nat
  a : Nat
  b : Nat
  c : Nat
  tick : Nat
  paid : Bool
  chan : Ch
  w : List Wt
deriving DecidableEq, Inhabited
@[go_sem] def Opn.enc (e : Opn) : List C := [.int .u8 (e.kind : Int), .int .u64 (e.a : Int), .int .u64 (e.b : Int), .int .u64 (e.c : Int), .int .u64 (e.tick : Int), .bool e.paid, .int .u64 (e.chan.id : Int), .int .u64 (e.chan.loc : Int), .int .u64 (e.chan.rem : Int), .int .u64 (e.chan.res : Int), .int .u64 (e.chan.most : Int), .sl (hds e.chan.holds), .bool e.chan.op, .sl (wts e.w)]
def Opn.dec : List C → Opn
  | [.int .u8 z2, .int .u64 z3, .int .u64 z4, .int .u64 z5, .int .u64 z6, .bool z7, .int .u64 z9, .int .u64 z10, .int .u64 z11, .int .u64 z12, .int .u64 z13, .sl z14, .bool z15, .sl z16] => (⟨z2.toNat, z3.toNat, z4.toNat, z5.toNat, z6.toNat, z7, (⟨z9.toNat, z10.toNat, z11.toNat, z12.toNat, z13.toNat, (dhds z14), z15⟩ : Ch), (dwts z16)⟩ : Opn)
  | _ => default
def opns (l : List Opn) : List (List C) := l.map Opn.enc
def dopns (l : List (List C)) : List Opn := l.map Opn.dec
@[simp, go_sem] theorem opns_length (l : List Opn) : (opns l).length = l.length := by simp [opns]
@[go_sem] theorem opns_get (l : List Opn) (i : Nat) : (opns l).getD i [.int .u8 0, .int .u64 0, .int .u64 0, .int .u64 0, .int .u64 0, .bool false, .int .u64 0, .int .u64 0, .int .u64 0, .int .u64 0, .int .u64 0, .sl [], .bool false, .sl []] = (l.getD i default).enc := by
  simp only [opns, List.getD_eq_getElem?_getD, List.getElem?_map]
  cases l[i]? <;> rfl
@[go_sem] theorem opns_wide (l : List Opn) : Wide 14 (opns l) = True := by
  simp [Wide, opns, Opn.enc]
theorem Opn.dec_enc (e : Opn) : Opn.dec e.enc = e := by
  simp [Opn.enc, Opn.dec, dhds_hds, dwts_wts]
@[go_sem] theorem dopns_opns (l : List Opn) : dopns (opns l) = l := by
  simp only [dopns, opns, List.map_map]
  exact List.map_id'' (fun e => Opn.dec_enc e) l
@[go_sem] theorem opns_app (a b : List Opn) : opns a ++ opns b = opns (a ++ b) := by simp [opns]
@[go_sem] theorem opns_drop (l : List Opn) (k : Nat) : (opns l).drop k = opns (l.drop k) := by simp [opns]
@[go_sem] theorem opns_take (l : List Opn) (k : Nat) : (opns l).take k = opns (l.take k) := by simp [opns]
@[go_sem] theorem opns_one (z17 : Int) (z18 : Int) (z19 : Int) (z20 : Int) (z21 : Int) (z22 : Bool) (z23 : Int) (z24 : Int) (z25 : Int) (z26 : Int) (z27 : Int) (z28 : List Hd) (z29 : Bool) (z30 : List Wt) (hz17 : 0 ≤ z17) (hz18 : 0 ≤ z18) (hz19 : 0 ≤ z19) (hz20 : 0 ≤ z20) (hz21 : 0 ≤ z21) (hz23 : 0 ≤ z23) (hz24 : 0 ≤ z24) (hz25 : 0 ≤ z25) (hz26 : 0 ≤ z26) (hz27 : 0 ≤ z27) : [[C.int .u8 z17, C.int .u64 z18, C.int .u64 z19, C.int .u64 z20, C.int .u64 z21, C.bool z22, C.int .u64 z23, C.int .u64 z24, C.int .u64 z25, C.int .u64 z26, C.int .u64 z27, C.sl (hds z28), C.bool z29, C.sl (wts z30)]] = opns [⟨z17.toNat, z18.toNat, z19.toNat, z20.toNat, z21.toNat, z22, ⟨z23.toNat, z24.toNat, z25.toNat, z26.toNat, z27.toNat, z28, z29⟩, z30⟩] := by simp [opns, Opn.enc, Int.toNat_of_nonneg hz17, Int.toNat_of_nonneg hz18, Int.toNat_of_nonneg hz19, Int.toNat_of_nonneg hz20, Int.toNat_of_nonneg hz21, Int.toNat_of_nonneg hz23, Int.toNat_of_nonneg hz24, Int.toNat_of_nonneg hz25, Int.toNat_of_nonneg hz26, Int.toNat_of_nonneg hz27]
@[go_sem] theorem opns_set (l : List Opn) (i : Nat) (z17 : Int) (z18 : Int) (z19 : Int) (z20 : Int) (z21 : Int) (z22 : Bool) (z23 : Int) (z24 : Int) (z25 : Int) (z26 : Int) (z27 : Int) (z28 : List Hd) (z29 : Bool) (z30 : List Wt) (hz17 : 0 ≤ z17) (hz18 : 0 ≤ z18) (hz19 : 0 ≤ z19) (hz20 : 0 ≤ z20) (hz21 : 0 ≤ z21) (hz23 : 0 ≤ z23) (hz24 : 0 ≤ z24) (hz25 : 0 ≤ z25) (hz26 : 0 ≤ z26) (hz27 : 0 ≤ z27) : (opns l).set i [C.int .u8 z17, C.int .u64 z18, C.int .u64 z19, C.int .u64 z20, C.int .u64 z21, C.bool z22, C.int .u64 z23, C.int .u64 z24, C.int .u64 z25, C.int .u64 z26, C.int .u64 z27, C.sl (hds z28), C.bool z29, C.sl (wts z30)] = opns (l.set i ⟨z17.toNat, z18.toNat, z19.toNat, z20.toNat, z21.toNat, z22, ⟨z23.toNat, z24.toNat, z25.toNat, z26.toNat, z27.toNat, z28, z29⟩, z30⟩) := by simp [opns, List.map_set, Opn.enc, Int.toNat_of_nonneg hz17, Int.toNat_of_nonneg hz18, Int.toNat_of_nonneg hz19, Int.toNat_of_nonneg hz20, Int.toNat_of_nonneg hz21, Int.toNat_of_nonneg hz23, Int.toNat_of_nonneg hz24, Int.toNat_of_nonneg hz25, Int.toNat_of_nonneg hz26, Int.toNat_of_nonneg hz27]
@[go_sem] theorem opns_cons (l : List Opn) (z17 : Int) (z18 : Int) (z19 : Int) (z20 : Int) (z21 : Int) (z22 : Bool) (z23 : Int) (z24 : Int) (z25 : Int) (z26 : Int) (z27 : Int) (z28 : List Hd) (z29 : Bool) (z30 : List Wt) (hz17 : 0 ≤ z17) (hz18 : 0 ≤ z18) (hz19 : 0 ≤ z19) (hz20 : 0 ≤ z20) (hz21 : 0 ≤ z21) (hz23 : 0 ≤ z23) (hz24 : 0 ≤ z24) (hz25 : 0 ≤ z25) (hz26 : 0 ≤ z26) (hz27 : 0 ≤ z27) : [C.int .u8 z17, C.int .u64 z18, C.int .u64 z19, C.int .u64 z20, C.int .u64 z21, C.bool z22, C.int .u64 z23, C.int .u64 z24, C.int .u64 z25, C.int .u64 z26, C.int .u64 z27, C.sl (hds z28), C.bool z29, C.sl (wts z30)] :: opns l = opns (⟨z17.toNat, z18.toNat, z19.toNat, z20.toNat, z21.toNat, z22, ⟨z23.toNat, z24.toNat, z25.toNat, z26.toNat, z27.toNat, z28, z29⟩, z30⟩ :: l) := by simp [opns, Opn.enc, Int.toNat_of_nonneg hz17, Int.toNat_of_nonneg hz18, Int.toNat_of_nonneg hz19, Int.toNat_of_nonneg hz20, Int.toNat_of_nonneg hz21, Int.toNat_of_nonneg hz23, Int.toNat_of_nonneg hz24, Int.toNat_of_nonneg hz25, Int.toNat_of_nonneg hz26, Int.toNat_of_nonneg hz27]
@[go_sem] theorem Opn.eta {e : Opn} : (⟨e.kind, e.a, e.b, e.c, e.tick, e.paid, e.chan, e.w⟩ : Opn) = e := rfl
def doW (v : Wl) (o : Opn) : Wl × Int :=
  if o.kind % 9 = 0 ∨ o.kind % 9 = 8 then ((payW v o.a o.b).1, (payW v o.a o.b).2.2) else if o.kind % 9 = 1 then wenW v o.a o.paid else if o.kind % 9 = 2 then wmkW v o.a o.b o.tick else if o.kind % 9 = 3 then wcaW v o.a else if o.kind % 9 = 4 then wreW v o.a o.b o.c else if o.kind % 9 = 5 then wopW v o.chan else if o.kind % 9 = 6 then wclW v o.c else (if (likW v o.w).2 = 0 then wlaW (likW v o.w).1 o.tick else likW v o.w)
@[go_sem] def lfew_r (o : Opn) : D := .bool (decide (o.chan.holds.length ≤ 20 ∧ o.w.length ≤ 40))
@[go_sem] abbrev n_lfew : FuncId := 29
@[go_sem] def lfew_T : Tab := []
theorem lfew_T_ok : TabOk Tryz.prog lfew_T := TabOk.nil
set_option maxRecDepth 8000 in
set_option maxHeartbeats 1000000 in
theorem lfew_ok (o : Opn)  : PureFn Tryz.prog 29 [.agg [.c (.int .u8 (o.kind : Int)), .c (.int .u64 (o.a : Int)), .c (.int .u64 (o.b : Int)), .c (.int .u64 (o.c : Int)), .c (.int .u64 (o.tick : Int)), .c (.bool o.paid), .c (.int .u64 (o.chan.id : Int)), .c (.int .u64 (o.chan.loc : Int)), .c (.int .u64 (o.chan.rem : Int)), .c (.int .u64 (o.chan.res : Int)), .c (.int .u64 (o.chan.most : Int)), .sl (hds o.chan.holds), .c (.bool o.chan.op), .sl (wts o.w)]] (lfew_r o) := by
  refine .of (ac29 lfew_T_ok (Nat.le_of_ble_eq_true rfl) ?_)
  simp -implicitDefEqProofs only [cdA, go_sem, Go.Proofs.Tryz.f29, reduceIte, List.cons.injEq, cdB]
  refine fun _ => ⟨fun h1 _ => ?_, fun h1 => (decide_eq_false fun h => by omega).symm⟩
  rw [decide_eq_decide]; omega
def sp_lfew : List D → Option (Prop × D × Fr)
  | [.agg [.c (.int .u8 z32), .c (.int .u64 z33), .c (.int .u64 z34), .c (.int .u64 z35), .c (.int .u64 z36), .c (.bool z37), .c (.int .u64 z39), .c (.int .u64 z40), .c (.int .u64 z41), .c (.int .u64 z42), .c (.int .u64 z43), .c (.sl z44), .c (.bool z45), .c (.sl z46)]] => some (z32 = (z32.toNat : Int) ∧ z33 = (z33.toNat : Int) ∧ z34 = (z34.toNat : Int) ∧ z35 = (z35.toNat : Int) ∧ z36 = (z36.toNat : Int) ∧ z39 = (z39.toNat : Int) ∧ z40 = (z40.toNat : Int) ∧ z41 = (z41.toNat : Int) ∧ z42 = (z42.toNat : Int) ∧ z43 = (z43.toNat : Int) ∧ z44 = hds (dhds z44) ∧ z46 = wts (dwts z46), lfew_r (⟨z32.toNat, z33.toNat, z34.toNat, z35.toNat, z36.toNat, z37, (⟨z39.toNat, z40.toNat, z41.toNat, z42.toNat, z43.toNat, (dhds z44), z45⟩ : Ch), (dwts z46)⟩ : Opn), [])
  | _ => none
attribute [go_sem] sp_lfew
theorem sp_lfew_ok : ∀ rs p r fr, sp_lfew rs = some (p, r, fr) → p → FnOk Tryz.prog 29 rs r fr := by
  intro rs p r fr h hp
  unfold sp_lfew at h
  split at h <;> cases h
  obtain ⟨hc0, hc1, hc2, hc3, hc4, hc5, hc6, hc7, hc8, hc9, hc10, hc11⟩ := hp
  rename_i z32 z33 z34 z35 z36 z37 z39 z40 z41 z42 z43 z44 z45 z46
  obtain ⟨z32, rfl⟩ : ∃ m : Nat, z32 = m := ⟨_, hc0⟩
  obtain ⟨z33, rfl⟩ : ∃ m : Nat, z33 = m := ⟨_, hc1⟩
  obtain ⟨z34, rfl⟩ : ∃ m : Nat, z34 = m := ⟨_, hc2⟩
  obtain ⟨z35, rfl⟩ : ∃ m : Nat, z35 = m := ⟨_, hc3⟩
  obtain ⟨z36, rfl⟩ : ∃ m : Nat, z36 = m := ⟨_, hc4⟩
  obtain ⟨z39, rfl⟩ : ∃ m : Nat, z39 = m := ⟨_, hc5⟩
  obtain ⟨z40, rfl⟩ : ∃ m : Nat, z40 = m := ⟨_, hc6⟩
  obtain ⟨z41, rfl⟩ : ∃ m : Nat, z41 = m := ⟨_, hc7⟩
  obtain ⟨z42, rfl⟩ : ∃ m : Nat, z42 = m := ⟨_, hc8⟩
  obtain ⟨z43, rfl⟩ : ∃ m : Nat, z43 = m := ⟨_, hc9⟩
  obtain ⟨z44, rfl⟩ : ∃ m, z44 = hds m := ⟨_, hc10⟩
  obtain ⟨z46, rfl⟩ : ∃ m, z46 = wts m := ⟨_, hc11⟩
  simp only [Int.toNat_natCast, dhds_hds, dwts_wts]
  exact lfew_ok ⟨z32, z33, z34, z35, z36, z37, ⟨z39, z40, z41, z42, z43, z44, z45⟩, z46⟩
@[go_sem] def ldo_r (v : Wl) (o : Opn) : D := .tup [.agg [.sl (chs (doW v o).1.c), .sl (wts (doW v o).1.w), .sl (ivs (doW v o).1.i), .sl (pys (doW v o).1.p), .int .u64 (doW v o).1.f.next, .sl (evs (doW v o).1.f.l), .int .u64 (doW v o).1.next, .int .u64 (doW v o).1.tick], .int .i64 (doW v o).2]
@[go_sem] abbrev n_ldo : FuncId := 42
@[go_sem] def ldo_T : Tab := [(13, sp_wpay), (15, sp_wend), (22, sp_wmake), (24, sp_wcancel), (26, sp_wreceive), (30, sp_wopen), (32, sp_wclose), (11, sp_wlike), (35, sp_wlater)]
theorem ldo_T_ok : TabOk Tryz.prog ldo_T := (TabOk.cons sp_wpay_ok (TabOk.cons sp_wend_ok (TabOk.cons sp_wmake_ok (TabOk.cons sp_wcancel_ok (TabOk.cons sp_wreceive_ok (TabOk.cons sp_wopen_ok (TabOk.cons sp_wclose_ok (TabOk.cons sp_wlike_ok (TabOk.cons sp_wlater_ok TabOk.nil)))))))))
set_option maxRecDepth 8000 in
set_option maxHeartbeats 1000000 in
theorem ldo_ok (v : Wl) (o : Opn) (h : v.f.next ≤ 18446744073709551615 ∧ o.kind ≤ 255) : PureFn Tryz.prog 42 [.agg [.sl (chs v.c), .sl (wts v.w), .sl (ivs v.i), .sl (pys v.p), .c (.int .u64 (v.f.next : Int)), .sl (evs v.f.l), .c (.int .u64 (v.next : Int)), .c (.int .u64 (v.tick : Int))], .agg [.c (.int .u8 (o.kind : Int)), .c (.int .u64 (o.a : Int)), .c (.int .u64 (o.b : Int)), .c (.int .u64 (o.c : Int)), .c (.int .u64 (o.tick : Int)), .c (.bool o.paid), .c (.int .u64 (o.chan.id : Int)), .c (.int .u64 (o.chan.loc : Int)), .c (.int .u64 (o.chan.rem : Int)), .c (.int .u64 (o.chan.res : Int)), .c (.int .u64 (o.chan.most : Int)), .sl (hds o.chan.holds), .c (.bool o.chan.op), .sl (wts o.w)]] (ldo_r v o) := by
  refine .of (ac42 ldo_T_ok (Nat.le_of_ble_eq_true rfl) ?_)
  simp -implicitDefEqProofs only [cdA, go_sem, Go.Proofs.Tryz.f42, reduceIte, List.cons.injEq, cdB]
  have hm : ((o.kind : Int).tmod 9) = ((o.kind % 9 : Nat) : Int) := by
    rw [Int.tmod_eq_emod_of_nonneg (by omega)]; omega
  have hlt : o.kind % 9 < 9 := Nat.mod_lt _ (by decide)
  rw [hm]
  unfold doW
  generalize o.kind % 9 = k at *
  have hf := h.1
  have hlf : (likW v o.w).2 = 0 → (likW v o.w).1.f.next ≤ 18446744073709551615 := fun h0 => by
    unfold likW at h0 ⊢
    split at h0
    · rename_i h1; rw [if_pos h1]; exact hf
    · cases h0
  clear hm h
  refine ⟨by decide, ?_⟩
  rcases (show k = 0 ∨ k = 1 ∨ k = 2 ∨ k = 3 ∨ k = 4 ∨ k = 5 ∨ k = 6 ∨ k = 7 ∨ k = 8 by omega) with rfl | rfl | rfl | rfl | rfl | rfl | rfl | rfl | rfl
  all_goals first | (simp [hf]; done) | skip
  by_cases h0 : (likW v o.w).2 = 0
  · simp [hf, h0, hlf h0]
  · simp [hf, h0]
@[go_sem] def ldo_p (v : Wl) (o : Opn) : Prop := (v.f.next ≤ 18446744073709551615 ∧ o.kind ≤ 255)
def sp_ldo : List D → Option (Prop × D × Fr)
  | [.agg [.c (.sl z48), .c (.sl z49), .c (.sl z50), .c (.sl z51), .c (.int .u64 z53), .c (.sl z54), .c (.int .u64 z55), .c (.int .u64 z56)], .agg [.c (.int .u8 z58), .c (.int .u64 z59), .c (.int .u64 z60), .c (.int .u64 z61), .c (.int .u64 z62), .c (.bool z63), .c (.int .u64 z65), .c (.int .u64 z66), .c (.int .u64 z67), .c (.int .u64 z68), .c (.int .u64 z69), .c (.sl z70), .c (.bool z71), .c (.sl z72)]] => some (z48 = chs (dchs z48) ∧ z49 = wts (dwts z49) ∧ z50 = ivs (divs z50) ∧ z51 = pys (dpys z51) ∧ z53 = (z53.toNat : Int) ∧ z54 = evs (devs z54) ∧ z55 = (z55.toNat : Int) ∧ z56 = (z56.toNat : Int) ∧ z58 = (z58.toNat : Int) ∧ z59 = (z59.toNat : Int) ∧ z60 = (z60.toNat : Int) ∧ z61 = (z61.toNat : Int) ∧ z62 = (z62.toNat : Int) ∧ z65 = (z65.toNat : Int) ∧ z66 = (z66.toNat : Int) ∧ z67 = (z67.toNat : Int) ∧ z68 = (z68.toNat : Int) ∧ z69 = (z69.toNat : Int) ∧ z70 = hds (dhds z70) ∧ z72 = wts (dwts z72) ∧ ldo_p (⟨(dchs z48), (dwts z49), (divs z50), (dpys z51), (⟨z53.toNat, (devs z54)⟩ : Fd), z55.toNat, z56.toNat⟩ : Wl) (⟨z58.toNat, z59.toNat, z60.toNat, z61.toNat, z62.toNat, z63, (⟨z65.toNat, z66.toNat, z67.toNat, z68.toNat, z69.toNat, (dhds z70), z71⟩ : Ch), (dwts z72)⟩ : Opn), ldo_r (⟨(dchs z48), (dwts z49), (divs z50), (dpys z51), (⟨z53.toNat, (devs z54)⟩ : Fd), z55.toNat, z56.toNat⟩ : Wl) (⟨z58.toNat, z59.toNat, z60.toNat, z61.toNat, z62.toNat, z63, (⟨z65.toNat, z66.toNat, z67.toNat, z68.toNat, z69.toNat, (dhds z70), z71⟩ : Ch), (dwts z72)⟩ : Opn), [])
  | _ => none
attribute [go_sem] sp_ldo
theorem sp_ldo_ok : ∀ rs p r fr, sp_ldo rs = some (p, r, fr) → p → FnOk Tryz.prog 42 rs r fr := by
  intro rs p r fr h hp
  unfold sp_ldo at h
  split at h <;> cases h
  obtain ⟨hc0, hc1, hc2, hc3, hc4, hc5, hc6, hc7, hc8, hc9, hc10, hc11, hc12, hc13, hc14, hc15, hc16, hc17, hc18, hc19, hp⟩ := hp
  rename_i z48 z49 z50 z51 z53 z54 z55 z56 z58 z59 z60 z61 z62 z63 z65 z66 z67 z68 z69 z70 z71 z72
  obtain ⟨z48, rfl⟩ : ∃ m, z48 = chs m := ⟨_, hc0⟩
  obtain ⟨z49, rfl⟩ : ∃ m, z49 = wts m := ⟨_, hc1⟩
  obtain ⟨z50, rfl⟩ : ∃ m, z50 = ivs m := ⟨_, hc2⟩
  obtain ⟨z51, rfl⟩ : ∃ m, z51 = pys m := ⟨_, hc3⟩
  obtain ⟨z53, rfl⟩ : ∃ m : Nat, z53 = m := ⟨_, hc4⟩
  obtain ⟨z54, rfl⟩ : ∃ m, z54 = evs m := ⟨_, hc5⟩
  obtain ⟨z55, rfl⟩ : ∃ m : Nat, z55 = m := ⟨_, hc6⟩
  obtain ⟨z56, rfl⟩ : ∃ m : Nat, z56 = m := ⟨_, hc7⟩
  obtain ⟨z58, rfl⟩ : ∃ m : Nat, z58 = m := ⟨_, hc8⟩
  obtain ⟨z59, rfl⟩ : ∃ m : Nat, z59 = m := ⟨_, hc9⟩
  obtain ⟨z60, rfl⟩ : ∃ m : Nat, z60 = m := ⟨_, hc10⟩
  obtain ⟨z61, rfl⟩ : ∃ m : Nat, z61 = m := ⟨_, hc11⟩
  obtain ⟨z62, rfl⟩ : ∃ m : Nat, z62 = m := ⟨_, hc12⟩
  obtain ⟨z65, rfl⟩ : ∃ m : Nat, z65 = m := ⟨_, hc13⟩
  obtain ⟨z66, rfl⟩ : ∃ m : Nat, z66 = m := ⟨_, hc14⟩
  obtain ⟨z67, rfl⟩ : ∃ m : Nat, z67 = m := ⟨_, hc15⟩
  obtain ⟨z68, rfl⟩ : ∃ m : Nat, z68 = m := ⟨_, hc16⟩
  obtain ⟨z69, rfl⟩ : ∃ m : Nat, z69 = m := ⟨_, hc17⟩
  obtain ⟨z70, rfl⟩ : ∃ m, z70 = hds m := ⟨_, hc18⟩
  obtain ⟨z72, rfl⟩ : ∃ m, z72 = wts m := ⟨_, hc19⟩
  simp only [Int.toNat_natCast, dchs_chs, devs_evs, dhds_hds, divs_ivs, dpys_pys, dwts_wts]
  simp only [Int.toNat_natCast, dchs_chs, devs_evs, dhds_hds, divs_ivs, dpys_pys, dwts_wts, ldo_p] at hp
  exact ldo_ok ⟨z48, z49, z50, z51, ⟨z53, z54⟩, z55, z56⟩ ⟨z58, z59, z60, z61, z62, z63, ⟨z65, z66, z67, z68, z69, z70, z71⟩, z72⟩ hp
end Dm
namespace Dm
open Go Go.Proofs
set_option maxRecDepth 20000
theorem wf_u8 {n : Int} (h : (Lit.int .u8 n).wf = true) : 0 ≤ n ∧ n ≤ 255 := by
  simp [Lit.wf, IntKind.min, IntKind.max, IntKind.bits, IntKind.signed] at h
  omega
theorem typ5 {k : Nat} {xs : List C} (h : Typ Tryz.prog (k + 1) 5 xs) : ∃ n : Nat, xs = [.int .u8 (n : Int)] ∧ n ≤ 255 := by
  simp only [Typ, Tryz.underlying5] at h
  obtain ⟨n, rfl, h1⟩ := h
  have := wf_u8 h1
  exact ⟨n.toNat, by rw [Int.toNat_of_nonneg (by omega)], by omega⟩
def Opn.rng (o : Opn) : Prop := o.kind ≤ 255 ∧ o.a ≤ 18446744073709551615 ∧ o.b ≤ 18446744073709551615 ∧ o.c ≤ 18446744073709551615 ∧ o.tick ≤ 18446744073709551615 ∧ o.chan.rng ∧ ∀ e ∈ o.w, e.rng
theorem typ56x {k : Nat} {xs : List C} (h : Typ Tryz.prog (k + 6) 56 xs) : ∃ o : Opn, xs = o.enc ∧ o.rng := by
  rw [show k + 6 = (k + 5) + 1 from rfl, Typ, Tryz.underlying56] at h
  simp only [TypFs] at h
  obtain ⟨_, _, rfl, h0, _, _, rfl, h1, _, _, rfl, h2, _, _, rfl, h3, _, _, rfl, h4, _, _, rfl, h5, _, _, rfl, h6, _, _, rfl, h7, rfl⟩ := h
  obtain ⟨kd, rfl, q0⟩ := typ5 (k := k + 4) h0
  obtain ⟨a, rfl, q1⟩ := typ26 (k := k + 4) h1
  obtain ⟨b, rfl, q2⟩ := typ26 (k := k + 4) h2
  obtain ⟨c, rfl, q3⟩ := typ26 (k := k + 4) h3
  obtain ⟨t, rfl, q4⟩ := typ26 (k := k + 4) h4
  obtain ⟨p, rfl⟩ := typ4 (k := k + 4) h5
  obtain ⟨e6, q6⟩ := typ50 (k := k + 1) h6
  obtain ⟨w, rfl, q7⟩ := typ23 (k := k + 2) h7
  refine ⟨⟨kd, a, b, c, t, p, Ch.dec _, w⟩, ?_, q0, q1, q2, q3, q4, q6, q7⟩
  rw [← e6]
  simp [Opn.enc, Ch.enc, Ch.dec, dhds_hds]
end Dm
namespace Dm
open Go Go.Proofs Go.IntWalk
theorem make_all {v : Wl} {hash n t : Nat} (h : (wmkW v hash n t).2 = 0) : okW v ∧ okW (wmkW v hash n t).1 ∧ (addF v.f 3 hash n).2.2 = 0 ∧
    (wmkW v hash n t).1 = ⟨v.c, v.w, (imkL v.i hash n t).1, v.p, (addF v.f 3 hash n).1, v.next, v.tick⟩ := by
  have he : (wmkW v hash n t).2 = wmkE v hash n t := by
    unfold wmkW
    split
    · rename_i h; exact h.symm
    · rfl
  rw [he] at h
  have e : (wmkW v hash n t).1 = ⟨v.c, v.w, (imkL v.i hash n t).1, v.p, (addF v.f 3 hash n).1, v.next, v.tick⟩ := by rw [wmkW, if_pos h]; rfl
  unfold wmkE at h
  split at h
  · cases h
  rename_i h1
  split at h
  · rename_i h2; exact absurd h h2
  rename_i h2
  have hok : okW v := Decidable.byContradiction h1
  obtain ⟨-, i1⟩ := imk_all (Decidable.byContradiction h2 : (imkL v.i hash n t).2 = 0)
  rw [e]
  exact ⟨hok, okW_i hok i1 (addF_ok h), h, rfl⟩
theorem open_hl {l : List Ch} {c : Ch} (h : (openL l c).2 = 0) : okLd l ∧ c.holds = [] ∧ (openL l c).1 = Srt.ins l (Srt.pos Ch.id ltN l c.id) c ∧ okLd (openL l c).1 ∧ okCh c ∧ ¬ Srt.thr Ch.id ltN l c.id = true := by
  have hf := open_fine h
  unfold openL at h hf ⊢
  split at h
  · cases h
  rename_i h1
  split at h
  · cases h
  rename_i h2
  split at h
  · cases h
  rename_i h3
  split at h
  rotate_left 1
  · cases h
  rename_i h4
  rw [if_neg h1, if_neg h2, if_neg h3, if_pos h4] at hf ⊢
  exact ⟨Decidable.byContradiction fun h => h1 (.inr (.inr (.inr h))), List.eq_nil_of_length_eq_zero (Nat.eq_zero_of_not_pos fun h => h1 (.inr (.inr (.inl h)))), rfl, hf, Decidable.byContradiction fun h => h1 (.inl h), h2⟩
theorem hl_perm {a b : List Ch} (h : a.Perm b) : (hlL a).Perm (hlL b) := h.flatMap_right _
theorem open_all {v : Wl} {c : Ch} (h : (wopW v c).2 = 0) : okW v ∧ okW (wopW v c).1 ∧ (addF v.f 6 c.id c.loc).2.2 = 0 ∧ (openL v.c c).2 = 0 ∧
    (wopW v c).1 = ⟨(openL v.c c).1, v.w, v.i, v.p, (addF v.f 6 c.id c.loc).1, v.next, v.tick⟩ := by
  have he : (wopW v c).2 = wopE v c := by
    unfold wopW
    split
    · rename_i h; exact h.symm
    · rfl
  rw [he] at h
  have e : (wopW v c).1 = ⟨(openL v.c c).1, v.w, v.i, v.p, (addF v.f 6 c.id c.loc).1, v.next, v.tick⟩ := by rw [wopW, if_pos h]; rfl
  unfold wopE at h
  split at h
  · cases h
  rename_i h1
  split at h
  · rename_i h2; exact absurd h h2
  rename_i h2
  have hok : okW v := Decidable.byContradiction h1
  have hC : (openL v.c c).2 = 0 := Decidable.byContradiction h2
  obtain ⟨-, o1, o2, o3, -⟩ := open_hl hC
  have hp : (hlL (openL v.c c).1).Perm (hlL v.c) := by
    rw [o2]
    have h1 : (hlL (Srt.ins v.c (Srt.pos Ch.id ltN v.c c.id) c)).Perm (hlL (c :: v.c)) := hl_perm Srt.ins_perm
    have h2 : hlL (c :: v.c) = hlL v.c := by simp [hlL, hlC, o1]
    rw [h2] at h1; exact h1
  obtain ⟨a1, a2, a3, a4, a5⟩ := agr_parts.1 hok.2.2.2.2.2.2.2
  have ha : agrL v.p (openL v.c c).1 = (true, 0) := agr_parts.2 ⟨a1, o3.1, okLd_ids o3, fun q hq => hp.mem_iff.2 (a4 q hq), by rw [hp.length_eq]; exact a5⟩
  rw [e]
  exact ⟨hok, ⟨o3, hok.2.1, addF_ok h, hok.2.2.2.1, hok.2.2.2.2.1, hok.2.2.2.2.2.1, hok.2.2.2.2.2.2.1, ha⟩, h, hC, rfl⟩
theorem like_all {v : Wl} {l : List Wt} (h : (likW v l).2 = 0) : okW v ∧ okW (likW v l).1 ∧ (likW v l).1 = { v with w := l } := by
  unfold likW at h ⊢
  split at h
  · rename_i h1
    obtain ⟨⟨o1, o2, o3, o4, o5⟩, hl⟩ := h1
    rw [if_pos ⟨⟨o1, o2, o3, o4, o5⟩, hl⟩]
    exact ⟨⟨o1, o2, o3, o4, o5⟩, ⟨o1, o2, o3, hl, o5⟩, rfl⟩
  · cases h
def nKind (k : Nat) (paid : Bool) : Int := if k = 0 ∨ k = 8 then 0 else if k = 1 then (if paid = true then 1 else 2) else k + 1
theorem do_bad {v : Wl} {o : Opn} (h : ¬ (doW v o).2 = 0) : (doW v o).1 = zeroW := by
  unfold doW at h ⊢
  generalize o.kind % 9 = k at *
  split at h
  · rename_i h1
    rw [if_pos h1]
    dsimp only at h ⊢
    rw [payW_e] at h
    rw [payW, if_neg h]
  rename_i h1
  rw [if_neg h1]
  split at h
  · rename_i h2; rw [if_pos h2]; rw [wenW_e] at h; rw [wenW, if_neg h]
  rename_i h2
  rw [if_neg h2]
  split at h
  · rename_i h3; rw [if_pos h3]
    unfold wmkW at h ⊢
    split at h
    · exact absurd rfl h
    · rename_i h4; rw [if_neg h4]
  rename_i h3
  rw [if_neg h3]
  split at h
  · rename_i h4; rw [if_pos h4]; rw [wcaW_e] at h; rw [wcaW, if_neg h]
  rename_i h4
  rw [if_neg h4]
  split at h
  · rename_i h5; rw [if_pos h5]; rw [wreW_e] at h; rw [wreW, if_neg h]
  rename_i h5
  rw [if_neg h5]
  split at h
  · rename_i h6; rw [if_pos h6]
    unfold wopW at h ⊢
    split at h
    · exact absurd rfl h
    · rename_i h4; rw [if_neg h4]
  rename_i h6
  rw [if_neg h6]
  split at h
  · rename_i h7; rw [if_pos h7]; rw [wclW_e] at h; rw [wclW, if_neg h]
  rename_i h7
  rw [if_neg h7]
  split at h
  · rename_i h8; rw [if_pos h8]; rw [wlaW_e] at h; rw [wlaW, if_neg h]
  · rename_i h8; rw [if_neg h8]
    unfold likW at h ⊢
    split at h
    · exact absurd rfl h
    · rename_i h9; rw [if_neg h9]
theorem pay_f {v : Wl} {hash n : Nat} (h : (payW v hash n).2.2 = 0) : (addF v.f 0 v.next n).2.2 = 0 ∧ (payW v hash n).1.f = (addF v.f 0 v.next n).1 := by
  rw [payW_e] at h
  exact ⟨(payE_0 h).2.2.2.2.2.2.2, by rw [payW, if_pos h]; rfl⟩
theorem do_note {v : Wl} {o : Opn} (h : (doW v o).2 = 0) (hk : o.kind % 9 ≠ 7) : ∃ a n, (addF v.f (nKind (o.kind % 9) o.paid) a n).2.2 = 0 ∧ (doW v o).1.f = (addF v.f (nKind (o.kind % 9) o.paid) a n).1 := by
  have hlt : o.kind % 9 < 9 := Nat.mod_lt _ (by decide)
  unfold doW at h ⊢
  unfold nKind
  generalize o.kind % 9 = k at *
  rcases (show k = 0 ∨ k = 1 ∨ k = 2 ∨ k = 3 ∨ k = 4 ∨ k = 5 ∨ k = 6 ∨ k = 8 by omega) with rfl | rfl | rfl | rfl | rfl | rfl | rfl | rfl
  · exact ⟨_, _, pay_f h⟩
  · obtain ⟨-, -, e, -, -, hF⟩ := end_all h
    refine ⟨o.a, (lendL v.c o.a o.paid).2.1, hF, ?_⟩
    show (wenW v o.a o.paid).1.f = _
    rw [e]; rfl
  · obtain ⟨-, -, hF, e⟩ := make_all h
    refine ⟨_, _, hF, ?_⟩
    show (wmkW v o.a o.b o.tick).1.f = _
    rw [e]; rfl
  · obtain ⟨-, -, -, hF, e⟩ := cancel_all h
    refine ⟨_, _, hF, ?_⟩
    show (wcaW v o.a).1.f = _
    rw [e]; rfl
  · obtain ⟨-, -, -, -, hF, e⟩ := receive_all h
    refine ⟨_, _, hF, ?_⟩
    show (wreW v o.a o.b o.c).1.f = _
    rw [e]; rfl
  · obtain ⟨-, -, hF, -, e⟩ := open_all h
    refine ⟨_, _, hF, ?_⟩
    show (wopW v o.chan).1.f = _
    rw [e]; rfl
  · obtain ⟨-, -, -, hF, e⟩ := close_all h
    refine ⟨_, _, hF, ?_⟩
    show (wclW v o.c).1.f = _
    rw [e]; rfl
  · exact ⟨_, _, pay_f h⟩
theorem do_like {v : Wl} {o : Opn} (h : (doW v o).2 = 0) (hk : o.kind % 9 = 7) : (doW v o).1.f = v.f := by
  unfold doW at h ⊢
  rw [hk] at h ⊢
  simp only [show ¬ (7 = 0 ∨ 7 = 8) by decide, if_false, show ¬ 7 = 1 by decide, show ¬ 7 = 2 by decide, show ¬ 7 = 3 by decide, show ¬ 7 = 4 by decide, show ¬ 7 = 5 by decide, show ¬ 7 = 6 by decide] at h ⊢
  split at h
  · rename_i h8
    rw [if_pos h8]
    obtain ⟨-, -, -, e⟩ := later_all h
    obtain ⟨-, -, e2⟩ := like_all h8
    rw [e, e2]
  · rename_i h8; exact absurd h h8
end Dm
namespace Dm
open Go Go.Proofs Go.IntWalk
@[go_sem] def WalletNotes_r (w : Wl) (o : Opn) : D := .bool true
@[go_sem] abbrev n_WalletNotes : FuncId := 8
@[go_sem] def WalletNotes_T : Tab := [(9, sp_live), (10, sp_few17), (29, sp_lfew), (42, sp_ldo)]
theorem WalletNotes_T_ok : TabOk Tryz.prog WalletNotes_T := (TabOk.cons sp_live_ok (TabOk.cons sp_few17_ok (TabOk.cons sp_lfew_ok (TabOk.cons sp_ldo_ok TabOk.nil))))
set_option maxRecDepth 8000 in
set_option maxHeartbeats 1000000 in
theorem WalletNotes_ok (w : Wl) (o : Opn) (h : w.f.next ≤ 18446744073709551615 ∧ o.kind ≤ 255) : PureFn Tryz.prog 8 [.agg [.sl (chs w.c), .sl (wts w.w), .sl (ivs w.i), .sl (pys w.p), .c (.int .u64 (w.f.next : Int)), .sl (evs w.f.l), .c (.int .u64 (w.next : Int)), .c (.int .u64 (w.tick : Int))], .agg [.c (.int .u8 (o.kind : Int)), .c (.int .u64 (o.a : Int)), .c (.int .u64 (o.b : Int)), .c (.int .u64 (o.c : Int)), .c (.int .u64 (o.tick : Int)), .c (.bool o.paid), .c (.int .u64 (o.chan.id : Int)), .c (.int .u64 (o.chan.loc : Int)), .c (.int .u64 (o.chan.rem : Int)), .c (.int .u64 (o.chan.res : Int)), .c (.int .u64 (o.chan.most : Int)), .sl (hds o.chan.holds), .c (.bool o.chan.op), .sl (wts o.w)]] (WalletNotes_r w o) := by
  refine .of (ac8 WalletNotes_T_ok (Nat.le_of_ble_eq_true rfl) ?_)
  simp -implicitDefEqProofs only [cdA, go_sem, Go.Proofs.Tryz.f8, reduceIte, List.cons.injEq, cdB]
  obtain ⟨h, hkd⟩ := h
  have hm : ((o.kind : Int).tmod 9) = ((o.kind % 9 : Nat) : Int) := by
    rw [Int.tmod_eq_emod_of_nonneg (by omega)]; omega
  have hlt : o.kind % 9 < 9 := Nat.mod_lt _ (by decide)
  rw [hm]
  refine ⟨fun hfew => ⟨fun hof => ⟨⟨h, hkd⟩, fun h0 => ⟨by decide, fun h7 => ?_, fun h7 => ?_⟩, fun h0 => ?_⟩, fun _ => trivial⟩, fun _ => trivial⟩
  · have e := do_like h0 (by omega)
    rw [e]
    exact ⟨fun _ _ _ => decide_eq_true rfl, fun h => h rfl⟩
  · obtain ⟨a, n, hF, e⟩ := do_note h0 (by omega)
    obtain ⟨n1, n2, n3⟩ := addF_next hF
    have hok : okFd (addF w.f (nKind (o.kind % 9) o.paid) a n).1 := addF_ok hF
    have hM := hok.2.1
    have hl64 := add_len (f := w.f) (k := nKind (o.kind % 9) o.paid) (a := a) (n := n)
    rw [e]
    generalize (addF w.f (nKind (o.kind % 9) o.paid) a n).1 = f at *
    have hpos : 0 < f.l.length := by
      cases hl : f.l with
      | nil => rw [hl] at n3; cases n3
      | cons x t => simp
    have hlast : f.l.getD (f.l.length - 1) default = ⟨w.f.next, nKind (o.kind % 9) o.paid, a, n⟩ := by
      rw [List.getLast?_eq_getElem?] at n3
      rw [List.getD_eq_getElem?_getD, n3]; rfl
    unfold MM at hM
    rw [n1] at hM ⊢
    rw [i64_in ((f.l.length : Int) - 1) (by omega), show ((f.l.length : Int) - 1).toNat = f.l.length - 1 by omega, hlast, u64_in ((w.f.next : Int) + 1) (by omega)]
    dsimp only
    have hkk : ∀ k, k < 9 → k ≠ 7 → k ≠ 1 → nKind k o.paid = ([0, 2, 3, 4, 5, 6, 7, -1, 0] : List Int).getD k default := fun k h1 h2 h3 => by
      rcases (show k = 0 ∨ k = 2 ∨ k = 3 ∨ k = 4 ∨ k = 5 ∨ k = 6 ∨ k = 8 by omega) with rfl | rfl | rfl | rfl | rfl | rfl | rfl <;> rfl
    refine ⟨fun _ _ => ⟨fun h => by omega, fun _ _ => ⟨⟨by omega, by omega⟩, by decide, ⟨by omega, by omega⟩, by omega, by decide, fun h1 => ⟨fun hp => ⟨fun _ => decide_eq_true ?_, fun h => h rfl⟩, fun hp => ⟨fun _ => decide_eq_true ?_, fun h => h rfl⟩⟩, fun h1 => ⟨fun _ => decide_eq_true ?_, fun h => h rfl⟩⟩⟩, fun h => h (by omega)⟩
    · rw [show o.kind % 9 = 1 by omega, hp]; rfl
    · rw [show o.kind % 9 = 1 by omega, hp]; rfl
    · rw [Int.toNat_natCast]; exact hkk _ hlt (by omega) (by omega)
  · rw [do_bad h0]
    exact fun _ => decide_eq_true rfl
@[go_sem] def WalletNotes_p (w : Wl) (o : Opn) : Prop := (w.f.next ≤ 18446744073709551615 ∧ o.kind ≤ 255)
def sp_WalletNotes : List D → Option (Prop × D × Fr)
  | [.agg [.c (.sl z2), .c (.sl z3), .c (.sl z4), .c (.sl z5), .c (.int .u64 z7), .c (.sl z8), .c (.int .u64 z9), .c (.int .u64 z10)], .agg [.c (.int .u8 z12), .c (.int .u64 z13), .c (.int .u64 z14), .c (.int .u64 z15), .c (.int .u64 z16), .c (.bool z17), .c (.int .u64 z19), .c (.int .u64 z20), .c (.int .u64 z21), .c (.int .u64 z22), .c (.int .u64 z23), .c (.sl z24), .c (.bool z25), .c (.sl z26)]] => some (z2 = chs (dchs z2) ∧ z3 = wts (dwts z3) ∧ z4 = ivs (divs z4) ∧ z5 = pys (dpys z5) ∧ z7 = (z7.toNat : Int) ∧ z8 = evs (devs z8) ∧ z9 = (z9.toNat : Int) ∧ z10 = (z10.toNat : Int) ∧ z12 = (z12.toNat : Int) ∧ z13 = (z13.toNat : Int) ∧ z14 = (z14.toNat : Int) ∧ z15 = (z15.toNat : Int) ∧ z16 = (z16.toNat : Int) ∧ z19 = (z19.toNat : Int) ∧ z20 = (z20.toNat : Int) ∧ z21 = (z21.toNat : Int) ∧ z22 = (z22.toNat : Int) ∧ z23 = (z23.toNat : Int) ∧ z24 = hds (dhds z24) ∧ z26 = wts (dwts z26) ∧ WalletNotes_p (⟨(dchs z2), (dwts z3), (divs z4), (dpys z5), (⟨z7.toNat, (devs z8)⟩ : Fd), z9.toNat, z10.toNat⟩ : Wl) (⟨z12.toNat, z13.toNat, z14.toNat, z15.toNat, z16.toNat, z17, (⟨z19.toNat, z20.toNat, z21.toNat, z22.toNat, z23.toNat, (dhds z24), z25⟩ : Ch), (dwts z26)⟩ : Opn), WalletNotes_r (⟨(dchs z2), (dwts z3), (divs z4), (dpys z5), (⟨z7.toNat, (devs z8)⟩ : Fd), z9.toNat, z10.toNat⟩ : Wl) (⟨z12.toNat, z13.toNat, z14.toNat, z15.toNat, z16.toNat, z17, (⟨z19.toNat, z20.toNat, z21.toNat, z22.toNat, z23.toNat, (dhds z24), z25⟩ : Ch), (dwts z26)⟩ : Opn), [])
  | _ => none
attribute [go_sem] sp_WalletNotes
end Dm
