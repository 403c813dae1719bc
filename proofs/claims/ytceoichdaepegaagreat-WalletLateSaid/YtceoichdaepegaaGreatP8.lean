import Derived.Test.YtceoichdaepegaaGreatP7
import Derived.Below
import Derived.ChangeOld
set_option linter.unusedSimpArgs false
set_option linter.unusedVariables false
set_option linter.unusedSectionVars false
namespace Dm
open Go Go.Proofs Go.IntWalk
theorem thr_at {α κ : Type} [Inhabited α] [DecidableEq κ] {key : α → κ} {lt : κ → κ → Prop} [DecidableRel lt] {l : List α} {k : κ} (h : Srt.thr key lt l k = true) : Srt.pos key lt l k < l.length ∧ key (l.getD (Srt.pos key lt l k) default) = k := by
  unfold Srt.thr at h; exact of_decide_eq_true h
theorem hm_in : ∀ {l : List Ch} {s : Int} {k : Nat} {a : Int}, (k, a) ∈ hm s l → ∃ i : Nat, i < l.length ∧ a = s + i ∧ ∃ x ∈ (l.getD i default).holds, x.id = k
  | [], _, _, _, h => absurd h (by simp [hm])
  | c :: l, s, k, a, h => by
    rw [hm, List.mem_append] at h
    rcases h with h | h
    · obtain ⟨x, hx, he⟩ := List.mem_map.1 h
      rw [Prod.mk.injEq] at he
      exact ⟨0, by simp, by rw [← he.2]; simp, x, by simpa using hx, he.1⟩
    · obtain ⟨i, hi, ha, x, hx, hk⟩ := hm_in h
      exact ⟨i + 1, by simpa using hi, by omega, x, by simpa using hx, hk⟩
theorem where_at {l : List Ch} {h : Nat} (h0 : (whereI l h).2 = 0) : okLd l ∧ ∃ c ∈ l, (whereI l h).1 = c.id ∧ ∃ x ∈ c.holds, x.id = h := by
  unfold whereI at h0 ⊢
  split at h0
  · rename_i hok
    rw [if_pos hok]
    refine ⟨hok, ?_⟩
    split at h0
    · rename_i a ha
      have hnd : ((hm 0 l).map (·.1)).Nodup := by rw [hm_keys]; exact hok.2.2.2.1
      obtain ⟨i, hi, rfl, x, hx, hk⟩ := hm_in ((nlk_some hnd).1 ha)
      refine ⟨l.getD i default, mem_getD.2 ⟨i, hi, rfl⟩, ?_, x, hx, hk⟩
      simp only [ha]
      rw [show ((0 : Int) + (i : Int)).toNat = i by omega]
    · cases h0
  · cases h0
theorem cen_at {c : Ch} {h : Nat} {paid : Bool} {x : Hd} (hok : okCh c) (hx : x ∈ c.holds) (hk : x.id = h) : ∃ q, q = Srt.pos Hd.key ltN c.holds h ∧ q < c.holds.length ∧ c.holds.getD q default = x ∧
    cenC c h paid = (⟨c.id, if paid = true then c.loc else c.loc + x.n, if paid = true then c.rem + x.n else c.rem, c.res, c.most, c.holds.eraseIdx q, c.op⟩, x.n, 0) := by
  have hu : Srt.Up Hd.key ltN c.holds := (Srt.chn_up (lt := ltN) Srt.totNat).1 hok.2.2.2.2.2.1
  have ht : Srt.thr Hd.key ltN c.holds h = true := (Srt.thr_iff Srt.totNat hu).2 ⟨x, hx, hk⟩
  obtain ⟨h1, h2⟩ := thr_at ht
  have h3 := Srt.up_inj (key := Hd.key) (lt := ltN) Srt.totNat hu (mem_getD.2 ⟨_, h1, rfl⟩) hx (h2.trans hk.symm)
  refine ⟨_, rfl, h1, h3, ?_⟩
  rw [cenC, if_pos hok, if_pos ht, h3]
theorem place_at {l : List Ch} {c : Ch} (hok : okLd l) (hc : c ∈ l) : ∃ p : Nat, p = Srt.pos Ch.id ltN l c.id ∧ p < l.length ∧ l.getD p default = c ∧ placeL l c.id = ((p : Int), 0) := by
  have hu : Srt.Up Ch.id ltN l := (Srt.chn_up (lt := ltN) Srt.totNat).1 hok.2.2.1
  have ht : Srt.thr Ch.id ltN l c.id = true := (Srt.thr_iff Srt.totNat hu).2 ⟨c, hc, rfl⟩
  obtain ⟨h1, h2⟩ := thr_at ht
  have h3 := Srt.up_inj (key := Ch.id) (lt := ltN) Srt.totNat hu (mem_getD.2 ⟨_, h1, rfl⟩) hc h2
  exact ⟨_, rfl, h1, h3, by rw [placeL, if_pos hok, if_pos ht]⟩
def lendL (l : List Ch) (h : Nat) (paid : Bool) : List Ch × Nat × Int :=
  if (whereI l h).2 = 0 then (if (placeL l (whereI l h).1).2 = 0 then (if (cenC (l.getD (placeL l (whereI l h).1).1.toNat default) h paid).2.2 = 0 then (l.set (placeL l (whereI l h).1).1.toNat (cenC (l.getD (placeL l (whereI l h).1).1.toNat default) h paid).1, (cenC (l.getD (placeL l (whereI l h).1).1.toNat default) h paid).2.1, 0) else ([], 0, (cenC (l.getD (placeL l (whereI l h).1).1.toNat default) h paid).2.2)) else ([], 0, (placeL l (whereI l h).1).2)) else ([], 0, (whereI l h).2)
@[go_sem] def lendc_r (l : List Ch) (h : Nat) (paid : Bool) : D := .tup [.sl (chs (lendL l h paid).1), .int .u64 ((lendL l h paid).2.1 : Int), .int .i64 (lendL l h paid).2.2]
@[go_sem] abbrev n_lendc : FuncId := 61
@[go_sem] def lendc_T : Tab := [(14, sp_lwhere), (63, sp_place), (147, sp_cfail), (148, sp_csettle), (185, sp_owns)]
theorem lendc_T_ok : TabOk Tryz.prog lendc_T := (TabOk.cons sp_lwhere_ok (TabOk.cons sp_place_ok (TabOk.cons sp_cfail_ok (TabOk.cons sp_csettle_ok (TabOk.cons sp_owns_ok TabOk.nil)))))
set_option maxRecDepth 8000 in
set_option maxHeartbeats 1000000 in
theorem lendc_ok (l : List Ch) (h : Nat) (paid : Bool)  : PureFn Tryz.prog 61 [.sl (chs l), .c (.int .u64 (h : Int)), .c (.bool paid)] (lendc_r l h paid) := by
  refine .of (ac61 lendc_T_ok (Nat.le_of_ble_eq_true rfl) ?_)
  simp -implicitDefEqProofs only [cdA, go_sem, Go.Proofs.Tryz.f61, reduceIte, reduceCtorEq, Nat.reduceEqDiff, Nat.reduceAdd, Nat.reduceLeDiff, Nat.reduceSub, Nat.reduceMul, Nat.reduceLT, Nat.reduceShiftRight, Nat.reduceMod, Int.reduceLE, Int.reduceLT, Int.reduceToNat, cdB, List.cons.injEq, true_and, and_true]
  refine ⟨fun hw => ?_, fun hw => by rw [lendL, if_neg hw]; exact ⟨rfl, rfl, rfl⟩⟩
  rw [lendL, if_pos hw]
  obtain ⟨hok, c, hc, hwc, x, hx, hk⟩ := where_at hw
  rw [hwc]
  obtain ⟨p, hpp, hp, hpc, ep⟩ := place_at hok hc
  have hcc := hok.2.1 c hc
  rw [ep]
  dsimp only
  rw [if_pos rfl, Int.toNat_natCast, hpc]
  have e2 : (cenC c h paid).2.2 = 0 := by
    obtain ⟨q, _, _, _, e⟩ := cen_at (paid := paid) hcc hx hk
    rw [e]
  rw [if_pos e2]
  refine ac137 lendc_T_ok (Nat.le_of_ble_eq_true rfl) ?_
  simp -implicitDefEqProofs only [cdA, go_sem, Go.Proofs.Tryz.f137, reduceIte, reduceCtorEq, Nat.reduceEqDiff, Nat.reduceAdd, Nat.reduceLeDiff, Nat.reduceSub, Nat.reduceMul, Nat.reduceLT, Nat.reduceShiftRight, Nat.reduceMod, Int.reduceLE, Int.reduceLT, Int.reduceToNat, cdB, List.cons.injEq, true_and, and_true]
  rw [ep]
  refine ⟨fun _ => ⟨⟨by omega, by omega⟩, ?_⟩, fun h => absurd rfl h⟩
  refine ac146 lendc_T_ok (Nat.le_of_ble_eq_true rfl) ?_
  simp -implicitDefEqProofs only [cdA, go_sem, Go.Proofs.Tryz.f146, reduceIte, reduceCtorEq, Nat.reduceEqDiff, Nat.reduceAdd, Nat.reduceLeDiff, Nat.reduceSub, Nat.reduceMul, Nat.reduceLT, Nat.reduceShiftRight, Nat.reduceMod, Int.reduceLE, Int.reduceLT, Int.reduceToNat, cdB, List.cons.injEq, true_and, and_true]
  rw [hpc]
  have h32 : l.length ≤ 1000000 ∧ ∀ c ∈ l, c.holds.length ≤ 1000000 := ⟨by have := hok.1; omega, fun c hc => by have := (hok.2.1 c hc).2.2.1; omega⟩
  refine ⟨fun hpd => ?_, fun hpd => ?_⟩
  · subst hpd
    refine ⟨fun _ => ⟨h32, by omega, hp, ?_⟩, fun h => absurd e2 h⟩
    refine ADraw.run us61_5 lendc_T_ok follows_mixed (by kernel_rfl) (by kernel_rfl) ?_
    simp -implicitDefEqProofs only [cdA, go_sem, reduceIte, reduceCtorEq, Nat.reduceEqDiff, Nat.reduceAdd, Nat.reduceLeDiff, Nat.reduceSub, Nat.reduceMul, Nat.reduceLT, Nat.reduceShiftRight, Nat.reduceMod, Int.reduceLE, Int.reduceLT, Int.reduceToNat, cdB, List.cons.injEq, true_and, and_true]
    exact ⟨_, _, _, rfl⟩
  · subst hpd
    refine ⟨fun _ => ⟨h32, by omega, hp, ?_⟩, fun h => absurd e2 h⟩
    refine ADraw.run us61_5 lendc_T_ok follows_mixed (by kernel_rfl) (by kernel_rfl) ?_
    simp -implicitDefEqProofs only [cdA, go_sem, reduceIte, reduceCtorEq, Nat.reduceEqDiff, Nat.reduceAdd, Nat.reduceLeDiff, Nat.reduceSub, Nat.reduceMul, Nat.reduceLT, Nat.reduceShiftRight, Nat.reduceMod, Int.reduceLE, Int.reduceLT, Int.reduceToNat, cdB, List.cons.injEq, true_and, and_true]
    exact ⟨_, _, _, rfl⟩
def sp_lendc : List D → Option (Prop × D × Fr)
  | [.c (.sl z1), .c (.int .u64 z2), .c (.bool z3)] => some (z1 = chs (dchs z1) ∧ z2 = (z2.toNat : Int), lendc_r (dchs z1) z2.toNat z3, [])
  | _ => none
attribute [go_sem] sp_lendc
theorem sp_lendc_ok : ∀ rs p r fr, sp_lendc rs = some (p, r, fr) → p → FnOk Tryz.prog 61 rs r fr := by
  intro rs p r fr h hp
  unfold sp_lendc at h
  split at h <;> cases h
  obtain ⟨hc0, hc1⟩ := hp
  rename_i z1 z2 z3
  obtain ⟨z1, rfl⟩ : ∃ m, z1 = chs m := ⟨_, hc0⟩
  obtain ⟨z2, rfl⟩ : ∃ m : Nat, z2 = m := ⟨_, hc1⟩
  simp only [Int.toNat_natCast, dchs_chs]
  exact lendc_ok z1 z2 z3
end Dm
namespace Dm
open Go Go.Proofs Go.IntWalk
theorem pend_len {l : List Py} {id : Nat} {paid : Bool} (h : (pendL l id paid).2 = 0) : (pendL l id paid).1.length ≤ 256 := by
  unfold pendL at h ⊢
  split at h
  · rename_i h1
    split at h
    · rename_i h2
      split at h
      · rename_i h3
        rw [if_pos h1, if_pos h2, if_pos h3, List.length_set]; exact h1.1
      · cases h
    · cases h
  · cases h
theorem cen_ok {c : Ch} {h : Nat} {paid : Bool} {x : Hd} (hok : okCh c) (hx : x ∈ c.holds) (hk : x.id = h) : okCh (cenC c h paid).1 ∧ allC (cenC c h paid).1 = allC c ∧ (cenC c h paid).1.id = c.id ∧ c.holds.Perm (x :: (cenC c h paid).1.holds) := by
  obtain ⟨q, hq, hl, hg, e⟩ := cen_at (paid := paid) hok hx hk
  have hpm := erase_perm hl hg
  obtain ⟨o1, o2, o3, o4, o5, o6, o7, o8, o9, o10⟩ := hok
  have hok : okCh c := ⟨o1, o2, o3, o4, o5, o6, o7, o8, o9, o10⟩
  have hh : held c.holds = x.n + held (c.holds.eraseIdx q) := by
    unfold held
    rw [(hpm.map Hd.n).sum_nat, List.map_cons, List.sum_cons]
  have hop : ¬ c.op = false := fun h => by rw [o4 h] at hx; cases hx
  rw [e]
  dsimp only
  have hok2 : okCh (⟨c.id, if paid = true then c.loc else c.loc + x.n, if paid = true then c.rem + x.n else c.rem, c.res, c.most, c.holds.eraseIdx q, c.op⟩ : Ch) := by
    refine ⟨o1, o2, ?_, fun h => absurd h hop, fun y hy => o5 y (List.mem_of_mem_eraseIdx hy), (Srt.chn_up (lt := ltN) Srt.totNat).2 ?_, ?_, ?_, ?_, ?_⟩
    · show (c.holds.eraseIdx q).length ≤ 64
      rw [List.length_eraseIdx_of_lt hl]; omega
    · exact List.Pairwise.sublist (List.eraseIdx_sublist _ _) ((Srt.chn_up (lt := ltN) Srt.totNat).1 o6)
    · show held (c.holds.eraseIdx q) ≤ c.most; omega
    · show (if paid = true then c.loc else c.loc + x.n) ≤ MM
      unfold MM at *; split <;> omega
    · show (if paid = true then c.rem + x.n else c.rem) ≤ MM
      unfold MM at *; split <;> omega
    · show held (c.holds.eraseIdx q) + (if paid = true then c.loc else c.loc + x.n) + (if paid = true then c.rem + x.n else c.rem) ≤ MM
      unfold MM at *; split <;> omega
  refine ⟨hok2, ?_, rfl, hpm⟩
  unfold allC sumsC
  rw [if_pos hok2, if_pos hok]
  show held (c.holds.eraseIdx q) + (if paid = true then c.loc else c.loc + x.n) + (if paid = true then c.rem + x.n else c.rem) = held c.holds + c.loc + c.rem
  split <;> omega
theorem lend_at {l : List Ch} {h : Nat} (paid : Bool) (h0 : (whereI l h).2 = 0) : okLd l ∧ ∃ c ∈ l, ∃ x ∈ c.holds, x.id = h ∧ ∃ p, p < l.length ∧ p = Srt.pos Ch.id ltN l c.id ∧ l.getD p default = c ∧ okCh c ∧ lendL l h paid = (l.set p (cenC c h paid).1, x.n, 0) := by
  obtain ⟨hok, c, hc, hw, x, hx, hk⟩ := where_at h0
  obtain ⟨p, hp, hpl, hpc, e⟩ := place_at hok hc
  have hcc := hok.2.1 c hc
  obtain ⟨q, _, _, _, e2⟩ := cen_at (paid := paid) hcc hx hk
  refine ⟨hok, c, hc, x, hx, hk, p, hpl, hp, hpc, hcc, ?_⟩
  have e3 : (placeL l c.id).1.toNat = p := by rw [e]; rfl
  rw [lendL, if_pos h0, hw, if_pos (by rw [e]), e3, hpc, if_pos (by rw [e2])]
  rw [e2]
theorem lend_0 {l : List Ch} {h : Nat} {paid : Bool} : (lendL l h paid).2.2 = 0 ↔ (whereI l h).2 = 0 := by
  refine ⟨fun h0 => Decidable.byContradiction fun hn => ?_, fun h0 => ?_⟩
  · rw [lendL, if_neg hn] at h0; exact hn h0
  · obtain ⟨_, c, _, x, _, _, p, _, _, _, _, e⟩ := lend_at paid h0
    rw [e]
theorem set_set_self {l : List Ch} {p : Nat} {d : Ch} (hp : p < l.length) : (l.set p d).set p (l.getD p default) = l := by
  rw [List.set_set, getD_lt hp]; exact List.set_getElem_self hp
theorem lend_all {l : List Ch} {h : Nat} {paid : Bool} (h0 : (lendL l h paid).2.2 = 0) : okLd l ∧ okLd (lendL l h paid).1 ∧ totL (lendL l h paid).1 = totL l ∧ ∃ c ∈ l, ∃ x ∈ c.holds, x.id = h ∧ (lendL l h paid).2.1 = x.n ∧ (hlL l).Perm ((c.id, h, x.n) :: hlL (lendL l h paid).1) ∧ (hidL l).Perm (h :: hidL (lendL l h paid).1) := by
  obtain ⟨hok, c, hc, x, hx, hk, p, hp, hpp, hpc, hcc, e⟩ := lend_at paid (lend_0.1 h0)
  obtain ⟨c1, c2, c3, c4⟩ := cen_ok (paid := paid) hcc hx hk
  have hu : Srt.Up Ch.id ltN l := (Srt.chn_up (lt := ltN) Srt.totNat).1 hok.2.2.1
  rw [e]
  dsimp only
  generalize (cenC c h paid).1 = d at *
  have hpl : p < (l.set p d).length := by rw [List.length_set]; exact hp
  have hgd : (l.set p d).getD p default = d := by rw [Srt.set_getD hp, if_pos rfl]
  have hss := set_set_self (d := d) hp
  rw [hpc] at hss
  have hh := hlL_set (l := l.set p d) (p := p) (d := c) (x := x) hpl (by rw [hgd]; exact c3.symm) (by rw [hgd]; exact c4)
  have hi := hidL_set (l := l.set p d) (p := p) (d := c) (x := x) hpl (by rw [hgd]; exact c4)
  rw [hss] at hh hi
  rw [hk] at hh hi
  have ht := totL_set (l := l) (p := p) (d := d) hp (by rw [hpc]; exact c2)
  refine ⟨hok, ⟨by rw [List.length_set]; exact hok.1, fun y hy => ?_, ?_, ?_, by rw [ht]; exact hok.2.2.2.2⟩, ht, c, hc, x, hx, hk, rfl, hh, hi⟩
  · rcases List.mem_or_eq_of_mem_set hy with h | rfl
    · exact hok.2.1 y h
    · exact c1
  · exact (Srt.chn_up (lt := ltN) Srt.totNat).2 (Srt.set_up hu hp (by rw [hpc]; exact c3))
  · have := hok.2.2.2.1
    rw [hi.nodup_iff, List.nodup_cons] at this
    exact this.2
theorem lend_fine {l : List Ch} {h : Nat} {paid : Bool} (h0 : ((lendL l h paid).1, (lendL l h paid).2.2).2 = 0) : okLd (lendL l h paid).1 := (lend_all h0).2.1
end Dm
namespace Dm
open Go Go.Proofs Go.IntWalk
end Dm
namespace Dm
open Go Go.Proofs Go.IntWalk
def wopC (v : Wl) (c : Ch) : List Ch × Int := openL v.c c
def wopF (v : Wl) (c : Ch) : Fd × Nat × Int := addF v.f 6 c.id c.loc
def wopE (v : Wl) (c : Ch) : Int := if ¬ okW v then 1 else if (wopC v c).2 ≠ 0 then (wopC v c).2 else (wopF v c).2.2
def wopW (v : Wl) (c : Ch) : Wl × Int := if wopE v c = 0 then (⟨(wopC v c).1, v.w, v.i, v.p, (wopF v c).1, v.next, v.tick⟩, 0) else (zeroW, wopE v c)
theorem open_fine {l : List Ch} {c : Ch} (h : (openL l c).2 = 0) : okLd (openL l c).1 := by
  unfold openL at h ⊢
  split at h
  · cases h
  split at h
  · cases h
  split at h
  · cases h
  split at h
  · rename_i h1 h2 h3 h4
    rw [if_neg h1, if_neg h2, if_neg h3, if_pos h4]; exact h4
  · cases h
@[go_sem] def wopen_r (v : Wl) (c : Ch) : D := .tup [.agg [.sl (chs (wopW v c).1.c), .sl (wts (wopW v c).1.w), .sl (ivs (wopW v c).1.i), .sl (pys (wopW v c).1.p), .int .u64 (wopW v c).1.f.next, .sl (evs (wopW v c).1.f.l), .int .u64 (wopW v c).1.next, .int .u64 (wopW v c).1.tick], .int .i64 (wopW v c).2]
@[go_sem] abbrev n_wopen : FuncId := 30
@[go_sem] def wopen_T : Tab := [(37, sp_wcheck), (94, sp_lopen), (142, sp_fadd), (119, sp_wown)]
theorem wopen_T_ok : TabOk Tryz.prog wopen_T := (TabOk.cons sp_wcheck_ok (TabOk.cons sp_lopen_ok (TabOk.cons sp_fadd_ok (TabOk.cons sp_wown_ok TabOk.nil))))
set_option maxRecDepth 8000 in
set_option maxHeartbeats 1000000 in
theorem wopen_ok (v : Wl) (c : Ch) (h : v.f.next ≤ 18446744073709551615) : PureFn Tryz.prog 30 [.agg [.sl (chs v.c), .sl (wts v.w), .sl (ivs v.i), .sl (pys v.p), .c (.int .u64 (v.f.next : Int)), .sl (evs v.f.l), .c (.int .u64 (v.next : Int)), .c (.int .u64 (v.tick : Int))], .agg [.c (.int .u64 (c.id : Int)), .c (.int .u64 (c.loc : Int)), .c (.int .u64 (c.rem : Int)), .c (.int .u64 (c.res : Int)), .c (.int .u64 (c.most : Int)), .sl (hds c.holds), .c (.bool c.op)]] (wopen_r v c) := by
  refine .of (ac30 wopen_T_ok (Nat.le_of_ble_eq_true rfl) ?_)
  simp -implicitDefEqProofs only [cdA, go_sem, Go.Proofs.Tryz.f30, reduceIte, reduceCtorEq, Nat.reduceEqDiff, Nat.reduceAdd, Nat.reduceLeDiff, Nat.reduceSub, Nat.reduceMul, Nat.reduceLT, Nat.reduceShiftRight, Nat.reduceMod, Int.reduceLE, Int.reduceLT, Int.reduceToNat, cdB, List.cons.injEq, true_and, and_true]
  refine ac45 wopen_T_ok (Nat.le_of_ble_eq_true rfl) ?_
  simp -implicitDefEqProofs only [cdA, go_sem, Go.Proofs.Tryz.f45, reduceIte, reduceCtorEq, Nat.reduceEqDiff, Nat.reduceAdd, Nat.reduceLeDiff, Nat.reduceSub, Nat.reduceMul, Nat.reduceLT, Nat.reduceShiftRight, Nat.reduceMod, Int.reduceLE, Int.reduceLT, Int.reduceToNat, cdB, List.cons.injEq, true_and, and_true]
  refine ADraw.run us45_1 wopen_T_ok follows_mixed (by kernel_rfl) (by kernel_rfl) ?_
  simp -implicitDefEqProofs only [cdA, go_sem, reduceIte, reduceCtorEq, Nat.reduceEqDiff, Nat.reduceAdd, Nat.reduceLeDiff, Nat.reduceSub, Nat.reduceMul, Nat.reduceLT, Nat.reduceShiftRight, Nat.reduceMod, Int.reduceLE, Int.reduceLT, Int.reduceToNat, cdB, List.cons.injEq, true_and, and_true]
  refine ⟨h, ?_⟩
  have hbad : ∀ e : Int, wopE v c = e → ¬ e = 0 → (chs (wopW v c).1.c = [] ∧ wts (wopW v c).1.w = [] ∧ ivs (wopW v c).1.i = [] ∧ pys (wopW v c).1.p = [] ∧ 0 = ((wopW v c).1.f.next : Int) ∧ evs (wopW v c).1.f.l = [] ∧ 0 = ((wopW v c).1.next : Int) ∧ 0 = ((wopW v c).1.tick : Int)) ∧ e = (wopW v c).2 := fun e h1 h2 => by
    have : wopW v c = (zeroW, e) := by rw [wopW, if_neg (by rw [h1]; exact h2), h1]
    rw [this]; exact ⟨⟨rfl, rfl, rfl, rfl, rfl, rfl, rfl, rfl⟩, rfl⟩
  by_cases hok : okW v
  rotate_left 1
  · have hck : (chkW v = 0) = False := eq_false fun h => hok (chkW_0.1 h)
    have he : wopE v c = 1 := by rw [wopE, if_pos hok]
    have hc1 : chkW v = 1 := by rw [chkW, if_neg hok]
    skip
    refine ac53 wopen_T_ok (Nat.le_of_ble_eq_true rfl) ?_
    simp -implicitDefEqProofs only [cdA, go_sem, Go.Proofs.Tryz.f53, hck, false_implies, true_implies, not_false_eq_true, not_true_eq_false, reduceIte, reduceCtorEq, Nat.reduceEqDiff, Nat.reduceAdd, Nat.reduceLeDiff, Nat.reduceSub, Nat.reduceMul, Nat.reduceLT, Nat.reduceShiftRight, Nat.reduceMod, Int.reduceLE, Int.reduceLT, Int.reduceToNat, cdB, List.cons.injEq, true_and, and_true]
    refine ac56 wopen_T_ok (Nat.le_of_ble_eq_true rfl) ?_
    simp -implicitDefEqProofs only [cdA, go_sem, Go.Proofs.Tryz.f56, reduceIte, reduceCtorEq, Nat.reduceEqDiff, Nat.reduceAdd, Nat.reduceLeDiff, Nat.reduceSub, Nat.reduceMul, Nat.reduceLT, Nat.reduceShiftRight, Nat.reduceMod, Int.reduceLE, Int.reduceLT, Int.reduceToNat, cdB, List.cons.injEq, true_and, and_true]
    refine ac140 wopen_T_ok (Nat.le_of_ble_eq_true rfl) ?_
    simp -implicitDefEqProofs only [cdA, go_sem, Go.Proofs.Tryz.f140, hck, false_implies, true_implies, not_false_eq_true, not_true_eq_false, reduceIte, reduceCtorEq, Nat.reduceEqDiff, Nat.reduceAdd, Nat.reduceLeDiff, Nat.reduceSub, Nat.reduceMul, Nat.reduceLT, Nat.reduceShiftRight, Nat.reduceMod, Int.reduceLE, Int.reduceLT, Int.reduceToNat, cdB, List.cons.injEq, true_and, and_true]
    refine ac47 wopen_T_ok (Nat.le_of_ble_eq_true rfl) ?_
    simp -implicitDefEqProofs only [cdA, go_sem, Go.Proofs.Tryz.f47, hck, false_implies, true_implies, not_false_eq_true, not_true_eq_false, reduceIte, reduceCtorEq, Nat.reduceEqDiff, Nat.reduceAdd, Nat.reduceLeDiff, Nat.reduceSub, Nat.reduceMul, Nat.reduceLT, Nat.reduceShiftRight, Nat.reduceMod, Int.reduceLE, Int.reduceLT, Int.reduceToNat, cdB, List.cons.injEq, true_and, and_true]
    refine ADraw.run us47_2 wopen_T_ok follows_mixed (by kernel_rfl) (by kernel_rfl) ?_
    simp -implicitDefEqProofs only [cdA, go_sem, hck, false_implies, true_implies, not_false_eq_true, not_true_eq_false, reduceIte, reduceCtorEq, Nat.reduceEqDiff, Nat.reduceAdd, Nat.reduceLeDiff, Nat.reduceSub, Nat.reduceMul, Nat.reduceLT, Nat.reduceShiftRight, Nat.reduceMod, Int.reduceLE, Int.reduceLT, Int.reduceToNat, cdB, List.cons.injEq, true_and, and_true]
    exact hbad _ (he.trans hc1.symm) (by rw [hc1]; decide)
  have hck : (chkW v = 0) = True := eq_true (chkW_0.2 hok)
  refine ac53 wopen_T_ok (Nat.le_of_ble_eq_true rfl) ?_
  simp -implicitDefEqProofs only [cdA, go_sem, Go.Proofs.Tryz.f53, hck, false_implies, true_implies, not_false_eq_true, not_true_eq_false, reduceIte, reduceCtorEq, Nat.reduceEqDiff, Nat.reduceAdd, Nat.reduceLeDiff, Nat.reduceSub, Nat.reduceMul, Nat.reduceLT, Nat.reduceShiftRight, Nat.reduceMod, Int.reduceLE, Int.reduceLT, Int.reduceToNat, cdB, List.cons.injEq, true_and, and_true]
  refine ac93 wopen_T_ok (Nat.le_of_ble_eq_true rfl) ?_
  simp -implicitDefEqProofs only [cdA, go_sem, Go.Proofs.Tryz.f93, reduceIte, reduceCtorEq, Nat.reduceEqDiff, Nat.reduceAdd, Nat.reduceLeDiff, Nat.reduceSub, Nat.reduceMul, Nat.reduceLT, Nat.reduceShiftRight, Nat.reduceMod, Int.reduceLE, Int.reduceLT, Int.reduceToNat, cdB, List.cons.injEq, true_and, and_true]
  have eC : openL v.c c = wopC v c := rfl
  rw [eC]
  refine ⟨fun hst => ?_, fun hst => ?_⟩
  rotate_left 1
  · skip
    refine ac56 wopen_T_ok (Nat.le_of_ble_eq_true rfl) ?_
    simp -implicitDefEqProofs only [cdA, go_sem, Go.Proofs.Tryz.f56, reduceIte, reduceCtorEq, Nat.reduceEqDiff, Nat.reduceAdd, Nat.reduceLeDiff, Nat.reduceSub, Nat.reduceMul, Nat.reduceLT, Nat.reduceShiftRight, Nat.reduceMod, Int.reduceLE, Int.reduceLT, Int.reduceToNat, cdB, List.cons.injEq, true_and, and_true]
    refine ac140 wopen_T_ok (Nat.le_of_ble_eq_true rfl) ?_
    simp -implicitDefEqProofs only [cdA, go_sem, Go.Proofs.Tryz.f140, hst, false_implies, true_implies, not_false_eq_true, not_true_eq_false, reduceIte, reduceCtorEq, Nat.reduceEqDiff, Nat.reduceAdd, Nat.reduceLeDiff, Nat.reduceSub, Nat.reduceMul, Nat.reduceLT, Nat.reduceShiftRight, Nat.reduceMod, Int.reduceLE, Int.reduceLT, Int.reduceToNat, cdB, List.cons.injEq, true_and, and_true]
    refine ac47 wopen_T_ok (Nat.le_of_ble_eq_true rfl) ?_
    simp -implicitDefEqProofs only [cdA, go_sem, Go.Proofs.Tryz.f47, hst, false_implies, true_implies, not_false_eq_true, not_true_eq_false, reduceIte, reduceCtorEq, Nat.reduceEqDiff, Nat.reduceAdd, Nat.reduceLeDiff, Nat.reduceSub, Nat.reduceMul, Nat.reduceLT, Nat.reduceShiftRight, Nat.reduceMod, Int.reduceLE, Int.reduceLT, Int.reduceToNat, cdB, List.cons.injEq, true_and, and_true]
    refine ADraw.run us47_2 wopen_T_ok follows_mixed (by kernel_rfl) (by kernel_rfl) ?_
    simp -implicitDefEqProofs only [cdA, go_sem, hst, false_implies, true_implies, not_false_eq_true, not_true_eq_false, reduceIte, reduceCtorEq, Nat.reduceEqDiff, Nat.reduceAdd, Nat.reduceLeDiff, Nat.reduceSub, Nat.reduceMul, Nat.reduceLT, Nat.reduceShiftRight, Nat.reduceMod, Int.reduceLE, Int.reduceLT, Int.reduceToNat, cdB, List.cons.injEq, true_and, and_true]
    exact hbad _ (by rw [wopE, if_neg (fun h => h hok), if_pos hst]) hst
  refine ac56 wopen_T_ok (Nat.le_of_ble_eq_true rfl) ?_
  simp -implicitDefEqProofs only [cdA, go_sem, Go.Proofs.Tryz.f56, reduceIte, reduceCtorEq, Nat.reduceEqDiff, Nat.reduceAdd, Nat.reduceLeDiff, Nat.reduceSub, Nat.reduceMul, Nat.reduceLT, Nat.reduceShiftRight, Nat.reduceMod, Int.reduceLE, Int.reduceLT, Int.reduceToNat, cdB, List.cons.injEq, true_and, and_true]
  refine ac140 wopen_T_ok (Nat.le_of_ble_eq_true rfl) ?_
  simp -implicitDefEqProofs only [cdA, go_sem, Go.Proofs.Tryz.f140, hck, false_implies, true_implies, not_false_eq_true, not_true_eq_false, reduceIte, reduceCtorEq, Nat.reduceEqDiff, Nat.reduceAdd, Nat.reduceLeDiff, Nat.reduceSub, Nat.reduceMul, Nat.reduceLT, Nat.reduceShiftRight, Nat.reduceMod, Int.reduceLE, Int.reduceLT, Int.reduceToNat, cdB, List.cons.injEq, true_and, and_true]
  refine ac141 wopen_T_ok (Nat.le_of_ble_eq_true rfl) ?_
  simp -implicitDefEqProofs only [cdA, go_sem, Go.Proofs.Tryz.f141, reduceIte, reduceCtorEq, Nat.reduceEqDiff, Nat.reduceAdd, Nat.reduceLeDiff, Nat.reduceSub, Nat.reduceMul, Nat.reduceLT, Nat.reduceShiftRight, Nat.reduceMod, Int.reduceLE, Int.reduceLT, Int.reduceToNat, cdB, List.cons.injEq, true_and, and_true]
  have eF : addF v.f 6 c.id c.loc = wopF v c := rfl
  rw [eF]
  refine ⟨h, fun hfd => ?_, fun hfd => ?_⟩
  rotate_left 1
  · skip
    refine ac47 wopen_T_ok (Nat.le_of_ble_eq_true rfl) ?_
    simp -implicitDefEqProofs only [cdA, go_sem, Go.Proofs.Tryz.f47, hfd, false_implies, true_implies, not_false_eq_true, not_true_eq_false, reduceIte, reduceCtorEq, Nat.reduceEqDiff, Nat.reduceAdd, Nat.reduceLeDiff, Nat.reduceSub, Nat.reduceMul, Nat.reduceLT, Nat.reduceShiftRight, Nat.reduceMod, Int.reduceLE, Int.reduceLT, Int.reduceToNat, cdB, List.cons.injEq, true_and, and_true]
    refine ADraw.run us47_2 wopen_T_ok follows_mixed (by kernel_rfl) (by kernel_rfl) ?_
    simp -implicitDefEqProofs only [cdA, go_sem, hfd, false_implies, true_implies, not_false_eq_true, not_true_eq_false, reduceIte, reduceCtorEq, Nat.reduceEqDiff, Nat.reduceAdd, Nat.reduceLeDiff, Nat.reduceSub, Nat.reduceMul, Nat.reduceLT, Nat.reduceShiftRight, Nat.reduceMod, Int.reduceLE, Int.reduceLT, Int.reduceToNat, cdB, List.cons.injEq, true_and, and_true]
    exact hbad _ (by rw [wopE, if_neg (fun h => h hok), if_neg (fun h => h hst)]) hfd
  have hsm : smallW ⟨(wopC v c).1, v.w, v.i, v.p, (wopF v c).1, v.next, v.tick⟩ := by
    have h1 := open_fine hst
    have h2 := small_ok hok
    have h4 := add_len (f := v.f) (k := 6) (a := c.id) (n := c.loc)
    refine ⟨by have := h1.1; show (wopC v c).1.length ≤ _; unfold wopC; omega, fun d hd => by have := (h1.2.1 d hd).2.2.1; omega, h2.2.2.1, h2.2.2.2.1, h2.2.2.2.2.1, by show (wopF v c).1.l.length ≤ _; unfold wopF; omega⟩
  have hfin : wopW v c = (⟨(wopC v c).1, v.w, v.i, v.p, (wopF v c).1, v.next, v.tick⟩, 0) := by
    have : wopE v c = 0 := by rw [wopE, if_neg (fun h => h hok), if_neg (fun h => h hst)]; exact hfd
    rw [wopW, if_pos this]
  refine ac47 wopen_T_ok (Nat.le_of_ble_eq_true rfl) ?_
  simp -implicitDefEqProofs only [cdA, go_sem, Go.Proofs.Tryz.f47, hck, eq_true hsm, false_implies, true_implies, not_false_eq_true, not_true_eq_false, reduceIte, reduceCtorEq, Nat.reduceEqDiff, Nat.reduceAdd, Nat.reduceLeDiff, Nat.reduceSub, Nat.reduceMul, Nat.reduceLT, Nat.reduceShiftRight, Nat.reduceMod, Int.reduceLE, Int.reduceLT, Int.reduceToNat, cdB, List.cons.injEq, true_and, and_true]
  rw [hfin]
  exact ⟨⟨rfl, rfl, rfl, rfl, rfl, rfl, rfl, rfl⟩, rfl⟩
@[go_sem] def wopen_p (v : Wl) (c : Ch) : Prop := (v.f.next ≤ 18446744073709551615)
def sp_wopen : List D → Option (Prop × D × Fr)
  | [.agg [.c (.sl z353), .c (.sl z354), .c (.sl z355), .c (.sl z356), .c (.int .u64 z358), .c (.sl z359), .c (.int .u64 z360), .c (.int .u64 z361)], .agg [.c (.int .u64 z363), .c (.int .u64 z364), .c (.int .u64 z365), .c (.int .u64 z366), .c (.int .u64 z367), .c (.sl z368), .c (.bool z369)]] => some (z353 = chs (dchs z353) ∧ z354 = wts (dwts z354) ∧ z355 = ivs (divs z355) ∧ z356 = pys (dpys z356) ∧ z358 = (z358.toNat : Int) ∧ z359 = evs (devs z359) ∧ z360 = (z360.toNat : Int) ∧ z361 = (z361.toNat : Int) ∧ z363 = (z363.toNat : Int) ∧ z364 = (z364.toNat : Int) ∧ z365 = (z365.toNat : Int) ∧ z366 = (z366.toNat : Int) ∧ z367 = (z367.toNat : Int) ∧ z368 = hds (dhds z368) ∧ wopen_p (⟨(dchs z353), (dwts z354), (divs z355), (dpys z356), (⟨z358.toNat, (devs z359)⟩ : Fd), z360.toNat, z361.toNat⟩ : Wl) (⟨z363.toNat, z364.toNat, z365.toNat, z366.toNat, z367.toNat, (dhds z368), z369⟩ : Ch), wopen_r (⟨(dchs z353), (dwts z354), (divs z355), (dpys z356), (⟨z358.toNat, (devs z359)⟩ : Fd), z360.toNat, z361.toNat⟩ : Wl) (⟨z363.toNat, z364.toNat, z365.toNat, z366.toNat, z367.toNat, (dhds z368), z369⟩ : Ch), [])
  | _ => none
attribute [go_sem] sp_wopen
theorem sp_wopen_ok : ∀ rs p r fr, sp_wopen rs = some (p, r, fr) → p → FnOk Tryz.prog 30 rs r fr := by
  intro rs p r fr h hp
  unfold sp_wopen at h
  split at h <;> cases h
  obtain ⟨hc0, hc1, hc2, hc3, hc4, hc5, hc6, hc7, hc8, hc9, hc10, hc11, hc12, hc13, hp⟩ := hp
  rename_i z353 z354 z355 z356 z358 z359 z360 z361 z363 z364 z365 z366 z367 z368 z369
  obtain ⟨z353, rfl⟩ : ∃ m, z353 = chs m := ⟨_, hc0⟩
  obtain ⟨z354, rfl⟩ : ∃ m, z354 = wts m := ⟨_, hc1⟩
  obtain ⟨z355, rfl⟩ : ∃ m, z355 = ivs m := ⟨_, hc2⟩
  obtain ⟨z356, rfl⟩ : ∃ m, z356 = pys m := ⟨_, hc3⟩
  obtain ⟨z358, rfl⟩ : ∃ m : Nat, z358 = m := ⟨_, hc4⟩
  obtain ⟨z359, rfl⟩ : ∃ m, z359 = evs m := ⟨_, hc5⟩
  obtain ⟨z360, rfl⟩ : ∃ m : Nat, z360 = m := ⟨_, hc6⟩
  obtain ⟨z361, rfl⟩ : ∃ m : Nat, z361 = m := ⟨_, hc7⟩
  obtain ⟨z363, rfl⟩ : ∃ m : Nat, z363 = m := ⟨_, hc8⟩
  obtain ⟨z364, rfl⟩ : ∃ m : Nat, z364 = m := ⟨_, hc9⟩
  obtain ⟨z365, rfl⟩ : ∃ m : Nat, z365 = m := ⟨_, hc10⟩
  obtain ⟨z366, rfl⟩ : ∃ m : Nat, z366 = m := ⟨_, hc11⟩
  obtain ⟨z367, rfl⟩ : ∃ m : Nat, z367 = m := ⟨_, hc12⟩
  obtain ⟨z368, rfl⟩ : ∃ m, z368 = hds m := ⟨_, hc13⟩
  simp only [Int.toNat_natCast, dchs_chs, devs_evs, dhds_hds, divs_ivs, dpys_pys, dwts_wts]
  simp only [Int.toNat_natCast, dchs_chs, devs_evs, dhds_hds, divs_ivs, dpys_pys, dwts_wts, wopen_p] at hp
  exact wopen_ok ⟨z353, z354, z355, z356, ⟨z358, z359⟩, z360, z361⟩ ⟨z363, z364, z365, z366, z367, z368, z369⟩ hp
end Dm
namespace Dm
open Go Go.Proofs Go.IntWalk
def wenP (v : Wl) (id : Nat) (paid : Bool) : List Py × Int := pendL v.p id paid
def wenC (v : Wl) (id : Nat) (paid : Bool) : List Ch × Int := ((lendL v.c id paid).1, (lendL v.c id paid).2.2)
def wenF (v : Wl) (id : Nat) (paid : Bool) : Fd × Nat × Int := addF v.f (if paid = true then 1 else 2) id (lendL v.c id paid).2.1
def wenE (v : Wl) (id : Nat) (paid : Bool) : Int := if ¬ okW v then 1 else if (wenP v id paid).2 ≠ 0 then (wenP v id paid).2 else if (wenC v id paid).2 ≠ 0 then (wenC v id paid).2 else (wenF v id paid).2.2
def wenW (v : Wl) (id : Nat) (paid : Bool) : Wl × Int := if wenE v id paid = 0 then (⟨(wenC v id paid).1, v.w, v.i, (wenP v id paid).1, (wenF v id paid).1, v.next, v.tick⟩, 0) else (zeroW, wenE v id paid)
@[go_sem] def wend_r (v : Wl) (id : Nat) (paid : Bool) : D := .tup [.agg [.sl (chs (wenW v id paid).1.c), .sl (wts (wenW v id paid).1.w), .sl (ivs (wenW v id paid).1.i), .sl (pys (wenW v id paid).1.p), .int .u64 (wenW v id paid).1.f.next, .sl (evs (wenW v id paid).1.f.l), .int .u64 (wenW v id paid).1.next, .int .u64 (wenW v id paid).1.tick], .int .i64 (wenW v id paid).2]
@[go_sem] abbrev n_wend : FuncId := 15
@[go_sem] def wend_T : Tab := [(37, sp_wcheck), (59, sp_pend), (61, sp_lendc), (142, sp_fadd), (119, sp_wown)]
theorem wend_T_ok : TabOk Tryz.prog wend_T := (TabOk.cons sp_wcheck_ok (TabOk.cons sp_pend_ok (TabOk.cons sp_lendc_ok (TabOk.cons sp_fadd_ok (TabOk.cons sp_wown_ok TabOk.nil)))))
set_option maxRecDepth 8000 in
set_option maxHeartbeats 1000000 in
theorem wend_ok (v : Wl) (id : Nat) (paid : Bool) (h : v.f.next ≤ 18446744073709551615) : PureFn Tryz.prog 15 [.agg [.sl (chs v.c), .sl (wts v.w), .sl (ivs v.i), .sl (pys v.p), .c (.int .u64 (v.f.next : Int)), .sl (evs v.f.l), .c (.int .u64 (v.next : Int)), .c (.int .u64 (v.tick : Int))], .c (.int .u64 (id : Int)), .c (.bool paid)] (wend_r v id paid) := by
  refine .of (ac15 wend_T_ok (Nat.le_of_ble_eq_true rfl) ?_)
  simp -implicitDefEqProofs only [cdA, go_sem, Go.Proofs.Tryz.f15, reduceIte, reduceCtorEq, Nat.reduceEqDiff, Nat.reduceAdd, Nat.reduceLeDiff, Nat.reduceSub, Nat.reduceMul, Nat.reduceLT, Nat.reduceShiftRight, Nat.reduceMod, Int.reduceLE, Int.reduceLT, Int.reduceToNat, cdB, List.cons.injEq, true_and, and_true]
  cases paid
  · skip
    refine ac45 wend_T_ok (Nat.le_of_ble_eq_true rfl) ?_
    simp -implicitDefEqProofs only [cdA, go_sem, Go.Proofs.Tryz.f45, reduceIte, reduceCtorEq, Nat.reduceEqDiff, Nat.reduceAdd, Nat.reduceLeDiff, Nat.reduceSub, Nat.reduceMul, Nat.reduceLT, Nat.reduceShiftRight, Nat.reduceMod, Int.reduceLE, Int.reduceLT, Int.reduceToNat, cdB, List.cons.injEq, true_and, and_true]
    refine ADraw.run us45_1 wend_T_ok follows_mixed (by kernel_rfl) (by kernel_rfl) ?_
    simp -implicitDefEqProofs only [cdA, go_sem, reduceIte, reduceCtorEq, Nat.reduceEqDiff, Nat.reduceAdd, Nat.reduceLeDiff, Nat.reduceSub, Nat.reduceMul, Nat.reduceLT, Nat.reduceShiftRight, Nat.reduceMod, Int.reduceLE, Int.reduceLT, Int.reduceToNat, cdB, List.cons.injEq, true_and, and_true]
    refine ⟨h, ?_⟩
    have hbad : ∀ e : Int, wenE v id false = e → ¬ e = 0 → (chs (wenW v id false).1.c = [] ∧ wts (wenW v id false).1.w = [] ∧ ivs (wenW v id false).1.i = [] ∧ pys (wenW v id false).1.p = [] ∧ 0 = ((wenW v id false).1.f.next : Int) ∧ evs (wenW v id false).1.f.l = [] ∧ 0 = ((wenW v id false).1.next : Int) ∧ 0 = ((wenW v id false).1.tick : Int)) ∧ e = (wenW v id false).2 := fun e h1 h2 => by
      have : wenW v id false = (zeroW, e) := by rw [wenW, if_neg (by rw [h1]; exact h2), h1]
      rw [this]; exact ⟨⟨rfl, rfl, rfl, rfl, rfl, rfl, rfl, rfl⟩, rfl⟩
    by_cases hok : okW v
    rotate_left 1
    · have hck : (chkW v = 0) = False := eq_false fun h => hok (chkW_0.1 h)
      have he : wenE v id false = 1 := by rw [wenE, if_pos hok]
      have hc1 : chkW v = 1 := by rw [chkW, if_neg hok]
      skip
      refine ac50 wend_T_ok (Nat.le_of_ble_eq_true rfl) ?_
      simp -implicitDefEqProofs only [cdA, go_sem, Go.Proofs.Tryz.f50, hck, false_implies, true_implies, not_false_eq_true, not_true_eq_false, reduceIte, reduceCtorEq, Nat.reduceEqDiff, Nat.reduceAdd, Nat.reduceLeDiff, Nat.reduceSub, Nat.reduceMul, Nat.reduceLT, Nat.reduceShiftRight, Nat.reduceMod, Int.reduceLE, Int.reduceLT, Int.reduceToNat, cdB, List.cons.injEq, true_and, and_true]
      refine ac53 wend_T_ok (Nat.le_of_ble_eq_true rfl) ?_
      simp -implicitDefEqProofs only [cdA, go_sem, Go.Proofs.Tryz.f53, hck, false_implies, true_implies, not_false_eq_true, not_true_eq_false, reduceIte, reduceCtorEq, Nat.reduceEqDiff, Nat.reduceAdd, Nat.reduceLeDiff, Nat.reduceSub, Nat.reduceMul, Nat.reduceLT, Nat.reduceShiftRight, Nat.reduceMod, Int.reduceLE, Int.reduceLT, Int.reduceToNat, cdB, List.cons.injEq, true_and, and_true]
      refine ac56 wend_T_ok (Nat.le_of_ble_eq_true rfl) ?_
      simp -implicitDefEqProofs only [cdA, go_sem, Go.Proofs.Tryz.f56, reduceIte, reduceCtorEq, Nat.reduceEqDiff, Nat.reduceAdd, Nat.reduceLeDiff, Nat.reduceSub, Nat.reduceMul, Nat.reduceLT, Nat.reduceShiftRight, Nat.reduceMod, Int.reduceLE, Int.reduceLT, Int.reduceToNat, cdB, List.cons.injEq, true_and, and_true]
      refine ac140 wend_T_ok (Nat.le_of_ble_eq_true rfl) ?_
      simp -implicitDefEqProofs only [cdA, go_sem, Go.Proofs.Tryz.f140, hck, false_implies, true_implies, not_false_eq_true, not_true_eq_false, reduceIte, reduceCtorEq, Nat.reduceEqDiff, Nat.reduceAdd, Nat.reduceLeDiff, Nat.reduceSub, Nat.reduceMul, Nat.reduceLT, Nat.reduceShiftRight, Nat.reduceMod, Int.reduceLE, Int.reduceLT, Int.reduceToNat, cdB, List.cons.injEq, true_and, and_true]
      refine ac47 wend_T_ok (Nat.le_of_ble_eq_true rfl) ?_
      simp -implicitDefEqProofs only [cdA, go_sem, Go.Proofs.Tryz.f47, hck, false_implies, true_implies, not_false_eq_true, not_true_eq_false, reduceIte, reduceCtorEq, Nat.reduceEqDiff, Nat.reduceAdd, Nat.reduceLeDiff, Nat.reduceSub, Nat.reduceMul, Nat.reduceLT, Nat.reduceShiftRight, Nat.reduceMod, Int.reduceLE, Int.reduceLT, Int.reduceToNat, cdB, List.cons.injEq, true_and, and_true]
      refine ADraw.run us47_2 wend_T_ok follows_mixed (by kernel_rfl) (by kernel_rfl) ?_
      simp -implicitDefEqProofs only [cdA, go_sem, hck, false_implies, true_implies, not_false_eq_true, not_true_eq_false, reduceIte, reduceCtorEq, Nat.reduceEqDiff, Nat.reduceAdd, Nat.reduceLeDiff, Nat.reduceSub, Nat.reduceMul, Nat.reduceLT, Nat.reduceShiftRight, Nat.reduceMod, Int.reduceLE, Int.reduceLT, Int.reduceToNat, cdB, List.cons.injEq, true_and, and_true]
      exact hbad _ (he.trans hc1.symm) (by rw [hc1]; decide)
    have hck : (chkW v = 0) = True := eq_true (chkW_0.2 hok)
    refine ac50 wend_T_ok (Nat.le_of_ble_eq_true rfl) ?_
    simp -implicitDefEqProofs only [cdA, go_sem, Go.Proofs.Tryz.f50, hck, false_implies, true_implies, not_false_eq_true, not_true_eq_false, reduceIte, reduceCtorEq, Nat.reduceEqDiff, Nat.reduceAdd, Nat.reduceLeDiff, Nat.reduceSub, Nat.reduceMul, Nat.reduceLT, Nat.reduceShiftRight, Nat.reduceMod, Int.reduceLE, Int.reduceLT, Int.reduceToNat, cdB, List.cons.injEq, true_and, and_true]
    refine ac58 wend_T_ok (Nat.le_of_ble_eq_true rfl) ?_
    simp -implicitDefEqProofs only [cdA, go_sem, Go.Proofs.Tryz.f58, reduceIte, reduceCtorEq, Nat.reduceEqDiff, Nat.reduceAdd, Nat.reduceLeDiff, Nat.reduceSub, Nat.reduceMul, Nat.reduceLT, Nat.reduceShiftRight, Nat.reduceMod, Int.reduceLE, Int.reduceLT, Int.reduceToNat, cdB, List.cons.injEq, true_and, and_true]
    have eP : pendL v.p id false = wenP v id false := rfl
    rw [eP]
    refine ⟨fun hs0 => ?_, fun hs0 => ?_⟩
    rotate_left 1
    · skip
      refine ac53 wend_T_ok (Nat.le_of_ble_eq_true rfl) ?_
      simp -implicitDefEqProofs only [cdA, go_sem, Go.Proofs.Tryz.f53, hs0, false_implies, true_implies, not_false_eq_true, not_true_eq_false, reduceIte, reduceCtorEq, Nat.reduceEqDiff, Nat.reduceAdd, Nat.reduceLeDiff, Nat.reduceSub, Nat.reduceMul, Nat.reduceLT, Nat.reduceShiftRight, Nat.reduceMod, Int.reduceLE, Int.reduceLT, Int.reduceToNat, cdB, List.cons.injEq, true_and, and_true]
      refine ac56 wend_T_ok (Nat.le_of_ble_eq_true rfl) ?_
      simp -implicitDefEqProofs only [cdA, go_sem, Go.Proofs.Tryz.f56, reduceIte, reduceCtorEq, Nat.reduceEqDiff, Nat.reduceAdd, Nat.reduceLeDiff, Nat.reduceSub, Nat.reduceMul, Nat.reduceLT, Nat.reduceShiftRight, Nat.reduceMod, Int.reduceLE, Int.reduceLT, Int.reduceToNat, cdB, List.cons.injEq, true_and, and_true]
      refine ac140 wend_T_ok (Nat.le_of_ble_eq_true rfl) ?_
      simp -implicitDefEqProofs only [cdA, go_sem, Go.Proofs.Tryz.f140, hs0, false_implies, true_implies, not_false_eq_true, not_true_eq_false, reduceIte, reduceCtorEq, Nat.reduceEqDiff, Nat.reduceAdd, Nat.reduceLeDiff, Nat.reduceSub, Nat.reduceMul, Nat.reduceLT, Nat.reduceShiftRight, Nat.reduceMod, Int.reduceLE, Int.reduceLT, Int.reduceToNat, cdB, List.cons.injEq, true_and, and_true]
      refine ac47 wend_T_ok (Nat.le_of_ble_eq_true rfl) ?_
      simp -implicitDefEqProofs only [cdA, go_sem, Go.Proofs.Tryz.f47, hs0, false_implies, true_implies, not_false_eq_true, not_true_eq_false, reduceIte, reduceCtorEq, Nat.reduceEqDiff, Nat.reduceAdd, Nat.reduceLeDiff, Nat.reduceSub, Nat.reduceMul, Nat.reduceLT, Nat.reduceShiftRight, Nat.reduceMod, Int.reduceLE, Int.reduceLT, Int.reduceToNat, cdB, List.cons.injEq, true_and, and_true]
      refine ADraw.run us47_2 wend_T_ok follows_mixed (by kernel_rfl) (by kernel_rfl) ?_
      simp -implicitDefEqProofs only [cdA, go_sem, hs0, false_implies, true_implies, not_false_eq_true, not_true_eq_false, reduceIte, reduceCtorEq, Nat.reduceEqDiff, Nat.reduceAdd, Nat.reduceLeDiff, Nat.reduceSub, Nat.reduceMul, Nat.reduceLT, Nat.reduceShiftRight, Nat.reduceMod, Int.reduceLE, Int.reduceLT, Int.reduceToNat, cdB, List.cons.injEq, true_and, and_true]
      exact hbad _ (by rw [wenE, if_neg (fun h => h hok), if_pos hs0]) hs0
    refine ac53 wend_T_ok (Nat.le_of_ble_eq_true rfl) ?_
    simp -implicitDefEqProofs only [cdA, go_sem, Go.Proofs.Tryz.f53, hck, false_implies, true_implies, not_false_eq_true, not_true_eq_false, reduceIte, reduceCtorEq, Nat.reduceEqDiff, Nat.reduceAdd, Nat.reduceLeDiff, Nat.reduceSub, Nat.reduceMul, Nat.reduceLT, Nat.reduceShiftRight, Nat.reduceMod, Int.reduceLE, Int.reduceLT, Int.reduceToNat, cdB, List.cons.injEq, true_and, and_true]
    refine ac60 wend_T_ok (Nat.le_of_ble_eq_true rfl) ?_
    simp -implicitDefEqProofs only [cdA, go_sem, Go.Proofs.Tryz.f60, reduceIte, reduceCtorEq, Nat.reduceEqDiff, Nat.reduceAdd, Nat.reduceLeDiff, Nat.reduceSub, Nat.reduceMul, Nat.reduceLT, Nat.reduceShiftRight, Nat.reduceMod, Int.reduceLE, Int.reduceLT, Int.reduceToNat, cdB, List.cons.injEq, true_and, and_true]
    have eC1 : (lendL v.c id false).1 = (wenC v id false).1 := rfl
    have eC2 : (lendL v.c id false).2.2 = (wenC v id false).2 := rfl
    rw [eC1, eC2]
    refine ⟨fun hs1 => ?_, fun hs1 => ?_⟩
    rotate_left 1
    · skip
      refine ac56 wend_T_ok (Nat.le_of_ble_eq_true rfl) ?_
      simp -implicitDefEqProofs only [cdA, go_sem, Go.Proofs.Tryz.f56, reduceIte, reduceCtorEq, Nat.reduceEqDiff, Nat.reduceAdd, Nat.reduceLeDiff, Nat.reduceSub, Nat.reduceMul, Nat.reduceLT, Nat.reduceShiftRight, Nat.reduceMod, Int.reduceLE, Int.reduceLT, Int.reduceToNat, cdB, List.cons.injEq, true_and, and_true]
      refine ac140 wend_T_ok (Nat.le_of_ble_eq_true rfl) ?_
      simp -implicitDefEqProofs only [cdA, go_sem, Go.Proofs.Tryz.f140, hs1, false_implies, true_implies, not_false_eq_true, not_true_eq_false, reduceIte, reduceCtorEq, Nat.reduceEqDiff, Nat.reduceAdd, Nat.reduceLeDiff, Nat.reduceSub, Nat.reduceMul, Nat.reduceLT, Nat.reduceShiftRight, Nat.reduceMod, Int.reduceLE, Int.reduceLT, Int.reduceToNat, cdB, List.cons.injEq, true_and, and_true]
      refine ac47 wend_T_ok (Nat.le_of_ble_eq_true rfl) ?_
      simp -implicitDefEqProofs only [cdA, go_sem, Go.Proofs.Tryz.f47, hs1, false_implies, true_implies, not_false_eq_true, not_true_eq_false, reduceIte, reduceCtorEq, Nat.reduceEqDiff, Nat.reduceAdd, Nat.reduceLeDiff, Nat.reduceSub, Nat.reduceMul, Nat.reduceLT, Nat.reduceShiftRight, Nat.reduceMod, Int.reduceLE, Int.reduceLT, Int.reduceToNat, cdB, List.cons.injEq, true_and, and_true]
      refine ADraw.run us47_2 wend_T_ok follows_mixed (by kernel_rfl) (by kernel_rfl) ?_
      simp -implicitDefEqProofs only [cdA, go_sem, hs1, false_implies, true_implies, not_false_eq_true, not_true_eq_false, reduceIte, reduceCtorEq, Nat.reduceEqDiff, Nat.reduceAdd, Nat.reduceLeDiff, Nat.reduceSub, Nat.reduceMul, Nat.reduceLT, Nat.reduceShiftRight, Nat.reduceMod, Int.reduceLE, Int.reduceLT, Int.reduceToNat, cdB, List.cons.injEq, true_and, and_true]
      exact hbad _ (by rw [wenE, if_neg (fun h => h hok), if_neg (fun h => h hs0), if_pos hs1]) hs1
    refine ac56 wend_T_ok (Nat.le_of_ble_eq_true rfl) ?_
    simp -implicitDefEqProofs only [cdA, go_sem, Go.Proofs.Tryz.f56, reduceIte, reduceCtorEq, Nat.reduceEqDiff, Nat.reduceAdd, Nat.reduceLeDiff, Nat.reduceSub, Nat.reduceMul, Nat.reduceLT, Nat.reduceShiftRight, Nat.reduceMod, Int.reduceLE, Int.reduceLT, Int.reduceToNat, cdB, List.cons.injEq, true_and, and_true]
    refine ac140 wend_T_ok (Nat.le_of_ble_eq_true rfl) ?_
    simp -implicitDefEqProofs only [cdA, go_sem, Go.Proofs.Tryz.f140, hck, false_implies, true_implies, not_false_eq_true, not_true_eq_false, reduceIte, reduceCtorEq, Nat.reduceEqDiff, Nat.reduceAdd, Nat.reduceLeDiff, Nat.reduceSub, Nat.reduceMul, Nat.reduceLT, Nat.reduceShiftRight, Nat.reduceMod, Int.reduceLE, Int.reduceLT, Int.reduceToNat, cdB, List.cons.injEq, true_and, and_true]
    refine ac141 wend_T_ok (Nat.le_of_ble_eq_true rfl) ?_
    simp -implicitDefEqProofs only [cdA, go_sem, Go.Proofs.Tryz.f141, reduceIte, reduceCtorEq, Nat.reduceEqDiff, Nat.reduceAdd, Nat.reduceLeDiff, Nat.reduceSub, Nat.reduceMul, Nat.reduceLT, Nat.reduceShiftRight, Nat.reduceMod, Int.reduceLE, Int.reduceLT, Int.reduceToNat, cdB, List.cons.injEq, true_and, and_true]
    have eF : addF v.f 2 id (lendL v.c id false).2.1 = wenF v id false := rfl
    rw [eF]
    refine ⟨h, fun hfd => ?_, fun hfd => ?_⟩
    rotate_left 1
    · skip
      refine ac47 wend_T_ok (Nat.le_of_ble_eq_true rfl) ?_
      simp -implicitDefEqProofs only [cdA, go_sem, Go.Proofs.Tryz.f47, hfd, false_implies, true_implies, not_false_eq_true, not_true_eq_false, reduceIte, reduceCtorEq, Nat.reduceEqDiff, Nat.reduceAdd, Nat.reduceLeDiff, Nat.reduceSub, Nat.reduceMul, Nat.reduceLT, Nat.reduceShiftRight, Nat.reduceMod, Int.reduceLE, Int.reduceLT, Int.reduceToNat, cdB, List.cons.injEq, true_and, and_true]
      refine ADraw.run us47_2 wend_T_ok follows_mixed (by kernel_rfl) (by kernel_rfl) ?_
      simp -implicitDefEqProofs only [cdA, go_sem, hfd, false_implies, true_implies, not_false_eq_true, not_true_eq_false, reduceIte, reduceCtorEq, Nat.reduceEqDiff, Nat.reduceAdd, Nat.reduceLeDiff, Nat.reduceSub, Nat.reduceMul, Nat.reduceLT, Nat.reduceShiftRight, Nat.reduceMod, Int.reduceLE, Int.reduceLT, Int.reduceToNat, cdB, List.cons.injEq, true_and, and_true]
      exact hbad _ (by rw [wenE, if_neg (fun h => h hok), if_neg (fun h => h hs0), if_neg (fun h => h hs1)]) hfd
    have hsm : smallW ⟨(wenC v id false).1, v.w, v.i, (wenP v id false).1, (wenF v id false).1, v.next, v.tick⟩ := by
      have h2 := small_ok hok
      have h50 := pend_len hs0
      have h51 := lend_fine hs1
      exact ⟨(by have := h51.1; show (wenC v id false).1.length ≤ _; unfold wenC; (try dsimp only); omega), (fun d hd => by have := (h51.2.1 d hd).2.2.1; omega), h2.2.2.1, h2.2.2.2.1, (by show (wenP v id false).1.length ≤ _; unfold wenP; omega), (by show (wenF v id false).1.l.length ≤ _; unfold wenF; exact Nat.le_trans add_len (by decide))⟩
    have hfin : wenW v id false = (⟨(wenC v id false).1, v.w, v.i, (wenP v id false).1, (wenF v id false).1, v.next, v.tick⟩, 0) := by
      have : wenE v id false = 0 := by rw [wenE, if_neg (fun h => h hok), if_neg (fun h => h hs0), if_neg (fun h => h hs1)]; exact hfd
      rw [wenW, if_pos this]
    refine ac47 wend_T_ok (Nat.le_of_ble_eq_true rfl) ?_
    simp -implicitDefEqProofs only [cdA, go_sem, Go.Proofs.Tryz.f47, hck, eq_true hsm, false_implies, true_implies, not_false_eq_true, not_true_eq_false, reduceIte, reduceCtorEq, Nat.reduceEqDiff, Nat.reduceAdd, Nat.reduceLeDiff, Nat.reduceSub, Nat.reduceMul, Nat.reduceLT, Nat.reduceShiftRight, Nat.reduceMod, Int.reduceLE, Int.reduceLT, Int.reduceToNat, cdB, List.cons.injEq, true_and, and_true]
    rw [hfin]
    exact ⟨⟨rfl, rfl, rfl, rfl, rfl, rfl, rfl, rfl⟩, rfl⟩
  · skip
    refine ac45 wend_T_ok (Nat.le_of_ble_eq_true rfl) ?_
    simp -implicitDefEqProofs only [cdA, go_sem, Go.Proofs.Tryz.f45, reduceIte, reduceCtorEq, Nat.reduceEqDiff, Nat.reduceAdd, Nat.reduceLeDiff, Nat.reduceSub, Nat.reduceMul, Nat.reduceLT, Nat.reduceShiftRight, Nat.reduceMod, Int.reduceLE, Int.reduceLT, Int.reduceToNat, cdB, List.cons.injEq, true_and, and_true]
    refine ADraw.run us45_1 wend_T_ok follows_mixed (by kernel_rfl) (by kernel_rfl) ?_
    simp -implicitDefEqProofs only [cdA, go_sem, reduceIte, reduceCtorEq, Nat.reduceEqDiff, Nat.reduceAdd, Nat.reduceLeDiff, Nat.reduceSub, Nat.reduceMul, Nat.reduceLT, Nat.reduceShiftRight, Nat.reduceMod, Int.reduceLE, Int.reduceLT, Int.reduceToNat, cdB, List.cons.injEq, true_and, and_true]
    refine ⟨h, ?_⟩
    have hbad : ∀ e : Int, wenE v id true = e → ¬ e = 0 → (chs (wenW v id true).1.c = [] ∧ wts (wenW v id true).1.w = [] ∧ ivs (wenW v id true).1.i = [] ∧ pys (wenW v id true).1.p = [] ∧ 0 = ((wenW v id true).1.f.next : Int) ∧ evs (wenW v id true).1.f.l = [] ∧ 0 = ((wenW v id true).1.next : Int) ∧ 0 = ((wenW v id true).1.tick : Int)) ∧ e = (wenW v id true).2 := fun e h1 h2 => by
      have : wenW v id true = (zeroW, e) := by rw [wenW, if_neg (by rw [h1]; exact h2), h1]
      rw [this]; exact ⟨⟨rfl, rfl, rfl, rfl, rfl, rfl, rfl, rfl⟩, rfl⟩
    by_cases hok : okW v
    rotate_left 1
    · have hck : (chkW v = 0) = False := eq_false fun h => hok (chkW_0.1 h)
      have he : wenE v id true = 1 := by rw [wenE, if_pos hok]
      have hc1 : chkW v = 1 := by rw [chkW, if_neg hok]
      skip
      refine ac50 wend_T_ok (Nat.le_of_ble_eq_true rfl) ?_
      simp -implicitDefEqProofs only [cdA, go_sem, Go.Proofs.Tryz.f50, hck, false_implies, true_implies, not_false_eq_true, not_true_eq_false, reduceIte, reduceCtorEq, Nat.reduceEqDiff, Nat.reduceAdd, Nat.reduceLeDiff, Nat.reduceSub, Nat.reduceMul, Nat.reduceLT, Nat.reduceShiftRight, Nat.reduceMod, Int.reduceLE, Int.reduceLT, Int.reduceToNat, cdB, List.cons.injEq, true_and, and_true]
      refine ac53 wend_T_ok (Nat.le_of_ble_eq_true rfl) ?_
      simp -implicitDefEqProofs only [cdA, go_sem, Go.Proofs.Tryz.f53, hck, false_implies, true_implies, not_false_eq_true, not_true_eq_false, reduceIte, reduceCtorEq, Nat.reduceEqDiff, Nat.reduceAdd, Nat.reduceLeDiff, Nat.reduceSub, Nat.reduceMul, Nat.reduceLT, Nat.reduceShiftRight, Nat.reduceMod, Int.reduceLE, Int.reduceLT, Int.reduceToNat, cdB, List.cons.injEq, true_and, and_true]
      refine ac56 wend_T_ok (Nat.le_of_ble_eq_true rfl) ?_
      simp -implicitDefEqProofs only [cdA, go_sem, Go.Proofs.Tryz.f56, reduceIte, reduceCtorEq, Nat.reduceEqDiff, Nat.reduceAdd, Nat.reduceLeDiff, Nat.reduceSub, Nat.reduceMul, Nat.reduceLT, Nat.reduceShiftRight, Nat.reduceMod, Int.reduceLE, Int.reduceLT, Int.reduceToNat, cdB, List.cons.injEq, true_and, and_true]
      refine ac140 wend_T_ok (Nat.le_of_ble_eq_true rfl) ?_
      simp -implicitDefEqProofs only [cdA, go_sem, Go.Proofs.Tryz.f140, hck, false_implies, true_implies, not_false_eq_true, not_true_eq_false, reduceIte, reduceCtorEq, Nat.reduceEqDiff, Nat.reduceAdd, Nat.reduceLeDiff, Nat.reduceSub, Nat.reduceMul, Nat.reduceLT, Nat.reduceShiftRight, Nat.reduceMod, Int.reduceLE, Int.reduceLT, Int.reduceToNat, cdB, List.cons.injEq, true_and, and_true]
      refine ac47 wend_T_ok (Nat.le_of_ble_eq_true rfl) ?_
      simp -implicitDefEqProofs only [cdA, go_sem, Go.Proofs.Tryz.f47, hck, false_implies, true_implies, not_false_eq_true, not_true_eq_false, reduceIte, reduceCtorEq, Nat.reduceEqDiff, Nat.reduceAdd, Nat.reduceLeDiff, Nat.reduceSub, Nat.reduceMul, Nat.reduceLT, Nat.reduceShiftRight, Nat.reduceMod, Int.reduceLE, Int.reduceLT, Int.reduceToNat, cdB, List.cons.injEq, true_and, and_true]
      refine ADraw.run us47_2 wend_T_ok follows_mixed (by kernel_rfl) (by kernel_rfl) ?_
      simp -implicitDefEqProofs only [cdA, go_sem, hck, false_implies, true_implies, not_false_eq_true, not_true_eq_false, reduceIte, reduceCtorEq, Nat.reduceEqDiff, Nat.reduceAdd, Nat.reduceLeDiff, Nat.reduceSub, Nat.reduceMul, Nat.reduceLT, Nat.reduceShiftRight, Nat.reduceMod, Int.reduceLE, Int.reduceLT, Int.reduceToNat, cdB, List.cons.injEq, true_and, and_true]
      exact hbad _ (he.trans hc1.symm) (by rw [hc1]; decide)
    have hck : (chkW v = 0) = True := eq_true (chkW_0.2 hok)
    refine ac50 wend_T_ok (Nat.le_of_ble_eq_true rfl) ?_
    simp -implicitDefEqProofs only [cdA, go_sem, Go.Proofs.Tryz.f50, hck, false_implies, true_implies, not_false_eq_true, not_true_eq_false, reduceIte, reduceCtorEq, Nat.reduceEqDiff, Nat.reduceAdd, Nat.reduceLeDiff, Nat.reduceSub, Nat.reduceMul, Nat.reduceLT, Nat.reduceShiftRight, Nat.reduceMod, Int.reduceLE, Int.reduceLT, Int.reduceToNat, cdB, List.cons.injEq, true_and, and_true]
    refine ac58 wend_T_ok (Nat.le_of_ble_eq_true rfl) ?_
    simp -implicitDefEqProofs only [cdA, go_sem, Go.Proofs.Tryz.f58, reduceIte, reduceCtorEq, Nat.reduceEqDiff, Nat.reduceAdd, Nat.reduceLeDiff, Nat.reduceSub, Nat.reduceMul, Nat.reduceLT, Nat.reduceShiftRight, Nat.reduceMod, Int.reduceLE, Int.reduceLT, Int.reduceToNat, cdB, List.cons.injEq, true_and, and_true]
    have eP : pendL v.p id true = wenP v id true := rfl
    rw [eP]
    refine ⟨fun hs0 => ?_, fun hs0 => ?_⟩
    rotate_left 1
    · skip
      refine ac53 wend_T_ok (Nat.le_of_ble_eq_true rfl) ?_
      simp -implicitDefEqProofs only [cdA, go_sem, Go.Proofs.Tryz.f53, hs0, false_implies, true_implies, not_false_eq_true, not_true_eq_false, reduceIte, reduceCtorEq, Nat.reduceEqDiff, Nat.reduceAdd, Nat.reduceLeDiff, Nat.reduceSub, Nat.reduceMul, Nat.reduceLT, Nat.reduceShiftRight, Nat.reduceMod, Int.reduceLE, Int.reduceLT, Int.reduceToNat, cdB, List.cons.injEq, true_and, and_true]
      refine ac56 wend_T_ok (Nat.le_of_ble_eq_true rfl) ?_
      simp -implicitDefEqProofs only [cdA, go_sem, Go.Proofs.Tryz.f56, reduceIte, reduceCtorEq, Nat.reduceEqDiff, Nat.reduceAdd, Nat.reduceLeDiff, Nat.reduceSub, Nat.reduceMul, Nat.reduceLT, Nat.reduceShiftRight, Nat.reduceMod, Int.reduceLE, Int.reduceLT, Int.reduceToNat, cdB, List.cons.injEq, true_and, and_true]
      refine ac140 wend_T_ok (Nat.le_of_ble_eq_true rfl) ?_
      simp -implicitDefEqProofs only [cdA, go_sem, Go.Proofs.Tryz.f140, hs0, false_implies, true_implies, not_false_eq_true, not_true_eq_false, reduceIte, reduceCtorEq, Nat.reduceEqDiff, Nat.reduceAdd, Nat.reduceLeDiff, Nat.reduceSub, Nat.reduceMul, Nat.reduceLT, Nat.reduceShiftRight, Nat.reduceMod, Int.reduceLE, Int.reduceLT, Int.reduceToNat, cdB, List.cons.injEq, true_and, and_true]
      refine ac47 wend_T_ok (Nat.le_of_ble_eq_true rfl) ?_
      simp -implicitDefEqProofs only [cdA, go_sem, Go.Proofs.Tryz.f47, hs0, false_implies, true_implies, not_false_eq_true, not_true_eq_false, reduceIte, reduceCtorEq, Nat.reduceEqDiff, Nat.reduceAdd, Nat.reduceLeDiff, Nat.reduceSub, Nat.reduceMul, Nat.reduceLT, Nat.reduceShiftRight, Nat.reduceMod, Int.reduceLE, Int.reduceLT, Int.reduceToNat, cdB, List.cons.injEq, true_and, and_true]
      refine ADraw.run us47_2 wend_T_ok follows_mixed (by kernel_rfl) (by kernel_rfl) ?_
      simp -implicitDefEqProofs only [cdA, go_sem, hs0, false_implies, true_implies, not_false_eq_true, not_true_eq_false, reduceIte, reduceCtorEq, Nat.reduceEqDiff, Nat.reduceAdd, Nat.reduceLeDiff, Nat.reduceSub, Nat.reduceMul, Nat.reduceLT, Nat.reduceShiftRight, Nat.reduceMod, Int.reduceLE, Int.reduceLT, Int.reduceToNat, cdB, List.cons.injEq, true_and, and_true]
      exact hbad _ (by rw [wenE, if_neg (fun h => h hok), if_pos hs0]) hs0
    refine ac53 wend_T_ok (Nat.le_of_ble_eq_true rfl) ?_
    simp -implicitDefEqProofs only [cdA, go_sem, Go.Proofs.Tryz.f53, hck, false_implies, true_implies, not_false_eq_true, not_true_eq_false, reduceIte, reduceCtorEq, Nat.reduceEqDiff, Nat.reduceAdd, Nat.reduceLeDiff, Nat.reduceSub, Nat.reduceMul, Nat.reduceLT, Nat.reduceShiftRight, Nat.reduceMod, Int.reduceLE, Int.reduceLT, Int.reduceToNat, cdB, List.cons.injEq, true_and, and_true]
    refine ac60 wend_T_ok (Nat.le_of_ble_eq_true rfl) ?_
    simp -implicitDefEqProofs only [cdA, go_sem, Go.Proofs.Tryz.f60, reduceIte, reduceCtorEq, Nat.reduceEqDiff, Nat.reduceAdd, Nat.reduceLeDiff, Nat.reduceSub, Nat.reduceMul, Nat.reduceLT, Nat.reduceShiftRight, Nat.reduceMod, Int.reduceLE, Int.reduceLT, Int.reduceToNat, cdB, List.cons.injEq, true_and, and_true]
    have eC1 : (lendL v.c id true).1 = (wenC v id true).1 := rfl
    have eC2 : (lendL v.c id true).2.2 = (wenC v id true).2 := rfl
    rw [eC1, eC2]
    refine ⟨fun hs1 => ?_, fun hs1 => ?_⟩
    rotate_left 1
    · skip
      refine ac56 wend_T_ok (Nat.le_of_ble_eq_true rfl) ?_
      simp -implicitDefEqProofs only [cdA, go_sem, Go.Proofs.Tryz.f56, reduceIte, reduceCtorEq, Nat.reduceEqDiff, Nat.reduceAdd, Nat.reduceLeDiff, Nat.reduceSub, Nat.reduceMul, Nat.reduceLT, Nat.reduceShiftRight, Nat.reduceMod, Int.reduceLE, Int.reduceLT, Int.reduceToNat, cdB, List.cons.injEq, true_and, and_true]
      refine ac140 wend_T_ok (Nat.le_of_ble_eq_true rfl) ?_
      simp -implicitDefEqProofs only [cdA, go_sem, Go.Proofs.Tryz.f140, hs1, false_implies, true_implies, not_false_eq_true, not_true_eq_false, reduceIte, reduceCtorEq, Nat.reduceEqDiff, Nat.reduceAdd, Nat.reduceLeDiff, Nat.reduceSub, Nat.reduceMul, Nat.reduceLT, Nat.reduceShiftRight, Nat.reduceMod, Int.reduceLE, Int.reduceLT, Int.reduceToNat, cdB, List.cons.injEq, true_and, and_true]
      refine ac47 wend_T_ok (Nat.le_of_ble_eq_true rfl) ?_
      simp -implicitDefEqProofs only [cdA, go_sem, Go.Proofs.Tryz.f47, hs1, false_implies, true_implies, not_false_eq_true, not_true_eq_false, reduceIte, reduceCtorEq, Nat.reduceEqDiff, Nat.reduceAdd, Nat.reduceLeDiff, Nat.reduceSub, Nat.reduceMul, Nat.reduceLT, Nat.reduceShiftRight, Nat.reduceMod, Int.reduceLE, Int.reduceLT, Int.reduceToNat, cdB, List.cons.injEq, true_and, and_true]
      refine ADraw.run us47_2 wend_T_ok follows_mixed (by kernel_rfl) (by kernel_rfl) ?_
      simp -implicitDefEqProofs only [cdA, go_sem, hs1, false_implies, true_implies, not_false_eq_true, not_true_eq_false, reduceIte, reduceCtorEq, Nat.reduceEqDiff, Nat.reduceAdd, Nat.reduceLeDiff, Nat.reduceSub, Nat.reduceMul, Nat.reduceLT, Nat.reduceShiftRight, Nat.reduceMod, Int.reduceLE, Int.reduceLT, Int.reduceToNat, cdB, List.cons.injEq, true_and, and_true]
      exact hbad _ (by rw [wenE, if_neg (fun h => h hok), if_neg (fun h => h hs0), if_pos hs1]) hs1
    refine ac56 wend_T_ok (Nat.le_of_ble_eq_true rfl) ?_
    simp -implicitDefEqProofs only [cdA, go_sem, Go.Proofs.Tryz.f56, reduceIte, reduceCtorEq, Nat.reduceEqDiff, Nat.reduceAdd, Nat.reduceLeDiff, Nat.reduceSub, Nat.reduceMul, Nat.reduceLT, Nat.reduceShiftRight, Nat.reduceMod, Int.reduceLE, Int.reduceLT, Int.reduceToNat, cdB, List.cons.injEq, true_and, and_true]
    refine ac140 wend_T_ok (Nat.le_of_ble_eq_true rfl) ?_
    simp -implicitDefEqProofs only [cdA, go_sem, Go.Proofs.Tryz.f140, hck, false_implies, true_implies, not_false_eq_true, not_true_eq_false, reduceIte, reduceCtorEq, Nat.reduceEqDiff, Nat.reduceAdd, Nat.reduceLeDiff, Nat.reduceSub, Nat.reduceMul, Nat.reduceLT, Nat.reduceShiftRight, Nat.reduceMod, Int.reduceLE, Int.reduceLT, Int.reduceToNat, cdB, List.cons.injEq, true_and, and_true]
    refine ac141 wend_T_ok (Nat.le_of_ble_eq_true rfl) ?_
    simp -implicitDefEqProofs only [cdA, go_sem, Go.Proofs.Tryz.f141, reduceIte, reduceCtorEq, Nat.reduceEqDiff, Nat.reduceAdd, Nat.reduceLeDiff, Nat.reduceSub, Nat.reduceMul, Nat.reduceLT, Nat.reduceShiftRight, Nat.reduceMod, Int.reduceLE, Int.reduceLT, Int.reduceToNat, cdB, List.cons.injEq, true_and, and_true]
    have eF : addF v.f 1 id (lendL v.c id true).2.1 = wenF v id true := rfl
    rw [eF]
    refine ⟨h, fun hfd => ?_, fun hfd => ?_⟩
    rotate_left 1
    · skip
      refine ac47 wend_T_ok (Nat.le_of_ble_eq_true rfl) ?_
      simp -implicitDefEqProofs only [cdA, go_sem, Go.Proofs.Tryz.f47, hfd, false_implies, true_implies, not_false_eq_true, not_true_eq_false, reduceIte, reduceCtorEq, Nat.reduceEqDiff, Nat.reduceAdd, Nat.reduceLeDiff, Nat.reduceSub, Nat.reduceMul, Nat.reduceLT, Nat.reduceShiftRight, Nat.reduceMod, Int.reduceLE, Int.reduceLT, Int.reduceToNat, cdB, List.cons.injEq, true_and, and_true]
      refine ADraw.run us47_2 wend_T_ok follows_mixed (by kernel_rfl) (by kernel_rfl) ?_
      simp -implicitDefEqProofs only [cdA, go_sem, hfd, false_implies, true_implies, not_false_eq_true, not_true_eq_false, reduceIte, reduceCtorEq, Nat.reduceEqDiff, Nat.reduceAdd, Nat.reduceLeDiff, Nat.reduceSub, Nat.reduceMul, Nat.reduceLT, Nat.reduceShiftRight, Nat.reduceMod, Int.reduceLE, Int.reduceLT, Int.reduceToNat, cdB, List.cons.injEq, true_and, and_true]
      exact hbad _ (by rw [wenE, if_neg (fun h => h hok), if_neg (fun h => h hs0), if_neg (fun h => h hs1)]) hfd
    have hsm : smallW ⟨(wenC v id true).1, v.w, v.i, (wenP v id true).1, (wenF v id true).1, v.next, v.tick⟩ := by
      have h2 := small_ok hok
      have h50 := pend_len hs0
      have h51 := lend_fine hs1
      exact ⟨(by have := h51.1; show (wenC v id true).1.length ≤ _; unfold wenC; (try dsimp only); omega), (fun d hd => by have := (h51.2.1 d hd).2.2.1; omega), h2.2.2.1, h2.2.2.2.1, (by show (wenP v id true).1.length ≤ _; unfold wenP; omega), (by show (wenF v id true).1.l.length ≤ _; unfold wenF; exact Nat.le_trans add_len (by decide))⟩
    have hfin : wenW v id true = (⟨(wenC v id true).1, v.w, v.i, (wenP v id true).1, (wenF v id true).1, v.next, v.tick⟩, 0) := by
      have : wenE v id true = 0 := by rw [wenE, if_neg (fun h => h hok), if_neg (fun h => h hs0), if_neg (fun h => h hs1)]; exact hfd
      rw [wenW, if_pos this]
    refine ac47 wend_T_ok (Nat.le_of_ble_eq_true rfl) ?_
    simp -implicitDefEqProofs only [cdA, go_sem, Go.Proofs.Tryz.f47, hck, eq_true hsm, false_implies, true_implies, not_false_eq_true, not_true_eq_false, reduceIte, reduceCtorEq, Nat.reduceEqDiff, Nat.reduceAdd, Nat.reduceLeDiff, Nat.reduceSub, Nat.reduceMul, Nat.reduceLT, Nat.reduceShiftRight, Nat.reduceMod, Int.reduceLE, Int.reduceLT, Int.reduceToNat, cdB, List.cons.injEq, true_and, and_true]
    rw [hfin]
    exact ⟨⟨rfl, rfl, rfl, rfl, rfl, rfl, rfl, rfl⟩, rfl⟩
@[go_sem] def wend_p (v : Wl) (id : Nat) (paid : Bool) : Prop := (v.f.next ≤ 18446744073709551615)
def sp_wend : List D → Option (Prop × D × Fr)
  | [.agg [.c (.sl z2), .c (.sl z3), .c (.sl z4), .c (.sl z5), .c (.int .u64 z7), .c (.sl z8), .c (.int .u64 z9), .c (.int .u64 z10)], .c (.int .u64 z11), .c (.bool z12)] => some (z2 = chs (dchs z2) ∧ z3 = wts (dwts z3) ∧ z4 = ivs (divs z4) ∧ z5 = pys (dpys z5) ∧ z7 = (z7.toNat : Int) ∧ z8 = evs (devs z8) ∧ z9 = (z9.toNat : Int) ∧ z10 = (z10.toNat : Int) ∧ z11 = (z11.toNat : Int) ∧ wend_p (⟨(dchs z2), (dwts z3), (divs z4), (dpys z5), (⟨z7.toNat, (devs z8)⟩ : Fd), z9.toNat, z10.toNat⟩ : Wl) z11.toNat z12, wend_r (⟨(dchs z2), (dwts z3), (divs z4), (dpys z5), (⟨z7.toNat, (devs z8)⟩ : Fd), z9.toNat, z10.toNat⟩ : Wl) z11.toNat z12, [])
  | _ => none
attribute [go_sem] sp_wend
theorem sp_wend_ok : ∀ rs p r fr, sp_wend rs = some (p, r, fr) → p → FnOk Tryz.prog 15 rs r fr := by
  intro rs p r fr h hp
  unfold sp_wend at h
  split at h <;> cases h
  obtain ⟨hc0, hc1, hc2, hc3, hc4, hc5, hc6, hc7, hc8, hp⟩ := hp
  rename_i z2 z3 z4 z5 z7 z8 z9 z10 z11 z12
  obtain ⟨z2, rfl⟩ : ∃ m, z2 = chs m := ⟨_, hc0⟩
  obtain ⟨z3, rfl⟩ : ∃ m, z3 = wts m := ⟨_, hc1⟩
  obtain ⟨z4, rfl⟩ : ∃ m, z4 = ivs m := ⟨_, hc2⟩
  obtain ⟨z5, rfl⟩ : ∃ m, z5 = pys m := ⟨_, hc3⟩
  obtain ⟨z7, rfl⟩ : ∃ m : Nat, z7 = m := ⟨_, hc4⟩
  obtain ⟨z8, rfl⟩ : ∃ m, z8 = evs m := ⟨_, hc5⟩
  obtain ⟨z9, rfl⟩ : ∃ m : Nat, z9 = m := ⟨_, hc6⟩
  obtain ⟨z10, rfl⟩ : ∃ m : Nat, z10 = m := ⟨_, hc7⟩
  obtain ⟨z11, rfl⟩ : ∃ m : Nat, z11 = m := ⟨_, hc8⟩
  simp only [Int.toNat_natCast, dchs_chs, devs_evs, divs_ivs, dpys_pys, dwts_wts]
  simp only [Int.toNat_natCast, dchs_chs, devs_evs, divs_ivs, dpys_pys, dwts_wts, wend_p] at hp
  exact wend_ok ⟨z2, z3, z4, z5, ⟨z7, z8⟩, z9, z10⟩ z11 z12 hp
end Dm
namespace Dm
open Go Go.Proofs Go.IntWalk
end Dm
namespace Dm
open Go Go.Proofs Go.IntWalk
end Dm
namespace Dm
open Go Go.Proofs Go.IntWalk
end Dm
namespace Dm
open Go Go.Proofs Go.IntWalk
def emptyW : Wl := ⟨[], [], [], [], ⟨1, []⟩, 1, 0⟩
def liveC : Ch := ⟨1, 10, 0, 0, 10, [], true⟩
theorem live1 : (wopW emptyW liveC).2 = 0 := by decide
theorem live2 : (wopW emptyW liveC).1.f.next ≤ 18446744073709551615 := by decide
set_option maxRecDepth 100000 in
theorem live3 : (payW (wopW emptyW liveC).1 7 4).2 = (1, 0) := by decide
set_option maxRecDepth 100000 in
theorem live4 : (payW (wopW emptyW liveC).1 7 4).1.f.next ≤ 18446744073709551615 ∧ oursL (payW (wopW emptyW liveC).1 7 4).1.c = (6, 4, 0) := by decide
set_option maxRecDepth 100000 in
theorem live5 : (wenW (payW (wopW emptyW liveC).1 7 4).1 1 false).2 = 0 := by decide
set_option maxRecDepth 100000 in
theorem live6 : oursL (wenW (payW (wopW emptyW liveC).1 7 4).1 1 false).1.c = (10, 0, 0) := by decide
@[go_sem] def few17_r (w : Wl) : D := .bool (decide (((∀ c ∈ w.c, c.holds.length ≤ 20) ∧ w.c.length ≤ 34) ∧ w.w.length ≤ 40 ∧ w.i.length ≤ 40 ∧ (w.p.length ≤ 40 ∨ 256 ≤ w.p.length ∧ w.p.length ≤ 258) ∧ w.f.l.length ≤ 70))
@[go_sem] abbrev n_few17 : FuncId := 10
@[go_sem] def few17_T : Tab := [(44, sp_few)]
theorem few17_T_ok : TabOk Tryz.prog few17_T := (TabOk.cons sp_few_ok TabOk.nil)
set_option maxRecDepth 8000 in
set_option maxHeartbeats 1000000 in
theorem few17_ok (w : Wl)  : PureFn Tryz.prog 10 [.agg [.sl (chs w.c), .sl (wts w.w), .sl (ivs w.i), .sl (pys w.p), .c (.int .u64 (w.f.next : Int)), .sl (evs w.f.l), .c (.int .u64 (w.next : Int)), .c (.int .u64 (w.tick : Int))]] (few17_r w) := by
  refine .of (ac10 few17_T_ok (Nat.le_of_ble_eq_true rfl) ?_)
  simp -implicitDefEqProofs only [cdA, go_sem, Go.Proofs.Tryz.f10, reduceIte, reduceCtorEq, Nat.reduceEqDiff, Nat.reduceAdd, Nat.reduceLeDiff, Nat.reduceSub, Nat.reduceMul, Nat.reduceLT, Nat.reduceShiftRight, Nat.reduceMod, Int.reduceLE, Int.reduceLT, Int.reduceToNat, cdB, List.cons.injEq, true_and, and_true]
  refine ⟨fun hq _ => ⟨fun h1 _ => ⟨fun h2 _ => ⟨fun h3 _ => ⟨fun h4 _ => ⟨fun h5 _ => ?_, fun h5 => (decide_eq_false fun h => by have := h.2; omega).symm⟩, fun h4 => (decide_eq_false fun h => by have := h.2; omega).symm⟩, fun h3 _ => ?_⟩, fun h2 => (decide_eq_false fun h => by have := h.2; omega).symm⟩, fun h1 => (decide_eq_false fun h => by have := h.2; omega).symm⟩, fun hq => (decide_eq_false fun h => hq h.1).symm⟩
  · rw [decide_eq_decide]; exact ⟨fun h => ⟨hq, by omega, by omega, by omega, by omega⟩, fun h => by have := h.2; omega⟩
  · rw [decide_eq_decide]; exact ⟨fun h => ⟨hq, by omega, by omega, by omega, by omega⟩, fun h => by have := h.2; omega⟩
def sp_few17 : List D → Option (Prop × D × Fr)
  | [.agg [.c (.sl z2), .c (.sl z3), .c (.sl z4), .c (.sl z5), .c (.int .u64 z7), .c (.sl z8), .c (.int .u64 z9), .c (.int .u64 z10)]] => some (z2 = chs (dchs z2) ∧ z3 = wts (dwts z3) ∧ z4 = ivs (divs z4) ∧ z5 = pys (dpys z5) ∧ z7 = (z7.toNat : Int) ∧ z8 = evs (devs z8) ∧ z9 = (z9.toNat : Int) ∧ z10 = (z10.toNat : Int), few17_r (⟨(dchs z2), (dwts z3), (divs z4), (dpys z5), (⟨z7.toNat, (devs z8)⟩ : Fd), z9.toNat, z10.toNat⟩ : Wl), [])
  | _ => none
attribute [go_sem] sp_few17
theorem sp_few17_ok : ∀ rs p r fr, sp_few17 rs = some (p, r, fr) → p → FnOk Tryz.prog 10 rs r fr := by
  intro rs p r fr h hp
  unfold sp_few17 at h
  split at h <;> cases h
  obtain ⟨hc0, hc1, hc2, hc3, hc4, hc5, hc6, hc7⟩ := hp
  rename_i z2 z3 z4 z5 z7 z8 z9 z10
  obtain ⟨z2, rfl⟩ : ∃ m, z2 = chs m := ⟨_, hc0⟩
  obtain ⟨z3, rfl⟩ : ∃ m, z3 = wts m := ⟨_, hc1⟩
  obtain ⟨z4, rfl⟩ : ∃ m, z4 = ivs m := ⟨_, hc2⟩
  obtain ⟨z5, rfl⟩ : ∃ m, z5 = pys m := ⟨_, hc3⟩
  obtain ⟨z7, rfl⟩ : ∃ m : Nat, z7 = m := ⟨_, hc4⟩
  obtain ⟨z8, rfl⟩ : ∃ m, z8 = evs m := ⟨_, hc5⟩
  obtain ⟨z9, rfl⟩ : ∃ m : Nat, z9 = m := ⟨_, hc6⟩
  obtain ⟨z10, rfl⟩ : ∃ m : Nat, z10 = m := ⟨_, hc7⟩
  simp only [Int.toNat_natCast, dchs_chs, devs_evs, divs_ivs, dpys_pys, dwts_wts]
  exact few17_ok ⟨z2, z3, z4, z5, ⟨z7, z8⟩, z9, z10⟩
@[go_sem] def live_r  : D := .bool true
@[go_sem] abbrev n_live : FuncId := 9
@[go_sem] def live_T : Tab := [(40, sp_wnew), (30, sp_wopen), (13, sp_wpay), (43, sp_ours), (15, sp_wend)]
theorem live_T_ok : TabOk Tryz.prog live_T := (TabOk.cons sp_wnew_ok (TabOk.cons sp_wopen_ok (TabOk.cons sp_wpay_ok (TabOk.cons sp_ours_ok (TabOk.cons sp_wend_ok TabOk.nil)))))
set_option maxRecDepth 8000 in
set_option maxHeartbeats 1000000 in
theorem live_ok   : PureFn Tryz.prog 9 [] (live_r ) := by
  refine .of (ac9 live_T_ok (Nat.le_of_ble_eq_true rfl) ?_)
  simp -implicitDefEqProofs only [cdA, go_sem, Go.Proofs.Tryz.f9, reduceIte, reduceCtorEq, Nat.reduceEqDiff, Nat.reduceAdd, Nat.reduceLeDiff, Nat.reduceSub, Nat.reduceMul, Nat.reduceLT, Nat.reduceShiftRight, Nat.reduceMod, Int.reduceLE, Int.reduceLT, Int.reduceToNat, cdB, List.cons.injEq, true_and, and_true]
  have a1 := live1
  have a2 := live2
  have a3 := live3
  obtain ⟨a4, a5⟩ := live4
  have a6 := live5
  have a7 := live6
  unfold emptyW liveC at a1 a2 a3 a4 a5 a6 a7
  simp only [show dhds [] = [] from rfl]
  refine ⟨rfl, ?_⟩
  generalize wopW _ _ = x at *
  generalize payW x.1 7 4 = y at *
  have b1 : y.2.1 = 1 := congrArg Prod.fst a3
  have b2 : y.2.2 = 0 := congrArg Prod.snd a3
  rw [b1, b2, a5]
  generalize wenW y.1 1 false = z at *
  rw [a1, a6, a7]
  exact ⟨a2, a4, by simp⟩
def sp_live : List D → Option (Prop × D × Fr)
  | [] => some (True, live_r , [])
  | _ => none
attribute [go_sem] sp_live
theorem sp_live_ok : ∀ rs p r fr, sp_live rs = some (p, r, fr) → p → FnOk Tryz.prog 9 rs r fr := by
  intro rs p r fr h hp
  unfold sp_live at h
  split at h <;> cases h
  exact live_ok 
end Dm
namespace Dm
open Go
def TypFs (T : TypeId → List C → Prop) : List Field → List C → Prop
  | [], xs => xs = []
  | f :: r, xs => ∃ ys zs, xs = ys ++ zs ∧ T f.type ys ∧ TypFs T r zs
def TypR (T : List C → Prop) : Nat → List C → Prop
  | 0, xs => xs = []
  | n + 1, xs => ∃ ys zs, xs = ys ++ zs ∧ T ys ∧ TypR T n zs
def Typ (P : Program) : Nat → TypeId → List C → Prop
  | 0, _, _ => False
  | k + 1, t, xs => match P.underlying t with
    | some .bool => ∃ b, xs = [.bool b]
    | some (.int kd) => ∃ n, xs = [.int kd n] ∧ (Lit.int kd n).wf = true
    | some (.float kd) => ∃ n, xs = [.flt kd (flo kd n)] ∧ (Lit.float kd n).wf = true
    | some .string => ∃ s, xs = [.str s] ∧ s.size ≤ maxLen
    | some (.slice e) => ∃ els, xs = [.sl els] ∧ els.length ≤ maxLen ∧ ∀ x ∈ els, Typ P k e x
    | some (.struct fs) => TypFs (Typ P k) fs.toList xs
    | some (.array n e) => TypR (Typ P k e) n xs
    | _ => False
def plainFs (P : Program) (ok : TypeId → Bool) : Nat → List Field → Option Nat
  | o, [] => some o
  | o, f :: r => if f.offset = o ∧ ok f.type = true then plainFs P ok (o + P.cellsOf f.type) r else none
def plain (P : Program) : Nat → TypeId → Bool
  | 0, _ => false
  | k + 1, t => match P.underlying t with
    | some .bool => true
    | some (.int _) => true
    | some (.float _) => true
    | some .string => true
    | some (.slice e) => plain P k e && P.cellsOf e != 0
    | some (.struct fs) => plainFs P (plain P k) 0 fs.toList == some (P.cellsOf t)
    | some (.array n e) => plain P k e && n * P.cellsOf e == P.cellsOf t
    | _ => false

section
variable {H : Type} {enc : TypeId × Value → H} {P : Program} {w : World} {spare : Nat → Bool} {held : Bool}

def below (w : World) (b : Nat) : Prop := Cel w b
def Reads (w : World) (cs : List Value) (xs : List C) : Prop := xs.length = cs.length ∧ ∀ (i : Nat) (v : Value) (y : C), cs[i]? = some v → xs[i]? = some y → CRel (below w) w v y

theorem Reads.one {v : Value} {y : C} (h : CRel (below w) w v y) : Reads w [v] [y] := ⟨rfl, fun i u z hu hz => by
  cases i with
  | zero => simp at hu hz; subst hu; subst hz; exact h
  | succ i => simp at hu⟩
theorem Reads.app {cs ds : List Value} {xs ys : List C} (h : Reads w cs xs) (h' : Reads w ds ys) : Reads w (cs ++ ds) (xs ++ ys) := by
  refine ⟨by simp [h.1, h'.1], fun i v y hv hy => ?_⟩
  rw [List.getElem?_append] at hv hy
  rw [h.1] at hy
  split at hv
  · rename_i hlt; rw [if_pos hlt] at hy; exact h.2 i v y hv hy
  · rename_i hlt; rw [if_neg hlt] at hy; exact h'.2 _ v y hv hy

theorem mapM_cons_some {α β : Type} {f : α → Option β} {a : α} {l : List α} {r : List β} (h : (a :: l).mapM f = some r) : ∃ b bs, f a = some b ∧ l.mapM f = some bs ∧ r = b :: bs := by
  rw [List.mapM_cons] at h
  cases hf : f a with
  | none => simp [hf] at h
  | some b =>
    cases hl : l.mapM f with
    | none => simp [hf, hl] at h
    | some bs => simp [hf, hl] at h; exact ⟨b, bs, rfl, rfl, h.symm⟩

theorem plainFs_le {ok : TypeId → Bool} : ∀ {fs : List Field} {o e : Nat}, plainFs P ok o fs = some e → o ≤ e
  | [], o, e, h => by simp only [plainFs, Option.some.injEq] at h; omega
  | f :: r, o, e, h => by
    simp only [plainFs] at h
    split at h
    · have := plainFs_le h; omega
    · cases h

theorem fields_conv {k fuel : Nat} {cs : List Value} (IH : ∀ (t : TypeId) (cs : List Value) (x : DataW H × List MemPlace), DataW.trod enc P w 0 spare held fuel t cs = some x → plain P k t = true → ∃ xs, Typ P k t xs ∧ Reads w cs xs) :
    ∀ (fs : List Field) (o : Nat) (ys : List (DataW H × List MemPlace)), plainFs P (plain P k) o fs = some cs.length → fs.mapM (fun f => DataW.trod enc P w 0 spare held fuel f.type ((cs.drop f.offset).take (P.cellsOf f.type))) = some ys →
      ∃ xs, TypFs (Typ P k) fs xs ∧ Reads w (cs.drop o) xs
  | [], o, ys, h, _ => by
    simp only [plainFs, Option.some.injEq] at h
    exact ⟨[], rfl, by simp [Reads, h]⟩
  | f :: r, o, ys, h, hm => by
    simp only [plainFs] at h
    split at h
    · rename_i hc
      obtain ⟨hc1, hc2⟩ := hc
      have hle := plainFs_le h
      obtain ⟨b, bs, h1, h2, _⟩ := mapM_cons_some hm
      obtain ⟨xs, h3, h4⟩ := IH _ _ _ h1 hc2
      obtain ⟨zs, h5, h6⟩ := fields_conv IH r _ bs h h2
      refine ⟨xs ++ zs, ⟨xs, zs, rfl, h3, h5⟩, ?_⟩
      have e : cs.drop o = (cs.drop f.offset).take (P.cellsOf f.type) ++ cs.drop (o + P.cellsOf f.type) := by
        rw [hc1, ← List.drop_drop, List.take_append_drop]
      rw [e]
      exact h4.app h6
    · cases h

theorem array_conv {k fuel n sz : Nat} {e : TypeId} {cs : List Value} (IH : ∀ (t : TypeId) (cs : List Value) (x : DataW H × List MemPlace), DataW.trod enc P w 0 spare held fuel t cs = some x → plain P k t = true → ∃ xs, Typ P k t xs ∧ Reads w cs xs) (he : plain P k e = true) :
    ∀ (m j : Nat), j + m = n → n * sz = cs.length → (∀ i, i < n → ∃ x, DataW.trod enc P w 0 spare held fuel e ((cs.drop (i * sz)).take sz) = some x) → ∃ xs, TypR (Typ P k e) m xs ∧ Reads w (cs.drop (j * sz)) xs
  | 0, j, hj, hn, _ => ⟨[], rfl, by
      have : j = n := by omega
      subst this
      simp [Reads, hn]⟩
  | m + 1, j, hj, hn, hall => by
    obtain ⟨x, hx⟩ := hall j (by omega)
    obtain ⟨xs, h3, h4⟩ := IH _ _ _ hx he
    obtain ⟨zs, h5, h6⟩ := array_conv IH he m (j + 1) (by omega) hn hall
    refine ⟨xs ++ zs, ⟨xs, zs, rfl, h3, h5⟩, ?_⟩
    have e : cs.drop (j * sz) = (cs.drop (j * sz)).take sz ++ cs.drop ((j + 1) * sz) := by
      rw [Nat.add_mul, Nat.one_mul, ← List.drop_drop, List.take_append_drop]
    rw [e]
    exact h4.app h6

theorem mapM_range_get {β : Type} {f : Nat → Option β} {n : Nat} {r : List β} (h : (List.range n).mapM f = some r) (i : Nat) (hi : i < n) : ∃ y, f i = some y ∧ r[i]? = some y := by
  have key : ∀ (l : List Nat) (r : List β), l.mapM f = some r → ∀ (i x : Nat), l[i]? = some x → ∃ y, f x = some y ∧ r[i]? = some y := by
    intro l
    induction l with
    | nil => intro r _ i x hx; simp at hx
    | cons a l ih =>
      intro r hr i x hx
      obtain ⟨b, bs, h1, h2, rfl⟩ := mapM_cons_some hr
      cases i with
      | zero => simp at hx; subst hx; exact ⟨b, h1, rfl⟩
      | succ i => exact ih bs h2 i x (by simpa using hx)
  exact key _ _ h i i (by simp [hi])

theorem mapM_len {α β : Type} {f : α → Option β} : ∀ {l : List α} {r : List β}, l.mapM f = some r → r.length = l.length
  | [], r, h => by simp at h; simp [h]
  | a :: l, r, h => by
    obtain ⟨b, bs, _, h2, rfl⟩ := mapM_cons_some h
    simp [mapM_len h2]

theorem trod_conv : ∀ (fuel k : Nat) (t : TypeId) (cs : List Value) (x : DataW H × List MemPlace), DataW.trod enc P w 0 spare held fuel t cs = some x → plain P k t = true → ∃ xs, Typ P k t xs ∧ Reads w cs xs
  | 0, k, t, cs, x, h, _ => by simp [DataW.trod] at h
  | fuel + 1, 0, t, cs, x, h, hp => by cases hp
  | fuel + 1, k + 1, t, cs, x, h, hp => by
    have IH := fun t cs x => trod_conv fuel k t cs x
    simp only [plain] at hp
    simp only [Typ]
    unfold DataW.trod at h
    split at h
    · rename_i b hu; rw [hu]; exact ⟨[.bool b], ⟨b, rfl⟩, .one (.bool b)⟩
    · rename_i kd k' n hu
      rw [hu]
      split at h
      · rename_i hc; obtain ⟨rfl, hc⟩ := hc
        exact ⟨[.int _ n], ⟨n, rfl, hc⟩, .one (.int _ n)⟩
      · cases h
    · rename_i kd k' n hu
      rw [hu]
      split at h
      · rename_i hc; obtain ⟨rfl, hc⟩ := hc
        exact ⟨[.flt _ (flo _ n)], ⟨n, rfl, hc⟩, .one (.flt _ n)⟩
      · cases h
    · rename_i s hu
      rw [hu]
      split at h
      · rename_i hc
        exact ⟨[.str s], ⟨s, rfl, hc⟩, .one (.str s)⟩
      · cases h
    · rename_i hu; rw [hu] at hp; cases hp
    · rename_i hu; rw [hu] at hp; cases hp
    · rename_i e hu
      rw [hu]
      exact ⟨[.sl []], ⟨[], rfl, by simp, by simp⟩, .one (.slnil _ _ (by simp [maxLen]))⟩
    · rename_i e a len cap hu
      rw [hu] at hp ⊢
      simp only [Bool.and_eq_true, bne_iff_ne, ne_eq] at hp
      obtain ⟨hp1, hp2⟩ := hp
      split at h
      · rename_i hc
        obtain ⟨_, hlc, hcm⟩ := hc
        cases hm : (List.range len).mapM (fun i => (w.cells? 0 (a.add (i * P.cellsOf e)) (P.cellsOf e)).bind (DataW.trod enc P w 0 spare held fuel e)) with
        | none => dsimp only at h; rw [hm] at h; cases h
        | some elems =>
          have hel : ∀ i, i < len → ∃ ci xi, w.cells? 0 (a.add (i * P.cellsOf e)) (P.cellsOf e) = some ci ∧ Typ P k e xi ∧ Reads w ci xi := by
            intro i hi
            obtain ⟨y, h1, _⟩ := mapM_range_get hm i hi
            cases hcs : w.cells? 0 (a.add (i * P.cellsOf e)) (P.cellsOf e) with
            | none => rw [hcs] at h1; cases h1
            | some ci =>
              rw [hcs] at h1
              obtain ⟨xi, h2, h3⟩ := IH e ci y h1 hp1
              exact ⟨ci, xi, rfl, h2, h3⟩
          have hch : ∃ (cf : Nat → List Value) (xf : Nat → List C), ∀ i, i < len → w.cells? 0 (a.add (i * P.cellsOf e)) (P.cellsOf e) = some (cf i) ∧ Typ P k e (xf i) ∧ Reads w (cf i) (xf i) := by
            refine ⟨fun i => if h : i < len then (hel i h).choose else [], fun i => if h : i < len then (hel i h).choose_spec.choose else [], fun i hi => ?_⟩
            simp only [dif_pos hi]
            exact (hel i hi).choose_spec.choose_spec
          obtain ⟨cf, xf, hf⟩ := hch
          have hlen : ∀ i, i < len → (cf i).length = P.cellsOf e ∧ ∀ j, j < P.cellsOf e → w.cell? ((a.add (i * P.cellsOf e)).add j) = (cf i)[j]? := by
            intro i hi
            have h1 := (hf i hi).1
            unfold World.cells? at h1
            rw [if_pos (Nat.zero_le _)] at h1
            refine ⟨by have := mapM_len h1; simpa using this, fun j hj => ?_⟩
            obtain ⟨y, h2, h3⟩ := mapM_range_get h1 j hj
            rw [h2, h3]
          refine ⟨[.sl ((List.range len).map xf)], ⟨_, rfl, by simp; omega, fun x hx => ?_⟩, .one ?_⟩
          · obtain ⟨i, hi, rfl⟩ := List.mem_map.1 hx
            exact (hf i (by simpa using hi)).2.1
          · by_cases h0 : len = 0
            · subst h0; exact .slnil _ _ hcm
            · have h00 := (hlen 0 (by omega))
              have hpos : 0 < P.cellsOf e := by omega
              have hc0 := h00.2 0 hpos
              have hs : ∃ v, w.cell? a = some v := by
                have : (cf 0)[0]? = some ((cf 0)[0]'(by omega)) := List.getElem?_eq_getElem _
                rw [this] at hc0
                simp only [Nat.zero_mul, Addr.add, Nat.add_zero] at hc0
                exact ⟨_, hc0⟩
              obtain ⟨v0, hv0⟩ := hs
              have hspot : a.spot = none ∧ Cel w a.block := by
                unfold World.cell? at hv0
                split at hv0
                · rename_i c _ _ hb
                  split at hv0
                  · cases hv0
                  · rename_i hsp
                    exact ⟨by simpa using hsp, .of hb⟩
                · cases hv0
              obtain ⟨ab, ao, asp⟩ := a
              simp only at hspot
              obtain ⟨rfl, hb⟩ := hspot
              have he : len = ((List.range len).map xf).length := by simp
              have hget : ∀ (i : Nat) (x : List C), ((List.range len).map xf)[i]? = some x → i < len ∧ x = xf i := fun i x hx => by
                simp only [List.getElem?_map, Option.map_eq_some_iff] at hx
                obtain ⟨j, hj, rfl⟩ := hx
                have := List.getElem?_eq_some_iff.1 hj
                obtain ⟨h1, h2⟩ := this
                simp at h1 h2
                subst h2
                exact ⟨h1, rfl⟩
              conv => arg 3; rw [he]
              refine .sl ab ao cap (P.cellsOf e) _ (fun i j => (cf i).getD j .nilFunc) hb (by simpa using hlc) hcm (fun x hx => ?_) (fun i j x y hx hy => ?_) (fun i j x y hx hy => ?_)
              · obtain ⟨i, hi, rfl⟩ := List.mem_map.1 hx
                have hi : i < len := by simpa using hi
                rw [(hf i hi).2.2.1, (hlen i hi).1]
              · obtain ⟨hi, rfl⟩ := hget i x hx
                have hj : j < (cf i).length := by
                  rw [← (hf i hi).2.2.1]
                  exact (List.getElem?_eq_some_iff.1 hy).1
                have h1 := (hlen i hi).2 j (by rw [← (hlen i hi).1]; exact hj)
                rw [addr_add, addr_add] at h1
                rw [h1, List.getD_eq_getElem?_getD, List.getElem?_eq_getElem hj]
                rfl
              · obtain ⟨hi, rfl⟩ := hget i x hx
                have hj : j < (cf i).length := by
                  rw [← (hf i hi).2.2.1]
                  exact (List.getElem?_eq_some_iff.1 hy).1
                refine (hf i hi).2.2.2 j _ y ?_ hy
                rw [List.getD_eq_getElem?_getD, List.getElem?_eq_getElem hj]
                rfl
      · cases h
    · rename_i cs0 _ _ fs hu
      rw [hu] at hp ⊢
      split at h
      · rename_i hc
        simp only [beq_iff_eq] at hp
        rw [← hc] at hp
        cases hm : fs.toList.mapM (fun f => DataW.trod enc P w 0 spare held fuel f.type ((cs0.drop f.offset).take (P.cellsOf f.type))) with
        | none => rw [hm] at h; simp at h
        | some ys =>
          obtain ⟨xs, h1, h2⟩ := fields_conv IH fs.toList 0 ys hp hm
          exact ⟨xs, h1, by simpa using h2⟩
      · cases h
    · rename_i cs0 _ _ n e hu
      rw [hu] at hp ⊢
      simp only [Bool.and_eq_true, beq_iff_eq] at hp
      split at h
      · rename_i hc
        cases hm : (List.range n).mapM (fun i => DataW.trod enc P w 0 spare held fuel e ((cs0.drop (i * P.cellsOf e)).take (P.cellsOf e))) with
        | none => rw [hm] at h; simp at h
        | some ys =>
          obtain ⟨xs, h1, h2⟩ := array_conv (n := n) (sz := P.cellsOf e) (cs := cs0) IH hp.1 n 0 (by omega) (by rw [hp.2, hc]) (fun i hi => by
            obtain ⟨y, h3, _⟩ := mapM_range_get hm i hi
            exact ⟨y, h3⟩)
          exact ⟨xs, h1, by simpa using h2⟩
      · cases h
    all_goals (rename_i hu; first | (rw [hu] at hp; cases hp; done) | (cases h; done) | skip)

def one1 : List C → D
  | [x] => .c x
  | _ => .undef
def argD (P : Program) (t : TypeId) (xs : List C) : D := match P.underlying t with
  | some (.struct _) => .agg (xs.map .c)
  | some (.array _ _) => .agg (xs.map .c)
  | _ => one1 xs
theorem Reads.agg {cs : Array Value} {xs : List C} (h : Reads w cs.toList xs) : VRel (G0 (below w)) w (.agg cs) (.agg (xs.map .c)) := by
  refine .agg cs _ (by simpa using h.1.symm) fun i v d hv hd => ?_
  simp only [List.getElem?_map, Option.map_eq_some_iff] at hd
  obtain ⟨y, hy, rfl⟩ := hd
  exact .c _ _ (h.2 i v y (by simpa using hv) hy)
theorem arg_conv {r : Reach} {base k : Nat} {t : TypeId} {v : Value} {d : DataW H} {ps : List MemPlace} (hv : Value.okWide P w r base t v) (h : DataW.Trod enc P w 0 spare held t v d ps) (hp : plain P k t = true) :
    ∃ xs, Typ P k t xs ∧ VRel (G0 (below w)) w v (argD P t xs) := by
  obtain ⟨fuel, h⟩ := h
  obtain ⟨xs, h1, h2⟩ := trod_conv fuel k t _ _ h hp
  refine ⟨xs, h1, ?_⟩
  have one : ∀ (hc : v.cells = #[v]), VRel (G0 (below w)) w v (one1 xs) := by
    intro hc
    rw [hc] at h2
    match xs, h2 with
    | [], _ => exact .undef _
    | [x], h2 => exact .c _ _ (h2.2 0 v x rfl rfl)
    | _ :: _ :: _, _ => exact .undef _
  unfold argD
  unfold Value.okWide at hv
  split
  · rename_i fs hu
    rw [hu] at hv
    obtain ⟨cs, rfl, _⟩ := hv
    exact h2.agg
  · rename_i n e hu
    rw [hu] at hv
    obtain ⟨cs, rfl, _⟩ := hv
    exact h2.agg
  · rename_i hn1 hn2
    refine one ?_
    cases v <;> try rfl
    rename_i cs
    exfalso
    cases k with
    | zero => cases hp
    | succ k =>
      simp only [plain] at hp
      split at hv
      · rename_i fs hu; exact hn1 fs hu
      · rename_i n e hu; exact hn2 n e hu
      · unfold Cell.okWide at hv
        split at hp <;> rename_i hu <;> first | (rw [hu] at hv; simp [Cell.ok, hu] at hv; done) | (exact absurd hu (hn1 _)) | (exact absurd hu (hn2 _ _)) | cases hp
theorem below_of (w w' : World) (h : Ext w w') : RowKit.Below w.heap.size w w' := ⟨h.2.2.os, h.2.2.tape, h.2.2.out, h.1, h.2.1⟩
end
end Dm
namespace Dm
open Go Go.Proofs
set_option maxRecDepth 20000
theorem wf_u64 {n : Int} (h : (Lit.int .u64 n).wf = true) : 0 ≤ n ∧ n ≤ 18446744073709551615 := by
  simp [Lit.wf, IntKind.min, IntKind.max, IntKind.bits, IntKind.signed] at h
  omega
theorem wf_i64 {n : Int} (h : (Lit.int .i64 n).wf = true) : -9223372036854775808 ≤ n ∧ n ≤ 9223372036854775807 := by
  simp [Lit.wf, IntKind.min, IntKind.max, IntKind.bits, IntKind.signed] at h
  omega
theorem typ26 {k : Nat} {xs : List C} (h : Typ Tryz.prog (k + 1) 26 xs) : ∃ n : Nat, xs = [.int .u64 (n : Int)] ∧ n ≤ 18446744073709551615 := by
  simp only [Typ, Tryz.underlying26] at h
  obtain ⟨n, rfl, h1⟩ := h
  have := wf_u64 h1
  exact ⟨n.toNat, by rw [Int.toNat_of_nonneg (by omega)], by omega⟩
def Hd.rng (e : Hd) : Prop := e.id ≤ 18446744073709551615 ∧ e.n ≤ 18446744073709551615
theorem typ62 {k : Nat} {xs : List C} (h : Typ Tryz.prog (k + 2) 62 xs) : (Hd.dec xs).enc = xs ∧ (Hd.dec xs).rng := by
  simp only [Typ, Tryz.underlying62, TypFs, Tryz.underlying26] at h
  obtain ⟨_, _, rfl, ⟨s0, rfl, h0⟩, _, _, rfl, ⟨s1, rfl, h1⟩, rfl⟩ := h
  have q0 := wf_u64 h0
  have q1 := wf_u64 h1
  simp only [List.cons_append, List.nil_append, List.append_nil]
  refine ⟨by simp [Hd.dec, Hd.enc, Int.toNat_of_nonneg q0.1, Int.toNat_of_nonneg q1.1], ?_⟩
  simp only [Hd.dec, Hd.rng]
  exact ⟨by omega, by omega⟩
theorem hds_dhds {els : List (List C)} (h : ∀ x ∈ els, (Hd.dec x).enc = x) : hds (dhds els) = els := by
  simp only [hds, dhds, List.map_map]
  refine (List.map_congr_left fun x hx => ?_).trans (List.map_id _)
  exact h x hx
theorem typ48 {k : Nat} {xs : List C} (h : Typ Tryz.prog (k + 3) 48 xs) : ∃ l, xs = [.sl (hds l)] ∧ ∀ e ∈ l, e.rng := by
  simp only [Typ, Tryz.underlying48] at h
  obtain ⟨els, rfl, _, h2⟩ := h
  have h3 : ∀ x ∈ els, (Hd.dec x).enc = x ∧ (Hd.dec x).rng := fun x hx => typ62 (k := k) (h2 x hx)
  refine ⟨dhds els, by rw [hds_dhds fun x hx => (h3 x hx).1], fun e he => ?_⟩
  obtain ⟨x, hx, rfl⟩ := List.mem_map.1 he
  exact (h3 x hx).2
def Ch.rng (e : Ch) : Prop := e.id ≤ 18446744073709551615 ∧ e.loc ≤ 18446744073709551615 ∧ e.rem ≤ 18446744073709551615 ∧ e.res ≤ 18446744073709551615 ∧ e.most ≤ 18446744073709551615 ∧ (∀ q ∈ e.holds, q.rng) ∧ True
theorem typ50 {k : Nat} {xs : List C} (h : Typ Tryz.prog (k + 4) 50 xs) : (Ch.dec xs).enc = xs ∧ (Ch.dec xs).rng := by
  simp only [Typ, Tryz.underlying50, TypFs, Tryz.underlying4, Tryz.underlying26] at h
  obtain ⟨_, _, rfl, ⟨s0, rfl, h0⟩, _, _, rfl, ⟨s1, rfl, h1⟩, _, _, rfl, ⟨s2, rfl, h2⟩, _, _, rfl, ⟨s3, rfl, h3⟩, _, _, rfl, ⟨s4, rfl, h4⟩, _, _, rfl, hs5, _, _, rfl, ⟨s6, rfl⟩, rfl⟩ := h
  have q0 := wf_u64 h0
  have q1 := wf_u64 h1
  have q2 := wf_u64 h2
  have q3 := wf_u64 h3
  have q4 := wf_u64 h4
  obtain ⟨s5, rfl, q5⟩ := typ48 (k := k + 0) hs5
  simp only [List.cons_append, List.nil_append, List.append_nil]
  refine ⟨by simp [Ch.dec, Ch.enc, Int.toNat_of_nonneg q0.1, Int.toNat_of_nonneg q1.1, Int.toNat_of_nonneg q2.1, Int.toNat_of_nonneg q3.1, Int.toNat_of_nonneg q4.1, dhds_hds], ?_⟩
  simp only [Ch.dec, Ch.rng, dhds_hds]
  exact ⟨by omega, by omega, by omega, by omega, by omega, q5, trivial⟩
theorem chs_dchs {els : List (List C)} (h : ∀ x ∈ els, (Ch.dec x).enc = x) : chs (dchs els) = els := by
  simp only [chs, dchs, List.map_map]
  refine (List.map_congr_left fun x hx => ?_).trans (List.map_id _)
  exact h x hx
theorem typ22 {k : Nat} {xs : List C} (h : Typ Tryz.prog (k + 5) 22 xs) : ∃ l, xs = [.sl (chs l)] ∧ ∀ e ∈ l, e.rng := by
  simp only [Typ, Tryz.underlying22] at h
  obtain ⟨els, rfl, _, h2⟩ := h
  have h3 : ∀ x ∈ els, (Ch.dec x).enc = x ∧ (Ch.dec x).rng := fun x hx => typ50 (k := k) (h2 x hx)
  refine ⟨dchs els, by rw [chs_dchs fun x hx => (h3 x hx).1], fun e he => ?_⟩
  obtain ⟨x, hx, rfl⟩ := List.mem_map.1 he
  exact (h3 x hx).2
def Wt.rng (e : Wt) : Prop := e.id ≤ 18446744073709551615 ∧ True
theorem typ72 {k : Nat} {xs : List C} (h : Typ Tryz.prog (k + 2) 72 xs) : (Wt.dec xs).enc = xs ∧ (Wt.dec xs).rng := by
  simp only [Typ, Tryz.underlying72, TypFs, Tryz.underlying26, Tryz.underlying70] at h
  obtain ⟨_, _, rfl, ⟨s0, rfl, h0⟩, _, _, rfl, ⟨s1, rfl, h1⟩, rfl⟩ := h
  have q0 := wf_u64 h0
  simp only [List.cons_append, List.nil_append, List.append_nil]
  refine ⟨by simp [Wt.dec, Wt.enc, Int.toNat_of_nonneg q0.1], ?_⟩
  simp only [Wt.dec, Wt.rng]
  exact ⟨by omega, trivial⟩
theorem wts_dwts {els : List (List C)} (h : ∀ x ∈ els, (Wt.dec x).enc = x) : wts (dwts els) = els := by
  simp only [wts, dwts, List.map_map]
  refine (List.map_congr_left fun x hx => ?_).trans (List.map_id _)
  exact h x hx
theorem typ23 {k : Nat} {xs : List C} (h : Typ Tryz.prog (k + 3) 23 xs) : ∃ l, xs = [.sl (wts l)] ∧ ∀ e ∈ l, e.rng := by
  simp only [Typ, Tryz.underlying23] at h
  obtain ⟨els, rfl, _, h2⟩ := h
  have h3 : ∀ x ∈ els, (Wt.dec x).enc = x ∧ (Wt.dec x).rng := fun x hx => typ72 (k := k) (h2 x hx)
  refine ⟨dwts els, by rw [wts_dwts fun x hx => (h3 x hx).1], fun e he => ?_⟩
  obtain ⟨x, hx, rfl⟩ := List.mem_map.1 he
  exact (h3 x hx).2
def Iv.rng (e : Iv) : Prop := e.hash ≤ 18446744073709551615 ∧ e.n ≤ 18446744073709551615 ∧ e.till ≤ 18446744073709551615 ∧ (-9223372036854775808 ≤ e.state ∧ e.state ≤ 9223372036854775807)
theorem typ64 {k : Nat} {xs : List C} (h : Typ Tryz.prog (k + 2) 64 xs) : (Iv.dec xs).enc = xs ∧ (Iv.dec xs).rng := by
  simp only [Typ, Tryz.underlying64, TypFs, Tryz.underlying3, Tryz.underlying26] at h
  obtain ⟨_, _, rfl, ⟨s0, rfl, h0⟩, _, _, rfl, ⟨s1, rfl, h1⟩, _, _, rfl, ⟨s2, rfl, h2⟩, _, _, rfl, ⟨s3, rfl, h3⟩, rfl⟩ := h
  have q0 := wf_u64 h0
  have q1 := wf_u64 h1
  have q2 := wf_u64 h2
  have q3 := wf_i64 h3
  simp only [List.cons_append, List.nil_append, List.append_nil]
  refine ⟨by simp [Iv.dec, Iv.enc, Int.toNat_of_nonneg q0.1, Int.toNat_of_nonneg q1.1, Int.toNat_of_nonneg q2.1], ?_⟩
  simp only [Iv.dec, Iv.rng]
  exact ⟨by omega, by omega, by omega, ⟨by omega, by omega⟩⟩
theorem ivs_divs {els : List (List C)} (h : ∀ x ∈ els, (Iv.dec x).enc = x) : ivs (divs els) = els := by
  simp only [ivs, divs, List.map_map]
  refine (List.map_congr_left fun x hx => ?_).trans (List.map_id _)
  exact h x hx
theorem typ24 {k : Nat} {xs : List C} (h : Typ Tryz.prog (k + 3) 24 xs) : ∃ l, xs = [.sl (ivs l)] ∧ ∀ e ∈ l, e.rng := by
  simp only [Typ, Tryz.underlying24] at h
  obtain ⟨els, rfl, _, h2⟩ := h
  have h3 : ∀ x ∈ els, (Iv.dec x).enc = x ∧ (Iv.dec x).rng := fun x hx => typ64 (k := k) (h2 x hx)
  refine ⟨divs els, by rw [ivs_divs fun x hx => (h3 x hx).1], fun e he => ?_⟩
  obtain ⟨x, hx, rfl⟩ := List.mem_map.1 he
  exact (h3 x hx).2
def Py.rng (e : Py) : Prop := e.id ≤ 18446744073709551615 ∧ e.hash ≤ 18446744073709551615 ∧ e.chan ≤ 18446744073709551615 ∧ e.n ≤ 18446744073709551615 ∧ (-9223372036854775808 ≤ e.state ∧ e.state ≤ 9223372036854775807)
theorem typ45 {k : Nat} {xs : List C} (h : Typ Tryz.prog (k + 2) 45 xs) : (Py.dec xs).enc = xs ∧ (Py.dec xs).rng := by
  simp only [Typ, Tryz.underlying45, TypFs, Tryz.underlying3, Tryz.underlying26] at h
  obtain ⟨_, _, rfl, ⟨s0, rfl, h0⟩, _, _, rfl, ⟨s1, rfl, h1⟩, _, _, rfl, ⟨s2, rfl, h2⟩, _, _, rfl, ⟨s3, rfl, h3⟩, _, _, rfl, ⟨s4, rfl, h4⟩, rfl⟩ := h
  have q0 := wf_u64 h0
  have q1 := wf_u64 h1
  have q2 := wf_u64 h2
  have q3 := wf_u64 h3
  have q4 := wf_i64 h4
  simp only [List.cons_append, List.nil_append, List.append_nil]
  refine ⟨by simp [Py.dec, Py.enc, Int.toNat_of_nonneg q0.1, Int.toNat_of_nonneg q1.1, Int.toNat_of_nonneg q2.1, Int.toNat_of_nonneg q3.1], ?_⟩
  simp only [Py.dec, Py.rng]
  exact ⟨by omega, by omega, by omega, by omega, ⟨by omega, by omega⟩⟩
theorem pys_dpys {els : List (List C)} (h : ∀ x ∈ els, (Py.dec x).enc = x) : pys (dpys els) = els := by
  simp only [pys, dpys, List.map_map]
  refine (List.map_congr_left fun x hx => ?_).trans (List.map_id _)
  exact h x hx
theorem typ25 {k : Nat} {xs : List C} (h : Typ Tryz.prog (k + 3) 25 xs) : ∃ l, xs = [.sl (pys l)] ∧ ∀ e ∈ l, e.rng := by
  simp only [Typ, Tryz.underlying25] at h
  obtain ⟨els, rfl, _, h2⟩ := h
  have h3 : ∀ x ∈ els, (Py.dec x).enc = x ∧ (Py.dec x).rng := fun x hx => typ45 (k := k) (h2 x hx)
  refine ⟨dpys els, by rw [pys_dpys fun x hx => (h3 x hx).1], fun e he => ?_⟩
  obtain ⟨x, hx, rfl⟩ := List.mem_map.1 he
  exact (h3 x hx).2
def Ev.rng (e : Ev) : Prop := e.seq ≤ 18446744073709551615 ∧ (-9223372036854775808 ≤ e.kind ∧ e.kind ≤ 9223372036854775807) ∧ e.a ≤ 18446744073709551615 ∧ e.n ≤ 18446744073709551615
theorem typ74 {k : Nat} {xs : List C} (h : Typ Tryz.prog (k + 2) 74 xs) : (Ev.dec xs).enc = xs ∧ (Ev.dec xs).rng := by
  simp only [Typ, Tryz.underlying74, TypFs, Tryz.underlying3, Tryz.underlying26] at h
  obtain ⟨_, _, rfl, ⟨s0, rfl, h0⟩, _, _, rfl, ⟨s1, rfl, h1⟩, _, _, rfl, ⟨s2, rfl, h2⟩, _, _, rfl, ⟨s3, rfl, h3⟩, rfl⟩ := h
  have q0 := wf_u64 h0
  have q1 := wf_i64 h1
  have q2 := wf_u64 h2
  have q3 := wf_u64 h3
  simp only [List.cons_append, List.nil_append, List.append_nil]
  refine ⟨by simp [Ev.dec, Ev.enc, Int.toNat_of_nonneg q0.1, Int.toNat_of_nonneg q2.1, Int.toNat_of_nonneg q3.1], ?_⟩
  simp only [Ev.dec, Ev.rng]
  exact ⟨by omega, ⟨by omega, by omega⟩, by omega, by omega⟩
theorem evs_devs {els : List (List C)} (h : ∀ x ∈ els, (Ev.dec x).enc = x) : evs (devs els) = els := by
  simp only [evs, devs, List.map_map]
  refine (List.map_congr_left fun x hx => ?_).trans (List.map_id _)
  exact h x hx
theorem typ27 {k : Nat} {xs : List C} (h : Typ Tryz.prog (k + 3) 27 xs) : ∃ l, xs = [.sl (evs l)] ∧ ∀ e ∈ l, e.rng := by
  simp only [Typ, Tryz.underlying27] at h
  obtain ⟨els, rfl, _, h2⟩ := h
  have h3 : ∀ x ∈ els, (Ev.dec x).enc = x ∧ (Ev.dec x).rng := fun x hx => typ74 (k := k) (h2 x hx)
  refine ⟨devs els, by rw [evs_devs fun x hx => (h3 x hx).1], fun e he => ?_⟩
  obtain ⟨x, hx, rfl⟩ := List.mem_map.1 he
  exact (h3 x hx).2
def Fd.rng (e : Fd) : Prop := e.next ≤ 18446744073709551615 ∧ (∀ q ∈ e.l, q.rng)
theorem typ29 {k : Nat} {xs : List C} (h : Typ Tryz.prog (k + 4) 29 xs) : (Fd.dec xs).enc = xs ∧ (Fd.dec xs).rng := by
  simp only [Typ, Tryz.underlying29, TypFs, Tryz.underlying26] at h
  obtain ⟨_, _, rfl, ⟨s0, rfl, h0⟩, _, _, rfl, hs1, rfl⟩ := h
  have q0 := wf_u64 h0
  obtain ⟨s1, rfl, q1⟩ := typ27 (k := k + 0) hs1
  simp only [List.cons_append, List.nil_append, List.append_nil]
  refine ⟨by simp [Fd.dec, Fd.enc, Int.toNat_of_nonneg q0.1, devs_evs], ?_⟩
  simp only [Fd.dec, Fd.rng, devs_evs]
  exact ⟨by omega, q1⟩
def Wl.rng (w : Wl) : Prop := (∀ e ∈ w.c, e.rng) ∧ (∀ e ∈ w.w, e.rng) ∧ (∀ e ∈ w.i, e.rng) ∧ (∀ e ∈ w.p, e.rng) ∧ w.f.rng ∧ w.next ≤ 18446744073709551615 ∧ w.tick ≤ 18446744073709551615
theorem typ31x {k : Nat} {xs : List C} (h : Typ Tryz.prog (k + 6) 31 xs) : ∃ w : Wl, xs = w.enc ∧ w.rng := by
  rw [show k + 6 = (k + 5) + 1 from rfl, Typ, Tryz.underlying31] at h
  simp only [TypFs] at h
  obtain ⟨_, _, rfl, h0, _, _, rfl, h1, _, _, rfl, h2, _, _, rfl, h3, _, _, rfl, h4, _, _, rfl, h5, _, _, rfl, h6, rfl⟩ := h
  obtain ⟨c, rfl, q0⟩ := typ22 (k := k) h0
  obtain ⟨w, rfl, q1⟩ := typ23 (k := k + 2) h1
  obtain ⟨i, rfl, q2⟩ := typ24 (k := k + 2) h2
  obtain ⟨p, rfl, q3⟩ := typ25 (k := k + 2) h3
  obtain ⟨e4, q4⟩ := typ29 (k := k + 1) h4
  obtain ⟨n, rfl, q5⟩ := typ26 (k := k + 4) h5
  obtain ⟨t, rfl, q6⟩ := typ26 (k := k + 4) h6
  refine ⟨⟨c, w, i, p, Fd.dec _, n, t⟩, ?_, q0, q1, q2, q3, q4, q5, q6⟩
  rw [← e4]
  simp [Wl.enc, Fd.enc, Fd.dec, devs_evs]
end Dm
namespace Dm
open Go Go.Proofs Go.IntWalk
def cpuE (c : Ch) (n : Nat) : Int := if ¬ okCh c ∨ ¬ n ≤ MM then 1 else if c.op = false then 14 else if c.rem < n then 9 else 0
def cpuC (c : Ch) (n : Nat) : Ch × Int := if cpuE c n = 0 then (⟨c.id, c.loc + n, c.rem - n, c.res, c.most, c.holds, c.op⟩, 0) else (default, cpuE c n)
theorem cpuC_2 {c : Ch} {n : Nat} : (cpuC c n).2 = cpuE c n := by
  unfold cpuC
  split
  · rename_i h; exact h.symm
  · rfl
@[go_sem] def cpush_r (c : Ch) (n : Nat) : D := .tup [.agg [.int .u64 (cpuC c n).1.id, .int .u64 (cpuC c n).1.loc, .int .u64 (cpuC c n).1.rem, .int .u64 (cpuC c n).1.res, .int .u64 (cpuC c n).1.most, .sl (hds (cpuC c n).1.holds), .bool (cpuC c n).1.op], .int .i64 (cpuC c n).2]
@[go_sem] abbrev n_cpush : FuncId := 178
@[go_sem] def cpush_T : Tab := [(183, sp_ccheck), (49, sp_moncheck), (207, sp_monsub), (153, sp_hclone)]
theorem cpush_T_ok : TabOk Tryz.prog cpush_T := (TabOk.cons sp_ccheck_ok (TabOk.cons sp_moncheck_ok (TabOk.cons sp_monsub_ok (TabOk.cons sp_hclone_ok TabOk.nil))))
set_option maxRecDepth 8000 in
set_option maxHeartbeats 1000000 in
theorem cpush_ok (c : Ch) (n : Nat)  : PureFn Tryz.prog 178 [.agg [.c (.int .u64 (c.id : Int)), .c (.int .u64 (c.loc : Int)), .c (.int .u64 (c.rem : Int)), .c (.int .u64 (c.res : Int)), .c (.int .u64 (c.most : Int)), .sl (hds c.holds), .c (.bool c.op)], .c (.int .u64 (n : Int))] (cpush_r c n) := by
  refine .of (ac178 cpush_T_ok (Nat.le_of_ble_eq_true rfl) ?_)
  simp -implicitDefEqProofs only [cdA, go_sem, Go.Proofs.Tryz.f178, reduceIte, reduceCtorEq, Nat.reduceEqDiff, Nat.reduceAdd, Nat.reduceLeDiff, Nat.reduceSub, Nat.reduceMul, Nat.reduceLT, Nat.reduceShiftRight, Nat.reduceMod, Int.reduceLE, Int.reduceLT, Int.reduceToNat, cdB, List.cons.injEq, true_and, and_true]
  have hc0 : chkC c = 0 ↔ okCh c := by unfold chkC; split <;> rename_i h <;> simp only [h] <;> decide
  have hm : monS [n] = 0 ↔ n ≤ MM := mon1_0
  have hbad : ∀ k, cpuE c n = k → ¬ k = 0 → (0 = ((cpuC c n).1.id : Int) ∧ 0 = ((cpuC c n).1.loc : Int) ∧ 0 = ((cpuC c n).1.rem : Int) ∧ 0 = ((cpuC c n).1.res : Int) ∧ 0 = ((cpuC c n).1.most : Int) ∧ hds (cpuC c n).1.holds = [] ∧ false = (cpuC c n).1.op) ∧ k = (cpuC c n).2 := fun k hk h0 => by
    have : cpuC c n = (default, k) := by rw [cpuC, if_neg (by rw [hk]; exact h0), hk]
    rw [this]; exact ⟨⟨rfl, rfl, rfl, rfl, rfl, rfl, rfl⟩, rfl⟩
  refine ⟨fun h1 => ⟨fun h2 => ?_, fun h2 => hbad 1 (by rw [cpuE, if_pos (.inr fun h => h2 (hm.2 h))]) (by decide)⟩, fun h1 => hbad 1 (by rw [cpuE, if_pos (.inl fun h => h1 (hc0.2 h))]) (by decide)⟩
  have hok := hc0.1 h1
  have hn := hm.1 h2
  have hr : c.rem ≤ MM := hok.2.2.2.2.2.2.2.2.1
  have hl : c.loc ≤ MM := hok.2.2.2.2.2.2.2.1
  have hA : ¬ (¬ okCh c ∨ ¬ n ≤ MM) := by rintro (h | h) <;> first | exact h hok | exact h hn
  unfold MM at hn hr hl
  rw [subM, if_pos ⟨hr, hn⟩]
  refine ⟨fun h3 => ?_, fun h3 => hbad 14 (by rw [cpuE, if_neg hA, if_pos h3]) (by decide)⟩
  have h3' : ¬ c.op = false := by rw [h3]; decide
  by_cases h4 : n ≤ c.rem
  · have e : cpuE c n = 0 := by rw [cpuE, if_neg hA, if_neg h3', if_neg (by omega)]
    rw [if_pos h4, cpuC, if_pos e]
    refine ⟨fun _ => ⟨by have := hok.2.2.1; omega, ⟨rfl, by rw [u64_in _ (by omega)]; dsimp only; omega, rfl, rfl, rfl, rfl, rfl⟩, rfl⟩, fun h => absurd rfl h⟩
  · rw [if_neg h4]
    exact ⟨fun h => absurd (show (9 : Int) = 0 from h) (by decide), fun _ => hbad 9 (by rw [cpuE, if_neg hA, if_neg h3', if_pos (by omega)]) (by decide)⟩
def sp_cpush : List D → Option (Prop × D × Fr)
  | [.agg [.c (.int .u64 z2), .c (.int .u64 z3), .c (.int .u64 z4), .c (.int .u64 z5), .c (.int .u64 z6), .c (.sl z7), .c (.bool z8)], .c (.int .u64 z9)] => some (z2 = (z2.toNat : Int) ∧ z3 = (z3.toNat : Int) ∧ z4 = (z4.toNat : Int) ∧ z5 = (z5.toNat : Int) ∧ z6 = (z6.toNat : Int) ∧ z7 = hds (dhds z7) ∧ z9 = (z9.toNat : Int), cpush_r (⟨z2.toNat, z3.toNat, z4.toNat, z5.toNat, z6.toNat, (dhds z7), z8⟩ : Ch) z9.toNat, [])
  | _ => none
attribute [go_sem] sp_cpush
theorem sp_cpush_ok : ∀ rs p r fr, sp_cpush rs = some (p, r, fr) → p → FnOk Tryz.prog 178 rs r fr := by
  intro rs p r fr h hp
  unfold sp_cpush at h
  split at h <;> cases h
  obtain ⟨hc0, hc1, hc2, hc3, hc4, hc5, hc6⟩ := hp
  rename_i z2 z3 z4 z5 z6 z7 z8 z9
  obtain ⟨z2, rfl⟩ : ∃ m : Nat, z2 = m := ⟨_, hc0⟩
  obtain ⟨z3, rfl⟩ : ∃ m : Nat, z3 = m := ⟨_, hc1⟩
  obtain ⟨z4, rfl⟩ : ∃ m : Nat, z4 = m := ⟨_, hc2⟩
  obtain ⟨z5, rfl⟩ : ∃ m : Nat, z5 = m := ⟨_, hc3⟩
  obtain ⟨z6, rfl⟩ : ∃ m : Nat, z6 = m := ⟨_, hc4⟩
  obtain ⟨z7, rfl⟩ : ∃ m, z7 = hds m := ⟨_, hc5⟩
  obtain ⟨z9, rfl⟩ : ∃ m : Nat, z9 = m := ⟨_, hc6⟩
  simp only [Int.toNat_natCast, dhds_hds]
  exact cpush_ok ⟨z2, z3, z4, z5, z6, z7, z8⟩ z9
def lpuL (l : List Ch) (id n : Nat) : List Ch × Int :=
  if okLd l then (if Srt.thr Ch.id ltN l id = true then (if cpuE (l.getD (Srt.pos Ch.id ltN l id) default) n = 0 then (l.set (Srt.pos Ch.id ltN l id) (cpuC (l.getD (Srt.pos Ch.id ltN l id) default) n).1, 0) else ([], cpuE (l.getD (Srt.pos Ch.id ltN l id) default) n)) else ([], 5)) else ([], 1)
@[go_sem] def lpush_r (l : List Ch) (id : Nat) (n : Nat) : D := .tup [.sl (chs (lpuL l id n).1), .int .i64 (lpuL l id n).2]
@[go_sem] abbrev n_lpush : FuncId := 85
@[go_sem] def lpush_T : Tab := [(63, sp_place), (178, sp_cpush), (185, sp_owns)]
theorem lpush_T_ok : TabOk Tryz.prog lpush_T := (TabOk.cons sp_place_ok (TabOk.cons sp_cpush_ok (TabOk.cons sp_owns_ok TabOk.nil)))
set_option maxRecDepth 8000 in
set_option maxHeartbeats 1000000 in
theorem lpush_ok (l : List Ch) (id : Nat) (n : Nat)  : PureFn Tryz.prog 85 [.sl (chs l), .c (.int .u64 (id : Int)), .c (.int .u64 (n : Int))] (lpush_r l id n) := by
  refine .of (ac85 lpush_T_ok (Nat.le_of_ble_eq_true rfl) ?_)
  simp -implicitDefEqProofs only [cdA, go_sem, Go.Proofs.Tryz.f85, reduceIte, reduceCtorEq, Nat.reduceEqDiff, Nat.reduceAdd, Nat.reduceLeDiff, Nat.reduceSub, Nat.reduceMul, Nat.reduceLT, Nat.reduceShiftRight, Nat.reduceMod, Int.reduceLE, Int.reduceLT, Int.reduceToNat, cdB, List.cons.injEq, true_and, and_true]
  refine ac137 lpush_T_ok (Nat.le_of_ble_eq_true rfl) ?_
  simp -implicitDefEqProofs only [cdA, go_sem, Go.Proofs.Tryz.f137, reduceIte, reduceCtorEq, Nat.reduceEqDiff, Nat.reduceAdd, Nat.reduceLeDiff, Nat.reduceSub, Nat.reduceMul, Nat.reduceLT, Nat.reduceShiftRight, Nat.reduceMod, Int.reduceLE, Int.reduceLT, Int.reduceToNat, cdB, List.cons.injEq, true_and, and_true]
  by_cases hok : okLd l
  · by_cases ht : Srt.thr Ch.id ltN l id = true
    · have e1 : placeL l id = (((Srt.pos Ch.id ltN l id : Nat) : Int), 0) := by rw [placeL, if_pos hok, if_pos ht]
      have hp : Srt.pos Ch.id ltN l id < l.length := by
        unfold Srt.thr at ht
        exact (of_decide_eq_true ht).1
      rw [e1, Int.toNat_natCast, lpuL, if_pos hok, if_pos ht]
      refine ⟨fun _ => ⟨⟨by omega, by omega⟩, ?_⟩, fun h => absurd rfl h⟩
      refine ac177 lpush_T_ok (Nat.le_of_ble_eq_true rfl) ?_
      simp -implicitDefEqProofs only [cdA, go_sem, Go.Proofs.Tryz.f177, reduceIte, reduceCtorEq, Nat.reduceEqDiff, Nat.reduceAdd, Nat.reduceLeDiff, Nat.reduceSub, Nat.reduceMul, Nat.reduceLT, Nat.reduceShiftRight, Nat.reduceMod, Int.reduceLE, Int.reduceLT, Int.reduceToNat, cdB, List.cons.injEq, true_and, and_true]
      have h32 : l.length ≤ 1000000 ∧ ∀ c ∈ l, c.holds.length ≤ 1000000 := ⟨by have := hok.1; omega, fun c hc => by have := (hok.2.1 c hc).2.2.1; omega⟩
      rw [cpuC_2]
      refine ⟨fun h0 => ?_, fun h0 => ?_⟩
      · rw [if_pos h0]
        exact ⟨h32, by omega, hp, ⟨by simp, _, _, _, rfl⟩, rfl⟩
      · rw [if_neg h0]
        exact ⟨rfl, rfl⟩
    · have e1 : placeL l id = (0, 5) := by rw [placeL, if_pos hok, if_neg ht]
      have e2 : lpuL l id n = ([], 5) := by rw [lpuL, if_pos hok, if_neg ht]
      rw [e1, e2]
      exact ⟨fun h => absurd h (by decide), fun _ => ⟨rfl, rfl⟩⟩
  · have e1 : placeL l id = (0, 1) := by rw [placeL, if_neg hok]
    have e2 : lpuL l id n = ([], 1) := by rw [lpuL, if_neg hok]
    rw [e1, e2]
    exact ⟨fun h => absurd h (by decide), fun _ => ⟨rfl, rfl⟩⟩
def sp_lpush : List D → Option (Prop × D × Fr)
  | [.c (.sl z18), .c (.int .u64 z19), .c (.int .u64 z20)] => some (z18 = chs (dchs z18) ∧ z19 = (z19.toNat : Int) ∧ z20 = (z20.toNat : Int), lpush_r (dchs z18) z19.toNat z20.toNat, [])
  | _ => none
attribute [go_sem] sp_lpush
theorem sp_lpush_ok : ∀ rs p r fr, sp_lpush rs = some (p, r, fr) → p → FnOk Tryz.prog 85 rs r fr := by
  intro rs p r fr h hp
  unfold sp_lpush at h
  split at h <;> cases h
  obtain ⟨hc0, hc1, hc2⟩ := hp
  rename_i z18 z19 z20
  obtain ⟨z18, rfl⟩ : ∃ m, z18 = chs m := ⟨_, hc0⟩
  obtain ⟨z19, rfl⟩ : ∃ m : Nat, z19 = m := ⟨_, hc1⟩
  obtain ⟨z20, rfl⟩ : ∃ m : Nat, z20 = m := ⟨_, hc2⟩
  simp only [Int.toNat_natCast, dchs_chs]
  exact lpush_ok z18 z19 z20
end Dm
namespace Dm
open Go
section
variable {P : Program} {n N : Nat}
theorem lk_opn {id k c sz t : Nat} : ∀ {tm : List (Nat × D)}, lk t (tm.map fun x => (x.1, opnD id k c sz x.2)) = (lk t tm).map (opnD id k c sz)
  | [] => rfl
  | (u, d) :: tm => by
    rw [List.map_cons, lk_cons, lk_cons]
    split
    · rfl
    · exact lk_opn
theorem SWm.opn {code : Code} {Q : Exit → St → Prop} {s : St} (id : Nat) {hd : Bool} {sz : Nat} {e : TypeId} {els : List (List C)} (ho : lk id s.os = some (.vec hd sz e els))
    (h : ∀ c, els.length ≤ c → c ≤ 9223372036854775807 → SWm P n N code Q ⟨s.tm.map fun x => (x.1, opnD id els.length c sz x.2), upd id (.vec hd sz e (fit c sz els)) s.os, s.nx⟩) : SWm P n N code Q s := fun δ g a w hr hn => by
  obtain ⟨c, g', h1, h2, h3, h4, h5⟩ := opn_rel (nx := s.nx) hr.o.tm ho
  have hr' : Rel δ g' ⟨s.tm.map fun x => (x.1, opnD id els.length c sz x.2), upd id (.vec hd sz e (fit c sz els)) s.os, s.nx⟩ a w := by
    refine ⟨fun t d ht => ?_, hr.defers, h3.tm⟩
    rw [lk_opn, Option.map_eq_some_iff] at ht
    obtain ⟨d0, hd0, rfl⟩ := ht
    obtain ⟨v, hv1, hv2⟩ := hr.tm t d0 hd0
    exact ⟨v, hv1, h5 v d0 hv2⟩
  have h4' : StepN N g s w g' ⟨s.tm.map fun x => (x.1, opnD id els.length c sz x.2), upd id (.vec hd sz e (fit c sz els)) s.os, s.nx⟩ w := (h4.toN (N := N)).tm
  refine wp_mono (h c h1 h2 δ g' a w hr' hn) fun e a' w' ⟨Ds, g2, s', q1, q2, q3, q4, q5, q6⟩ => ⟨Ds, g2, s', q1, q2, q3, q4, q5, h4'.trans q6⟩
end
end Dm
namespace Dm
open Go Go.Proofs Go.IntWalk
def findI (l : List Iv) (id : Nat) : Int × Int := if okIv l then ((Srt.pos Iv.hash ltN l id : Nat), if Srt.thr Iv.hash ltN l id = true then 0 else 5) else (0, 1)
@[go_sem] def ifind_r (l : List Iv) (id : Nat) : D := .tup [.int .i64 (findI l id).1, .int .i64 (findI l id).2]
@[go_sem] abbrev n_ifind : FuncId := 169
@[go_sem] def ifind_T : Tab := [(103, sp_icheck), (195, sp_iorder)]
theorem ifind_T_ok : TabOk Tryz.prog ifind_T := (TabOk.cons sp_icheck_ok (TabOk.cons sp_iorder_ok TabOk.nil))
set_option maxRecDepth 8000 in
set_option maxHeartbeats 1000000 in
theorem ifind_ok (l : List Iv) (id : Nat)  : PureFn Tryz.prog 169 [.sl (ivs l), .c (.int .u64 (id : Int))] (ifind_r l id) := by
  refine .of (ac169 ifind_T_ok (Nat.le_of_ble_eq_true rfl) ?_)
  simp -implicitDefEqProofs only [cdA, go_sem, Go.Proofs.Tryz.f169, reduceIte, reduceCtorEq, Nat.reduceEqDiff, Nat.reduceAdd, Nat.reduceLeDiff, Nat.reduceSub, Nat.reduceMul, Nat.reduceLT, Nat.reduceShiftRight, Nat.reduceMod, Int.reduceLE, Int.reduceLT, Int.reduceToNat, cdB, List.cons.injEq, true_and, and_true]
  have hcz : chkI l = 0 ↔ okIv l := by unfold chkI; split <;> simp_all
  refine ⟨fun hok0 => ?_, fun hno0 => by
    have hno : ¬ okIv l := fun h => hno0 (hcz.2 h)
    rw [findI, chkI, if_neg hno, if_neg hno]; exact ⟨rfl, rfl⟩⟩
  have hok := hcz.1 hok0
  have hu : Srt.Up Iv.hash ltN l := (Srt.chn_up (lt := ltN) Srt.totNat).1 hok.2.2
  have hl32 := hok.1
  refine ac229 ifind_T_ok (Nat.le_of_ble_eq_true rfl) ?_
  simp -implicitDefEqProofs only [cdA, go_sem, Go.Proofs.Tryz.f229, reduceIte, reduceCtorEq, Nat.reduceEqDiff, Nat.reduceAdd, Nat.reduceLeDiff, Nat.reduceSub, Nat.reduceMul, Nat.reduceLT, Nat.reduceShiftRight, Nat.reduceMod, Int.reduceLE, Int.reduceLT, Int.reduceToNat, cdB, List.cons.injEq, true_and, and_true]
  refine fun _ => SWp.loop (ι := { x : Nat × Nat // x.1 ≤ x.2 ∧ x.2 ≤ l.length ∧ (∀ k, k < x.1 → (l.getD k default).hash < id) ∧ ∀ k, x.2 ≤ k → k < l.length → ¬ (l.getD k default).hash < id }) (fun x => ⟨[(0, .sl (ivs l)), (1, .int .u64 id), (2, .fn (.func 195) [] []), (8, .int .i64 l.length), (9, .int .i64 x.1.1), (10, .int .i64 x.1.2)], [], 0⟩) (fun x => x.1.2 - x.1.1) ⟨(0, l.length), by simp, by simp, fun k hk => absurd hk (by simp), fun k h1 h2 => absurd h1 (by simpa using h2)⟩ ?_ ?_
  · simp [go_sem]
  · rintro ⟨⟨i, j⟩, hij, hj, hlo, hup⟩
    dsimp only at hij hj hlo hup
    refine awp_sound ifind_T_ok.toS lv229 _ _ _ rfl ?_
    simp -implicitDefEqProofs only [cdA, go_sem, reduceIte, reduceCtorEq, Nat.reduceEqDiff, Nat.reduceAdd, Nat.reduceLeDiff, Nat.reduceSub, Nat.reduceMul, Nat.reduceLT, Nat.reduceShiftRight, Nat.reduceMod, Int.reduceLE, Int.reduceLT, Int.reduceToNat, cdB, List.cons.injEq, true_and, and_true]
    rw [mid_eq hij hj ‹_›]
    refine ⟨fun h4 => ?_, fun h4 => ?_⟩
    · have hm : (i + j) / 2 < l.length := by omega
      rw [cmpS_neg, Int.toNat_natCast]
      refine ⟨by omega, fun h5 => ⟨⟨((i + j) / 2 + 1, j), by dsimp only; omega, hj, fun k hk => ?_, hup⟩, by dsimp only; omega, i64_in _ (by omega), rfl⟩, fun h5 => ⟨⟨(i, (i + j) / 2), by dsimp only; omega, by dsimp only; omega, hlo, fun k hk1 hk2 => ?_⟩, by dsimp only; omega, rfl, rfl⟩⟩
      · dsimp only at hk
        by_cases hkm : k = (i + j) / 2
        · rw [hkm]; omega
        · have := Srt.up_get.1 hu k _ (by omega) hm
          simp only [ltN] at this; omega
      · dsimp only at hk1
        by_cases hkm : k = (i + j) / 2
        · rw [hkm]; omega
        · have := Srt.up_get.1 hu ((i + j) / 2) k (by omega) hk2
          simp only [ltN] at this; omega
    · have hp : Srt.pos Iv.hash ltN l id = i := Srt.pos_eq (by omega) hlo (fun h => hup i (by omega) h)
      rw [findI, if_pos hok, Srt.thr, hp, cmpS_0]
      refine ⟨fun h5 => ⟨by omega, fun h6 => ?_, fun h6 => ?_⟩, fun h5 => ?_⟩
      · rw [if_pos (decide_eq_true ⟨by omega, by omega⟩)]; exact ⟨rfl, rfl⟩
      · rw [if_neg (by rw [decide_eq_true_iff]; omega)]; exact ⟨rfl, rfl⟩
      · rw [if_neg (by rw [decide_eq_true_iff]; omega)]; exact ⟨rfl, rfl⟩
def sp_ifind : List D → Option (Prop × D × Fr)
  | [.c (.sl z1), .c (.int .u64 z2)] => some (z1 = ivs (divs z1) ∧ z2 = (z2.toNat : Int), ifind_r (divs z1) z2.toNat, [])
  | _ => none
attribute [go_sem] sp_ifind
theorem sp_ifind_ok : ∀ rs p r fr, sp_ifind rs = some (p, r, fr) → p → FnOk Tryz.prog 169 rs r fr := by
  intro rs p r fr h hp
  unfold sp_ifind at h
  split at h <;> cases h
  obtain ⟨hc0, hc1⟩ := hp
  rename_i z1 z2
  obtain ⟨z1, rfl⟩ : ∃ m, z1 = ivs m := ⟨_, hc0⟩
  obtain ⟨z2, rfl⟩ : ∃ m : Nat, z2 = m := ⟨_, hc1⟩
  simp only [Int.toNat_natCast, divs_ivs]
  exact ifind_ok z1 z2
def nowI (x : Iv) (tick : Nat) : Int := if x.state = 1 ∧ x.till < tick then 4 else x.state
@[go_sem] def inow_r (x : Iv) (tick : Nat) : D := .int .i64 (nowI x tick)
@[go_sem] abbrev n_inow : FuncId := 192
@[go_sem] def inow_T : Tab := []
theorem inow_T_ok : TabOk Tryz.prog inow_T := TabOk.nil
set_option maxRecDepth 8000 in
set_option maxHeartbeats 1000000 in
theorem inow_ok (x : Iv) (tick : Nat)  : PureFn Tryz.prog 192 [.agg [.c (.int .u64 (x.hash : Int)), .c (.int .u64 (x.n : Int)), .c (.int .u64 (x.till : Int)), .c (.int .i64 x.state)], .c (.int .u64 (tick : Int))] (inow_r x tick) := by
  refine .of (ac192 inow_T_ok (Nat.le_of_ble_eq_true rfl) ?_)
  simp -implicitDefEqProofs only [cdA, go_sem, Go.Proofs.Tryz.f192, reduceIte, reduceCtorEq, Nat.reduceEqDiff, Nat.reduceAdd, Nat.reduceLeDiff, Nat.reduceSub, Nat.reduceMul, Nat.reduceLT, Nat.reduceShiftRight, Nat.reduceMod, Int.reduceLE, Int.reduceLT, Int.reduceToNat, cdB, List.cons.injEq, true_and, and_true]
  unfold nowI
  refine ⟨fun h1 => ⟨fun h2 => ?_, fun h2 => ?_⟩, fun h1 => ?_⟩
  · rw [if_pos ⟨h1, by omega⟩]
  · rw [if_neg (by rintro ⟨_, h⟩; omega)]
  · rw [if_neg (by rintro ⟨h, _⟩; exact h1 h)]
def sp_inow : List D → Option (Prop × D × Fr)
  | [.agg [.c (.int .u64 z4), .c (.int .u64 z5), .c (.int .u64 z6), .c (.int .i64 z7)], .c (.int .u64 z8)] => some (z4 = (z4.toNat : Int) ∧ z5 = (z5.toNat : Int) ∧ z6 = (z6.toNat : Int) ∧ z8 = (z8.toNat : Int), inow_r (⟨z4.toNat, z5.toNat, z6.toNat, z7⟩ : Iv) z8.toNat, [])
  | _ => none
attribute [go_sem] sp_inow
theorem sp_inow_ok : ∀ rs p r fr, sp_inow rs = some (p, r, fr) → p → FnOk Tryz.prog 192 rs r fr := by
  intro rs p r fr h hp
  unfold sp_inow at h
  split at h <;> cases h
  obtain ⟨hc0, hc1, hc2, hc3⟩ := hp
  rename_i z4 z5 z6 z7 z8
  obtain ⟨z4, rfl⟩ : ∃ m : Nat, z4 = m := ⟨_, hc0⟩
  obtain ⟨z5, rfl⟩ : ∃ m : Nat, z5 = m := ⟨_, hc1⟩
  obtain ⟨z6, rfl⟩ : ∃ m : Nat, z6 = m := ⟨_, hc2⟩
  obtain ⟨z8, rfl⟩ : ∃ m : Nat, z8 = m := ⟨_, hc3⟩
  simp only [Int.toNat_natCast]
  exact inow_ok ⟨z4, z5, z6, z7⟩ z8
@[go_sem] def ivclonef_r (l : List Iv) : D := .vec 0 l.length
@[go_sem] def ivclonef_fr (l : List Iv) : Fr := [(4, 64, true, ivs l)]
@[go_sem] abbrev n_ivclonef : FuncId := 172
@[go_sem] def ivclonef_T : Tab := []
theorem ivclonef_T_ok : TabOk Tryz.prog ivclonef_T := TabOk.nil
set_option maxRecDepth 8000 in
set_option maxHeartbeats 1000000 in
theorem ivclonef_ok (l : List Iv) (hl : l.length ≤ 1000000) : FreshFn Tryz.prog 172 [.sl (ivs l)] (ivclonef_r l) (ivclonef_fr l) := by
  refine .of (ac172 ivclonef_T_ok (Nat.le_of_ble_eq_true rfl) ?_)
  simp -implicitDefEqProofs only [cdA, go_sem, Go.Proofs.Tryz.f172, reduceIte, reduceCtorEq, Nat.reduceEqDiff, Nat.reduceAdd, Nat.reduceLeDiff, Nat.reduceSub, Nat.reduceMul, Nat.reduceLT, Nat.reduceShiftRight, Nat.reduceMod, Int.reduceLE, Int.reduceLT, Int.reduceToNat, cdB, List.cons.injEq, true_and, and_true]
  refine fun b hb => ⟨fun h => ?_, fun h => ?_⟩
  · exact ⟨[none], by simp [go_sem, hb h], by cases l <;> simp_all [go_sem, ivs]⟩
  · exact ⟨by omega, [some 0], by simp [go_sem]⟩
@[go_sem] def ivclonef_p (l : List Iv) : Prop := (l.length ≤ 1000000)
def sp_ivclonef : List D → Option (Prop × D × Fr)
  | [.c (.sl z9)] => some (z9 = ivs (divs z9) ∧ ivclonef_p (divs z9), ivclonef_r (divs z9), ivclonef_fr (divs z9))
  | _ => none
attribute [go_sem] sp_ivclonef
theorem sp_ivclonef_ok : ∀ rs p r fr, sp_ivclonef rs = some (p, r, fr) → p → FnOk Tryz.prog 172 rs r fr := by
  intro rs p r fr h hp
  unfold sp_ivclonef at h
  split at h <;> cases h
  obtain ⟨hc0, hp⟩ := hp
  rename_i z9
  obtain ⟨z9, rfl⟩ : ∃ m, z9 = ivs m := ⟨_, hc0⟩
  simp only [divs_ivs]
  simp only [divs_ivs, ivclonef_p] at hp
  exact (show FnOk _ _ _ _ _ from And.intro rfl (ivclonef_ok z9 hp))
def iendE (l : List Iv) (hash tick n : Nat) : Int :=
  if okIv l then (if Srt.thr Iv.hash ltN l hash = true then (if nowI (l.getD (Srt.pos Iv.hash ltN l hash) default) tick = 4 then 13 else if nowI (l.getD (Srt.pos Iv.hash ltN l hash) default) tick ≠ 1 then 10 else if n < (l.getD (Srt.pos Iv.hash ltN l hash) default).n then 9 else 0) else 5) else 1
def iendL (l : List Iv) (hash tick n : Nat) (st : Int) : List Iv × Int :=
  if iendE l hash tick n = 0 then (l.set (Srt.pos Iv.hash ltN l hash) { l.getD (Srt.pos Iv.hash ltN l hash) default with state := st }, 0) else ([], iendE l hash tick n)
@[go_sem] def icancel_r (l : List Iv) (hash : Nat) (tick : Nat) : D := .tup [.sl (ivs (iendL l hash tick MM 3).1), .int .i64 (iendL l hash tick MM 3).2]
@[go_sem] abbrev n_icancel : FuncId := 80
@[go_sem] def icancel_T : Tab := [(169, sp_ifind), (192, sp_inow), (172, sp_ivclonef)]
theorem icancel_T_ok : TabOk Tryz.prog icancel_T := (TabOk.cons sp_ifind_ok (TabOk.cons sp_inow_ok (TabOk.cons sp_ivclonef_ok TabOk.nil)))
set_option maxRecDepth 8000 in
set_option maxHeartbeats 1000000 in
theorem icancel_ok (l : List Iv) (hash : Nat) (tick : Nat)  : PureFn Tryz.prog 80 [.sl (ivs l), .c (.int .u64 (hash : Int)), .c (.int .u64 (tick : Int))] (icancel_r l hash tick) := by
  refine .of (ac80 icancel_T_ok (Nat.le_of_ble_eq_true rfl) ?_)
  simp -implicitDefEqProofs only [cdA, go_sem, Go.Proofs.Tryz.f80, reduceIte, reduceCtorEq, Nat.reduceEqDiff, Nat.reduceAdd, Nat.reduceLeDiff, Nat.reduceSub, Nat.reduceMul, Nat.reduceLT, Nat.reduceShiftRight, Nat.reduceMod, Int.reduceLE, Int.reduceLT, Int.reduceToNat, cdB, List.cons.injEq, true_and, and_true]
  refine ac175 icancel_T_ok (Nat.le_of_ble_eq_true rfl) ?_
  simp -implicitDefEqProofs only [cdA, go_sem, Go.Proofs.Tryz.f175, reduceIte, reduceCtorEq, Nat.reduceEqDiff, Nat.reduceAdd, Nat.reduceLeDiff, Nat.reduceSub, Nat.reduceMul, Nat.reduceLT, Nat.reduceShiftRight, Nat.reduceMod, Int.reduceLE, Int.reduceLT, Int.reduceToNat, cdB, List.cons.injEq, true_and, and_true]
  have hbad : ∀ e, iendE l hash tick MM = e → ¬ e = 0 → ivs (iendL l hash tick MM 3).1 = [] ∧ e = (iendL l hash tick MM 3).2 := fun e h1 h2 => by
    rw [iendL, if_neg (by rw [h1]; exact h2), h1]; exact ⟨rfl, rfl⟩
  by_cases hok : okIv l
  rotate_left 1
  · have ef : findI l hash = (0, 1) := by rw [findI, if_neg hok]
    rw [ef]
    exact ⟨fun h => absurd (show (1 : Int) = 0 from h) (by decide), fun _ => hbad 1 (by rw [iendE, if_neg hok]) (by decide)⟩
  by_cases ht : Srt.thr Iv.hash ltN l hash = true
  rotate_left 1
  · have ef : findI l hash = (((Srt.pos Iv.hash ltN l hash : Nat) : Int), 5) := by rw [findI, if_pos hok, if_neg ht]
    rw [ef]
    exact ⟨fun h => absurd (show (5 : Int) = 0 from h) (by decide), fun _ => hbad 5 (by rw [iendE, if_pos hok, if_neg ht]) (by decide)⟩
  have ef : findI l hash = (((Srt.pos Iv.hash ltN l hash : Nat) : Int), 0) := by rw [findI, if_pos hok, if_pos ht]
  have hp : Srt.pos Iv.hash ltN l hash < l.length := by
    have ht := ht
    unfold Srt.thr at ht
    exact (of_decide_eq_true ht).1
  have h256 := hok.1
  have he : iendE l hash tick MM = if nowI (l.getD (Srt.pos Iv.hash ltN l hash) default) tick = 4 then 13 else if nowI (l.getD (Srt.pos Iv.hash ltN l hash) default) tick ≠ 1 then 10 else if MM < (l.getD (Srt.pos Iv.hash ltN l hash) default).n then 9 else 0 := by rw [iendE, if_pos hok, if_pos ht]
  rw [ef]
  dsimp only
  rw [Int.toNat_natCast]
  refine ⟨fun _ => ⟨⟨by omega, by omega⟩, fun h1 => hbad 13 (by rw [he, if_pos h1]) (by decide), fun h1 => ⟨fun h2 => ⟨⟨by omega, by omega⟩, fun h3 => hbad 9 (by rw [he, if_neg h1, if_neg (fun h => h h2), if_pos (by unfold MM; omega)]) (by decide), fun h3 => ?_⟩, fun h2 => hbad 10 (by rw [he, if_neg h1, if_pos h2]) (by decide)⟩⟩, fun h => absurd rfl h⟩
  have h0 : iendE l hash tick MM = 0 := by rw [he, if_neg h1, if_neg (fun h => h h2), if_neg (by unfold MM; omega)]
  rw [iendL, if_pos h0]
  exact ⟨by omega, ⟨by omega, by omega⟩, hp, ⟨by rw [List.length_set], _, _, _, rfl⟩, rfl⟩
def sp_icancel : List D → Option (Prop × D × Fr)
  | [.c (.sl z10), .c (.int .u64 z11), .c (.int .u64 z12)] => some (z10 = ivs (divs z10) ∧ z11 = (z11.toNat : Int) ∧ z12 = (z12.toNat : Int), icancel_r (divs z10) z11.toNat z12.toNat, [])
  | _ => none
attribute [go_sem] sp_icancel
theorem sp_icancel_ok : ∀ rs p r fr, sp_icancel rs = some (p, r, fr) → p → FnOk Tryz.prog 80 rs r fr := by
  intro rs p r fr h hp
  unfold sp_icancel at h
  split at h <;> cases h
  obtain ⟨hc0, hc1, hc2⟩ := hp
  rename_i z10 z11 z12
  obtain ⟨z10, rfl⟩ : ∃ m, z10 = ivs m := ⟨_, hc0⟩
  obtain ⟨z11, rfl⟩ : ∃ m : Nat, z11 = m := ⟨_, hc1⟩
  obtain ⟨z12, rfl⟩ : ∃ m : Nat, z12 = m := ⟨_, hc2⟩
  simp only [Int.toNat_natCast, divs_ivs]
  exact icancel_ok z10 z11 z12
@[go_sem] def ipay_r (l : List Iv) (hash : Nat) (n : Nat) (tick : Nat) : D := .tup [.sl (ivs (iendL l hash tick n 2).1), .int .i64 (iendL l hash tick n 2).2]
@[go_sem] abbrev n_ipay : FuncId := 83
@[go_sem] def ipay_T : Tab := [(169, sp_ifind), (192, sp_inow), (172, sp_ivclonef)]
theorem ipay_T_ok : TabOk Tryz.prog ipay_T := (TabOk.cons sp_ifind_ok (TabOk.cons sp_inow_ok (TabOk.cons sp_ivclonef_ok TabOk.nil)))
set_option maxRecDepth 8000 in
set_option maxHeartbeats 1000000 in
theorem ipay_ok (l : List Iv) (hash : Nat) (n : Nat) (tick : Nat)  : PureFn Tryz.prog 83 [.sl (ivs l), .c (.int .u64 (hash : Int)), .c (.int .u64 (n : Int)), .c (.int .u64 (tick : Int))] (ipay_r l hash n tick) := by
  refine .of (ac83 ipay_T_ok (Nat.le_of_ble_eq_true rfl) ?_)
  simp -implicitDefEqProofs only [cdA, go_sem, Go.Proofs.Tryz.f83, reduceIte, reduceCtorEq, Nat.reduceEqDiff, Nat.reduceAdd, Nat.reduceLeDiff, Nat.reduceSub, Nat.reduceMul, Nat.reduceLT, Nat.reduceShiftRight, Nat.reduceMod, Int.reduceLE, Int.reduceLT, Int.reduceToNat, cdB, List.cons.injEq, true_and, and_true]
  refine ac175 ipay_T_ok (Nat.le_of_ble_eq_true rfl) ?_
  simp -implicitDefEqProofs only [cdA, go_sem, Go.Proofs.Tryz.f175, reduceIte, reduceCtorEq, Nat.reduceEqDiff, Nat.reduceAdd, Nat.reduceLeDiff, Nat.reduceSub, Nat.reduceMul, Nat.reduceLT, Nat.reduceShiftRight, Nat.reduceMod, Int.reduceLE, Int.reduceLT, Int.reduceToNat, cdB, List.cons.injEq, true_and, and_true]
  have hbad : ∀ e, iendE l hash tick n = e → ¬ e = 0 → ivs (iendL l hash tick n 2).1 = [] ∧ e = (iendL l hash tick n 2).2 := fun e h1 h2 => by
    rw [iendL, if_neg (by rw [h1]; exact h2), h1]; exact ⟨rfl, rfl⟩
  by_cases hok : okIv l
  rotate_left 1
  · have ef : findI l hash = (0, 1) := by rw [findI, if_neg hok]
    rw [ef]
    exact ⟨fun h => absurd (show (1 : Int) = 0 from h) (by decide), fun _ => hbad 1 (by rw [iendE, if_neg hok]) (by decide)⟩
  by_cases ht : Srt.thr Iv.hash ltN l hash = true
  rotate_left 1
  · have ef : findI l hash = (((Srt.pos Iv.hash ltN l hash : Nat) : Int), 5) := by rw [findI, if_pos hok, if_neg ht]
    rw [ef]
    exact ⟨fun h => absurd (show (5 : Int) = 0 from h) (by decide), fun _ => hbad 5 (by rw [iendE, if_pos hok, if_neg ht]) (by decide)⟩
  have ef : findI l hash = (((Srt.pos Iv.hash ltN l hash : Nat) : Int), 0) := by rw [findI, if_pos hok, if_pos ht]
  have hp : Srt.pos Iv.hash ltN l hash < l.length := by
    have ht := ht
    unfold Srt.thr at ht
    exact (of_decide_eq_true ht).1
  have h256 := hok.1
  have he : iendE l hash tick n = if nowI (l.getD (Srt.pos Iv.hash ltN l hash) default) tick = 4 then 13 else if nowI (l.getD (Srt.pos Iv.hash ltN l hash) default) tick ≠ 1 then 10 else if n < (l.getD (Srt.pos Iv.hash ltN l hash) default).n then 9 else 0 := by rw [iendE, if_pos hok, if_pos ht]
  rw [ef]
  dsimp only
  rw [Int.toNat_natCast]
  refine ⟨fun _ => ⟨⟨by omega, by omega⟩, fun h1 => hbad 13 (by rw [he, if_pos h1]) (by decide), fun h1 => ⟨fun h2 => ⟨⟨by omega, by omega⟩, fun h3 => hbad 9 (by rw [he, if_neg h1, if_neg (fun h => h h2), if_pos (by skip; omega)]) (by decide), fun h3 => ?_⟩, fun h2 => hbad 10 (by rw [he, if_neg h1, if_pos h2]) (by decide)⟩⟩, fun h => absurd rfl h⟩
  have h0 : iendE l hash tick n = 0 := by rw [he, if_neg h1, if_neg (fun h => h h2), if_neg (by skip; omega)]
  rw [iendL, if_pos h0]
  exact ⟨by omega, ⟨by omega, by omega⟩, hp, ⟨by rw [List.length_set], _, _, _, rfl⟩, rfl⟩
def sp_ipay : List D → Option (Prop × D × Fr)
  | [.c (.sl z13), .c (.int .u64 z14), .c (.int .u64 z15), .c (.int .u64 z16)] => some (z13 = ivs (divs z13) ∧ z14 = (z14.toNat : Int) ∧ z15 = (z15.toNat : Int) ∧ z16 = (z16.toNat : Int), ipay_r (divs z13) z14.toNat z15.toNat z16.toNat, [])
  | _ => none
attribute [go_sem] sp_ipay
theorem sp_ipay_ok : ∀ rs p r fr, sp_ipay rs = some (p, r, fr) → p → FnOk Tryz.prog 83 rs r fr := by
  intro rs p r fr h hp
  unfold sp_ipay at h
  split at h <;> cases h
  obtain ⟨hc0, hc1, hc2, hc3⟩ := hp
  rename_i z13 z14 z15 z16
  obtain ⟨z13, rfl⟩ : ∃ m, z13 = ivs m := ⟨_, hc0⟩
  obtain ⟨z14, rfl⟩ : ∃ m : Nat, z14 = m := ⟨_, hc1⟩
  obtain ⟨z15, rfl⟩ : ∃ m : Nat, z15 = m := ⟨_, hc2⟩
  obtain ⟨z16, rfl⟩ : ∃ m : Nat, z16 = m := ⟨_, hc3⟩
  simp only [Int.toNat_natCast, divs_ivs]
  exact ipay_ok z13 z14 z15 z16
def overI (tick : Nat) (x : Iv) : Bool := decide (nowI x tick = 4 ∨ x.state = 3)
def sweepI (l : List Iv) (tick : Nat) : List Iv × Int := if okIv l then (l.filter fun x => !overI tick x, 0) else ([], 1)
@[go_sem] def isweep_r (l : List Iv) (tick : Nat) : D := .tup [.sl (ivs (sweepI l tick).1), .int .i64 (sweepI l tick).2]
@[go_sem] abbrev n_isweep : FuncId := 100
@[go_sem] def isweep_T : Tab := [(103, sp_icheck), (192, sp_inow), (172, sp_ivclonef)]
theorem isweep_T_ok : TabOk Tryz.prog isweep_T := (TabOk.cons sp_icheck_ok (TabOk.cons sp_inow_ok (TabOk.cons sp_ivclonef_ok TabOk.nil)))
set_option maxRecDepth 8000 in
set_option maxHeartbeats 1000000 in
theorem isweep_ok (l : List Iv) (tick : Nat)  : PureFn Tryz.prog 100 [.sl (ivs l), .c (.int .u64 (tick : Int))] (isweep_r l tick) := by
  refine .of (ac100 isweep_T_ok (Nat.le_of_ble_eq_true rfl) ?_)
  simp -implicitDefEqProofs only [cdA, go_sem, Go.Proofs.Tryz.f100, reduceIte, reduceCtorEq, Nat.reduceEqDiff, Nat.reduceAdd, Nat.reduceLeDiff, Nat.reduceSub, Nat.reduceMul, Nat.reduceLT, Nat.reduceShiftRight, Nat.reduceMod, Int.reduceLE, Int.reduceLT, Int.reduceToNat, cdB, List.cons.injEq, true_and, and_true]
  have hcz : chkI l = 0 ↔ okIv l := by unfold chkI; split <;> rename_i h <;> simp only [h] <;> decide
  refine ⟨fun h0 => ?_, fun h0 => by
    have hno : ¬ okIv l := fun h => h0 (hcz.2 h)
    rw [sweepI, chkI, if_neg hno, if_neg hno]; exact ⟨rfl, rfl⟩⟩
  have hok := hcz.1 h0
  have h256 := hok.1
  refine ⟨by omega, ?_⟩
  refine ACall.sld ?_
  refine acall_introM (n := 42) (fn := Tryz.f193) (by kernel_rfl) rfl rfl rfl (Nat.le_of_ble_eq_true rfl) (rs := [.tmp 4]) rfl ?_
  refine SWm.seq (SWm.awp isweep_T_ok.toS lv193 rfl ?_)
  simp -implicitDefEqProofs only [cdA, go_sem, reduceIte, reduceCtorEq, Nat.reduceEqDiff, Nat.reduceAdd, Nat.reduceLeDiff, Nat.reduceSub, Nat.reduceMul, Nat.reduceLT, Nat.reduceShiftRight, Nat.reduceMod, Int.reduceLE, Int.reduceLT, Int.reduceToNat, cdB, List.cons.injEq, true_and, and_true]
  refine SWm.seq (SWm.awp isweep_T_ok.toS lv193 rfl ?_)
  simp -implicitDefEqProofs only [cdA, go_sem, reduceIte, reduceCtorEq, Nat.reduceEqDiff, Nat.reduceAdd, Nat.reduceLeDiff, Nat.reduceSub, Nat.reduceMul, Nat.reduceLT, Nat.reduceShiftRight, Nat.reduceMod, Int.reduceLE, Int.reduceLT, Int.reduceToNat, cdB, List.cons.injEq, true_and, and_true]
  refine ac238 isweep_T_ok (Nat.le_of_ble_eq_true rfl) ?_
  simp -implicitDefEqProofs only [cdA, go_sem, Go.Proofs.Tryz.f238, reduceIte, reduceCtorEq, Nat.reduceEqDiff, Nat.reduceAdd, Nat.reduceLeDiff, Nat.reduceSub, Nat.reduceMul, Nat.reduceLT, Nat.reduceShiftRight, Nat.reduceMod, Int.reduceLE, Int.reduceLT, Int.reduceToNat, cdB, List.cons.injEq, true_and, and_true]
  refine fun _ => SWp.loop (ι := { i : Nat // i ≤ l.length ∧ ∀ j, j < i → overI tick (l.getD j default) = false }) (fun i => ⟨[(0, .vec 1 l.length), (1, .fn (.func 191) [] [.ref 0 0]), (7, .int .i64 l.length), (8, .int .i64 i.1)],
    [(1, .vec true 4 64 (ivs l)), (0, .box [.c (.int .u64 tick)])], 2⟩) (fun i => l.length - i.1) ⟨0, by simp⟩ ?_ ?_
  · simp [go_sem]
  · rintro ⟨i, hi, hall⟩
    refine awp_sound isweep_T_ok.toS lv238 _ _ _ rfl ?_
    simp -implicitDefEqProofs only [cdA, go_sem, reduceIte, reduceCtorEq, Nat.reduceEqDiff, Nat.reduceAdd, Nat.reduceLeDiff, Nat.reduceSub, Nat.reduceMul, Nat.reduceLT, Nat.reduceShiftRight, Nat.reduceMod, Int.reduceLE, Int.reduceLT, Int.reduceToNat, cdB, List.cons.injEq, true_and, and_true]
    refine ⟨fun h4 => ⟨by omega, by omega, ?_⟩, fun h4 => ?_⟩
    · skip
      refine ac191 isweep_T_ok (Nat.le_of_ble_eq_true rfl) ?_
      simp -implicitDefEqProofs only [cdA, go_sem, Go.Proofs.Tryz.f191, reduceIte, reduceCtorEq, Nat.reduceEqDiff, Nat.reduceAdd, Nat.reduceLeDiff, Nat.reduceSub, Nat.reduceMul, Nat.reduceLT, Nat.reduceShiftRight, Nat.reduceMod, Int.reduceLE, Int.reduceLT, Int.reduceToNat, cdB, List.cons.injEq, true_and, and_true]
      have hi' : i < l.length := by omega
      have hov : ∀ x : Iv, overI tick x = true ↔ nowI x tick = 4 ∨ x.state = 3 := fun x => decide_eq_true_iff
      have hb0 : overI tick (l.getD i default) = true → l.take i = (l.take (i + 1)).filter (fun y => !overI tick y) := fun hv => by
        rw [take_succ hi', List.filter_append, List.filter_eq_self.2 (fun x hx => ?_), List.filter_cons_of_neg (by rw [hv]; decide), List.filter_nil, List.append_nil]
        obtain ⟨j, hj, rfl⟩ := mem_getD.1 hx
        rw [List.length_take] at hj
        rw [List.getD_eq_getElem?_getD, List.getElem?_take_of_lt (by omega), ← List.getD_eq_getElem?_getD, hall j (by omega)]; rfl
      refine ⟨fun h1 => ⟨fun h2 => ?_, fun h2 => ⟨⟨i + 1, by omega, fun j hj => ?_⟩, by dsimp only; omega, i64_in _ (by omega)⟩⟩, fun h1 => ?_⟩
      rotate_left 1
      · by_cases hji : j = i
        · subst hji
          have : ¬ overI tick (l.getD j default) = true := fun h => by
            rcases (hov _).1 h with h | h
            · exact h1 h
            · exact h2 h
          simpa using this
        · exact hall j (by omega)
      all_goals
        have hb1 := hb0 ((hov _).2 (by first | exact .inl h1 | exact .inr h2))
        refine SWm.seq (SWm.awp isweep_T_ok.toS lv193 rfl ?_)
        simp -implicitDefEqProofs only [cdA, go_sem, reduceIte, reduceCtorEq, Nat.reduceEqDiff, Nat.reduceAdd, Nat.reduceLeDiff, Nat.reduceSub, Nat.reduceMul, Nat.reduceLT, Nat.reduceShiftRight, Nat.reduceMod, Int.reduceLE, Int.reduceLT, Int.reduceToNat, cdB, List.cons.injEq, true_and, and_true]
        refine ⟨fun h => h.elim, ?_⟩
        refine SWm.seq (SWm.seq (SWm.awp isweep_T_ok.toS lv193 rfl ?_))
        simp -implicitDefEqProofs only [cdA, go_sem, reduceIte, reduceCtorEq, Nat.reduceEqDiff, Nat.reduceAdd, Nat.reduceLeDiff, Nat.reduceSub, Nat.reduceMul, Nat.reduceLT, Nat.reduceShiftRight, Nat.reduceMod, Int.reduceLE, Int.reduceLT, Int.reduceToNat, cdB, List.cons.injEq, true_and, and_true]
        rw [i64_in _ (by omega)]
        refine SWm.block (SWm.of (SWp.loop (ι := { x : Nat × Nat × List Iv // x.1 < x.2.1 ∧ x.2.1 ≤ l.length ∧ x.2.2.length = l.length ∧ x.2.2.take x.1 = (l.take x.2.1).filter (fun y => !overI tick y) ∧ x.2.2.drop x.2.1 = l.drop x.2.1 })
          (fun x => ⟨[(0, .vec 1 l.length), (1, .fn (.func 191) [] [.ref 0 0]), (5, .int .i64 x.1.1), (6, .int .i64 x.1.2.1)],
            [(2, .box [.c (.int .u64 (l.getD i default).hash), .c (.int .u64 (l.getD i default).n), .c (.int .u64 (l.getD i default).till), .c (.int .i64 (l.getD i default).state)]), (1, .vec true 4 64 (ivs x.1.2.2)), (0, .box [.c (.int .u64 tick)])], 3⟩) (fun x => l.length - x.1.2.1) ⟨(i, i + 1, l), by dsimp only; omega, by dsimp only; omega, rfl, hb1, rfl⟩ ?_ ?_))
      all_goals first | (simp [go_sem]; done) | skip
      all_goals
        rintro ⟨⟨k, j, m⟩, hkj, hj, hml, hmt, hmd⟩
        refine awp_sound isweep_T_ok.toS lv193 _ _ _ rfl ?_
        simp -implicitDefEqProofs only [cdA, go_sem, reduceIte, reduceCtorEq, Nat.reduceEqDiff, Nat.reduceAdd, Nat.reduceLeDiff, Nat.reduceSub, Nat.reduceMul, Nat.reduceLT, Nat.reduceShiftRight, Nat.reduceMod, Int.reduceLE, Int.reduceLT, Int.reduceToNat, cdB, List.cons.injEq, true_and, and_true]
        dsimp only at hkj hj hml hmt hmd
        refine fun _ => ⟨fun h5 => ⟨by omega, ⟨hml.symm, by omega⟩, ?_⟩, fun h5 => ?_⟩
        · skip
          refine ac191 isweep_T_ok (Nat.le_of_ble_eq_true rfl) ?_
          simp -implicitDefEqProofs only [cdA, go_sem, Go.Proofs.Tryz.f191, reduceIte, reduceCtorEq, Nat.reduceEqDiff, Nat.reduceAdd, Nat.reduceLeDiff, Nat.reduceSub, Nat.reduceMul, Nat.reduceLT, Nat.reduceShiftRight, Nat.reduceMod, Int.reduceLE, Int.reduceLT, Int.reduceToNat, cdB, List.cons.injEq, true_and, and_true]
          have hj' : j < l.length := by omega
          have hmj : m.getD j default = l.getD j default := by
            have h6 : (m.drop j)[0]? = (l.drop j)[0]? := by rw [hmd]
            rw [List.getElem?_drop, List.getElem?_drop, Nat.add_zero] at h6
            rw [List.getD_eq_getElem?_getD, h6, ← List.getD_eq_getElem?_getD]
          have hmd2 : m.drop (j + 1) = l.drop (j + 1) := by
            rw [← List.drop_drop, hmd, List.drop_drop]
          have hgo : overI tick (l.getD j default) = true → m.take k = (l.take (j + 1)).filter (fun y => !overI tick y) := fun hv => by
            rw [take_succ hj', List.filter_append, List.filter_cons_of_neg (by rw [hv]; decide), List.filter_nil, List.append_nil, hmt]
          have hkeep : ¬ overI tick (l.getD j default) = true → (m.set k (l.getD j default)).take (k + 1) = (l.take (j + 1)).filter (fun y => !overI tick y) := fun hv => by
            rw [take_succ hj', List.filter_append, List.filter_cons_of_pos (by simpa using hv), List.filter_nil, ← hmt, List.take_set, take_succ (by omega), List.set_append_right _ _ (by rw [List.length_take]; omega), List.length_take, show k - min k m.length = 0 by omega]
            rfl
          rw [hmj]
          refine ⟨fun h6 => ⟨fun h7 => ⟨⟨(k, j + 1, m), by dsimp only; omega, hj', hml, hgo ((hov _).2 (.inr h7)), hmd2⟩, by dsimp only; omega, ⟨rfl, i64_in _ (by omega)⟩, rfl⟩, fun h7 => ⟨by omega, ⟨hml.symm, by omega⟩, ⟨(k + 1, j + 1, m.set k (l.getD j default)), by dsimp only; omega, hj', by dsimp only; rw [List.length_set]; exact hml, hkeep (fun h => by rcases (hov _).1 h with h | h <;> first | exact h6 h | exact h7 h), ?_⟩, by dsimp only; omega, ⟨i64_in _ (by omega), i64_in _ (by omega)⟩, rfl⟩⟩,
            fun h6 => ⟨⟨(k, j + 1, m), by dsimp only; omega, hj', hml, hgo ((hov _).2 (.inl h6)), hmd2⟩, by dsimp only; omega, ⟨rfl, i64_in _ (by omega)⟩, rfl⟩⟩
          dsimp only
          rw [List.drop_set_of_lt (by omega)]; exact hmd2
        · have hj' : j = l.length := by omega
          subst hj'
          refine SWm.opn 1 rfl fun cp hc hcm => ?_
          rw [ivs_length] at hc
          refine SWm.awp isweep_T_ok.toS lv193 rfl ?_
          simp -implicitDefEqProofs only [cdA, go_sem, List.map_cons, List.map_nil, hml, eq_self, reduceIte, reduceCtorEq, Nat.reduceEqDiff, Nat.reduceAdd, Nat.reduceLeDiff, Nat.reduceSub, Nat.reduceMul, Nat.reduceLT, Nat.reduceShiftRight, Nat.reduceMod, Int.reduceLE, Int.reduceLT, Int.reduceToNat, cdB, List.cons.injEq, true_and, and_true]
          have hsw : sweepI l tick = (m.take k, 0) := by rw [sweepI, if_pos hok, hmt, List.take_length]
          have hkl : (m.take k).length = k := by rw [List.length_take]; omega
          have hfin : ∀ Z : List (List C), List.take k (fit cp 4 (List.take k (fit cp 4 (ivs m)) ++ Z)) = ivs (m.take k) := fun Z => by
            rw [fit_take (by rw [List.length_append, List.length_take, fit_length]; omega) (by omega), List.take_append_of_le_length (by rw [List.length_take, fit_length]; omega), List.take_take, Nat.min_self, fit_take (by rw [ivs_length]; omega) (by omega)]
            simp [ivs, List.map_take]
          rw [hfin, hsw]
          exact ⟨by omega, by omega, ⟨hkl.symm, _, _, _, rfl⟩, rfl⟩
    · have hi' : i = l.length := by omega
      subst hi'
      have hsw : sweepI l tick = (l, 0) := by
        rw [sweepI, if_pos hok, List.filter_eq_self.2 fun x hx => ?_]
        obtain ⟨j, hj, rfl⟩ := mem_getD.1 hx
        rw [hall j (by omega)]; rfl
      refine SWm.seq (SWm.awp isweep_T_ok.toS lv193 rfl ?_)
      simp -implicitDefEqProofs only [cdA, go_sem, reduceIte, reduceCtorEq, Nat.reduceEqDiff, Nat.reduceAdd, Nat.reduceLeDiff, Nat.reduceSub, Nat.reduceMul, Nat.reduceLT, Nat.reduceShiftRight, Nat.reduceMod, Int.reduceLE, Int.reduceLT, Int.reduceToNat, cdB, List.cons.injEq, true_and, and_true]
      rw [hsw]
      exact ⟨⟨rfl, _, _, _, rfl⟩, rfl⟩
def sp_isweep : List D → Option (Prop × D × Fr)
  | [.c (.sl z17), .c (.int .u64 z18)] => some (z17 = ivs (divs z17) ∧ z18 = (z18.toNat : Int), isweep_r (divs z17) z18.toNat, [])
  | _ => none
attribute [go_sem] sp_isweep
theorem sp_isweep_ok : ∀ rs p r fr, sp_isweep rs = some (p, r, fr) → p → FnOk Tryz.prog 100 rs r fr := by
  intro rs p r fr h hp
  unfold sp_isweep at h
  split at h <;> cases h
  obtain ⟨hc0, hc1⟩ := hp
  rename_i z17 z18
  obtain ⟨z17, rfl⟩ : ∃ m, z17 = ivs m := ⟨_, hc0⟩
  obtain ⟨z18, rfl⟩ : ∃ m : Nat, z18 = m := ⟨_, hc1⟩
  simp only [Int.toNat_natCast, divs_ivs]
  exact isweep_ok z17 z18
end Dm
namespace Dm
open Go Go.Proofs Go.IntWalk
end Dm
