import Derived.Test.YtceoichdaepegaaGreatP8

set_option linter.unusedSimpArgs false
set_option linter.unusedVariables false
set_option linter.unusedSectionVars false
namespace Dm
open Go Go.Proofs Go.IntWalk
theorem hid_eq {l : List Ch} {p : Nat} {d : Ch} (hp : p < l.length) (hh : d.holds = (l.getD p default).holds) : hidL (l.set p d) = hidL l := by
  conv => rhs; rw [split_at hp]
  rw [split_set hp]
  simp only [hidL, List.flatMap_append, List.flatMap_cons, hh]
theorem hl_eq {l : List Ch} {p : Nat} {d : Ch} (hp : p < l.length) (hi : d.id = (l.getD p default).id) (hh : d.holds = (l.getD p default).holds) : hlL (l.set p d) = hlL l := by
  conv => rhs; rw [split_at hp]
  rw [split_set hp]
  simp only [hlL, hlC, List.flatMap_append, List.flatMap_cons, hh, hi]
theorem led_set {l : List Ch} {p : Nat} {d : Ch} (hok : okLd l) (hp : p < l.length) (hd : okCh d) (hi : d.id = (l.getD p default).id) (hh : d.holds = (l.getD p default).holds) (ha : allC d = allC (l.getD p default)) :
    okLd (l.set p d) ∧ hlL (l.set p d) = hlL l := by
  have hu : Srt.Up Ch.id ltN l := (Srt.chn_up (lt := ltN) Srt.totNat).1 hok.2.2.1
  refine ⟨⟨by rw [List.length_set]; exact hok.1, fun y hy => ?_, ?_, ?_, ?_⟩, hl_eq hp hi hh⟩
  · rcases List.mem_or_eq_of_mem_set hy with h | rfl
    · exact hok.2.1 y h
    · exact hd
  · exact (Srt.chn_up (lt := ltN) Srt.totNat).2 (Srt.set_up hu hp hi)
  · rw [hid_eq hp hh]; exact hok.2.2.2.1
  · rw [totL_set hp ha]; exact hok.2.2.2.2
theorem cpu_ok {c : Ch} {n : Nat} (h : cpuE c n = 0) : okCh c ∧ c.op = true ∧ n ≤ c.rem ∧ cpuC c n = (⟨c.id, c.loc + n, c.rem - n, c.res, c.most, c.holds, c.op⟩, 0) ∧ okCh (cpuC c n).1 ∧ allC (cpuC c n).1 = allC c := by
  have e : cpuC c n = (⟨c.id, c.loc + n, c.rem - n, c.res, c.most, c.holds, c.op⟩, 0) := by rw [cpuC, if_pos h]
  unfold cpuE at h
  split at h
  · cases h
  rename_i h1
  split at h
  · cases h
  rename_i h2
  split at h
  · cases h
  rename_i h3
  have hok : okCh c := Decidable.byContradiction fun hn => h1 (.inl hn)
  obtain ⟨o1, o2, o3, o4, o5, o6, o7, o8, o9, o10⟩ := hok
  have hok : okCh c := ⟨o1, o2, o3, o4, o5, o6, o7, o8, o9, o10⟩
  have hok2 : okCh (⟨c.id, c.loc + n, c.rem - n, c.res, c.most, c.holds, c.op⟩ : Ch) := by
    refine ⟨o1, o2, o3, o4, o5, o6, o7, ?_, ?_, ?_⟩
    · show c.loc + n ≤ MM; unfold MM at *; omega
    · show c.rem - n ≤ MM; unfold MM at *; omega
    · show held c.holds + (c.loc + n) + (c.rem - n) ≤ MM; unfold MM at *; omega
  refine ⟨hok, by simpa using h2, by omega, e, by rw [e]; exact hok2, ?_⟩
  rw [e]
  unfold allC sumsC
  rw [if_pos hok2, if_pos hok]
  show held c.holds + (c.loc + n) + (c.rem - n) = held c.holds + c.loc + c.rem
  omega
theorem lpu_all {l : List Ch} {id n : Nat} (h : (lpuL l id n).2 = 0) : okLd l ∧ ∃ p, p < l.length ∧ (l.getD p default).id = id ∧ cpuE (l.getD p default) n = 0 ∧ (lpuL l id n).1 = l.set p (cpuC (l.getD p default) n).1 ∧ okLd (lpuL l id n).1 ∧ hlL (lpuL l id n).1 = hlL l := by
  unfold lpuL at h ⊢
  split at h
  · rename_i hok
    split at h
    · rename_i ht
      split at h
      · rename_i he
        obtain ⟨h1, h2⟩ := thr_at ht
        obtain ⟨g1, g2, g3, g4, g5, g6⟩ := cpu_ok he
        rw [if_pos hok, if_pos ht, if_pos he]
        have h3 := led_set hok h1 g5 (by rw [g4]) (by rw [g4]) g6
        exact ⟨hok, _, h1, h2, he, rfl, h3⟩
      · rename_i he; exact absurd h he
    · cases h
  · cases h
theorem lpu_fine {l : List Ch} {id n : Nat} (h : (lpuL l id n).2 = 0) : okLd (lpuL l id n).1 := by
  obtain ⟨_, _, _, _, _, _, h, _⟩ := lpu_all h; exact h
theorem iend_2 {l : List Iv} {hash tick n : Nat} {st : Int} : (iendL l hash tick n st).2 = iendE l hash tick n := by
  unfold iendL
  split
  · rename_i h; exact h.symm
  · rfl
theorem iendE_0 {l : List Iv} {hash tick n : Nat} (h : iendE l hash tick n = 0) : okIv l ∧ Srt.pos Iv.hash ltN l hash < l.length ∧ (l.getD (Srt.pos Iv.hash ltN l hash) default).hash = hash ∧ nowI (l.getD (Srt.pos Iv.hash ltN l hash) default) tick = 1 ∧ (l.getD (Srt.pos Iv.hash ltN l hash) default).n ≤ n := by
  unfold iendE at h
  split at h
  · rename_i h1
    split at h
    · rename_i h2
      obtain ⟨g1, g2⟩ := thr_at h2
      split at h
      · cases h
      split at h
      · cases h
      rename_i h4
      split at h
      · cases h
      rename_i h5
      exact ⟨h1, g1, g2, Decidable.byContradiction h4, by omega⟩
    · cases h
  · cases h
theorem iend_all {l : List Iv} {hash tick n : Nat} {st : Int} (h : (iendL l hash tick n st).2 = 0) (hst : 1 ≤ st ∧ st ≤ 3) : okIv l ∧ okIv (iendL l hash tick n st).1 ∧ ∃ p, p < l.length ∧ p = Srt.pos Iv.hash ltN l hash ∧ (l.getD p default).hash = hash ∧ nowI (l.getD p default) tick = 1 ∧ (iendL l hash tick n st).1 = l.set p { l.getD p default with state := st } := by
  rw [iend_2] at h
  obtain ⟨h1, h2, h3, h4, h5⟩ := iendE_0 h
  have e : (iendL l hash tick n st).1 = l.set (Srt.pos Iv.hash ltN l hash) { l.getD (Srt.pos Iv.hash ltN l hash) default with state := st } := by rw [iendL, if_pos h]
  rw [e]
  refine ⟨h1, ⟨by rw [List.length_set]; exact h1.1, fun x hx => ?_, ?_⟩, _, h2, rfl, h3, h4, rfl⟩
  · rcases List.mem_or_eq_of_mem_set hx with h | rfl
    · exact h1.2.1 x h
    · exact ⟨(h1.2.1 _ (mem_getD.2 ⟨_, h2, rfl⟩)).1, hst⟩
  · exact (Srt.chn_up (lt := ltN) Srt.totNat).2 (Srt.set_up ((Srt.chn_up (lt := ltN) Srt.totNat).1 h1.2.2) h2 rfl)
theorem iend_len {l : List Iv} {hash tick n : Nat} {st : Int} (h : (iendL l hash tick n st).2 = 0) : (iendL l hash tick n st).1.length ≤ 256 := by
  rw [iend_2] at h
  have := (iendE_0 h).1.1
  rw [iendL, if_pos h, List.length_set]; exact this
theorem sweep_ok {l : List Iv} {tick : Nat} (h : (sweepI l tick).2 = 0) : okIv l ∧ okIv (sweepI l tick).1 ∧ (sweepI l tick).1 = l.filter fun x => !overI tick x := by
  unfold sweepI at h ⊢
  split at h
  · rename_i h1
    rw [if_pos h1]
    have hs : (l.filter fun x => !overI tick x).Sublist l := List.filter_sublist
    refine ⟨h1, ⟨Nat.le_trans hs.length_le h1.1, fun x hx => h1.2.1 x (hs.subset hx), ?_⟩, rfl⟩
    exact (Srt.chn_up (lt := ltN) Srt.totNat).2 (List.Pairwise.sublist hs ((Srt.chn_up (lt := ltN) Srt.totNat).1 h1.2.2))
  · cases h
end Dm
namespace Dm
open Go Go.Proofs Go.IntWalk
def wreI (v : Wl) (hash : Nat) (n : Nat) (ch : Nat) : List Iv × Int := iendL v.i hash v.tick n 2
def wreC (v : Wl) (hash : Nat) (n : Nat) (ch : Nat) : List Ch × Int := lpuL v.c ch n
def wreF (v : Wl) (hash : Nat) (n : Nat) (ch : Nat) : Fd × Nat × Int := addF v.f 5 hash n
def wreE (v : Wl) (hash : Nat) (n : Nat) (ch : Nat) : Int := if ¬ okW v then 1 else if (wreI v hash n ch).2 ≠ 0 then (wreI v hash n ch).2 else if (wreC v hash n ch).2 ≠ 0 then (wreC v hash n ch).2 else (wreF v hash n ch).2.2
def wreW (v : Wl) (hash : Nat) (n : Nat) (ch : Nat) : Wl × Int := if wreE v hash n ch = 0 then (⟨(wreC v hash n ch).1, v.w, (wreI v hash n ch).1, v.p, (wreF v hash n ch).1, v.next, v.tick⟩, 0) else (zeroW, wreE v hash n ch)
@[go_sem] def wreceive_r (v : Wl) (hash : Nat) (n : Nat) (ch : Nat) : D := .tup [.agg [.sl (chs (wreW v hash n ch).1.c), .sl (wts (wreW v hash n ch).1.w), .sl (ivs (wreW v hash n ch).1.i), .sl (pys (wreW v hash n ch).1.p), .int .u64 (wreW v hash n ch).1.f.next, .sl (evs (wreW v hash n ch).1.f.l), .int .u64 (wreW v hash n ch).1.next, .int .u64 (wreW v hash n ch).1.tick], .int .i64 (wreW v hash n ch).2]
@[go_sem] abbrev n_wreceive : FuncId := 26
@[go_sem] def wreceive_T : Tab := [(37, sp_wcheck), (83, sp_ipay), (85, sp_lpush), (142, sp_fadd), (119, sp_wown)]
theorem wreceive_T_ok : TabOk Tryz.prog wreceive_T := (TabOk.cons sp_wcheck_ok (TabOk.cons sp_ipay_ok (TabOk.cons sp_lpush_ok (TabOk.cons sp_fadd_ok (TabOk.cons sp_wown_ok TabOk.nil)))))
set_option maxRecDepth 8000 in
set_option maxHeartbeats 1000000 in
theorem wreceive_ok (v : Wl) (hash : Nat) (n : Nat) (ch : Nat) (h : v.f.next ≤ 18446744073709551615) : PureFn Tryz.prog 26 [.agg [.sl (chs v.c), .sl (wts v.w), .sl (ivs v.i), .sl (pys v.p), .c (.int .u64 (v.f.next : Int)), .sl (evs v.f.l), .c (.int .u64 (v.next : Int)), .c (.int .u64 (v.tick : Int))], .c (.int .u64 (hash : Int)), .c (.int .u64 (n : Int)), .c (.int .u64 (ch : Int))] (wreceive_r v hash n ch) := by
  refine .of (ac26 wreceive_T_ok (Nat.le_of_ble_eq_true rfl) ?_)
  simp -implicitDefEqProofs only [cdA, go_sem, Go.Proofs.Tryz.f26, reduceIte, reduceCtorEq, Nat.reduceEqDiff, Nat.reduceAdd, Nat.reduceLeDiff, Nat.reduceSub, Nat.reduceMul, Nat.reduceLT, Nat.reduceShiftRight, Nat.reduceMod, Int.reduceLE, Int.reduceLT, Int.reduceToNat, cdB, List.cons.injEq, true_and, and_true]
  refine ac45 wreceive_T_ok (Nat.le_of_ble_eq_true rfl) ?_
  simp -implicitDefEqProofs only [cdA, go_sem, Go.Proofs.Tryz.f45, reduceIte, reduceCtorEq, Nat.reduceEqDiff, Nat.reduceAdd, Nat.reduceLeDiff, Nat.reduceSub, Nat.reduceMul, Nat.reduceLT, Nat.reduceShiftRight, Nat.reduceMod, Int.reduceLE, Int.reduceLT, Int.reduceToNat, cdB, List.cons.injEq, true_and, and_true]
  refine ADraw.run us45_1 wreceive_T_ok follows_mixed (by kernel_rfl) (by kernel_rfl) ?_
  simp -implicitDefEqProofs only [cdA, go_sem, reduceIte, reduceCtorEq, Nat.reduceEqDiff, Nat.reduceAdd, Nat.reduceLeDiff, Nat.reduceSub, Nat.reduceMul, Nat.reduceLT, Nat.reduceShiftRight, Nat.reduceMod, Int.reduceLE, Int.reduceLT, Int.reduceToNat, cdB, List.cons.injEq, true_and, and_true]
  refine ⟨h, ?_⟩
  have hbad : ∀ e : Int, wreE v hash n ch = e → ¬ e = 0 → (chs (wreW v hash n ch).1.c = [] ∧ wts (wreW v hash n ch).1.w = [] ∧ ivs (wreW v hash n ch).1.i = [] ∧ pys (wreW v hash n ch).1.p = [] ∧ 0 = ((wreW v hash n ch).1.f.next : Int) ∧ evs (wreW v hash n ch).1.f.l = [] ∧ 0 = ((wreW v hash n ch).1.next : Int) ∧ 0 = ((wreW v hash n ch).1.tick : Int)) ∧ e = (wreW v hash n ch).2 := fun e h1 h2 => by
    have : wreW v hash n ch = (zeroW, e) := by rw [wreW, if_neg (by rw [h1]; exact h2), h1]
    rw [this]; exact ⟨⟨rfl, rfl, rfl, rfl, rfl, rfl, rfl, rfl⟩, rfl⟩
  by_cases hok : okW v
  rotate_left 1
  · have hck : (chkW v = 0) = False := eq_false fun h => hok (chkW_0.1 h)
    have he : wreE v hash n ch = 1 := by rw [wreE, if_pos hok]
    have hc1 : chkW v = 1 := by rw [chkW, if_neg hok]
    skip
    refine ac75 wreceive_T_ok (Nat.le_of_ble_eq_true rfl) ?_
    simp -implicitDefEqProofs only [cdA, go_sem, Go.Proofs.Tryz.f75, hck, false_implies, true_implies, not_false_eq_true, not_true_eq_false, reduceIte, reduceCtorEq, Nat.reduceEqDiff, Nat.reduceAdd, Nat.reduceLeDiff, Nat.reduceSub, Nat.reduceMul, Nat.reduceLT, Nat.reduceShiftRight, Nat.reduceMod, Int.reduceLE, Int.reduceLT, Int.reduceToNat, cdB, List.cons.injEq, true_and, and_true]
    refine ac53 wreceive_T_ok (Nat.le_of_ble_eq_true rfl) ?_
    simp -implicitDefEqProofs only [cdA, go_sem, Go.Proofs.Tryz.f53, hck, false_implies, true_implies, not_false_eq_true, not_true_eq_false, reduceIte, reduceCtorEq, Nat.reduceEqDiff, Nat.reduceAdd, Nat.reduceLeDiff, Nat.reduceSub, Nat.reduceMul, Nat.reduceLT, Nat.reduceShiftRight, Nat.reduceMod, Int.reduceLE, Int.reduceLT, Int.reduceToNat, cdB, List.cons.injEq, true_and, and_true]
    refine ac56 wreceive_T_ok (Nat.le_of_ble_eq_true rfl) ?_
    simp -implicitDefEqProofs only [cdA, go_sem, Go.Proofs.Tryz.f56, reduceIte, reduceCtorEq, Nat.reduceEqDiff, Nat.reduceAdd, Nat.reduceLeDiff, Nat.reduceSub, Nat.reduceMul, Nat.reduceLT, Nat.reduceShiftRight, Nat.reduceMod, Int.reduceLE, Int.reduceLT, Int.reduceToNat, cdB, List.cons.injEq, true_and, and_true]
    refine ac140 wreceive_T_ok (Nat.le_of_ble_eq_true rfl) ?_
    simp -implicitDefEqProofs only [cdA, go_sem, Go.Proofs.Tryz.f140, hck, false_implies, true_implies, not_false_eq_true, not_true_eq_false, reduceIte, reduceCtorEq, Nat.reduceEqDiff, Nat.reduceAdd, Nat.reduceLeDiff, Nat.reduceSub, Nat.reduceMul, Nat.reduceLT, Nat.reduceShiftRight, Nat.reduceMod, Int.reduceLE, Int.reduceLT, Int.reduceToNat, cdB, List.cons.injEq, true_and, and_true]
    refine ac47 wreceive_T_ok (Nat.le_of_ble_eq_true rfl) ?_
    simp -implicitDefEqProofs only [cdA, go_sem, Go.Proofs.Tryz.f47, hck, false_implies, true_implies, not_false_eq_true, not_true_eq_false, reduceIte, reduceCtorEq, Nat.reduceEqDiff, Nat.reduceAdd, Nat.reduceLeDiff, Nat.reduceSub, Nat.reduceMul, Nat.reduceLT, Nat.reduceShiftRight, Nat.reduceMod, Int.reduceLE, Int.reduceLT, Int.reduceToNat, cdB, List.cons.injEq, true_and, and_true]
    refine ADraw.run us47_2 wreceive_T_ok follows_mixed (by kernel_rfl) (by kernel_rfl) ?_
    simp -implicitDefEqProofs only [cdA, go_sem, hck, false_implies, true_implies, not_false_eq_true, not_true_eq_false, reduceIte, reduceCtorEq, Nat.reduceEqDiff, Nat.reduceAdd, Nat.reduceLeDiff, Nat.reduceSub, Nat.reduceMul, Nat.reduceLT, Nat.reduceShiftRight, Nat.reduceMod, Int.reduceLE, Int.reduceLT, Int.reduceToNat, cdB, List.cons.injEq, true_and, and_true]
    exact hbad _ (he.trans hc1.symm) (by rw [hc1]; decide)
  have hck : (chkW v = 0) = True := eq_true (chkW_0.2 hok)
  refine ac75 wreceive_T_ok (Nat.le_of_ble_eq_true rfl) ?_
  simp -implicitDefEqProofs only [cdA, go_sem, Go.Proofs.Tryz.f75, hck, false_implies, true_implies, not_false_eq_true, not_true_eq_false, reduceIte, reduceCtorEq, Nat.reduceEqDiff, Nat.reduceAdd, Nat.reduceLeDiff, Nat.reduceSub, Nat.reduceMul, Nat.reduceLT, Nat.reduceShiftRight, Nat.reduceMod, Int.reduceLE, Int.reduceLT, Int.reduceToNat, cdB, List.cons.injEq, true_and, and_true]
  refine ac82 wreceive_T_ok (Nat.le_of_ble_eq_true rfl) ?_
  simp -implicitDefEqProofs only [cdA, go_sem, Go.Proofs.Tryz.f82, reduceIte, reduceCtorEq, Nat.reduceEqDiff, Nat.reduceAdd, Nat.reduceLeDiff, Nat.reduceSub, Nat.reduceMul, Nat.reduceLT, Nat.reduceShiftRight, Nat.reduceMod, Int.reduceLE, Int.reduceLT, Int.reduceToNat, cdB, List.cons.injEq, true_and, and_true]
  have eI : iendL v.i hash v.tick n 2 = wreI v hash n ch := rfl
  rw [eI]
  refine ⟨fun hs0 => ?_, fun hs0 => ?_⟩
  rotate_left 1
  · skip
    refine ac53 wreceive_T_ok (Nat.le_of_ble_eq_true rfl) ?_
    simp -implicitDefEqProofs only [cdA, go_sem, Go.Proofs.Tryz.f53, hs0, false_implies, true_implies, not_false_eq_true, not_true_eq_false, reduceIte, reduceCtorEq, Nat.reduceEqDiff, Nat.reduceAdd, Nat.reduceLeDiff, Nat.reduceSub, Nat.reduceMul, Nat.reduceLT, Nat.reduceShiftRight, Nat.reduceMod, Int.reduceLE, Int.reduceLT, Int.reduceToNat, cdB, List.cons.injEq, true_and, and_true]
    refine ac56 wreceive_T_ok (Nat.le_of_ble_eq_true rfl) ?_
    simp -implicitDefEqProofs only [cdA, go_sem, Go.Proofs.Tryz.f56, reduceIte, reduceCtorEq, Nat.reduceEqDiff, Nat.reduceAdd, Nat.reduceLeDiff, Nat.reduceSub, Nat.reduceMul, Nat.reduceLT, Nat.reduceShiftRight, Nat.reduceMod, Int.reduceLE, Int.reduceLT, Int.reduceToNat, cdB, List.cons.injEq, true_and, and_true]
    refine ac140 wreceive_T_ok (Nat.le_of_ble_eq_true rfl) ?_
    simp -implicitDefEqProofs only [cdA, go_sem, Go.Proofs.Tryz.f140, hs0, false_implies, true_implies, not_false_eq_true, not_true_eq_false, reduceIte, reduceCtorEq, Nat.reduceEqDiff, Nat.reduceAdd, Nat.reduceLeDiff, Nat.reduceSub, Nat.reduceMul, Nat.reduceLT, Nat.reduceShiftRight, Nat.reduceMod, Int.reduceLE, Int.reduceLT, Int.reduceToNat, cdB, List.cons.injEq, true_and, and_true]
    refine ac47 wreceive_T_ok (Nat.le_of_ble_eq_true rfl) ?_
    simp -implicitDefEqProofs only [cdA, go_sem, Go.Proofs.Tryz.f47, hs0, false_implies, true_implies, not_false_eq_true, not_true_eq_false, reduceIte, reduceCtorEq, Nat.reduceEqDiff, Nat.reduceAdd, Nat.reduceLeDiff, Nat.reduceSub, Nat.reduceMul, Nat.reduceLT, Nat.reduceShiftRight, Nat.reduceMod, Int.reduceLE, Int.reduceLT, Int.reduceToNat, cdB, List.cons.injEq, true_and, and_true]
    refine ADraw.run us47_2 wreceive_T_ok follows_mixed (by kernel_rfl) (by kernel_rfl) ?_
    simp -implicitDefEqProofs only [cdA, go_sem, hs0, false_implies, true_implies, not_false_eq_true, not_true_eq_false, reduceIte, reduceCtorEq, Nat.reduceEqDiff, Nat.reduceAdd, Nat.reduceLeDiff, Nat.reduceSub, Nat.reduceMul, Nat.reduceLT, Nat.reduceShiftRight, Nat.reduceMod, Int.reduceLE, Int.reduceLT, Int.reduceToNat, cdB, List.cons.injEq, true_and, and_true]
    exact hbad _ (by rw [wreE, if_neg (fun h => h hok), if_pos hs0]) hs0
  refine ac53 wreceive_T_ok (Nat.le_of_ble_eq_true rfl) ?_
  simp -implicitDefEqProofs only [cdA, go_sem, Go.Proofs.Tryz.f53, hck, false_implies, true_implies, not_false_eq_true, not_true_eq_false, reduceIte, reduceCtorEq, Nat.reduceEqDiff, Nat.reduceAdd, Nat.reduceLeDiff, Nat.reduceSub, Nat.reduceMul, Nat.reduceLT, Nat.reduceShiftRight, Nat.reduceMod, Int.reduceLE, Int.reduceLT, Int.reduceToNat, cdB, List.cons.injEq, true_and, and_true]
  refine ac84 wreceive_T_ok (Nat.le_of_ble_eq_true rfl) ?_
  simp -implicitDefEqProofs only [cdA, go_sem, Go.Proofs.Tryz.f84, reduceIte, reduceCtorEq, Nat.reduceEqDiff, Nat.reduceAdd, Nat.reduceLeDiff, Nat.reduceSub, Nat.reduceMul, Nat.reduceLT, Nat.reduceShiftRight, Nat.reduceMod, Int.reduceLE, Int.reduceLT, Int.reduceToNat, cdB, List.cons.injEq, true_and, and_true]
  have eC : lpuL v.c ch n = wreC v hash n ch := rfl
  rw [eC]
  refine ⟨fun hs1 => ?_, fun hs1 => ?_⟩
  rotate_left 1
  · skip
    refine ac56 wreceive_T_ok (Nat.le_of_ble_eq_true rfl) ?_
    simp -implicitDefEqProofs only [cdA, go_sem, Go.Proofs.Tryz.f56, reduceIte, reduceCtorEq, Nat.reduceEqDiff, Nat.reduceAdd, Nat.reduceLeDiff, Nat.reduceSub, Nat.reduceMul, Nat.reduceLT, Nat.reduceShiftRight, Nat.reduceMod, Int.reduceLE, Int.reduceLT, Int.reduceToNat, cdB, List.cons.injEq, true_and, and_true]
    refine ac140 wreceive_T_ok (Nat.le_of_ble_eq_true rfl) ?_
    simp -implicitDefEqProofs only [cdA, go_sem, Go.Proofs.Tryz.f140, hs1, false_implies, true_implies, not_false_eq_true, not_true_eq_false, reduceIte, reduceCtorEq, Nat.reduceEqDiff, Nat.reduceAdd, Nat.reduceLeDiff, Nat.reduceSub, Nat.reduceMul, Nat.reduceLT, Nat.reduceShiftRight, Nat.reduceMod, Int.reduceLE, Int.reduceLT, Int.reduceToNat, cdB, List.cons.injEq, true_and, and_true]
    refine ac47 wreceive_T_ok (Nat.le_of_ble_eq_true rfl) ?_
    simp -implicitDefEqProofs only [cdA, go_sem, Go.Proofs.Tryz.f47, hs1, false_implies, true_implies, not_false_eq_true, not_true_eq_false, reduceIte, reduceCtorEq, Nat.reduceEqDiff, Nat.reduceAdd, Nat.reduceLeDiff, Nat.reduceSub, Nat.reduceMul, Nat.reduceLT, Nat.reduceShiftRight, Nat.reduceMod, Int.reduceLE, Int.reduceLT, Int.reduceToNat, cdB, List.cons.injEq, true_and, and_true]
    refine ADraw.run us47_2 wreceive_T_ok follows_mixed (by kernel_rfl) (by kernel_rfl) ?_
    simp -implicitDefEqProofs only [cdA, go_sem, hs1, false_implies, true_implies, not_false_eq_true, not_true_eq_false, reduceIte, reduceCtorEq, Nat.reduceEqDiff, Nat.reduceAdd, Nat.reduceLeDiff, Nat.reduceSub, Nat.reduceMul, Nat.reduceLT, Nat.reduceShiftRight, Nat.reduceMod, Int.reduceLE, Int.reduceLT, Int.reduceToNat, cdB, List.cons.injEq, true_and, and_true]
    exact hbad _ (by rw [wreE, if_neg (fun h => h hok), if_neg (fun h => h hs0), if_pos hs1]) hs1
  refine ac56 wreceive_T_ok (Nat.le_of_ble_eq_true rfl) ?_
  simp -implicitDefEqProofs only [cdA, go_sem, Go.Proofs.Tryz.f56, reduceIte, reduceCtorEq, Nat.reduceEqDiff, Nat.reduceAdd, Nat.reduceLeDiff, Nat.reduceSub, Nat.reduceMul, Nat.reduceLT, Nat.reduceShiftRight, Nat.reduceMod, Int.reduceLE, Int.reduceLT, Int.reduceToNat, cdB, List.cons.injEq, true_and, and_true]
  refine ac140 wreceive_T_ok (Nat.le_of_ble_eq_true rfl) ?_
  simp -implicitDefEqProofs only [cdA, go_sem, Go.Proofs.Tryz.f140, hck, false_implies, true_implies, not_false_eq_true, not_true_eq_false, reduceIte, reduceCtorEq, Nat.reduceEqDiff, Nat.reduceAdd, Nat.reduceLeDiff, Nat.reduceSub, Nat.reduceMul, Nat.reduceLT, Nat.reduceShiftRight, Nat.reduceMod, Int.reduceLE, Int.reduceLT, Int.reduceToNat, cdB, List.cons.injEq, true_and, and_true]
  refine ac141 wreceive_T_ok (Nat.le_of_ble_eq_true rfl) ?_
  simp -implicitDefEqProofs only [cdA, go_sem, Go.Proofs.Tryz.f141, reduceIte, reduceCtorEq, Nat.reduceEqDiff, Nat.reduceAdd, Nat.reduceLeDiff, Nat.reduceSub, Nat.reduceMul, Nat.reduceLT, Nat.reduceShiftRight, Nat.reduceMod, Int.reduceLE, Int.reduceLT, Int.reduceToNat, cdB, List.cons.injEq, true_and, and_true]
  have eF : addF v.f 5 hash n = wreF v hash n ch := rfl
  rw [eF]
  refine ⟨h, fun hfd => ?_, fun hfd => ?_⟩
  rotate_left 1
  · skip
    refine ac47 wreceive_T_ok (Nat.le_of_ble_eq_true rfl) ?_
    simp -implicitDefEqProofs only [cdA, go_sem, Go.Proofs.Tryz.f47, hfd, false_implies, true_implies, not_false_eq_true, not_true_eq_false, reduceIte, reduceCtorEq, Nat.reduceEqDiff, Nat.reduceAdd, Nat.reduceLeDiff, Nat.reduceSub, Nat.reduceMul, Nat.reduceLT, Nat.reduceShiftRight, Nat.reduceMod, Int.reduceLE, Int.reduceLT, Int.reduceToNat, cdB, List.cons.injEq, true_and, and_true]
    refine ADraw.run us47_2 wreceive_T_ok follows_mixed (by kernel_rfl) (by kernel_rfl) ?_
    simp -implicitDefEqProofs only [cdA, go_sem, hfd, false_implies, true_implies, not_false_eq_true, not_true_eq_false, reduceIte, reduceCtorEq, Nat.reduceEqDiff, Nat.reduceAdd, Nat.reduceLeDiff, Nat.reduceSub, Nat.reduceMul, Nat.reduceLT, Nat.reduceShiftRight, Nat.reduceMod, Int.reduceLE, Int.reduceLT, Int.reduceToNat, cdB, List.cons.injEq, true_and, and_true]
    exact hbad _ (by rw [wreE, if_neg (fun h => h hok), if_neg (fun h => h hs0), if_neg (fun h => h hs1)]) hfd
  have hsm : smallW ⟨(wreC v hash n ch).1, v.w, (wreI v hash n ch).1, v.p, (wreF v hash n ch).1, v.next, v.tick⟩ := by
    have h2 := small_ok hok
    have h50 := iend_len hs0
    have h51 := lpu_fine hs1
    exact ⟨(by have := h51.1; show (wreC v hash n ch).1.length ≤ _; unfold wreC; (try dsimp only); omega), (fun d hd => by have := (h51.2.1 d hd).2.2.1; omega), h2.2.2.1, (by show (wreI v hash n ch).1.length ≤ _; unfold wreI; omega), h2.2.2.2.2.1, (by show (wreF v hash n ch).1.l.length ≤ _; unfold wreF; exact Nat.le_trans add_len (by decide))⟩
  have hfin : wreW v hash n ch = (⟨(wreC v hash n ch).1, v.w, (wreI v hash n ch).1, v.p, (wreF v hash n ch).1, v.next, v.tick⟩, 0) := by
    have : wreE v hash n ch = 0 := by rw [wreE, if_neg (fun h => h hok), if_neg (fun h => h hs0), if_neg (fun h => h hs1)]; exact hfd
    rw [wreW, if_pos this]
  refine ac47 wreceive_T_ok (Nat.le_of_ble_eq_true rfl) ?_
  simp -implicitDefEqProofs only [cdA, go_sem, Go.Proofs.Tryz.f47, hck, eq_true hsm, false_implies, true_implies, not_false_eq_true, not_true_eq_false, reduceIte, reduceCtorEq, Nat.reduceEqDiff, Nat.reduceAdd, Nat.reduceLeDiff, Nat.reduceSub, Nat.reduceMul, Nat.reduceLT, Nat.reduceShiftRight, Nat.reduceMod, Int.reduceLE, Int.reduceLT, Int.reduceToNat, cdB, List.cons.injEq, true_and, and_true]
  rw [hfin]
  exact ⟨⟨rfl, rfl, rfl, rfl, rfl, rfl, rfl, rfl⟩, rfl⟩
@[go_sem] def wreceive_p (v : Wl) (hash : Nat) (n : Nat) (ch : Nat) : Prop := (v.f.next ≤ 18446744073709551615)
def sp_wreceive : List D → Option (Prop × D × Fr)
  | [.agg [.c (.sl z2), .c (.sl z3), .c (.sl z4), .c (.sl z5), .c (.int .u64 z7), .c (.sl z8), .c (.int .u64 z9), .c (.int .u64 z10)], .c (.int .u64 z11), .c (.int .u64 z12), .c (.int .u64 z13)] => some (z2 = chs (dchs z2) ∧ z3 = wts (dwts z3) ∧ z4 = ivs (divs z4) ∧ z5 = pys (dpys z5) ∧ z7 = (z7.toNat : Int) ∧ z8 = evs (devs z8) ∧ z9 = (z9.toNat : Int) ∧ z10 = (z10.toNat : Int) ∧ z11 = (z11.toNat : Int) ∧ z12 = (z12.toNat : Int) ∧ z13 = (z13.toNat : Int) ∧ wreceive_p (⟨(dchs z2), (dwts z3), (divs z4), (dpys z5), (⟨z7.toNat, (devs z8)⟩ : Fd), z9.toNat, z10.toNat⟩ : Wl) z11.toNat z12.toNat z13.toNat, wreceive_r (⟨(dchs z2), (dwts z3), (divs z4), (dpys z5), (⟨z7.toNat, (devs z8)⟩ : Fd), z9.toNat, z10.toNat⟩ : Wl) z11.toNat z12.toNat z13.toNat, [])
  | _ => none
attribute [go_sem] sp_wreceive
theorem sp_wreceive_ok : ∀ rs p r fr, sp_wreceive rs = some (p, r, fr) → p → FnOk Tryz.prog 26 rs r fr := by
  intro rs p r fr h hp
  unfold sp_wreceive at h
  split at h <;> cases h
  obtain ⟨hc0, hc1, hc2, hc3, hc4, hc5, hc6, hc7, hc8, hc9, hc10, hp⟩ := hp
  rename_i z2 z3 z4 z5 z7 z8 z9 z10 z11 z12 z13
  obtain ⟨z2, rfl⟩ : ∃ m, z2 = chs m := ⟨_, hc0⟩
  obtain ⟨z3, rfl⟩ : ∃ m, z3 = wts m := ⟨_, hc1⟩
  obtain ⟨z4, rfl⟩ : ∃ m, z4 = ivs m := ⟨_, hc2⟩
  obtain ⟨z5, rfl⟩ : ∃ m, z5 = pys m := ⟨_, hc3⟩
  obtain ⟨z7, rfl⟩ : ∃ m : Nat, z7 = m := ⟨_, hc4⟩
  obtain ⟨z8, rfl⟩ : ∃ m, z8 = evs m := ⟨_, hc5⟩
  obtain ⟨z9, rfl⟩ : ∃ m : Nat, z9 = m := ⟨_, hc6⟩
  obtain ⟨z10, rfl⟩ : ∃ m : Nat, z10 = m := ⟨_, hc7⟩
  obtain ⟨z11, rfl⟩ : ∃ m : Nat, z11 = m := ⟨_, hc8⟩
  obtain ⟨z12, rfl⟩ : ∃ m : Nat, z12 = m := ⟨_, hc9⟩
  obtain ⟨z13, rfl⟩ : ∃ m : Nat, z13 = m := ⟨_, hc10⟩
  simp only [Int.toNat_natCast, dchs_chs, devs_evs, divs_ivs, dpys_pys, dwts_wts]
  simp only [Int.toNat_natCast, dchs_chs, devs_evs, divs_ivs, dpys_pys, dwts_wts, wreceive_p] at hp
  exact wreceive_ok ⟨z2, z3, z4, z5, ⟨z7, z8⟩, z9, z10⟩ z11 z12 z13 hp
end Dm
namespace Dm
open Go Go.Proofs Go.IntWalk
def wcaI (v : Wl) (hash : Nat) : List Iv × Int := iendL v.i hash v.tick MM 3
def wcaF (v : Wl) (hash : Nat) : Fd × Nat × Int := addF v.f 4 hash 0
def wcaE (v : Wl) (hash : Nat) : Int := if ¬ okW v then 1 else if (wcaI v hash).2 ≠ 0 then (wcaI v hash).2 else (wcaF v hash).2.2
def wcaW (v : Wl) (hash : Nat) : Wl × Int := if wcaE v hash = 0 then (⟨v.c, v.w, (wcaI v hash).1, v.p, (wcaF v hash).1, v.next, v.tick⟩, 0) else (zeroW, wcaE v hash)
@[go_sem] def wcancel_r (v : Wl) (hash : Nat) : D := .tup [.agg [.sl (chs (wcaW v hash).1.c), .sl (wts (wcaW v hash).1.w), .sl (ivs (wcaW v hash).1.i), .sl (pys (wcaW v hash).1.p), .int .u64 (wcaW v hash).1.f.next, .sl (evs (wcaW v hash).1.f.l), .int .u64 (wcaW v hash).1.next, .int .u64 (wcaW v hash).1.tick], .int .i64 (wcaW v hash).2]
@[go_sem] abbrev n_wcancel : FuncId := 24
@[go_sem] def wcancel_T : Tab := [(37, sp_wcheck), (80, sp_icancel), (142, sp_fadd), (119, sp_wown)]
theorem wcancel_T_ok : TabOk Tryz.prog wcancel_T := (TabOk.cons sp_wcheck_ok (TabOk.cons sp_icancel_ok (TabOk.cons sp_fadd_ok (TabOk.cons sp_wown_ok TabOk.nil))))
set_option maxRecDepth 8000 in
set_option maxHeartbeats 1000000 in
theorem wcancel_ok (v : Wl) (hash : Nat) (h : v.f.next ≤ 18446744073709551615) : PureFn Tryz.prog 24 [.agg [.sl (chs v.c), .sl (wts v.w), .sl (ivs v.i), .sl (pys v.p), .c (.int .u64 (v.f.next : Int)), .sl (evs v.f.l), .c (.int .u64 (v.next : Int)), .c (.int .u64 (v.tick : Int))], .c (.int .u64 (hash : Int))] (wcancel_r v hash) := by
  refine .of (ac24 wcancel_T_ok (Nat.le_of_ble_eq_true rfl) ?_)
  simp -implicitDefEqProofs only [cdA, go_sem, Go.Proofs.Tryz.f24, reduceIte, reduceCtorEq, Nat.reduceEqDiff, Nat.reduceAdd, Nat.reduceLeDiff, Nat.reduceSub, Nat.reduceMul, Nat.reduceLT, Nat.reduceShiftRight, Nat.reduceMod, Int.reduceLE, Int.reduceLT, Int.reduceToNat, cdB, List.cons.injEq, true_and, and_true]
  refine ac45 wcancel_T_ok (Nat.le_of_ble_eq_true rfl) ?_
  simp -implicitDefEqProofs only [cdA, go_sem, Go.Proofs.Tryz.f45, reduceIte, reduceCtorEq, Nat.reduceEqDiff, Nat.reduceAdd, Nat.reduceLeDiff, Nat.reduceSub, Nat.reduceMul, Nat.reduceLT, Nat.reduceShiftRight, Nat.reduceMod, Int.reduceLE, Int.reduceLT, Int.reduceToNat, cdB, List.cons.injEq, true_and, and_true]
  refine ADraw.run us45_1 wcancel_T_ok follows_mixed (by kernel_rfl) (by kernel_rfl) ?_
  simp -implicitDefEqProofs only [cdA, go_sem, reduceIte, reduceCtorEq, Nat.reduceEqDiff, Nat.reduceAdd, Nat.reduceLeDiff, Nat.reduceSub, Nat.reduceMul, Nat.reduceLT, Nat.reduceShiftRight, Nat.reduceMod, Int.reduceLE, Int.reduceLT, Int.reduceToNat, cdB, List.cons.injEq, true_and, and_true]
  refine ⟨h, ?_⟩
  have hbad : ∀ e : Int, wcaE v hash = e → ¬ e = 0 → (chs (wcaW v hash).1.c = [] ∧ wts (wcaW v hash).1.w = [] ∧ ivs (wcaW v hash).1.i = [] ∧ pys (wcaW v hash).1.p = [] ∧ 0 = ((wcaW v hash).1.f.next : Int) ∧ evs (wcaW v hash).1.f.l = [] ∧ 0 = ((wcaW v hash).1.next : Int) ∧ 0 = ((wcaW v hash).1.tick : Int)) ∧ e = (wcaW v hash).2 := fun e h1 h2 => by
    have : wcaW v hash = (zeroW, e) := by rw [wcaW, if_neg (by rw [h1]; exact h2), h1]
    rw [this]; exact ⟨⟨rfl, rfl, rfl, rfl, rfl, rfl, rfl, rfl⟩, rfl⟩
  by_cases hok : okW v
  rotate_left 1
  · have hck : (chkW v = 0) = False := eq_false fun h => hok (chkW_0.1 h)
    have he : wcaE v hash = 1 := by rw [wcaE, if_pos hok]
    have hc1 : chkW v = 1 := by rw [chkW, if_neg hok]
    skip
    refine ac75 wcancel_T_ok (Nat.le_of_ble_eq_true rfl) ?_
    simp -implicitDefEqProofs only [cdA, go_sem, Go.Proofs.Tryz.f75, hck, false_implies, true_implies, not_false_eq_true, not_true_eq_false, reduceIte, reduceCtorEq, Nat.reduceEqDiff, Nat.reduceAdd, Nat.reduceLeDiff, Nat.reduceSub, Nat.reduceMul, Nat.reduceLT, Nat.reduceShiftRight, Nat.reduceMod, Int.reduceLE, Int.reduceLT, Int.reduceToNat, cdB, List.cons.injEq, true_and, and_true]
    refine ac56 wcancel_T_ok (Nat.le_of_ble_eq_true rfl) ?_
    simp -implicitDefEqProofs only [cdA, go_sem, Go.Proofs.Tryz.f56, reduceIte, reduceCtorEq, Nat.reduceEqDiff, Nat.reduceAdd, Nat.reduceLeDiff, Nat.reduceSub, Nat.reduceMul, Nat.reduceLT, Nat.reduceShiftRight, Nat.reduceMod, Int.reduceLE, Int.reduceLT, Int.reduceToNat, cdB, List.cons.injEq, true_and, and_true]
    refine ac140 wcancel_T_ok (Nat.le_of_ble_eq_true rfl) ?_
    simp -implicitDefEqProofs only [cdA, go_sem, Go.Proofs.Tryz.f140, hck, false_implies, true_implies, not_false_eq_true, not_true_eq_false, reduceIte, reduceCtorEq, Nat.reduceEqDiff, Nat.reduceAdd, Nat.reduceLeDiff, Nat.reduceSub, Nat.reduceMul, Nat.reduceLT, Nat.reduceShiftRight, Nat.reduceMod, Int.reduceLE, Int.reduceLT, Int.reduceToNat, cdB, List.cons.injEq, true_and, and_true]
    refine ac47 wcancel_T_ok (Nat.le_of_ble_eq_true rfl) ?_
    simp -implicitDefEqProofs only [cdA, go_sem, Go.Proofs.Tryz.f47, hck, false_implies, true_implies, not_false_eq_true, not_true_eq_false, reduceIte, reduceCtorEq, Nat.reduceEqDiff, Nat.reduceAdd, Nat.reduceLeDiff, Nat.reduceSub, Nat.reduceMul, Nat.reduceLT, Nat.reduceShiftRight, Nat.reduceMod, Int.reduceLE, Int.reduceLT, Int.reduceToNat, cdB, List.cons.injEq, true_and, and_true]
    refine ADraw.run us47_2 wcancel_T_ok follows_mixed (by kernel_rfl) (by kernel_rfl) ?_
    simp -implicitDefEqProofs only [cdA, go_sem, hck, false_implies, true_implies, not_false_eq_true, not_true_eq_false, reduceIte, reduceCtorEq, Nat.reduceEqDiff, Nat.reduceAdd, Nat.reduceLeDiff, Nat.reduceSub, Nat.reduceMul, Nat.reduceLT, Nat.reduceShiftRight, Nat.reduceMod, Int.reduceLE, Int.reduceLT, Int.reduceToNat, cdB, List.cons.injEq, true_and, and_true]
    exact hbad _ (he.trans hc1.symm) (by rw [hc1]; decide)
  have hck : (chkW v = 0) = True := eq_true (chkW_0.2 hok)
  refine ac75 wcancel_T_ok (Nat.le_of_ble_eq_true rfl) ?_
  simp -implicitDefEqProofs only [cdA, go_sem, Go.Proofs.Tryz.f75, hck, false_implies, true_implies, not_false_eq_true, not_true_eq_false, reduceIte, reduceCtorEq, Nat.reduceEqDiff, Nat.reduceAdd, Nat.reduceLeDiff, Nat.reduceSub, Nat.reduceMul, Nat.reduceLT, Nat.reduceShiftRight, Nat.reduceMod, Int.reduceLE, Int.reduceLT, Int.reduceToNat, cdB, List.cons.injEq, true_and, and_true]
  refine ac79 wcancel_T_ok (Nat.le_of_ble_eq_true rfl) ?_
  simp -implicitDefEqProofs only [cdA, go_sem, Go.Proofs.Tryz.f79, reduceIte, reduceCtorEq, Nat.reduceEqDiff, Nat.reduceAdd, Nat.reduceLeDiff, Nat.reduceSub, Nat.reduceMul, Nat.reduceLT, Nat.reduceShiftRight, Nat.reduceMod, Int.reduceLE, Int.reduceLT, Int.reduceToNat, cdB, List.cons.injEq, true_and, and_true]
  have eI : iendL v.i hash v.tick MM 3 = wcaI v hash := rfl
  rw [eI]
  refine ⟨fun hs0 => ?_, fun hs0 => ?_⟩
  rotate_left 1
  · skip
    refine ac56 wcancel_T_ok (Nat.le_of_ble_eq_true rfl) ?_
    simp -implicitDefEqProofs only [cdA, go_sem, Go.Proofs.Tryz.f56, reduceIte, reduceCtorEq, Nat.reduceEqDiff, Nat.reduceAdd, Nat.reduceLeDiff, Nat.reduceSub, Nat.reduceMul, Nat.reduceLT, Nat.reduceShiftRight, Nat.reduceMod, Int.reduceLE, Int.reduceLT, Int.reduceToNat, cdB, List.cons.injEq, true_and, and_true]
    refine ac140 wcancel_T_ok (Nat.le_of_ble_eq_true rfl) ?_
    simp -implicitDefEqProofs only [cdA, go_sem, Go.Proofs.Tryz.f140, hs0, false_implies, true_implies, not_false_eq_true, not_true_eq_false, reduceIte, reduceCtorEq, Nat.reduceEqDiff, Nat.reduceAdd, Nat.reduceLeDiff, Nat.reduceSub, Nat.reduceMul, Nat.reduceLT, Nat.reduceShiftRight, Nat.reduceMod, Int.reduceLE, Int.reduceLT, Int.reduceToNat, cdB, List.cons.injEq, true_and, and_true]
    refine ac47 wcancel_T_ok (Nat.le_of_ble_eq_true rfl) ?_
    simp -implicitDefEqProofs only [cdA, go_sem, Go.Proofs.Tryz.f47, hs0, false_implies, true_implies, not_false_eq_true, not_true_eq_false, reduceIte, reduceCtorEq, Nat.reduceEqDiff, Nat.reduceAdd, Nat.reduceLeDiff, Nat.reduceSub, Nat.reduceMul, Nat.reduceLT, Nat.reduceShiftRight, Nat.reduceMod, Int.reduceLE, Int.reduceLT, Int.reduceToNat, cdB, List.cons.injEq, true_and, and_true]
    refine ADraw.run us47_2 wcancel_T_ok follows_mixed (by kernel_rfl) (by kernel_rfl) ?_
    simp -implicitDefEqProofs only [cdA, go_sem, hs0, false_implies, true_implies, not_false_eq_true, not_true_eq_false, reduceIte, reduceCtorEq, Nat.reduceEqDiff, Nat.reduceAdd, Nat.reduceLeDiff, Nat.reduceSub, Nat.reduceMul, Nat.reduceLT, Nat.reduceShiftRight, Nat.reduceMod, Int.reduceLE, Int.reduceLT, Int.reduceToNat, cdB, List.cons.injEq, true_and, and_true]
    exact hbad _ (by rw [wcaE, if_neg (fun h => h hok), if_pos hs0]) hs0
  refine ac56 wcancel_T_ok (Nat.le_of_ble_eq_true rfl) ?_
  simp -implicitDefEqProofs only [cdA, go_sem, Go.Proofs.Tryz.f56, reduceIte, reduceCtorEq, Nat.reduceEqDiff, Nat.reduceAdd, Nat.reduceLeDiff, Nat.reduceSub, Nat.reduceMul, Nat.reduceLT, Nat.reduceShiftRight, Nat.reduceMod, Int.reduceLE, Int.reduceLT, Int.reduceToNat, cdB, List.cons.injEq, true_and, and_true]
  refine ac140 wcancel_T_ok (Nat.le_of_ble_eq_true rfl) ?_
  simp -implicitDefEqProofs only [cdA, go_sem, Go.Proofs.Tryz.f140, hck, false_implies, true_implies, not_false_eq_true, not_true_eq_false, reduceIte, reduceCtorEq, Nat.reduceEqDiff, Nat.reduceAdd, Nat.reduceLeDiff, Nat.reduceSub, Nat.reduceMul, Nat.reduceLT, Nat.reduceShiftRight, Nat.reduceMod, Int.reduceLE, Int.reduceLT, Int.reduceToNat, cdB, List.cons.injEq, true_and, and_true]
  refine ac141 wcancel_T_ok (Nat.le_of_ble_eq_true rfl) ?_
  simp -implicitDefEqProofs only [cdA, go_sem, Go.Proofs.Tryz.f141, reduceIte, reduceCtorEq, Nat.reduceEqDiff, Nat.reduceAdd, Nat.reduceLeDiff, Nat.reduceSub, Nat.reduceMul, Nat.reduceLT, Nat.reduceShiftRight, Nat.reduceMod, Int.reduceLE, Int.reduceLT, Int.reduceToNat, cdB, List.cons.injEq, true_and, and_true]
  have eF : addF v.f 4 hash 0 = wcaF v hash := rfl
  rw [eF]
  refine ⟨h, fun hfd => ?_, fun hfd => ?_⟩
  rotate_left 1
  · skip
    refine ac47 wcancel_T_ok (Nat.le_of_ble_eq_true rfl) ?_
    simp -implicitDefEqProofs only [cdA, go_sem, Go.Proofs.Tryz.f47, hfd, false_implies, true_implies, not_false_eq_true, not_true_eq_false, reduceIte, reduceCtorEq, Nat.reduceEqDiff, Nat.reduceAdd, Nat.reduceLeDiff, Nat.reduceSub, Nat.reduceMul, Nat.reduceLT, Nat.reduceShiftRight, Nat.reduceMod, Int.reduceLE, Int.reduceLT, Int.reduceToNat, cdB, List.cons.injEq, true_and, and_true]
    refine ADraw.run us47_2 wcancel_T_ok follows_mixed (by kernel_rfl) (by kernel_rfl) ?_
    simp -implicitDefEqProofs only [cdA, go_sem, hfd, false_implies, true_implies, not_false_eq_true, not_true_eq_false, reduceIte, reduceCtorEq, Nat.reduceEqDiff, Nat.reduceAdd, Nat.reduceLeDiff, Nat.reduceSub, Nat.reduceMul, Nat.reduceLT, Nat.reduceShiftRight, Nat.reduceMod, Int.reduceLE, Int.reduceLT, Int.reduceToNat, cdB, List.cons.injEq, true_and, and_true]
    exact hbad _ (by rw [wcaE, if_neg (fun h => h hok), if_neg (fun h => h hs0)]) hfd
  have hsm : smallW ⟨v.c, v.w, (wcaI v hash).1, v.p, (wcaF v hash).1, v.next, v.tick⟩ := by
    have h2 := small_ok hok
    have h50 := iend_len hs0
    exact ⟨h2.1, h2.2.1, h2.2.2.1, (by show (wcaI v hash).1.length ≤ _; unfold wcaI; omega), h2.2.2.2.2.1, (by show (wcaF v hash).1.l.length ≤ _; unfold wcaF; exact Nat.le_trans add_len (by decide))⟩
  have hfin : wcaW v hash = (⟨v.c, v.w, (wcaI v hash).1, v.p, (wcaF v hash).1, v.next, v.tick⟩, 0) := by
    have : wcaE v hash = 0 := by rw [wcaE, if_neg (fun h => h hok), if_neg (fun h => h hs0)]; exact hfd
    rw [wcaW, if_pos this]
  refine ac47 wcancel_T_ok (Nat.le_of_ble_eq_true rfl) ?_
  simp -implicitDefEqProofs only [cdA, go_sem, Go.Proofs.Tryz.f47, hck, eq_true hsm, false_implies, true_implies, not_false_eq_true, not_true_eq_false, reduceIte, reduceCtorEq, Nat.reduceEqDiff, Nat.reduceAdd, Nat.reduceLeDiff, Nat.reduceSub, Nat.reduceMul, Nat.reduceLT, Nat.reduceShiftRight, Nat.reduceMod, Int.reduceLE, Int.reduceLT, Int.reduceToNat, cdB, List.cons.injEq, true_and, and_true]
  rw [hfin]
  exact ⟨⟨rfl, rfl, rfl, rfl, rfl, rfl, rfl, rfl⟩, rfl⟩
@[go_sem] def wcancel_p (v : Wl) (hash : Nat) : Prop := (v.f.next ≤ 18446744073709551615)
def sp_wcancel : List D → Option (Prop × D × Fr)
  | [.agg [.c (.sl z2), .c (.sl z3), .c (.sl z4), .c (.sl z5), .c (.int .u64 z7), .c (.sl z8), .c (.int .u64 z9), .c (.int .u64 z10)], .c (.int .u64 z11)] => some (z2 = chs (dchs z2) ∧ z3 = wts (dwts z3) ∧ z4 = ivs (divs z4) ∧ z5 = pys (dpys z5) ∧ z7 = (z7.toNat : Int) ∧ z8 = evs (devs z8) ∧ z9 = (z9.toNat : Int) ∧ z10 = (z10.toNat : Int) ∧ z11 = (z11.toNat : Int) ∧ wcancel_p (⟨(dchs z2), (dwts z3), (divs z4), (dpys z5), (⟨z7.toNat, (devs z8)⟩ : Fd), z9.toNat, z10.toNat⟩ : Wl) z11.toNat, wcancel_r (⟨(dchs z2), (dwts z3), (divs z4), (dpys z5), (⟨z7.toNat, (devs z8)⟩ : Fd), z9.toNat, z10.toNat⟩ : Wl) z11.toNat, [])
  | _ => none
attribute [go_sem] sp_wcancel
theorem sp_wcancel_ok : ∀ rs p r fr, sp_wcancel rs = some (p, r, fr) → p → FnOk Tryz.prog 24 rs r fr := by
  intro rs p r fr h hp
  unfold sp_wcancel at h
  split at h <;> cases h
  obtain ⟨hc0, hc1, hc2, hc3, hc4, hc5, hc6, hc7, hc8, hp⟩ := hp
  rename_i z2 z3 z4 z5 z7 z8 z9 z10 z11
  obtain ⟨z2, rfl⟩ : ∃ m, z2 = chs m := ⟨_, hc0⟩
  obtain ⟨z3, rfl⟩ : ∃ m, z3 = wts m := ⟨_, hc1⟩
  obtain ⟨z4, rfl⟩ : ∃ m, z4 = ivs m := ⟨_, hc2⟩
  obtain ⟨z5, rfl⟩ : ∃ m, z5 = pys m := ⟨_, hc3⟩
  obtain ⟨z7, rfl⟩ : ∃ m : Nat, z7 = m := ⟨_, hc4⟩
  obtain ⟨z8, rfl⟩ : ∃ m, z8 = evs m := ⟨_, hc5⟩
  obtain ⟨z9, rfl⟩ : ∃ m : Nat, z9 = m := ⟨_, hc6⟩
  obtain ⟨z10, rfl⟩ : ∃ m : Nat, z10 = m := ⟨_, hc7⟩
  obtain ⟨z11, rfl⟩ : ∃ m : Nat, z11 = m := ⟨_, hc8⟩
  simp only [Int.toNat_natCast, dchs_chs, devs_evs, divs_ivs, dpys_pys, dwts_wts]
  simp only [Int.toNat_natCast, dchs_chs, devs_evs, divs_ivs, dpys_pys, dwts_wts, wcancel_p] at hp
  exact wcancel_ok ⟨z2, z3, z4, z5, ⟨z7, z8⟩, z9, z10⟩ z11 hp
end Dm
namespace Dm
open Go Go.Proofs Go.IntWalk
end Dm
namespace Dm
open Go Go.Proofs Go.IntWalk
theorem i13_0 : ((13 : Int) = 0) = False := eq_false (by decide)
def wlaE (v : Wl) (t : Nat) : Int := if ¬ okW v then 1 else if t < v.tick then 13 else 0
def wlaW (v : Wl) (t : Nat) : Wl × Int := if wlaE v t = 0 then ({ v with i := (sweepI v.i t).1, tick := t }, 0) else (zeroW, wlaE v t)
@[go_sem] def wlater_r (v : Wl) (t : Nat) : D := .tup [.agg [.sl (chs (wlaW v t).1.c), .sl (wts (wlaW v t).1.w), .sl (ivs (wlaW v t).1.i), .sl (pys (wlaW v t).1.p), .int .u64 (wlaW v t).1.f.next, .sl (evs (wlaW v t).1.f.l), .int .u64 (wlaW v t).1.next, .int .u64 (wlaW v t).1.tick], .int .i64 (wlaW v t).2]
@[go_sem] abbrev n_wlater : FuncId := 35
@[go_sem] def wlater_T : Tab := [(37, sp_wcheck), (100, sp_isweep), (119, sp_wown)]
theorem wlater_T_ok : TabOk Tryz.prog wlater_T := (TabOk.cons sp_wcheck_ok (TabOk.cons sp_isweep_ok (TabOk.cons sp_wown_ok TabOk.nil)))
set_option maxRecDepth 8000 in
set_option maxHeartbeats 1000000 in
theorem wlater_ok (v : Wl) (t : Nat) (h : v.f.next ≤ 18446744073709551615) : PureFn Tryz.prog 35 [.agg [.sl (chs v.c), .sl (wts v.w), .sl (ivs v.i), .sl (pys v.p), .c (.int .u64 (v.f.next : Int)), .sl (evs v.f.l), .c (.int .u64 (v.next : Int)), .c (.int .u64 (v.tick : Int))], .c (.int .u64 (t : Int))] (wlater_r v t) := by
  refine .of (ac35 wlater_T_ok (Nat.le_of_ble_eq_true rfl) ?_)
  simp -implicitDefEqProofs only [cdA, go_sem, Go.Proofs.Tryz.f35, reduceIte, reduceCtorEq, Nat.reduceEqDiff, Nat.reduceAdd, Nat.reduceLeDiff, Nat.reduceSub, Nat.reduceMul, Nat.reduceLT, Nat.reduceShiftRight, Nat.reduceMod, Int.reduceLE, Int.reduceLT, Int.reduceToNat, cdB, List.cons.injEq, true_and, and_true]
  refine ac45 wlater_T_ok (Nat.le_of_ble_eq_true rfl) ?_
  simp -implicitDefEqProofs only [cdA, go_sem, Go.Proofs.Tryz.f45, reduceIte, reduceCtorEq, Nat.reduceEqDiff, Nat.reduceAdd, Nat.reduceLeDiff, Nat.reduceSub, Nat.reduceMul, Nat.reduceLT, Nat.reduceShiftRight, Nat.reduceMod, Int.reduceLE, Int.reduceLT, Int.reduceToNat, cdB, List.cons.injEq, true_and, and_true]
  refine ADraw.run us45_1 wlater_T_ok follows_mixed (by kernel_rfl) (by kernel_rfl) ?_
  simp -implicitDefEqProofs only [cdA, go_sem, reduceIte, reduceCtorEq, Nat.reduceEqDiff, Nat.reduceAdd, Nat.reduceLeDiff, Nat.reduceSub, Nat.reduceMul, Nat.reduceLT, Nat.reduceShiftRight, Nat.reduceMod, Int.reduceLE, Int.reduceLT, Int.reduceToNat, cdB, List.cons.injEq, true_and, and_true]
  refine ⟨h, ?_⟩
  have hbad : ∀ e : Int, wlaE v t = e → ¬ e = 0 → (chs (wlaW v t).1.c = [] ∧ wts (wlaW v t).1.w = [] ∧ ivs (wlaW v t).1.i = [] ∧ pys (wlaW v t).1.p = [] ∧ 0 = ((wlaW v t).1.f.next : Int) ∧ evs (wlaW v t).1.f.l = [] ∧ 0 = ((wlaW v t).1.next : Int) ∧ 0 = ((wlaW v t).1.tick : Int)) ∧ e = (wlaW v t).2 := fun e h1 h2 => by
    have : wlaW v t = (zeroW, e) := by rw [wlaW, if_neg (by rw [h1]; exact h2), h1]
    rw [this]; exact ⟨⟨rfl, rfl, rfl, rfl, rfl, rfl, rfl, rfl⟩, rfl⟩
  by_cases hok : okW v
  rotate_left 1
  · have hc1 : chkW v = 1 := by rw [chkW, if_neg hok]
    rw [hc1]
    refine ac46 wlater_T_ok (Nat.le_of_ble_eq_true rfl) ?_
    simp -implicitDefEqProofs only [cdA, go_sem, Go.Proofs.Tryz.f46, i1_0, false_implies, true_implies, not_false_eq_true, not_true_eq_false, reduceIte, reduceCtorEq, Nat.reduceEqDiff, Nat.reduceAdd, Nat.reduceLeDiff, Nat.reduceSub, Nat.reduceMul, Nat.reduceLT, Nat.reduceShiftRight, Nat.reduceMod, Int.reduceLE, Int.reduceLT, Int.reduceToNat, cdB, List.cons.injEq, true_and, and_true]
    refine ac75 wlater_T_ok (Nat.le_of_ble_eq_true rfl) ?_
    simp -implicitDefEqProofs only [cdA, go_sem, Go.Proofs.Tryz.f75, i1_0, false_implies, true_implies, not_false_eq_true, not_true_eq_false, reduceIte, reduceCtorEq, Nat.reduceEqDiff, Nat.reduceAdd, Nat.reduceLeDiff, Nat.reduceSub, Nat.reduceMul, Nat.reduceLT, Nat.reduceShiftRight, Nat.reduceMod, Int.reduceLE, Int.reduceLT, Int.reduceToNat, cdB, List.cons.injEq, true_and, and_true]
    refine ac47 wlater_T_ok (Nat.le_of_ble_eq_true rfl) ?_
    simp -implicitDefEqProofs only [cdA, go_sem, Go.Proofs.Tryz.f47, i1_0, false_implies, true_implies, not_false_eq_true, not_true_eq_false, reduceIte, reduceCtorEq, Nat.reduceEqDiff, Nat.reduceAdd, Nat.reduceLeDiff, Nat.reduceSub, Nat.reduceMul, Nat.reduceLT, Nat.reduceShiftRight, Nat.reduceMod, Int.reduceLE, Int.reduceLT, Int.reduceToNat, cdB, List.cons.injEq, true_and, and_true]
    refine ADraw.run us47_2 wlater_T_ok follows_mixed (by kernel_rfl) (by kernel_rfl) ?_
    simp -implicitDefEqProofs only [cdA, go_sem, i1_0, false_implies, true_implies, not_false_eq_true, not_true_eq_false, reduceIte, reduceCtorEq, Nat.reduceEqDiff, Nat.reduceAdd, Nat.reduceLeDiff, Nat.reduceSub, Nat.reduceMul, Nat.reduceLT, Nat.reduceShiftRight, Nat.reduceMod, Int.reduceLE, Int.reduceLT, Int.reduceToNat, cdB, List.cons.injEq, true_and, and_true]
    exact hbad 1 (by rw [wlaE, if_pos hok]) (by decide)
  have hck : chkW v = 0 := chkW_0.2 hok
  rw [hck]
  by_cases hl : v.tick ≤ t
  rotate_left 1
  · have hl' : ((v.tick : Int) ≤ t) = False := eq_false (by omega)
    refine ac46 wlater_T_ok (Nat.le_of_ble_eq_true rfl) ?_
    simp -implicitDefEqProofs only [cdA, go_sem, Go.Proofs.Tryz.f46, hl', decide_false, false_implies, true_implies, not_false_eq_true, not_true_eq_false, reduceIte, reduceCtorEq, Nat.reduceEqDiff, Nat.reduceAdd, Nat.reduceLeDiff, Nat.reduceSub, Nat.reduceMul, Nat.reduceLT, Nat.reduceShiftRight, Nat.reduceMod, Int.reduceLE, Int.reduceLT, Int.reduceToNat, cdB, List.cons.injEq, true_and, and_true]
    refine ac75 wlater_T_ok (Nat.le_of_ble_eq_true rfl) ?_
    simp -implicitDefEqProofs only [cdA, go_sem, Go.Proofs.Tryz.f75, i13_0, false_implies, true_implies, not_false_eq_true, not_true_eq_false, reduceIte, reduceCtorEq, Nat.reduceEqDiff, Nat.reduceAdd, Nat.reduceLeDiff, Nat.reduceSub, Nat.reduceMul, Nat.reduceLT, Nat.reduceShiftRight, Nat.reduceMod, Int.reduceLE, Int.reduceLT, Int.reduceToNat, cdB, List.cons.injEq, true_and, and_true]
    refine ac47 wlater_T_ok (Nat.le_of_ble_eq_true rfl) ?_
    simp -implicitDefEqProofs only [cdA, go_sem, Go.Proofs.Tryz.f47, i13_0, false_implies, true_implies, not_false_eq_true, not_true_eq_false, reduceIte, reduceCtorEq, Nat.reduceEqDiff, Nat.reduceAdd, Nat.reduceLeDiff, Nat.reduceSub, Nat.reduceMul, Nat.reduceLT, Nat.reduceShiftRight, Nat.reduceMod, Int.reduceLE, Int.reduceLT, Int.reduceToNat, cdB, List.cons.injEq, true_and, and_true]
    refine ADraw.run us47_2 wlater_T_ok follows_mixed (by kernel_rfl) (by kernel_rfl) ?_
    simp -implicitDefEqProofs only [cdA, go_sem, i13_0, false_implies, true_implies, not_false_eq_true, not_true_eq_false, reduceIte, reduceCtorEq, Nat.reduceEqDiff, Nat.reduceAdd, Nat.reduceLeDiff, Nat.reduceSub, Nat.reduceMul, Nat.reduceLT, Nat.reduceShiftRight, Nat.reduceMod, Int.reduceLE, Int.reduceLT, Int.reduceToNat, cdB, List.cons.injEq, true_and, and_true]
    exact hbad 13 (by rw [wlaE, if_neg (fun h => h hok), if_pos (by omega)]) (by decide)
  have hl' : ((v.tick : Int) ≤ t) = True := eq_true (by omega)
  have hsw : (sweepI v.i t).2 = 0 := by rw [sweepI, if_pos hok.2.1]
  refine ac46 wlater_T_ok (Nat.le_of_ble_eq_true rfl) ?_
  simp -implicitDefEqProofs only [cdA, go_sem, Go.Proofs.Tryz.f46, hl', decide_true, false_implies, true_implies, not_false_eq_true, not_true_eq_false, reduceIte, reduceCtorEq, Nat.reduceEqDiff, Nat.reduceAdd, Nat.reduceLeDiff, Nat.reduceSub, Nat.reduceMul, Nat.reduceLT, Nat.reduceShiftRight, Nat.reduceMod, Int.reduceLE, Int.reduceLT, Int.reduceToNat, cdB, List.cons.injEq, true_and, and_true]
  refine ac75 wlater_T_ok (Nat.le_of_ble_eq_true rfl) ?_
  simp -implicitDefEqProofs only [cdA, go_sem, Go.Proofs.Tryz.f75, hsw, false_implies, true_implies, not_false_eq_true, not_true_eq_false, reduceIte, reduceCtorEq, Nat.reduceEqDiff, Nat.reduceAdd, Nat.reduceLeDiff, Nat.reduceSub, Nat.reduceMul, Nat.reduceLT, Nat.reduceShiftRight, Nat.reduceMod, Int.reduceLE, Int.reduceLT, Int.reduceToNat, cdB, List.cons.injEq, true_and, and_true]
  refine ac99 wlater_T_ok (Nat.le_of_ble_eq_true rfl) ?_
  simp -implicitDefEqProofs only [cdA, go_sem, Go.Proofs.Tryz.f99, hsw, false_implies, true_implies, not_false_eq_true, not_true_eq_false, reduceIte, reduceCtorEq, Nat.reduceEqDiff, Nat.reduceAdd, Nat.reduceLeDiff, Nat.reduceSub, Nat.reduceMul, Nat.reduceLT, Nat.reduceShiftRight, Nat.reduceMod, Int.reduceLE, Int.reduceLT, Int.reduceToNat, cdB, List.cons.injEq, true_and, and_true]
  have hsm : smallW ⟨v.c, v.w, (sweepI v.i t).1, v.p, v.f, v.next, t⟩ := by
    have h2 := small_ok hok
    have h3 := (sweep_ok hsw).2.1.1
    exact ⟨h2.1, h2.2.1, h2.2.2.1, by show (sweepI v.i t).1.length ≤ _; omega, h2.2.2.2.2.1, h2.2.2.2.2.2⟩
  have hfin : wlaW v t = (⟨v.c, v.w, (sweepI v.i t).1, v.p, v.f, v.next, t⟩, 0) := by
    have : wlaE v t = 0 := by rw [wlaE, if_neg (fun h => h hok), if_neg (by omega)]
    rw [wlaW, if_pos this]
  refine ac47 wlater_T_ok (Nat.le_of_ble_eq_true rfl) ?_
  simp -implicitDefEqProofs only [cdA, go_sem, Go.Proofs.Tryz.f47, eq_true hsm, false_implies, true_implies, not_false_eq_true, not_true_eq_false, reduceIte, reduceCtorEq, Nat.reduceEqDiff, Nat.reduceAdd, Nat.reduceLeDiff, Nat.reduceSub, Nat.reduceMul, Nat.reduceLT, Nat.reduceShiftRight, Nat.reduceMod, Int.reduceLE, Int.reduceLT, Int.reduceToNat, cdB, List.cons.injEq, true_and, and_true]
  rw [hfin]
  exact ⟨⟨rfl, rfl, rfl, rfl, rfl, rfl, rfl, rfl⟩, rfl⟩
@[go_sem] def wlater_p (v : Wl) (t : Nat) : Prop := (v.f.next ≤ 18446744073709551615)
def sp_wlater : List D → Option (Prop × D × Fr)
  | [.agg [.c (.sl z2), .c (.sl z3), .c (.sl z4), .c (.sl z5), .c (.int .u64 z7), .c (.sl z8), .c (.int .u64 z9), .c (.int .u64 z10)], .c (.int .u64 z11)] => some (z2 = chs (dchs z2) ∧ z3 = wts (dwts z3) ∧ z4 = ivs (divs z4) ∧ z5 = pys (dpys z5) ∧ z7 = (z7.toNat : Int) ∧ z8 = evs (devs z8) ∧ z9 = (z9.toNat : Int) ∧ z10 = (z10.toNat : Int) ∧ z11 = (z11.toNat : Int) ∧ wlater_p (⟨(dchs z2), (dwts z3), (divs z4), (dpys z5), (⟨z7.toNat, (devs z8)⟩ : Fd), z9.toNat, z10.toNat⟩ : Wl) z11.toNat, wlater_r (⟨(dchs z2), (dwts z3), (divs z4), (dpys z5), (⟨z7.toNat, (devs z8)⟩ : Fd), z9.toNat, z10.toNat⟩ : Wl) z11.toNat, [])
  | _ => none
attribute [go_sem] sp_wlater
theorem sp_wlater_ok : ∀ rs p r fr, sp_wlater rs = some (p, r, fr) → p → FnOk Tryz.prog 35 rs r fr := by
  intro rs p r fr h hp
  unfold sp_wlater at h
  split at h <;> cases h
  obtain ⟨hc0, hc1, hc2, hc3, hc4, hc5, hc6, hc7, hc8, hp⟩ := hp
  rename_i z2 z3 z4 z5 z7 z8 z9 z10 z11
  obtain ⟨z2, rfl⟩ : ∃ m, z2 = chs m := ⟨_, hc0⟩
  obtain ⟨z3, rfl⟩ : ∃ m, z3 = wts m := ⟨_, hc1⟩
  obtain ⟨z4, rfl⟩ : ∃ m, z4 = ivs m := ⟨_, hc2⟩
  obtain ⟨z5, rfl⟩ : ∃ m, z5 = pys m := ⟨_, hc3⟩
  obtain ⟨z7, rfl⟩ : ∃ m : Nat, z7 = m := ⟨_, hc4⟩
  obtain ⟨z8, rfl⟩ : ∃ m, z8 = evs m := ⟨_, hc5⟩
  obtain ⟨z9, rfl⟩ : ∃ m : Nat, z9 = m := ⟨_, hc6⟩
  obtain ⟨z10, rfl⟩ : ∃ m : Nat, z10 = m := ⟨_, hc7⟩
  obtain ⟨z11, rfl⟩ : ∃ m : Nat, z11 = m := ⟨_, hc8⟩
  simp only [Int.toNat_natCast, dchs_chs, devs_evs, divs_ivs, dpys_pys, dwts_wts]
  simp only [Int.toNat_natCast, dchs_chs, devs_evs, divs_ivs, dpys_pys, dwts_wts, wlater_p] at hp
  exact wlater_ok ⟨z2, z3, z4, z5, ⟨z7, z8⟩, z9, z10⟩ z11 hp
end Dm
namespace Dm
open Go Go.Proofs Go.IntWalk
theorem okW_i {v : Wl} {l : List Iv} {f : Fd} (h : okW v) (hl : okIv l) (hf : okFd f) : okW { v with i := l, f := f } := ⟨h.1, hl, hf, h.2.2.2⟩
theorem agr_hl {p : List Py} {c d : List Ch} (h : agrL p c = (true, 0)) (hd : okLd d) (e : hlL d = hlL c) : agrL p d = (true, 0) := by
  obtain ⟨a1, a2, a3, a4, a5⟩ := agr_parts.1 h
  exact agr_parts.2 ⟨a1, hd.1, okLd_ids hd, by rw [e]; exact a4, by rw [e]; exact a5⟩
theorem okW_c {v : Wl} {l : List Ch} (h : okW v) (hl : okLd l) (e : hlL l = hlL v.c) : okW { v with c := l } :=
  ⟨hl, h.2.1, h.2.2.1, h.2.2.2.1, h.2.2.2.2.1, h.2.2.2.2.2.1, h.2.2.2.2.2.2.1, agr_hl h.2.2.2.2.2.2.2 hl e⟩
theorem wreW_e {v : Wl} {hash n ch : Nat} : (wreW v hash n ch).2 = wreE v hash n ch := by
  unfold wreW
  split
  · rename_i h; exact h.symm
  · rfl
theorem wcaW_e {v : Wl} {hash : Nat} : (wcaW v hash).2 = wcaE v hash := by
  unfold wcaW
  split
  · rename_i h; exact h.symm
  · rfl
theorem wlaW_e {v : Wl} {t : Nat} : (wlaW v t).2 = wlaE v t := by
  unfold wlaW
  split
  · rename_i h; exact h.symm
  · rfl
theorem receive_all {v : Wl} {hash n ch : Nat} (h : (wreW v hash n ch).2 = 0) : okW v ∧ okW (wreW v hash n ch).1 ∧ (iendL v.i hash v.tick n 2).2 = 0 ∧ (lpuL v.c ch n).2 = 0 ∧ (addF v.f 5 hash n).2.2 = 0 ∧
    (wreW v hash n ch).1 = ⟨(lpuL v.c ch n).1, v.w, (iendL v.i hash v.tick n 2).1, v.p, (addF v.f 5 hash n).1, v.next, v.tick⟩ := by
  rw [wreW_e] at h
  have e : (wreW v hash n ch).1 = ⟨(lpuL v.c ch n).1, v.w, (iendL v.i hash v.tick n 2).1, v.p, (addF v.f 5 hash n).1, v.next, v.tick⟩ := by rw [wreW, if_pos h]; rfl
  unfold wreE at h
  split at h
  · cases h
  rename_i h1
  split at h
  · rename_i h2; exact absurd h h2
  rename_i h2
  split at h
  · rename_i h3; exact absurd h h3
  rename_i h3
  have hok : okW v := Decidable.byContradiction h1
  have hI : (iendL v.i hash v.tick n 2).2 = 0 := Decidable.byContradiction h2
  have hC : (lpuL v.c ch n).2 = 0 := Decidable.byContradiction h3
  obtain ⟨-, i1, -⟩ := iend_all hI (by decide)
  obtain ⟨-, _, -, -, -, -, c1, c2⟩ := lpu_all hC
  rw [e]
  exact ⟨hok, okW_i (okW_c hok c1 c2) i1 (addF_ok h), hI, hC, h, rfl⟩
theorem cancel_all {v : Wl} {hash : Nat} (h : (wcaW v hash).2 = 0) : okW v ∧ okW (wcaW v hash).1 ∧ (iendL v.i hash v.tick MM 3).2 = 0 ∧ (addF v.f 4 hash 0).2.2 = 0 ∧
    (wcaW v hash).1 = ⟨v.c, v.w, (iendL v.i hash v.tick MM 3).1, v.p, (addF v.f 4 hash 0).1, v.next, v.tick⟩ := by
  rw [wcaW_e] at h
  have e : (wcaW v hash).1 = ⟨v.c, v.w, (iendL v.i hash v.tick MM 3).1, v.p, (addF v.f 4 hash 0).1, v.next, v.tick⟩ := by rw [wcaW, if_pos h]; rfl
  unfold wcaE at h
  split at h
  · cases h
  rename_i h1
  split at h
  · rename_i h2; exact absurd h h2
  rename_i h2
  have hok : okW v := Decidable.byContradiction h1
  have hI : (iendL v.i hash v.tick MM 3).2 = 0 := Decidable.byContradiction h2
  obtain ⟨-, i1, -⟩ := iend_all hI (by decide)
  rw [e]
  exact ⟨hok, okW_i hok i1 (addF_ok h), hI, h, rfl⟩
theorem later_all {v : Wl} {t : Nat} (h : (wlaW v t).2 = 0) : okW v ∧ okW (wlaW v t).1 ∧ v.tick ≤ t ∧ (wlaW v t).1 = { v with i := v.i.filter fun x => !overI t x, tick := t } := by
  rw [wlaW_e] at h
  have e : (wlaW v t).1 = { v with i := (sweepI v.i t).1, tick := t } := by rw [wlaW, if_pos h]
  unfold wlaE at h
  split at h
  · cases h
  rename_i h1
  split at h
  · cases h
  rename_i h2
  have hok : okW v := Decidable.byContradiction h1
  obtain ⟨-, s1, s2⟩ := sweep_ok (l := v.i) (tick := t) (by rw [sweepI, if_pos hok.2.1])
  rw [e, s2]
  rw [s2] at s1
  exact ⟨hok, ⟨hok.1, s1, hok.2.2⟩, by omega, rfl⟩
theorem iend_twice {l : List Iv} {hash tick n m t : Nat} {st : Int} (h : (iendL l hash tick n st).2 = 0) (hst : st = 2 ∨ st = 3) : iendE (iendL l hash tick n st).1 hash t m = 10 := by
  obtain ⟨h1, h2, p, hp, hpp, hh, hn, e⟩ := iend_all h (by rcases hst with rfl | rfl <;> decide)
  have hu : Srt.Up Iv.hash ltN (iendL l hash tick n st).1 := (Srt.chn_up (lt := ltN) Srt.totNat).1 h2.2.2
  have hm : { l.getD p default with state := st } ∈ (iendL l hash tick n st).1 := by rw [e]; exact List.mem_set hp _
  have ht : Srt.thr Iv.hash ltN (iendL l hash tick n st).1 hash = true := (Srt.thr_iff Srt.totNat hu).2 ⟨_, hm, hh⟩
  obtain ⟨g1, g2⟩ := thr_at ht
  have g3 := Srt.up_inj (key := Iv.hash) (lt := ltN) Srt.totNat hu (mem_getD.2 ⟨_, g1, rfl⟩) hm (g2.trans hh.symm)
  have hno : nowI { l.getD p default with state := st } t = st := by
    unfold nowI
    rw [if_neg]
    rintro ⟨h, _⟩
    dsimp only at h
    rcases hst with rfl | rfl <;> cases h
  rw [iendE, if_pos h2, if_pos ht, g3, hno, if_neg (by rcases hst with rfl | rfl <;> decide), if_pos (by rcases hst with rfl | rfl <;> decide)]
end Dm
namespace Dm
open Go Go.Proofs Go.IntWalk
theorem SWp.loopIx {P : Program} {n N : Nat} {c : Code} {Q : Exit → St → Prop} {a b d e f : Nat × D} {t : Nat} {os : List (Nat × Ob)} {nx : Nat} (len : Nat)
    (h0 : Sub N (⟨[a, b, d, e, f, (t, .int .i64 0)], os, nx⟩ : St) ⟨[a, b, d, e, f, (t, .int .i64 ((0 : Nat) : Int))], os, nx⟩) (h : ∀ i : { i : Nat // i ≤ len }, SWp P n N c (lp N (fun i : { i : Nat // i ≤ len } => (⟨[a, b, d, e, f, (t, .int .i64 (i.1 : Int))], os, nx⟩ : St)) (fun i => len - i.1) (len - i.1) Q) ⟨[a, b, d, e, f, (t, .int .i64 (i.1 : Int))], os, nx⟩) :
    SWp P n N (.loop c) Q ⟨[a, b, d, e, f, (t, .int .i64 0)], os, nx⟩ :=
  SWp.loop (fun i : { i : Nat // i ≤ len } => (⟨[a, b, d, e, f, (t, .int .i64 (i.1 : Int))], os, nx⟩ : St)) (fun i => len - i.1) ⟨0, Nat.zero_le _⟩ h0 h
theorem f_lt {v : Wl} (h : okW v) : v.f.next ≤ 18446744073709551615 := by
  have := h.2.2.1.2.1; unfold MM at this; omega
theorem re_err {v : Wl} {hash n c : Nat} (hok : okW v) {e : Int} (h : iendE v.i hash v.tick n = e) (he : ¬ e = 0) : (wreW v hash n c).2 = e := by
  rw [wreW_e, wreE, if_neg (fun h => h hok)]
  have : (wreI v hash n c).2 = e := by unfold wreI; rw [iend_2]; exact h
  rw [this, if_pos he]
theorem ca_err {v : Wl} {hash : Nat} (hok : okW v) {e : Int} (h : iendE v.i hash v.tick MM = e) (he : ¬ e = 0) : (wcaW v hash).2 = e := by
  rw [wcaW_e, wcaE, if_neg (fun h => h hok)]
  have : (wcaI v hash).2 = e := by unfold wcaI; rw [iend_2]; exact h
  rw [this, if_pos he]
theorem swept {l : List Iv} {x : Iv} {t : Nat} (h : x ∈ l.filter fun x => !overI t x) : ¬ (x.state = 1 ∧ x.till < t) ∧ x.state ≠ 3 := by
  have h1 := (List.mem_filter.1 h).2
  have h2 : ¬ (nowI x t = 4 ∨ x.state = 3) := by
    intro h3
    have : overI t x = true := decide_eq_true h3
    rw [this] at h1; cases h1
  refine ⟨fun h3 => h2 (.inl ?_), fun h3 => h2 (.inr h3)⟩
  rw [nowI, if_pos h3]
@[go_sem] def WalletLate_r (w : Wl) (hash : Nat) (n : Nat) (c : Nat) (tick : Nat) : D := .bool true
@[go_sem] abbrev n_WalletLate : FuncId := 7
@[go_sem] def WalletLate_T : Tab := [(9, sp_live), (10, sp_few17), (26, sp_wreceive), (24, sp_wcancel), (35, sp_wlater)]
theorem WalletLate_T_ok : TabOk Tryz.prog WalletLate_T := (TabOk.cons sp_live_ok (TabOk.cons sp_few17_ok (TabOk.cons sp_wreceive_ok (TabOk.cons sp_wcancel_ok (TabOk.cons sp_wlater_ok TabOk.nil)))))
set_option maxRecDepth 8000 in
set_option maxHeartbeats 1000000 in
theorem WalletLate_ok (w : Wl) (hash : Nat) (n : Nat) (c : Nat) (tick : Nat) (h : w.f.next ≤ 18446744073709551615) : PureFn Tryz.prog 7 [.agg [.sl (chs w.c), .sl (wts w.w), .sl (ivs w.i), .sl (pys w.p), .c (.int .u64 (w.f.next : Int)), .sl (evs w.f.l), .c (.int .u64 (w.next : Int)), .c (.int .u64 (w.tick : Int))], .c (.int .u64 (hash : Int)), .c (.int .u64 (n : Int)), .c (.int .u64 (c : Int)), .c (.int .u64 (tick : Int))] (WalletLate_r w hash n c tick) := by
  refine .of (ac7 WalletLate_T_ok (Nat.le_of_ble_eq_true rfl) ?_)
  simp -implicitDefEqProofs only [cdA, go_sem, Go.Proofs.Tryz.f7, reduceIte, reduceCtorEq, Nat.reduceEqDiff, Nat.reduceAdd, Nat.reduceLeDiff, Nat.reduceSub, Nat.reduceMul, Nat.reduceLT, Nat.reduceShiftRight, Nat.reduceMod, Int.reduceLE, Int.reduceLT, Int.reduceToNat, cdB, List.cons.injEq, true_and, and_true]
  refine ⟨fun _ => ⟨h, ?_⟩, fun _ => trivial⟩
  have F1 : (wreW w hash n c).2 = 0 → (wreW w hash n c).1.f.next ≤ 18446744073709551615 ∧ (wreW (wreW w hash n c).1 hash n c).2 = 10 ∧ (wcaW (wreW w hash n c).1 hash).2 = 10 := fun h0 => by
    obtain ⟨hok, hok', hI, -, -, e⟩ := receive_all h0
    have h2 : ∀ t m, iendE (wreW w hash n c).1.i hash t m = 10 := fun t m => by rw [e]; exact iend_twice hI (.inl rfl)
    exact ⟨f_lt hok', re_err hok' (h2 _ _) (by decide), ca_err hok' (h2 _ _) (by decide)⟩
  have F2 : (wcaW w hash).2 = 0 → (wcaW w hash).1.f.next ≤ 18446744073709551615 ∧ (wlaW (wcaW w hash).1 w.tick).1.f.next ≤ 18446744073709551615 ∧ (wreW (wcaW w hash).1 hash n c).2 = 10 ∧ (wlaW (wcaW w hash).1 w.tick).2 = 0 ∧ (wreW (wlaW (wcaW w hash).1 w.tick).1 hash n c).2 = 5 := fun h0 => by
    obtain ⟨hok, hok', hI, -, e⟩ := cancel_all h0
    have h2 : ∀ t m, iendE (wcaW w hash).1.i hash t m = 10 := fun t m => by rw [e]; exact iend_twice hI (.inr rfl)
    have hl : (wlaW (wcaW w hash).1 w.tick).2 = 0 := by
      rw [wlaW_e, wlaE, if_neg (fun h => h hok'), if_neg (by rw [e]; exact Nat.lt_irrefl _)]
    obtain ⟨-, hok2, -, e2⟩ := later_all hl
    refine ⟨f_lt hok', f_lt hok2, re_err hok' (h2 _ _) (by decide), hl, re_err hok2 ?_ (by decide)⟩
    have ht : ¬ Srt.thr Iv.hash ltN (wlaW (wcaW w hash).1 w.tick).1.i hash = true := fun ht => by
      have hu : Srt.Up Iv.hash ltN (wlaW (wcaW w hash).1 w.tick).1.i := (Srt.chn_up (lt := ltN) Srt.totNat).1 hok2.2.1.2.2
      obtain ⟨x, hx, hk⟩ := (Srt.thr_iff Srt.totNat hu).1 ht
      rw [e2] at hx
      dsimp only at hx
      have hx2 := (swept hx).2
      obtain ⟨-, i2, p, hp, -, hh, -, e3⟩ := iend_all hI (by decide)
      have hx3 := (List.mem_filter.1 hx).1
      rw [e] at hx3
      dsimp only at hx3
      have hm : ({ w.i.getD p default with state := 3 } : Iv) ∈ (iendL w.i hash w.tick MM 3).1 := by rw [e3]; exact List.mem_set hp _
      have := Srt.up_inj (key := Iv.hash) (lt := ltN) Srt.totNat ((Srt.chn_up (lt := ltN) Srt.totNat).1 i2.2.2) hx3 hm (hk.trans hh.symm)
      rw [this] at hx2
      exact hx2 rfl
    rw [iendE, if_pos hok2.2.1, if_neg ht]
  refine ⟨fun h1 => ⟨(F1 h1).1, (F1 h1).1, fun _ => ⟨fun _ => ⟨h, fun h2 => ⟨(F2 h2).1, (F2 h2).1, (F2 h2).2.1, fun _ => ⟨fun _ => ⟨fun _ => ⟨h, ?_⟩, fun h => h (F2 h2).2.2.2.2⟩, fun h => h (F2 h2).2.2.2.1⟩, fun h => h (F2 h2).2.2.1⟩, fun _ => ⟨h, ?_⟩⟩, fun h => h (F1 h1).2.2⟩, fun h => h (F1 h1).2.1⟩,
    fun _ => ⟨h, fun h2 => ⟨(F2 h2).1, (F2 h2).1, (F2 h2).2.1, fun _ => ⟨fun _ => ⟨fun _ => ⟨h, ?_⟩, fun h => h (F2 h2).2.2.2.2⟩, fun h => h (F2 h2).2.2.2.1⟩, fun h => h (F2 h2).2.2.1⟩, fun _ => ⟨h, ?_⟩⟩⟩
  all_goals
    refine ⟨fun h3 _ => ?_, fun h3 => ?_⟩
    rotate_left 1
    · have e : wlaW w tick = (zeroW, wlaE w tick) := by
        rw [wlaW_e] at h3
        rw [wlaW, if_neg h3]
      rw [e]
      exact fun _ => decide_eq_true rfl
    obtain ⟨hok, hok2, ht, e⟩ := later_all h3
    refine SWp.loopIx (wlaW w tick).1.i.length (by simp [go_sem]) ?_
    rintro ⟨i, hi⟩
    refine awp_sound WalletLate_T_ok.toS lv7 _ _ _ rfl ?_
    simp -implicitDefEqProofs only [cdA, go_sem, reduceIte, reduceCtorEq, Nat.reduceEqDiff, Nat.reduceAdd, Nat.reduceLeDiff, Nat.reduceSub, Nat.reduceMul, Nat.reduceLT, Nat.reduceShiftRight, Nat.reduceMod, Int.reduceLE, Int.reduceLT, Int.reduceToNat, cdB, List.cons.injEq, true_and, and_true]
    have hx : ∀ k, k < (wlaW w tick).1.i.length → ¬ (((wlaW w tick).1.i.getD k default).state = 1 ∧ ((wlaW w tick).1.i.getD k default).till < tick) ∧ ((wlaW w tick).1.i.getD k default).state ≠ 3 := fun k hk => by
      refine swept (l := w.i) (t := tick) ?_
      have h9 : (wlaW w tick).1.i = w.i.filter fun x => !overI tick x := by rw [e]
      rw [← h9]; exact mem_getD.2 ⟨k, hk, rfl⟩
    have hlen : (wlaW w tick).1.i.length ≤ w.i.length := by rw [e]; exact List.filter_sublist.length_le
    have hnx : (wlaW w tick).1.next = w.next ∧ (wlaW w tick).1.tick = tick := by rw [e]; exact ⟨rfl, rfl⟩
    refine ⟨fun h4 => ?_, fun h4 => ?_⟩
    · have hi' : i < (wlaW w tick).1.i.length := by omega
      obtain ⟨q1, q2⟩ := hx i hi'
      have hgo : ∃ k : { i : Nat // i ≤ (wlaW w tick).1.i.length }, (wlaW w tick).1.i.length - k.1 < (wlaW w tick).1.i.length - i ∧ IntKind.i64.wrap ((i : Int) + 1) = k.1 := ⟨⟨i + 1, hi'⟩, by dsimp only; omega, i64_in _ (by have := hok2.2.1.1; omega)⟩
      exact ⟨by omega, fun h5 => ⟨fun _ => ⟨fun h6 => q2 h6, fun _ => hgo⟩, fun h6 => q1 ⟨h5, by omega⟩⟩, fun _ => ⟨fun h6 => q2 h6, fun _ => hgo⟩⟩
    · rw [hnx.1, hnx.2]
      refine ⟨fun _ _ _ => ⟨fun _ => decide_eq_true rfl, fun h => h (by omega)⟩, fun h => h rfl⟩
@[go_sem] def WalletLate_p (w : Wl) (hash : Nat) (n : Nat) (c : Nat) (tick : Nat) : Prop := (w.f.next ≤ 18446744073709551615)
def sp_WalletLate : List D → Option (Prop × D × Fr)
  | [.agg [.c (.sl z2), .c (.sl z3), .c (.sl z4), .c (.sl z5), .c (.int .u64 z7), .c (.sl z8), .c (.int .u64 z9), .c (.int .u64 z10)], .c (.int .u64 z11), .c (.int .u64 z12), .c (.int .u64 z13), .c (.int .u64 z14)] => some (z2 = chs (dchs z2) ∧ z3 = wts (dwts z3) ∧ z4 = ivs (divs z4) ∧ z5 = pys (dpys z5) ∧ z7 = (z7.toNat : Int) ∧ z8 = evs (devs z8) ∧ z9 = (z9.toNat : Int) ∧ z10 = (z10.toNat : Int) ∧ z11 = (z11.toNat : Int) ∧ z12 = (z12.toNat : Int) ∧ z13 = (z13.toNat : Int) ∧ z14 = (z14.toNat : Int) ∧ WalletLate_p (⟨(dchs z2), (dwts z3), (divs z4), (dpys z5), (⟨z7.toNat, (devs z8)⟩ : Fd), z9.toNat, z10.toNat⟩ : Wl) z11.toNat z12.toNat z13.toNat z14.toNat, WalletLate_r (⟨(dchs z2), (dwts z3), (divs z4), (dpys z5), (⟨z7.toNat, (devs z8)⟩ : Fd), z9.toNat, z10.toNat⟩ : Wl) z11.toNat z12.toNat z13.toNat z14.toNat, [])
  | _ => none
attribute [go_sem] sp_WalletLate
end Dm
