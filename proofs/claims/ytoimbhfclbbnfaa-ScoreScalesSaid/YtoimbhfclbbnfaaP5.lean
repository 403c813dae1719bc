import Derived.Test.YtoimbhfclbbnfaaP4
import Derived.Below
import Derived.ChangeOld
import Derived.Ground.SlsfProg
set_option linter.unusedSimpArgs false
set_option linter.unusedVariables false
set_option linter.unusedSectionVars false
namespace Go.Proofs
open Go.Shelf Go.RowKit Go.Lib Go.Sort
def Try.sortMk_ren : Go.Shelf.Ren := ⟨fun | 6 => 30 | 15 => 51 | 14 => 50 | 28 => 77 | 29 => 78 | 20 => 69 | 21 => 70 | 22 => 71 | 23 => 72 | 24 => 73 | 25 => 74 | 26 => 75 | 27 => 76 | 46 => 85 | 47 => 86 | 48 => 87 | 49 => 88 | 50 => 89 | 57 => 91 | n => n, fun | 22 => 56 | 24 => 60 | 25 => 65 | 3 => 3 | 39 => 85 | 0 => 0 | 53 => 113 | 55 => 24 | 4 => 4 | 46 => 107 | 45 => 106 | 50 => 81 | 5 => 5 | 9 => 9 | 66 => 119 | 70 => 123 | 76 => 125 | 77 => 126 | n => n, fun | n => n⟩
theorem Try.sortMk : Go.Proofs.SlLaysF0.n6 Try.prog Try.sortMk_ren := {
 mixed := by kernel_rfl
 f6 := ⟨Try.f30.name, by decide, Try.func30.trans (congrArg some (by kernel_rfl))⟩
 f14 := ⟨Try.f50.name, by decide, Try.func50.trans (congrArg some (by kernel_rfl))⟩
 f15 := Try.func51.trans (congrArg some (by kernel_rfl))
 f20 := ⟨Try.f69.name, by decide, Try.func69.trans (congrArg some (by kernel_rfl))⟩
 f21 := ⟨Try.f70.name, by decide, Try.func70.trans (congrArg some (by kernel_rfl))⟩
 f22 := ⟨Try.f71.name, by decide, Try.func71.trans (congrArg some (by kernel_rfl))⟩
 f23 := ⟨Try.f72.name, by decide, Try.func72.trans (congrArg some (by kernel_rfl))⟩
 f24 := ⟨Try.f73.name, by decide, Try.func73.trans (congrArg some (by kernel_rfl))⟩
 f25 := ⟨Try.f74.name, by decide, Try.func74.trans (congrArg some (by kernel_rfl))⟩
 f26 := ⟨Try.f75.name, by decide, Try.func75.trans (congrArg some (by kernel_rfl))⟩
 f27 := ⟨Try.f76.name, by decide, Try.func76.trans (congrArg some (by kernel_rfl))⟩
 f28 := Try.func77.trans (congrArg some (by kernel_rfl))
 f29 := Try.func78.trans (congrArg some (by kernel_rfl))
 f46 := ⟨Try.f85.name, by decide, Try.func85.trans (congrArg some (by kernel_rfl))⟩
 f47 := Try.func86.trans (congrArg some (by kernel_rfl))
 f48 := Try.func87.trans (congrArg some (by kernel_rfl))
 f49 := ⟨Try.f88.name, by decide, Try.func88.trans (congrArg some (by kernel_rfl))⟩
 f50 := ⟨Try.f89.name, by decide, Try.func89.trans (congrArg some (by kernel_rfl))⟩
 f57 := ⟨Try.f91.name, by decide, Try.func91.trans (congrArg some (by kernel_rfl))⟩
 t0 := Try.underlying0
 a0 := Try.isAgg0
 z0 := Try.sizeOf0
 v0 := Try.zeroValue0
 t3 := Try.underlying3
 a3 := Try.isAgg3
 z3 := Try.sizeOf3
 v3 := Try.zeroValue3
 t4 := Try.underlying4
 a4 := Try.isAgg4
 z4 := Try.sizeOf4
 v4 := Try.zeroValue4
 t5 := Try.underlying5
 a5 := Try.isAgg5
 z5 := Try.sizeOf5
 v5 := Try.zeroValue5
 t9 := Try.underlying9
 a9 := Try.isAgg9
 z9 := Try.sizeOf9
 v9 := Try.zeroValue9
 t22 := Try.underlying56
 a22 := Try.isAgg56
 z22 := Try.sizeOf56
 v22 := Try.zeroValue56
 t25 := Try.underlying65
 a25 := Try.isAgg65
 z25 := Try.sizeOf65
 v25 := Try.zeroValue65
 t39 := Try.underlying85
 a39 := Try.isAgg85
 z39 := Try.sizeOf85
 v39 := Try.zeroValue85
 t45 := Try.underlying106
 a45 := Try.isAgg106
 z45 := Try.sizeOf106
 v45 := Try.zeroValue106
 t46 := Try.underlying107
 a46 := Try.isAgg107
 z46 := Try.sizeOf107
 v46 := Try.zeroValue107
 t50 := Try.underlying81
 a50 := Try.isAgg81
 z50 := Try.sizeOf81
 v50 := Try.zeroValue81
 t53 := Try.underlying113
 a53 := Try.isAgg113
 z53 := Try.sizeOf113
 v53 := Try.zeroValue113
 t55 := Try.underlying24
 a55 := Try.isAgg24
 z55 := Try.sizeOf24
 v55 := Try.zeroValue24
 t66 := Try.underlying119
 a66 := Try.isAgg119
 z66 := Try.sizeOf119
 v66 := Try.zeroValue119
 t70 := Try.underlying123
 a70 := Try.isAgg123
 z70 := Try.sizeOf123
 v70 := Try.zeroValue123
 t76 := Try.underlying125
 a76 := Try.isAgg125
 z76 := Try.sizeOf125
 v76 := Try.zeroValue125
 t77 := Try.underlying126
 a77 := Try.isAgg126
 z77 := Try.sizeOf126
 v77 := Try.zeroValue126 }
end Go.Proofs
namespace Dm
open Go Go.Proofs Go.IntWalk
abbrev ltM (a b : Int × Nat) : Prop := b.1 < a.1 ∨ (a.1 = b.1 ∧ a.2 < b.2)
instance : DecidableRel ltM := fun a b => by unfold ltM; infer_instance
theorem totM : Srt.Tot ltM := ⟨fun a => by unfold ltM; omega, fun h h' => by unfold ltM at *; omega, fun a b => by
  unfold ltM
  have : a = b ↔ a.1 = b.1 ∧ a.2 = b.2 := Prod.ext_iff
  rw [this]; omega⟩
def Mk.key (m : Mk) : Int × Nat := (fkey m.s, m.id)
theorem mkO_neg {a b : Mk} : mkO a b < 0 ↔ ltM a.key b.key := by
  unfold mkO orS ltM Mk.key cmpS
  by_cases h1 : fkey b.s < fkey a.s
  · simp [h1]
  · by_cases h2 : fkey a.s < fkey b.s
    · simp [h1, h2]; omega
    · by_cases h3 : (a.id : Int) < b.id
      · simp [h1, h2, h3]; omega
      · by_cases h4 : (b.id : Int) < a.id
        · simp [h1, h2, h3, h4]; omega
        · simp [h1, h2, h3, h4]; omega
/-- Marks in order. -/
def ordM (l : List Mk) : List Mk := l.foldl (Srt.put Mk.key ltM) []
def elig (n : Nat) (c : Ch) : Bool := c.op && decide (max n 1 ≤ (roomC c).1)
def mkOf (w : List Wt) (n : Nat) (c : Ch) : Mk := ⟨c.id, (oneS c (weighS w c.id) (fofi n)).1⟩
def mksOf (l : List Ch) (w : List Wt) (n : Nat) : List Mk := (l.filter (elig n)).map (mkOf w n)
def ordL (l : List Ch) (w : List Wt) (n : Nat) : List Nat × Int := if okLd l then ((ordM (mksOf l w n)).map Mk.id, 0) else ([], 1)
theorem mksOf_succ {l : List Ch} {w : List Wt} {n i : Nat} (h : i < l.length) : mksOf (l.take (i + 1)) w n = mksOf (l.take i) w n ++ (if elig n (l.getD i default) = true then [mkOf w n (l.getD i default)] else []) := by
  rw [take_succ h, mksOf, List.filter_append, List.map_append]
  congr 1
  generalize l.getD i default = x
  by_cases h : elig n x = true <;> simp [h]
theorem mksOf_len {l : List Ch} {w : List Wt} {n : Nat} : (mksOf l w n).length ≤ l.length := by
  rw [mksOf, List.length_map]; exact List.length_filter_le _ _
/-- What is no number is one value. -/
theorem flo_canon {n : Nat} (h : fnan (flo .f64 n) = true) : flo .f64 n = none := by
  rw [fnan_key, decide_eq_true_iff, flo_key, dkey_nan (read_dbl n)] at h
  exact flo_nan h
theorem far_canon {op : BinOp} {a b : Option Nat} (h : fnan (far op a b) = true) : far op a b = none := by
  unfold far at *
  cases a with
  | none => rfl
  | some x => cases b with
    | none => rfl
    | some y =>
      simp only at *
      have key : ∀ o : Option Nat, fnan (o.bind (flo .f64)) = true → o.bind (flo .f64) = none := fun o ho => by
        cases o with
        | none => rfl
        | some z => exact flo_canon ho
      split at h <;> exact key _ h
theorem ordM_put {l : List Mk} : ∀ {m : List Mk}, Srt.Up Mk.key ltM m → Srt.Up Mk.key ltM (l.foldl (Srt.put Mk.key ltM) m) := by
  induction l with
  | nil => exact fun h => h
  | cons x l ih => exact fun h => ih (Srt.put_up totM h)
theorem ordM_up {l : List Mk} : Srt.Up Mk.key ltM (ordM l) := ordM_put .nil
theorem ordM_mem {l : List Mk} (hd : (l.map Mk.id).Nodup) {x : Mk} : x ∈ ordM l ↔ x ∈ l := by
  have key : ∀ (l m : List Mk), Srt.Up Mk.key ltM m → ((m ++ l).map Mk.id).Nodup → ∀ x, x ∈ l.foldl (Srt.put Mk.key ltM) m ↔ x ∈ m ∨ x ∈ l := by
    intro l
    induction l with
    | nil => intro m _ _ x; simp
    | cons y l ih =>
      intro m hu hn x
      rw [List.foldl_cons, ih _ (Srt.put_up totM hu) ?_]
      · rw [Srt.mem_put totM hu]
        simp only [List.mem_cons]
        constructor
        · rintro ((h | h) | h)
          · exact .inr (.inl h)
          · exact .inl h.1
          · exact .inr (.inr h)
        · rintro (h | h | h)
          · refine .inl (.inr ⟨h, fun he => ?_⟩)
            have : x.id = y.id := congrArg Prod.snd he
            rw [List.map_append, List.nodup_append] at hn
            exact hn.2.2 _ (List.mem_map.2 ⟨x, h, rfl⟩) _ (by simp) this
          · exact .inl (.inl h)
          · exact .inr h
      · have hp : (Srt.put Mk.key ltM m y).Perm (m ++ [y]) := by
          have ht : ¬ Srt.thr Mk.key ltM m y.key = true := fun h => by
            obtain ⟨z, hz, he⟩ := (Srt.thr_iff totM hu).1 h
            have : z.id = y.id := congrArg Prod.snd he
            rw [List.map_append, List.nodup_append] at hn
            exact hn.2.2 _ (List.mem_map.2 ⟨z, hz, rfl⟩) _ (by simp) this
          rw [Srt.put, if_neg ht]
          exact Srt.ins_perm.trans (List.perm_append_comm (l₁ := [y]))
        have := (hp.append_right l).map Mk.id
        rw [List.append_assoc] at this
        exact this.nodup_iff.2 hn
  have := key l [] .nil (by simpa using hd) x
  simpa [ordM] using this
/-- In order, and just these: it is they in order. -/
theorem ordM_eq {l m : List Mk} (hd : (l.map Mk.id).Nodup) (hu : Srt.Up Mk.key ltM m) (hm : ∀ x, x ∈ m ↔ x ∈ l) : m = ordM l :=
  Srt.ext totM hu ordM_up fun x => by rw [hm, ordM_mem hd]
theorem mksOf_ids {l : List Ch} {w : List Wt} {n : Nat} (h : okLd l) : ((mksOf l w n).map Mk.id).Nodup := by
  have h1 := (Srt.chn_up (lt := ltN) Srt.totNat).1 h.2.2.1
  unfold Srt.Up at h1
  rw [mksOf, List.map_map, List.Nodup, List.pairwise_map]
  exact (h1.sublist List.filter_sublist).imp fun hlt he => by
    change _ < _ at hlt
    change Ch.id _ = Ch.id _ at he
    omega
/-- What comes of the sort. -/
theorem sorted_ord {l : List Mk} {els : List (List C)} (hd : (l.map Mk.id).Nodup) (hp : els.Perm (mks l)) (hs : els.Pairwise fun x y => ¬ mkO (Mk.dec y) (Mk.dec x) < 0) : els = mks (ordM l) := by
  have h1 : mks (els.map Mk.dec) = els := by
    simp only [mks, List.map_map]
    refine (List.map_congr_left fun x hx => ?_).trans (List.map_id _)
    obtain ⟨a, _, rfl⟩ := List.mem_map.1 (hp.mem_iff.1 hx)
    show (Mk.dec a.enc).enc = a.enc
    rw [Mk.dec_enc]
  have h2 : (els.map Mk.dec).Perm l := by
    have := hp.map Mk.dec
    rwa [show (mks l).map Mk.dec = l from dmks_mks l] at this
  have h3 : els.map Mk.dec = ordM l := by
    refine ordM_eq hd ?_ fun x => h2.mem_iff
    have hd2 : ((els.map Mk.dec).map Mk.id).Nodup := ((h2.map Mk.id).nodup_iff).2 hd
    unfold Srt.Up
    rw [List.Nodup, List.pairwise_map] at hd2
    have hs2 : (els.map Mk.dec).Pairwise fun x y => ¬ mkO y x < 0 := by rw [List.pairwise_map]; exact hs
    refine hd2.imp₂ ?_ hs2
    intro a b hne hno
    rw [mkO_neg] at hno
    unfold ltM Mk.key at *
    simp only at *
    omega
  rw [← h3, h1]
@[go_sem] def order_r (l : List Ch) (w : List Wt) (n : Nat) : D := .tup [.sl (u64s (ordL l w n).1), .int .i64 (ordL l w n).2]
@[go_sem] abbrev n_order : FuncId := 11
@[go_sem] def order_T : Tab := [(24, sp_lcheck), (12, sp_croom), (14, sp_one), (22, sp_weigh), (28, sp_misnan), (29, sp_mnan)]
theorem order_T_ok : TabOk Try.prog order_T := (TabOk.cons sp_lcheck_ok (TabOk.cons sp_croom_ok (TabOk.cons sp_one_ok (TabOk.cons sp_weigh_ok (TabOk.cons sp_misnan_ok (TabOk.cons sp_mnan_ok TabOk.nil))))))
set_option maxRecDepth 8000 in
set_option maxHeartbeats 1000000 in
theorem order_ok (l : List Ch) (w : List Wt) (n : Nat)  : PureFn Try.prog 11 [.sl (chs l), .sl (wts w), .c (.int .u64 (n : Int))] (order_r l w n) := by
  refine .of (ac11 order_T_ok (Nat.le_of_ble_eq_true rfl) ?_)
  simp -implicitDefEqProofs only [cd_t, cd_f, cd_dec, cd_not, cd_and, cd_or, grd_tt, grd_ff, grd_tf, grd_ft, grd_dt, grd_df, grd_nt, grd_nf, go_sem, Go.Proofs.Try.f11, reduceIte, reduceCtorEq, Nat.reduceEqDiff, Nat.reduceAdd, Nat.reduceLeDiff, Nat.reduceSub, Nat.reduceMul, Nat.reduceLT, Nat.reduceShiftRight, Nat.reduceMod, Int.reduceLE, Int.reduceLT, Int.reduceToNat, decide_true, Bool.and_self, Bool.true_and, Ob.map.injEq, Ob.it.injEq, List.cons.injEq, true_and, and_true]
  have hcz : chkL l = 0 ↔ okLd l := by unfold chkL; split <;> simp_all
  rw [hcz]
  refine ⟨fun hok hl => ?_, fun hno => by rw [ordL, chkL, if_neg hno, if_neg hno]; exact ⟨rfl, rfl⟩⟩
  have hl32 := hok.1
  refine SWp.nilvec 9 2 60 rfl (Nat.zero_le _) ?_
  refine SWp.loop (ι := { i : Nat // i ≤ l.length }) (fun i => ⟨[(1, .sl (wts w)), (2, .int .u64 n), (9, .vec 0 (mksOf (l.take i.1) w n).length), (23, .sl (chs l)), (24, .int .i64 l.length), (25, .int .i64 i.1)], [(0, .vec true 2 60 (mks (mksOf (l.take i.1) w n)))], 1⟩) (fun i => l.length - i.1) ⟨0, by omega⟩ ?_ ?_
  · simp [go_sem, mksOf, mks]
  · rintro ⟨i, hi⟩
    refine awp_sound order_T_ok.toS lv11 _ _ _ rfl ?_
    simp -implicitDefEqProofs only [cd_t, cd_f, cd_dec, cd_not, cd_and, cd_or, grd_tt, grd_ff, grd_tf, grd_ft, grd_dt, grd_df, grd_nt, grd_nf, go_sem, reduceIte, reduceCtorEq, Nat.reduceEqDiff, Nat.reduceAdd, Nat.reduceLeDiff, Nat.reduceSub, Nat.reduceMul, Nat.reduceLT, Nat.reduceShiftRight, Nat.reduceMod, Int.reduceLE, Int.reduceLT, Int.reduceToNat, decide_true, Bool.and_self, Bool.true_and, Ob.map.injEq, Ob.it.injEq, List.cons.injEq, true_and, and_true]
    refine ⟨fun h => ⟨by omega, ?_⟩, fun h => ?_⟩
    · have hi' : i < l.length := by omega
      have hc0 : okCh (l.getD i default) := hok.2.1 _ (mem_getD.2 ⟨i, hi', rfl⟩)
      have hst := mksOf_succ (w := w) (n := n) hi'
      have hr0 := roomC_0.2 hc0
      have hone : (oneS (l.getD i default) (weighS w (l.getD i default).id) (fofi n)).2 = 0 := by rw [oneS, if_pos hc0]
      have hlen := mksOf_len (l := l.take i) (w := w) (n := n)
      rw [List.length_take] at hlen
      generalize hc : l.getD i default = c at *
      have hskip : elig n c ≠ true → mksOf (l.take (i + 1)) w n = mksOf (l.take i) w n := fun he => by rw [hst, if_neg he, List.append_nil]
      refine ⟨fun _ => ⟨fun hop => ⟨fun hr => ?_, fun hr => ?_⟩, fun hop => ?_⟩, fun hr => absurd hr0 hr⟩
      · exact ⟨⟨i + 1, hi'⟩, by dsimp only; omega, by dsimp only; rw [hskip (by rw [elig]; simp; intro _; omega)]; exact ⟨⟨rfl, i64_in _ (by omega)⟩, rfl⟩⟩
      · refine ADraw.run us11_10 order_T_ok follows_mixed (by kernel_rfl) (by kernel_rfl) ?_
        simp -implicitDefEqProofs only [cd_t, cd_f, cd_dec, cd_not, cd_and, cd_or, grd_tt, grd_ff, grd_tf, grd_ft, grd_dt, grd_df, grd_nt, grd_nf, go_sem, reduceIte, reduceCtorEq, Nat.reduceEqDiff, Nat.reduceAdd, Nat.reduceLeDiff, Nat.reduceSub, Nat.reduceMul, Nat.reduceLT, Nat.reduceShiftRight, Nat.reduceMod, Int.reduceLE, Int.reduceLT, Int.reduceToNat, decide_true, Bool.and_self, Bool.true_and, Ob.map.injEq, Ob.it.injEq, List.cons.injEq, true_and, and_true]
        have hwm : ∀ a b, wts [⟨a, b⟩] = mks [⟨a, b⟩] := fun _ _ => rfl
        have hel : elig n c = true := by
          simp at hop
          rw [elig, hop]; simp; omega
        rw [if_pos hel] at hst
        have hfin : mks (mksOf (l.take i) w n) ++ wts [⟨c.id, (oneS c (weighS w c.id) (fofi n)).1⟩] = mks (mksOf (l.take (i + 1)) w n) := by rw [hwm, mks_app, hst]; rfl
        have hnext : ∀ s, s = (oneS c (weighS w c.id) (fofi n)).1 → ((mksOf (l.take i) w n).length + 1) * 16 ≤ 140737488355328 ∧ ∃ i_1 : { i : Nat // i ≤ l.length }, l.length - i_1.val < l.length - i ∧ (D.vec 0 ((mksOf (l.take i) w n).length + 1) = D.vec 0 (mksOf (l.take i_1.val) w n).length ∧ IntKind.i64.wrap ((i : Int) + 1) = i_1.val) ∧ Ob.vec true 2 60 (mks (mksOf (l.take i) w n) ++ wts [⟨c.id, s⟩]) = Ob.vec true 2 60 (mks (mksOf (l.take i_1.val) w n)) := fun s hs => by
          refine ⟨by omega, ⟨i + 1, hi'⟩, by dsimp only; omega, ⟨by dsimp only; rw [hst]; simp, i64_in _ (by omega)⟩, ?_⟩
          rw [hs, hfin]
        refine ⟨fun _ => ⟨fun hnan => hnext _ ?_, fun _ => hnext _ rfl⟩, fun h => absurd hone h⟩
        have e1 : (oneS c (weighS w c.id) (fofi n)).1 = far .mul (weighS w c.id) (far .quo (far .sub (fofi (roomC c).1) (fofi n)) (fofi (sumsC c).2.1)) := by rw [oneS, if_pos hc0]
        rw [e1] at hnan ⊢
        exact (far_canon hnan).symm
      · exact ⟨⟨i + 1, hi'⟩, by dsimp only; omega, by dsimp only; rw [hskip (by rw [elig]; simp at hop; simp [hop])]; exact ⟨⟨rfl, i64_in _ (by omega)⟩, rfl⟩⟩
    · have hi' : i = l.length := by omega
      subst hi'
      rw [List.take_length]
      have hlen := mksOf_len (l := l) (w := w) (n := n)
      have hdec : ∀ a : Mk, Mk.dec a.enc = a := Mk.dec_enc
      have hin : ∀ x ∈ mks (mksOf l w n), ∃ a : Mk, x = a.enc := fun x hx => by
        obtain ⟨a, _, rfl⟩ := List.mem_map.1 hx
        exact ⟨a, rfl⟩
      refine ACall.sort Try.sortMk (k := 2) (by decide) Try.isAgg60 Try.sizeOf60 rfl (cf := fun x y => mkO (Mk.dec x) (Mk.dec y)) rfl (by simp) (by omega) ?_ ?_ ?_ ?_ ?_
      · intro x hx y hy
        obtain ⟨a, rfl⟩ := hin x hx
        obtain ⟨b, rfl⟩ := hin y hy
        rw [hdec, hdec]
        exact mkcmp_ok a b
      · intro x hx
        rw [mkO_neg]; exact totM.irr _
      · intro x _ y _ z _
        rw [mkO_neg, mkO_neg, mkO_neg]; exact totM.tr
      · intro x _ y _ z _
        rw [mkO_neg, mkO_neg, mkO_neg]
        unfold ltM; omega
      · intro els' hp hs
        have he := sorted_ord (mksOf_ids hok) hp hs
        subst he
        have hol : (ordM (mksOf l w n)).length = (mksOf l w n).length := by
          have := hp.length_eq
          rwa [mks_length, mks_length] at this
        clear hp hs
        generalize hM : ordM (mksOf l w n) = M at *
        rw [← hol]
        have hml : M.length ≤ 32 := by omega
        simp -implicitDefEqProofs only [cd_t, cd_f, cd_dec, cd_not, cd_and, cd_or, grd_tt, grd_ff, grd_tf, grd_ft, grd_dt, grd_df, grd_nt, grd_nf, go_sem, reduceIte, reduceCtorEq, Nat.reduceEqDiff, Nat.reduceAdd, Nat.reduceLeDiff, Nat.reduceSub, Nat.reduceMul, Nat.reduceLT, Nat.reduceShiftRight, Nat.reduceMod, Int.reduceLE, Int.reduceLT, Int.reduceToNat, decide_true, Bool.and_self, Bool.true_and, Ob.map.injEq, Ob.it.injEq, List.cons.injEq, true_and, and_true]
        refine fun _ => ⟨⟨by omega, by omega⟩, fun _ => ?_⟩
        have hz : List.replicate M.length [C.int .u64 0] = u64s (List.replicate M.length 0) := by simp [u64s]
        rw [hz]
        refine SWp.loop (ι := { x : Nat × List Nat // x.1 ≤ M.length ∧ x.2.length = M.length ∧ ∀ j, j < x.1 → x.2.getD j default = (M.getD j default).id }) (fun x => ⟨[(15, .vec 1 M.length), (77, .vec 0 M.length), (78, .int .i64 M.length), (79, .int .i64 x.1.1)],
          [(1, .vec true 1 24 (u64s x.1.2)), (0, .vec true 2 60 (mks M))], 2⟩) (fun x => M.length - x.1.1) ⟨(0, List.replicate M.length 0), by simp⟩ ?_ ?_
        · simp [go_sem]
        · rintro ⟨⟨j, X⟩, hj, hX, hall⟩
          dsimp only at hj hX hall
          refine awp_sound order_T_ok.toS lv11 _ _ _ rfl ?_
          simp -implicitDefEqProofs only [cd_t, cd_f, cd_dec, cd_not, cd_and, cd_or, grd_tt, grd_ff, grd_tf, grd_ft, grd_dt, grd_df, grd_nt, grd_nf, go_sem, reduceIte, reduceCtorEq, Nat.reduceEqDiff, Nat.reduceAdd, Nat.reduceLeDiff, Nat.reduceSub, Nat.reduceMul, Nat.reduceLT, Nat.reduceShiftRight, Nat.reduceMod, Int.reduceLE, Int.reduceLT, Int.reduceToNat, decide_true, Bool.and_self, Bool.true_and, Ob.map.injEq, Ob.it.injEq, List.cons.injEq, true_and, and_true]
          refine ⟨fun h2 => ⟨by omega, by omega, by omega, ⟨hX.symm, by omega⟩, ⟨(j + 1, X.set j (M.getD j default).id), by dsimp only; omega, by dsimp only; rw [List.length_set]; exact hX, fun q hq => ?_⟩, by dsimp only; omega, i64_in _ (by omega), rfl⟩, fun h2 => ?_⟩
          · dsimp only at hq ⊢
            rw [Srt.set_getD (by omega)]
            by_cases hqj : q = j
            · rw [if_pos hqj, hqj]
            · rw [if_neg hqj]; exact hall q (by omega)
          · have hXm : X = M.map Mk.id := by
              apply List.ext_getElem (by simpa using hX)
              intro q h3 h4
              have := hall q (by omega)
              rw [getD_lt h3, getD_lt (by omega)] at this
              simpa using this
            rw [ordL, if_pos hok, hM, hXm]
            exact ⟨⟨by simp, _, _, _, rfl⟩, rfl⟩
def sp_order : List D → Option (Prop × D × Fr)
  | [.c (.sl z1), .c (.sl z2), .c (.int .u64 z3)] => some (z1 = chs (dchs z1) ∧ z2 = wts (dwts z2) ∧ z3 = (z3.toNat : Int), order_r (dchs z1) (dwts z2) z3.toNat, [])
  | _ => none
attribute [go_sem] sp_order
theorem sp_order_ok : ∀ rs p r fr, sp_order rs = some (p, r, fr) → p → FnOk Try.prog 11 rs r fr := by
  intro rs p r fr h hp
  unfold sp_order at h
  split at h <;> cases h
  obtain ⟨hc0, hc1, hc2⟩ := hp
  rename_i z1 z2 z3
  obtain ⟨z1, rfl⟩ : ∃ m, z1 = chs m := ⟨_, hc0⟩
  obtain ⟨z2, rfl⟩ : ∃ m, z2 = wts m := ⟨_, hc1⟩
  obtain ⟨z3, rfl⟩ : ∃ m : Nat, z3 = m := ⟨_, hc2⟩
  simp only [Int.toNat_natCast, dchs_chs, dwts_wts]
  exact order_ok z1 z2 z3
@[go_sem] def rorder_r (l : List Ch) (w : List Wt) (n : Nat) : D := .tup [.sl (u64s (ordL l w n).1), .int .i64 (ordL l w n).2]
@[go_sem] abbrev n_rorder : FuncId := 16
@[go_sem] def rorder_T : Tab := [(40, sp_r10check), (38, sp_r9room), (15, sp_rone), (23, sp_rweigh), (20, sp_rfless)]
theorem rorder_T_ok : TabOk Try.prog rorder_T := (TabOk.cons sp_r10check_ok (TabOk.cons sp_r9room_ok (TabOk.cons sp_rone_ok (TabOk.cons sp_rweigh_ok (TabOk.cons sp_rfless_ok TabOk.nil)))))
set_option maxRecDepth 8000 in
set_option maxHeartbeats 1000000 in
theorem rorder_ok (l : List Ch) (w : List Wt) (n : Nat)  : PureFn Try.prog 16 [.sl (chs l), .sl (wts w), .c (.int .u64 (n : Int))] (rorder_r l w n) := by
  refine .of (ac16 rorder_T_ok (Nat.le_of_ble_eq_true rfl) ?_)
  simp -implicitDefEqProofs only [cd_t, cd_f, cd_dec, cd_not, cd_and, cd_or, grd_tt, grd_ff, grd_tf, grd_ft, grd_dt, grd_df, grd_nt, grd_nf, go_sem, Go.Proofs.Try.f16, reduceIte, reduceCtorEq, Nat.reduceEqDiff, Nat.reduceAdd, Nat.reduceLeDiff, Nat.reduceSub, Nat.reduceMul, Nat.reduceLT, Nat.reduceShiftRight, Nat.reduceMod, Int.reduceLE, Int.reduceLT, Int.reduceToNat, decide_true, Bool.and_self, Bool.true_and, Ob.map.injEq, Ob.it.injEq, List.cons.injEq, true_and, and_true]
  have hcz : chkL l = 0 ↔ okLd l := by unfold chkL; split <;> simp_all
  rw [hcz]
  refine ⟨fun hok hl => ?_, fun hno => by rw [ordL, if_neg hno]; exact ⟨rfl, rfl⟩⟩
  have hl32 := hok.1
  refine SWp.nilsl 8 rfl ?_
  refine SWp.nilsl 9 rfl ?_
  refine SWp.loopF [8, 9] (ι := { i : Nat // i ≤ l.length }) (fun i => ⟨[(1, .sl (wts w)), (2, .int .u64 n), (8, .sl (u64s ((ordM (mksOf (l.take i.1) w n)).map Mk.id))), (9, .sl (f64s ((ordM (mksOf (l.take i.1) w n)).map Mk.s))), (20, .sl (chs l)), (21, .int .i64 l.length), (22, .int .i64 i.1)], [], 0⟩) (fun i => l.length - i.1) ⟨0, by omega⟩ ?_ ?_
  · simp [go_sem, mksOf, ordM, u64s, f64s, St.rep]
  · rintro ⟨i, hi⟩
    refine awp_sound rorder_T_ok.toS lv16 _ _ _ rfl ?_
    simp -implicitDefEqProofs only [cd_t, cd_f, cd_dec, cd_not, cd_and, cd_or, grd_tt, grd_ff, grd_tf, grd_ft, grd_dt, grd_df, grd_nt, grd_nf, go_sem, reduceIte, reduceCtorEq, Nat.reduceEqDiff, Nat.reduceAdd, Nat.reduceLeDiff, Nat.reduceSub, Nat.reduceMul, Nat.reduceLT, Nat.reduceShiftRight, Nat.reduceMod, Int.reduceLE, Int.reduceLT, Int.reduceToNat, decide_true, Bool.and_self, Bool.true_and, Ob.map.injEq, Ob.it.injEq, List.cons.injEq, true_and, and_true]
    refine ⟨fun h => ⟨by omega, ?_⟩, fun h => ?_⟩
    · have hi' : i < l.length := by omega
      have hc0 : okCh (l.getD i default) := hok.2.1 _ (mem_getD.2 ⟨i, hi', rfl⟩)
      have hst := mksOf_succ (w := w) (n := n) hi'
      have hlen := mksOf_len (l := l.take i) (w := w) (n := n)
      rw [List.length_take] at hlen
      have hids := mksOf_ids (w := w) (n := n) hok
      generalize hc : l.getD i default = c at *
      have hskip : elig n c ≠ true → ∃ i_1 : { i : Nat // i ≤ l.length }, l.length - i_1.val < l.length - i ∧ u64s ((ordM (mksOf (l.take i) w n)).map Mk.id) = u64s ((ordM (mksOf (l.take i_1.val) w n)).map Mk.id) ∧ f64s ((ordM (mksOf (l.take i) w n)).map Mk.s) = f64s ((ordM (mksOf (l.take i_1.val) w n)).map Mk.s) ∧ IntKind.i64.wrap ((i : Int) + 1) = i_1.val := fun he =>
        ⟨⟨i + 1, hi'⟩, by dsimp only; omega, by dsimp only; rw [hst, if_neg he, List.append_nil], by dsimp only; rw [hst, if_neg he, List.append_nil], i64_in _ (by omega)⟩
      refine ⟨fun hop => ⟨fun hr0 => ⟨fun hr => hskip (by rw [elig]; simp; intro _; omega), fun hr => ?_⟩, fun hr => hskip (by rw [elig]; simp; intro _; omega)⟩, fun hop => hskip (by rw [elig]; simp at hop; simp [hop])⟩
      have hel : elig n c = true := by
        simp at hop
        rw [elig, hop]; simp; omega
      rw [if_pos hel] at hst
      refine ADraw.run us16_10 rorder_T_ok follows_mixed (by kernel_rfl) (by kernel_rfl) ?_
      simp -implicitDefEqProofs only [cd_t, cd_f, cd_dec, cd_not, cd_and, cd_or, grd_tt, grd_ff, grd_tf, grd_ft, grd_dt, grd_df, grd_nt, grd_nf, go_sem, reduceIte, reduceCtorEq, Nat.reduceEqDiff, Nat.reduceAdd, Nat.reduceLeDiff, Nat.reduceSub, Nat.reduceMul, Nat.reduceLT, Nat.reduceShiftRight, Nat.reduceMod, Int.reduceLE, Int.reduceLT, Int.reduceToNat, decide_true, Bool.and_self, Bool.true_and, Ob.map.injEq, Ob.it.injEq, List.cons.injEq, true_and, and_true]
      have hLu : Srt.Up Mk.key ltM (ordM (mksOf (l.take i) w n)) := ordM_up
      have hLn : ((mksOf (l.take i) w n).map Mk.id).Nodup := by
        have h5 : mksOf (l.take i) w n <+: mksOf l w n := by
          unfold mksOf
          exact ((List.take_prefix i l).filter _).map _
        exact (h5.sublist.map Mk.id).nodup hids
      have hLm : ∀ x ∈ ordM (mksOf (l.take i) w n), x.id < c.id := fun x hx => by
        have h5 := (ordM_mem hLn).1 hx
        obtain ⟨d, hd, rfl⟩ := List.mem_map.1 h5
        have h6 := (List.mem_filter.1 hd).1
        obtain ⟨q, hq, rfl⟩ := mem_getD.1 h6
        rw [List.length_take] at hq
        have h7 := (Srt.up_get).1 ((Srt.chn_up (lt := ltN) Srt.totNat).1 hok.2.2.1) q i (by omega) hi'
        rw [hc] at h7
        have h8 : (l.take i).getD q default = l.getD q default := by
          simp only [List.getD_eq_getElem?_getD, List.getElem?_take]
          rw [if_pos (by omega)]
        rw [h8]
        exact h7
      have hLl : (ordM (mksOf (l.take i) w n)).length ≤ 32 := by
        have h5 : (ordM (mksOf (l.take i) w n)).length ≤ (mksOf (l.take i) w n).length := by
          have key : ∀ (l m : List Mk), (l.foldl (Srt.put Mk.key ltM) m).length ≤ m.length + l.length := by
            intro l
            induction l with
            | nil => intro m; simp
            | cons x l ih =>
              intro m
              have h1 := ih (Srt.put Mk.key ltM m x)
              have h2 : (Srt.put Mk.key ltM m x).length ≤ m.length + 1 := by rw [Srt.put_len]; split <;> omega
              rw [List.foldl_cons, List.length_cons]; omega
          have := key (mksOf (l.take i) w n) []
          unfold ordM
          simpa using this
        omega
      have hLs : ordM (mksOf (l.take (i + 1)) w n) = Srt.put Mk.key ltM (ordM (mksOf (l.take i) w n)) (mkOf w n c) := by rw [hst, ordM, List.foldl_append]; rfl
      generalize hL : ordM (mksOf (l.take i) w n) = L at *
      have hms : (mkOf w n c).s = (oneS c (weighS w c.id) (fofi n)).1 := rfl
      have hmi : (mkOf w n c).id = c.id := rfl
      generalize hm : mkOf w n c = m at *
      rw [← hms]
      refine fun _ => SWp.loop (ι := { k : Nat // k ≤ L.length ∧ (k < L.length → fkey (L.getD k default).s < fkey m.s) }) (fun k => ⟨[(1, .sl (wts w)), (2, .int .u64 n), (8, .sl (u64s (L.map Mk.id))), (9, .sl (f64s (L.map Mk.s))), (11, .ref 0 0), (14, .c (.flt .f64 m.s)), (16, .int .i64 k.1), (20, .sl (chs l)), (21, .int .i64 l.length), (22, .int .i64 i)],
        [(0, .box [.int .u64 c.id, .int .u64 c.loc, .int .u64 c.rem, .int .u64 c.res, .int .u64 c.most, .sl (hds c.holds), .bool c.op])], 1⟩) (fun k => k.1) ⟨L.length, by omega, fun h => absurd h (by omega)⟩ ?_ ?_
      · simp [go_sem]
      · rintro ⟨k, hk, hk2⟩
        refine awp_sound rorder_T_ok.toS lv16 _ _ _ rfl ?_
        simp -implicitDefEqProofs only [cd_t, cd_f, cd_dec, cd_not, cd_and, cd_or, grd_tt, grd_ff, grd_tf, grd_ft, grd_dt, grd_df, grd_nt, grd_nf, go_sem, reduceIte, reduceCtorEq, Nat.reduceEqDiff, Nat.reduceAdd, Nat.reduceLeDiff, Nat.reduceSub, Nat.reduceMul, Nat.reduceLT, Nat.reduceShiftRight, Nat.reduceMod, Int.reduceLE, Int.reduceLT, Int.reduceToNat, decide_true, Bool.and_self, Bool.true_and, Ob.map.injEq, Ob.it.injEq, List.cons.injEq, true_and, and_true]
        have hsk : ∀ q, q < L.length → (L.map Mk.s).getD q (some 0) = (L.getD q default).s := fun q hq => by
          rw [List.getD_eq_getElem?_getD, List.getElem?_map, getD_lt hq, List.getElem?_eq_getElem hq]; rfl
        have hfin : (0 < k → ¬ fkey (L.getD (k - 1) default).s < fkey m.s) → Srt.put Mk.key ltM L m = L.take k ++ m :: L.drop k := fun hlast => by
          have hmid : ∀ q, q < L.length → (L.getD q default).id < m.id := fun q hq => by rw [hmi]; exact hLm _ (mem_getD.2 ⟨q, hq, rfl⟩)
          have hp : Srt.pos Mk.key ltM L m.key = k := by
            refine Srt.pos_eq hk (fun j hj => ?_) (fun hkl => ?_)
            · have h5 : ltM (L.getD (k - 1) default).key m.key := by
                have h6 := hlast (by omega)
                have h7 := hmid (k - 1) (by omega)
                unfold ltM Mk.key; simp only; omega
              by_cases hjk : j = k - 1
              · rw [hjk]; exact h5
              · exact totM.tr (Srt.up_get.1 hLu j (k - 1) (by omega) (by omega)) h5
            · have h6 := hk2 hkl
              unfold ltM Mk.key; simp only; omega
          have ht : ¬ Srt.thr Mk.key ltM L m.key = true := fun h => by
            obtain ⟨z, hz, he⟩ := (Srt.thr_iff totM hLu).1 h
            have : z.id = m.id := congrArg Prod.snd he
            have := hLm z hz
            omega
          rw [Srt.put, if_neg ht, hp]; rfl
        have hcons : List.length (L.map Mk.id) = L.length := by simp
        refine ⟨fun h5 => ⟨?gB, ?gC, fun h6 => ?_⟩, fun h5 => ?_⟩
        case gB => rw [i64_in _ (by omega)]; simp; omega
        case gC =>
          rw [i64_in _ (by omega), show ((k : Int) - 1).toNat = k - 1 by omega, hsk _ (by omega)]
          exact fun h6 => ⟨⟨k - 1, by omega, fun _ => of_decide_eq_true h6⟩, by dsimp only; omega, by dsimp only; omega⟩
        all_goals
          have hput := hfin fun h0 => by
            first
            | (exfalso; omega)
            | (rw [i64_in _ (by omega), show ((k : Int) - 1).toNat = k - 1 by omega, hsk _ (by omega)] at h6
               exact of_decide_eq_false h6)
          have hl1 : (List.take k (L.map Mk.id)).length = k := by simp; omega
          have hl2 : (List.drop k (L.map Mk.id)).length = L.length - k := by simp
          have hl3 : (List.take k (L.map Mk.s)).length = k := by simp; omega
          have hl4 : (List.drop k (L.map Mk.s)).length = L.length - k := by simp
          have hcons2 : List.length (L.map Mk.s) = L.length := by simp
          refine ADraw.run us16_14 rorder_T_ok follows_mixed (by kernel_rfl) (by kernel_rfl) ?_
          simp -implicitDefEqProofs only [cd_t, cd_f, cd_dec, cd_not, cd_and, cd_or, grd_tt, grd_ff, grd_tf, grd_ft, grd_dt, grd_df, grd_nt, grd_nf, go_sem, reduceIte, reduceCtorEq, Nat.reduceEqDiff, Nat.reduceAdd, Nat.reduceLeDiff, Nat.reduceSub, Nat.reduceMul, Nat.reduceLT, Nat.reduceShiftRight, Nat.reduceMod, Int.reduceLE, Int.reduceLT, Int.reduceToNat, decide_true, Bool.and_self, Bool.true_and, Ob.map.injEq, Ob.it.injEq, List.cons.injEq, true_and, and_true]
          rw [hl1, hl2, hcons]
          refine ⟨by omega, by omega, by omega, by omega, by omega, ?_⟩
          refine ADraw.run us16_15 rorder_T_ok follows_mixed (by kernel_rfl) (by kernel_rfl) ?_
          simp -implicitDefEqProofs only [cd_t, cd_f, cd_dec, cd_not, cd_and, cd_or, grd_tt, grd_ff, grd_tf, grd_ft, grd_dt, grd_df, grd_nt, grd_nf, go_sem, reduceIte, reduceCtorEq, Nat.reduceEqDiff, Nat.reduceAdd, Nat.reduceLeDiff, Nat.reduceSub, Nat.reduceMul, Nat.reduceLT, Nat.reduceShiftRight, Nat.reduceMod, Int.reduceLE, Int.reduceLT, Int.reduceToNat, decide_true, Bool.and_self, Bool.true_and, Ob.map.injEq, Ob.it.injEq, List.cons.injEq, true_and, and_true]
          rw [hl1, hl2, hl3, hl4, hcons2]
          refine ⟨by omega, by omega, by omega, by omega, by omega, by omega, by omega, ⟨i + 1, hi'⟩, by dsimp only; omega, ?_, ?_, i64_in _ (by omega)⟩
          · dsimp only; rw [hLs, hput, List.map_append, List.map_cons, List.map_take, List.map_drop, hmi]
          · dsimp only; rw [hLs, hput, List.map_append, List.map_cons, List.map_take, List.map_drop]
    · have hi' : i = l.length := by omega
      subst hi'
      rw [List.take_length, ordL, if_pos hok]; exact ⟨rfl, rfl⟩
def sp_rorder : List D → Option (Prop × D × Fr)
  | [.c (.sl z4), .c (.sl z5), .c (.int .u64 z6)] => some (z4 = chs (dchs z4) ∧ z5 = wts (dwts z5) ∧ z6 = (z6.toNat : Int), rorder_r (dchs z4) (dwts z5) z6.toNat, [])
  | _ => none
attribute [go_sem] sp_rorder
theorem sp_rorder_ok : ∀ rs p r fr, sp_rorder rs = some (p, r, fr) → p → FnOk Try.prog 16 rs r fr := by
  intro rs p r fr h hp
  unfold sp_rorder at h
  split at h <;> cases h
  obtain ⟨hc0, hc1, hc2⟩ := hp
  rename_i z4 z5 z6
  obtain ⟨z4, rfl⟩ : ∃ m, z4 = chs m := ⟨_, hc0⟩
  obtain ⟨z5, rfl⟩ : ∃ m, z5 = wts m := ⟨_, hc1⟩
  obtain ⟨z6, rfl⟩ : ∃ m : Nat, z6 = m := ⟨_, hc2⟩
  simp only [Int.toNat_natCast, dchs_chs, dwts_wts]
  exact rorder_ok z4 z5 z6
def firstL (l : List Ch) (w : List Wt) (n : Nat) : Nat × Int := if (ordL l w n).2 = 0 then (match (ordL l w n).1 with
  | [] => (0, 5)
  | x :: _ => (x, 0)) else (0, (ordL l w n).2)
@[go_sem] def first_r (l : List Ch) (w : List Wt) (n : Nat) : D := .tup [.int .u64 ((firstL l w n).1 : Int), .int .i64 (firstL l w n).2]
@[go_sem] abbrev n_first : FuncId := 17
@[go_sem] def first_T : Tab := [(11, sp_order)]
theorem first_T_ok : TabOk Try.prog first_T := (TabOk.cons sp_order_ok TabOk.nil)
set_option maxRecDepth 8000 in
set_option maxHeartbeats 1000000 in
theorem first_ok (l : List Ch) (w : List Wt) (n : Nat)  : PureFn Try.prog 17 [.sl (chs l), .sl (wts w), .c (.int .u64 (n : Int))] (first_r l w n) := by
  refine .of (ac17 first_T_ok (Nat.le_of_ble_eq_true rfl) ?_)
  simp -implicitDefEqProofs only [cd_t, cd_f, cd_dec, cd_not, cd_and, cd_or, grd_tt, grd_ff, grd_tf, grd_ft, grd_dt, grd_df, grd_nt, grd_nf, go_sem, Go.Proofs.Try.f17, reduceIte, reduceCtorEq, Nat.reduceEqDiff, Nat.reduceAdd, Nat.reduceLeDiff, Nat.reduceSub, Nat.reduceMul, Nat.reduceLT, Nat.reduceShiftRight, Nat.reduceMod, Int.reduceLE, Int.reduceLT, Int.reduceToNat, decide_true, Bool.and_self, Bool.true_and, Ob.map.injEq, Ob.it.injEq, List.cons.injEq, true_and, and_true]
  unfold firstL
  refine ⟨fun h hl => ?_, fun h => by rw [if_neg h]; exact ⟨rfl, rfl⟩⟩
  rw [if_pos h]
  cases (ordL l w n).1 with
  | nil => exact ⟨fun _ => ⟨rfl, rfl⟩, fun h => absurd rfl h⟩
  | cons x t => exact ⟨fun h => absurd h (by rw [List.length_cons]; omega), fun _ => ⟨by rw [List.length_cons]; omega, rfl, rfl⟩⟩
def sp_first : List D → Option (Prop × D × Fr)
  | [.c (.sl z7), .c (.sl z8), .c (.int .u64 z9)] => some (z7 = chs (dchs z7) ∧ z8 = wts (dwts z8) ∧ z9 = (z9.toNat : Int), first_r (dchs z7) (dwts z8) z9.toNat, [])
  | _ => none
attribute [go_sem] sp_first
theorem sp_first_ok : ∀ rs p r fr, sp_first rs = some (p, r, fr) → p → FnOk Try.prog 17 rs r fr := by
  intro rs p r fr h hp
  unfold sp_first at h
  split at h <;> cases h
  obtain ⟨hc0, hc1, hc2⟩ := hp
  rename_i z7 z8 z9
  obtain ⟨z7, rfl⟩ : ∃ m, z7 = chs m := ⟨_, hc0⟩
  obtain ⟨z8, rfl⟩ : ∃ m, z8 = wts m := ⟨_, hc1⟩
  obtain ⟨z9, rfl⟩ : ∃ m : Nat, z9 = m := ⟨_, hc2⟩
  simp only [Int.toNat_natCast, dchs_chs, dwts_wts]
  exact first_ok z7 z8 z9
@[go_sem] def rfirst_r (l : List Ch) (w : List Wt) (n : Nat) : D := .tup [.int .u64 ((firstL l w n).1 : Int), .int .i64 (firstL l w n).2]
@[go_sem] abbrev n_rfirst : FuncId := 18
@[go_sem] def rfirst_T : Tab := [(16, sp_rorder)]
theorem rfirst_T_ok : TabOk Try.prog rfirst_T := (TabOk.cons sp_rorder_ok TabOk.nil)
set_option maxRecDepth 8000 in
set_option maxHeartbeats 1000000 in
theorem rfirst_ok (l : List Ch) (w : List Wt) (n : Nat)  : PureFn Try.prog 18 [.sl (chs l), .sl (wts w), .c (.int .u64 (n : Int))] (rfirst_r l w n) := by
  refine .of (ac18 rfirst_T_ok (Nat.le_of_ble_eq_true rfl) ?_)
  simp -implicitDefEqProofs only [cd_t, cd_f, cd_dec, cd_not, cd_and, cd_or, grd_tt, grd_ff, grd_tf, grd_ft, grd_dt, grd_df, grd_nt, grd_nf, go_sem, Go.Proofs.Try.f18, reduceIte, reduceCtorEq, Nat.reduceEqDiff, Nat.reduceAdd, Nat.reduceLeDiff, Nat.reduceSub, Nat.reduceMul, Nat.reduceLT, Nat.reduceShiftRight, Nat.reduceMod, Int.reduceLE, Int.reduceLT, Int.reduceToNat, decide_true, Bool.and_self, Bool.true_and, Ob.map.injEq, Ob.it.injEq, List.cons.injEq, true_and, and_true]
  unfold firstL
  refine ⟨fun h hl => ?_, fun h => by rw [if_neg h]; exact ⟨rfl, rfl⟩⟩
  rw [if_pos h]
  cases (ordL l w n).1 with
  | nil => exact ⟨fun _ => ⟨rfl, rfl⟩, fun h => absurd rfl h⟩
  | cons x t => exact ⟨fun h => absurd h (by rw [List.length_cons]; omega), fun _ => ⟨by rw [List.length_cons]; omega, rfl, rfl⟩⟩
def sp_rfirst : List D → Option (Prop × D × Fr)
  | [.c (.sl z10), .c (.sl z11), .c (.int .u64 z12)] => some (z10 = chs (dchs z10) ∧ z11 = wts (dwts z11) ∧ z12 = (z12.toNat : Int), rfirst_r (dchs z10) (dwts z11) z12.toNat, [])
  | _ => none
attribute [go_sem] sp_rfirst
theorem sp_rfirst_ok : ∀ rs p r fr, sp_rfirst rs = some (p, r, fr) → p → FnOk Try.prog 18 rs r fr := by
  intro rs p r fr h hp
  unfold sp_rfirst at h
  split at h <;> cases h
  obtain ⟨hc0, hc1, hc2⟩ := hp
  rename_i z10 z11 z12
  obtain ⟨z10, rfl⟩ : ∃ m, z10 = chs m := ⟨_, hc0⟩
  obtain ⟨z11, rfl⟩ : ∃ m, z11 = wts m := ⟨_, hc1⟩
  obtain ⟨z12, rfl⟩ : ∃ m : Nat, z12 = m := ⟨_, hc2⟩
  simp only [Int.toNat_natCast, dchs_chs, dwts_wts]
  exact rfirst_ok z10 z11 z12
@[go_sem] def samenums_r (a : List Nat) (b : List Nat) : D := .bool (decide (a = b))
@[go_sem] abbrev n_samenums : FuncId := 13
@[go_sem] def samenums_T : Tab := []
theorem samenums_T_ok : TabOk Try.prog samenums_T := TabOk.nil
set_option maxRecDepth 8000 in
set_option maxHeartbeats 1000000 in
theorem samenums_ok (a : List Nat) (b : List Nat)  : PureFn Try.prog 13 [.sl (u64s a), .sl (u64s b)] (samenums_r a b) := by
  refine .of (ac13 samenums_T_ok (Nat.le_of_ble_eq_true rfl) ?_)
  simp -implicitDefEqProofs only [cd_t, cd_f, cd_dec, cd_not, cd_and, cd_or, grd_tt, grd_ff, grd_tf, grd_ft, grd_dt, grd_df, grd_nt, grd_nf, go_sem, Go.Proofs.Try.f13, reduceIte, reduceCtorEq, Nat.reduceEqDiff, Nat.reduceAdd, Nat.reduceLeDiff, Nat.reduceSub, Nat.reduceMul, Nat.reduceLT, Nat.reduceShiftRight, Nat.reduceMod, Int.reduceLE, Int.reduceLT, Int.reduceToNat, decide_true, Bool.and_self, Bool.true_and, Ob.map.injEq, Ob.it.injEq, List.cons.injEq, true_and, and_true]
  refine fun ha hb => ⟨fun h _ => ?_, fun h => ?_⟩
  · have hl : a.length = b.length := by omega
    refine SWp.loop (ι := { i : Nat // i ≤ a.length ∧ ∀ j, j < i → a.getD j default = b.getD j default }) (fun i => ⟨[(0, .sl (u64s a)), (1, .sl (u64s b)), (12, .int .i64 a.length), (13, .int .i64 i.1)], [], 0⟩) (fun i => a.length - i.1) ⟨0, by simp⟩ ?_ ?_
    · simp [go_sem]
    · rintro ⟨i, hi, hall⟩
      refine awp_sound samenums_T_ok.toS lv13 _ _ _ rfl ?_
      simp -implicitDefEqProofs only [cd_t, cd_f, cd_dec, cd_not, cd_and, cd_or, grd_tt, grd_ff, grd_tf, grd_ft, grd_dt, grd_df, grd_nt, grd_nf, go_sem, reduceIte, reduceCtorEq, Nat.reduceEqDiff, Nat.reduceAdd, Nat.reduceLeDiff, Nat.reduceSub, Nat.reduceMul, Nat.reduceLT, Nat.reduceShiftRight, Nat.reduceMod, Int.reduceLE, Int.reduceLT, Int.reduceToNat, decide_true, Bool.and_self, Bool.true_and, Ob.map.injEq, Ob.it.injEq, List.cons.injEq, true_and, and_true]
      refine ⟨fun h1 => ?_, fun h1 => ?_⟩
      · refine ADraw.run us13_6 samenums_T_ok follows_mixed (by kernel_rfl) (by kernel_rfl) ?_
        simp -implicitDefEqProofs only [cd_t, cd_f, cd_dec, cd_not, cd_and, cd_or, grd_tt, grd_ff, grd_tf, grd_ft, grd_dt, grd_df, grd_nt, grd_nf, go_sem, reduceIte, reduceCtorEq, Nat.reduceEqDiff, Nat.reduceAdd, Nat.reduceLeDiff, Nat.reduceSub, Nat.reduceMul, Nat.reduceLT, Nat.reduceShiftRight, Nat.reduceMod, Int.reduceLE, Int.reduceLT, Int.reduceToNat, decide_true, Bool.and_self, Bool.true_and, Ob.map.injEq, Ob.it.injEq, List.cons.injEq, true_and, and_true]
        refine ⟨by omega, by omega, fun h2 => ⟨⟨i + 1, by omega, fun j hj => ?_⟩, by dsimp only; omega, i64_in _ (by omega)⟩, fun h2 => ?_⟩
        · by_cases hji : j = i
          · subst hji; omega
          · exact hall j (by omega)
        · rw [eq_comm, decide_eq_false_iff_not]
          rintro rfl
          exact h2 rfl
      · have : a = b := by
          apply List.ext_getElem hl
          intro q h3 h4
          have := hall q (by omega)
          rwa [getD_lt h3, getD_lt h4] at this
        rw [decide_eq_true this]
  · rw [eq_comm, decide_eq_false_iff_not]
    rintro rfl
    exact h rfl
def sp_samenums : List D → Option (Prop × D × Fr)
  | [.c (.sl z13), .c (.sl z14)] => some (z13 = u64s (du64s z13) ∧ z14 = u64s (du64s z14), samenums_r (du64s z13) (du64s z14), [])
  | _ => none
attribute [go_sem] sp_samenums
theorem sp_samenums_ok : ∀ rs p r fr, sp_samenums rs = some (p, r, fr) → p → FnOk Try.prog 13 rs r fr := by
  intro rs p r fr h hp
  unfold sp_samenums at h
  split at h <;> cases h
  obtain ⟨hc0, hc1⟩ := hp
  rename_i z13 z14
  obtain ⟨z13, rfl⟩ : ∃ m, z13 = u64s m := ⟨_, hc0⟩
  obtain ⟨z14, rfl⟩ : ∃ m, z14 = u64s m := ⟨_, hc1⟩
  simp only [du64s_u64s]
  exact samenums_ok z13 z14
@[go_sem] def live_r  : D := .bool true
@[go_sem] abbrev n_live : FuncId := 9
@[go_sem] def live_T : Tab := [(17, sp_first), (22, sp_weigh)]
theorem live_T_ok : TabOk Try.prog live_T := (TabOk.cons sp_first_ok (TabOk.cons sp_weigh_ok TabOk.nil))
set_option maxRecDepth 8000 in
set_option maxHeartbeats 1000000 in
theorem live_ok   : PureFn Try.prog 9 [] (live_r ) := by
  refine .of (ac9 live_T_ok (Nat.le_of_ble_eq_true rfl) ?_)
  simp -implicitDefEqProofs only [cd_t, cd_f, cd_dec, cd_not, cd_and, cd_or, grd_tt, grd_ff, grd_tf, grd_ft, grd_dt, grd_df, grd_nt, grd_nf, go_sem, Go.Proofs.Try.f9, reduceIte, reduceCtorEq, Nat.reduceEqDiff, Nat.reduceAdd, Nat.reduceLeDiff, Nat.reduceSub, Nat.reduceMul, Nat.reduceLT, Nat.reduceShiftRight, Nat.reduceMod, Int.reduceLE, Int.reduceLT, Int.reduceToNat, decide_true, Bool.and_self, Bool.true_and, Ob.map.injEq, Ob.it.injEq, List.cons.injEq, true_and, and_true]
  have e : dchs [[C.int .u64 3, C.int .u64 5, C.int .u64 0, C.int .u64 0, C.int .u64 9, C.sl [], C.bool true], [C.int .u64 7, C.int .u64 5, C.int .u64 0, C.int .u64 0, C.int .u64 9, C.sl [], C.bool true]] = [⟨3, 5, 0, 0, 9, [], true⟩, ⟨7, 5, 0, 0, 9, [], true⟩] := rfl
  have e2 : dwts [] = [] := rfl
  rw [e, e2]
  have hf : firstL [⟨3, 5, 0, 0, 9, [], true⟩, ⟨7, 5, 0, 0, 9, [], true⟩] [] 2 = (3, 0) := by decide +kernel
  have hw : (ford (weighS [] 3) (some 4607182418800017408) == some .eq) = true := by decide +kernel
  rw [hf, hw]
  exact ⟨⟨rfl, rfl⟩, fun _ => ⟨fun _ => ⟨rfl, rfl⟩, fun h => absurd rfl h⟩, fun h => absurd rfl h⟩
def sp_live : List D → Option (Prop × D × Fr)
  | [] => some (True, live_r , [])
  | _ => none
attribute [go_sem] sp_live
theorem sp_live_ok : ∀ rs p r fr, sp_live rs = some (p, r, fr) → p → FnOk Try.prog 9 rs r fr := by
  intro rs p r fr h hp
  unfold sp_live at h
  split at h <;> cases h
  exact live_ok 
@[go_sem] def ScoreLess_r (a : Option Nat) (b : Option Nat) (c : Option Nat) : D := .bool true
@[go_sem] abbrev n_ScoreLess : FuncId := 5
@[go_sem] def ScoreLess_T : Tab := [(9, sp_live), (19, sp_less)]
theorem ScoreLess_T_ok : TabOk Try.prog ScoreLess_T := (TabOk.cons sp_live_ok (TabOk.cons sp_less_ok TabOk.nil))
set_option maxRecDepth 8000 in
set_option maxHeartbeats 1000000 in
theorem ScoreLess_ok (a : Option Nat) (b : Option Nat) (c : Option Nat)  : PureFn Try.prog 5 [.c (.flt .f64 a), .c (.flt .f64 b), .c (.flt .f64 c)] (ScoreLess_r a b c) := by
  refine .of (ac5 ScoreLess_T_ok (Nat.le_of_ble_eq_true rfl) ?_)
  simp -implicitDefEqProofs only [cd_t, cd_f, cd_dec, cd_not, cd_and, cd_or, grd_tt, grd_ff, grd_tf, grd_ft, grd_dt, grd_df, grd_nt, grd_nf, go_sem, Go.Proofs.Try.f5, reduceIte, reduceCtorEq, Nat.reduceEqDiff, Nat.reduceAdd, Nat.reduceLeDiff, Nat.reduceSub, Nat.reduceMul, Nat.reduceLT, Nat.reduceShiftRight, Nat.reduceMod, Int.reduceLE, Int.reduceLT, Int.reduceToNat, decide_true, Bool.and_self, Bool.true_and, Ob.map.injEq, Ob.it.injEq, List.cons.injEq, true_and, and_true]
  have hfn : ∀ a, (ford a a != some .eq) = decide (fkey a = kNan) := fun a => fnan_key a
  have h1 := fkey_ge a
  have h2 := fkey_ge b
  have h3 := fkey_ge c
  simp only [fless, hfn, ford_eqk, ford_lt]
  generalize fkey a = x at *
  generalize fkey b = y at *
  generalize fkey c = z at *
  generalize kNan = k at *
  have tri : ∀ p q : Int, (p < q ∧ ¬ q < p ∧ ¬ p = q ∧ ¬ q = p) ∨ (p = q ∧ ¬ p < q ∧ ¬ q < p) ∨ (q < p ∧ ¬ p < q ∧ ¬ p = q ∧ ¬ q = p) := fun p q => by omega
  have hir : ∀ p : Int, ¬ p < p := fun p => by omega
  rcases tri x y with ⟨a1, a2, a3, a4⟩ | ⟨a1, a2, a3⟩ | ⟨a1, a2, a3, a4⟩ <;> rcases tri x z with ⟨b1, b2, b3, b4⟩ | ⟨b1, b2, b3⟩ | ⟨b1, b2, b3, b4⟩ <;> rcases tri y z with ⟨c1, c2, c3, c4⟩ | ⟨c1, c2, c3⟩ | ⟨c1, c2, c3, c4⟩ <;> first
    | (exfalso; omega)
    | (rcases tri k x with ⟨d1, d2, d3, d4⟩ | ⟨d1, d2, d3⟩ | ⟨d1, d2, d3, d4⟩ <;> rcases tri k y with ⟨e1, e2, e3, e4⟩ | ⟨e1, e2, e3⟩ | ⟨e1, e2, e3, e4⟩ <;> first
      | (exfalso; omega)
      | (simp [*]; done)
      | (simp [*]; omega))
def sp_ScoreLess : List D → Option (Prop × D × Fr)
  | [.c (.flt .f64 z15), .c (.flt .f64 z16), .c (.flt .f64 z17)] => some (True, ScoreLess_r z15 z16 z17, [])
  | _ => none
attribute [go_sem] sp_ScoreLess
theorem sp_ScoreLess_ok : ∀ rs p r fr, sp_ScoreLess rs = some (p, r, fr) → p → FnOk Try.prog 5 rs r fr := by
  intro rs p r fr h hp
  unfold sp_ScoreLess at h
  split at h <;> cases h
  rename_i z15 z16 z17
  exact ScoreLess_ok z15 z16 z17
@[go_sem] def ScoreScales_r (c : Ch) (w : Option Nat) (n : Option Nat) : D := .bool true
@[go_sem] abbrev n_ScoreScales : FuncId := 6
@[go_sem] def ScoreScales_T : Tab := [(9, sp_live), (14, sp_one), (19, sp_less)]
theorem ScoreScales_T_ok : TabOk Try.prog ScoreScales_T := (TabOk.cons sp_live_ok (TabOk.cons sp_one_ok (TabOk.cons sp_less_ok TabOk.nil)))
set_option maxRecDepth 8000 in
set_option maxHeartbeats 1000000 in
theorem ScoreScales_ok (c : Ch) (w : Option Nat) (n : Option Nat)  : PureFn Try.prog 6 [.agg [.c (.int .u64 (c.id : Int)), .c (.int .u64 (c.loc : Int)), .c (.int .u64 (c.rem : Int)), .c (.int .u64 (c.res : Int)), .c (.int .u64 (c.most : Int)), .sl (hds c.holds), .c (.bool c.op)], .c (.flt .f64 w), .c (.flt .f64 n)] (ScoreScales_r c w n) := by
  refine .of (ac6 ScoreScales_T_ok (Nat.le_of_ble_eq_true rfl) ?_)
  simp -implicitDefEqProofs only [cd_t, cd_f, cd_dec, cd_not, cd_and, cd_or, grd_tt, grd_ff, grd_tf, grd_ft, grd_dt, grd_df, grd_nt, grd_nf, go_sem, Go.Proofs.Try.f6, reduceIte, reduceCtorEq, Nat.reduceEqDiff, Nat.reduceAdd, Nat.reduceLeDiff, Nat.reduceSub, Nat.reduceMul, Nat.reduceLT, Nat.reduceShiftRight, Nat.reduceMod, Int.reduceLE, Int.reduceLT, Int.reduceToNat, decide_true, Bool.and_self, Bool.true_and, Ob.map.injEq, Ob.it.injEq, List.cons.injEq, true_and, and_true]
  refine fun _ => ⟨fun _ => trivial, fun hh => ?_⟩
  have hself : ∀ x, (ford x x == some .eq) = !decide (fkey x = kNan) := fun x => by rw [ford_eqk]; simp
  have hfn : ∀ a, (ford a a != some .eq) = decide (fkey a = kNan) := fun a => fnan_key a
  by_cases hok : okCh c
  · have e1 : ∀ w, oneS c w n = (far .mul w (far .quo (far .sub (fofi (roomC c).1) n) (fofi (sumsC c).2.1)), 0) := fun w => by rw [oneS, if_pos hok]
    simp only [e1]
    generalize far .quo (far .sub (fofi (roomC c).1) n) (fofi (sumsC c).2.1) = p
    have h1 : fkey (fneg (far .mul (fneg w) p)) = fkey (far .mul w p) := by
      have : fkey (fneg (far .mul (fneg w) p)) = fkey (fneg (fneg (far .mul w p))) := by rw [fneg_key, fneg_key (fneg (far .mul w p)), mul_neg_key]
      rw [this, fneg_fneg_key]
    have h2 := zero_mul_key p
    simp only [fless, hself, hfn, h1, fkey_0]
    generalize fkey (far .mul w p) = A
    generalize fkey (far .mul (fneg w) p) = B
    generalize fkey (far .mul (some 0) p) = Z at *
    have h0 := kNan_0
    generalize kNan = k at *
    rcases h2 with rfl | rfl
    · simp
    · simp [h0]
  · have e1 : ∀ w, oneS c w n = (some 0, 1) := fun w => by rw [oneS, if_neg hok]
    have h0 : (ford (some 0) (some 0) == some .eq) = true := by decide +kernel
    simp only [e1, h0]
    simp
def sp_ScoreScales : List D → Option (Prop × D × Fr)
  | [.agg [.c (.int .u64 z19), .c (.int .u64 z20), .c (.int .u64 z21), .c (.int .u64 z22), .c (.int .u64 z23), .c (.sl z24), .c (.bool z25)], .c (.flt .f64 z26), .c (.flt .f64 z27)] => some (z19 = (z19.toNat : Int) ∧ z20 = (z20.toNat : Int) ∧ z21 = (z21.toNat : Int) ∧ z22 = (z22.toNat : Int) ∧ z23 = (z23.toNat : Int) ∧ z24 = hds (dhds z24), ScoreScales_r (⟨z19.toNat, z20.toNat, z21.toNat, z22.toNat, z23.toNat, (dhds z24), z25⟩ : Ch) z26 z27, [])
  | _ => none
attribute [go_sem] sp_ScoreScales
theorem sp_ScoreScales_ok : ∀ rs p r fr, sp_ScoreScales rs = some (p, r, fr) → p → FnOk Try.prog 6 rs r fr := by
  intro rs p r fr h hp
  unfold sp_ScoreScales at h
  split at h <;> cases h
  obtain ⟨hc0, hc1, hc2, hc3, hc4, hc5⟩ := hp
  rename_i z19 z20 z21 z22 z23 z24 z25 z26 z27
  obtain ⟨z19, rfl⟩ : ∃ m : Nat, z19 = m := ⟨_, hc0⟩
  obtain ⟨z20, rfl⟩ : ∃ m : Nat, z20 = m := ⟨_, hc1⟩
  obtain ⟨z21, rfl⟩ : ∃ m : Nat, z21 = m := ⟨_, hc2⟩
  obtain ⟨z22, rfl⟩ : ∃ m : Nat, z22 = m := ⟨_, hc3⟩
  obtain ⟨z23, rfl⟩ : ∃ m : Nat, z23 = m := ⟨_, hc4⟩
  obtain ⟨z24, rfl⟩ : ∃ m, z24 = hds m := ⟨_, hc5⟩
  simp only [Int.toNat_natCast, dhds_hds]
  exact ScoreScales_ok ⟨z19, z20, z21, z22, z23, z24, z25⟩ z26 z27
end Dm
/-! What a row's reading of an argument says, as pure data. -/
namespace Dm
open Go
def TypFs (T : TypeId → List C → Prop) : List Field → List C → Prop
  | [], xs => xs = []
  | f :: r, xs => ∃ ys zs, xs = ys ++ zs ∧ T f.type ys ∧ TypFs T r zs
def TypR (T : List C → Prop) : Nat → List C → Prop
  | 0, xs => xs = []
  | n + 1, xs => ∃ ys zs, xs = ys ++ zs ∧ T ys ∧ TypR T n zs
/-- Cells of a type. -/
def Typ (P : Program) : Nat → TypeId → List C → Prop
  | 0, _, _ => False
  | k + 1, t, xs => match P.underlying t with
    | some .bool => ∃ b, xs = [.bool b]
    | some (.int kd) => ∃ n, xs = [.int kd n] ∧ (Lit.int kd n).wf = true
    | some (.float kd) => ∃ n, xs = [.flt kd (flo kd n)] ∧ (Lit.float kd n).wf = true
    | some .string => ∃ s, xs = [.str s] ∧ s.size ≤ maxLen
    | some (.slice e) => ∃ els, xs = [.sl els] ∧ els.length ≤ maxLen ∧ ∀ x ∈ els, Typ P k e x
    | some (.struct fs) => TypFs (Typ P k) fs.toList xs
    | some (.array n e) => TypR (Typ P k e) n xs
    | _ => False
def plainFs (P : Program) (ok : TypeId → Bool) : Nat → List Field → Option Nat
  | o, [] => some o
  | o, f :: r => if f.offset = o ∧ ok f.type = true then plainFs P ok (o + P.cellsOf f.type) r else none
/-- Types of pure data. -/
def plain (P : Program) : Nat → TypeId → Bool
  | 0, _ => false
  | k + 1, t => match P.underlying t with
    | some .bool => true
    | some (.int _) => true
    | some (.float _) => true
    | some .string => true
    | some (.slice e) => plain P k e && P.cellsOf e != 0
    | some (.struct fs) => plainFs P (plain P k) 0 fs.toList == some (P.cellsOf t)
    | some (.array n e) => plain P k e && n * P.cellsOf e == P.cellsOf t
    | _ => false

section
variable {H : Type} {enc : TypeId × Value → H} {P : Program} {w : World} {spare : Nat → Bool} {held : Bool}

def below (w : World) (b : Nat) : Prop := Cel w b
/-- Cells read so. -/
def Reads (w : World) (cs : List Value) (xs : List C) : Prop := xs.length = cs.length ∧ ∀ (i : Nat) (v : Value) (y : C), cs[i]? = some v → xs[i]? = some y → CRel (below w) w v y

theorem Reads.one {v : Value} {y : C} (h : CRel (below w) w v y) : Reads w [v] [y] := ⟨rfl, fun i u z hu hz => by
  cases i with
  | zero => simp at hu hz; subst hu; subst hz; exact h
  | succ i => simp at hu⟩
theorem Reads.app {cs ds : List Value} {xs ys : List C} (h : Reads w cs xs) (h' : Reads w ds ys) : Reads w (cs ++ ds) (xs ++ ys) := by
  refine ⟨by simp [h.1, h'.1], fun i v y hv hy => ?_⟩
  rw [List.getElem?_append] at hv hy
  rw [h.1] at hy
  split at hv
  · rename_i hlt; rw [if_pos hlt] at hy; exact h.2 i v y hv hy
  · rename_i hlt; rw [if_neg hlt] at hy; exact h'.2 _ v y hv hy

theorem mapM_cons_some {α β : Type} {f : α → Option β} {a : α} {l : List α} {r : List β} (h : (a :: l).mapM f = some r) : ∃ b bs, f a = some b ∧ l.mapM f = some bs ∧ r = b :: bs := by
  rw [List.mapM_cons] at h
  cases hf : f a with
  | none => simp [hf] at h
  | some b =>
    cases hl : l.mapM f with
    | none => simp [hf, hl] at h
    | some bs => simp [hf, hl] at h; exact ⟨b, bs, rfl, rfl, h.symm⟩

theorem plainFs_le {ok : TypeId → Bool} : ∀ {fs : List Field} {o e : Nat}, plainFs P ok o fs = some e → o ≤ e
  | [], o, e, h => by simp only [plainFs, Option.some.injEq] at h; omega
  | f :: r, o, e, h => by
    simp only [plainFs] at h
    split at h
    · have := plainFs_le h; omega
    · cases h

theorem fields_conv {k fuel : Nat} {cs : List Value} (IH : ∀ (t : TypeId) (cs : List Value) (x : DataW H × List MemPlace), DataW.trod enc P w 0 spare held fuel t cs = some x → plain P k t = true → ∃ xs, Typ P k t xs ∧ Reads w cs xs) :
    ∀ (fs : List Field) (o : Nat) (ys : List (DataW H × List MemPlace)), plainFs P (plain P k) o fs = some cs.length → fs.mapM (fun f => DataW.trod enc P w 0 spare held fuel f.type ((cs.drop f.offset).take (P.cellsOf f.type))) = some ys →
      ∃ xs, TypFs (Typ P k) fs xs ∧ Reads w (cs.drop o) xs
  | [], o, ys, h, _ => by
    simp only [plainFs, Option.some.injEq] at h
    exact ⟨[], rfl, by simp [Reads, h]⟩
  | f :: r, o, ys, h, hm => by
    simp only [plainFs] at h
    split at h
    · rename_i hc
      obtain ⟨hc1, hc2⟩ := hc
      have hle := plainFs_le h
      obtain ⟨b, bs, h1, h2, _⟩ := mapM_cons_some hm
      obtain ⟨xs, h3, h4⟩ := IH _ _ _ h1 hc2
      obtain ⟨zs, h5, h6⟩ := fields_conv IH r _ bs h h2
      refine ⟨xs ++ zs, ⟨xs, zs, rfl, h3, h5⟩, ?_⟩
      have e : cs.drop o = (cs.drop f.offset).take (P.cellsOf f.type) ++ cs.drop (o + P.cellsOf f.type) := by
        rw [hc1, ← List.drop_drop, List.take_append_drop]
      rw [e]
      exact h4.app h6
    · cases h

theorem array_conv {k fuel n sz : Nat} {e : TypeId} {cs : List Value} (IH : ∀ (t : TypeId) (cs : List Value) (x : DataW H × List MemPlace), DataW.trod enc P w 0 spare held fuel t cs = some x → plain P k t = true → ∃ xs, Typ P k t xs ∧ Reads w cs xs) (he : plain P k e = true) :
    ∀ (m j : Nat), j + m = n → n * sz = cs.length → (∀ i, i < n → ∃ x, DataW.trod enc P w 0 spare held fuel e ((cs.drop (i * sz)).take sz) = some x) → ∃ xs, TypR (Typ P k e) m xs ∧ Reads w (cs.drop (j * sz)) xs
  | 0, j, hj, hn, _ => ⟨[], rfl, by
      have : j = n := by omega
      subst this
      simp [Reads, hn]⟩
  | m + 1, j, hj, hn, hall => by
    obtain ⟨x, hx⟩ := hall j (by omega)
    obtain ⟨xs, h3, h4⟩ := IH _ _ _ hx he
    obtain ⟨zs, h5, h6⟩ := array_conv IH he m (j + 1) (by omega) hn hall
    refine ⟨xs ++ zs, ⟨xs, zs, rfl, h3, h5⟩, ?_⟩
    have e : cs.drop (j * sz) = (cs.drop (j * sz)).take sz ++ cs.drop ((j + 1) * sz) := by
      rw [Nat.add_mul, Nat.one_mul, ← List.drop_drop, List.take_append_drop]
    rw [e]
    exact h4.app h6

theorem mapM_range_get {β : Type} {f : Nat → Option β} {n : Nat} {r : List β} (h : (List.range n).mapM f = some r) (i : Nat) (hi : i < n) : ∃ y, f i = some y ∧ r[i]? = some y := by
  have key : ∀ (l : List Nat) (r : List β), l.mapM f = some r → ∀ (i x : Nat), l[i]? = some x → ∃ y, f x = some y ∧ r[i]? = some y := by
    intro l
    induction l with
    | nil => intro r _ i x hx; simp at hx
    | cons a l ih =>
      intro r hr i x hx
      obtain ⟨b, bs, h1, h2, rfl⟩ := mapM_cons_some hr
      cases i with
      | zero => simp at hx; subst hx; exact ⟨b, h1, rfl⟩
      | succ i => exact ih bs h2 i x (by simpa using hx)
  exact key _ _ h i i (by simp [hi])

theorem mapM_len {α β : Type} {f : α → Option β} : ∀ {l : List α} {r : List β}, l.mapM f = some r → r.length = l.length
  | [], r, h => by simp at h; simp [h]
  | a :: l, r, h => by
    obtain ⟨b, bs, _, h2, rfl⟩ := mapM_cons_some h
    simp [mapM_len h2]

theorem trod_conv : ∀ (fuel k : Nat) (t : TypeId) (cs : List Value) (x : DataW H × List MemPlace), DataW.trod enc P w 0 spare held fuel t cs = some x → plain P k t = true → ∃ xs, Typ P k t xs ∧ Reads w cs xs
  | 0, k, t, cs, x, h, _ => by simp [DataW.trod] at h
  | fuel + 1, 0, t, cs, x, h, hp => by cases hp
  | fuel + 1, k + 1, t, cs, x, h, hp => by
    have IH := fun t cs x => trod_conv fuel k t cs x
    simp only [plain] at hp
    simp only [Typ]
    unfold DataW.trod at h
    split at h
    · rename_i b hu; rw [hu]; exact ⟨[.bool b], ⟨b, rfl⟩, .one (.bool b)⟩
    · rename_i kd k' n hu
      rw [hu]
      split at h
      · rename_i hc; obtain ⟨rfl, hc⟩ := hc
        exact ⟨[.int _ n], ⟨n, rfl, hc⟩, .one (.int _ n)⟩
      · cases h
    · rename_i kd k' n hu
      rw [hu]
      split at h
      · rename_i hc; obtain ⟨rfl, hc⟩ := hc
        exact ⟨[.flt _ (flo _ n)], ⟨n, rfl, hc⟩, .one (.flt _ n)⟩
      · cases h
    · rename_i s hu
      rw [hu]
      split at h
      · rename_i hc
        exact ⟨[.str s], ⟨s, rfl, hc⟩, .one (.str s)⟩
      · cases h
    · rename_i hu; rw [hu] at hp; cases hp
    · rename_i hu; rw [hu] at hp; cases hp
    · rename_i e hu
      rw [hu]
      exact ⟨[.sl []], ⟨[], rfl, by simp, by simp⟩, .one (.slnil _ _ (by simp [maxLen]))⟩
    · rename_i e a len cap hu
      rw [hu] at hp ⊢
      simp only [Bool.and_eq_true, bne_iff_ne, ne_eq] at hp
      obtain ⟨hp1, hp2⟩ := hp
      split at h
      · rename_i hc
        obtain ⟨_, hlc, hcm⟩ := hc
        cases hm : (List.range len).mapM (fun i => (w.cells? 0 (a.add (i * P.cellsOf e)) (P.cellsOf e)).bind (DataW.trod enc P w 0 spare held fuel e)) with
        | none => dsimp only at h; rw [hm] at h; cases h
        | some elems =>
          have hel : ∀ i, i < len → ∃ ci xi, w.cells? 0 (a.add (i * P.cellsOf e)) (P.cellsOf e) = some ci ∧ Typ P k e xi ∧ Reads w ci xi := by
            intro i hi
            obtain ⟨y, h1, _⟩ := mapM_range_get hm i hi
            cases hcs : w.cells? 0 (a.add (i * P.cellsOf e)) (P.cellsOf e) with
            | none => rw [hcs] at h1; cases h1
            | some ci =>
              rw [hcs] at h1
              obtain ⟨xi, h2, h3⟩ := IH e ci y h1 hp1
              exact ⟨ci, xi, rfl, h2, h3⟩
          have hch : ∃ (cf : Nat → List Value) (xf : Nat → List C), ∀ i, i < len → w.cells? 0 (a.add (i * P.cellsOf e)) (P.cellsOf e) = some (cf i) ∧ Typ P k e (xf i) ∧ Reads w (cf i) (xf i) := by
            refine ⟨fun i => if h : i < len then (hel i h).choose else [], fun i => if h : i < len then (hel i h).choose_spec.choose else [], fun i hi => ?_⟩
            simp only [dif_pos hi]
            exact (hel i hi).choose_spec.choose_spec
          obtain ⟨cf, xf, hf⟩ := hch
          have hlen : ∀ i, i < len → (cf i).length = P.cellsOf e ∧ ∀ j, j < P.cellsOf e → w.cell? ((a.add (i * P.cellsOf e)).add j) = (cf i)[j]? := by
            intro i hi
            have h1 := (hf i hi).1
            unfold World.cells? at h1
            rw [if_pos (Nat.zero_le _)] at h1
            refine ⟨by have := mapM_len h1; simpa using this, fun j hj => ?_⟩
            obtain ⟨y, h2, h3⟩ := mapM_range_get h1 j hj
            rw [h2, h3]
          refine ⟨[.sl ((List.range len).map xf)], ⟨_, rfl, by simp; omega, fun x hx => ?_⟩, .one ?_⟩
          · obtain ⟨i, hi, rfl⟩ := List.mem_map.1 hx
            exact (hf i (by simpa using hi)).2.1
          · by_cases h0 : len = 0
            · subst h0; exact .slnil _ _ hcm
            · have h00 := (hlen 0 (by omega))
              have hpos : 0 < P.cellsOf e := by omega
              have hc0 := h00.2 0 hpos
              have hs : ∃ v, w.cell? a = some v := by
                have : (cf 0)[0]? = some ((cf 0)[0]'(by omega)) := List.getElem?_eq_getElem _
                rw [this] at hc0
                simp only [Nat.zero_mul, Addr.add, Nat.add_zero] at hc0
                exact ⟨_, hc0⟩
              obtain ⟨v0, hv0⟩ := hs
              have hspot : a.spot = none ∧ Cel w a.block := by
                unfold World.cell? at hv0
                split at hv0
                · rename_i c _ _ hb
                  split at hv0
                  · cases hv0
                  · rename_i hsp
                    exact ⟨by simpa using hsp, .of hb⟩
                · cases hv0
              obtain ⟨ab, ao, asp⟩ := a
              simp only at hspot
              obtain ⟨rfl, hb⟩ := hspot
              have he : len = ((List.range len).map xf).length := by simp
              have hget : ∀ (i : Nat) (x : List C), ((List.range len).map xf)[i]? = some x → i < len ∧ x = xf i := fun i x hx => by
                simp only [List.getElem?_map, Option.map_eq_some_iff] at hx
                obtain ⟨j, hj, rfl⟩ := hx
                have := List.getElem?_eq_some_iff.1 hj
                obtain ⟨h1, h2⟩ := this
                simp at h1 h2
                subst h2
                exact ⟨h1, rfl⟩
              conv => arg 3; rw [he]
              refine .sl ab ao cap (P.cellsOf e) _ (fun i j => (cf i).getD j .nilFunc) hb (by simpa using hlc) hcm (fun x hx => ?_) (fun i j x y hx hy => ?_) (fun i j x y hx hy => ?_)
              · obtain ⟨i, hi, rfl⟩ := List.mem_map.1 hx
                have hi : i < len := by simpa using hi
                rw [(hf i hi).2.2.1, (hlen i hi).1]
              · obtain ⟨hi, rfl⟩ := hget i x hx
                have hj : j < (cf i).length := by
                  rw [← (hf i hi).2.2.1]
                  exact (List.getElem?_eq_some_iff.1 hy).1
                have h1 := (hlen i hi).2 j (by rw [← (hlen i hi).1]; exact hj)
                rw [addr_add, addr_add] at h1
                rw [h1, List.getD_eq_getElem?_getD, List.getElem?_eq_getElem hj]
                rfl
              · obtain ⟨hi, rfl⟩ := hget i x hx
                have hj : j < (cf i).length := by
                  rw [← (hf i hi).2.2.1]
                  exact (List.getElem?_eq_some_iff.1 hy).1
                refine (hf i hi).2.2.2 j _ y ?_ hy
                rw [List.getD_eq_getElem?_getD, List.getElem?_eq_getElem hj]
                rfl
      · cases h
    · rename_i cs0 _ _ fs hu
      rw [hu] at hp ⊢
      split at h
      · rename_i hc
        simp only [beq_iff_eq] at hp
        rw [← hc] at hp
        cases hm : fs.toList.mapM (fun f => DataW.trod enc P w 0 spare held fuel f.type ((cs0.drop f.offset).take (P.cellsOf f.type))) with
        | none => rw [hm] at h; simp at h
        | some ys =>
          obtain ⟨xs, h1, h2⟩ := fields_conv IH fs.toList 0 ys hp hm
          exact ⟨xs, h1, by simpa using h2⟩
      · cases h
    · rename_i cs0 _ _ n e hu
      rw [hu] at hp ⊢
      simp only [Bool.and_eq_true, beq_iff_eq] at hp
      split at h
      · rename_i hc
        cases hm : (List.range n).mapM (fun i => DataW.trod enc P w 0 spare held fuel e ((cs0.drop (i * P.cellsOf e)).take (P.cellsOf e))) with
        | none => rw [hm] at h; simp at h
        | some ys =>
          obtain ⟨xs, h1, h2⟩ := array_conv (n := n) (sz := P.cellsOf e) (cs := cs0) IH hp.1 n 0 (by omega) (by rw [hp.2, hc]) (fun i hi => by
            obtain ⟨y, h3, _⟩ := mapM_range_get hm i hi
            exact ⟨y, h3⟩)
          exact ⟨xs, h1, by simpa using h2⟩
      · cases h
    all_goals (rename_i hu; first | (rw [hu] at hp; cases hp; done) | (cases h; done) | skip)

def one1 : List C → D
  | [x] => .c x
  | _ => .undef
/-- An argument, as the abstract machine takes it. -/
def argD (P : Program) (t : TypeId) (xs : List C) : D := match P.underlying t with
  | some (.struct _) => .agg (xs.map .c)
  | some (.array _ _) => .agg (xs.map .c)
  | _ => one1 xs
theorem Reads.agg {cs : Array Value} {xs : List C} (h : Reads w cs.toList xs) : VRel (G0 (below w)) w (.agg cs) (.agg (xs.map .c)) := by
  refine .agg cs _ (by simpa using h.1.symm) fun i v d hv hd => ?_
  simp only [List.getElem?_map, Option.map_eq_some_iff] at hd
  obtain ⟨y, hy, rfl⟩ := hd
  exact .c _ _ (h.2 i v y (by simpa using hv) hy)
theorem arg_conv {r : Reach} {base k : Nat} {t : TypeId} {v : Value} {d : DataW H} {ps : List MemPlace} (hv : Value.okWide P w r base t v) (h : DataW.Trod enc P w 0 spare held t v d ps) (hp : plain P k t = true) :
    ∃ xs, Typ P k t xs ∧ VRel (G0 (below w)) w v (argD P t xs) := by
  obtain ⟨fuel, h⟩ := h
  obtain ⟨xs, h1, h2⟩ := trod_conv fuel k t _ _ h hp
  refine ⟨xs, h1, ?_⟩
  have one : ∀ (hc : v.cells = #[v]), VRel (G0 (below w)) w v (one1 xs) := by
    intro hc
    rw [hc] at h2
    match xs, h2 with
    | [], _ => exact .undef _
    | [x], h2 => exact .c _ _ (h2.2 0 v x rfl rfl)
    | _ :: _ :: _, _ => exact .undef _
  unfold argD
  unfold Value.okWide at hv
  split
  · rename_i fs hu
    rw [hu] at hv
    obtain ⟨cs, rfl, _⟩ := hv
    exact h2.agg
  · rename_i n e hu
    rw [hu] at hv
    obtain ⟨cs, rfl, _⟩ := hv
    exact h2.agg
  · rename_i hn1 hn2
    refine one ?_
    cases v <;> try rfl
    rename_i cs
    exfalso
    cases k with
    | zero => cases hp
    | succ k =>
      simp only [plain] at hp
      split at hv
      · rename_i fs hu; exact hn1 fs hu
      · rename_i n e hu; exact hn2 n e hu
      · unfold Cell.okWide at hv
        split at hp <;> rename_i hu <;> first | (rw [hu] at hv; simp [Cell.ok, hu] at hv; done) | (exact absurd hu (hn1 _)) | (exact absurd hu (hn2 _ _)) | cases hp
theorem below_of (w w' : World) (h : Ext w w') : RowKit.Below w.heap.size w w' := ⟨h.2.2.os, h.2.2.tape, h.2.2.out, h.1, h.2.1⟩
end
end Dm
namespace Dm
open Go Go.Proofs
set_option maxRecDepth 20000
theorem wf_u64 {n : Int} (h : (Lit.int .u64 n).wf = true) : 0 ≤ n ∧ n ≤ 18446744073709551615 := by
  simp [Lit.wf, IntKind.min, IntKind.max, IntKind.bits, IntKind.signed] at h
  omega
theorem typ24 {k : Nat} {xs : List C} (h : Typ Try.prog (k + 1) 24 xs) : ∃ n : Nat, xs = [.int .u64 (n : Int)] ∧ n ≤ 18446744073709551615 := by
  simp only [Typ, Try.underlying24] at h
  obtain ⟨n, rfl, h1⟩ := h
  have := wf_u64 h1
  exact ⟨n.toNat, by rw [Int.toNat_of_nonneg (by omega)], by omega⟩
theorem typ36 {k : Nat} {xs : List C} (h : Typ Try.prog (k + 1) 36 xs) : ∃ n, xs = [.flt .f64 n] := by
  simp only [Typ, Try.underlying36] at h
  obtain ⟨n, rfl, _⟩ := h
  exact ⟨_, rfl⟩
def Hd.rng (e : Hd) : Prop := e.id ≤ 18446744073709551615 ∧ e.n ≤ 18446744073709551615
theorem typ90 {k : Nat} {xs : List C} (h : Typ Try.prog (k + 2) 90 xs) : (Hd.dec xs).enc = xs ∧ (Hd.dec xs).rng := by
  simp only [Typ, Try.underlying90, TypFs, Try.underlying24] at h
  obtain ⟨_, _, rfl, ⟨s0, rfl, h0⟩, _, _, rfl, ⟨s1, rfl, h1⟩, rfl⟩ := h
  have q0 := wf_u64 h0
  have q1 := wf_u64 h1
  simp only [List.cons_append, List.nil_append, List.append_nil]
  refine ⟨by simp [Hd.dec, Hd.enc, Int.toNat_of_nonneg q0.1, Int.toNat_of_nonneg q1.1], ?_⟩
  simp only [Hd.dec, Hd.rng]
  exact ⟨by omega, by omega⟩
theorem hds_dhds {els : List (List C)} (h : ∀ x ∈ els, (Hd.dec x).enc = x) : hds (dhds els) = els := by
  simp only [hds, dhds, List.map_map]
  refine (List.map_congr_left fun x hx => ?_).trans (List.map_id _)
  exact h x hx
theorem typ31 {k : Nat} {xs : List C} (h : Typ Try.prog (k + 3) 31 xs) : ∃ l, xs = [.sl (hds l)] ∧ ∀ e ∈ l, e.rng := by
  simp only [Typ, Try.underlying31] at h
  obtain ⟨els, rfl, _, h2⟩ := h
  have h3 : ∀ x ∈ els, (Hd.dec x).enc = x ∧ (Hd.dec x).rng := fun x hx => typ90 (k := k) (h2 x hx)
  refine ⟨dhds els, by rw [hds_dhds fun x hx => (h3 x hx).1], fun e he => ?_⟩
  obtain ⟨x, hx, rfl⟩ := List.mem_map.1 he
  exact (h3 x hx).2
def Ch.rng (e : Ch) : Prop := e.id ≤ 18446744073709551615 ∧ e.loc ≤ 18446744073709551615 ∧ e.rem ≤ 18446744073709551615 ∧ e.res ≤ 18446744073709551615 ∧ e.most ≤ 18446744073709551615 ∧ (∀ q ∈ e.holds, q.rng) ∧ True
theorem typ33 {k : Nat} {xs : List C} (h : Typ Try.prog (k + 4) 33 xs) : (Ch.dec xs).enc = xs ∧ (Ch.dec xs).rng := by
  simp only [Typ, Try.underlying33, TypFs, Try.underlying4, Try.underlying24] at h
  obtain ⟨_, _, rfl, ⟨s0, rfl, h0⟩, _, _, rfl, ⟨s1, rfl, h1⟩, _, _, rfl, ⟨s2, rfl, h2⟩, _, _, rfl, ⟨s3, rfl, h3⟩, _, _, rfl, ⟨s4, rfl, h4⟩, _, _, rfl, hs5, _, _, rfl, ⟨s6, rfl⟩, rfl⟩ := h
  have q0 := wf_u64 h0
  have q1 := wf_u64 h1
  have q2 := wf_u64 h2
  have q3 := wf_u64 h3
  have q4 := wf_u64 h4
  obtain ⟨s5, rfl, q5⟩ := typ31 (k := k + 0) hs5
  simp only [List.cons_append, List.nil_append, List.append_nil]
  refine ⟨by simp [Ch.dec, Ch.enc, Int.toNat_of_nonneg q0.1, Int.toNat_of_nonneg q1.1, Int.toNat_of_nonneg q2.1, Int.toNat_of_nonneg q3.1, Int.toNat_of_nonneg q4.1, dhds_hds], ?_⟩
  simp only [Ch.dec, Ch.rng, dhds_hds]
  exact ⟨by omega, by omega, by omega, by omega, by omega, q5, trivial⟩
theorem chs_dchs {els : List (List C)} (h : ∀ x ∈ els, (Ch.dec x).enc = x) : chs (dchs els) = els := by
  simp only [chs, dchs, List.map_map]
  refine (List.map_congr_left fun x hx => ?_).trans (List.map_id _)
  exact h x hx
theorem typ22 {k : Nat} {xs : List C} (h : Typ Try.prog (k + 5) 22 xs) : ∃ l, xs = [.sl (chs l)] ∧ ∀ e ∈ l, e.rng := by
  simp only [Typ, Try.underlying22] at h
  obtain ⟨els, rfl, _, h2⟩ := h
  have h3 : ∀ x ∈ els, (Ch.dec x).enc = x ∧ (Ch.dec x).rng := fun x hx => typ33 (k := k) (h2 x hx)
  refine ⟨dchs els, by rw [chs_dchs fun x hx => (h3 x hx).1], fun e he => ?_⟩
  obtain ⟨x, hx, rfl⟩ := List.mem_map.1 he
  exact (h3 x hx).2
theorem typ33x {k : Nat} {xs : List C} (h : Typ Try.prog (k + 4) 33 xs) : ∃ c : Ch, xs = c.enc ∧ c.rng := ⟨_, (typ33 (k := k) h).1.symm, (typ33 (k := k) h).2⟩
def Wt.rng (e : Wt) : Prop := e.id ≤ 18446744073709551615 ∧ True
theorem typ38 {k : Nat} {xs : List C} (h : Typ Try.prog (k + 2) 38 xs) : (Wt.dec xs).enc = xs ∧ (Wt.dec xs).rng := by
  simp only [Typ, Try.underlying38, TypFs, Try.underlying24, Try.underlying36] at h
  obtain ⟨_, _, rfl, ⟨s0, rfl, h0⟩, _, _, rfl, ⟨s1, rfl, h1⟩, rfl⟩ := h
  have q0 := wf_u64 h0
  simp only [List.cons_append, List.nil_append, List.append_nil]
  refine ⟨by simp [Wt.dec, Wt.enc, Int.toNat_of_nonneg q0.1], ?_⟩
  simp only [Wt.dec, Wt.rng]
  exact ⟨by omega, trivial⟩
theorem wts_dwts {els : List (List C)} (h : ∀ x ∈ els, (Wt.dec x).enc = x) : wts (dwts els) = els := by
  simp only [wts, dwts, List.map_map]
  refine (List.map_congr_left fun x hx => ?_).trans (List.map_id _)
  exact h x hx
theorem typ23 {k : Nat} {xs : List C} (h : Typ Try.prog (k + 3) 23 xs) : ∃ l, xs = [.sl (wts l)] ∧ ∀ e ∈ l, e.rng := by
  simp only [Typ, Try.underlying23] at h
  obtain ⟨els, rfl, _, h2⟩ := h
  have h3 : ∀ x ∈ els, (Wt.dec x).enc = x ∧ (Wt.dec x).rng := fun x hx => typ38 (k := k) (h2 x hx)
  refine ⟨dwts els, by rw [wts_dwts fun x hx => (h3 x hx).1], fun e he => ?_⟩
  obtain ⟨x, hx, rfl⟩ := List.mem_map.1 he
  exact (h3 x hx).2
end Dm
